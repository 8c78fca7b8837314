/-
  Part 2 of the tools and contracts from which the statement is proved.
-/
import Derived.Test.YtijmjfcnjfnpgaaGreatDoorPartr1
import Derived.RangeFuncRecord
import Derived.RangeFuncLeaves
import Derived.Laws.Strings
import Derived.Lib.Bytealg
import Derived.ProofKit
import Derived.ChangeSlices
import Derived.ChangeStays
import Derived.ChangeArms
import Derived.OpenShut
set_option linter.all false
open Go.IntKind
open Nat renaming le_refl→Ja,mul_le_mul_right→Jj,lt_or_ge→Jo,add_mul→Js,le_trans→Jt,le_of_ble_eq_true→Ui,zero_le→Ga,eq_zero_or_pos→Tc,blt→T5
open Go.Result renaming andThen_ok→Jb
open List renaming getElem?_eq_getElem→Jc,take_of_length_le→Jd,length_append→Je,mem_append_left→Jq,mem_cons→Ju,take_append_of_le_length→Jx,all_eq_true→Jz,getElem?_eq_none→J5,mem_append→Ub,getElem?_append_left→Uh,mem_append_right→Un,append_assoc→Uq,mem_cons_of_mem→Us,mem_cons_self→Ut,mem_range→Uv,getElem?_map→Uw,getElem?_append_right→Uz,mem_iff_getElem→Gh,getElem?_cons_zero→Gw,cons_append→G9,mem_filter→Ta,pairwise_cons→Px
open Go.Sem renaming run_bind→Jg,run_pure→Ji
open Option.some renaming injEq→Jm,inj→J9
open Bool renaming and_eq_true→Jv,not_eq_true'→Gc,or_eq_true→Pq,and_eq_true_iff→Lh
open Array renaming getD_eq_getD_getElem?→Ug,getElem?_eq_getElem→Gd,getElem?_eq_none→Tg,replicate→Lb
open Option renaming map_some→U0
open Go.IntKind renaming signed→G0,bits→G6,wrap→Pe
open Go.Region renaming binds→Tm,ready→Lg
open Go.World renaming putObj_heap_other→Tn
section
namespace Den
open Go
variable {ro : Option Nat} {nn : Nat}
section
variable {C : Cfg} {B : Base}
theorem zqq{ops:Array Oper}{o:Oper}{e:Env}{h:Hp}{a:Act}{w:World}(hR:Rel C B e h a w){b:Bool}(hw:z4c C ops o e=some b) :
 Region.wanted o (yielded ops a.tmps)=b:=by
 unfold z4c at hw;cases hg:o.guard with
 | none=>rw[hg]at hw;cases hw;exact zio hg
 | some g=>
   obtain⟨j,want⟩:=g;rw[hg]at hw;simp only at hw;cases hd:(ops[j]?).bind (·.dst)with
   | none=>rw[hd]at hw;cases hw
   | some d=>
     rw[hd]at hw;simp only at hw;split at hw
     . rename_i t hl hv;cases hw;exact zin hg hd (hR.vals d _ hv)
     . rename_i vs hl hv;cases hw;exact zgi hg hd (hR.vals d _ hv)
     . cases hw
theorem zf0(hC:CfgOK C){ops:Array Oper}{i:Nat}{o:Oper}{e:Env}{h:Hp}{a:Act}{w:World}{K:Up->Hp->Prop}{Q:Exit->Act->World->Prop}
 (hi:ops[i]?=some o) (hR:Rel C B e h a w) (hk:Qi C ops o e h K):wpOpIn (Yo ro) nn C.P ops Q i (Qr C B o e K) a w:=by
 unfold wpOpIn;rw[hi];simp only;unfold Qi at hk;cases hw:z4c C ops o e with
 | none=>rw[hw]at hk;exact hk.elim
 | some b=>
   rw[hw]at hk;rw[zqq hR hw];cases b with
   | true=>simp only[if_true];exact z8m hC.tab hR hk
   | false=>simp only[Bool.false_eq_true,if_false];exact⟨λ_ _=>trivial,z8y hR hk⟩
theorem zam{ops:Array Oper}{listed:Array Bool}{x:Nat}
 (hdc:∀(i:Nat) (o:Oper),ops[i]?=some o->listed.getD i false=true->∀e∈o.after.toList,Tm .any e=true->listed.getD e.on false=true) :
 ∀{d i:Nat} {o:Oper},ops[i]?=some o->(∀e∈o.after.toList,Tm .any e=true->listed.getD e.on false=true)->z21 ops d x i=true->listed.getD x false=true
 | 0,i,o,_,_,hx=>by simp[z21]at hx
 | d+1,i,o,hi,ho,hx=>by
   unfold z21 at hx;rw[hi]at hx;simp only[Pq,List.any_eq_true,Jv]at hx;rcases hx with ⟨e,he,hb,hxe⟩ | ⟨e,he,hb,_,hr⟩
   . rw[<-Nat.eq_of_beq_eq_true hxe];exact ho e he hb
   . cases he':ops[e.on]? with
     | none=>
       cases d with
       | zero=>simp[z21]at hr
       | succ d=>unfold z21 at hr;rw[he']at hr;cases hr
     | some oe=>exact zam hdc he' (λe2 he2 hb2=>hdc e.on oe he' (ho e he hb) e2 he2 hb2) hr
theorem zl1{ops:Array Oper}:∀{p r:List Nat} {y:Nat},z5f C ops (p++y :: r)=true->(∀x∈p,z21 ops ops.size x y=true\/z4x C ops x y=true)/\z5f C ops (p++r)=true
 | [],r,y,hp=>by
   simp only[List.nil_append,z5f,Jv]at hp;exact⟨(λx hx=>by cases hx),hp.2⟩
 | z :: p,r,y,hp=>by
   simp only[G9,z5f,Jv,Jz]at hp;obtain⟨h1,h2⟩:=hp;obtain⟨h3,h4⟩:=zl1 h2;refine⟨λx hx=>?_,?_⟩
   . rcases Ju.1 hx with rfl | hx
     . have:=h1 y (by simp);rw[Pq]at this;exact this
     . exact h3 x hx
   . simp only[G9,z5f,Jv,Jz];exact⟨λq hq=>h1 q (by rcases Ub.1 hq with h | h<;>simp[h]),h4⟩
theorem zk1(hC:CfgOK C){ops:Array Oper}{K:Env->Hp->Prop}{ms:List Nat}{e0:Env}{Q:Exit->Act->World->Prop}
 (hms:∀(i:Nat) (o:Oper),ops[i]?=some o->∀d∈Yt C o,d∈ms) (hQ:∀x a w,zjd C B ms e0 K x a w->Q x a w)
 (hback:∀(i:Nat) (o:Oper),ops[i]?=some o->∀e∈o.after.toList,Tm .any e=true->e.on<i) :
 ∀(fuel:Nat) (c:List Nat) (listed:Array Bool) (e:Env) (h:Hp) (a:Act) (w:World),c.length<=fuel->listed.size=ops.size->c.Nodup ->
  (∀i,i<ops.size->(listed.getD i false=false↔i∈c))->(∀i∈c,i<ops.size) ->
  (∀(i:Nat) (o:Oper),ops[i]?=some o->listed.getD i false=true->∀e∈o.after.toList,Tm .any e=true->listed.getD e.on false=true) ->
  z5f C ops c=true->(∀t,t∉ms->Wx (e0 t) (e t))->W4 C ops K c e h->Rel C B e h a w->wpAnyIn (Yo ro) nn C.P .any ops Q fuel listed a w:=by
 have least:∀(c:List Nat) (listed:Array Bool),listed.size=ops.size->(∀i,i<ops.size->(listed.getD i false=false↔i∈c))->(∀i∈c,i<ops.size)->c≠[] ->
  Lg .any ops listed≠[]:=by
  intro c listed hsz hiff hlt hne;have:∀n,∀i∈c,i<=n->∃j∈c,∀k∈c,j<=k:=by
   intro n;induction n with
   | zero=>intro i hi hn;exact⟨i,hi,λk _=>by omega⟩
   | succ n ih=>
     intro i hi hn;by_cases hex:∃k∈c,k<=n
     . obtain⟨k,hk,hkn⟩:=hex;exact ih k hk hkn
     . exact⟨i,hi,λk hk=>by
        by_cases hkn:k<=n
        . exact absurd ⟨k,hk,hkn⟩ hex
        . omega⟩
  obtain⟨i0,r0,hc⟩:∃i r,c=i :: r:=by cases c with | nil=>exact absurd rfl hne | cons i r=>exact⟨i,r,rfl⟩
  obtain⟨j,hj,hmin⟩:=this i0 i0 (by rw[hc];simp) (Ja _);have hjs:=hlt j hj;have hready:j∈Lg .any ops listed:=by
   unfold Lg;rw[Ta];refine⟨Uv.2 hjs,?_⟩;have hl:=(hiff j hjs).2 hj;have h1:listed.getD j true=false:=by
    rw[Ug]at hl |-
    rw[Gd (by omega)]at hl |-
    exact hl
   rw[h1];simp only[Bool.not_false,Bool.true_and];rw[Gd hjs];simp only[U0,Option.getD_some];rw[Array.all_eq_true'];intro e he;rw[Pq];cases hbe:Tm .any e with
   | false=>left;rfl
   | true=>
   right;have hlt':=hback j _ (Gd hjs) e (by simpa using he) hbe;cases hg:listed.getD e.on false with
   | true=>rfl
   | false=>have:=hmin _ ((hiff e.on (by omega)).1 hg);omega
  intro hnil;rw[hnil]at hready;cases hready
 intro fuel;induction fuel with
 | zero=>
   intro c listed e h a w hf hsz hnd hiff hlt hdc hp hkeep hk hR;have hcn:c=[]:=List.eq_nil_of_length_eq_zero (by omega);subst hcn;refine⟨?_,hQ _ _ _ ⟨rfl,e,h,hk,hR,hkeep⟩⟩;unfold Lg;rw[List.filter_eq_nil_iff];intro i hi;have his:=Uv.1 hi;have hl:listed.getD i false=true:=by
    cases hg:listed.getD i false with
    | true=>rfl
    | false=>exact absurd ((hiff i his).1 hg) (by simp)
   have h1:listed.getD i true=true:=by
    rw[Ug]at hl |-
    rw[Gd (by omega)]at hl |-
    exact hl
   rw[h1];simp
 | succ fuel ih=>
   intro c listed e h a w hf hsz hnd hiff hlt hdc hp hkeep hk hR;refine⟨λhnil=>?_,λi hi=>?_⟩
   . by_cases hcn:c=[]
     . subst hcn;exact hQ _ _ _ ⟨rfl,e,h,hk,hR,hkeep⟩
     . exact absurd hnil (least c listed hsz hiff hlt hcn)
   . unfold Lg at hi;rw[Ta]at hi;obtain⟨hi1,hi2⟩:=hi;have his:=Uv.1 hi1;rw[Jv]at hi2;obtain⟨hi3,hi4⟩:=hi2;have hl:listed.getD i false=false:=by
      rw[Ug]at hi3 |-
      rw[Gd (by omega)]at hi3 |-
      simpa using hi3
     have hic:=(hiff i his).1 hl;obtain⟨p,r,rfl⟩:=List.append_of_mem hic;obtain⟨o,ho⟩:∃o,ops[i]?=some o:=⟨_,Gd his⟩;rw[ho]at hi4;simp only[U0,Option.getD_some]at hi4;have hedges:∀e∈o.after.toList,Tm .any e=true->listed.getD e.on false=true:=λe he hb=>by
      have:=(Array.all_eq_true'.1 hi4) e (by simpa using he);rw[hb]at this;simpa using this
     obtain⟨hpo,hpr⟩:=zl1 hp;have hswap:∀x∈p,z4x C ops x i=true:=λx hx=>by
      rcases hpo x hx with h1 | h1
      . have h2:=zam hdc ho hedges h1;have hxs:=hlt x (by simp[hx]);have h3:=(hiff x hxs).2 (by simp[hx]);rw[h2]at h3;cases h3
      . exact h1
     have hb:=zbx hC hR.sub.fin hswap hk;rw[Xe ho]at hb;refine wpOpIn_mono ?_ (zf0 hC ho hR hb);rintro a' w' ⟨u,h',hk',hR',hd'⟩;have hnd':(p++r).Nodup/\i∉p++r:=by
      rw[List.nodup_append]at hnd;obtain⟨n1,n2,n3⟩:=hnd;rw[List.nodup_cons]at n2;refine⟨List.nodup_append.2 ⟨n1,n2.2,λa ha b hb=>n3 a ha b (by simp[hb])⟩,λhm=>?_⟩;rcases Ub.1 hm with hm | hm
      . exact n3 i hm i (by simp) rfl
      . exact n2.1 hm
     have hset:∀j,j<ops.size->(listed.setIfInBounds i true).getD j false=if j=i then true else listed.getD j false:=λj hj=>by
      simp only[Ug,Array.getElem?_setIfInBounds];by_cases hji:j=i
      . subst hji;simp[show j<listed.size by omega]
      . simp[Ne.symm hji,hji]
     refine ih (p++r) (listed.setIfInBounds i true) (e.upd C.rt u) h' a' w' ?_ (by simpa using hsz) hnd'.1 ?_ ?_ ?_ hpr ?_ hk' hR'
     . simp at hf |-;omega
     . intro j hj;rw[hset j hj];by_cases hji:j=i
       . subst hji;simp only[if_true];exact⟨(λhh=>by cases hh),λhh=>absurd hh hnd'.2⟩
       . rw[if_neg hji,hiff j hj];simp only[Ub,Ju];constructor
         . rintro(h1 | h1 | h1)
           . exact .inl h1
           . exact absurd h1 hji
           . exact .inr h1
         . rintro(h1 | h1)
           . exact .inl h1
           . exact .inr (.inr h1)
     . intro j hj;exact hlt j (by rcases Ub.1 hj with h1 | h1<;>simp[h1])
     . intro j oj hoj hlj ed hed hbd;have hjs:j<ops.size:=by
        rcases Jo j ops.size with h1 | h1
        . exact h1
        . rw[Tg h1]at hoj;cases hoj
       have hes:ed.on<ops.size:=by have:=hback j oj hoj ed hed hbd;omega
       rw[hset _ hes];by_cases hei:ed.on=i
       . simp[hei]
       . rw[if_neg hei];rw[hset j hjs]at hlj;by_cases hji:j=i
         . subst hji;rw[ho]at hoj;cases hoj;exact hedges ed hed hbd
         . rw[if_neg hji]at hlj;exact hdc j oj hoj hlj ed hed hbd
     . intro t ht;exact(hkeep t ht).trans (zfs λd hd hh=>ht (by rw[hh];exact hms i o ho d (hd' d hd)))
end
abbrev Zpi(dst:Option Nat)(u:Up):Prop:=(u=.none/\dst=none)\/∃d v,dst=some d/\u=.set d (.val v)
theorem zl5{C:Cfg}{dst:Option Nat}{v:Value}:zt (Zpi dst) λh K=>Ql C dst v h K:=by
 unfold Ql;cases dst with
 | none=>exact z4l (.inl ⟨rfl,rfl⟩)
 | some d=>
   simp only;split
   . exact z4l (.inr ⟨d,v,rfl,rfl⟩)
   . exact zm
theorem zkt{C:Cfg}{o:Oper}{e:Env}(hc:Vi C o=.load):Qs (Zpi o.dst) λh K=>Zg C o e h K:=by
 unfold Vi at hc;unfold Zg;cases ho:o.op<;>simp only[ho]at hc |-<;>try (cases hc;done)
 case load t x=>
  split
  . split
    . exact(z5z λv=>zl5).load
    . split
      . exact(z5z λv=>zl5).load
      . exact zm.load
    . split
      . exact zm.load
      exact zok (Φ:=Qs _) zm.load λad=>Z9h λv=>(znq λv=>zl5).load
    . exact zm.load
  . exact zm.load
 all_goals
  exfalso;revert hc
  repeat' split
  all_goals (intro hc;first | (cases hc;done) | (cases hc;contradiction))
theorem Zjo{C:Cfg}{o:Oper}(hm:zc7 o=true):Vi C o=.other:=by
 unfold zc7 at hm;split at hm
 . rename_i ho;unfold Vi;rw[ho]
 . cases hm
section
variable {C : Cfg} {B : Base}
def zgw(C:Cfg)(ops:Array Oper)(a:Nat)(e:Env)(h:Hp):Prop:=
 match ops[a]? with
 | some o=>Zg C o e h λu _=>(match u with
   | .set d (.val v)=>(match e d with
     | .val v'=>v=v'
     | _=>False)
   | _=>False)
 | none=>False
theorem znz{ops:Array Oper}{e:Env}{h:Hp}{P:Prop}:∀{as:List Nat},zlq C ops as e h P↔(∀a∈as,zgw C ops a e h)/\P
 | []=>by simp[zlq]
 | a :: r=>by
   unfold zlq;rw[znz (as:=r)];simp only[Ju,forall_eq_or_imp];exact(and_assoc (a:=zgw C ops a e h)).symm
theorem ztd{u:Up}{e:Env}(hh:match u with
 | .set d (.val v)=>(match e d with
   | .val v'=>v=v'
   | _=>False)
 | _=>False):∃d v,u=.set d (.val v)/\e d=.val v:=by
 split at hh
 . rename_i d v;split at hh
   . rename_i v' hv;exact⟨d,v,rfl,by rw[hv,hh]⟩
   . exact hh.elim
 . exact hh.elim
theorem zi3(hC:CfgOK C){ops:Array Oper}{K:Env->Hp->Prop}{q:List Nat}:∀{p:List Nat} {e:Env} {h:Hp},W4 C ops (W4 C ops K q) p e h->W4 C ops K (p++q) e h
 | [],_,_,hk=>hk
 | i :: p,e,h,hk=>by
   cases hi:ops[i]? with
   | none=>unfold W4 at hk;rw[hi]at hk;exact hk.elim
   | some o=>
     rw[Xe hi]at hk;rw[G9,Xe hi];exact qe hC _ _ _ (λu h' _ hh=>zi3 hC hh) hk
theorem Z2b{ops:Array Oper}{o:Oper}{e:Env}(hc:Vi C o=.pure\/Vi C o=.load):Qs (Wn C o) (Qi C ops o e):=by
 unfold Qi;cases z4c C ops o e with
 | none=>exact zm.load
 | some b=>
   cases b with
   | false=>exact(z9y (o:=o)).load
   | true=>
     rcases hc with hc | hc
     . exact(z7f hc).load
     . exact z7c hc
theorem Zdj{ops:Array Oper}{x:Nat}(hs:zmy C ops x=true):∃ox,ops[x]?=some ox/\(Vi C ox=.pure\/Vi C ox=.load):=by
 unfold zmy at hs;split at hs
 . rename_i ox hx;refine⟨ox,hx,?_⟩;cases hc:Vi C ox with
   | pure=>exact .inl rfl
   | load=>exact .inr rfl
   | _=>rw[hc]at hs;exact absurd hs (by simp)
 . cases hs
theorem Z39{ops:Array Oper}{a x:Nat}(hs:zhv C ops a x=true):∃ox oa,ops[x]?=some ox/\ops[a]?=some oa/\z1x (Yt C ox) (z4n C ops oa)=true/\z1x (Yt C ox) (Yt C oa)=true/\zc7 oa=false:=by
 unfold zhv at hs;split at hs
 . rename_i ox oa hx ha;simp only[Jv,Gc]at hs;exact⟨ox,oa,hx,ha,hs.1.1,hs.1.2,hs.2⟩
 . cases hs
theorem zre{ops:Array Oper}{as:List Nat}{b:Nat}:∀{p:List Nat},zyr C ops as b p=true->p.Pairwise λa x=>a∈as->z21 ops ops.size x b=true\/zhv C ops a x=true
 | [],_=>List.Pairwise.nil
 | a :: r,h=>by
   unfold zyr at h;rw[Jv,Pq]at h;refine Px.2 ⟨λx hx ha=>?_,zre h.2⟩;rcases h.1 with h1 | h1
   . rw[Q4.2 ha]at h1;cases h1
   . have:=(Jz.1 h1) x hx
     rwa [Pq]at this
theorem Z3a{ops:Array Oper}{a:Nat}{oa ox:Oper}{e:Env}{u:Up}{h:Hp}(ha:ops[a]?=some oa)(hu:Wn C ox u)(h1:z1x (Yt C ox) (z4n C ops oa)=true)
 (h2:z1x (Yt C ox) (Yt C oa)=true) (hm:zc7 oa=false) (hc:Vi C oa=.load) (hk:zgw C ops a (e.upd C.rt u) h):zgw C ops a e h:=by
 unfold zgw at hk |-
 rw[ha]at hk |-
 simp only at hk |-
 rw[z7a]at h1 h2;have hr:∀t∈z6g C ops oa,(e.upd C.rt u) t=e t:=λt ht=>za1 (λd hdd hh=>h1 d (hu.1 d hdd) (by rw[<-hh];exact Jq _ ht))
  (λd hdd hh=>h1 d (hu.1 d hdd) (by rw[<-hh];exact Un _ (List.mem_map.2 ⟨t,ht,rfl⟩)))
 have hco:Zg C oa (e.upd C.rt u)=Zg C oa e:=zbv hm λx hx t ht=>by
  subst ht;have hr2:∀s∈z4o C (.tmp t),s∈z6g C ops oa:=λs hs=>by
   unfold z6g;exact Jq _ (Jq _ (List.mem_flatMap.2 ⟨_,hx,hs⟩))
  exact⟨hr _ (hr2 _ (by simp[z4o])),hr _ (hr2 _ (by simp[z4o]))⟩
 rw[hco]at hk;obtain⟨p,p1,p2,p3⟩:=zkt (e:=e) hc;obtain⟨v,hv,hq⟩:=(p3 h _).1 hk;refine(p3 h _).2 ⟨v,hv,?_⟩;obtain⟨d,y,rfl,hy⟩:=ztd hq;have hd:oa.dst=some d:=by
  rcases p1 _ _ hv with ⟨h3,_⟩ | ⟨d',y',h3,h4⟩
  . cases h3
  . simp only[Up.set.injEq]at h4;rw[h4.1];exact h3
 have:(e.upd C.rt u) d=e d:=za1 (λd' hdd hh=>h2 d' (hu.1 d' hdd) (by rw[<-hh];simp[Yt,hd]))
  (λd' hdd hh=>h1 d' (hu.1 d' hdd) (by
    rw[<-hh];refine Jq _ ?_;unfold z6g;simp[hd]))
 rw[this]at hy;simp only[hy]
theorem zym(hC:CfgOK C){ops:Array Oper}{as:List Nat}{b:Nat}{ob:Oper}(hb:ops[b]?=some ob){K:Env->Hp->Prop}(hload:∀a∈as,∀oa,ops[a]?=some oa->Vi C oa=.load) :
 ∀{p D:List Nat} {e:Env} {h:Hp},h.Fin->(∀x∈p,zly C ops as b x=true/\zmy C ops x=true)->p.Pairwise (λa x=>a∈as->zhv C ops a x=true)->(∀a∈as,a∈D->∀x∈p,zhv C ops a x=true) ->
 W4 C ops (λe1 h1=>Qi C ops ob e1 h1 λu2 h2=>(∀a∈as,a∈D\/a∈p->zgw C ops a (e1.upd C.rt u2) h2)/\K (e1.upd C.rt u2) h2) p e h ->
 Qi C ops ob e h λu2 h2=>(∀a∈as,a∈D->zgw C ops a (e.upd C.rt u2) h2)/\W4 C ops K p (e.upd C.rt u2) h2
 | [],D,e,h,_,_,_,_,hk=>by
   refine qe hC _ _ _ (λu h' _ hh=>⟨λa ha hd=>hh.1 a ha (.inl hd),hh.2⟩) hk
 | x :: p,D,e,h,hfin,hp,hnd,hD,hk=>by
   obtain⟨hsw,hcalm⟩:=hp x (by simp);obtain⟨ox,hx,hcx⟩:=Zdj hcalm;rw[Xe hx]at hk;rw[Px]at hnd;have hll:Qs (Wn C ox) (Qi C ops ox e):=Z2b hcx;have hmx:zc7 ox=false:=by
    cases hm:zc7 ox with
    | false=>rfl
    | true=>have:=Zjo (C:=C) hm;rcases hcx with h1 | h1<;>rw[h1]at this<;>cases this
   have hdis:zc7 ob=false/\z1x (Yt C ox) (z4n C ops ob)=true/\z1x (Yt C ob) (z4n C ops ox)=true/\z1x (Yt C ox) (Yt C ob)=true:=by
    unfold zly at hsw;rw[hx,hb]at hsw;simp only at hsw;split at hsw
    . simp only[Jv,Gc]at hsw;exact⟨hsw.1.1.1.1.2,hsw.1.1.1.2,hsw.1.1.2,hsw.1.2⟩
    . unfold z4x at hsw;rw[hx,hb]at hsw;simp only[Jv,Gc]at hsw;exact⟨hsw.1.1.1.2,hsw.1.1.2,hsw.1.2,hsw.2⟩
   obtain⟨hmb,h1,h2,h3⟩:=hdis;have hk1:Qi C ops ox e h λu1 h'=>Wn C ox u1/\Qi C ops ob e h' λu2 h2=>Wn C ob u2/\(∀a∈as,a∈x :: D->zgw C ops a ((e.upd C.rt u1).upd C.rt u2) h2)/\W4 C ops K p ((e.upd C.rt u1).upd C.rt u2) h2:=by
    refine qe hC _ _ _ (λu1 h' hu1 hh=>⟨hu1,?_⟩) (hll.fin _ _ hfin hk);rw[<-z7i (C:=C) (ops:=ops) (ox:=ox) (oy:=ob) (e:=e) hmb hu1 h1];refine qe hC _ _ _ (λu2 h2 hu2 hk2=>⟨hu2,hk2⟩) (zym hC hb hload (D:=x :: D) hh.2 (λz hz=>hp z (by simp[hz])) hnd.2 (λa ha hd z hz=>?_) ?_)
    . rcases Ju.1 hd with rfl | hd
      . exact hnd.1 z hz ha
      . exact hD a ha hd z (by simp[hz])
    . refine zh2 hC (λe1 h1 hq=>qe hC _ _ _ (λu2 h2 _ hk2=>⟨λa ha had=>hk2.1 a ha ?_,hk2.2⟩) hq) hh.1;rcases had with had | had
      . rcases Ju.1 had with rfl | had
        . exact .inr (by simp)
        . exact .inl had
      . exact .inr (by simp[had])
   have carry:∀u1 u2 h2,Wn C ox u1->Wn C ob u2->(∀a∈as,a∈x :: D->zgw C ops a ((e.upd C.rt u1).upd C.rt u2) h2)->∀a∈as,a∈D->zgw C ops a (e.upd C.rt u2) h2:=by
    intro u1 u2 h2' hu1 hu2 hch a ha hd;obtain⟨ox',oa,hx',hoa,g1,g2,g3⟩:=Z39 (hD a ha hd x (by simp));rw[hx]at hx';cases hx';have:=hch a ha (by simp[hd]);rw[zd3 (ops:=ops) hu1 hu2 h1 h2 h3]at this;exact Z3a hoa hu1 g1 g2 g3 (hload a ha oa hoa) this
   by_cases hxa:x∈as
   . 
    have hsw':=hsw;unfold zly at hsw';rw[hx,hb]at hsw';simp only[Q4.2 hxa,Jv]at hsw';obtain⟨⟨⟨⟨⟨⟨hcl,hgn⟩,_⟩,_⟩,_⟩,_⟩,hown⟩:=hsw';have hcl:Vi C ox=.load:=hload x hxa ox hx;have hgn:ox.guard=none:=by simpa using hgn
    have hst:∀e',Qi C ops ox e'=λh K=>Zg C ox e' h K:=λe'=>by
     funext h K;unfold Qi z4c;rw[hgn]
    obtain⟨p0,p1,p2,p3⟩:=zkt (e:=e) hcl;rw[hst]at hk1;obtain⟨u1,hpu,hu1,hk2⟩:=(p3 h _).1 hk1;refine qe hC _ _ _ (λu2 h2' hu2 hk3=>⟨carry u1 u2 h2' hu1 hu2 hk3.2.1,?_⟩) hk2;rw[Xe hx,z7i hmx hu2 h2,hst];have hch:=hk3.2.1 x hxa (by simp);unfold zgw at hch;rw[hx]at hch;simp only at hch;have hown':=z7a.1 hown;have hco:Zg C ox ((e.upd C.rt u1).upd C.rt u2)=Zg C ox e:=by
     rw[zd3 (ops:=ops) hu1 hu2 h1 h2 h3];have e1:Zg C ox ((e.upd C.rt u2).upd C.rt u1)=Zg C ox (e.upd C.rt u2):=zbv hmx λy hy t ht=>by
      subst ht;have hr2:∀s∈z4o C (.tmp t),((e.upd C.rt u2).upd C.rt u1) s=(e.upd C.rt u2) s:=λs hs=>by
       have hm:s∈ox.op.operands.toList.flatMap (z4o C):=List.mem_flatMap.2 ⟨_,hy,hs⟩;exact za1 (λd hdd hh=>hown' d (hu1.1 d hdd) (by rw[<-hh];exact Jq _ hm))
        (λd hdd hh=>hown' d (hu1.1 d hdd) (by rw[<-hh];exact Un _ (List.mem_map.2 ⟨s,hm,rfl⟩)))
      exact⟨hr2 _ (by simp[z4o]),hr2 _ (by simp[z4o])⟩
     have e2:Zg C ox (e.upd C.rt u2)=Zg C ox e:=by
      have:=z7i (C:=C) (ops:=ops) (ox:=ob) (oy:=ox) (e:=e) hmx hu2 h2;rw[hst,hst]at this;exact this
     rw[e1,e2]
    rw[hco]at hch;obtain⟨u,hpu2,hq⟩:=(p3 h2' _).1 hch;obtain⟨d,v,rfl,hv⟩:=ztd hq;have hd:ox.dst=some d:=by
     rcases p1 _ _ hpu2 with ⟨h5,_⟩ | ⟨d',y',h5,h6⟩
     . cases h5
     . simp only[Up.set.injEq]at h6;rw[h6.1];exact h5
    have hkeep:((e.upd C.rt u1).upd C.rt u2) d=(e.upd C.rt u1) d:=za1
     (λd' hdd hh=>z7a.1 h3 d (by simp[Yt,hd]) (by rw[hh];exact hu2.1 d' hdd))
     (λd' hdd hh=>z7a.1 h2 d' (hu2.1 d' hdd) (by
       rw[<-hh];refine Jq _ ?_;unfold z6g;simp[hd]))
    have hu:u1=.set d (.val v):=by
     rcases p1 _ _ hpu with ⟨_,h5⟩ | ⟨d',y',h5,rfl⟩
     . rw[hd]at h5;cases h5
     . have hdd:d'=d:=by rw[hd]at h5;cases h5;rfl
       subst hdd;rw[hkeep]at hv;have:(e.upd C.rt (.set d' (.val y'))) d'=.val y':=Env.set_same _ _ _;rw[this]at hv;cases hv;rfl
    subst hu;refine(p3 h2' _).2 ⟨_,hpu2,?_⟩;rw[<-zd3 (ops:=ops) hu1 hu2 h1 h2 h3];exact hk3.2.2
   . have hso:z4x C ops x b=true:=by
      unfold zly at hsw;rw[hx,hb]at hsw;simp only at hsw;split at hsw
      . rename_i hm;exact absurd (Q4.1 hm) hxa
      . exact hsw
     have hcl:zb2 C ox ob=true:=by
      unfold z4x at hso;rw[hx,hb]at hso;simp only[Jv]at hso;exact hso.1.1.1.1.1
     have hk2:Qi C ops ox e h λu1 h'=>Qi C ops ob e h' λu2 h2=>Wn C ox u1/\Wn C ob u2/\(∀a∈as,a∈x :: D->zgw C ops a ((e.upd C.rt u1).upd C.rt u2) h2)/\W4 C ops K p ((e.upd C.rt u1).upd C.rt u2) h2:=
      qe hC _ _ _ (λu1 h' _ hh=>qe hC _ _ _ (λu2 h2 _ hh2=>⟨hh.1,hh2⟩) hh.2) hk1
     refine qe hC _ _ _ (λu2 h2' hu2 hk3=>?_) (zo0 hC hcl hfin hk2);obtain⟨p0,p1,p2,p3⟩:=hll;obtain⟨u1,hpu,hu1,_,hch,hd⟩:=(p3 h2' _).1 hk3;refine⟨carry u1 u2 h2' hu1 hu2 hch,?_⟩;rw[Xe hx,z7i hmx hu2 h2];refine(p3 h2' _).2 ⟨u1,hpu,?_⟩;rw[<-zd3 (ops:=ops) hu1 hu2 h1 h2 h3];exact hd
theorem zsc{ops:Array Oper}(hback:∀(i:Nat) (o:Oper),ops[i]?=some o->∀e∈o.after.toList,Tm .any e=true->e.on<i)(c:List Nat)(listed:Array Bool)(hsz:listed.size=ops.size)
 (hiff:∀i,i<ops.size->(listed.getD i false=false↔i∈c)) (hlt:∀i∈c,i<ops.size) (hne:c≠[]):Lg .any ops listed≠[]:=by
 have:∀n,∀i∈c,i<=n->∃j∈c,∀k∈c,j<=k:=by
  intro n;induction n with
  | zero=>intro i hi hn;exact⟨i,hi,λk _=>by omega⟩
  | succ n ih=>
    intro i hi hn;by_cases hex:∃k∈c,k<=n
    . obtain⟨k,hk,hkn⟩:=hex;exact ih k hk hkn
    . exact⟨i,hi,λk hk=>by
       by_cases hkn:k<=n
       . exact absurd ⟨k,hk,hkn⟩ hex
       . omega⟩
 obtain⟨i0,r0,hc⟩:∃i r,c=i :: r:=by cases c with | nil=>exact absurd rfl hne | cons i r=>exact⟨i,r,rfl⟩
 obtain⟨j,hj,hmin⟩:=this i0 i0 (by rw[hc];simp) (Ja _);have hjs:=hlt j hj;have hready:j∈Lg .any ops listed:=by
  unfold Lg;rw[Ta];refine⟨Uv.2 hjs,?_⟩;have hl:=(hiff j hjs).2 hj;have h1:listed.getD j true=false:=by
   rw[Ug]at hl |-
   rw[Gd (by omega)]at hl |-
   exact hl
  rw[h1];simp only[Bool.not_false,Bool.true_and];rw[Gd hjs];simp only[U0,Option.getD_some];rw[Array.all_eq_true'];intro e he;rw[Pq];cases hbe:Tm .any e with
  | false=>left;rfl
  | true=>
  right;have hlt':=hback j _ (Gd hjs) e (by simpa using he) hbe;cases hg:listed.getD e.on false with
  | true=>rfl
  | false=>have:=hmin _ ((hiff e.on (by omega)).1 hg);omega
 intro hnil;rw[hnil]at hready;cases hready
theorem zrq(hC:CfgOK C){ops:Array Oper}{K:Env->Hp->Prop}{ms:List Nat}{e0:Env}{Q:Exit->Act->World->Prop}{b:Nat}{ob:Oper}{q as:List Nat}(hob:ops[b]?=some ob)
 (hload:∀a∈as,∀oa,ops[a]?=some oa->Vi C oa=.load)
 (hms:∀(i:Nat) (o:Oper),ops[i]?=some o->∀d∈Yt C o,d∈ms) (hQ:∀x a w,zjd C B ms e0 K x a w->Q x a w)
 (hback:∀(i:Nat) (o:Oper),ops[i]?=some o->∀e∈o.after.toList,Tm .any e=true->e.on<i) :
 ∀(fuel:Nat) (p:List Nat) (listed:Array Bool) (e:Env) (h:Hp) (a:Act) (w:World),(p++b :: q).length<=fuel->listed.size=ops.size->(p++b :: q).Nodup ->
  (∀i,i<ops.size->(listed.getD i false=false↔i∈p++b :: q))->(∀i∈p++b :: q,i<ops.size) ->
  (∀(i:Nat) (o:Oper),ops[i]?=some o->listed.getD i false=true->∀e∈o.after.toList,Tm .any e=true->listed.getD e.on false=true) ->
  z5f C ops (p++q)=true->(∀y∈q,z21 ops ops.size b y=true)->(∀x∈p,z21 ops ops.size x b=true\/zly C ops as b x=true/\zmy C ops x=true)->p.Pairwise (λa x=>a∈as->z21 ops ops.size x b=true\/zhv C ops a x=true)->(∀t,t∉ms->Wx (e0 t) (e t)) ->
  W4 C ops (λe1 h1=>W4 C ops (λe2 h2=>zlq C ops as e2 h2 (W4 C ops K q e2 h2)) [b] e1 h1) p e h->Rel C B e h a w->wpAnyIn (Yo ro) nn C.P .any ops Q fuel listed a w:=by
 intro fuel;induction fuel with
 | zero=>
   intro p listed e h a w hf;simp at hf
 | succ fuel ih=>
   intro p listed e h a w hf hsz hnd hiff hlt hdc hp hq hpb hpw hkeep hk hR;refine⟨λhnil=>absurd hnil (zsc hback _ listed hsz hiff hlt (by simp)),λi hi=>?_⟩;unfold Lg at hi;rw[Ta]at hi;obtain⟨hi1,hi2⟩:=hi;have his:=Uv.1 hi1;rw[Jv]at hi2;obtain⟨hi3,hi4⟩:=hi2;have hl:listed.getD i false=false:=by
    rw[Ug]at hi3 |-
    rw[Gd (by omega)]at hi3 |-
    simpa using hi3
   have hic:=(hiff i his).1 hl;obtain⟨o,ho⟩:∃o,ops[i]?=some o:=⟨_,Gd his⟩;rw[ho]at hi4;simp only[U0,Option.getD_some]at hi4;have hedges:∀e∈o.after.toList,Tm .any e=true->listed.getD e.on false=true:=λe he hb=>by
    have:=(Array.all_eq_true'.1 hi4) e (by simpa using he);rw[hb]at this;simpa using this
   have hset:∀j,j<ops.size->(listed.setIfInBounds i true).getD j false=if j=i then true else listed.getD j false:=λj hj=>by
    simp only[Ug,Array.getElem?_setIfInBounds];by_cases hji:j=i
    . subst hji;simp[show j<listed.size by omega]
    . simp[Ne.symm hji,hji]
   have hdc':∀(j:Nat) (oj:Oper),ops[j]?=some oj->(listed.setIfInBounds i true).getD j false=true->∀e∈oj.after.toList,Tm .any e=true->(listed.setIfInBounds i true).getD e.on false=true:=by
    intro j oj hoj hlj ed hed hbd;have hjs:j<ops.size:=by
     rcases Jo j ops.size with h1 | h1
     . exact h1
     . rw[Tg h1]at hoj;cases hoj
    have hes:ed.on<ops.size:=by have:=hback j oj hoj ed hed hbd;omega
    rw[hset _ hes];by_cases hei:ed.on=i
    . simp[hei]
    . rw[if_neg hei];rw[hset j hjs]at hlj;by_cases hji:j=i
      . subst hji;rw[ho]at hoj;cases hoj;exact hedges ed hed hbd
      . rw[if_neg hji]at hlj;exact hdc j oj hoj hlj ed hed hbd
   have notin:∀x,x∈p++b :: q->z21 ops ops.size x i=true->False:=λx hx hr=>by
    have h2:=zam hdc ho hedges hr;have h3:=(hiff x (hlt x hx)).2 hx;rw[h2]at h3;cases h3
   rcases Ub.1 hic with hip | hip
   . 
    obtain⟨p1,p2,rfl⟩:=List.append_of_mem hip;rw[show(p1++i :: p2)++q=p1++i :: (p2++q)by simp]at hp;obtain⟨hpo,hpr⟩:=zl1 hp;have hswap:∀x∈p1,z4x C ops x i=true:=λx hx=>by
     rcases hpo x hx with h1 | h1
     . exact(notin x (by simp[hx]) h1).elim
     . exact h1
    have hb:=zbx hC hR.sub.fin hswap hk;rw[Xe ho]at hb;refine wpOpIn_mono ?_ (zf0 hC ho hR hb);rintro a' w' ⟨u,h',hk',hR',hd'⟩;have hperm:((p1++i :: p2)++b :: q).Perm (i :: ((p1++p2)++b :: q)):=by
     simp only[Uq,G9];exact List.perm_middle
    have hnd':=(hperm.nodup_iff).1 hnd;rw[List.nodup_cons]at hnd';refine ih (p1++p2) (listed.setIfInBounds i true) (e.upd C.rt u) h' a' w' ?_ (by simpa using hsz) hnd'.2 ?_ ?_ hdc' (by simpa using hpr) hq ?_ ?_ ?_ hk' hR'
    . simp at hf |-;omega
    . intro j hj;rw[hset j hj];by_cases hji:j=i
      . subst hji;simp only[if_true];exact⟨(λhh=>by cases hh),λhh=>absurd hh hnd'.1⟩
      . rw[if_neg hji,hiff j hj,hperm.mem_iff,Ju];exact⟨λhh=>hh.resolve_left hji,.inr⟩
    . exact λj hj=>hlt j (hperm.mem_iff.2 (Us _ hj))
    . exact λx hx=>hpb x (by rcases Ub.1 hx with h1 | h1<;>simp[h1])
    . exact hpw.sublist (List.Sublist.append_left (List.sublist_cons_self _ _) _)
    . intro t ht;exact(hkeep t ht).trans (zfs λd hd hh=>ht (by rw[hh];exact hms i o ho d (hd' d hd)))
   . rcases Ju.1 hip with rfl | hiq
     . 
      rw[hob]at ho;cases ho;have hpw':p.Pairwise λa x=>a∈as->zhv C ops a x=true:=by
       refine hpw.imp_of_mem λ{a x} _ hx hh ha=>?_
       rcases hh ha with h1 | h1
       . exact(notin x (by simp[hx]) h1).elim
       . exact h1
      have hpb':∀x∈p,zly C ops as i x=true/\zmy C ops x=true:=λx hx=>by
       rcases hpb x hx with h1 | h1
       . exact(notin x (by simp[hx]) h1).elim
       . exact h1
      have hperm:(p++i :: q).Perm (i :: (p++q)):=List.perm_middle;have hnd':=(hperm.nodup_iff).1 hnd;rw[List.nodup_cons]at hnd';have hk1:W4 C ops (λe1 h1=>Qi C ops ob e1 h1 λu2 h2=>(∀a∈as,a∈([]:List Nat)\/a∈p->zgw C ops a (e1.upd C.rt u2) h2)/\W4 C ops K q (e1.upd C.rt u2) h2) p e h:=by
       refine zh2 hC (λe1 h1 hh=>?_) hk;rw[Xe hob]at hh;refine qe hC _ _ _ (λu h' _ hh=>?_) hh;have hh:zlq C ops as (e1.upd C.rt u) h' (W4 C ops K q (e1.upd C.rt u) h'):=hh;rw[znz]at hh;exact⟨λa ha _=>hh.1 a ha,hh.2⟩
      have hb:=zym hC hob hload hR.sub.fin hpb' hpw' (λ_ _ hh=>by cases hh) hk1;have hb2:Qi C ops ob e h λu h'=>W4 C ops K (p++q) (e.upd C.rt u) h':=qe hC _ _ _ (λu h' _ hh=>zi3 hC hh.2) hb
      refine wpOpIn_mono ?_ (zf0 hC hob hR hb2);rintro a' w' ⟨u,h',hk',hR',hd'⟩;refine zk1 hC hms hQ hback fuel (p++q) (listed.setIfInBounds i true) (e.upd C.rt u) h' a' w' ?_ (by simpa using hsz) hnd'.2 ?_ ?_ hdc' hp ?_ hk' hR'
      . simp at hf |-;omega
      . intro j hj;rw[hset j hj];by_cases hji:j=i
        . subst hji;simp only[if_true];exact⟨(λhh=>by cases hh),λhh=>absurd hh hnd'.1⟩
        . rw[if_neg hji,hiff j hj,hperm.mem_iff,Ju];exact⟨λhh=>hh.resolve_left hji,.inr⟩
      . exact λj hj=>hlt j (hperm.mem_iff.2 (Us _ hj))
      . intro t ht;exact(hkeep t ht).trans (zfs λd hd hh=>ht (by rw[hh];exact hms i ob hob d (hd' d hd)))
     . exact(notin b (by simp) (hq i hiq)).elim
end
end Den
end

section
namespace Den
open Go
variable {F : Fence} {n : Nat} {P : Program} {ops : Array Oper} {Q : Exit → Act → World → Prop}
def zkm(ts:List Nat)(a0:Act)(Q:Exit->Act->World->Prop):Exit->Act->World->Prop:=λe a' w'=>
 Q e a' w'/\(e=.normal->∀t,t∉ts->a'.tmps[t]?=a0.tmps[t]?)
theorem zcm{a:Act}{dst:Option Nat}{v:Value}{ts:List Nat}(hd:∀d,dst=some d->d∈ts):∀t,t∉ts->(a.put dst v).tmps[t]?=a.tmps[t]?:=λt ht=>by
 cases dst with
 | none=>rfl
 | some d=>exact Yn (λhh=>ht (by rw[hh];exact hd d rfl))
theorem Z1n{o:Oper}{a a0:Act}{w:World}{K:Act->World->Prop}{ts:List Nat}(hd:∀d,o.dst=some d->d∈ts)
 (hh:o.wpIn F n P a w K Q):o.wpIn F n P a w (λa' w'=>K a' w'/\∀t,t∉ts->a'.tmps[t]?=a.tmps[t]?) (zkm ts a0 Q):=by
 unfold Oper.wpIn at *;refine⟨hh.1,?_⟩;have hh:=hh.2;have hlet:LetsOut Q->LetsOut (zkm ts a0 Q):=λ⟨x,y,hxy⟩=>⟨x,y,hxy,λhe=>by cases he⟩
 generalize (o.semAt F.round a.eval).run P w=r at *;cases r with
 | ok x w'=>
   cases x<;>simp only[Oper.uponIn]at hh |- <;>
    first
     | exact⟨hh,zcm hd⟩
     | exact⟨hh.1,CallsIn.mono hh.2 (λe w'' he=>by cases e<;>first | exact⟨he,zcm hd⟩ | exact⟨he,λhx=>by cases hx⟩ | exact hlet he)⟩
     | exact⟨hh.1,RowsIn.mono hh.2 (λ_ _ he=>⟨he,zcm hd⟩)⟩
     | exact⟨hh.1,RoundIn.mono hh.2 (λe w'' he=>by cases e<;>first | exact⟨he,zcm hd⟩ | exact⟨he,λhx=>by cases hx⟩ | exact hlet he)⟩
 | halt x w'=>cases x<;>simp only[Oper.uponIn]at hh |-<;>first | exact hh | exact⟨hh,λhx=>by cases hx⟩
theorem zis{i:Nat}{a a0:Act}{w:World}{K:Act->World->Prop}{ts:List Nat}(hd:∀(i:Nat) (o:Oper),ops[i]?=some o->∀d,o.dst=some d->d∈ts)
 (hh:wpOpIn F n P ops Q i K a w):wpOpIn F n P ops (zkm ts a0 Q) i (λa' w'=>K a' w'/\∀t,t∉ts->a'.tmps[t]?=a.tmps[t]?) a w:=by
 unfold wpOpIn at *;cases ho:ops[i]? with
 | none=>rw[ho]at hh;exact⟨hh,λ_ _=>rfl⟩
 | some o=>
   rw[ho]at hh;simp only at hh |-
   split
   . rename_i hw;rw[if_pos hw]at hh;exact Z1n (hd i o ho) hh
   . rename_i hw;rw[if_neg hw]at hh;exact⟨hh.1,hh.2,zcm (hd i o ho)⟩
theorem zgj{ts:List Nat}(hd:∀(i:Nat) (o:Oper),ops[i]?=some o->∀d,o.dst=some d->d∈ts) :
 ∀{l:List Nat} {a a0:Act} {w:World},(∀t,t∉ts->a.tmps[t]?=a0.tmps[t]?)->wpOpsIn F n P ops Q l a w->wpOpsIn F n P ops (zkm ts a0 Q) l a w
 | [],a,a0,w,ha,hh=>⟨hh,λ_=>ha⟩
 | i :: r,a,a0,w,ha,hh=>by
   rw[wpOpsIn_cons]at hh |-
   refine wpOpIn_mono ?_ (zis (a0:=a0) hd hh);rintro a' w' ⟨h1,h2⟩;exact zgj hd (λt ht=>(h2 t ht).trans (ha t ht)) h1
theorem zb7{ts:List Nat}{md:Region.Mode}(hd:∀(i:Nat) (o:Oper),ops[i]?=some o->∀d,o.dst=some d->d∈ts) :
 ∀{fuel:Nat} {listed:Array Bool} {a a0:Act} {w:World},(∀t,t∉ts->a.tmps[t]?=a0.tmps[t]?)->wpAnyIn F n P md ops Q fuel listed a w->wpAnyIn F n P md ops (zkm ts a0 Q) fuel listed a w
 | 0,listed,a,a0,w,ha,hh=>⟨hh.1,hh.2,λ_=>ha⟩
 | fuel+1,listed,a,a0,w,ha,hh=>by
   refine⟨λhr=>⟨hh.1 hr,λ_=>ha⟩,λi hi=>?_⟩;refine wpOpIn_mono ?_ (zis (a0:=a0) hd (hh.2 i hi));rintro a' w' ⟨h1,h2⟩;exact zb7 hd (λt ht=>(h2 t ht).trans (ha t ht)) h1
end Den
end

noncomputable section
namespace Den
open Go
variable {ro : Option Nat} {nn : Nat}
theorem Z2p{P:Program}{Q:Exit->Act->World->Prop}{c:Code}{σ:Type}(I:σ->Act->World->Prop)(μ:σ->Nat)
 (round:∀s a w,I s a w->c.wpIn (Yo ro) nn P (Exit.then (λa' w'=>∃s',I s' a' w'/\μ s'<μ s) Q) a w) {s:σ} {a:Act} {w:World} (h0:I s a w):(Code.loop c).wpIn (Yo ro) nn P Q a w:=by
 intro b k cs hro hb hr;have key:∀n s a w,μ s=n->I s a w ->
  ∃e a' w',Q e a' w'/\ArrivesIn (Machine.fenced P (Yo ro)) P (lone (b.atR a (.code c :: .inLoop c :: k)) cs w) b k cs e a' w':=by
  intro n;induction n using Nat.strongRecOn with
  | _ n ih=>
    intro s a w hn hI;obtain⟨e,a₁,w₁,hq,harr⟩:=round s a w hI b (.inLoop c :: k) cs hro hb hr;cases e with
    | normal=>
      obtain⟨s',hI₁,hlt⟩:=hq;obtain⟨e₂,a₂,w₂,hq₂,harr₂⟩:=ih (μ s') (hn▸hlt) s' a₁ w₁ rfl hI₁;exact⟨e₂,a₂,w₂,hq₂,.of_steps (StepsIn.trans harr (.one (fenced_calm hb hr rfl) stepR_inLoop)) harr₂⟩
    | exit id=>exact⟨_,a₁,w₁,hq,.pass (x:=.inLoop c) rfl (λ_ _=>.inl (by simp)) harr⟩
    | goto l=>exact⟨_,a₁,w₁,hq,.pass (x:=.inLoop c) rfl (λ_ _=>.inl (by simp)) harr⟩
    | ret=>exact⟨_,a₁,w₁,hq,.pass (x:=.inLoop c) rfl (λ_ _=>.inl (by simp)) harr⟩
    | panic ch=>exact⟨_,a₁,w₁,hq,.pass (x:=.inLoop c) rfl (λ_ _=>.inl (by simp)) harr⟩
    | outgrown=>exact⟨_,a₁,w₁,hq,.pass (x:=.inLoop c) rfl (λ_ _=>.inl (by simp)) harr⟩
 obtain⟨e,a',w',hq,harr⟩:=key _ s a w rfl h0;exact⟨e,a',w',hq,.of_steps (.one (fenced_calm hb hr rfl) stepR_loop) harr⟩
section
variable {C : Cfg} {B : Base}
def exM:Ex->Exit->Prop
 | .normal,.normal=>True
 | .exit i,.exit j=>i=j
 | .ret,.ret=>True
 | _,_=>False
def Out(C:Cfg)(B:Base)(ms ts:List Nat)(a0:Act)(e:Env)(K:Ex->Env->Hp->Prop):Exit->Act->World->Prop:=λx a' w'=>
 ∃ex e' h',exM ex x/\K ex e' h'/\Rel C B e' h' a' w'/\(∀t,t∉ms->Wx (e t) (e' t))/\∀t,t∉ts->a'.tmps[t]?=a0.tmps[t]?
def zu9(P:Program)(gf:Nat)(T:STy):Prop:=
 (∀args w,(callFunc gf args).run P w=.ok (.enter gf args) w) /\
 ∀(l:Nat) (ab:Addr) (x:Sl) (J:Nat->World->Prop) (w:World),x.len<=140737488355328->J x.len w ->
  (∀i W,J i W->W.cell? ab=some (.slice x.a x.len x.cap)) ->
  (∀i W,i<x.len->J (i+1) W->∃(ad:Addr) (v:T.T),x.a=some ad/\(∀j u,(T.cells v)[j]?=some u->W.cell? (ad.add (i*T.size+j))=some u) /\
    ∃f tmps asg body,(Instr.yield l #[.int .i64 i,T.val v]).run P W=.ok (.round l f tmps asg body) W/\RoundIn Fence.wide 0 P l f tmps asg body W λe W'=>e=.returned (.bool true)/\J i W') ->
  CallsIn Fence.wide 0 P gf #[.func (.yield l) #[] #[],.pointer (some ab)] w λe w'=>(∃v,e=.returned v)/\J 0 w'
def z2o(P:Program):List (Nat×STy)->Prop
 | []=>True
 | (g,T) :: r=>zu9 P g T/\z2o P r
theorem z2o.get{P:Program}:∀{l:List (Nat×STy)},z2o P l->∀g T,zzf g l=some T->zu9 P g T
 | [],_,_,_,h=>by cases h
 | (x,y) :: r,hb,g,T,h=>by
   unfold zzf at h;by_cases hg:g=x
   . subst hg;rw[zjl]at h;cases h;exact hb.1
   . rw[z6o hg]at h;exact z2o.get hb.2 g T h
theorem zx9{P:Program}{n m:Nat}{l:Nat}{f:FuncId}{tmps:Array Value}{asg body:Code}{w:World}{R:Ending->World->Prop}
 (h:RoundIn Fence.wide n P l f tmps asg body w R):RoundIn Fence.wide m P l f tmps asg body w R:=⟨h.1,λc cs _=>h.2 c cs (room_wide _)⟩
theorem LT.dn_iff:∀{ls:List Lf} {vs:List Value} {K:LT ls->Prop},LT.dn ls vs K↔∃x,vs=LT.up ls x/\K x
 | [],[],K=>by
   unfold LT.dn;exact⟨λhk=>⟨(),rfl,hk⟩,λ⟨x,_,hk⟩=>hk⟩
 | [],v :: vs,K=>by
   simp only[LT.dn,false_iff];rintro⟨x,hx,_⟩;cases hx
 | l :: r,[],K=>by
   simp only[LT.dn,false_iff];rintro⟨x,hx,_⟩;cases hx
 | l :: r,v :: vs,K=>by
   unfold LT.dn;rw[Lf.dn_iff];constructor
   . rintro⟨x,rfl,hk⟩;rw[LT.dn_iff]at hk;obtain⟨y,rfl,hk⟩:=hk;exact⟨(x,y),rfl,hk⟩
   . rintro⟨⟨x,y⟩,hx,hk⟩;have hx':v :: vs=l.up x :: LT.up r y:=hx;cases hx';exact⟨x,rfl,LT.dn_iff.2 ⟨y,rfl,hk⟩⟩
theorem STy.dn_iff{s:STy}{sl:Slot}{K:s.T->Prop}:s.dn sl K↔∃x,sl=s.up x/\K x:=by
 cases s with
 | leaf l=>
   cases sl with
   | val v=>
     exact(Lf.dn_iff (l:=l) (v:=v) (K:=K)).trans ⟨λ⟨x,h1,h2⟩=>⟨x,by rw[h1];rfl,h2⟩,λ⟨x,h1,h2⟩=>⟨x,by cases h1;rfl,h2⟩⟩
   | _=>exact⟨λhh=>hh.elim,λ⟨x,hx,_⟩=>by cases hx⟩
 | agg ls=>
   cases sl with
   | val v=>
     cases v with
     | agg cs=>
       refine(LT.dn_iff (ls:=ls) (vs:=cs.toList) (K:=K)).trans ⟨?_,?_⟩
       . rintro⟨x,h1,h2⟩;refine⟨x,?_,h2⟩;show Slot.val (.agg cs)=Slot.val (.agg (LT.up ls x).toArray);rw[<-h1]
       . rintro⟨x,h1,h2⟩;have h1':Slot.val (.agg cs)=Slot.val (.agg (LT.up ls x).toArray):=h1;simp only[Slot.val.injEq,Value.agg.injEq]at h1';exact⟨x,by rw[h1'],h2⟩
     | _=>exact⟨λhh=>hh.elim,λ⟨x,hx,_⟩=>by cases hx⟩
   | _=>exact⟨λhh=>hh.elim,λ⟨x,hx,_⟩=>by cases hx⟩
 | mp=>
   cases sl with
   | mp m=>exact⟨λhh=>⟨m,rfl,hh⟩,λ⟨x,hx,hk⟩=>by cases hx;exact hk⟩
   | _=>exact⟨λhh=>hh.elim,λ⟨x,hx,_⟩=>by cases hx⟩
 | box ls=>
   cases sl with
   | box cs=>
     exact(LT.dn_iff (ls:=ls) (vs:=cs) (K:=K)).trans ⟨λ⟨x,h1,h2⟩=>⟨x,by rw[h1];rfl,h2⟩,λ⟨x,h1,h2⟩=>⟨x,by cases h1;rfl,h2⟩⟩
   | _=>exact⟨λhh=>hh.elim,λ⟨x,hx,_⟩=>by cases hx⟩
theorem z7d:∀{L:List (Nat×STy)} {e:Env} {K:zbp L->Prop},zie L e K->∃s,(∀t x,Qy L s t=some x->e t=x)/\K s
 | [],e,K,hk=>⟨(),(λt x hx=>by cases hx),hk⟩
 | (t,s) :: r,e,K,hk=>by
   unfold zie at hk;obtain⟨x,hx,hk⟩:=STy.dn_iff.1 hk;obtain⟨xs,h1,h2⟩:=z7d hk;refine⟨(x,xs),λt' y hy=>?_,h2⟩;have hy':(bif Nat.beq t' t then some (s.up x)else Qy r xs t')=some y:=hy;by_cases ht:t'=t
   . subst ht;rw[zjl]at hy';simp only[cond_true,Jm]at hy';rw[<-hy'];exact hx
   . rw[z6o ht]at hy';simp only[cond_false]at hy';exact h1 t' y hy'
theorem zfv{e e':Env}{ms:List Nat}{L:List (Nat×STy)}{s:zbp L}(hs:∀t x,Qy L s t=some x->e' t=x)(hk:∀t,t∉ms->Wx (e t) (e' t))(t:Nat) :
 Qb e ms L s t=.junk\/(Qb e ms L s t=e' t):=by
 unfold Qb;cases hu:Qy L s t with
 | some x=>exact .inr (hs t x hu).symm
 | none=>
   simp only;cases hm:z06 t ms with
   | true=>exact .inl rfl
   | false=>
     simp only[cond_false];have hkt:=hk t (λhh=>by rw[Q4.2 hh]at hm;cases hm);cases he:e t with
     | val v=>right;exact(hkt.2 v he).symm
     | box cs=>right;have:=hkt.1 (.inl ⟨cs,he⟩);rw[this,he]
     | mp m=>right;have:=hkt.1 (.inr (.inl ⟨m,he⟩));rw[this,he]
     | mr=>right;have:=hkt.1 (.inr (.inr he));rw[this,he]
     | _=>exact .inl rfl
theorem zsg{e e':Env}{ms:List Nat}{L:List (Nat×STy)}{s:zbp L}(t off:Nat):Qb e ms L s t≠.ref off:=by
 unfold Qb;cases hu:Qy L s t with
 | some x=>
   simp only;intro hx;subst hx;revert hu s;induction L with
   | nil=>intro s hu;cases hu
   | cons p r ih=>
     intro s hu;obtain⟨t',sy⟩:=p;unfold Qy at hu;by_cases ht:t=t'
     . subst ht;rw[zjl]at hu;simp only[cond_true,Jm]at hu;cases sy<;>cases hu
     . rw[z6o ht]at hu;exact ih hu
 | none=>
   simp only;cases hm:z06 t ms with
   | true=>intro hh;cases hh
   | false=>
     simp only[cond_false];cases he:e t<;>intro hh<;>cases hh
theorem Rel.atMk{e e':Env}{h:Hp}{a:Act}{w:World}(hR:Rel C B e' h a w){ms:List Nat}{L:List (Nat×STy)}{s:zbp L}
 (hs:∀t x,Qy L s t=some x->e' t=x) (hk:∀t,t∉ms->Wx (e t) (e' t)):Rel C B (Qb e ms L s) h a w where
 sub:=hR.sub
 sz:=hR.sz
 defers:=hR.defers
 fr:=hR.fr
 dom:=hR.dom
 vals:=λt v ht=>by
  rcases zfv hs hk t with h1 | h1
  . rw[h1]at ht;cases ht
  . rw[h1]at ht;exact hR.vals t v ht
 hid:=λt ht=>by
  rcases zfv hs hk t with h1 | h1
  . rw[h1]at ht;cases ht
  . rw[h1]at ht |-;exact hR.hid t ht
 inj:=λt t' b i1 i2 i3 i4=>by
  rcases zfv hs hk t with h1 | h1
  . rw[h1]at i1;cases i1
  . rcases zfv hs hk t' with h2 | h2
    . rw[h2]at i2;cases i2
    . rw[h1]at i1 i3;rw[h2]at i2 i4;exact hR.inj t t' b i1 i2 i3 i4
 refs:=λt off ht=>absurd ht (zsg (e':=e') t off)
 mrs:=λt ht=>by
  rcases zfv hs hk t with h1 | h1
  . rw[h1]at ht;cases ht
  . rw[h1]at ht;exact hR.mrs t ht
theorem zj3{e e':Env}{ms:List Nat}{L:List (Nat×STy)}{s:zbp L}(hs:∀t x,Qy L s t=some x->e' t=x)(hk:∀t,t∉ms->Wx (e t) (e' t)){t:Nat}
 (ht:t∉ms):Wx (e t) (Qb e ms L s t):=by
 unfold Qb;cases hu:Qy L s t with
 | some x=>simp only;rw[<-hs t x hu];exact hk t ht
 | none=>
   simp only;have hm:z06 t ms=false:=by
    cases hm:z06 t ms with
    | false=>rfl
    | true=>exact absurd (Q4.1 hm) ht
   rw[hm];simp only[cond_false];cases he:e t with
   | val v=>exact Wx.refl _
   | box cs=>exact Wx.refl _
   | lit cs n=>exact⟨(λhh=>by rcases hh with ⟨_,hh⟩ | ⟨_,hh⟩ | hh<;>cases hh),(λv hv=>by cases hv)⟩
   | mp m=>exact Wx.refl _
   | mr=>exact Wx.refl _
   | ref off=>exact⟨(λhh=>by rcases hh with ⟨_,hh⟩ | ⟨_,hh⟩ | hh<;>cases hh),(λv hv=>by cases hv)⟩
   | junk=>exact Wx.refl _
open Classical in
def zg5(e:Env)(h:Hp)(a:Act):Hp:=λk=>
 if h k≠none\/∃t,z36 (e t)=true/\a.tmps[t]?=some (z6s k (e t))then some ⟨[],0,(0,0)⟩else none
theorem Z20{e:Env}{h:Hp}{a:Act}{k:Nat}(hk:zg5 e h a k=none):h k=none/\∀t,z36 (e t)=true->a.tmps[t]?=some (z6s k (e t))->False:=by
 unfold zg5 at hk;split at hk
 . cases hk
 . rename_i hh;refine⟨Classical.byContradiction λhx=>hh (.inl hx),λt h1 h2=>hh (.inr ⟨t,h1,h2⟩)⟩
theorem Z21{e:Env}{h:Hp}{a:Act}{k:Nat}(hk:h k≠none\/∃t,z36 (e t)=true/\a.tmps[t]?=some (z6s k (e t))):zg5 e h a k≠none:=by
 unfold zg5;rw[if_pos hk];simp
theorem Rel.rebase{e:Env}{h:Hp}{a:Act}{w:World}(hR:Rel C B e h a w):Rel C ⟨zg5 e h a,w,0⟩ e h a w where
 sub:=hR.sub
 sz:=hR.sz
 defers:=hR.defers.mono (Ga _) λ_ hr=>hr
 fr:=Fr.refl _ _
 dom:=λk h1 h2=>absurd (Z20 h2).1 h1
 vals:=hR.vals
 hid:=λt ht=>by
  obtain⟨h1,b,el,h2,h3,h4,_⟩:=hR.hid t ht;exact⟨h1,b,el,h2,h3,h4,.inr (Z21 (.inr ⟨t,ht,h2⟩))⟩
 inj:=hR.inj
 refs:=hR.refs
 mrs:=hR.mrs
section
variable {e0 e1 : Env} {h0 h1 : Hp} {a0 a1 : Act} {w0 w1 : World}
theorem zpz(hR:Rel C B e0 h0 a0 w0){k:Nat}(hk:B.D k=none)(hlt:k<B.w.heap.size):zg5 e0 h0 a0 k=none:=by
 cases hh:zg5 e0 h0 a0 k with
 | none=>rfl
 | some b=>
   exfalso;unfold zg5 at hh;split at hh
   . rename_i hx;rcases hx with hx | ⟨t,h1,h2⟩
     . have:=hR.dom k hx hk;omega
     . obtain⟨_,b',_,h3,_,_,h5⟩:=hR.hid t h1;rw[h2]at h3;have:=zc5 (J9 h3);subst this;rcases h5 with h5 | h5
       . omega
       . exact h5 hk
   . cases hh
theorem Rel.unrebase(hR:Rel C B e0 h0 a0 w0)(hR1:Rel C ⟨zg5 e0 h0 a0,w0,0⟩ e1 h1 a1 w1){ds:List Deferred}(hd:z5o B.nb w1 ds):Rel C B e1 h1 { a1 with defers:=ds } w1 where
 sub:=hR1.sub
 sz:=hR1.sz
 defers:=hd
 fr:=by
  obtain⟨x1,x2,x3,x4,x5,x6⟩:=hR.fr;obtain⟨y1,y2,y3,y4,y5,y6⟩:=hR1.fr;refine⟨Jt x1 y1,λk hk hD=>?_,y3.trans x3,y4.trans x4,y5.trans x5,Jt x6 y6⟩;have h3:k<w0.heap.size:=Nat.lt_of_lt_of_le hk x1;rw[y2 k h3 (zpz hR hD hk),x2 k hk hD]
 dom:=λk hk hD=>by
  rcases Jo k B.w.heap.size with hlt | hge
  . have h2:=hR1.dom k hk (zpz hR hD hlt);have h2':w0.heap.size<=k:=h2;have:=hR.fr.1;omega
  . exact hge
 vals:=hR1.vals
 hid:=λt ht=>by
  obtain⟨g1,b,el,g2,g3,g4,g5⟩:=hR1.hid t ht;refine⟨g1,b,el,g2,g3,g4,?_⟩;rcases g5 with g5 | g5
  . exact .inl (Jt hR.fr.1 g5)
  . rcases Jo b B.w.heap.size with hlt | hge
    . exact .inr λhD=>g5 (zpz hR hD hlt)
    . exact .inl hge
 inj:=hR1.inj
 refs:=hR1.refs
 mrs:=hR1.mrs
theorem zdq(hR:Rel C B e0 h0 a0 w0)(hR1:Rel C ⟨zg5 e0 h0 a0,w0,0⟩ e1 h1 a1 w1){k:Nat}{o:Obj}(hk:w0.heap[k]?=some o)(ho:¬zl6 o):w1.heap[k]?=some o:=by
 have hlt:k<w0.heap.size:=Xl hk;have hn:zg5 e0 h0 a0 k=none:=by
  cases hh:zg5 e0 h0 a0 k with
  | none=>rfl
  | some b=>
    exfalso;unfold zg5 at hh;split at hh
    . rename_i hx;rcases hx with hx | ⟨t,h1,h2⟩
      . cases hb:h0 k with
        | none=>exact hx hb
        | some b=>rw[hR.sub k b hb]at hk;cases hk;exact ho trivial
      . obtain⟨_,b',_,h3,h4,_,_⟩:=hR.hid t h1;rw[h2]at h3;have:=zc5 (J9 h3);subst this;obtain⟨o',q1,q2⟩:=h4.obj;rw[q2]at hk;cases hk;exact ho q1
    . cases hh
 rw[hR1.fr.2.1 k hlt hn];exact hk
theorem Rel.putObj(hR:Rel C B e0 h0 a0 w0){l:Nat}{r r':Loop}(hl:B.w.heap.size<=l)(hw:w0.heap[l]?=some (.loop r)):Rel C B e0 h0 a0 (w0.putObj l (Obj.loop r')):=by
 have hne:∀(k:Nat) (o:Obj),w0.heap[k]?=some o->(∀q,o≠Obj.loop q)->(w0.putObj l (Obj.loop r')).heap[k]?=some o:=λk o hk ho=>by
  rw[Tn (λhh=>by subst hh;rw[hw]at hk;exact ho r (J9 hk).symm)];exact hk
 refine⟨λk b hb=>hne k _ (hR.sub k b hb) (λq hq=>by cases hq),hR.sz,hR.defers.mono (Ja _) (λk hk=>hne k _ hk (λq hq=>by cases hq)),?_,hR.dom,hR.vals,λt ht=>?_,hR.inj,hR.refs,hR.mrs⟩
 . obtain⟨x1,x2,x3,x4,x5,x6⟩:=hR.fr;refine⟨by rw[World.putObj_size];exact x1,λk hk hD=>?_,x3,x4,x5,x6⟩;rw[Tn (by omega)];exact x2 k hk hD
 . obtain⟨g1,b,el,g2,g3,g4,g5⟩:=hR.hid t ht;exact⟨g1,b,el,g2,g3.mono λo hp hoo=>hne b o hoo (λq hq=>by subst hq;exact hp),g4,g5⟩
theorem Rel.allocObj(hR:Rel C B e0 h0 a0 w0)(o:Obj):Rel C B e0 h0 a0 (w0.alloc o):=
 hR.step (hR.sub.alloc o) (Fr.alloc h0 w0 o) λ_ h1 h2=>absurd h2 h1
theorem Rel.withDefers(hR:Rel C B e0 h0 a0 w0){ds:List Deferred}(hd:z5o B.nb w0 ds):Rel C B e0 h0 { a0 with defers:=ds } w0:=
 ⟨hR.sub,hR.sz,hd,hR.fr,hR.dom,hR.vals,hR.hid,hR.inj,hR.refs,hR.mrs⟩
end
theorem Rel.roundEnd{e e2:Env}{h1 h2:Hp}{a a2:Act}{w1 w2:World}{ms:List Nat}{L:List (Nat×STy)}{s s':zbp L}(hJ:Rel C B (Qb e ms L s) h1 a w1)(hE:Rel C B e2 h2 a2 w2)
 (hL:∀q∈L,zpj q.2=true) (hs:∀t x,Qy L s' t=some x->e2 t=x) (hk:∀t,t∉ms->Wx (Qb e ms L s t) (e2 t))
 (ht:∀t,z36 (Qb e ms L s t)=true->a2.tmps[t]?=a.tmps[t]?) (hm:z5o B.nb w2 a.defers):Rel C B (Qb e ms L s') h2 a w2:=by
 have hbox:∀(L:List (Nat×STy)) (z:zbp L),(∀q∈L,zpj q.2=true)->∀t y,Qy L z t=some y->∃cs,y=.box cs:=by
  intro L;induction L with
  | nil=>intro z _ t y hu;cases hu
  | cons p r ih=>
    intro z hb t y hu;obtain⟨t',sy⟩:=p;unfold Qy at hu;by_cases htt:t=t'
    . subst htt;rw[zjl]at hu;simp only[cond_true,Jm]at hu;have:=hb _ (Ut);cases sy with
      | box ls=>exact⟨_,hu.symm⟩
      | _=>cases this
    . rw[z6o htt]at hu;exact ih z.2 (λq hq=>hb q (Us _ hq)) t y hu
 have hsome:∀(L:List (Nat×STy)) (z z':zbp L) t,(∃y,Qy L z t=some y)->∃y,Qy L z' t=some y:=by
  intro L;induction L with
  | nil=>intro z z' t ⟨y,hy⟩;cases hy
  | cons p r ih=>
    intro z z' t ⟨y,hy⟩;obtain⟨t',sy⟩:=p;unfold Qy at hy |-
    by_cases htt:t=t'
    . subst htt;rw[zjl];exact⟨_,rfl⟩
    . rw[z6o htt]at hy |-;exact ih z.2 z'.2 t ⟨y,hy⟩
 have back:∀t,z36 (Qb e ms L s' t)=true->(∃cs cs',Qb e ms L s t=.box cs/\Qb e ms L s' t=.box cs'/\e2 t=.box cs')\/∃m,Qb e ms L s t=.mp m/\Qb e ms L s' t=.mp m/\e2 t=.mp m:=by
  intro t hh;unfold Qb at hh |-
  cases hu:Qy L s' t with
  | some y=>
    obtain⟨cs',rfl⟩:=hbox L s' hL t y hu;obtain⟨y0,hy0⟩:=hsome L s' s t ⟨_,hu⟩;obtain⟨cs,rfl⟩:=hbox L s hL t y0 hy0;rw[hy0];exact .inl ⟨cs,cs',rfl,rfl,hs t _ hu⟩
  | none=>
    rw[hu]at hh;have hu0:Qy L s t=none:=by
     cases hx:Qy L s t with
     | none=>rfl
     | some y=>obtain⟨y',hy'⟩:=hsome L s s' t ⟨y,hx⟩;rw[hu]at hy';cases hy'
    rw[hu0];simp only at hh |-
    cases hm:z06 t ms with
    | true=>rw[hm]at hh;cases hh
    | false=>
      rw[hm]at hh;simp only[cond_false]at hh |-
      cases he:e t with
      | box cs=>
        simp only;refine .inl ⟨cs,cs,rfl,rfl,?_⟩;have h1:Qb e ms L s t=.box cs:=by unfold Qb;rw[hu0];simp only[hm,cond_false,he]
        have:=hk t (λhx=>by rw[Q4.2 hx]at hm;cases hm);rw[h1]at this;exact this.1 (.inl ⟨cs,rfl⟩)
      | mp m=>
        simp only;refine .inr ⟨m,rfl,rfl,?_⟩;have h1:Qb e ms L s t=.mp m:=by unfold Qb;rw[hu0];simp only[hm,cond_false,he]
        have:=hk t (λhx=>by rw[Q4.2 hx]at hm;cases hm);rw[h1]at this;exact this.1 (.inr (.inl ⟨m,rfl⟩))
      | _=>rw[he]at hh;cases hh
 refine⟨hE.sub,hJ.sz,hm,hE.fr,hE.dom,λt v hv=>?_,λt hh=>?_,λt t' b i1 i2 i3 i4=>?_,λt off hh=>absurd hh (zsg (e':=e2) t off),λt hh=>?_⟩
 . refine hJ.vals t v ?_;unfold Qb at hv |-
   cases hu:Qy L s' t with
   | some y=>rw[hu]at hv;obtain⟨cs,rfl⟩:=hbox L s' hL t y hu;cases hv
   | none=>
     have hu0:Qy L s t=none:=by
      cases hx:Qy L s t with
      | none=>rfl
      | some y=>obtain⟨y',hy'⟩:=hsome L s s' t ⟨y,hx⟩;rw[hu]at hy';cases hy'
     rw[hu]at hv;rw[hu0];exact hv
 . rcases back t hh with ⟨cs,cs',c1,c2,c3⟩ | ⟨m,c1,c2,c3⟩
   . obtain⟨g1,b,el,g2,g3,g4,g5⟩:=hE.hid t (by rw[c3];rfl);rw[c3]at g2 g3;rw[ht t (by rw[c1];rfl)]at g2;exact⟨g1,b,el,by rw[c2];exact g2,by rw[c2];exact g3,g4,g5⟩
   . obtain⟨g1,b,el,g2,g3,g4,g5⟩:=hE.hid t (by rw[c3];rfl);rw[c3]at g2 g3;rw[ht t (by rw[c1];rfl)]at g2;exact⟨g1,b,el,by rw[c2];exact g2,by rw[c2];exact g3,g4,g5⟩
 . have key:∀t c,z36 (Qb e ms L s' t)=true->a.tmps[t]?=some (z6s c (Qb e ms L s' t))->z36 (Qb e ms L s t)=true/\a.tmps[t]?=some (z6s c (Qb e ms L s t)):=λt c j1 j2=>by
    rcases back t j1 with ⟨cs,cs',c1,c2,c3⟩ | ⟨m,c1,c2,c3⟩
    . rw[c2]at j2;rw[c1];exact⟨rfl,j2⟩
    . rw[c2]at j2;rw[c1];exact⟨rfl,j2⟩
   obtain⟨k1,k2⟩:=key t b i1 i3;obtain⟨k3,k4⟩:=key t' b i2 i4;exact hJ.inj t t' b k1 k3 k2 k4
 . refine hJ.mrs t ?_;unfold Qb at hh |-
   cases hu:Qy L s' t with
   | some y=>rw[hu]at hh;obtain⟨cs,rfl⟩:=hbox L s' hL t y hu;cases hh
   | none=>
     have hu0:Qy L s t=none:=by
      cases hx:Qy L s t with
      | none=>rfl
      | some y=>obtain⟨y',hy'⟩:=hsome L s s' t ⟨y,hx⟩;rw[hu]at hy';cases hy'
     rw[hu]at hh;rw[hu0];exact hh
theorem zus{C:Cfg}{L:List (Nat×STy)}{p0 p1:Nat}{x y:Code}(h:zog C L p0 p1 x y=true) :
 (∀q∈L,zpj q.2=true/\q.1∈qk C x++qk C y/\q.1∉p0 :: p1 :: (z2b x++z2b y))/\Xi x=true/\Xi y=true/\C.loc p0=false/\C.loc p1=false/\p0<C.n/\p1<C.n/\p0≠p1:=by
 unfold zog at h;simp only[Jv,Jz,Gc]at h;obtain⟨⟨⟨⟨⟨⟨⟨h1,h2⟩,h3⟩,h4⟩,h5⟩,h6⟩,h7⟩,h8⟩:=h;have lt:∀{a b:Nat},T5 a b=true->a<b:=λhh=>by unfold T5 at hh;have:=Ui hh;omega
 refine⟨λq hq=>?_,h2,h3,h4,h5,lt h6,lt h7,λhh=>by rw[hh,zjl]at h8;cases h8⟩;obtain⟨⟨⟨g1,g2⟩,g3⟩,g4⟩:=h1 q hq;exact⟨g1,Q4.1 g2,λhm=>by rw[Q4.2 hm]at g3;cases g3⟩
theorem zf4:∀{L:List (Nat×STy)} {s:zbp L} {t:Nat} {y:Slot},Qy L s t=some y->∃q∈L,q.1=t
 | [],_,_,_,h=>by cases h
 | (t',sy) :: r,s,t,y,h=>by
   unfold Qy at h;by_cases htt:t=t'
   . exact⟨_,Ut,htt.symm⟩
   . rw[z6o htt]at h;obtain⟨q,h1,h2⟩:=zf4 (s:=s.2) h;exact⟨q,Us _ h1,h2⟩
theorem z3r{C:Cfg}:∀(c:Code) (t:Nat),t∈z2b c->t∈qk C c
 | .region _ ops _,t,h=>by
   unfold z2b at h;unfold qk;rw[List.mem_flatMap]at h |-
   obtain⟨o,h1,h2⟩:=h;refine⟨o,h1,Jq _ ?_⟩;unfold Yt;exact Jq _ (Jq _ h2)
 | .seq a b,t,h=>by
   unfold z2b at h;unfold qk;rcases Ub.1 h with h | h
   . exact Jq _ (z3r a t h)
   . exact Un _ (z3r b t h)
 | .cond _ a b,t,h=>by
   unfold z2b at h;unfold qk;rcases Ub.1 h with h | h
   . exact Jq _ (z3r a t h)
   . exact Un _ (z3r b t h)
 | .block _ a,t,h=>z3r a t h
 | .loop a,t,h=>z3r a t h
 | .scope a,t,h=>z3r a t h
 | .rangeFunc _ _ _ _,t,h=>by cases h
 | .skip,t,h=>by cases h
 | .exit _,t,h=>by cases h
 | .ret,t,h=>by cases h
 | .label _,t,h=>by cases h
 | .goto _,t,h=>by cases h
 | .refuse ..,t,h=>by cases h
theorem z5o.lt{N:Nat}{w:World}:∀{ds:List Deferred},z5o N w ds->∀d∈ds,d≠{ target:=.collected w.heap.size,args:=#[] }
 | [],_,_,h=>by cases h
 | d :: ds,⟨⟨r,h1,_,h3,_⟩,hm⟩,d',hd=>by
   rcases Ju.1 hd with rfl | hd
   . intro hh;rw[h1]at hh;have:=Xl h3;simp only[Deferred.mk.injEq,Target.collected.injEq,and_true]at hh;omega
   . exact z5o.lt hm d' hd
theorem zut{nn:Nat}(hBk:z2o C.P C.backs)(hmk:B.nb<=B.w.heap.size){x y:Code}
 (hx:Xi x=true->∀(B:Base) (l:Nat) (an:An) (K:Ex->Env->Hp->Prop) (e:Env) (h:Hp) (a:Act) (w:World),B.nb<=B.w.heap.size->den C x an K e h->Rel C B e h a w->x.wpIn (Yo (some l)) nn C.P (Out C B (qk C x) (z2b x) a e K) a w)
 (hy:Xi y=true->∀(B:Base) (l:Nat) (an:An) (K:Ex->Env->Hp->Prop) (e:Env) (h:Hp) (a:Act) (w:World),B.nb<=B.w.heap.size->den C y an K e h->Rel C B e h a w->y.wpIn (Yo (some l)) nn C.P (Out C B (qk C y) (z2b y) a e K) a w)
 {g:Operand} {p0 p1:Nat} {L:List (Nat×STy)} {b1 b2:An} {K:Ex->Env->Hp->Prop} {e:Env} {h:Hp} {a:Act} {w:World}
 (hk:den C (.rangeFunc g ⟨[p0,p1]⟩ x y) (.back L b1 b2) K e h) (hR:Rel C B e h a w) :
 (Code.rangeFunc g ⟨[p0,p1]⟩ x y).wpIn (Yo none) nn C.P (Out C B (qk C (.rangeFunc g ⟨[p0,p1]⟩ x y)) (z2b (.rangeFunc g ⟨[p0,p1]⟩ x y)) a e K) a w:=by
 unfold den at hk;simp only at hk;cases hok:zog C L p0 p1 x y with
 | false=>rw[hok]at hk;exact hk.elim
 | true=>
   rw[hok]at hk;simp only at hk;obtain⟨hL,nx,ny,lp0,lp1,np0,np1,hp01⟩:=zus hok;replace hk:=yf hR hk;split at hk
   case h_2=>exact hk.elim
   rename_i gf ad hg;split at hk
   case h_2=>exact hk.elim
   rename_i T hT;have hB:=hBk.get gf T hT;obtain⟨s0,hs0,hbk⟩:=z7d hk;obtain⟨xs,I,hxl,hI0,hIbox,hIround,hIend⟩:=hbk;obtain⟨ms,hms⟩:∃ms,ms=[p0,p1]++qk C x++qk C y:=⟨_,rfl⟩;rw[<-hms]at hIround hIend;have hmsC:qk C (.rangeFunc g ⟨[p0,p1]⟩ x y)=ms:=by rw[hms];rfl
   rw[hmsC];have hk0:Rel C B (Qb e ms L s0) h a w:=hR.atMk hs0 (λ_ _=>Wx.refl _);have hwB:B.w.heap.size<=w.heap.size:=hR.fr.1;refine wpIn_rangeFunc λfn hfn=>?_
   obtain⟨rec,hrec⟩:∃rec:LoopState->Option Code->Loop,rec=λst pe=>{ state:=st,pending:=pe,fn,tmps:=a.tmps,params:=⟨[p0,p1]⟩,assign:=x,body:=y,defers:=w.heap.size }:=⟨_,rfl⟩
   obtain⟨W1,hW1⟩:∃W1,(w.alloc (.deferred (some []))).alloc (.loop (rec .ready none))=W1:=⟨_,rfl⟩;have hL1:W1.heap[w.heap.size+1]?=some (.loop (rec .ready none)):=by
    rw[<-hW1];have:=z9h (w:=w.alloc (.deferred (some []))) (o:=.loop (rec .ready none));simpa using this
   have hK1:W1.heap[w.heap.size]?=some (.deferred (some [])):=by
    rw[<-hW1,z9i (by simp)];exact z9h
   have hR1:Rel C B (Qb e ms L s0) h a W1:=by rw[<-hW1];exact(hk0.allocObj _).allocObj _
   refine⟨w.heap.size+1,[{ target:=.collected w.heap.size,args:=#[] }],W1,{ target:=.fn (.func gf) #[.pointer (some ad)],args:=#[.func (.yield (w.heap.size+1)) #[] #[]] },W1,gf,
    #[.func (.yield (w.heap.size + 1)) #[] #[], .pointer (some ad)], W1, ?_, ?_, ?_, ?_, (fun hh => by cases hh), ?_⟩
   . rw[<-hW1,hrec];exact run_enterLoop_outer _ _ _ _ _
   . have:a.eval g=.func (.func gf) #[] #[.pointer (some ad)]:=hg;simp only[resolve,this];simp[go_sem]
   . intro f' hf';trivial
   . simp[invoke,go_sem,hB.1]
   . refine(callsIn_wide (n:=nn-1)).2 ((callsIn_wide (n:=0)).1 ((hB.2 (w.heap.size+1) ad xs (λi W=>∃s h',I i s h'/\Rel C B (Qb e ms L s) h' a W/\W.heap[w.heap.size+1]?=some (.loop (rec .ready none))/\W.heap[w.heap.size]?=some (.deferred (some [])))
      W1 hxl ⟨s0,h,hI0,hR1,hL1,hK1⟩ ?_ ?_).mono ?_))
     . rintro i W ⟨s,h',hI,hR',_,_⟩;exact hR'.sub.cell (hIbox i s h' hI)
     . rintro i W hi ⟨s,h',hI,hR',hl1,hD1⟩;obtain⟨ad',v,hxa,hcells,hbody⟩:=hIround i s h' hi hI;refine⟨ad',v,hxa,λj u hj=>hR'.sub.cell (hcells j u hj),fn,(a.tmps.setIfInBounds p0 (.int .i64 i)).setIfInBounds p1 (T.val v),x,y,?_,?_⟩
       . have:=run_yield (P:=C.P) (args:=#[.int .i64 i,T.val v]) hl1 (by rw[hrec];rfl);rw[hrec]at this;rw[this];simp
       . refine zx9 (n:=nn) (roundIn_of_wpIn (F:=Fence.wide) trivial ?_);have hS:Rel C ⟨zg5 (Qb e ms L s) h' a,W,0⟩ (((Qb e ms L s).set p0 (.val (.int .i64 i))).set p1 (.val (T.val v))) h'
          { tmps:=(a.tmps.setIfInBounds p0 (.int .i64 i)).setIfInBounds p1 (T.val v),defers:=[] } W:=
          ((hR'.rebase.withDefers (ds:=[]) trivial).setVal lp0 np0).setVal lp1 np1
         refine Y1 (ro:=some (w.heap.size+1)) ?_ (hx nx _ _ b1 _ _ h' _ W (Ga _) hbody hS);rintro xx a1 w1 ⟨ex,e1,h1,hm,hK,hRx,hkp1,htk1⟩;cases xx with
         | normal=>
           cases ex<;>first | (exact hm.elim) | skip
           have notC:∀(q:Loop),¬zl6 (Obj.loop q):=λq hh=>hh
           have notD:∀q,¬zl6 (Obj.deferred q):=λq hh=>hh
           have hm1:z5o B.nb w1 a.defers:=hR'.defers.mono (Ja _) λr hr=>zdq hR' hRx hr (notD _)
           have hl2:=zdq hR' hRx hl1 (notC _);have hD2:=zdq hR' hRx hD1 (notD _);have hB1:Rel C B e1 h1 { a1 with defers:=a.defers } w1:=hR'.unrebase hRx hm1;refine⟨_,run_beginRound hl2 (by rw[hrec]),?_⟩;have hB2:=hB1.putObj (r':={ rec .ready none with state:=.busy }) (show B.w.heap.size<=w.heap.size+1 by omega) hl2;have hS2:=hB2.rebase;have hma1:z5o 0 (w1.putObj (w.heap.size+1) (Obj.loop { rec .ready none with state:=.busy })) a1.defers:=hRx.defers.mono (Ja _) λr hr=>by
            rw[Tn (λhh=>by rw[hh,hl2]at hr;cases hr)];exact hr
           have hS3:=hS2.withDefers hma1;refine Y1 (ro:=some (w.heap.size+1)) ?_ (hy ny _ _ b2 _ _ h1 a1 _ (Ga _) hK hS3);rintro xx a2 w2 ⟨ex,e2,h2,hm,hK,hRy,hkp2,htk2⟩;have hl3:=zdq hB2 hRy (World.putObj_heap_same (Xl hl2)) (notC _);have hD3:=zdq hB2 hRy ((Tn (by omega)).trans hD2) (notD _);cases xx with
           | normal=>
             cases ex<;>first | (exact hm.elim) | skip
             obtain⟨s',hs',hI'⟩:=z7d hK;have hm2:z5o B.nb w2 a.defers:=hB2.defers.mono (Ja _) λr hr=>zdq hB2 hRy hr (notD _)
             have hE:=hB2.unrebase hRy hm2;refine⟨_,_,run_endRound none hl3,rfl,s',h2,hI',?_,?_,?_⟩
             . refine(hR'.roundEnd hE (λq hq=>(hL q hq).1) hs' (λt ht=>?_) (λt ht=>?_) hm2).putObj (by omega) hl3
               . have t0:t≠p0:=λhh=>ht (by rw[hms,hh];simp)
                 have t1:t≠p1:=λhh=>ht (by rw[hms,hh];simp)
                 have tx:t∉qk C x:=λhh=>ht (by rw[hms];simp[hh])
                 have ty:t∉qk C y:=λhh=>ht (by rw[hms];simp[hh])
                 have:=(hkp1 t tx).trans (hkp2 t ty);rw[Env.set_ne t1,Env.set_ne t0]at this;exact this
               . have hnot:t∉p0 :: p1 :: (z2b x++z2b y):=by
                  intro hmem;cases hu:Qy L s t with
                  | some z=>
                    obtain⟨q,hq,hqt⟩:=zf4 hu;exact(hL q hq).2.2 (by rw[hqt];exact hmem)
                  | none=>
                    have hmem2:t∈ms:=by
                     rw[hms];simp only[Ju,Ub]at hmem;rcases hmem with rfl | rfl | hmem | hmem
                     . simp
                     . simp
                     . simp[z3r x t hmem]
                     . simp[z3r y t hmem]
                    unfold Qb at ht;rw[hu]at ht;simp only[Q4.2 hmem2,cond_true]at ht;cases ht
                 simp only[Ju,Ub,not_or]at hnot;obtain⟨n0,n1,n2,n3⟩:=hnot;rw[htk2 t n3,htk1 t n2];simp only;rw[Array.getElem?_setIfInBounds_ne (Ne.symm n1),Array.getElem?_setIfInBounds_ne (Ne.symm n0)]
             . rw[World.putObj_heap_same (Xl hl3),hrec];rfl
             . exact(Tn (by omega)).trans hD3
           | _=>
             cases ex<;>first | (exact hm.elim) | (exact hK.elim)
         | _=>
           cases ex<;>first | (exact hm.elim) | (exact hK.elim)
     . rintro e' W2 ⟨⟨v,rfl⟩,s,h',hI,hR',hl,hD⟩;refine⟨none,_,by have:=run_endLoop (P:=C.P) hl (by rw[hrec];simp);rw[hrec]at this;exact this,?_⟩;have hRp:=hR'.putObj (r':={ rec .ready none with state:=.exhausted }) (show B.w.heap.size<=w.heap.size+1 by omega) hl;rw[hrec]at hRp;refine⟨.normal,Qb e ms L s,h',trivial,hIend s h' hI,hRp.withDefers ⟨⟨w.heap.size,rfl,by omega,(Tn (by omega)).trans hD,λd' hd'=>hR.defers.lt d' hd'⟩,hRp.defers⟩,λt ht=>?_,λt _=>rfl⟩;exact zj3 (e':=Qb e ms L s) (λt y hu=>by unfold Qb;rw[hu]) (λt ht=>by
        unfold Qb;cases hu:Qy L s t with
        | some z=>
          exfalso;obtain⟨q,hq,hqt⟩:=zf4 hu;exact ht (by rw[hms,<-hqt];have:=(hL q hq).2.1;rcases Ub.1 this with h1 | h1<;>simp[h1])
        | none=>
          simp only;have:z06 t ms=false:=by
           cases hm:z06 t ms with
           | false=>rfl
           | true=>exact absurd (Q4.1 hm) ht
          rw[this];simp only[cond_false];cases he:e t with
          | val v=>exact Wx.refl _
          | box cs=>exact Wx.refl _
          | lit cs n=>exact⟨(λhh=>by rcases hh with ⟨_,hh⟩ | ⟨_,hh⟩ | hh<;>cases hh),(λv hv=>by cases hv)⟩
          | mp m=>exact Wx.refl _
          | mr=>exact Wx.refl _
          | ref off=>exact⟨(λhh=>by rcases hh with ⟨_,hh⟩ | ⟨_,hh⟩ | hh<;>cases hh),(λv hv=>by cases hv)⟩
          | junk=>exact Wx.refl _) ht
theorem Rel.pub{e:Env}{h:Hp}{a:Act}{w:World}(hR:Rel C B e h a w){d:Nat}{cs:List Value}(hd:e d=.box cs){K:Addr->Hp->Prop}(hk:Y2 cs K h) :
 ∃b h',K ⟨b,0,none⟩ h'/\Rel C B (e.alloc C.rt d (.val (.pointer (some ⟨b,0,none⟩)))) h' a w:=by
 obtain⟨g1,b,el,g2,g3,g4,g5⟩:=hR.hid d (by rw[hd];rfl);rw[hd]at g2 g3;have hb:∀t,z36 (e.alloc C.rt d (.val (.pointer (some ⟨b,0,none⟩))) t)=true->t≠d/\e.alloc C.rt d (.val (.pointer (some ⟨b,0,none⟩))) t=e t:=λt ht=>by
  have hn:t≠d:=λhh=>by subst hh;rw[Env.alloc_same]at ht;cases ht
  refine⟨hn,Env.alloc_ne hn λo ho=>?_⟩;unfold Env.alloc at ht;rw[z6o hn]at ht;simp only[cond_false,ho]at ht;cases hr:Nat.beq (C.rt t) d<;>rw[hr]at ht<;>cases ht
 refine⟨b,_,hk b el g4,⟨?_,hR.sz,hR.defers,hR.fr,?_,?_,?_,?_,?_,?_⟩⟩
 . intro k c hc;by_cases hkb:k=b
   . subst hkb;rw[Hp.ins_same]at hc;cases hc;exact g3
   . rw[Hp.ins_ne hkb]at hc;exact hR.sub k c hc
 . intro k h1 h2;by_cases hkb:k=b
   . subst hkb;rcases g5 with g5 | g5
     . exact g5
     . exact absurd h2 g5
   . rw[Hp.ins_ne hkb]at h1;exact hR.dom k h1 h2
 . intro t v ht;by_cases hn:t=d
   . subst hn;rw[Env.alloc_same]at ht;cases ht;exact g2
   . exact hR.vals t v (Env.alloc_val hn ht (by intro hh;cases hh)).1
 . intro t ht;obtain⟨hn,he⟩:=hb t ht;rw[he]at ht |-
   obtain⟨k1,b',el',k2,k3,k4,k5⟩:=hR.hid t ht;refine⟨k1,b',el',k2,k3,?_,k5⟩;have hbb:b'≠b:=λhh=>by
    subst hh;exact hn (hR.inj t d b' ht (by rw[hd];rfl) k2 (by rw[hd];exact g2))
   rw[Hp.ins_ne hbb];exact k4
 . intro t t' b' i1 i2 i3 i4;obtain⟨_,e1⟩:=hb t i1;obtain⟨_,e2⟩:=hb t' i2;rw[e1]at i1 i3;rw[e2]at i2 i4;exact hR.inj t t' b' i1 i2 i3 i4
 . intro t off ht;have hn:t≠d:=λhh=>by subst hh;rw[Env.alloc_same]at ht;cases ht
   obtain⟨h1,h2⟩:=Env.alloc_val hn ht (by intro hh;cases hh);obtain⟨cs',b',k1,k2,k3⟩:=hR.refs t off h1;refine⟨cs',b',?_,k2,k3⟩;rw[Env.alloc_ne (h2 off rfl) (by intro o ho;rw[k1]at ho;cases ho)];exact k1
 . intro t ht;have hn:t≠d:=λhh=>by subst hh;rw[Env.alloc_same]at ht;cases ht
   exact hR.mrs t (Env.alloc_val hn ht (by intro hh;cases hh)).1
theorem zsx:∀{L:List Nat} {K:Env->Hp->Prop} {e:Env} {h:Hp} {a:Act} {w:World},Rel C B e h a w->Zeg C L K e h ->
 ∃e' h',K e' h'/\Rel C B e' h' a w/\∀t,t∉L->Wx (e t) (e' t)
 | [],K,e,h,a,w,hR,hk=>⟨e,h,hk,hR,λ_ _=>Wx.refl _⟩
 | d :: r,K,e,h,a,w,hR,hk=>by
   unfold Zeg at hk;split at hk
   . rename_i cs hd;obtain⟨b,h',hk2,hR2⟩:=hR.pub hd hk;obtain⟨e2,h2,k1,k2,k3⟩:=zsx hR2 hk2;refine⟨e2,h2,k1,k2,λt ht=>?_⟩;have hn:t≠d:=λhh=>ht (by rw[hh];exact Ut)
     refine Wx.trans ?_ (k3 t λhh=>ht (Us _ hh));refine⟨λhb=>?_,λv hv=>?_⟩
     . rcases hb with ⟨cs',hc⟩ | ⟨m,hc⟩ | hc
       . exact Env.alloc_ne hn λo ho=>by rw[hc]at ho;cases ho
       . exact Env.alloc_ne hn λo ho=>by rw[hc]at ho;cases ho
       . exact Env.alloc_ne hn λo ho=>by rw[hc]at ho;cases ho
     . rw[Env.alloc_ne hn λo ho=>by rw[hv]at ho;cases ho];exact hv
   . exact hk.elim
theorem Z0n(hC:CfgOK C)(hBk:z2o C.P C.backs):∀(c:Code) (ro:Option Nat) (B:Base) (an:An) (K:Ex->Env->Hp->Prop) (e:Env) (h:Hp) (a:Act) (w:World),(ro=none\/Xi c=true)->B.nb<=B.w.heap.size->den C c an K e h->Rel C B e h a w ->
 c.wpIn (Yo ro) nn C.P (Out C B (qk C c) (z2b c) a e K) a w:=by
 intro c;induction c with
 | skip=>intro ro B an K e h a w hro hmk hk hR;exact wpIn_skip ⟨.normal,e,h,trivial,(by cases an<;>exact hk),hR,λ_ _=>Wx.refl _,λ_ _=>rfl⟩
 | exit j=>intro ro B an K e h a w hro hmk hk hR;exact wpIn_exit ⟨.exit j,e,h,rfl,(by cases an<;>exact hk),hR,λ_ _=>Wx.refl _,λ_ _=>rfl⟩
 | ret=>intro ro B an K e h a w hro hmk hk hR;exact wpIn_ret ⟨.ret,e,h,trivial,(by cases an<;>exact hk),hR,λ_ _=>Wx.refl _,λ_ _=>rfl⟩
 | region id ops draw=>
   intro ro B an K e h a w hro hmk hk hR;have hdst:∀(i:Nat) (o:Oper),ops[i]?=some o->∀d,o.dst=some d->d∈z2b (.region id ops draw):=λi o hi d hd=>by
    unfold z2b;rw[List.mem_flatMap];exact⟨o,by have:=Array.mem_of_getElem? hi;simpa using this,by rw[hd];simp⟩
   have hms:∀(i:Nat) (o:Oper),ops[i]?=some o->∀d∈Yt C o,d∈qk C (.region id ops draw):=λi o hi d hd=>by
    unfold qk;rw[List.mem_flatMap];exact⟨o,by have:=Array.mem_of_getElem? hi;simpa using this,Jq _ hd⟩
   have hQ:∀x a' w',zkm (z2b (.region id ops draw)) a (zjd C B (qk C (.region id ops draw)) e (K .normal)) x a' w'->Out C B (qk C (.region id ops draw)) (z2b (.region id ops draw)) a e K x a' w':=by
    rintro x a' w' ⟨⟨rfl,e',h',h1,h2,h3⟩,h4⟩;exact⟨.normal,e',h',trivial,h1,h2,h3,h4 rfl⟩
   cases draw with
   | false=>
     have hk':W4 C ops (K .normal) (List.range ops.size) e h:=by cases an<;>exact hk
     exact Y1 hQ (wpIn_region (zgj hdst (λ_ _=>rfl) (zk0 hC.tab hms (λ_ _ _ hh=>hh) hR hk')))
   | true=>
     have drawn:∀(order:List Nat) (K0:Env->Hp->Prop),zd8 C ops order=true->W4 C ops K0 order e h ->
      (Code.region id ops true).wpIn (Yo ro) nn C.P (zkm (z2b (.region id ops true)) a (zjd C B (qk C (.region id ops true)) e K0)) a w:=by
      intro order K0 hck hk;unfold zd8 at hck;simp only[Jv]at hck;obtain⟨⟨⟨⟨⟨⟨hm,hb⟩,hlen⟩,hnd⟩,hlt⟩,hall⟩,hp⟩:=hck;have hback:∀(i:Nat) (o:Oper),ops[i]?=some o->∀e∈o.after.toList,Tm .any e=true->e.on<i:=λi o hi ed hed hbd=>by
       unfold zdd at hb;rw[Jz]at hb;have his:i<ops.size:=by
        rcases Jo i ops.size with h1 | h1
        . exact h1
        . rw[Tg h1]at hi;cases hi
       have:=hb i (Uv.2 his);rw[hi]at this;simp only[Jz]at this;have:=this ed hed;rw[hbd]at this;simp only[Bool.not_true,Bool.false_or]at this;unfold T5 at this;have:=Ui this;omega
      have nd:∀{l:List Nat},zet l=true->l.Nodup:=by
       intro l;induction l with
       | nil=>intro _;exact List.nodup_nil
       | cons x r ih=>
         intro hh;simp only[zet,Jv]at hh;refine List.nodup_cons.2 ⟨λhm=>?_,ih hh.2⟩;rw[Q4.2 hm]at hh;simp at hh
      have hltN:∀i∈order,i<ops.size:=λi hi=>by
       have:=(Jz.1 hlt) i hi;unfold T5 at this;have:=Ui this;omega
      replace hlen:order.length<=ops.size:=Ui hlen;refine(wpIn_region_any hm (zb7 hdst (λ_ _=>rfl) (zk1 hC hms (λ_ _ _ hh=>hh) hback ops.size order (Lb ops.size false) e h a _ hlen (by simp) (nd hnd) (λi hi=>?_) hltN (λi o hi hl=>?_) hp
       (λ_ _=>Wx.refl _) hk hR.drew)))
      . have h1:(Lb ops.size false).getD i false=false:=by
         rw[Ug];simp[hi]
        have h2:=Q4.1 ((Jz.1 hall) i (Uv.2 hi));exact⟨λ_=>h2,λ_=>h1⟩
      . have h1:(Lb ops.size false).getD i false=false:=by
         rw[Ug];by_cases hi':i<ops.size<;>simp[hi']
        rw[h1]at hl;cases hl
     cases an with
     | draw order=>
       unfold den at hk;split at hk
       . rename_i hck;exact Y1 hQ (drawn order _ hck hk)
       . exact hk.elim
     | drawP order pubs=>
       unfold den at hk;split at hk
       . rename_i hck;obtain⟨hc1,hc2⟩:=Lh.1 hck;refine Y1 ?_ (drawn order _ hc1 hk);rintro x a' w' ⟨⟨rfl,e',h',h1,h2,h3⟩,h4⟩;obtain⟨e2,h5,k1,k2,k3⟩:=zsx h2 h1;refine⟨.normal,e2,h5,trivial,k1,k2,λt ht=>(h3 t ht).trans (k3 t λhm=>ht ?_),h4 rfl⟩;exact Q4.1 ((Jz.1 hc2) t hm)
       . exact hk.elim
     | drawC p b q as=>
       unfold den at hk;split at hk
       . rename_i hck;unfold zjq at hck;simp only[Jv]at hck;obtain⟨⟨⟨⟨⟨⟨⟨⟨⟨⟨⟨hm,hb⟩,hlen⟩,hnd⟩,hlt⟩,hall⟩,hp⟩,hq⟩,hpb⟩,hcl⟩,hld⟩,hsome⟩:=hck;obtain⟨ob,hob⟩:=Option.isSome_iff_exists.1 hsome;have hback:∀(i:Nat) (o:Oper),ops[i]?=some o->∀e∈o.after.toList,Tm .any e=true->e.on<i:=λi o hi ed hed hbd=>by
          unfold zdd at hb;rw[Jz]at hb;have his:i<ops.size:=by
           rcases Jo i ops.size with h1 | h1
           . exact h1
           . rw[Tg h1]at hi;cases hi
          have:=hb i (Uv.2 his);rw[hi]at this;simp only[Jz]at this;have:=this ed hed;rw[hbd]at this;simp only[Bool.not_true,Bool.false_or]at this;unfold T5 at this;have:=Ui this;omega
         have nd:∀{l:List Nat},zet l=true->l.Nodup:=by
          intro l;induction l with
          | nil=>intro _;exact List.nodup_nil
          | cons x r ih=>
            intro hh;simp only[zet,Jv]at hh;refine List.nodup_cons.2 ⟨λhm=>?_,ih hh.2⟩;rw[Q4.2 hm]at hh;simp at hh
         have hltN:∀i∈p++b :: q,i<ops.size:=λi hi=>by
          have:=(Jz.1 hlt) i hi;unfold T5 at this;have:=Ui this;omega
         have hlen:(p++b :: q).length<=ops.size:=Ui hlen;refine Y1 hQ (wpIn_region_any hm (zb7 hdst (λ_ _=>rfl) (zrq hC hob (λa ha oa hoa=>?_) hms (λ_ _ _ hh=>hh) hback ops.size p (Lb ops.size false) e h a _ hlen (by simp) (nd hnd) (λi hi=>?_) hltN (λi o hi hl=>?_) hp
          (Jz.1 hq) (λx hx=>?_) (zre hcl) (λ_ _=>Wx.refl _) hk hR.drew)))
         . have:=(Jz.1 hld) a ha;rw[hoa]at this;simp only at this;cases hc:Vi C oa with
           | load=>rfl
           | _=>rw[hc]at this;cases this
         . have h1:(Lb ops.size false).getD i false=false:=by
            rw[Ug];simp[hi]
           have h2:=Q4.1 ((Jz.1 hall) i (Uv.2 hi));exact⟨λ_=>h2,λ_=>h1⟩
         . have h1:(Lb ops.size false).getD i false=false:=by
            rw[Ug];by_cases hi':i<ops.size<;>simp[hi']
           rw[h1]at hl;cases hl
         . have:=(Jz.1 hpb) x hx;rw[Pq,Jv]at this;exact this
       . exact hk.elim
     | _=>exact hk.elim
 | seq x y ihx ihy=>
   intro ro B an K e h a w hro hmk hk hR;have rx:ro=none\/Xi x=true:=hro.imp id λhh=>by unfold Xi at hh;exact(Lh.1 hh).1
   have ry:ro=none\/Xi y=true:=hro.imp id λhh=>by unfold Xi at hh;exact(Lh.1 hh).2
   have tail:∀(Kx:Ex->Env->Hp->Prop),x.wpIn (Yo ro) nn C.P (Out C B (qk C x) (z2b x) a e Kx) a w ->
    (∀e' h' a' w',Kx .normal e' h'->Rel C B e' h' a' w'->(∀t,t∉qk C x->Wx (e t) (e' t))->(∀t,t∉z2b x->a'.tmps[t]?=a.tmps[t]?)->y.wpIn (Yo ro) nn C.P (Out C B (qk C (.seq x y)) (z2b (.seq x y)) a e K) a' w') ->
    (∀ex e' h',ex≠.normal->Kx ex e' h'->K ex e' h')->(Code.seq x y).wpIn (Yo ro) nn C.P (Out C B (qk C (.seq x y)) (z2b (.seq x y)) a e K) a w:=by
    intro Kx hx hn ho;refine wpIn_seq (Y1 ?_ hx);rintro xx a' w' ⟨ex,e',h',hm,hK,hR',hkp,htk⟩;cases xx with
    | normal=>
      cases ex<;>first | (exact hm.elim) | skip
      exact hn e' h' a' w' hK hR' hkp htk
    | _=>
      cases ex<;>first | (exact hm.elim) | skip
      all_goals exact⟨_,e',h',hm,ho _ _ _ (by simp) hK,hR',(λt ht=>hkp t λhh=>ht (Jq _ hh)),λt ht=>htk t λhh=>ht (Jq _ hh)⟩
   cases an with
   | seq a1 a2=>
     unfold den at hk;refine tail _ (ihx ro B a1 _ e h a w rx hmk hk hR) ?_ ?_
     . intro e' h' a' w' hK hR' hkp htk;refine Y1 ?_ (ihy ro B a2 K e' h' a' w' ry hmk hK hR');rintro xx a'' w'' ⟨ex,e'',h'',hm,hK,hR'',hkp',htk'⟩;exact⟨ex,e'',h'',hm,hK,hR'',(λt ht=>(hkp t λhh=>ht (Jq _ hh)).trans (hkp' t λhh=>ht (Un _ hh))),
        λt ht=>(htk' t λhh=>ht (Un _ hh)).trans (htk t λhh=>ht (Jq _ hh))⟩
     . intro ex e' h' hne hK;cases ex<;>first | (exact absurd rfl hne) | exact hK
   | join L a1 a2=>
     unfold den at hk;obtain⟨J,hJ,hx⟩:=hk;refine tail _ (ihx ro B a1 _ e h a w rx hmk hx hR) ?_ ?_
     . intro e' h' a' w' hK hR' hkp htk;obtain⟨s,hs,hJs⟩:=z7d hK;refine Y1 ?_ (ihy ro B a2 K _ h' a' w' ry hmk (hJ s h' hJs) (hR'.atMk hs hkp));rintro xx a'' w'' ⟨ex,e'',h'',hm,hK,hR'',hkp',htk'⟩;exact⟨ex,e'',h'',hm,hK,hR'',(λt ht=>(zj3 hs hkp λhh=>ht (Jq _ hh)).trans (hkp' t λhh=>ht (Un _ hh))),
        λt ht=>(htk' t λhh=>ht (Un _ hh)).trans (htk t λhh=>ht (Jq _ hh))⟩
     . intro ex e' h' hne hK;cases ex<;>first | (exact absurd rfl hne) | exact hK
   | _=>exact hk.elim
 | cond c x y ihx ihy=>
   intro ro B an K e h a w hro hmk hk hR;cases an with
   | cond a1 a2=>
     unfold den at hk;replace hk:=yf hR hk;split at hk
     . rename_i t ht;refine wpIn_cond ht ?_;cases t with
       | true=>
         refine Y1 ?_ (ihx ro B a1 K e h a w (hro.imp id λhh=>by unfold Xi at hh;exact(Lh.1 hh).1) hmk hk hR);rintro xx a' w' ⟨ex,e',h',hm,hK,hR',hkp,htk⟩;exact⟨ex,e',h',hm,hK,hR',(λt ht=>hkp t λhh=>ht (Jq _ hh)),λt ht=>htk t λhh=>ht (Jq _ hh)⟩
       | false=>
         refine Y1 ?_ (ihy ro B a2 K e h a w (hro.imp id λhh=>by unfold Xi at hh;exact(Lh.1 hh).2) hmk hk hR);rintro xx a' w' ⟨ex,e',h',hm,hK,hR',hkp,htk⟩;exact⟨ex,e',h',hm,hK,hR',(λt ht=>hkp t λhh=>ht (Un _ hh)),λt ht=>htk t λhh=>ht (Un _ hh)⟩
     . exact hk.elim
   | _=>exact hk.elim
 | block id x ih=>
   intro ro B an K e h a w hro hmk hk hR;cases an with
   | block a1=>
     unfold den at hk;refine wpIn_block (Y1 ?_ (ih ro B a1 _ e h a w (hro.imp (λhh=>hh) λhh=>hh) hmk hk hR));rintro xx a' w' ⟨ex,e',h',hm,hK,hR',hkp,htk⟩;cases xx with
     | exit j=>
       cases ex<;>first | (exact hm.elim) | skip
       rename_i i;have hij:i=j:=hm;subst hij;simp only[Exit.inBlock];by_cases hi:i=id
       . subst hi;simp only[zjl]at hK;rw[if_pos rfl];exact⟨.normal,e',h',trivial,hK,hR',hkp,htk⟩
       . simp only[z6o hi]at hK;rw[if_neg hi];exact⟨.exit i,e',h',rfl,hK,hR',hkp,htk⟩
     | _=>
       cases ex<;>first | (exact hm.elim) | skip
       all_goals exact⟨_,e',h',hm,hK,hR',hkp,htk⟩
   | _=>exact hk.elim
 | loop x ih=>
   intro ro B an K e h a w hro hmk hk hR;cases an with
   | loop L a1=>
     unfold den at hk;obtain⟨s0,hs0,hl⟩:=z7d hk;obtain⟨I,μ,hI0,hround⟩:=hl;refine Z2p (σ:=zbp L×Hp) (λp a' w=>I p.1 p.2/\Rel C B (Qb e (qk C x) L p.1) p.2 a' w/\(∀t,t∉qk C x->Wx (e t) (Qb e (qk C x) L p.1 t))/\∀t,t∉z2b x->a'.tmps[t]?=a.tmps[t]?) (λp=>μ p.1 p.2)
      ?_ (s:=(s0,h)) ⟨hI0,hR.atMk hs0 (λ_ _=>Wx.refl _),(λt ht=>zj3 hs0 (λ_ _=>Wx.refl _) ht),λ_ _=>rfl⟩
     rintro⟨s,h1⟩ a' w' ⟨hI,hR',hkp0,htk0⟩;refine Y1 ?_ (ih ro B a1 _ _ h1 a' w' (hro.imp id λhh=>hh) hmk (hround s h1 hI) hR');rintro xx a'' w'' ⟨ex,e'',h'',hm,hK,hR'',hkp,htk⟩;have htk2:∀t,t∉z2b x->a''.tmps[t]?=a.tmps[t]?:=λt ht=>(htk t ht).trans (htk0 t ht)
     have hkp2:∀t,t∉qk C x->Wx (e t) (e'' t):=λt ht=>(hkp0 t ht).trans (hkp t ht)
     cases xx with
     | normal=>
       cases ex<;>first | (exact hm.elim) | skip
       obtain⟨s',hs',hI',hlt⟩:=z7d hK;exact⟨(s',h''),⟨hI',hR''.atMk hs' hkp2,(λt ht=>zj3 hs' hkp2 ht),htk2⟩,hlt⟩
     | _=>
       cases ex<;>first | (exact hm.elim) | skip
       all_goals exact⟨_,e'',h'',hm,hK,hR'',hkp2,htk2⟩
   | _=>exact hk.elim
 | rangeFunc g ps x y ihx ihy=>
   intro ro B an K e h a w hro hmk hk hR;have hro':ro=none:=hro.resolve_right (by unfold Xi;decide);subst hro';obtain⟨pl⟩:=ps
   match pl,an,hk with
   | [p0,p1],.back L b1 b2,hk=>
     exact zut hBk hmk (λnx B l an K e h a w hm hk hR=>ihx (some l) B an K e h a w (.inr nx) hm hk hR) (λny B l an K e h a w hm hk hR=>ihy (some l) B an K e h a w (.inr ny) hm hk hR) hk hR
 | _=>intro ro B an K e h a w hro hmk hk hR;cases an<;>exact hk.elim
def zq0(tmps:Array Value):ResultVar->Sem Value
 | .tmp t=>Pure.pure (tmps.getD t undef)
 | .cell ad t=>do loadVar t (<-asAddr (tmps.getD ad undef))
theorem Zaa{rs:List ResultVar}{e:Env}{h:Hp}{a:Act}{w:World}(hR:Rel C B e h a w):∀{K:List Value->Prop},zx3 C rs e K ->
 ∃vs,K vs/\(rs.mapM (zq0 a.tmps)).run C.P w=.ok vs w:=by
 induction rs with
 | nil=>intro K hk;exact⟨[],hk,by simp⟩
 | cons r rs ih=>
   intro K hk;cases r with
   | tmp t=>
     unfold zx3 at hk;split at hk
     . rename_i v hv;obtain⟨vs,h1,h2⟩:=ih hk;refine⟨v :: vs,h1,?_⟩;have:a.tmps.getD t undef=v:=by rw[Ug,hR.vals t v hv];rfl
       simp only[List.mapM_cons,Jg,zq0,this,Ji,Jb,h2]
     . exact hk.elim
   | cell t ty=>
     unfold zx3 at hk;split at hk
     . rename_i cs hb;obtain⟨b,el,h3,h4⟩:∃b el,a.tmps[t]?=some (.pointer (some ⟨b,0,none⟩))/\w.heap[b]?=some (.cells cs.toArray el (0,0)):=by
        obtain⟨_,b,el,h1,h2,_,_⟩:=hR.hid t (by rw[hb];rfl);rw[hb]at h1 h2;exact⟨b,el,h1,h2⟩
       obtain⟨v,hv,hrun⟩:=zev (P:=C.P) h4 hk;obtain⟨vs,h1,h2⟩:=ih hv;refine⟨v :: vs,h1,?_⟩;have:a.tmps.getD t undef=.pointer (some ⟨b,0,none⟩):=by rw[Ug,h3];rfl
       simp only[List.mapM_cons,Jg,zq0,this,asAddr,Ji,Jb,hrun,h2]
     . exact hk.elim
theorem Z96(hC:CfgOK C)(hBk:z2o C.P C.backs){g:FuncId}{fn:Func}{c:Code}{an:An}(hf:C.P.funcs[g]?=some fn)(hb:fn.body=some c)(hn:fn.ntmps=C.n)
 {args:List Value} (ha:args.length<=C.n) {K:Value->Hp->Prop} {D:Hp} {w:World} (hs:Sub D w) (hk:zvc C fn c an args K D):Calls C.P g args.toArray w (z6a K D w):=by
 refine(callsIn_wide (n:=0)).1 (callsIn_of_wp_marks hf hb trivial ?_);have hR:Rel C ⟨D,w,w.heap.size⟩ (zwf args) D { tmps:=args.toArray++Lb (fn.ntmps-args.toArray.size) undef,defers:=[] } w:=by
  have hb:∀t,z36 (zwf args t)=true->False:=λt ht=>by unfold zwf at ht;split at ht<;>cases ht
  refine⟨hs,by simp[hn];omega,trivial,Fr.refl D w,λk h1 h2=>absurd h2 h1,λt v hv=>?_,λt ht=>(hb t ht).elim,λt t' b ht=>(hb t ht).elim,λt off ht=>?_,λt ht=>?_⟩
  . unfold zwf at hv;split at hv
    . rename_i u hu;cases hv;have hlt:t<args.length:=by
       rcases Jo t args.length with h1 | h1
       . exact h1
       . rw[J5 h1]at hu;cases hu
      simp only;rw[Array.getElem?_append_left (by simpa using hlt)];simpa using hu
    . cases hv
  . unfold zwf at ht;split at ht<;>cases ht
  . unfold zwf at ht;split at ht<;>cases ht
 unfold zvc at hk;refine Y1 (ro:=none) ?_ (Z0n hC hBk c none _ an _ _ D _ w (.inl rfl) (Ja _) hk hR);rintro x a' w' ⟨ex,e',h',hm,hK,hR',_,_⟩;have fin:∀(ds:List Deferred) (w1:World),Rel C ⟨D,w,w.heap.size⟩ e' h' { a' with defers:=ds } w1->zx3 C fn.results.toList e' (λvs=>K (Zab vs) h')->LeavesInM Fence.wide 0 C.P fn a'.tmps (z6a K D w) ds .returning w1:=by
  intro ds;induction ds with
  | nil=>
    intro w1 hR1 hh;obtain⟨vs,h1,h2⟩:=Zaa hR1 hh;refine⟨Zab vs,?_,Zab vs,h',rfl,h1,hR1.sub,hR1.fr,hR1.dom⟩;have hres:results fn a'.tmps=(do
     let vs <-fn.results.mapM (zq0 a'.tmps)
     Pure.pure (if h:vs.size=1 then vs[0]else .tuple vs)):=rfl
    rw[hres,Jg,Array.mapM_eq_mapM_toList,Sem.run_map,h2];simp only[Jb,Ji];congr 1
    match vs with
    | []=>rfl
    | [v]=>rfl
    | u :: v :: r=>simp[Zab]
  | cons d ds ih=>
    intro w1 hR1 hh;obtain⟨⟨r,hd,hr1,hr2,hr3⟩,hms⟩:=hR1.defers;refine⟨by simp,.inl ⟨r,_,by rw[hd],run_takeDeferred hr2,ih _ ?_ hh⟩⟩;have hne:∀(k:Nat) (o:Obj),w1.heap[k]?=some o->k≠r->(w1.putObj r (.deferred none)).heap[k]?=some o:=λk o hk hkr=>by
     rw[Tn hkr];exact hk
    have hmarks:∀ds:List Deferred,(∀d'∈ds,d'≠d)->z5o w.heap.size w1 ds->z5o w.heap.size (w1.putObj r (.deferred none)) ds:=by
     intro ds;induction ds with
     | nil=>intro _ _;trivial
     | cons d2 ds ih2=>
       rintro hnd ⟨⟨r2,g1,g2,g3,g4⟩,g5⟩;refine⟨⟨r2,g1,g2,hne r2 _ g3 (λhx=>?_),g4⟩,ih2 (λd' hd'=>hnd d' (Us _ hd')) g5⟩;exact hnd d2 Ut (by rw[g1,hd,hx])
    have hcell:∀(k:Nat) (c:Array Value) (el:TypeId) (f:Nat×Nat),w1.heap[k]?=some (.cells c el f)->(w1.putObj r (.deferred none)).heap[k]?=some (.cells c el f):=λk c el f hk=>
     hne k _ hk (λhx=>by rw[hx,hr2]at hk;cases hk)
    refine⟨λk b hb=>hcell k _ _ _ (hR1.sub k b hb),hR1.sz,hmarks ds hr3 hms,?_,hR1.dom,hR1.vals,λt ht=>?_,hR1.inj,hR1.refs,hR1.mrs⟩
    . obtain⟨x1,x2,x3,x4,x5,x6⟩:=hR1.fr;refine⟨by rw[World.putObj_size];exact x1,λk hk hD=>?_,x3,x4,x5,x6⟩;have hr1':w.heap.size<=r:=hr1;have hk':k<w.heap.size:=hk;rw[Tn (by omega)];exact x2 k hk hD
    . obtain⟨g1,b,el,g2,g3,g4,g5⟩:=hR1.hid t ht;exact⟨g1,b,el,g2,g3.mono λo hp hoo=>hne b o hoo (λhx=>by subst hx;rw[hr2]at hoo;cases hoo;exact hp),g4,g5⟩
 have hRd:Rel C ⟨D,w,w.heap.size⟩ e' h' { a' with defers:=a'.defers } w':=hR';cases x with
 | normal=>
   cases ex<;>first | (exact hm.elim) | skip
   exact fin a'.defers w' hRd hK
 | ret=>
   cases ex<;>first | (exact hm.elim) | skip
   exact fin a'.defers w' hRd hK
 | exit j=>
   cases ex<;>first | (exact hm.elim) | skip
   exact hK.elim
 | _=>cases ex<;>exact hm.elim
end
end Den
end

section
namespace Den
open Go
structure Ty(α:Type) where
 up:α->Value
 dn:Value->(α->Prop)->Prop
 snd:∀v K,dn v K->∃x,v=up x/\K x
 cmp:∀x K,dn (up x) K↔K x
structure ArgT(α:Type) where
 up:α->List Value
 dn:List Value->(α->Prop)->Prop
 snd:∀v K,dn v K->∃x,v=up x/\K x
 cmp:∀x K,dn (up x) K↔K x
def mkE{α ρ:Type}(A:ArgT α)(R:Ty ρ)(F:α->(ρ->Hp->Prop)->Hp->Prop):zj:=λargs K h=>
 A.dn args λa=>zc (F a) (λr=>K (R.up r)) h
def mkM{α ρ:Type}(A:ArgT α)(R:Ty ρ)(F:α->(ρ->Hp->Prop)->Hp->Prop):zj:=λargs K h=>
 A.dn args λa=>Qu (F a) (λr=>K (R.up r)) h
structure Entry(P:Program)(g:Nat)(F:zj)(m:Bool):Prop where
 fn:Zd6 P g F
 like:m=false->∀args,zje (F args)
 mono:∀args K K' h,(∀v h,K v h->K' v h)->F args K h->F args K' h
def Tab(C:Cfg):List (Nat×zj)->Prop
 | []=>True
 | (g,F) :: r=>Entry C.P g F (z06 g C.mutL)/\Tab C r
theorem Tab.ok{C:Cfg}:∀{l:List (Nat×zj)},Tab C l->zb9 C l
 | [],_=>trivial
 | (_,_) :: _,h=>⟨h.1.fn,h.1.like,Tab.ok h.2⟩
theorem Tab.mono{C:Cfg}:∀{l:List (Nat×zj)},Tab C l->∀g args K K' h,(∀v h,K v h->K' v h)->ze9 g l args K h->ze9 g l args K' h
 | [],_,_,_,_,_,_,_,hk=>hk
 | (g',F) :: r,ht,g,args,K,K',h,hkk,hk=>by
   unfold ze9 at *;by_cases hg:g=g'
   . subst hg;rw[zjl]at *;exact ht.1.mono args K K' h hkk hk
   . rw[z6o hg]at *;exact Tab.mono ht.2 g args K K' h hkk hk
theorem CfgOK.of{C:Cfg}(h:Tab C C.tab):CfgOK C:=⟨h.ok,h.mono⟩
section
variable {α ρ : Type} {A : ArgT α} {R : Ty ρ} {F : α → (ρ → Hp → Prop) → Hp → Prop} {P : Program} {g : Nat}
theorem zkc{K:Value->Hp->Prop}{D O:Hp}{Q:ρ->Hp->Prop}{w:World}(hdj:D.dj O)(hs:Sub (D.add O) w)
 (hq:∀v D',Q v D'->D'.dj O->(D'.add O).Fin->K (R.up v) (D'.add O)):∀e w',z6a (λv h=>R.dn v λr=>Q r h) D w e w'->z6a K (D.add O) w e w':=by
 rintro e w' ⟨v,D',rfl,hv,hs',hf,hd⟩;obtain⟨r,rfl,hr⟩:=R.snd _ _ hv;have hO:∀k b,O k=some b->D k=none/\w.heap[k]?=some (.cells b.cells.toArray b.elem b.fz)/\k<w.heap.size:=λk b hb=>by
  have h1:D k=none:=by
   rcases hdj k with h1 | h1
   . exact h1
   . rw[h1]at hb;cases hb
  have h2:(D.add O) k=some b:=by simp[Hp.add,h1,hb]
  exact⟨h1,hs k b h2,hs.lt h2⟩
 have hdj':D'.dj O:=λk=>by
  cases hb:O k with
  | none=>exact .inr rfl
  | some b=>
    obtain⟨h1,_,h3⟩:=hO k b hb;left;cases hk:D' k with
    | none=>rfl
    | some x=>have:=hd k (by simp[hk]) h1;omega
 suffices hsub:Sub (D'.add O) w' from by
  refine⟨R.up r,D'.add O,rfl,hq r D' hr hdj' hsub.fin,hsub,?_,λk h1 h2=>?_⟩
  . exact⟨hf.1,λk h1 h2=>hf.2.1 k h1 (Hp.add_none.1 h2).1,hf.2.2⟩
  . rw[Hp.add_none]at h2;refine hd k (λhh=>h1 ?_) h2.1;rw[Hp.add_none];exact⟨hh,h2.2⟩
 intro k b hk
 . cases hk':D' k with
   | some x=>
     have:(D'.add O) k=some x:=by simp[Hp.add,hk']
     rw[this]at hk;cases hk;exact hs' k _ hk'
   | none=>
     have:(D'.add O) k=O k:=by simp[Hp.add,hk']
     rw[this]at hk;obtain⟨h1,h2,h3⟩:=hO k b hk;rw[hf.2.1 k h3 h1];exact h2
theorem Ys(hfn:∃fn,P.funcs[g]?=some fn/\fn.body.isNone=false/\(fn.name == "runtime.NumGoroutine")=false)
 (hb:∀a K D w,Sub D w->F a K D->Calls P g (A.up a).toArray w (z6a (λv h=>R.dn v λr=>K r h) D w)):Entry P g (mkE A R F) false where
 fn:=by
  refine⟨hfn,λargs K h w hs hk=>?_⟩;obtain⟨a,rfl,D,O,Q,h1,rfl,h3,h4⟩:=A.snd _ _ hk;exact(hb a Q D w (hs.mono (Hp.le_add D O)) h3).mono (zkc h1 hs λv D' hq hd hfin=>(h4 v D' hq).2 hd hfin)
 like:=λ_ args=>by
  by_cases hx:∃a,args=A.up a
  . obtain⟨a,rfl⟩:=hx;exact .inl ⟨ρ,F a,R.up,λK h=>A.cmp a _⟩
  . refine .inr λK h hk=>hx ?_
    obtain⟨a,ha,_⟩:=A.snd _ _ hk;exact⟨a,ha⟩
 mono:=λargs K K' h hkk hk=>by
  obtain⟨a,rfl,hc⟩:=A.snd _ _ hk;exact(A.cmp a _).2 (z2w (λv h' hh _ _=>hkk _ _ hh) hc)
theorem z4k(hfn:∃fn,P.funcs[g]?=some fn/\fn.body.isNone=false/\(fn.name == "runtime.NumGoroutine")=false)
 (hb:∀a K D w,Sub D w->F a K D->Calls P g (A.up a).toArray w (z6a (λv h=>R.dn v λr=>K r h) D w)):Entry P g (mkM A R F) true where
 fn:=by
  refine⟨hfn,λargs K h w hs hk=>?_⟩;obtain⟨a,rfl,D,O,Q,h1,rfl,h3,h4⟩:=A.snd _ _ hk;exact(hb a Q D w (hs.mono (Hp.le_add D O)) h3).mono (zkc h1 hs λv D' hq hd _=>h4 v D' hq hd)
 like:=λhh=>by cases hh
 mono:=λargs K K' h hkk hk=>by
  obtain⟨a,rfl,hc⟩:=A.snd _ _ hk;exact(A.cmp a _).2 (zuy (λv h' hh=>hkk _ _ hh) hc)
theorem z0p{C:Cfg}(hC:Tab C C.tab)(hBk:z2o C.P C.backs){fn:Func}{c:Code}{an:An}(hf:C.P.funcs[g]?=some fn)(hb:fn.body=some c)(hn:fn.ntmps=C.n)
 (ha:∀a,Nat.ble (A.up a).length C.n=true) (hF:∀a K D,zvc C fn c an (A.up a) (λv h=>R.dn v λr=>K r h) D=F a K D) :
 ∀a K D w,Sub D w->F a K D->Calls C.P g (A.up a).toArray w (z6a (λv h=>R.dn v λr=>K r h) D w):=λa K D w hs hk=>
 Z96 (CfgOK.of hC) hBk hf hb hn (Ui (ha a)) hs (by rw[hF];exact hk)
theorem Z94{C:Cfg}(hC:Tab C C.tab)(hBk:z2o C.P C.backs){fn:Func}{c:Code}{an:An}(hf:C.P.funcs[g]?=some fn)(hb:fn.body=some c)(hn:fn.ntmps=C.n)
 (hname:(fn.name == "runtime.NumGoroutine")=false) (ha:∀a,Nat.ble (A.up a).length C.n=true)
 (hF:∀a K D,zvc C fn c an (A.up a) (λv h=>R.dn v λr=>K r h) D=F a K D):Entry C.P g (mkE A R F) false:=
 Ys ⟨fn,hf,by rw[hb];rfl,hname⟩ (z0p hC hBk hf hb hn ha hF)
theorem Z0t{C:Cfg}(hC:Tab C C.tab)(hBk:z2o C.P C.backs){fn:Func}{c:Code}{an:An}(hf:C.P.funcs[g]?=some fn)(hb:fn.body=some c)(hn:fn.ntmps=C.n)
 (hname:(fn.name == "runtime.NumGoroutine")=false) (ha:∀a,Nat.ble (A.up a).length C.n=true)
 (hF:∀a K D,zvc C fn c an (A.up a) (λv h=>R.dn v λr=>K r h) D=F a K D):Entry C.P g (mkM A R F) true:=
 z4k ⟨fn,hf,by rw[hb];rfl,hname⟩ (z0p hC hBk hf hb hn ha hF)
end
end Den
end

section
namespace Den
open Go
def Ty.leaf(l:Lf):Ty l.T where
 up:=l.up
 dn:=l.dn
 snd _ _ h:=Lf.dn_iff.1 h
 cmp x K:=⟨λh=>by
  obtain⟨y,h1,h2⟩:=Lf.dn_iff.1 h;have:x=y:=by
   cases l with
   | int k=>injection h1
   | bool=>injection h1
   | str=>injection h1
   | ptr=>injection h1
   | val=>exact h1
   | sl=>injection h1 with h1 h3 h4;cases x;cases y;simp only at h1 h3 h4;subst h1 h3 h4;rfl
  exact this▸h2,λh=>Lf.dn_iff.2 ⟨x,rfl,h⟩⟩
theorem Lf.up_inj{l:Lf}{x y:l.T}(h:l.up x=l.up y):x=y:=
 ((Ty.leaf l).cmp x (λz=>z=y)).1 (Lf.dn_iff.2 ⟨y,h,rfl⟩)
theorem LT.up_inj:∀{ls:List Lf} {x y:LT ls},LT.up ls x=LT.up ls y->x=y
 | [],_,_,_=>rfl
 | _ :: _,x,y,h=>by
   injection h with h1 h2
   exact Prod.ext (Lf.up_inj h1) (LT.up_inj h2)
def Ty.agg{α:Type}(ls:List Lf)(f:α->LT ls)(g:LT ls->α)(h1:∀x,g (f x)=x)(h2:∀y,f (g y)=y):Ty α where
 up x:=.agg (LT.up ls (f x)).toArray
 dn v K:=match v with
  | .agg cs=>LT.dn ls cs.toList λy=>K (g y)
  | _=>False
 snd v K h:=by
  cases v<;>simp only at h<;>try exact h.elim
  obtain⟨y,h3,h4⟩:=LT.dn_iff.1 h;exact⟨g y,by rw[h2,<-h3],h4⟩
 cmp x K:=⟨λh=>by
  obtain⟨y,h3,h4⟩:=LT.dn_iff.1 h;rw[<-LT.up_inj h3,h1]at h4;exact h4,λh=>LT.dn_iff.2 ⟨f x,rfl,by rw[h1];exact h⟩⟩
def ArgT.nil:ArgT Unit where
 up _:=[]
 dn vs K:=match vs with | []=>K () | _=>False
 snd vs K h:=by cases vs<;>simp only at h;exact⟨(),rfl,h⟩
 cmp _ _:=Iff.rfl
def ArgT.cons{α β:Type}(T:Ty α)(A:ArgT β):ArgT (α×β) where
 up x:=T.up x.1 :: A.up x.2
 dn vs K:=match vs with | v :: r=>T.dn v λx=>A.dn r λy=>K (x,y) | _=>False
 snd vs K h:=by
  cases vs<;>simp only at h
  obtain⟨x,rfl,h1⟩:=T.snd _ _ h;obtain⟨y,rfl,h2⟩:=A.snd _ _ h1;exact⟨(x,y),rfl,h2⟩
 cmp x K:=by
  show T.dn (T.up x.1) _↔_;rw[T.cmp,A.cmp]
def ArgT.fn{α:Type}(g:Nat)(A:ArgT α):ArgT α where
 up x:=.func (.func g) #[] #[] :: A.up x
 dn vs K:=match vs with
  | .func (.func g') ⟨[]⟩ ⟨[]⟩ :: r=>(match decide (g'=g)with | true=>A.dn r K | false=>False)
  | _=>False
 snd vs K h:=by
  split at h
  . split at h
    . rename_i hg;obtain⟨y,rfl,h2⟩:=A.snd _ _ h;rw[of_decide_eq_true hg];exact⟨y,rfl,h2⟩
    . exact h.elim
  . exact h.elim
 cmp x K:=by
  show(match decide (g=g)with | true=>A.dn (A.up x) K | false=>False)↔_;rw[decide_eq_true (rfl:g=g)];exact A.cmp x K
def Ty.tup{α β:Type}(A:ArgT α)(f:β->α)(g:α->β)(h1:∀x,g (f x)=x)(h2:∀y,f (g y)=y):Ty β where
 up x:=.tuple (A.up (f x)).toArray
 dn v K:=match v with
  | .tuple vs=>A.dn vs.toList λy=>K (g y)
  | _=>False
 snd v K h:=by
  cases v<;>simp only at h<;>try exact h.elim
  obtain⟨y,h3,h4⟩:=A.snd _ _ h;exact⟨g y,by rw[h2,<-h3],h4⟩
 cmp x K:=by
  show A.dn (A.up (f x)) _↔_;rw[A.cmp,h1]
def zuz:Nat->Type
 | 0=>Unit
 | n+1=>Option Addr×zuz n
def zmz:(n:Nat)->zuz n->List Value
 | 0,_=>[]
 | n+1,x=>.pointer x.1 :: zmz n x.2
def zhw:(n:Nat)->List Value->(zuz n->Prop)->Prop
 | 0,[],K=>K ()
 | n+1,.pointer c :: r,K=>zhw n r λx=>K (c,x)
 | _,_,_=>False
theorem zyu:∀{n:Nat} {l:List Value} {K:zuz n->Prop},zhw n l K->∃x,l=zmz n x/\K x
 | 0,[],K,h=>⟨(),rfl,h⟩
 | n+1,.pointer c :: r,K,h=>by
   obtain⟨x,h1,h2⟩:=zyu (n:=n) (l:=r) h;exact⟨(c,x),by rw[h1];rfl,h2⟩
 | 0,_ :: _,_,h=>by simp[zhw]at h
 | n+1,[],_,h=>by simp[zhw]at h
theorem zyt:∀{n:Nat} {x:zuz n} {K:zuz n->Prop},zhw n (zmz n x) K↔K x
 | 0,_,_=>Iff.rfl
 | n+1,x,K=>by
   show zhw n (zmz n x.2) (λy=>K (x.1,y))↔_;rw[zyt];exact Iff.rfl
def ArgT.fnc{α:Type}(g n:Nat)(A:ArgT α):ArgT (zuz n×α) where
 up x:=.func (.func g) #[] (zmz n x.1).toArray :: A.up x.2
 dn vs K:=match vs with
  | .func (.func g') ⟨[]⟩ cs :: r=>(match decide (g'=g)with | true=>zhw n cs.toList λc=>A.dn r λy=>K (c,y) | false=>False)
  | _=>False
 snd vs K h:=by
  split at h
  . split at h
    . rename_i hg;obtain⟨c,h1,h2⟩:=zyu h;obtain⟨y,rfl,h3⟩:=A.snd _ _ h2;rw[of_decide_eq_true hg];exact⟨(c,y),by rw[<-h1],h3⟩
    . exact h.elim
  . exact h.elim
 cmp x K:=by
  show(match decide (g=g)with | true=>zhw n (zmz n x.1).toArray.toList (λc=>A.dn (A.up x.2) λy=>K (c,y)) | false=>False)↔_;rw[decide_eq_true (rfl:g=g)];simp only;rw[zyt,A.cmp]
def Zsw(i g1:Nat)(e1 e2:zj):zj:=λargs=>
 match args[i]? with
 | some (.func (.func g) _ _)=>bif Nat.beq g g1 then e1 args else e2 args
 | _=>e2 args
def Ty.clo(g:Nat):Ty Addr where
 up a:=.func (.func g) #[] #[.pointer (some a)]
 dn v K:=match v with
  | .func (.func g') ⟨[]⟩ ⟨[.pointer (some a)]⟩=>(match decide (g'=g)with | true=>K a | false=>False)
  | _=>False
 snd v K h:=by
  split at h
  . split at h
    . rename_i hg;rw[of_decide_eq_true hg];exact⟨_,rfl,h⟩
    . exact h.elim
  . exact h.elim
 cmp x K:=by
  show(match decide (g=g)with | true=>K x | false=>False)↔_;rw[decide_eq_true (rfl:g=g)]
def Ty.unit:Ty Unit where
 up _:=.tuple #[]
 dn v K:=match v with | .tuple ⟨[]⟩=>K () | _=>False
 snd v K h:=by split at h;exact⟨(),rfl,h⟩;exact h.elim
 cmp _ _:=Iff.rfl
end Den
end

section
namespace Den
open Go
def zf:Sl:=⟨none,0,0⟩
def Y3:ByteArray:=.empty
section
variable {α : Type} {G : (α → Hp → Prop) → Hp → Prop} {K : α → Hp → Prop} {h : Hp}
theorem zd(R:α->Hp->Prop)(H:∀K':α->Hp->Prop,(∀v h',h.le h'->R v h'->K' v h')->G K' h)(k:∀v h',h.le h'->R v h'->K v h'):zc G K h:=
 ⟨h,Hp.emp,λv h'=>h.le h'/\R v h',h.dj_emp,h.add_emp.symm,H _ (λv h' h1 h2=>⟨h1,h2⟩),
  λv D' hq=>⟨hq.1,λ_ _=>by rw[Hp.add_emp];exact k v D' hq.1 hq.2⟩⟩
theorem zx(v:α)(H:∀K':α->Hp->Prop,K' v h->G K' h)(k:K v h):zc G K h:=
 ⟨h,Hp.emp,λv' h'=>v'=v/\h'=h,h.dj_emp,h.add_emp.symm,H _ ⟨rfl,rfl⟩,λv' D' hq=>by
  obtain⟨rfl,rfl⟩:=hq;exact⟨Hp.le_refl _,λ_ _=>by rw[Hp.add_emp];exact k⟩⟩
theorem Xm(H:G K h):Qu G K h:=
 ⟨h,Hp.emp,K,h.dj_emp,h.add_emp.symm,H,λv D' hq _=>by rw[Hp.add_emp];exact hq⟩
end
theorem zs9{S:Type}{k:S->Hp->Prop}{body:(S->Hp->Prop)->Prop}(H:body k):zv k body:=⟨k,λ_ _ h=>h,H⟩
theorem zh{S:Type}{k:S->Hp->Prop}{body:(S->Hp->Prop)->Prop}(J:S->Hp->Prop)(h1:∀s h,J s h->k s h)(h2:body J):zv k body:=⟨J,h1,h2⟩
theorem Zp{S:Type}{body:S->(S->Hp->Prop)->Hp->Prop}{s0:S}{h0:Hp}(I:S->Hp->Prop)(μ:S->Nat)
 (h1:I s0 h0) (h2:∀s h,I s h->body s (λs' h'=>I s' h'/\μ s'<μ s) h):zn body s0 h0:=⟨I,λs _=>μ s,h1,h2⟩
theorem Z4{A B:Prop}{t:Bool}(ht:t=true)(ha:A):ifP t A B:=by subst ht;exact ha
theorem zr{A B:Prop}{t:Bool}(ht:t=false)(hb:B):ifP t A B:=by subst ht;exact hb
theorem ze{A B p:Prop}[Decidable p](ha:p->A)(hb:¬p->B):ifP (decide p) A B:=
 zi (λh=>ha (of_decide_eq_true h)) (λh=>hb (of_decide_eq_false h))
theorem zu{A B:Prop}{a b:Int}(ha:a=b->A)(hb:a≠b->B):ifP (a==b) A B:=
 zi (λh=>ha (by simpa using h)) (λh=>hb (by simpa using h))
theorem Z2{A B:Prop}{a b:Int}(ha:a≠b->A)(hb:a=b->B):ifP (a != b) A B:=
 zi (λh=>ha (by simpa using h)) (λh=>hb (by simpa using h))
theorem w64{n:Int}(h:-9223372036854775808<=n/\n<=9223372036854775807):i64.wrap n=n:=by
 simp[Pe,G0,G6];omega
theorem Zs7{n:Int}(h:0<=n/\n<=18446744073709551615):u64.wrap n=n:=by
 simp[Pe,G0,G6];omega
theorem Zs6{n:Int}(h:0<=n/\n<=4294967295):u32.wrap n=n:=by
 simp[Pe,G0,G6];omega
abbrev BS(s:ByteArray):List UInt8:=s.data.toList
theorem Vg(s:ByteArray):(BS s).length=s.size:=by simp[BS]
theorem z4g(s:ByteArray):s.toList=BS s:=ByteArray.toList_eq s
theorem z19{s:ByteArray}{i:Int}{K:Int->Prop}{k:Nat}{c:UInt8}{r:List UInt8}(hd:(BS s).drop k=c :: r)(hi:i=k)(H:K (c.toNat:Int)):qy s i K:=by
 subst hi;refine⟨by omega,c,?_,H⟩;have h1:(BS s)[k]?=some c:=by
  have:((BS s).drop k)[0]?=some c:=by rw[hd];rfl
  simpa using this
 have hk:k<s.size:=by
  rw[<-Vg];rcases Jo k (BS s).length with h2 | h2
  . exact h2
  . rw[J5 h2]at h1;cases h1
 have:((k:Int).toNat)=k:=rfl;rw[this,getElem?_pos s k hk];rw[Jc (by rw[Vg];exact hk)]at h1;simp only[Jm]at h1 |-
 rw[<-h1];rfl
theorem zu8{s:ByteArray}{a b:Nat}:BS (s.extract a b)=((BS s).drop a).take (b-a):=by
 simp[BS,ByteArray.data_extract,Array.toList_extract,List.extract_eq_take_drop]
theorem Zw(a:Addr):a.add 0=a:=by cases a;rfl
theorem W7(a:Addr)(i j:Nat):(a.add i).add j=a.add (i+j):=by
 unfold Addr.add;by_cases hi:i=0
 . subst hi;simp
 . by_cases hj:j=0
   . subst hj;simp[hi]
   . have:i+j≠0:=by omega
     simp[hi,hj,Nat.add_assoc]
theorem Yr(a:Addr)(i:Nat):(a.add i).block=a.block:=by unfold Addr.add;split<;>rfl
theorem X4(a:Addr)(i:Nat):(a.add i).off=a.off+i:=by
 unfold Addr.add;split
 . rename_i h;subst h;rfl
 . rfl
theorem z0e{a:Addr}(hs:a.spot=none)(i:Nat):(a.add i).spot=none:=by unfold Addr.add;split<;>simp[hs]
def Rd(h:Hp)(size:Nat)(x:Sl)(cs:List Value):Prop:=x.len*size=cs.length/\yc h x.a cs.length=some cs
theorem Rd.le{h h':Hp}{size:Nat}{x:Sl}{cs:List Value}(hr:Rd h size x cs)(hl:h.le h'):Rd h' size x cs:=⟨hr.1,zbq hl hr.2⟩
theorem Rd.nil{h:Hp}{size:Nat}:Rd h size zf []:=⟨by simp[zf],rfl⟩
theorem z33{h:Hp}{a:Addr}:∀{n:Nat} {l:List Value},Z3 h a n=some l->l.length=n
 | 0,l,e=>by simp only[Z3,Jm]at e;subst e;rfl
 | n+1,l,e=>by
   unfold Z3 at e;split at e
   . rename_i l1 h1;split at e
     . simp only[Jm]at e;subst e;simp[z33 h1]
     . cases e
   . cases e
theorem z5q{h:Hp}{a:Addr}:∀{n:Nat} {l:List Value},Z3 h a n=some l->∀i v,l[i]?=some v->h.cell (a.add i)=some v
 | 0,l,e,i,v,hi=>by simp only[Z3,Jm]at e;subst e;simp at hi
 | n+1,l,e,i,v,hi=>by
   unfold Z3 at e;split at e
   . rename_i l1 h1;split at e
     . rename_i u hu;simp only[Jm]at e;subst e;have hl:=z33 h1;rcases Jo i n with h2 | h2
       . rw[Uh (by omega)]at hi;exact z5q h1 i v hi
       . rw[Uz (by omega)]at hi;have:i-l1.length=0:=by
          rcases Tc (i-l1.length)with h3 | h3
          . exact h3
          . rw[J5 (by simp;omega)]at hi;cases hi
         rw[this]at hi;simp only[Gw,Jm]at hi;subst hi;have:i=n:=by omega
         subst this;exact hu
     . cases e
   . cases e
theorem z96{h:Hp}{a:Addr}{b:Blk}(hb:h a.block=some b)(hs:a.spot=none):∀{n:Nat},a.off+n<=b.cells.length->Z3 h a n=some ((b.cells.drop a.off).take n)
 | 0,_=>by simp[Z3]
 | n+1,hn=>by
   unfold Z3;rw[z96 hb hs (by omega)];have h1:h.cell (a.add n)=some (b.cells[a.off+n]'(by omega)):=by
    unfold Hp.cell;simp only[Yr,X4,z0e hs,hb];exact Jc (by omega)
   simp only[h1];rw[List.take_succ_eq_append_getElem (by simp;omega)];simp
theorem zpf{h:Hp}{size:Nat}{x:Sl}{cs:List Value}{i:Int}{K:Addr->Prop}(k:Nat)(hr:Rd h size x cs)(hi:i=k)(hk:k<x.len)(hsz:0<size)
 (H:∀a,(∀j v,cs[k*size+j]?=some v->h.cell (a.add j)=some v)->K a):zg x i size K:=by
 subst hi;refine⟨by omega,by omega,?_⟩;have hpos:0<cs.length:=by
  rw[<-hr.1];exact Nat.mul_pos (by omega) hsz
 cases ha:x.a with
 | none=>
   have:=hr.2;rw[ha]at this;simp only[yc]at this;split at this
   . omega
   . cases this
 | some a=>
   have h2:=hr.2;rw[ha]at h2;simp only[yc]at h2;refine H _ λj v hv=>?_
   rw[W7];exact z5q h2 _ v hv
def Own(h0 h:Hp)(size:Nat)(x:Sl)(cs:List Value):Prop:=
 h0.le h/\x.len*size=cs.length/\x.len<=x.cap /\
 match x.a with
 | none=>x.cap=0
 | some a=>a.off=0/\a.spot=none/\h0 a.block=none/\∃b,h a.block=some b/\b.fz=(0,0)/\b.cells.length=x.cap*size/\b.cells.take cs.length=cs
theorem Own.nil{h0 h:Hp}{size:Nat}(hl:h0.le h):Own h0 h size zf []:=⟨hl,by simp[zf],Ja _,rfl⟩
theorem Own.rd{h0 h:Hp}{size:Nat}{x:Sl}{cs:List Value}(ho:Own h0 h size x cs):Rd h size x cs:=by
 obtain⟨h1,h2,h3,h4⟩:=ho;refine⟨h2,?_⟩;cases ha:x.a with
 | none=>
   rw[ha]at h4;simp only at h4;have:cs=[]:=by
    have:x.len=0:=by omega
    rw[this]at h2;cases cs with
    | nil=>rfl
    | cons a b=>simp at h2
   subst this;rfl
 | some a=>
   rw[ha]at h4;obtain⟨g1,g2,g3,b,g4,g5,g6,g7⟩:=h4;have hle:cs.length<=b.cells.length:=by rw[g6,<-h2];exact Jj _ h3
   simp only[yc];rw[z96 g4 g2 (by omega),g1];simp[g7]
theorem Own.le{h0 h h':Hp}{size:Nat}{x:Sl}{cs:List Value}(ho:Own h0 h size x cs)(hl:h.le h'):Own h0 h' size x cs:=by
 obtain⟨h1,h2,h3,h4⟩:=ho;refine⟨Hp.le_trans h1 hl,h2,h3,?_⟩;cases ha:x.a with
 | none=>rw[ha]at h4;exact h4
 | some a=>
   rw[ha]at h4;obtain⟨g1,g2,g3,b,g4,g5⟩:=h4;exact⟨g1,g2,g3,b,hl _ _ g4,g5⟩
theorem Own.base{h0 h1 h:Hp}{size:Nat}{x:Sl}{cs:List Value}(ho:Own h1 h size x cs)(hl:h0.le h1):Own h0 h size x cs:=by
 obtain⟨g0,h2,h3,h4⟩:=ho;refine⟨Hp.le_trans hl g0,h2,h3,?_⟩;cases ha:x.a with
 | none=>rw[ha]at h4;exact h4
 | some a=>
   rw[ha]at h4;obtain⟨g1,g2,g3,g4⟩:=h4;refine⟨g1,g2,?_,g4⟩;cases hk:h0 a.block with
   | none=>rfl
   | some b=>rw[hl _ _ hk]at g3;cases g3
theorem z54{h0 h:Hp}{size bytes n:Nat}{zero new cs:List Value}{x:Sl}{K:Sl->Hp->Prop}(ho:Own h0 h size x cs)(hn:new.length=n*size)(hz:zero.length=size)
 (hleaf:new.all Value.leaf=true) (hb:(x.len+n)*bytes<=140737488355328) (hb2:x.len+n<=140737488355328)
 (H:∀y h',Own h0 h' size y (cs++new)->y.len=x.len+n->K y h'):ql size bytes zero x n new K h:=by
 have hrd:=ho.rd;obtain⟨h1,h2,h3,h4⟩:=ho;refine⟨hb,hb2,λhfit=>?_,λhgrow=>?_⟩
 . cases ha:x.a with
   | none=>
     rw[ha]at h4;simp only at h4;have hn0:n=0:=by omega
     have hnew:new=[]:=by
      cases new with
      | nil=>rfl
      | cons a b=>rw[hn0]at hn;simp at hn
     subst hnew hn0;simp only[stO];refine H _ _ ⟨h1,?_,?_,?_⟩ rfl
     . simpa using h2
     . show x.len+0<=x.cap;omega
     . show x.cap=0;exact h4
   | some a=>
     rw[ha]at h4;obtain⟨g1,g2,g3,b,g4,g5,g6,g7⟩:=h4;have e1:(x.len+n)*size=cs.length+new.length:=by rw[Js,h2,hn]
     have e2:cs.length+new.length<=b.cells.length:=by rw[g6,<-e1];exact Jj _ hfit
     simp only[stO];refine⟨b,by rw[Yr];exact g4,z0e g2 _,g5,?_,hleaf,?_⟩
     . rw[X4];omega
     . rw[Yr,X4];refine H _ _ ⟨?_,?_,hfit,?_⟩ rfl
       . intro k bk hk;rw[Hp.ins_ne (λhh=>by subst hh;rw[g3]at hk;cases hk)];exact h1 k bk hk
       . show(x.len+n)*size=_;rw[Je];exact e1
       . refine⟨g1,g2,g3,_,Hp.ins_same _ _ _,g5,?_,?_⟩
         . show(Zc b.cells (a.off+x.len*size) new).length=_;unfold Zc;simp only[Je,List.length_take,List.length_drop];show _=x.cap*size;rw[<-g6,g1,h2];omega
         . show(Zc b.cells (a.off+x.len*size) new).take _=_;have hoff:a.off+x.len*size=cs.length:=by rw[g1,h2];omega
           unfold Zc;rw[hoff,g7,Uq,Je,List.take_append];simp only[Nat.add_sub_cancel_left];rw[Jd (by omega),List.take_append,Jd (Ja _)];simp
 . refine⟨cs,?_,λbk e c hc hfr=>?_⟩
   . rw[h2];exact hrd.2
   . refine H _ _ ⟨Hp.le_trans h1 (Hp.le_ins hfr),?_,hc,?_⟩ rfl
     . show(x.len+n)*size=_;rw[Je,Js,h2,hn]
     . refine⟨rfl,rfl,?_,_,Hp.ins_same _ _ _,rfl,?_,?_⟩
       . cases hk:h0 bk with
         | none=>rfl
         | some b=>have:=h1 _ _ hk;rw[hfr]at this;cases this
       . show(cs++new++yn (c-(x.len+n)) zero).length=c*size;have hr:(yn (c-(x.len+n)) zero).length=(c-(x.len+n))*size:=by
          unfold yn;simp[hz]
         rw[Je,Je,hr,hn,<-h2,<-Js,<-Js];congr 1;omega
       . show(cs++new++yn (c-(x.len+n)) zero).take _=cs++new;rw[Jx (by simp)];exact Jd (Ja _)
theorem z3s{h:Hp}{size n:Nat}{cells:List Value}{K:Addr->Hp->Prop}(hn:cells.length=n*size)
 (H:∀b h',h b=none->Own h h' size ⟨some ⟨b,0,none⟩,n,n⟩ cells->K ⟨b,0,none⟩ h'):Y2 cells K h:=by
 intro b e hb;refine H b _ hb ⟨Hp.le_ins hb,hn.symm,Ja _,rfl,rfl,hb,_,Hp.ins_same _ _ _,rfl,hn,Jd (Ja _)⟩
theorem z40{n:Nat}{zero:List Value}:(yn n zero).length=n*zero.length:=by
 unfold yn;simp
theorem zpp{h:Hp}{size bytes:Nat}{len cap:Int}{zero:List Value}{K:Sl->Hp->Prop}(l c:Nat)(hl:len=l)(hc:cap=c)(hlc:l<=c)(hb:bytes*c<=140737488355328)(hb2:c<=140737488355328)(hz:zero.length=size)
 (H:∀x h',x.len=l->x.cap=c->Own h h' size x (yn l zero)->K x h'):mkP len cap bytes zero K h:=by
 subst hl hc;refine⟨by omega,by omega,(Int.natCast_mul bytes c)▸(Int.ofNat_le.2 hb),by omega,λb e hb=>?_⟩;have e1:((c:Int).toNat)=c:=rfl;have e2:((l:Int).toNat)=l:=rfl;rw[e1,e2];refine H _ _ rfl rfl ⟨Hp.le_ins hb,by rw[z40,hz],hlc,rfl,rfl,hb,_,Hp.ins_same _ _ _,rfl,by rw[z40,hz],?_⟩;show(yn c zero).take (yn l zero).length=yn l zero;have:yn c zero=yn l zero++yn (c-l) zero:=by
  unfold yn;rw[<-List.flatten_append,List.replicate_append_replicate];congr 2;omega
 rw[this,Jx (Ja _),Jd (Ja _)]
theorem Yj{cs vs:List Value}{off:Nat}(h:off+vs.length<=cs.length):(Zc cs off vs).length=cs.length:=by
 unfold Zc;simp;omega
theorem zcz{cs vs bs:List Value}{off:Nat}(h:off+vs.length<=cs.length)(hb:bs.take cs.length=cs):(Zc bs off vs).take cs.length=Zc cs off vs:=by
 have e:bs=cs++bs.drop cs.length:=by conv=>lhs;rw[<-List.take_append_drop cs.length bs,hb]
 have e2:Zc bs off vs=Zc cs off vs++bs.drop cs.length:=by
  rw[e];unfold Zc;rw[Jx (by omega),List.drop_append_of_le_length h];simp[Uq]
 rw[e2,Jx (by rw[Yj h];exact Ja _),Jd (by rw[Yj h];exact Ja _)]
theorem zxm{h0 h:Hp}{size:Nat}{x:Sl}{cs vs:List Value}{i:Int}{K:Hp->Prop}(k:Nat)(ho:Own h0 h size x cs)(hi:i=k)(hk:k<x.len)(hv:vs.length=size)(hsz:0<size)(hleaf:vs.all Value.leaf=true)
 (H:∀h',Own h0 h' size x (Zc cs (k*size) vs)->K h'):zg x i size λa=>stP a vs K h:=by
 subst hi;obtain⟨h1,h2,h3,h4⟩:=ho;refine⟨by omega,by omega,?_⟩;cases ha:x.a with
 | none=>rw[ha]at h4;simp only at h4;omega
 | some a=>
   rw[ha]at h4;obtain⟨g1,g2,g3,b,g4,g5,g6,g7⟩:=h4;have e0:((k:Int).toNat)=k:=rfl;have e1:k*size+size<=cs.length:=by
    rw[<-h2];have:=Jj size (show k+1<=x.len by omega);rw[Js]at this;omega
   have e2:cs.length<=b.cells.length:=by rw[g6,<-h2];exact Jj _ h3
   show Ye (some a) _;simp only[Ye,e0];refine⟨b,by rw[Yr];exact g4,z0e g2 _,g5,by rw[X4];omega,hleaf,?_⟩;rw[Yr,X4,g1,Nat.zero_add];refine H _ ⟨?_,?_,h3,?_⟩
   . intro kk bk hkk;rw[Hp.ins_ne (λhh=>by subst hh;rw[g3]at hkk;cases hkk)];exact h1 kk bk hkk
   . rw[Yj (by omega)];exact h2
   . rw[ha];refine⟨g1,g2,g3,_,Hp.ins_same _ _ _,g5,?_,?_⟩
     . show(Zc b.cells (k*size) vs).length=_;rw[Yj (by omega)];exact g6
     . show(Zc b.cells (k*size) vs).take _=_;rw[Yj (by omega)];exact zcz (by omega) g7
theorem z4w{cs:List Value}{k:Nat}{v:Value}:Zc cs k [v]=cs.take k++v :: cs.drop (k+1):=by
 unfold Zc;simp
theorem zlf{h:Hp}{x:Sl}{cs:List Value}{v:Value}{i:Int}{Ka:Addr->Prop}(k:Nat)(hr:Rd h 1 x cs)(hi:i=k)(hv:cs[k]?=some v)
 (H:∀a,h.cell a=some v->Ka a):zg x i 1 Ka:=by
 have hk:k<x.len:=by
  have h1:=hr.1;rcases Jo k cs.length with h2 | h2
  . omega
  . rw[J5 h2]at hv;cases hv
 refine zpf k hr hi hk (by decide) λa ha=>H a ?_
 have:=ha 0 v (by rw[Nat.mul_one];exact hv)
 rwa [Zw]at this
end Den
end

section
namespace Den
open Go
open Go.ChangeShapes Go.WideShapes Go.ChangeAt Go.RowKit
theorem Z9x{D h':Hp}{w w':World}(hs:Sub D w)(hf:Fr D w w')(hs':Sub h' w')(hl:D.le h'):∀k,k<w.heap.size->w'.heap[k]?=w.heap[k]?:=λk hk=>by
 cases hD:D k with
 | none=>exact hf.2.1 k hk hD
 | some b=>rw[hs' k b (hl k b hD),hs k b hD]
theorem Ze2{w w':World}(h1:w'.os=w.os)(h2:w'.output=w.output)(h3:∀k,k<w.heap.size->w'.heap[k]?=w.heap[k]?)(may:MemPlace->Prop):w.keptBut w' may:=by
 refine⟨h1,h2,λi hi=>?_⟩;rw[h3 i hi];exact(World.keptBut_refl w may).2.2 i hi
theorem Z98{w w':World}(h3:∀k,k<w.heap.size->w'.heap[k]?=w.heap[k]?){a:Addr}(ha:a.block<w.heap.size):w'.frozen? a=w.frozen? a:=by
 unfold World.frozen?;rw[h3 _ ha]
theorem zoh{w w':World}(h3:∀k,k<w.heap.size->w'.heap[k]?=w.heap[k]?){a:Addr}(ha:a.block<w.heap.size):w'.cell? a=w.cell? a:=by
 unfold World.cell?;rw[h3 _ ha]
section
variable {H : Type} {enc : TypeId × Value → H} {P : Program}
theorem Zd1{f:Func}{s:ChangeSpec}{zyj fresh handsOn again:Bool}{W W':World}{args:Array Value}{v:Value}{ds gs:List (DataW H)}{before pa pv:List MemPlace}
 (hW:DataW.Whole enc P f.params.toList s.vars zyj W args.toList ds gs before)
 (hres:∀(b:Nat) (sp:Nat->Bool) (hd:Bool),DataW.TrodAll enc P W' b sp hd f.resultTypes.toList (v.resultList f.resultTypes.size) (s.fn H (ds++gs)).results [])
 (hargs:∀sp:Nat->Bool,(∀p∈before,sp p.block=true)->DataW.TrodAll enc P W' 0 sp true f.params.toList args.toList (s.fn H (ds++gs)).args pa)
 (hvars:∀sp:Nat->Bool,(∀p∈before,sp p.block=true)->DataW.TrodVars enc P W' sp s.vars (s.fn H (ds++gs)).vars pv)
 (hps:before=pa++pv) (hk:W.keptBut W' (·∈before)) (hfz:∀a,a.block<W.heap.size->W'.frozen? a=W.frozen? a)
 (hok:∀(j:Nat) (t:TypeId) (r:Value),f.resultTypes[j]?=some t->(v.resultList f.resultTypes.size)[j]?=some r->Value.okWide P W' .any 0 t r) :
 s.post enc P f zyj fresh handsOn again W args v W':=by
 have hold:∀p∈before,(λb=>decide (b<W.heap.size)) p.block=true:=λp hp=>by simpa using hW.lt p hp
 have hlt:=hW.lt;refine⟨ds,gs,before,[],pa,pv,hW,hres _ _ _,hargs _ hold,hvars _ hold,World.keptBut_mono (λp hp=>⟨hp,?_⟩) hk,λ_=>?_⟩
 . rw[hps,Ub]at hp;exact Or.inr hp
 . obtain⟨_,_,_,_,_,hz,hn⟩:=hW;refine⟨hok,_,_,([]++pa)++pv,⟨[]++pa,pv,trodAll_append (hargs _ (λ_ _=>rfl)) (hres _ _ _),hvars _ (λ_ _=>rfl),rfl,?_,?_⟩,?_⟩
   . intro b off hp;have hp':MemPlace.cell b off∈before:=by rw[hps];simpa using hp
     rw[hfz _ (hlt _ hp')];exact hz b off hp'
   . intro ha;have:=hn ha;rw[hps]at this;simpa using this
   . intro p hp _;rw[hps];simpa using hp
end
theorem Zpe{α:Type}{A:ArgT α}{F:α->(Bool->Hp->Prop)->Hp->Prop}{P:Program}{g:Nat}(hE:Entry P g (mkE A (Ty.leaf .bool) F) false)(a:α)(D:Hp)(w:World)(hs:Sub D w)
 (hF:∀K:Bool->Hp->Prop,(∀h',D.le h'->K true h')->F a K D) :
 Calls P g (A.up a).toArray w λe w'=>e=.returned (.bool true)/\w'.os=w.os/\w'.output=w.output/\w.heap.size<=w'.heap.size/\∀k,k<w.heap.size->w'.heap[k]?=w.heap[k]?:=by
 refine(hE.fn.2 (A.up a) (λv h'=>v=.bool true/\D.le h') D w hs ((A.cmp a _).2 ?_)).mono ?_
 . exact zd (λv _=>v=true) (λK' hk=>hF _ λh' hl=>hk _ _ hl rfl) λv h' hl hv=>by subst hv;exact⟨rfl,hl⟩
 . rintro e w' ⟨v,h',rfl,⟨rfl,hl⟩,hs',hf,hd⟩;exact⟨rfl,hf.2.2.2.1,hf.2.2.2.2.1,hf.1,Z9x hs hf hs' hl⟩
end Den
end

section
namespace Den
open Go
open Go.ChangeShapes Go.WideShapes Go.ChangeAt Go.RowKit
def hpW(w:World):Hp:=λk=>match w.heap[k]? with | some (.cells cs e fz)=>some ⟨cs.toList,e,fz⟩ | _=>none
theorem Zs8(w:World):Sub (hpW w) w:=λk b hk=>by
 unfold hpW at hk;split at hk
 . rename_i cs e fz h;cases hk;rw[h]
 . cases hk
theorem zfo(w:World)(a:Addr):(hpW w).cell a=w.cell? a:=by
 unfold Hp.cell hpW World.cell?;cases hs:a.spot with
 | some x=>cases w.heap[a.block]? with
   | none=>rfl
   | some o=>cases o<;>simp
 | none=>cases w.heap[a.block]? with
   | none=>rfl
   | some o=>cases o<;>simp
theorem Z16{w:World}{a:Addr}:∀{cs:List Value},(∀i,i<cs.length->w.cell? (a.add i)=cs[i]?)->Z3 (hpW w) a cs.length=some cs:=by
 suffices H:∀(n:Nat) (cs:List Value),n<=cs.length->(∀i,i<cs.length->w.cell? (a.add i)=cs[i]?)->Z3 (hpW w) a n=some (cs.take n) from λ{cs} h=>by
  rw[H cs.length cs (Ja _) h,List.take_length]
 intro n;induction n with
 | zero=>intro cs _ _;rfl
 | succ n ih=>
   intro cs hn h;unfold Z3;rw[ih cs (by omega) h];simp only;rw[zfo,h n (by omega),Jc (by omega)];simp only;rw[List.take_add_one,Jc (by omega)];rfl
section
variable {H : Type} {enc : TypeId × Value → H} {P : Program} {w w' : World}
def zxi(P:Program):Bool:=(List.range P.types.size).all λt=>match P.underlying t with | some (.slice e)=>decide (0<P.cellsOf e) | _=>true
theorem Zaq(h:zxi P=true){t e:TypeId}(ht:t<P.types.size)(hu:P.underlying t=some (.slice e)):0<P.cellsOf e:=by
 have:=Jz.1 h t (Uv.2 ht);rw[hu]at this;simpa using this
theorem zqn(hl:laidOutB P=true)(hm:mapsRowed P=true)(hz:zxi P=true)(h3:∀k,k<w.heap.size->w'.heap[k]?=w.heap[k]?){sp:Nat->Bool} :
 ∀{ts:List TypeId} {vs:List Value} {ds:List (DataW H)} {ps:List MemPlace},(∀t∈ts,t<P.types.size)->(∀p∈ps,p.block<w.heap.size)->(∀p∈ps,sp p.block=true) ->
  DataW.TrodAll enc P w 0 (λ_=>true) true ts vs ds ps->DataW.TrodAll enc P w' 0 sp true ts vs ds ps
 | [],[],[],_,_,_,_,h=>h
 | t :: ts,v :: vs,d :: ds,_,ht,hp,hs,⟨p,q,⟨n,hn⟩,h2,e⟩=>by
   subst e;refine⟨p,q,⟨n,?_⟩,zqn hl hm hz h3 (λt h=>ht t (Us _ h)) (λx hx=>hp x (Un _ hx)) (λx hx=>hs x (Un _ hx)) h2,rfl⟩;refine DataW.trod_stays (T:=λt=>t<P.types.size) (kids_rows hl hm) (λh h'=>Zaq hz h h') (by intro hh;cases hh) (ht t (by simp)) hn (λx hx=>?_) (λx hx=>hs x (Jq _ hx));have hb:=hp x (Jq _ hx);cases x with
   | cell b off=>exact zoh h3 (a:=⟨b,off,none⟩) hb
   | map b=>exact h3 b hb
def Okt(enc:TypeId×Value->H)(P:Program)(w:World)(t:TypeId)(cs:List Value):Prop:=∃n x,DataW.trod enc P w 0 (λ_=>true) true n t cs=some x/\∀k∈x.1.weights P t,k<=reachBytes
theorem z6c:∀{ts:List TypeId} {ds:List (DataW H)} {i:Nat} {t:TypeId} {d:DataW H},ts[i]?=some t->ds[i]?=some d->∀k∈d.weights P t,k∈DataW.weightsEach P ts ds
 | [],_,_,_,_,h,_,_,_=>by simp at h
 | _ :: _,[],_,_,_,_,h,_,_=>by simp at h
 | t :: ts,d :: ds,0,_,_,h1,h2,k,hk=>by
   simp only[Gw,Jm]at h1 h2;subst h1 h2;unfold DataW.weightsEach;exact Jq _ hk
 | t :: ts,d :: ds,i+1,_,_,h1,h2,k,hk=>by
   simp only[List.getElem?_cons_succ]at h1 h2;unfold DataW.weightsEach;exact Un _ (z6c h1 h2 k hk)
theorem z7s{e:TypeId}:∀{ds:List (DataW H)} {d:DataW H},d∈ds->∀k∈d.weights P e,k∈DataW.weightsAll P e ds
 | [],_,h,_,_=>by simp at h
 | d :: ds,x,h,k,hk=>by
   unfold DataW.weightsAll;rcases Ju.1 h with rfl | h
   . exact Jq _ hk
   . exact Un _ (z7s h k hk)
theorem Okt.int{t:TypeId}{k:IntKind}{cs:List Value}(ht:P.underlying t=some (.int k))(h:Okt enc P w t cs):∃m:Int,cs=[.int k m]/\(Lit.int k m).wf=true:=by
 obtain⟨n,x,h,_⟩:=h;obtain⟨m,hb,_,hw⟩:=DataW.trod_int ht h;exact⟨m,hb,hw⟩
theorem Okt.fields{t:TypeId}{fs:Array Field}{cs:List Value}(ht:P.underlying t=some (.struct fs))(h:Okt enc P w t cs) :
 cs.length=P.cellsOf t/\∀(i:Nat) (f:Field),fs[i]?=some f->Okt enc P w f.type ((cs.drop f.offset).take (P.cellsOf f.type)):=by
 obtain⟨n,x,h,hw⟩:=h;obtain⟨xs,m,_,e,hl,hx,hf⟩:=DataW.trod_struct ht h;subst e;simp only[DataW.weights,ht]at hw;refine⟨hl,λi f hi=>⟨m,?_⟩⟩;have h1:=hf i f hi;have h2:i<xs.length:=by rw[hx];exact(Array.getElem?_eq_some_iff.1 hi).1
 rw[Jc h2]at h1;refine⟨_,h1,λk hk=>hw k (z6c (i:=i) ?_ ?_ k hk)⟩
 . rw[Uw,Array.getElem?_toList,hi];rfl
 . rw[Uw,Jc h2];rfl
theorem Okt.items{t e:TypeId}{k:Nat}{cs:List Value}(ht:P.underlying t=some (.array k e))(h:Okt enc P w t cs) :
 cs.length=P.cellsOf t/\∀i,i<k->Okt enc P w e ((cs.drop (i*P.cellsOf e)).take (P.cellsOf e)):=by
 obtain⟨n,x,h,hw⟩:=h;obtain⟨xs,m,_,ee,hl,hx,hf⟩:=DataW.trod_array ht h;subst ee;simp only[DataW.weights,ht]at hw;refine⟨hl,λi hi=>⟨m,?_⟩⟩;have h1:=hf i hi;rw[Jc (by omega)]at h1;exact⟨_,h1,λk hk=>hw k (z7s (List.mem_map.2 ⟨_,List.getElem_mem (by omega),rfl⟩) k hk)⟩
theorem zne{css:List (List Value)}{k:Nat}(h:∀c∈css,c.length=k):css.flatten.length=css.length*k:=by
 induction css with
 | nil=>simp
 | cons c r ih=>rw[List.flatten_cons,Je,ih (λx hx=>h x (by simp[hx])),h c (by simp),List.length_cons,Js];omega
theorem Z0z{css:List (List Value)}{k:Nat}(h:∀c∈css,c.length=k):∀{i j:Nat},j<k->css.flatten[i*k+j]?=css[i]?.bind λc=>c[j]?:=by
 induction css with
 | nil=>intro i j _;simp
 | cons c r ih=>
   intro i j hj;have hc:=h c (by simp);cases i with
   | zero=>rw[List.flatten_cons,Uh (by omega)];simp
   | succ i=>
     rw[List.flatten_cons,Uz (by rw[hc,Js];omega),hc,show(i+1)*k+j-k=i*k+j by rw[Js];omega,ih (λx hx=>h x (by simp[hx])) hj];simp
theorem Okt.slice{t e:TypeId}{cs:List Value}(ht:P.underlying t=some (.slice e))(h:Okt enc P w t cs) :
 ∃s:Sl,cs=[Lf.sl.up s]/\s.len<=s.cap/\s.len*P.bytesOf e<=reachBytes/\∃css:List (List Value),css.length=s.len/\(∀c∈css,c.length=P.cellsOf e/\Okt enc P w e c)/\Rd (hpW w) (P.cellsOf e) s css.flatten:=by
 obtain⟨n,x,h,hw⟩:=h;rcases DataW.trod_slice ht h with ⟨rfl,_⟩ | ⟨a,len,cap,elems,rest,m,_,rfl,ex,_,hl,hm,hlen,hel,_,_⟩
 . exact⟨⟨none,0,0⟩,rfl,Ja _,by simp,[],rfl,by simp,by simp,rfl⟩
 . subst ex;simp only[DataW.weights,ht]at hw;have hby:len*P.bytesOf e<=reachBytes:=by
    refine Jt (Jj _ ?_) (hw _ (Ut ..));simp only[List.length_map,hlen];omega
   have each:∀i,i<len->∃c,w.cells? 0 (a.add (i*P.cellsOf e)) (P.cellsOf e)=some c/\Okt enc P w e c:=λi hi=>by
    have h1:=hel i hi;rw[Jc (by omega),Option.bind_eq_some_iff]at h1;obtain⟨c,hc,hd⟩:=h1;exact⟨c,hc,m,_,hd,λk hk=>hw k (Us _ (Jq _ (z7s (List.mem_map.2 ⟨_,List.getElem_mem (by omega),rfl⟩) k hk)))⟩
   have hall:∀k,k<=len->∃css:List (List Value),css.length=k/\∀i (hi:i<css.length),w.cells? 0 (a.add (i*P.cellsOf e)) (P.cellsOf e)=some css[i]/\Okt enc P w e css[i]:=by
    intro k;induction k with
    | zero=>intro _;exact⟨[],rfl,λi hi=>by simp at hi⟩
    | succ k ih=>
      intro hk;obtain⟨css,h1,h2⟩:=ih (by omega);obtain⟨c,hc,hd⟩:=each k (by omega);refine⟨css++[c],by simp[h1],λi hi=>?_⟩;by_cases hik:i<css.length
      . rw[List.getElem_append_left hik];exact h2 i hik
      . have:i=k:=by simp at hi;omega
        subst this;rw[List.getElem_append_right (by omega)];simpa [h1] using ⟨hc,hd⟩
   obtain⟨css,h1,h2⟩:=hall len (Ja _);have hsz:∀c∈css,c.length=P.cellsOf e:=λc hc=>by
    obtain⟨i,hi,rfl⟩:=Gh.1 hc;exact(World.cells?_some (h2 i hi).1).2.1
   refine⟨⟨some a,len,cap⟩,rfl,hl,hby,css,h1,λc hc=>⟨hsz c hc,?_⟩,?_,?_⟩
   . obtain⟨i,hi,rfl⟩:=Gh.1 hc;exact(h2 i hi).2
   . rw[zne hsz,h1]
   . refine Z16 λi hi=>?_
     rw[zne hsz]at hi;have hk:0<P.cellsOf e:=by
      rcases Tc (P.cellsOf e)with h0 | h0
      . rw[h0,Nat.mul_zero]at hi;omega
      . exact h0
     have hq:i/P.cellsOf e<css.length:=(Nat.div_lt_iff_lt_mul hk).2 hi;have hr:i % P.cellsOf e<P.cellsOf e:=Nat.mod_lt _ hk;have hi':i=i/P.cellsOf e*P.cellsOf e+i % P.cellsOf e:=by rw[Nat.mul_comm];exact(Nat.div_add_mod _ _).symm
     have h3:=(World.cells?_some (h2 _ hq).1).2.2 _ hr;rw[W7,<-hi']at h3;have h4:css.flatten[i]?=css.flatten[i/P.cellsOf e*P.cellsOf e+i % P.cellsOf e]?:=congrArg (css.flatten[·]?) hi';rw[h3,h4,Z0z hsz hr,Jc hq];rfl
theorem Zsj{ts:List TypeId}{ds:List (DataW H)}{t:TypeId}{v:Value}{d:DataW H}{ps:List MemPlace}(i:Nat)(ht:ts[i]?=some t)(hd:ds[i]?=some d)(h:DataW.Trod enc P w 0 (λ_=>true) true t v d ps)
 (hw:(DataW.weightsEach P ts ds).all (·<=reachBytes)=true):Okt enc P w t v.cells.toList:=by
 obtain⟨n,hn⟩:=h;exact⟨n,_,hn,λk hk=>of_decide_eq_true (Jz.1 hw k (z6c ht hd k hk))⟩
end
end Den
end

section
set_option maxRecDepth 10000
namespace Den
open Go
structure TInt where
 neg:Bool
 mag:Sl
def Zv:Ty TInt:=Ty.agg [.bool,.sl] (λx=>(x.neg,x.mag,())) (λy=>⟨y.1,y.2.1⟩) (λ_=>rfl) (λ_=>rfl)
structure TRat where
 num:TInt
 den:TInt
def qi:Ty TRat:=Ty.agg [.bool,.sl,.bool,.sl] (λx=>(x.num.neg,x.num.mag,x.den.neg,x.den.mag,())) (λy=>⟨⟨y.1,y.2.1⟩,⟨y.2.2.1,y.2.2.2.1⟩⟩) (λ_=>rfl) (λ_=>rfl)
structure TInterval where
 low:TRat
 high:TRat
namespace F
def zy(m:Sl)(K:Sl->Hp->Prop)(h:Hp):Prop:=(zn (S:=Sl×Unit) (λs1 k2 h1=>(zv (S:=Unit) (λs3 h2=>(slP s1.1 0 (i64.wrap ((s1.1.len:Int)-1)) 1 λc5=>(k2 (c5,()) h2))) (λk4=>(ifP (decide ((s1.1.len:Int)>0)) (zg s1.1 (i64.wrap ((s1.1.len:Int)-1)) 1 λa6=>(ldL (.int .u32) a6 (λx7=>(ifP (x7==0) (k4 () h1) (K s1.1 h1))) h1)) (K s1.1 h1))))) (m,()) h)
def qa(n:Int)(K:Sl->Hp->Prop)(h:Hp):Prop:=(0<=(32:Int) /\ (Y2 [.int .u32 (u32.wrap (n)),.int .u32 (u32.wrap ((n:Int).fdiv (2 ^ (min (32:Int).toNat u64.bits))))] (λp1 h1=>(zc (zy (⟨some p1,2,2⟩:Sl)) (λr2 h2=>(K r2 h2)) h1)) h))
def y9(neg:Bool)(m:Sl)(K:TInt->Hp->Prop)(h:Hp):Prop:=(zc (zy m) (λr1 h1=>(ifP ((r1.len:Int)==0) (K (⟨false,zf⟩:TInt) h1) (K (⟨neg,r1⟩:TInt) h1))) h)
def W5(n:Int)(K:TInt->Hp->Prop)(h:Hp):Prop:=(zv (S:=Int×Unit) (λs1 h1=>(zc (qa s1.1) (λr3 h2=>(zc (y9 (decide (n<0)) r3) (λr4 h3=>(K r4 h3)) h2)) h1)) (λk2=>(ifP (decide (n<0)) (k2 ((u64.wrap (0-(u64.wrap (n)))),()) h) (k2 ((u64.wrap (n)),()) h))))
def z1q(K:TInt->Hp->Prop)(h:Hp):Prop:=(zc (W5 1) (λr1 h1=>(K r1 h1)) h)
def qm(n:Int)(K:TRat->Hp->Prop)(h:Hp):Prop:=(zc (W5 n) (λr1 h1=>(zc (z1q) (λr2 h2=>(K (⟨r1,r2⟩:TRat) h2)) h1)) h)
def Vb(a:TInt)(K:Int->Hp->Prop)(h:Hp):Prop:=(zc (zy a.mag) (λr1 h1=>(ifP ((r1.len:Int)==0) (K 0 h1) (ifP a.neg (K (-1) h1) (K 1 h1)))) h)
def Q0(a:TRat)(K:Int->Hp->Prop)(h:Hp):Prop:=(zc (Vb a.num) (λr1 h1=>(K r1 h1)) h)
def z2h(a:Sl)(b:Sl)(K:Sl->Hp->Prop)(h:Hp):Prop:=(zv (S:=Unit) (λs1 h1=>(mkP (i64.wrap ((a.len:Int)+(b.len:Int))) (i64.wrap ((a.len:Int)+(b.len:Int))) 4 [.int .u32 0] (λm3 h2=>(zn (S:=Int×Unit) (λs4 k5 h3=>(ifP (decide (s4.1<(a.len:Int))) (zg a s4.1 1 λa6=>(ldL (.int .u32) a6 (λx7=>(zn (S:=Int×Int×Unit) (λs8 k9 h4=>(ifP (decide (s8.2.1<(b.len:Int))) (zg b s8.2.1 1 λa10=>(ldL (.int .u32) a10 (λx11=>(zg m3 (i64.wrap (s4.1+s8.2.1)) 1 λa12=>(ldL (.int .u32) a12 (λx13=>(zg m3 (i64.wrap (s4.1+s8.2.1)) 1 λa14=>(stP a14 [.int .u32 (u32.wrap ((u64.wrap (s8.1+(u64.wrap ((u64.wrap ((u64.wrap (x7))*(u64.wrap (x11))))+(u64.wrap (x13))))))))] (λh5=>(0<=(32:Int) /\ (k9 (((u64.wrap (s8.1+(u64.wrap ((u64.wrap ((u64.wrap (x7))*(u64.wrap (x11))))+(u64.wrap (x13)))))):Int).fdiv (2 ^ (min (32:Int).toNat u64.bits)),(i64.wrap (s8.2.1+1)),()) h5))) h4))) h4))) h4)) (zg m3 (i64.wrap (s4.1+(b.len:Int))) 1 λa15=>(stP a15 [.int .u32 (u32.wrap (s8.1))] (λh6=>(k5 ((i64.wrap (s4.1+1)),()) h6)) h4)))) (0,0,()) h3)) h3)) (zc (zy m3) (λr16 h7=>(K r16 h7)) h3))) (0,()) h2)) h1)) (λk2=>(ifP ((a.len:Int)==0) (K zf h) (ifP ((b.len:Int)==0) (K zf h) (k2 () h)))))
def Qw(a:TInt)(b:TInt)(K:TInt->Hp->Prop)(h:Hp):Prop:=(zc (zy a.mag) (λr1 h1=>(zc (zy b.mag) (λr2 h2=>(zc (z2h r1 r2) (λr3 h3=>(zc (y9 (!(a.neg==b.neg)) r3) (λr4 h4=>(K r4 h4)) h3)) h2)) h1)) h)
def z2a(x:Int)(K:Bool->Hp->Prop)(h:Hp):Prop:=(K (x != x) h)
def Q8(x:Int)(y:Int)(K:Int->Hp->Prop)(h:Hp):Prop:=(zc (z2a x) (λr1 h1=>(zc (z2a y) (λr2 h2=>(ifP r1 (ifP r2 (K 0 h2) (K (-1) h2)) (ifP r2 (K 1 h2) (ifP (decide (x<y)) (K (-1) h2) (ifP (decide (x>y)) (K 1 h2) (K 0 h2)))))) h1)) h)
def Vu(x:Int)(K:Bool->Hp->Prop)(h:Hp):Prop:=(K (x != x) h)
def V8(x:Int)(y:Int)(K:Int->Hp->Prop)(h:Hp):Prop:=(zc (Vu x) (λr1 h1=>(zc (Vu y) (λr2 h2=>(ifP r1 (ifP r2 (K 0 h2) (K (-1) h2)) (ifP r2 (K 1 h2) (ifP (decide (x<y)) (K (-1) h2) (ifP (decide (x>y)) (K 1 h2) (K 0 h2)))))) h1)) h)
def Xx(a:Sl)(b:Sl)(K:Int->Hp->Prop)(h:Hp):Prop:=(ifP ((a.len:Int) != (b.len:Int)) (zc (Q8 (a.len:Int) (b.len:Int)) (λr1 h1=>(K r1 h1)) h) (zn (S:=Int×Unit) (λs2 k3 h2=>(ifP (decide (s2.1>=0)) (zg a s2.1 1 λa4=>(ldL (.int .u32) a4 (λx5=>(zg b s2.1 1 λa6=>(ldL (.int .u32) a6 (λx7=>(ifP (x5 != x7) (zg a s2.1 1 λa8=>(ldL (.int .u32) a8 (λx9=>(zg b s2.1 1 λa10=>(ldL (.int .u32) a10 (λx11=>(zc (V8 x9 x11) (λr12 h3=>(K r12 h3)) h2)) h2))) h2)) (k3 ((i64.wrap (s2.1-1)),()) h2))) h2))) h2)) (K 0 h2))) ((i64.wrap ((a.len:Int)-1)),()) h))
def z5u(a:TInt)(b:TInt)(K:Int->Hp->Prop)(h:Hp):Prop:=(zc (Vb a) (λr1 h1=>(zc (Vb b) (λr2 h2=>(ifP (r1 != r2) (zc (Q8 r1 r2) (λr3 h3=>(K r3 h3)) h2) (zc (zy a.mag) (λr4 h4=>(zc (zy b.mag) (λr5 h5=>(zc (Xx r4 r5) (λr6 h6=>(K (i64.wrap (r1*r6)) h6)) h5)) h4)) h2))) h1)) h)
def zg3(a:TRat)(b:TRat)(K:Int->Hp->Prop)(h:Hp):Prop:=(zc (Q0 a) (λr1 h1=>(zc (Q0 b) (λr2 h2=>(ifP (r1 != r2) (ifP (decide (r1<r2)) (K (-1) h2) (K 1 h2)) (zc (Qw a.num b.den) (λr3 h3=>(zc (Qw b.num a.den) (λr4 h4=>(zc (z5u r3 r4) (λr5 h5=>(K r5 h5)) h4)) h3)) h2))) h1)) h)
def z2u(a:TInt)(K:Bool->Hp->Prop)(h:Hp):Prop:=(K ((a.mag.len:Int)==0) h)
def Zi(s:Sl)(K:Sl->Hp->Prop)(h:Hp):Prop:=(ifP s.a.isNone (K zf h) (Y2 [] (λp1 h1=>(rdO s.a (s.len*1) (λvs2=>(ql 1 4 [.int .u32 0] (⟨some p1,0,0⟩:Sl) s.len vs2 (λw3 h2=>(K w3 h2)) h1)) h1)) h))
def Yc(s:Sl)(K:Addr->Hp->Prop)(h:Hp):Prop:=(Y2 [.slice s.a s.len s.cap] (λp1 h1=>(K p1 h1)) h)
def Xo(m:Sl)(K:Int->Hp->Prop)(h:Hp):Prop:=(zc (Yc m) (λr1 h1=>(zyk (S:=(Int×Unit)×Unit) (.leaf (.int .u32)) r1 (λi2 v3 s4 k5 h2=>(0<=(32:Int) /\ (k5 ((qu .or .u64 (u64.wrap (s4.1.1*2 ^ (min (32:Int).toNat u64.bits))) (u64.wrap (v3)),()),()) h2))) ((0,()),()) (λs6 h3=>(K s6.1.1 h3)) h1)) h)
def z01(a:Sl)(b:Int)(K:(Sl×Sl)->Hp->Prop)(h:Hp):Prop:=(mkP (a.len:Int) (a.len:Int) 4 [.int .u32 0] (λm1 h1=>(zn (S:=Int×Int×Unit) (λs2 k3 h2=>(ifP (decide (s2.2.1>=0)) (0<=(32:Int) /\ (zg a s2.2.1 1 λa4=>(ldL (.int .u32) a4 (λx5=>(((u64.wrap (b)):Int)≠0 /\ (zg m1 s2.2.1 1 λa6=>(stP a6 [.int .u32 (u32.wrap ((u64.wrap (((qu .or .u64 (u64.wrap (s2.1*2 ^ (min (32:Int).toNat u64.bits))) (u64.wrap (x5))):Int).tdiv (u64.wrap (b))))))] (λh3=>(((u64.wrap (b)):Int)≠0 /\ (k3 (((qu .or .u64 (u64.wrap (s2.1*2 ^ (min (32:Int).toNat u64.bits))) (u64.wrap (x5))):Int).tmod (u64.wrap (b)),(i64.wrap (s2.2.1-1)),()) h3))) h2)))) h2))) (zc (zy m1) (λr7 h4=>(zc (qa s2.1) (λr8 h5=>(K (r7,r8) h5)) h4)) h2))) (0,(i64.wrap ((a.len:Int)-1)),()) h1)) h)
def z2s(x:Int)(K:Int->Hp->Prop)(h:Hp):Prop:=(zv (S:=Int×Int×Unit) (λs1 h1=>(zv (S:=Int×Int×Unit) (λs3 h2=>(qy zL4 (u8.wrap (s3.1)) λc5=>(K (i64.wrap (s3.2.1+(i64.wrap (c5)))) h2))) (λk4=>(ifP (decide (s1.1>=256)) (0<=(8:Int) /\ (k4 ((s1.1:Int).fdiv (2 ^ (min (8:Int).toNat u32.bits)),(i64.wrap (s1.2.1+8)),()) h1)) (k4 (s1.1,s1.2.1,()) h1))))) (λk2=>(ifP (decide (x>=65536)) (0<=(16:Int) /\ (k2 ((x:Int).fdiv (2 ^ (min (16:Int).toNat u32.bits)),16,()) h)) (k2 (x,0,()) h))))
def Xh(x:Int)(K:Int->Hp->Prop)(h:Hp):Prop:=(zc (z2s x) (λr1 h1=>(K (i64.wrap (32-r1)) h1)) h)
def Xv(a:Sl)(n:Int)(K:Sl->Hp->Prop)(h:Hp):Prop:=(mkP (i64.wrap ((a.len:Int)+1)) (i64.wrap ((a.len:Int)+1)) 4 [.int .u32 0] (λm1 h1=>(zn (S:=Int×Unit) (λs2 k3 h2=>(ifP (decide (s2.1<(a.len:Int))) (zg a s2.1 1 λa4=>(ldL (.int .u32) a4 (λx5=>(0<=(n:Int) /\ (zg m1 s2.1 1 λa6=>(ldL (.int .u32) a6 (λx7=>(zg m1 s2.1 1 λa8=>(stP a8 [.int .u32 (qu .or .u32 x7 (u32.wrap ((u64.wrap ((u64.wrap (x5))*2 ^ (min (n:Int).toNat u64.bits))))))] (λh3=>(0<=(32:Int) /\ (zg m1 (i64.wrap (s2.1+1)) 1 λa9=>(stP a9 [.int .u32 (u32.wrap (((u64.wrap ((u64.wrap (x5))*2 ^ (min (n:Int).toNat u64.bits))):Int).fdiv (2 ^ (min (32:Int).toNat u64.bits))))] (λh4=>(k3 ((i64.wrap (s2.1+1)),()) h4)) h3)))) h2))) h2)))) h2)) (K m1 h2))) (0,()) h1)) h)
def z1j(u:Sl)(v:Sl)(digit:Int)(K:Bool->Hp->Prop)(h:Hp):Prop:=(zn (S:=Int×Int×Unit) (λs1 k2 h1=>(ifP (decide (s1.2.1<(v.len:Int))) (zg v s1.2.1 1 λa3=>(ldL (.int .u32) a3 (λx4=>(zg u s1.2.1 1 λa5=>(ldL (.int .u32) a5 (λx6=>(zg u s1.2.1 1 λa7=>(stP a7 [.int .u32 (u32.wrap ((u64.wrap ((u64.wrap (x6))-(u64.wrap ((u32.wrap ((u64.wrap ((u64.wrap ((u64.wrap (x4))*digit))+s1.1))))))))))] (λh2=>(0<=(32:Int) /\ (0<=(63:Int) /\ (k2 ((u64.wrap ((((u64.wrap ((u64.wrap ((u64.wrap (x4))*digit))+s1.1)):Int).fdiv (2 ^ (min (32:Int).toNat u64.bits)))+(((u64.wrap ((u64.wrap (x6))-(u64.wrap ((u32.wrap ((u64.wrap ((u64.wrap ((u64.wrap (x4))*digit))+s1.1)))))))):Int).fdiv (2 ^ (min (63:Int).toNat u64.bits))))),(i64.wrap (s1.2.1+1)),()) h2)))) h1))) h1))) h1)) (zg u (v.len:Int) 1 λa8=>(ldL (.int .u32) a8 (λx9=>(zg u (v.len:Int) 1 λa10=>(stP a10 [.int .u32 (u32.wrap ((u64.wrap ((u64.wrap (x9))-s1.1))))] (λh3=>(0<=(63:Int) /\ (K ((((u64.wrap ((u64.wrap (x9))-s1.1)):Int).fdiv (2 ^ (min (63:Int).toNat u64.bits)))==1) h3))) h1))) h1)))) (0,0,()) h)
def z2r(u:Sl)(v:Sl)(K:Unit->Hp->Prop)(h:Hp):Prop:=(zn (S:=Int×Int×Unit) (λs1 k2 h1=>(ifP (decide (s1.2.1<(v.len:Int))) (zg v s1.2.1 1 λa3=>(ldL (.int .u32) a3 (λx4=>(zg u s1.2.1 1 λa5=>(ldL (.int .u32) a5 (λx6=>(zg u s1.2.1 1 λa7=>(stP a7 [.int .u32 (u32.wrap ((u64.wrap (s1.1+(u64.wrap ((u64.wrap (x6))+(u64.wrap (x4))))))))] (λh2=>(0<=(32:Int) /\ (k2 (((u64.wrap (s1.1+(u64.wrap ((u64.wrap (x6))+(u64.wrap (x4)))))):Int).fdiv (2 ^ (min (32:Int).toNat u64.bits)),(i64.wrap (s1.2.1+1)),()) h2))) h1))) h1))) h1)) (zg u (v.len:Int) 1 λa8=>(ldL (.int .u32) a8 (λx9=>(zg u (v.len:Int) 1 λa10=>(stP a10 [.int .u32 (u32.wrap (x9+(u32.wrap (s1.1))))] (λh3=>(K () h3)) h1))) h1)))) (0,0,()) h)
def z02(a:Sl)(n:Int)(K:Sl->Hp->Prop)(h:Hp):Prop:=(mkP (a.len:Int) (a.len:Int) 4 [.int .u32 0] (λm1 h1=>(zn (S:=Int×Unit) (λs2 k3 h2=>(ifP (decide (s2.1<(a.len:Int))) (zv (S:=Unit) (λs4 h3=>(k3 ((i64.wrap (s2.1+1)),()) h3)) (λk5=>(zg a s2.1 1 λa6=>(ldL (.int .u32) a6 (λx7=>(0<=(n:Int) /\ (zg m1 s2.1 1 λa8=>(stP a8 [.int .u32 ((x7:Int).fdiv (2 ^ (min (n:Int).toNat u32.bits)))] (λh4=>(ifP (decide ((i64.wrap (s2.1+1))<(a.len:Int))) (zg m1 s2.1 1 λa9=>(ldL (.int .u32) a9 (λx10=>(zg a (i64.wrap (s2.1+1)) 1 λa11=>(ldL (.int .u32) a11 (λx12=>(0<=((i64.wrap (32-n)):Int) /\ (zg m1 s2.1 1 λa13=>(stP a13 [.int .u32 (qu .or .u32 x10 (u32.wrap ((u64.wrap ((u64.wrap (x12))*2 ^ (min ((i64.wrap (32-n)):Int).toNat u64.bits))))))] (λh5=>(k5 () h5)) h4)))) h4))) h4)) (k5 () h4))) h2)))) h2)))) (K m1 h2))) (0,()) h1)) h)
def Wi(a:Sl)(b:Sl)(K:(Sl×Sl)->Hp->Prop)(h:Hp):Prop:=(zc (Xx a b) (λr1 h1=>(ifP (decide (r1<0)) (zc (Zi a) (λr2 h2=>(K (zf,r2) h2)) h1) (ifP (decide ((a.len:Int)<=2)) (zc (Xo a) (λr3 h3=>(zc (Xo b) (λr4 h4=>((r4:Int)≠0 /\ ((r4:Int)≠0 /\ (zc (qa (u64.wrap ((r3:Int).tdiv r4))) (λr5 h5=>(zc (qa ((r3:Int).tmod r4)) (λr6 h6=>(K (r5,r6) h6)) h5)) h4)))) h3)) h1) (ifP ((b.len:Int)==1) (zg b 0 1 λa7=>(ldL (.int .u32) a7 (λx8=>(zc (z01 a x8) (λr9 h7=>(K (r9.1,r9.2) h7)) h1)) h1)) (zg b (i64.wrap ((b.len:Int)-1)) 1 λa10=>(ldL (.int .u32) a10 (λx11=>(zc (Xh x11) (λr12 h8=>(zc (Xv a r12) (λr13 h9=>(zc (Xv b r12) (λr14 h10=>(zc (zy r14) (λr15 h11=>(mkP (i64.wrap ((r13.len:Int)-(r15.len:Int))) (i64.wrap ((r13.len:Int)-(r15.len:Int))) 4 [.int .u32 0] (λm16 h12=>(zg r15 (i64.wrap ((r15.len:Int)-1)) 1 λa17=>(ldL (.int .u32) a17 (λx18=>(zg r15 (i64.wrap ((r15.len:Int)-2)) 1 λa19=>(ldL (.int .u32) a19 (λx20=>(zn (S:=Int×Unit) (λs21 k22 h13=>(ifP (decide (s21.1>=0)) (zg r13 (i64.wrap (s21.1+(r15.len:Int))) 1 λa23=>(ldL (.int .u32) a23 (λx24=>(0<=(32:Int) /\ (zg r13 (i64.wrap ((i64.wrap (s21.1+(r15.len:Int)))-1)) 1 λa25=>(ldL (.int .u32) a25 (λx26=>(((u64.wrap (x18)):Int)≠0 /\ (((u64.wrap (x18)):Int)≠0 /\ (zv (S:=Int×Unit) (λs27 h14=>(zv (S:=Int×Unit) (λs29 h15=>(zg m16 s21.1 1 λa31=>(stP a31 [.int .u32 (u32.wrap (s29.1))] (λh16=>(k22 ((i64.wrap (s21.1-1)),()) h16)) h15))) (λk30=>(slP r13 s21.1 (i64.wrap ((i64.wrap (s21.1+(r15.len:Int)))+1)) 1 λc32=>(Qu (z1j c32 r15 s27.1) (λr33 h17=>(ifP r33 (slP r13 s21.1 (i64.wrap ((i64.wrap (s21.1+(r15.len:Int)))+1)) 1 λc34=>(Qu (z2r c34 r15) (λr35 h18=>(k30 ((u64.wrap (s27.1-1)),()) h18)) h17)) (k30 (s27.1,()) h17))) h14))))) (λk28=>(zn (S:=Int×Int×Unit) (λs36 k37 h19=>(zv (S:=Unit) (λs38 h20=>(ifP (decide ((u64.wrap (s36.2.1+(u64.wrap (x18))))>=4294967296)) (k28 ((u64.wrap (s36.1-1)),()) h20) (k37 ((u64.wrap (s36.1-1)),(u64.wrap (s36.2.1+(u64.wrap (x18)))),()) h20))) (λk39=>(ifP (decide (s36.1>=4294967296)) (k39 () h19) (0<=(32:Int) /\ (zg r13 (i64.wrap ((i64.wrap (s21.1+(r15.len:Int)))-2)) 1 λa40=>(ldL (.int .u32) a40 (λx41=>(ifP (decide ((u64.wrap (s36.1*(u64.wrap (x20))))>(qu .or .u64 (u64.wrap (s36.2.1*2 ^ (min (32:Int).toNat u64.bits))) (u64.wrap (x41))))) (k39 () h19) (k28 (s36.1,()) h19))) h19))))))) ((u64.wrap (((qu .or .u64 (u64.wrap ((u64.wrap (x24))*2 ^ (min (32:Int).toNat u64.bits))) (u64.wrap (x26))):Int).tdiv (u64.wrap (x18)))),((qu .or .u64 (u64.wrap ((u64.wrap (x24))*2 ^ (min (32:Int).toNat u64.bits))) (u64.wrap (x26))):Int).tmod (u64.wrap (x18)),()) h13)))))) h13)))) h13)) (slP r13 0 (r15.len:Int) 1 λc42=>(zc (zy m16) (λr43 h21=>(zc (zy c42) (λr44 h22=>(zc (z02 r44 r12) (λr45 h23=>(zc (zy r45) (λr46 h24=>(K (r43,r46) h24)) h23)) h22)) h21)) h13)))) ((i64.wrap ((m16.len:Int)-1)),()) h12)) h12))) h12))) h11)) h10)) h9)) h8)) h1)) h1)))))) h)
def z35(a:TInt)(b:TInt)(K:TInt->Hp->Prop)(h:Hp):Prop:=(zc (zy a.mag) (λr1 h1=>(zc (zy b.mag) (λr2 h2=>(zv (S:=Sl×Sl×Unit) (λs3 h3=>(ifP ((s3.2.1.len:Int)==0) (zc (Zi s3.1) (λr5 h4=>(zc (y9 false r5) (λr6 h5=>(K r6 h5)) h4)) h3) (zc (Xo s3.1) (λr7 h6=>(zc (Xo s3.2.1) (λr8 h7=>(zn (S:=Int×Int×Unit) (λs9 k10 h8=>(ifP (s9.2.1 != 0) ((s9.2.1:Int)≠0 /\ (k10 (s9.2.1,(s9.1:Int).tmod s9.2.1,()) h8)) (zc (qa s9.1) (λr11 h9=>(zc (y9 false r11) (λr12 h10=>(K r12 h10)) h9)) h8))) (r7,r8,()) h7)) h6)) h3))) (λk4=>(zn (S:=Sl×Sl×Unit) (λs13 k14 h11=>(zv (S:=Unit) (λs15 h12=>(zc (Wi s13.1 s13.2.1) (λr17 h13=>(k14 (s13.2.1,r17.2,()) h13)) h12)) (λk16=>(ifP (decide ((s13.2.1.len:Int)>2)) (k16 () h11) (ifP (decide ((s13.1.len:Int)>2)) (ifP (decide ((s13.2.1.len:Int)>0)) (k16 () h11) (k4 (s13.1,s13.2.1,()) h11)) (k4 (s13.1,s13.2.1,()) h11)))))) (r1,r2,()) h2)))) h1)) h)
def Q5(a:TInt)(K:Bool->Hp->Prop)(h:Hp):Prop:=(ifP (!a.neg) (ifP ((a.mag.len:Int)==1) (zg a.mag 0 1 λa1=>(ldL (.int .u32) a1 (λx2=>(K (x2==1) h)) h)) (K false h)) (K false h))
def z1i(a:Sl)(b:Sl)(K:Sl->Hp->Prop)(h:Hp):Prop:=(zv (S:=Sl×Sl×Unit) (λs1 h1=>(mkP 0 (i64.wrap ((s1.1.len:Int)+1)) 4 [.int .u32 0] (λm3 h2=>(zn (S:=Sl×Int×Int×Unit) (λs4 k5 h3=>(ifP (decide (s4.2.2.1<(s1.1.len:Int))) (zg s1.1 s4.2.2.1 1 λa6=>(ldL (.int .u32) a6 (λx7=>(zv (S:=Int×Unit) (λs8 h4=>(ql 1 4 [.int .u32 0] s4.1 1 [.int .u32 (u32.wrap (s8.1))] (λw10 h5=>(0<=(32:Int) /\ (k5 (w10,(s8.1:Int).fdiv (2 ^ (min (32:Int).toNat u64.bits)),(i64.wrap (s4.2.2.1+1)),()) h5))) h4)) (λk9=>(ifP (decide (s4.2.2.1<(s1.2.1.len:Int))) (zg s1.2.1 s4.2.2.1 1 λa11=>(ldL (.int .u32) a11 (λx12=>(k9 ((u64.wrap ((u64.wrap (s4.2.1+(u64.wrap (x7))))+(u64.wrap (x12)))),()) h3)) h3)) (k9 ((u64.wrap (s4.2.1+(u64.wrap (x7)))),()) h3))))) h3)) (ifP (decide (s4.2.1>0)) (ql 1 4 [.int .u32 0] s4.1 1 [.int .u32 (u32.wrap (s4.2.1))] (λw13 h6=>(K w13 h6)) h3) (K s4.1 h3)))) (m3,0,0,()) h2)) h1)) (λk2=>(ifP (decide ((a.len:Int)<(b.len:Int))) (k2 (b,a,()) h) (k2 (a,b,()) h))))
def Vj(a:Sl)(b:Sl)(K:Sl->Hp->Prop)(h:Hp):Prop:=(mkP (a.len:Int) (a.len:Int) 4 [.int .u32 0] (λm1 h1=>(zn (S:=Int×Int×Unit) (λs2 k3 h2=>(ifP (decide (s2.2.1<(a.len:Int))) (zg a s2.2.1 1 λa4=>(ldL (.int .u32) a4 (λx5=>(zv (S:=Int×Unit) (λs6 h3=>(zg m1 s2.2.1 1 λa8=>(stP a8 [.int .u32 (u32.wrap (s6.1))] (λh4=>(0<=(63:Int) /\ (k3 ((s6.1:Int).fdiv (2 ^ (min (63:Int).toNat u64.bits)),(i64.wrap (s2.2.1+1)),()) h4))) h3))) (λk7=>(ifP (decide (s2.2.1<(b.len:Int))) (zg b s2.2.1 1 λa9=>(ldL (.int .u32) a9 (λx10=>(k7 ((u64.wrap ((u64.wrap ((u64.wrap (x5))-s2.1))-(u64.wrap (x10)))),()) h2)) h2)) (k7 ((u64.wrap ((u64.wrap (x5))-s2.1)),()) h2))))) h2)) (zc (zy m1) (λr11 h5=>(K r11 h5)) h2))) (0,0,()) h1)) h)
def z3o(a:TInt)(b:TInt)(K:(TInt×TInt×Int)->Hp->Prop)(h:Hp):Prop:=(zc (zy b.mag) (λr1 h1=>(ifP ((r1.len:Int)==0) (K ((⟨false,zf⟩:TInt),(⟨false,zf⟩:TInt),6) h1) (zc (zy a.mag) (λr2 h2=>(zc (Wi r2 r1) (λr3 h3=>(zv (S:=Sl×Sl×Unit) (λs4 h4=>(zc (y9 (!(a.neg==b.neg)) s4.1) (λr6 h5=>(zc (y9 b.neg s4.2.1) (λr7 h6=>(K (r6,r7,0) h6)) h5)) h4)) (λk5=>(ifP (!(a.neg==b.neg)) (ifP (decide ((r3.2.len:Int)>0)) (Y2 [.int .u32 1] (λp8 h7=>(zc (z1i r3.1 (⟨some p8,1,1⟩:Sl)) (λr9 h8=>(zc (Vj r1 r3.2) (λr10 h9=>(k5 (r9,r10,()) h9)) h8)) h7)) h3) (k5 (r3.1,r3.2,()) h3)) (k5 (r3.1,r3.2,()) h3))))) h2)) h1))) h)
def z3v(a:TInt)(b:TInt)(K:TInt->Hp->Prop)(h:Hp):Prop:=(zc (Q5 b) (λr1 h1=>(ifP r1 (K a h1) (zc (z3o a b) (λr2 h2=>(K (⟨r2.1.neg,r2.1.mag⟩:TInt) h2)) h1))) h)
def z5v(a:TInt)(K:TInt->Hp->Prop)(h:Hp):Prop:=(zc (zy a.mag) (λr1 h1=>(zc (Zi r1) (λr2 h2=>(zc (y9 (!a.neg) r2) (λr3 h3=>(K r3 h3)) h2)) h1)) h)
def W6(num:TInt)(den:TInt)(K:TRat->Hp->Prop)(h:Hp):Prop:=(zc (z35 num den) (λr1 h1=>(zv (S:=(Bool×Sl×Unit)×Unit) (λs2 h2=>(zc (z3v num (⟨s2.1.1,s2.1.2.1⟩:TInt)) (λr4 h3=>(zc (z3v den (⟨s2.1.1,s2.1.2.1⟩:TInt)) (λr5 h4=>(K (⟨r4,r5⟩:TRat) h4)) h3)) h2)) (λk3=>(ifP den.neg (zc (z5v r1) (λr6 h5=>(k3 ((r6.neg,r6.mag,()),()) h5)) h1) (k3 ((r1.neg,r1.mag,()),()) h1))))) h)
def z6z(a:TRat)(b:TRat)(K:(TRat×Int)->Hp->Prop)(h:Hp):Prop:=(zc (z2u b.num) (λr1 h1=>(ifP r1 (K ((⟨(⟨false,zf⟩:TInt),(⟨false,zf⟩:TInt)⟩:TRat),6) h1) (zc (Qw a.num b.den) (λr2 h2=>(zc (Qw a.den b.num) (λr3 h3=>(zc (W6 r2 r3) (λr4 h4=>(K (r4,0) h4)) h3)) h2)) h1))) h)
def z3u(a:TRat)(b:TRat)(K:TRat->Hp->Prop)(h:Hp):Prop:=(zv (S:=(Bool×Sl×Bool×Sl×Unit)×Unit) (λs1 h1=>(zc (Qw a.num b.num) (λr3 h2=>(zc (Qw a.den b.den) (λr4 h3=>(zc (W6 r3 r4) (λr5 h4=>(K r5 h4)) h3)) h2)) h1)) (λk2=>(zc (Q5 a.den) (λr6 h5=>(ifP r6 (zc (Q5 b.den) (λr7 h6=>(ifP r7 (zc (Qw a.num b.num) (λr8 h7=>(zc (z1q) (λr9 h8=>(K (⟨r8,r9⟩:TRat) h8)) h7)) h6) (k2 ((false,zf,false,zf,()),()) h6))) h5) (k2 ((false,zf,false,zf,()),()) h5))) h)))
def z5t(a:TInt)(b:TInt)(K:TInt->Hp->Prop)(h:Hp):Prop:=(zc (zy a.mag) (λr1 h1=>(zc (zy b.mag) (λr2 h2=>(ifP (a.neg==b.neg) (zc (z1i r1 r2) (λr3 h3=>(zc (y9 a.neg r3) (λr4 h4=>(K r4 h4)) h3)) h2) (zc (Xx r1 r2) (λr5 h5=>(ifP (decide (r5<0)) (zc (Vj r2 r1) (λr6 h6=>(zc (y9 b.neg r6) (λr7 h7=>(K r7 h7)) h6)) h5) (zc (Vj r1 r2) (λr8 h8=>(zc (y9 a.neg r8) (λr9 h9=>(K r9 h9)) h8)) h5))) h2))) h1)) h)
def z6y(a:TRat)(b:TRat)(K:TRat->Hp->Prop)(h:Hp):Prop:=(zv (S:=(Bool×Sl×Bool×Sl×Unit)×Unit) (λs1 h1=>(zc (Qw a.num b.den) (λr3 h2=>(zc (Qw b.num a.den) (λr4 h3=>(zc (z5t r3 r4) (λr5 h4=>(zc (Qw a.den b.den) (λr6 h5=>(zc (W6 r5 r6) (λr7 h6=>(K r7 h6)) h5)) h4)) h3)) h2)) h1)) (λk2=>(zc (Q5 a.den) (λr8 h7=>(ifP r8 (zc (Q5 b.den) (λr9 h8=>(ifP r9 (zc (z5t a.num b.num) (λr10 h9=>(zc (z1q) (λr11 h10=>(K (⟨r10,r11⟩:TRat) h10)) h9)) h8) (k2 ((false,zf,false,zf,()),()) h8))) h7) (k2 ((false,zf,false,zf,()),()) h7))) h)))
def Yf(m:Sl)(K:Sl->Hp->Prop)(h:Hp):Prop:=(zn (S:=Sl×Unit) (λs1 k2 h1=>(zv (S:=Unit) (λs3 h2=>(slP s1.1 0 (i64.wrap ((s1.1.len:Int)-1)) 1 λc5=>(k2 (c5,()) h2))) (λk4=>(ifP (decide ((s1.1.len:Int)>0)) (zg s1.1 (i64.wrap ((s1.1.len:Int)-1)) 1 λa6=>(ldL (.int .u32) a6 (λx7=>(ifP (x7==0) (k4 () h1) (K s1.1 h1))) h1)) (K s1.1 h1))))) (m,()) h)
def Y4(neg:Bool)(m:Sl)(K:TInt->Hp->Prop)(h:Hp):Prop:=(zc (Yf m) (λr1 h1=>(ifP neg (K (⟨decide ((r1.len:Int)>0),r1⟩:TInt) h1) (K (⟨false,r1⟩:TInt) h1))) h)
def zdr(a:TInt)(K:TInt->Hp->Prop)(h:Hp):Prop:=(zc (Y4 (!a.neg) a.mag) (λr1 h1=>(K r1 h1)) h)
def Xy(a:TInt)(K:TInt->Hp->Prop)(h:Hp):Prop:=(zc (Y4 a.neg a.mag) (λr1 h1=>(K r1 h1)) h)
def z15(a:Sl)(b:Sl)(K:Sl->Hp->Prop)(h:Hp):Prop:=(mkP (i64.wrap ((a.len:Int)+(b.len:Int))) (i64.wrap ((a.len:Int)+(b.len:Int))) 4 [.int .u32 0] (λm1 h1=>(zn (S:=Int×Unit) (λs2 k3 h2=>(ifP (decide (s2.1<(a.len:Int))) (zn (S:=Int×Int×Unit) (λs4 k5 h3=>(ifP (decide (s4.2.1<(b.len:Int))) (zg m1 (i64.wrap (s2.1+s4.2.1)) 1 λa6=>(ldL (.int .u32) a6 (λx7=>(zg a s2.1 1 λa8=>(ldL (.int .u32) a8 (λx9=>(zg b s4.2.1 1 λa10=>(ldL (.int .u32) a10 (λx11=>(zg m1 (i64.wrap (s2.1+s4.2.1)) 1 λa12=>(stP a12 [.int .u32 (u32.wrap ((u64.wrap ((u64.wrap (s4.1+(u64.wrap (x7))))+(u64.wrap ((u64.wrap (x9))*(u64.wrap (x11))))))))] (λh4=>(0<=(32:Int) /\ (k5 (((u64.wrap ((u64.wrap (s4.1+(u64.wrap (x7))))+(u64.wrap ((u64.wrap (x9))*(u64.wrap (x11)))))):Int).fdiv (2 ^ (min (32:Int).toNat u64.bits)),(i64.wrap (s4.2.1+1)),()) h4))) h3))) h3))) h3))) h3)) (zg m1 (i64.wrap (s2.1+(b.len:Int))) 1 λa13=>(stP a13 [.int .u32 (u32.wrap (s4.1))] (λh5=>(k3 ((i64.wrap (s2.1+1)),()) h5)) h3)))) (0,0,()) h2) (zc (Yf m1) (λr14 h6=>(K r14 h6)) h2))) (0,()) h1)) h)
def z4q(a:TInt)(b:TInt)(K:TInt->Hp->Prop)(h:Hp):Prop:=(zc (Xy a) (λr1 h1=>(zc (Xy b) (λr2 h2=>(zc (z15 r1.mag r2.mag) (λr3 h3=>(zc (Y4 (!(r1.neg==r2.neg)) r3) (λr4 h4=>(K r4 h4)) h3)) h2)) h1)) h)
def z80(a:Sl)(b:Sl)(K:Sl->Hp->Prop)(h:Hp):Prop:=(zv (S:=Sl×Sl×Unit) (λs1 h1=>(mkP (i64.wrap ((s1.1.len:Int)+1)) (i64.wrap ((s1.1.len:Int)+1)) 4 [.int .u32 0] (λm3 h2=>(zn (S:=Int×Int×Unit) (λs4 k5 h3=>(ifP (decide (s4.2.1<(s1.1.len:Int))) (zg s1.1 s4.2.1 1 λa6=>(ldL (.int .u32) a6 (λx7=>(zv (S:=Int×Unit) (λs8 h4=>(zg m3 s4.2.1 1 λa10=>(stP a10 [.int .u32 (u32.wrap (s8.1))] (λh5=>(0<=(32:Int) /\ (k5 ((s8.1:Int).fdiv (2 ^ (min (32:Int).toNat u64.bits)),(i64.wrap (s4.2.1+1)),()) h5))) h4))) (λk9=>(ifP (decide (s4.2.1<(s1.2.1.len:Int))) (zg s1.2.1 s4.2.1 1 λa11=>(ldL (.int .u32) a11 (λx12=>(k9 ((u64.wrap ((u64.wrap (s4.1+(u64.wrap (x7))))+(u64.wrap (x12)))),()) h3)) h3)) (k9 ((u64.wrap (s4.1+(u64.wrap (x7)))),()) h3))))) h3)) (zg m3 (s1.1.len:Int) 1 λa13=>(stP a13 [.int .u32 (u32.wrap (s4.1))] (λh6=>(zc (Yf m3) (λr14 h7=>(K r14 h7)) h6)) h3)))) (0,0,()) h2)) h1)) (λk2=>(ifP (decide ((a.len:Int)<(b.len:Int))) (k2 (b,a,()) h) (k2 (a,b,()) h))))
def Wd(a:Sl)(b:Sl)(K:Int->Hp->Prop)(h:Hp):Prop:=(ifP ((a.len:Int) != (b.len:Int)) (ifP (decide ((a.len:Int)<(b.len:Int))) (K (-1) h) (K 1 h)) (zn (S:=Int×Unit) (λs1 k2 h1=>(ifP (decide (s1.1>=0)) (zg a s1.1 1 λa3=>(ldL (.int .u32) a3 (λx4=>(zg b s1.1 1 λa5=>(ldL (.int .u32) a5 (λx6=>(ifP (decide (x4<x6)) (K (-1) h1) (zg a s1.1 1 λa7=>(ldL (.int .u32) a7 (λx8=>(zg b s1.1 1 λa9=>(ldL (.int .u32) a9 (λx10=>(ifP (decide (x8>x10)) (K 1 h1) (k2 ((i64.wrap (s1.1-1)),()) h1))) h1))) h1)))) h1))) h1)) (K 0 h1))) ((i64.wrap ((a.len:Int)-1)),()) h))
def Vd(a:Sl)(b:Sl)(K:Sl->Hp->Prop)(h:Hp):Prop:=(mkP (a.len:Int) (a.len:Int) 4 [.int .u32 0] (λm1 h1=>(zn (S:=Int×Int×Unit) (λs2 k3 h2=>(ifP (decide (s2.2.1<(a.len:Int))) (zv (S:=Int×Unit) (λs4 h3=>(zg a s2.2.1 1 λa6=>(ldL (.int .u32) a6 (λx7=>(zg m1 s2.2.1 1 λa8=>(stP a8 [.int .u32 (u32.wrap ((u64.wrap ((u64.wrap ((u64.wrap ((u64.wrap (x7))+4294967296))-s4.1))-s2.1))))] (λh4=>(0<=(32:Int) /\ (k3 ((u64.wrap (1-(((u64.wrap ((u64.wrap ((u64.wrap ((u64.wrap (x7))+4294967296))-s4.1))-s2.1)):Int).fdiv (2 ^ (min (32:Int).toNat u64.bits))))),(i64.wrap (s2.2.1+1)),()) h4))) h3))) h3))) (λk5=>(ifP (decide (s2.2.1<(b.len:Int))) (zg b s2.2.1 1 λa9=>(ldL (.int .u32) a9 (λx10=>(k5 ((u64.wrap (x10)),()) h2)) h2)) (k5 (0,()) h2)))) (zc (Yf m1) (λr11 h5=>(K r11 h5)) h2))) (0,0,()) h1)) h)
def z9u(a:TInt)(b:TInt)(K:TInt->Hp->Prop)(h:Hp):Prop:=(zc (Xy a) (λr1 h1=>(zc (Xy b) (λr2 h2=>(ifP (r1.neg==r2.neg) (zc (z80 r1.mag r2.mag) (λr3 h3=>(zc (Y4 r1.neg r3) (λr4 h4=>(K r4 h4)) h3)) h2) (zc (Wd r1.mag r2.mag) (λr5 h5=>(ifP (decide (r5>=0)) (zc (Vd r1.mag r2.mag) (λr6 h6=>(zc (Y4 r1.neg r6) (λr7 h7=>(K r7 h7)) h6)) h5) (zc (Vd r2.mag r1.mag) (λr8 h8=>(zc (Y4 r2.neg r8) (λr9 h9=>(K r9 h9)) h8)) h5))) h2))) h1)) h)
def z9v(a:TInt)(b:TInt)(K:TInt->Hp->Prop)(h:Hp):Prop:=(zc (zdr b) (λr1 h1=>(zc (z9u a r1) (λr2 h2=>(K r2 h2)) h1)) h)
def z14(a:TInt)(K:Int->Hp->Prop)(h:Hp):Prop:=(zc (Xy a) (λr1 h1=>(ifP ((r1.mag.len:Int)==0) (K 0 h1) (ifP r1.neg (K (-1) h1) (K 1 h1)))) h)
def z3b(m:Sl)(K:Int->Hp->Prop)(h:Hp):Prop:=(zn (S:=Int×Int×Unit) (λs1 k2 h1=>(ifP (decide (s1.2.1>=0)) (0<=(32:Int) /\ (zg m s1.2.1 1 λa3=>(ldL (.int .u32) a3 (λx4=>(k2 (qu .or .u64 (u64.wrap (s1.1*2 ^ (min (32:Int).toNat u64.bits))) (u64.wrap (x4)),(i64.wrap (s1.2.1-1)),()) h1)) h1))) (K s1.1 h1))) (0,(i64.wrap ((m.len:Int)-1)),()) h)
def Ve(n:Int)(K:Sl->Hp->Prop)(h:Hp):Prop:=(0<=(32:Int) /\ (Y2 [.int .u32 (u32.wrap (n)),.int .u32 (u32.wrap ((n:Int).fdiv (2 ^ (min (32:Int).toNat u64.bits))))] (λp1 h1=>(zc (Yf (⟨some p1,2,2⟩:Sl)) (λr2 h2=>(K r2 h2)) h1)) h))
def zcr(a:Sl)(n:Int)(K:(Sl×Int)->Hp->Prop)(h:Hp):Prop:=(mkP (a.len:Int) (a.len:Int) 4 [.int .u32 0] (λm1 h1=>(zn (S:=Int×Int×Unit) (λs2 k3 h2=>(ifP (decide (s2.2.1>=0)) (0<=(32:Int) /\ (zg a s2.2.1 1 λa4=>(ldL (.int .u32) a4 (λx5=>(((u64.wrap (n)):Int)≠0 /\ (zg m1 s2.2.1 1 λa6=>(stP a6 [.int .u32 (u32.wrap ((u64.wrap (((qu .or .u64 (u64.wrap (s2.1*2 ^ (min (32:Int).toNat u64.bits))) (u64.wrap (x5))):Int).tdiv (u64.wrap (n))))))] (λh3=>(((u64.wrap (n)):Int)≠0 /\ (k3 (((qu .or .u64 (u64.wrap (s2.1*2 ^ (min (32:Int).toNat u64.bits))) (u64.wrap (x5))):Int).tmod (u64.wrap (n)),(i64.wrap (s2.2.1-1)),()) h3))) h2)))) h2))) (zc (Yf m1) (λr7 h4=>(K (r7,(u32.wrap (s2.1))) h4)) h2))) (0,(i64.wrap ((a.len:Int)-1)),()) h1)) h)
def z3x(a:Sl)(K:Int->Hp->Prop)(h:Hp):Prop:=(ifP ((a.len:Int)==0) (K 0 h) (zg a (i64.wrap ((a.len:Int)-1)) 1 λa1=>(ldL (.int .u32) a1 (λx2=>(zn (S:=Int×Int×Unit) (λs3 k4 h1=>(ifP (decide (s3.2.1>0)) ((2:Int)≠0 /\ (k4 ((i64.wrap (s3.1+1)),(u32.wrap ((s3.2.1:Int).tdiv 2)),()) h1)) (K (i64.wrap ((i64.wrap (32*(i64.wrap ((a.len:Int)-1))))+s3.1)) h1))) (0,x2,()) h)) h)))
def z5i(a:Sl)(s:Int)(K:Sl->Hp->Prop)(h:Hp):Prop:=(mkP (i64.wrap ((a.len:Int)+1)) (i64.wrap ((a.len:Int)+1)) 4 [.int .u32 0] (λm1 h1=>(zn (S:=Int×Unit) (λs2 k3 h2=>(ifP (decide (s2.1<(a.len:Int))) (zg a s2.1 1 λa4=>(ldL (.int .u32) a4 (λx5=>(0<=(s:Int) /\ (zg m1 s2.1 1 λa6=>(ldL (.int .u32) a6 (λx7=>(zg m1 s2.1 1 λa8=>(stP a8 [.int .u32 (qu .or .u32 x7 (u32.wrap ((u64.wrap ((u64.wrap (x5))*2 ^ (min (s:Int).toNat u64.bits))))))] (λh3=>(0<=(32:Int) /\ (zg m1 (i64.wrap (s2.1+1)) 1 λa9=>(stP a9 [.int .u32 (u32.wrap (((u64.wrap ((u64.wrap (x5))*2 ^ (min (s:Int).toNat u64.bits))):Int).fdiv (2 ^ (min (32:Int).toNat u64.bits))))] (λh4=>(k3 ((i64.wrap (s2.1+1)),()) h4)) h3)))) h2))) h2)))) h2)) (K m1 h2))) (0,()) h1)) h)
def z8r(x:Sl)(y:Sl)(K:(Int×Sl)->Hp->Prop)(h:Hp):Prop:=(zg x (y.len:Int) 1 λa1=>(ldL (.int .u32) a1 (λx2=>(0<=(32:Int) /\ (zg x (i64.wrap ((y.len:Int)-1)) 1 λa3=>(ldL (.int .u32) a3 (λx4=>(zg y (i64.wrap ((y.len:Int)-1)) 1 λa5=>(ldL (.int .u32) a5 (λx6=>(((u64.wrap (x6)):Int)≠0 /\ (zv (S:=Int×Unit) (λs7 h1=>(Y2 [.int .u32 (u32.wrap (s7.1))] (λp9 h2=>(zc (z15 y (⟨some p9,1,1⟩:Sl)) (λr10 h3=>(zn (S:=Int×Sl×Unit) (λs11 k12 h4=>(zc (Yf x) (λr13 h5=>(zc (Wd r13 s11.2.1) (λr14 h6=>(ifP (decide (r14<0)) (zc (Vd s11.2.1 y) (λr15 h7=>(k12 ((u64.wrap (s11.1-1)),r15,()) h7)) h6) (K ((u32.wrap (s11.1)),s11.2.1) h6))) h5)) h4)) (s7.1,r10,()) h3)) h2)) h1)) (λk8=>(ifP (decide ((u64.wrap (((qu .or .u64 (u64.wrap ((u64.wrap (x2))*2 ^ (min (32:Int).toNat u64.bits))) (u64.wrap (x4))):Int).tdiv (u64.wrap (x6))))>4294967295)) (k8 (4294967295,()) h) (k8 ((u64.wrap (((qu .or .u64 (u64.wrap ((u64.wrap (x2))*2 ^ (min (32:Int).toNat u64.bits))) (u64.wrap (x4))):Int).tdiv (u64.wrap (x6)))),()) h)))))) h))) h)))) h))
def zao(a:Sl)(s:Int)(K:Sl->Hp->Prop)(h:Hp):Prop:=(mkP (a.len:Int) (a.len:Int) 4 [.int .u32 0] (λm1 h1=>(zn (S:=Int×Unit) (λs2 k3 h2=>(ifP (decide (s2.1<(a.len:Int))) (zg a s2.1 1 λa4=>(ldL (.int .u32) a4 (λx5=>(zv (S:=Int×Unit) (λs6 h3=>(0<=(s:Int) /\ (zg m1 s2.1 1 λa8=>(stP a8 [.int .u32 (u32.wrap ((s6.1:Int).fdiv (2 ^ (min (s:Int).toNat u64.bits))))] (λh4=>(k3 ((i64.wrap (s2.1+1)),()) h4)) h3)))) (λk7=>(ifP (decide ((i64.wrap (s2.1+1))<(a.len:Int))) (zg a (i64.wrap (s2.1+1)) 1 λa9=>(ldL (.int .u32) a9 (λx10=>(0<=(32:Int) /\ (k7 (qu .or .u64 (u64.wrap (x5)) (u64.wrap ((u64.wrap (x10))*2 ^ (min (32:Int).toNat u64.bits))),()) h2))) h2)) (k7 ((u64.wrap (x5)),()) h2))))) h2)) (zc (Yf m1) (λr11 h5=>(K r11 h5)) h2))) (0,()) h1)) h)
def z1r(a:Sl)(b:Sl)(K:(Sl×Sl)->Hp->Prop)(h:Hp):Prop:=(zc (Wd a b) (λr1 h1=>(ifP (decide (r1<0)) (K (zf,a) h1) (ifP (decide ((a.len:Int)<=2)) (zc (z3b a) (λr2 h2=>(zc (z3b b) (λr3 h3=>((r3:Int)≠0 /\ ((r3:Int)≠0 /\ (zc (Ve (u64.wrap ((r2:Int).tdiv r3))) (λr4 h4=>(zc (Ve ((r2:Int).tmod r3)) (λr5 h5=>(K (r4,r5) h5)) h4)) h3)))) h2)) h1) (ifP ((b.len:Int)==1) (zg b 0 1 λa6=>(ldL (.int .u32) a6 (λx7=>(zc (zcr a x7) (λr8 h6=>(zc (Ve (u64.wrap (r8.2))) (λr9 h7=>(K (r8.1,r9) h7)) h6)) h1)) h1)) (zc (z3x b) (λr10 h8=>(zc (z5i a (i64.wrap ((i64.wrap (32*(b.len:Int)))-r10))) (λr11 h9=>(zc (z5i b (i64.wrap ((i64.wrap (32*(b.len:Int)))-r10))) (λr12 h10=>(zc (Yf r12) (λr13 h11=>(mkP (a.len:Int) (a.len:Int) 4 [.int .u32 0] (λm14 h12=>(zn (S:=Int×Unit) (λs15 k16 h13=>(ifP (decide (s15.1>=0)) (slP r11 s15.1 (i64.wrap ((i64.wrap (s15.1+(r13.len:Int)))+1)) 1 λc17=>(zc (z8r c17 r13) (λr18 h14=>(zg m14 s15.1 1 λa19=>(stP a19 [.int .u32 r18.1] (λh15=>(zc (Yf c17) (λr20 h16=>(zc (Vd r20 r18.2) (λr21 h17=>(zn (S:=Int×Unit) (λs22 k23 h18=>(ifP (decide (s22.1<(c17.len:Int))) (zv (S:=Unit) (λs24 h19=>(k23 ((i64.wrap (s22.1+1)),()) h19)) (λk25=>(zg c17 s22.1 1 λa26=>(stP a26 [.int .u32 0] (λh20=>(ifP (decide (s22.1<(r21.len:Int))) (zg r21 s22.1 1 λa27=>(ldL (.int .u32) a27 (λx28=>(zg c17 s22.1 1 λa29=>(stP a29 [.int .u32 x28] (λh21=>(k25 () h21)) h20))) h20)) (k25 () h20))) h18)))) (k16 ((i64.wrap (s15.1-1)),()) h18))) (0,()) h17)) h16)) h15)) h14))) h13)) (zc (Yf m14) (λr30 h22=>(zc (Yf r11) (λr31 h23=>(zc (zao r31 (i64.wrap ((i64.wrap (32*(b.len:Int)))-r10))) (λr32 h24=>(K (r30,r32) h24)) h23)) h22)) h13))) ((i64.wrap ((a.len:Int)-(r13.len:Int))),()) h12)) h11)) h10)) h9)) h8)) h1))))) h)
def z4p(a:TInt)(b:TInt)(K:TInt->Hp->Prop)(h:Hp):Prop:=(zc (Yf a.mag) (λr1 h1=>(zc (Yf b.mag) (λr2 h2=>(zn (S:=Sl×Sl×Unit) (λs3 k4 h3=>(ifP (decide ((s3.2.1.len:Int)>0)) (zc (z1r s3.1 s3.2.1) (λr5 h4=>(k4 (s3.2.1,r5.2,()) h4)) h3) (zc (Y4 false s3.1) (λr6 h5=>(K r6 h5)) h3))) (r1,r2,()) h2)) h1)) h)
def z7h(a:TInt)(K:Bool->Hp->Prop)(h:Hp):Prop:=(ifP ((a.mag.len:Int)==1) (zg a.mag 0 1 λa1=>(ldL (.int .u32) a1 (λx2=>(ifP (x2==1) (K (!a.neg) h) (K false h))) h)) (K false h))
def Vo(n:Int)(K:TInt->Hp->Prop)(h:Hp):Prop:=(ifP (decide (n<0)) (zc (Ve (u64.wrap (0-(u64.wrap (n))))) (λr1 h1=>(zc (Y4 true r1) (λr2 h2=>(K r2 h2)) h1)) h) (zc (Ve (u64.wrap (n))) (λr3 h3=>(zc (Y4 false r3) (λr4 h4=>(K r4 h4)) h3)) h))
def z72(a:TInt)(b:TInt)(K:(TInt×TInt×Int)->Hp->Prop)(h:Hp):Prop:=(zc (Xy a) (λr1 h1=>(zc (Xy b) (λr2 h2=>(ifP ((r2.mag.len:Int)==0) (K ((⟨false,zf⟩:TInt),(⟨false,zf⟩:TInt),6) h2) (zc (z1r r1.mag r2.mag) (λr3 h3=>(zc (Y4 (!(r1.neg==r2.neg)) r3.1) (λr4 h4=>(zc (z4q r4 r2) (λr5 h5=>(zc (z9v r1 r5) (λr6 h6=>(zv (S:=(Bool×Sl×Unit)×(Bool×Sl×Unit)×Unit) (λs7 h7=>(K ((⟨s7.1.1,s7.1.2.1⟩:TInt),(⟨s7.2.1.1,s7.2.1.2.1⟩:TInt),0) h7)) (λk8=>(zc (z14 r6) (λr9 h8=>(zc (z14 r2) (λr10 h9=>(ifP (decide ((i64.wrap (r9*r10))<0)) (zc (Vo 1) (λr11 h10=>(zc (z9v r4 r11) (λr12 h11=>(zc (z9u r6 r2) (λr13 h12=>(k8 ((r12.neg,r12.mag,()),(r13.neg,r13.mag,()),()) h12)) h11)) h10)) h9) (k8 ((r4.neg,r4.mag,()),(r6.neg,r6.mag,()),()) h9))) h8)) h6)))) h5)) h4)) h3)) h2))) h1)) h)
def z4s(a:TInt)(b:TInt)(K:TInt->Hp->Prop)(h:Hp):Prop:=(zc (z72 a b) (λr1 h1=>(K (⟨r1.1.neg,r1.1.mag⟩:TInt) h1)) h)
def Q1(n:Int)(K:TRat->Hp->Prop)(h:Hp):Prop:=(zc (Vo n) (λr1 h1=>(zc (Vo 1) (λr2 h2=>(K (⟨r1,r2⟩:TRat) h2)) h1)) h)
def zds(a:TRat)(b:TRat)(K:TRat->Hp->Prop)(h:Hp):Prop:=(zv (S:=(Bool×Sl×Bool×Sl×Unit)×Unit) (λs1 h1=>(zv (S:=(Bool×Sl×Bool×Sl×Unit)×Unit) (λs3 h2=>(zc (z4p a.num b.den) (λr5 h3=>(zc (z4p b.num a.den) (λr6 h4=>(zc (z4s a.num r5) (λr7 h5=>(zc (z4s b.num r6) (λr8 h6=>(zc (z4q r7 r8) (λr9 h7=>(zc (z4s a.den r6) (λr10 h8=>(zc (z4s b.den r5) (λr11 h9=>(zc (z4q r10 r11) (λr12 h10=>(K (⟨r9,r12⟩:TRat) h10)) h9)) h8)) h7)) h6)) h5)) h4)) h3)) h2)) (λk4=>(zc (z7h a.den) (λr13 h11=>(ifP r13 (zc (z7h b.den) (λr14 h12=>(ifP r14 (zc (z4q a.num b.num) (λr15 h13=>(K (⟨r15,a.den⟩:TRat) h13)) h12) (k4 ((s1.1.1,s1.1.2.1,s1.1.2.2.1,s1.1.2.2.2.1,()),()) h12))) h11) (k4 ((s1.1.1,s1.1.2.1,s1.1.2.2.1,s1.1.2.2.2.1,()),()) h11))) h1)))) (λk2=>(ifP ((a.num.mag.len:Int)==0) (zc (Q1 0) (λr16 h14=>(K r16 h14)) h) (ifP ((b.num.mag.len:Int)==0) (zc (Q1 0) (λr17 h15=>(K r17 h15)) h) (k2 ((false,zf,false,zf,()),()) h)))))
def z4r(a:TRat)(K:Int->Hp->Prop)(h:Hp):Prop:=(zc (z14 a.num) (λr1 h1=>(K r1 h1)) h)
def z71(a:TRat)(K:TRat->Hp->Prop)(h:Hp):Prop:=(zc (z5v a.num) (λr1 h1=>(K (⟨r1,a.den⟩:TRat) h1)) h)
def z61(a:TInt)(K:Bool->Hp->Prop)(h:Hp):Prop:=(zc (Yf a.mag) (λr1 h1=>(ifP ((r1.len:Int)==(a.mag.len:Int)) (ifP (!a.neg) (K true h1) (K (decide ((a.mag.len:Int)>0)) h1)) (K false h1))) h)
def V5(a:TRat)(K:Bool->Hp->Prop)(h:Hp):Prop:=(zc (z61 a.num) (λr1 h1=>(ifP r1 (zc (z61 a.den) (λr2 h2=>(ifP r2 (zc (z14 a.den) (λr3 h3=>(ifP (decide (r3>0)) (zc (z4p a.num a.den) (λr4 h4=>(zc (z7h r4) (λr5 h5=>(K r5 h5)) h4)) h3) (K false h3))) h2) (K false h2))) h1) (K false h1))) h)
def z2g(a:TInt)(K:Bool->Hp->Prop)(h:Hp):Prop:=(ifP ((a.mag.len:Int)==0) (ifP (!a.neg) (K true h) (ifP (decide ((a.mag.len:Int)>0)) (zg a.mag (i64.wrap ((a.mag.len:Int)-1)) 1 λa1=>(ldL (.int .u32) a1 (λx2=>(K (x2 != 0) h)) h)) (K false h))) (ifP (decide ((a.mag.len:Int)>0)) (zg a.mag (i64.wrap ((a.mag.len:Int)-1)) 1 λa3=>(ldL (.int .u32) a3 (λx4=>(K (x4 != 0) h)) h)) (K false h)))
def Qg(a:TRat)(K:Bool->Hp->Prop)(h:Hp):Prop:=(zc (z2g a.num) (λr1 h1=>(ifP r1 (zc (z2g a.den) (λr2 h2=>(ifP r2 (zc (Vb a.den) (λr3 h3=>(ifP (decide (r3>0)) (zc (z35 a.num a.den) (λr4 h4=>(zc (Q5 r4) (λr5 h5=>(K r5 h5)) h4)) h3) (K false h3))) h2) (K false h2))) h1) (K false h1))) h)
end F
end Den
end

section
set_option maxRecDepth 10000
namespace Den
open Go
namespace F
def z0y(c:Int)(K:Bool->Hp->Prop)(h:Hp):Prop:=(ifP (decide (c>=97)) (ifP (decide (c<=122)) (K true h) (ifP (decide (c>=65)) (K (decide (c<=90)) h) (K false h))) (ifP (decide (c>=65)) (K (decide (c<=90)) h) (K false h)))
def z2i(c:Int)(K:Bool->Hp->Prop)(h:Hp):Prop:=(ifP (decide (c>=48)) (K (decide (c<=57)) h) (K false h))
def z6u(c:Int)(K:Bool->Hp->Prop)(h:Hp):Prop:=(zc (z0y c) (λr1 h1=>(ifP r1 (K true h1) (zc (z2i c) (λr2 h2=>(ifP r2 (K true h2) (K (c==95) h2))) h1))) h)
def Xw(s:ByteArray)(K:Int->Hp->Prop)(h:Hp):Prop:=(zn (S:=Int×Unit) (λs1 k2 h1=>(zv (S:=Unit) (λs3 h2=>(k2 ((i64.wrap (s1.1+1)),()) h2)) (λk4=>(ifP (decide (s1.1<((s:ByteArray).size:Int))) (qy s s1.1 λc5=>(zc (z6u c5) (λr6 h3=>(ifP r6 (k4 () h3) (K s1.1 h3))) h1)) (K s1.1 h1))))) (0,()) h)
def z74(c:Int)(K:Bool->Hp->Prop)(h:Hp):Prop:=(ifP (decide (c>=97)) (ifP (decide (c<=122)) (K true h) (ifP (decide (c>=65)) (K (decide (c<=90)) h) (K false h))) (ifP (decide (c>=65)) (K (decide (c<=90)) h) (K false h)))
def zcs(c:Int)(K:Bool->Hp->Prop)(h:Hp):Prop:=(ifP (decide (c>=48)) (K (decide (c<=57)) h) (K false h))
def zaq(s:ByteArray)(at_:Int)(K:Int->Hp->Prop)(h:Hp):Prop:=(zv (S:=Unit) (λs1 h1=>(zn (S:=Int×Unit) (λs3 k4 h2=>(zv (S:=Unit) (λs5 h3=>(k4 ((i64.wrap (s3.1+1)),()) h3)) (λk6=>(ifP (decide (s3.1<((s:ByteArray).size:Int))) (qy s s3.1 λc7=>(zc (z74 c7) (λr8 h4=>(ifP r8 (k6 () h4) (qy s s3.1 λc9=>(zc (zcs c9) (λr10 h5=>(ifP r10 (k6 () h5) (qy s s3.1 λc11=>(ifP (c11==95) (k6 () h5) (K s3.1 h5))))) h4)))) h2)) (K s3.1 h2))))) (at_,()) h1)) (λk2=>(ifP (at_==((s:ByteArray).size:Int)) (K at_ h) (qy s at_ λc12=>(zc (z74 c12) (λr13 h6=>(ifP (!r13) (K at_ h6) (k2 () h6))) h)))))
def z1k(s:ByteArray)(K:Bool->Hp->Prop)(h:Hp):Prop:=(ifP (!((s:ByteArray).toList==(Y3:ByteArray).toList)) (ifP (decide (((s:ByteArray).size:Int)<=24)) (qy s 0 λc1=>(zc (z0y c1) (λr2 h1=>(ifP r2 (zc (Xw s) (λr3 h2=>(K (r3==((s:ByteArray).size:Int)) h2)) h1) (K false h1))) h)) (K false h)) (K false h))
def z1s(s:ByteArray)(K:Bool->Hp->Prop)(h:Hp):Prop:=(ifP (!((s:ByteArray).toList==(Y3:ByteArray).toList)) (ifP (decide (((s:ByteArray).size:Int)<=24)) (zc (zaq s 0) (λr1 h1=>(K (r1==((s:ByteArray).size:Int)) h1)) h) (K false h)) (K false h))
def Xb(b:(Option Addr))(K:Unit->Hp->Prop)(h:Hp):Prop:=∃n bl,b=some ⟨n,0,none⟩/\h n=some bl/\bl.elem=364/\bl.fz=(0,0)/\bl.cells.length=2 /\ ((bl.cells[0]?=some (.pointer none)/\K () (h.ins n { bl with cells:=bl.cells.set 0 (.pointer b) }))\/(bl.cells[0]?=some (.pointer b)/\K () h))
def z1y(b:(Option Addr))(c:Int)(K:Value->Hp->Prop)(h:Hp):Prop:=(Qu (Xb b) (λr1 h1=>(Ye b λp2=>(ldL (.sl) (p2.add 1) (λx3=>(zoe 5 1 1 [.int .u8 0] x3 1 [.int .u8 c] (λw4 h2=>(Ye b λp5=>(stP (p5.add 1) [.slice w4.a w4.len w4.cap] (λh3=>(K (.nilIface) h3)) h2))) h1)) h1))) h)
def Wa(b:(Option Addr))(K:ByteArray->Hp->Prop)(h:Hp):Prop:=∃n bl p,b=some ⟨n,0,none⟩/\h n=some bl/\bl.elem=364/\bl.fz=(0,0) /\ ((bl.cells=[p,.slice none 0 0]/\K Y3 h) \/ (∃(g c:Nat) (l:List UInt8) (bg:Blk),l≠[]/\bl.cells=[p,.slice (some ⟨g,0,none⟩) l.length c]/\l.length<=c/\h g=some bg/\bg.elem=5/\l.length<=bg.cells.length/\l.length<=140737488355328 /\ (∀(j:Nat) (x:UInt8),l[j]?=some x->bg.cells[j]?=some (.int .u8 x.toNat))/\K ⟨l.toArray⟩ (λk=>if k=g then none else h k)))
def Zx(b:(Option Addr))(s:ByteArray)(K:(Int×Value)->Hp->Prop)(h:Hp):Prop:=(Qu (Xb b) (λr1 h1=>(Ye b λp2=>(ldL (.sl) (p2.add 1) (λx3=>(zoe 5 1 1 [.int .u8 0] x3 ((s:ByteArray).size) (Vs s) (λw5 h2=>(Ye b λp6=>(stP (p6.add 1) [.slice w5.a w5.len w5.cap] (λh3=>(K (((s:ByteArray).size:Int),.nilIface) h3)) h2))) h1)) h1))) h)
end F
end Den
end
