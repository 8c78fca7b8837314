/- Part 2 of the tools of the proof. -/
import Derived.Test.YtmmloncoopohfaaGreatDoorPartm1
import Derived.RangeFuncRecord
import Derived.RangeFuncLeaves
import Derived.Laws.Strings
import Derived.Lib.Bytealg
import Derived.ProofKit
import Derived.ChangeSlices
import Derived.ChangeStays
import Derived.ChangeArms
import Derived.OpenShut
set_option linter.all false
open Go.IntKind
open Den (zO zD zS zV)
open Den.Hp renaming le_trans→Ja,cD→Uy,cl→Gc,fF→Li
open Go.Result renaming andThen_ok→Jb
open Nat renaming le_refl→Jd,mul_le_mul_right→Jm,le_trans→Jo,zero_le→Jt,lt_or_ge→Jx,add_mul→J9,le_of_ble_eq_true→Un,eq_zero_or_pos→Gs,blt→Pc
open List renaming take_of_length_le→Je,getElem?_eq_getElem→Jp,length_append→Jq,mem_append_left→Jv,all_eq_true→J1,append_assoc→J8,mem_append_right→Ue,mem_append→Ul,take_append_of_le_length→U4,mem_cons→Gk,getElem?_map→Gr,mem_cons_of_mem→Gx,getElem?_eq_none→G3,cons_append→Th,getElem?_cons_zero→Tj,mem_range→Pd,mem_cons_self→Ln
open Go.Sem renaming run_bind→Jg,run_pure→Jj
open Option.some renaming injEq→Js,inj→Gg
open Bool renaming and_eq_true→Uh,or_eq_true→Ly,and_eq_true_iff→L4
open Array renaming getD_eq_getD_getElem?→Um,getElem?_eq_getElem→Gl,getElem?_eq_none→Tn,replicate→Lz
open Option renaming map_some→Gp
open Go.Region renaming binds→Ts,ready→L3
open Go.World renaming putObj_heap_other→Tw
open Go.IntKind renaming signed→T7
open Go Den
variable {C:bX}{H α:Type}{ro:Option Nat}
section
namespace Den
open Go
variable {nn:Nat}
section
variable {B:fI}
def zy4{ops:Array Oper}{o:Oper}{e:Env}{h:Hp}{a:Act}{w:World}(hR:Rel C B e h a w){b:Bool}(hw:mE C ops o e=some b) :
 Region.wanted o (yielded ops a.tmps)=b:=by
 unfold mE at hw;cases hg:o.guard with
 | none=>rw[hg]at hw;cases hw;exact zoc hg
 | some g=>
   obtain⟨j,want⟩:=g;rw[hg]at hw;simp only at hw;cases hd:(ops[j]?).bind (·.dst)with
   | none=>rw[hd]at hw;cases hw
   | some d=>
     rw[hd]at hw;simp only at hw;split at hw
     . rename_i t hl hv;cases hw;exact zob hg hd (hR.cL d _ hv)
     . rename_i vs hl hv;cases hw;exact zlv hg hd (hR.cL d _ hv)
     cases hw
def zk3(hC:dK C){ops:Array Oper}{i:Nat}{o:Oper}{e:Env}{h:Hp}{a:Act}{w:World}{K:Up->Hp->Prop}{Q:Exit->Act->World->Prop}
 (hi:ops[i]?=some o) (hR:Rel C B e h a w) (hk:qw C ops o e h K):wpOpIn (Yb ro) nn C.P ops Q i (Qd C B o e K) a w:=by
 unfold wpOpIn;rw[hi];simp only;unfold qw at hk;cases hw:mE C ops o e with
 | none=>rw[hw]at hk;exact hk.elim
 | some b=>
   rw[hw]at hk;rw[zy4 hR hw];cases b with
   | true=>simp only[if_true];exact zbp hC.fH hR hk
   | false=>simp only[Bool.false_eq_true,if_false];exact⟨λ_ _=>trivial,zc6 hR hk⟩
def zej{ops:Array Oper}{listed:Array Bool}{x:Nat}
 (AH:∀(i:Nat) (o:Oper),ops[i]?=some o->listed.getD i false=true->∀e∈o.after.toList,Ts .any e=true->listed.getD e.on false=true) :
 ∀{d i:Nat} {o:Oper},ops[i]?=some o->(∀e∈o.after.toList,Ts .any e=true->listed.getD e.on false=true)->pT ops d x i=true->listed.getD x false=true
 | 0,i,o,_,_,hx=>by simp[pT]at hx
 | d+1,i,o,hi,ho,hx=>by
   unfold pT at hx;rw[hi]at hx;simp only[Ly,List.any_eq_true,Uh]at hx;rcases hx with ⟨e,he,hb,hxe⟩ | ⟨e,he,hb,_,hr⟩
   rw[<-Nat.eq_of_beq_eq_true hxe];exact ho e he hb
   . cases NK:ops[e.on]? with
     | none=>
       cases d with
       | zero=>simp[pT]at hr
       | succ d=>unfold pT at hr;rw[NK]at hr;cases hr
     | some oe=>exact zej AH NK (λe2 E4 je=>AH e.on oe NK (ho e he hb) e2 E4 je) hr
def zqz{ops:Array Oper}:∀{p r:List Nat} {y:Nat},yH C ops (p++y :: r)=true->(∀x∈p,pT ops ops.size x y=true\/tD C ops x y=true)/\yH C ops (p++r)=true
 | [],r,y,hp=>by
   simp only[List.nil_append,yH,Uh]at hp;exact⟨(λx hx=>by cases hx),hp.2⟩
 | z :: p,r,y,hp=>by
   simp only[Th,yH,Uh,J1]at hp;obtain⟨h1,h2⟩:=hp;obtain⟨h3,h4⟩:=zqz h2;refine⟨λx hx=>?_,?_⟩
   . rcases Gk.1 hx with rfl | hx
     have:=h1 y zS;rw[Ly]at this;exact this;exact h3 x hx
   . simp only[Th,yH,Uh,J1];exact⟨λq hq=>h1 q (by rcases Ul.1 hq with h | h<;>simp[h]),h4⟩
def zpk(hC:dK C){ops:Array Oper}{K:Env->Hp->Prop}{ms:List Nat}{e0:Env}{Q:Exit->Act->World->Prop}
 (jR:∀(i:Nat) (o:Oper),ops[i]?=some o->∀d∈Yf C o,d∈ms) (hQ:∀x a w,NT C B ms e0 K x a w->Q x a w)
 (fm:∀(i:Nat) (o:Oper),ops[i]?=some o->∀e∈o.after.toList,Ts .any e=true->e.on<i) :
 ∀(fuel:Nat) (c:List Nat) (listed:Array Bool) (e:Env) (h:Hp) (a:Act) (w:World),c.length<=fuel->listed.size=ops.size->c.Nodup ->
  (∀i,i<ops.size->(listed.getD i false=false↔i∈c))->(∀i∈c,i<ops.size) ->
  (∀(i:Nat) (o:Oper),ops[i]?=some o->listed.getD i false=true->∀e∈o.after.toList,Ts .any e=true->listed.getD e.on false=true) ->
  yH C ops c=true->(∀t,t∉ms->Vb (e0 t) (e t))->Vp C ops K c e h->Rel C B e h a w->wpAnyIn (Yb ro) nn C.P .any ops Q fuel listed a w:=by
 have least:∀(c:List Nat) (listed:Array Bool),listed.size=ops.size->(∀i,i<ops.size->(listed.getD i false=false↔i∈c))->(∀i∈c,i<ops.size)->c≠[] ->
  L3 .any ops listed≠[]:=by
  intro c listed dO cM hlt cd;have:∀n,∀i∈c,i<=n->∃j∈c,∀k∈c,j<=k:=by
   intro n;induction n with
   | zero=>intro i hi hn;exact⟨i,hi,λk _=>by omega⟩
   | succ n ih=>
     intro i hi hn;by_cases hex:∃k∈c,k<=n;obtain⟨k,hk,uO⟩:=hex;exact ih k hk uO
     . exact⟨i,hi,λk hk=>by
        by_cases uO:k<=n;exact absurd ⟨k,hk,uO⟩ hex;omega⟩
  obtain⟨i0,r0,hc⟩:∃i r,c=i :: r:=by cases c with | nil=>exact absurd rfl cd | cons i r=>exact⟨i,r,rfl⟩
  obtain⟨j,hj,Fg⟩:=this i0 i0 (by rw[hc];simp) (Jd _);have rf:=hlt j hj;have jT:j∈L3 .any ops listed:=by
   unfold L3;rw[List.mem_filter];refine⟨Pd.2 rf,?_⟩;have hl:=(cM j rf).2 hj;have h1:listed.getD j true=false:=by
    rw[Um]at hl |-
    rw[Gl zO]at hl |-
    exact hl
   rw[h1];simp only[Bool.not_false,Bool.true_and];rw[Gl rf];simp only[Gp,Option.getD_some];rw[Array.all_eq_true'];intro e he;rw[Ly];cases hbe:Ts .any e with
   | false=>left;rfl
   | true=>
   right;have aao:=fm j _ (Gl rf) e (by simpa using he) hbe;cases hg:listed.getD e.on false with
   | true=>rfl
   | false=>have:=Fg _ ((cM e.on zO).1 hg);omega
  intro kS;rw[kS]at jT;cases jT
 intro fuel;induction fuel with
 | zero=>
   intro c listed e h a w hf dO hnd cM hlt AH hp ij hk hR;have hcn:c=[]:=List.eq_nil_of_length_eq_zero zO;subst hcn;refine⟨?_,hQ _ _ _ ⟨rfl,e,h,hk,hR,ij⟩⟩;unfold L3;rw[List.filter_eq_nil_iff];intro i hi;have vF:=Pd.1 hi;have hl:listed.getD i false=true:=by
    cases hg:listed.getD i false with
    | true=>rfl
    | false=>exact absurd ((cM i vF).1 hg) zS
   have h1:listed.getD i true=true:=by
    rw[Um]at hl |-
    rw[Gl zO]at hl |-
    exact hl
   rw[h1];simp
 | succ fuel ih=>
   intro c listed e h a w hf dO hnd cM hlt AH hp ij hk hR;refine⟨λkS=>?_,λi hi=>?_⟩
   . by_cases hcn:c=[];subst hcn;exact hQ _ _ _ ⟨rfl,e,h,hk,hR,ij⟩;exact absurd kS (least c listed dO cM hlt hcn)
   . unfold L3 at hi;rw[List.mem_filter]at hi;obtain⟨nB,da⟩:=hi;have vF:=Pd.1 nB;rw[Uh]at da;obtain⟨Fh,yP⟩:=da;have hl:listed.getD i false=false:=by
      rw[Um]at Fh |-
      rw[Gl zO]at Fh |-
      simpa using Fh
     have hic:=(cM i vF).1 hl;obtain⟨p,r,rfl⟩:=List.append_of_mem hic;obtain⟨o,ho⟩:∃o,ops[i]?=some o:=⟨_,Gl vF⟩;rw[ho]at yP;simp only[Gp,Option.getD_some]at yP;have jU:∀e∈o.after.toList,Ts .any e=true->listed.getD e.on false=true:=λe he hb=>by
      have:=(Array.all_eq_true'.1 yP) e (by simpa using he);rw[hb]at this;simpa using this
     obtain⟨hpo,lY⟩:=zqz hp;have vG:∀x∈p,tD C ops x i=true:=λx hx=>by
      rcases hpo x hx with h1 | h1
      . have h2:=zej AH ho jU h1;have AK:=hlt x (by simp[hx]);have h3:=(cM x AK).2 (by simp[hx]);rw[h2]at h3;cases h3
      exact h1
     have hb:=zg6 hC hR.sub.fin vG hk;rw[Q8 ho]at hb;refine wpOpIn_mono ?_ (zk3 hC ho hR hb);rintro a' w' ⟨u,h',bP,fc,de⟩;have kT:(p++r).Nodup/\i∉p++r:=by
      rw[List.nodup_append]at hnd;obtain⟨n1,n2,n3⟩:=hnd;rw[List.nodup_cons]at n2;refine⟨List.nodup_append.2 ⟨n1,n2.2,λa ha b hb=>n3 a ha b (by simp[hb])⟩,λhm=>?_⟩;rcases Ul.1 hm with hm | hm
      exact n3 i hm i zS rfl;exact n2.1 hm
     have fL:∀j,j<ops.size->(listed.setIfInBounds i true).getD j false=if j=i then true else listed.getD j false:=λj hj=>by
      simp only[Um,Array.getElem?_setIfInBounds];by_cases fy:j=i;subst fy;simp[show j<listed.size by omega];simp[Ne.symm fy,fy]
     refine ih (p++r) (listed.setIfInBounds i true) (e.cJ C.rt u) h' a' w' ?_ (by simpa using dO) kT.1 ?_ ?_ ?_ lY ?_ bP fc;simp at hf |-;omega
     . intro j hj;rw[fL j hj];by_cases fy:j=i;subst fy;simp only[if_true];exact⟨(λhh=>by cases hh),λhh=>absurd hh kT.2⟩
       . rw[if_neg fy,cM j hj];simp only[Ul,Gk];constructor
         . rintro(h1 | h1 | h1);exact .inl h1;exact absurd h1 fy;exact .inr h1
         . rintro(h1 | h1);exact .inl h1;exact .inr (.inr h1)
     . intro j hj;exact hlt j (by rcases Ul.1 hj with h1 | h1<;>simp[h1])
     . intro j oj tK Fi ed vH fA;have rf:j<ops.size:=by
        rcases Jx j ops.size with h1 | h1
        exact h1;rw[Tn h1]at tK;cases tK
       have NS:ed.on<ops.size:=by have:=fm j oj tK ed vH fA;omega
       rw[fL _ NS];by_cases N5:ed.on=i;simp[N5]
       . rw[if_neg N5];rw[fL j rf]at Fi;by_cases fy:j=i
         . subst fy;rw[ho]at tK;cases tK;exact jU ed vH fA
         . rw[if_neg fy]at Fi;exact AH j oj tK Fi ed vH fA
     . intro t ht;exact(ij t ht).trans (zkp λd hd hh=>ht (by rw[hh];exact jR i o ho d (de d hd)))
end
abbrev Zy0(dst:Option Nat)(u:Up):Prop:=(u=.none/\dst=none)\/∃d v,dst=some d/\u=.set d (.val v)
def zr2{C:bX}{dst:Option Nat}{v:Value}:zu (Zy0 dst) λh K=>qm C dst v h K:=by
 unfold qm;cases dst with
 | none=>exact tG (.inl ⟨rfl,rfl⟩)
 | some d=>
   simp only;split;exact tG (.inr ⟨d,v,rfl,rfl⟩);exact zo
def zqo{C:bX}{o:Oper}{e:Env}(hc:eD C o=.load):Qe (Zy0 o.dst) λh K=>Zh C o e h K:=by
 unfold eD at hc;unfold Zh;cases ho:o.op<;>simp only[ho]at hc |-<;>try (cases hc;done)
 case load t x=>
  split
  . split;exact(CV λv=>zr2).load
    . split;exact(CV λv=>zr2).load;exact zo.load
    . split;exact zo.load;exact zv0 (Φ:=Qe _) zo.load λad=>Zjg λv=>(zu4 λv=>zr2).load
    exact zo.load
  exact zo.load
 all_goals
  exfalso;revert hc
  repeat' split
  all_goals (intro hc;first | (cases hc;done) | (cases hc;contradiction))
def Zsu{C:bX}{o:Oper}(hm:nT o=true):eD C o=.other:=by
 unfold nT at hm;split at hm
 . rename_i ho;unfold eD;rw[ho]
 cases hm
section
variable {B:fI}
def tL(C:bX)(ops:Array Oper)(a:Nat)(e:Env)(h:Hp):Prop:=
 match ops[a]? with
 | some o=>Zh C o e h λu _=>(match u with
   | .set d (.val v)=>(match e d with
     | .val v'=>v=v'
     | _=>False)
   | _=>False)
 | none=>False
def zuc{ops:Array Oper}{e:Env}{h:Hp}{P:Prop}:∀{as:List Nat},EZ C ops as e h P↔(∀a∈as,tL C ops a e h)/\P
 | []=>by simp[EZ]
 | a :: r=>by
   unfold EZ;rw[zuc (as:=r)];simp only[Gk,forall_eq_or_imp];exact(and_assoc (a:=tL C ops a e h)).symm
def Z1a{u:Up}{e:Env}(hh:match u with
 | .set d (.val v)=>(match e d with
   | .val v'=>v=v'
   | _=>False)
 | _=>False):∃d v,u=.set d (.val v)/\e d=.val v:=by
 split at hh
 . rename_i d v;split at hh
   . rename_i v' hv;exact⟨d,v,rfl,by rw[hv,hh]⟩
   exact hh.elim
 exact hh.elim
def znc(hC:dK C){ops:Array Oper}{K:Env->Hp->Prop}{q:List Nat}:∀{p:List Nat} {e:Env} {h:Hp},Vp C ops (Vp C ops K q) p e h->Vp C ops K (p++q) e h
 | [],_,_,hk=>hk
 | i :: p,e,h,hk=>by
   cases hi:ops[i]? with
   | none=>unfold Vp at hk;rw[hi]at hk;exact hk.elim
   | some o=>
     rw[Q8 hi]at hk;rw[Th,Q8 hi];exact Yx hC _ _ _ (λu h' _ hh=>znc hC hh) hk
def Zc6{ops:Array Oper}{o:Oper}{e:Env}(hc:eD C o=.pure\/eD C o=.load):Qe (Wg C o) (qw C ops o e):=by
 unfold qw;cases mE C ops o e with
 | none=>exact zo.load
 | some b=>
   cases b with
   | false=>exact(N2 (o:=o)).load
   | true=>
     rcases hc with hc | hc
     exact(JK hc).load;exact JN hc
def Zo9{ops:Array Oper}{x:Nat}(hs:I' C ops x=true):∃ox,ops[x]?=some ox/\(eD C ox=.pure\/eD C ox=.load):=by
 unfold I' at hs;split at hs
 . rename_i ox hx;refine⟨ox,hx,?_⟩;cases hc:eD C ox with
   | pure=>exact .inl rfl
   | load=>exact .inr rfl
   | _=>rw[hc]at hs;exact absurd hs zS
 cases hs
def Zdf{ops:Array Oper}{a x:Nat}(hs:CN C ops a x=true):∃ox oa,ops[x]?=some ox/\ops[a]?=some oa/\kG (Yf C ox) (tC C ops oa)=true/\kG (Yf C ox) (Yf C oa)=true/\nT oa=false:=by
 unfold CN at hs;split at hs
 . rename_i ox oa hx ha;simp only[Uh,Bool.not_eq_true']at hs;exact⟨ox,oa,hx,ha,hs.1.1,hs.1.2,hs.2⟩
 cases hs
def zyq{ops:Array Oper}{as:List Nat}{b:Nat}:∀{p:List Nat},Z8i C ops as b p=true->p.Pairwise λa x=>a∈as->pT ops ops.size x b=true\/CN C ops a x=true
 | [],_=>List.Pairwise.nil
 | a :: r,h=>by
   unfold Z8i at h;rw[Uh,Ly]at h;refine List.pairwise_cons.2 ⟨λx hx ha=>?_,zyq h.2⟩;rcases h.1 with h1 | h1
   rw[Qu.2 ha]at h1;cases h1
   . have:=(J1.1 h1) x hx
     rwa [Ly]at this
def Zdh{ops:Array Oper}{a:Nat}{oa ox:Oper}{e:Env}{u:Up}{h:Hp}(ha:ops[a]?=some oa)(hu:Wg C ox u)(h1:kG (Yf C ox) (tC C ops oa)=true)
 (h2:kG (Yf C ox) (Yf C oa)=true) (hm:nT oa=false) (hc:eD C oa=.load) (hk:tL C ops a (e.cJ C.rt u) h):tL C ops a e h:=by
 unfold tL at hk |-
 rw[ha]at hk |-
 simp only at hk |-
 rw[JO]at h1 h2;have hr:∀t∈uJ C ops oa,(e.cJ C.rt u) t=e t:=λt ht=>N1 (λd jF hh=>h1 d (hu.1 d jF) (by rw[<-hh];exact Jv _ ht))
  (λd jF hh=>h1 d (hu.1 d jF) (by rw[<-hh];exact Ue _ (List.mem_map.2 ⟨t,ht,rfl⟩)))
 have gu:Zh C oa (e.cJ C.rt u)=Zh C oa e:=zg2 hm λx hx t ht=>by
  subst ht;have ei:∀s∈tB C (.tmp t),s∈uJ C ops oa:=λs hs=>by
   unfold uJ;exact Jv _ (Jv _ (List.mem_flatMap.2 ⟨_,hx,hs⟩))
  exact⟨hr _ (ei _ (by simp[tB])),hr _ (ei _ (by simp[tB]))⟩
 rw[gu]at hk;obtain⟨p,p1,p2,p3⟩:=zqo (e:=e) hc;obtain⟨v,hv,hq⟩:=(p3 h _).1 hk;refine(p3 h _).2 ⟨v,hv,?_⟩;obtain⟨d,y,rfl,hy⟩:=Z1a hq;have hd:oa.dst=some d:=by
  rcases p1 _ _ hv with ⟨h3,_⟩ | ⟨d',y',h3,h4⟩
  cases h3;simp only[Up.set.injEq]at h4;rw[h4.1];exact h3
 have:(e.cJ C.rt u) d=e d:=N1 (λd' jF hh=>h2 d' (hu.1 d' jF) (by rw[<-hh];simp[Yf,hd]))
  (λd' jF hh=>h1 d' (hu.1 d' jF) (by
    rw[<-hh];refine Jv _ ?_;unfold uJ;simp[hd]))
 rw[this]at hy;simp only[hy]
def Z8f(hC:dK C){ops:Array Oper}{as:List Nat}{b:Nat}{ob:Oper}(hb:ops[b]?=some ob){K:Env->Hp->Prop}(oh:∀a∈as,∀oa,ops[a]?=some oa->eD C oa=.load) :
 ∀{p D:List Nat} {e:Env} {h:Hp},h.Fin->(∀x∈p,EY C ops as b x=true/\I' C ops x=true)->p.Pairwise (λa x=>a∈as->CN C ops a x=true)->(∀a∈as,a∈D->∀x∈p,CN C ops a x=true) ->
 Vp C ops (λe1 h1=>qw C ops ob e1 h1 λu2 h2=>(∀a∈as,a∈D\/a∈p->tL C ops a (e1.cJ C.rt u2) h2)/\K (e1.cJ C.rt u2) h2) p e h ->
 qw C ops ob e h λu2 h2=>(∀a∈as,a∈D->tL C ops a (e.cJ C.rt u2) h2)/\Vp C ops K p (e.cJ C.rt u2) h2
 | [],D,e,h,_,_,_,_,hk=>by
   refine Yx hC _ _ _ (λu h' _ hh=>⟨λa ha hd=>hh.1 a ha (.inl hd),hh.2⟩) hk
 | x :: p,D,e,h,dY,hp,hnd,hD,hk=>by
   obtain⟨kH,N6⟩:=hp x zS;obtain⟨ox,hx,uR⟩:=Zo9 N6;rw[Q8 hx]at hk;rw[List.pairwise_cons]at hnd;have mF:Qe (Wg C ox) (qw C ops ox e):=Zc6 uR;have yQ:nT ox=false:=by
    cases hm:nT ox with
    | false=>rfl
    | true=>have:=Zsu (C:=C) hm;rcases uR with h1 | h1<;>rw[h1]at this<;>cases this
   have aap:nT ob=false/\kG (Yf C ox) (tC C ops ob)=true/\kG (Yf C ob) (tC C ops ox)=true/\kG (Yf C ox) (Yf C ob)=true:=by
    unfold EY at kH;rw[hx,hb]at kH;simp only at kH;split at kH
    . simp only[Uh,Bool.not_eq_true']at kH;exact⟨kH.1.1.1.1.2,kH.1.1.1.2,kH.1.1.2,kH.1.2⟩
    . unfold tD at kH;rw[hx,hb]at kH;simp only[Uh,Bool.not_eq_true']at kH;exact⟨kH.1.1.1.2,kH.1.1.2,kH.1.2,kH.2⟩
   obtain⟨hmb,h1,h2,h3⟩:=aap;have cy:qw C ops ox e h λu1 h'=>Wg C ox u1/\qw C ops ob e h' λu2 h2=>Wg C ob u2/\(∀a∈as,a∈x :: D->tL C ops a ((e.cJ C.rt u1).cJ C.rt u2) h2)/\Vp C ops K p ((e.cJ C.rt u1).cJ C.rt u2) h2:=by
    refine Yx hC _ _ _ (λu1 h' kR hh=>⟨kR,?_⟩) (mF.fin _ _ dY hk);rw[<-JQ (C:=C) (ops:=ops) (ox:=ox) (oy:=ob) (e:=e) hmb kR h1];refine Yx hC _ _ _ (λu2 h2 dr aG=>⟨dr,aG⟩) (Z8f hC hb oh (D:=x :: D) hh.2 (λz hz=>hp z (by simp[hz])) hnd.2 (λa ha hd z hz=>?_) ?_)
    . rcases Gk.1 hd with rfl | hd
      exact hnd.1 z hz ha;exact hD a ha hd z (by simp[hz])
    . refine zm0 hC (λe1 h1 hq=>Yx hC _ _ _ (λu2 h2 _ aG=>⟨λa ha uS=>aG.1 a ha ?_,aG.2⟩) hq) hh.1;rcases uS with uS | uS
      . rcases Gk.1 uS with rfl | uS
        exact .inr zS;exact .inl uS
      exact .inr (by simp[uS])
   have carry:∀u1 u2 h2,Wg C ox u1->Wg C ob u2->(∀a∈as,a∈x :: D->tL C ops a ((e.cJ C.rt u1).cJ C.rt u2) h2)->∀a∈as,a∈D->tL C ops a (e.cJ C.rt u2) h2:=by
    intro u1 u2 mC kR dr AL a ha hd;obtain⟨ox',oa,oi,hoa,g1,g2,g3⟩:=Zdf (hD a ha hd x zS);rw[hx]at oi;cases oi;have:=AL a ha (by simp[hd]);rw[N4 (ops:=ops) kR dr h1 h2 h3]at this;exact Zdh hoa kR g1 g2 g3 (oh a ha oa hoa) this
   by_cases kI:x∈as
   . 
    have AM:=kH;unfold EY at AM;rw[hx,hb]at AM;simp only[Qu.2 kI,Uh]at AM;obtain⟨⟨⟨⟨⟨⟨jf,Fj⟩,_⟩,_⟩,_⟩,_⟩,vI⟩:=AM;have jf:eD C ox=.load:=oh x kI ox hx;have Fj:ox.guard=none:=by simpa using Fj
    have ic:∀e',qw C ops ox e'=λh K=>Zh C ox e' h K:=λe'=>by
     funext h K;unfold qw mE;rw[Fj]
    obtain⟨p0,p1,p2,p3⟩:=zqo (e:=e) jf;rw[ic]at cy;obtain⟨u1,hpu,kR,aG⟩:=(p3 h _).1 cy;refine Yx hC _ _ _ (λu2 mC dr cw=>⟨carry u1 u2 mC kR dr cw.2.1,?_⟩) aG;rw[Q8 hx,JQ yQ dr h2,ic];have AL:=cw.2.1 x kI zS;unfold tL at AL;rw[hx]at AL;simp only at AL;have CY:=JO.1 vI;have gu:Zh C ox ((e.cJ C.rt u1).cJ C.rt u2)=Zh C ox e:=by
     rw[N4 (ops:=ops) kR dr h1 h2 h3];have e1:Zh C ox ((e.cJ C.rt u2).cJ C.rt u1)=Zh C ox (e.cJ C.rt u2):=zg2 yQ λy hy t ht=>by
      subst ht;have ei:∀s∈tB C (.tmp t),((e.cJ C.rt u2).cJ C.rt u1) s=(e.cJ C.rt u2) s:=λs hs=>by
       have hm:s∈ox.op.operands.toList.flatMap (tB C):=List.mem_flatMap.2 ⟨_,hy,hs⟩;exact N1 (λd jF hh=>CY d (kR.1 d jF) (by rw[<-hh];exact Jv _ hm))
        (λd jF hh=>CY d (kR.1 d jF) (by rw[<-hh];exact Ue _ (List.mem_map.2 ⟨s,hm,rfl⟩)))
      exact⟨ei _ (by simp[tB]),ei _ (by simp[tB])⟩
     have e2:Zh C ox (e.cJ C.rt u2)=Zh C ox e:=by
      have:=JQ (C:=C) (ops:=ops) (ox:=ob) (oy:=ox) (e:=e) yQ dr h2;rw[ic,ic]at this;exact this
     rw[e1,e2]
    rw[gu]at AL;obtain⟨u,N7,hq⟩:=(p3 mC _).1 AL;obtain⟨d,v,rfl,hv⟩:=Z1a hq;have hd:ox.dst=some d:=by
     rcases p1 _ _ N7 with ⟨h5,_⟩ | ⟨d',y',h5,h6⟩
     cases h5;simp only[Up.set.injEq]at h6;rw[h6.1];exact h5
    have ij:((e.cJ C.rt u1).cJ C.rt u2) d=(e.cJ C.rt u1) d:=N1
     (λd' jF hh=>JO.1 h3 d (by simp[Yf,hd]) (by rw[hh];exact dr.1 d' jF))
     (λd' jF hh=>JO.1 h2 d' (dr.1 d' jF) (by
       rw[<-hh];refine Jv _ ?_;unfold uJ;simp[hd]))
    have hu:u1=.set d (.val v):=by
     rcases p1 _ _ hpu with ⟨_,h5⟩ | ⟨d',y',h5,rfl⟩
     rw[hd]at h5;cases h5
     . have jF:d'=d:=by rw[hd]at h5;cases h5;rfl
       subst jF;rw[ij]at hv;have:(e.cJ C.rt (.set d' (.val y'))) d'=.val y':=Env.aK _ _ _;rw[this]at hv;cases hv;rfl
    subst hu;refine(p3 mC _).2 ⟨_,N7,?_⟩;rw[<-N4 (ops:=ops) kR dr h1 h2 h3];exact cw.2.2
   . have JR:tD C ops x b=true:=by
      unfold EY at kH;rw[hx,hb]at kH;simp only at kH;split at kH;rename_i hm;exact absurd (Qu.1 hm) kI;exact kH
     have jf:EW C ox ob=true:=by
      unfold tD at JR;rw[hx,hb]at JR;simp only[Uh]at JR;exact JR.1.1.1.1.1
     have aG:qw C ops ox e h λu1 h'=>qw C ops ob e h' λu2 h2=>Wg C ox u1/\Wg C ob u2/\(∀a∈as,a∈x :: D->tL C ops a ((e.cJ C.rt u1).cJ C.rt u2) h2)/\Vp C ops K p ((e.cJ C.rt u1).cJ C.rt u2) h2:=
      Yx hC _ _ _ (λu1 h' _ hh=>Yx hC _ _ _ (λu2 h2 _ hh2=>⟨hh.1,hh2⟩) hh.2) cy
     refine Yx hC _ _ _ (λu2 mC dr cw=>?_) (zue hC jf dY aG);obtain⟨p0,p1,p2,p3⟩:=mF;obtain⟨u1,hpu,kR,_,AL,hd⟩:=(p3 mC _).1 cw;refine⟨carry u1 u2 mC kR dr AL,?_⟩;rw[Q8 hx,JQ yQ dr h2];refine(p3 mC _).2 ⟨u1,hpu,?_⟩;rw[<-N4 (ops:=ops) kR dr h1 h2 h3];exact hd
def zzp{ops:Array Oper}(fm:∀(i:Nat) (o:Oper),ops[i]?=some o->∀e∈o.after.toList,Ts .any e=true->e.on<i)(c:List Nat)(listed:Array Bool)(dO:listed.size=ops.size)
 (cM:∀i,i<ops.size->(listed.getD i false=false↔i∈c)) (hlt:∀i∈c,i<ops.size) (cd:c≠[]):L3 .any ops listed≠[]:=by
 have:∀n,∀i∈c,i<=n->∃j∈c,∀k∈c,j<=k:=by
  intro n;induction n with
  | zero=>intro i hi hn;exact⟨i,hi,λk _=>by omega⟩
  | succ n ih=>
    intro i hi hn;by_cases hex:∃k∈c,k<=n;obtain⟨k,hk,uO⟩:=hex;exact ih k hk uO
    . exact⟨i,hi,λk hk=>by
       by_cases uO:k<=n;exact absurd ⟨k,hk,uO⟩ hex;omega⟩
 obtain⟨i0,r0,hc⟩:∃i r,c=i :: r:=by cases c with | nil=>exact absurd rfl cd | cons i r=>exact⟨i,r,rfl⟩
 obtain⟨j,hj,Fg⟩:=this i0 i0 (by rw[hc];simp) (Jd _);have rf:=hlt j hj;have jT:j∈L3 .any ops listed:=by
  unfold L3;rw[List.mem_filter];refine⟨Pd.2 rf,?_⟩;have hl:=(cM j rf).2 hj;have h1:listed.getD j true=false:=by
   rw[Um]at hl |-
   rw[Gl zO]at hl |-
   exact hl
  rw[h1];simp only[Bool.not_false,Bool.true_and];rw[Gl rf];simp only[Gp,Option.getD_some];rw[Array.all_eq_true'];intro e he;rw[Ly];cases hbe:Ts .any e with
  | false=>left;rfl
  | true=>
  right;have aao:=fm j _ (Gl rf) e (by simpa using he) hbe;cases hg:listed.getD e.on false with
  | true=>rfl
  | false=>have:=Fg _ ((cM e.on zO).1 hg);omega
 intro kS;rw[kS]at jT;cases jT
def zz2(hC:dK C){ops:Array Oper}{K:Env->Hp->Prop}{ms:List Nat}{e0:Env}{Q:Exit->Act->World->Prop}{b:Nat}{ob:Oper}{q as:List Nat}(Fk:ops[b]?=some ob)
 (oh:∀a∈as,∀oa,ops[a]?=some oa->eD C oa=.load)
 (jR:∀(i:Nat) (o:Oper),ops[i]?=some o->∀d∈Yf C o,d∈ms) (hQ:∀x a w,NT C B ms e0 K x a w->Q x a w)
 (fm:∀(i:Nat) (o:Oper),ops[i]?=some o->∀e∈o.after.toList,Ts .any e=true->e.on<i) :
 ∀(fuel:Nat) (p:List Nat) (listed:Array Bool) (e:Env) (h:Hp) (a:Act) (w:World),(p++b :: q).length<=fuel->listed.size=ops.size->(p++b :: q).Nodup ->
  (∀i,i<ops.size->(listed.getD i false=false↔i∈p++b :: q))->(∀i∈p++b :: q,i<ops.size) ->
  (∀(i:Nat) (o:Oper),ops[i]?=some o->listed.getD i false=true->∀e∈o.after.toList,Ts .any e=true->listed.getD e.on false=true) ->
  yH C ops (p++q)=true->(∀y∈q,pT ops ops.size b y=true)->(∀x∈p,pT ops ops.size x b=true\/EY C ops as b x=true/\I' C ops x=true)->p.Pairwise (λa x=>a∈as->pT ops ops.size x b=true\/CN C ops a x=true)->(∀t,t∉ms->Vb (e0 t) (e t)) ->
  Vp C ops (λe1 h1=>Vp C ops (λe2 h2=>EZ C ops as e2 h2 (Vp C ops K q e2 h2)) [b] e1 h1) p e h->Rel C B e h a w->wpAnyIn (Yb ro) nn C.P .any ops Q fuel listed a w:=by
 intro fuel;induction fuel with
 | zero=>
   intro p listed e h a w hf;simp at hf
 | succ fuel ih=>
   intro p listed e h a w hf dO hnd cM hlt AH hp hq AN hpw ij hk hR;refine⟨λkS=>absurd kS (zzp fm _ listed dO cM hlt zS),λi hi=>?_⟩;unfold L3 at hi;rw[List.mem_filter]at hi;obtain⟨nB,da⟩:=hi;have vF:=Pd.1 nB;rw[Uh]at da;obtain⟨Fh,yP⟩:=da;have hl:listed.getD i false=false:=by
    rw[Um]at Fh |-
    rw[Gl zO]at Fh |-
    simpa using Fh
   have hic:=(cM i vF).1 hl;obtain⟨o,ho⟩:∃o,ops[i]?=some o:=⟨_,Gl vF⟩;rw[ho]at yP;simp only[Gp,Option.getD_some]at yP;have jU:∀e∈o.after.toList,Ts .any e=true->listed.getD e.on false=true:=λe he hb=>by
    have:=(Array.all_eq_true'.1 yP) e (by simpa using he);rw[hb]at this;simpa using this
   have fL:∀j,j<ops.size->(listed.setIfInBounds i true).getD j false=if j=i then true else listed.getD j false:=λj hj=>by
    simp only[Um,Array.getElem?_setIfInBounds];by_cases fy:j=i;subst fy;simp[show j<listed.size by omega];simp[Ne.symm fy,fy]
   have N8:∀(j:Nat) (oj:Oper),ops[j]?=some oj->(listed.setIfInBounds i true).getD j false=true->∀e∈oj.after.toList,Ts .any e=true->(listed.setIfInBounds i true).getD e.on false=true:=by
    intro j oj tK Fi ed vH fA;have rf:j<ops.size:=by
     rcases Jx j ops.size with h1 | h1
     exact h1;rw[Tn h1]at tK;cases tK
    have NS:ed.on<ops.size:=by have:=fm j oj tK ed vH fA;omega
    rw[fL _ NS];by_cases N5:ed.on=i;simp[N5]
    . rw[if_neg N5];rw[fL j rf]at Fi;by_cases fy:j=i
      . subst fy;rw[ho]at tK;cases tK;exact jU ed vH fA
      . rw[if_neg fy]at Fi;exact AH j oj tK Fi ed vH fA
   have sn:∀x,x∈p++b :: q->pT ops ops.size x i=true->False:=λx hx hr=>by
    have h2:=zej AH ho jU hr;have h3:=(cM x (hlt x hx)).2 hx;rw[h2]at h3;cases h3
   rcases Ul.1 hic with hip | hip
   . 
    obtain⟨p1,p2,rfl⟩:=List.append_of_mem hip;rw[show(p1++i :: p2)++q=p1++i :: (p2++q)by simp]at hp;obtain⟨hpo,lY⟩:=zqz hp;have vG:∀x∈p1,tD C ops x i=true:=λx hx=>by
     rcases hpo x hx with h1 | h1
     exact(sn x (by simp[hx]) h1).elim;exact h1
    have hb:=zg6 hC hR.sub.fin vG hk;rw[Q8 ho]at hb;refine wpOpIn_mono ?_ (zk3 hC ho hR hb);rintro a' w' ⟨u,h',bP,fc,de⟩;have jV:((p1++i :: p2)++b :: q).Perm (i :: ((p1++p2)++b :: q)):=by
     simp only[J8,Th];exact List.perm_middle
    have kT:=(jV.nodup_iff).1 hnd;rw[List.nodup_cons]at kT;refine ih (p1++p2) (listed.setIfInBounds i true) (e.cJ C.rt u) h' a' w' ?_ (by simpa using dO) kT.2 ?_ ?_ N8 (by simpa using lY) hq ?_ ?_ ?_ bP fc;simp at hf |-;omega
    . intro j hj;rw[fL j hj];by_cases fy:j=i;subst fy;simp only[if_true];exact⟨(λhh=>by cases hh),λhh=>absurd hh kT.1⟩
      . rw[if_neg fy,cM j hj,jV.mem_iff,Gk];exact⟨λhh=>hh.resolve_left fy,.inr⟩
    exact λj hj=>hlt j (jV.mem_iff.2 (Gx _ hj))
    exact λx hx=>AN x (by rcases Ul.1 hx with h1 | h1<;>simp[h1])
    exact hpw.sublist (List.Sublist.append_left (List.sublist_cons_self _ _) _)
    . intro t ht;exact(ij t ht).trans (zkp λd hd hh=>ht (by rw[hh];exact jR i o ho d (de d hd)))
   . rcases Gk.1 hip with rfl | hiq
     . 
      rw[Fk]at ho;cases ho;have aaq:p.Pairwise λa x=>a∈as->CN C ops a x=true:=by
       refine hpw.imp_of_mem λ{a x} _ hx hh ha=>?_
       rcases hh ha with h1 | h1
       exact(sn x (by simp[hx]) h1).elim;exact h1
      have aar:∀x∈p,EY C ops as i x=true/\I' C ops x=true:=λx hx=>by
       rcases AN x hx with h1 | h1
       exact(sn x (by simp[hx]) h1).elim;exact h1
      have jV:(p++i :: q).Perm (i :: (p++q)):=List.perm_middle;have kT:=(jV.nodup_iff).1 hnd;rw[List.nodup_cons]at kT;have cy:Vp C ops (λe1 h1=>qw C ops ob e1 h1 λu2 h2=>(∀a∈as,a∈([]:List Nat)\/a∈p->tL C ops a (e1.cJ C.rt u2) h2)/\Vp C ops K q (e1.cJ C.rt u2) h2) p e h:=by
       refine zm0 hC (λe1 h1 hh=>?_) hk;rw[Q8 Fk]at hh;refine Yx hC _ _ _ (λu h' _ hh=>?_) hh;have hh:EZ C ops as (e1.cJ C.rt u) h' (Vp C ops K q (e1.cJ C.rt u) h'):=hh;rw[zuc]at hh;exact⟨λa ha _=>hh.1 a ha,hh.2⟩
      have hb:=Z8f hC Fk oh hR.sub.fin aar aaq (λ_ _ hh=>by cases hh) cy;have je:qw C ops ob e h λu h'=>Vp C ops K (p++q) (e.cJ C.rt u) h':=Yx hC _ _ _ (λu h' _ hh=>znc hC hh.2) hb
      refine wpOpIn_mono ?_ (zk3 hC Fk hR je);rintro a' w' ⟨u,h',bP,fc,de⟩;refine zpk hC jR hQ fm fuel (p++q) (listed.setIfInBounds i true) (e.cJ C.rt u) h' a' w' ?_ (by simpa using dO) kT.2 ?_ ?_ N8 hp ?_ bP fc;simp at hf |-;omega
      . intro j hj;rw[fL j hj];by_cases fy:j=i;subst fy;simp only[if_true];exact⟨(λhh=>by cases hh),λhh=>absurd hh kT.1⟩
        . rw[if_neg fy,cM j hj,jV.mem_iff,Gk];exact⟨λhh=>hh.resolve_left fy,.inr⟩
      exact λj hj=>hlt j (jV.mem_iff.2 (Gx _ hj))
      . intro t ht;exact(ij t ht).trans (zkp λd hd hh=>ht (by rw[hh];exact jR i ob Fk d (de d hd)))
     exact(sn b zS (hq i hiq)).elim
end
end Den
end

section
namespace Den
open Go
variable {F:Fence}{n:Nat}{P:Program}{ops:Array Oper}{Q:Exit->Act->World->Prop}
def Fl(ts:List Nat)(a0:Act)(Q:Exit->Act->World->Prop):Exit->Act->World->Prop:=λe a' w'=>
 Q e a' w'/\(e=.normal->∀t,t∉ts->a'.tmps[t]?=a0.tmps[t]?)
def N9{a:Act}{dst:Option Nat}{v:Value}{ts:List Nat}(hd:∀d,dst=some d->d∈ts):∀t,t∉ts->(a.put dst v).tmps[t]?=a.tmps[t]?:=λt ht=>by
 cases dst with
 | none=>rfl
 | some d=>exact yw (λhh=>ht (by rw[hh];exact hd d rfl))
def Zbu{o:Oper}{a a0:Act}{w:World}{K:Act->World->Prop}{ts:List Nat}(hd:∀d,o.dst=some d->d∈ts)
 (hh:o.wpIn F n P a w K Q):o.wpIn F n P a w (λa' w'=>K a' w'/\∀t,t∉ts->a'.tmps[t]?=a.tmps[t]?) (Fl ts a0 Q):=by
 unfold Oper.wpIn at *;refine⟨hh.1,?_⟩;have hh:=hh.2;have Oa:LetsOut Q->LetsOut (Fl ts a0 Q):=λ⟨x,y,jC⟩=>⟨x,y,jC,λhe=>by cases he⟩
 generalize (o.semAt F.round a.eval).run P w=r at *;cases r with
 | ok x w'=>
   cases x<;>simp only[Oper.uponIn]at hh |- <;>
    first
     | exact⟨hh,N9 hd⟩
     | exact⟨hh.1,CallsIn.mono hh.2 (λe yJ he=>by cases e<;>first | exact⟨he,N9 hd⟩ | exact⟨he,λhx=>by cases hx⟩ | exact Oa he)⟩
     | exact⟨hh.1,RowsIn.mono hh.2 (λ_ _ he=>⟨he,N9 hd⟩)⟩
     | exact⟨hh.1,RoundIn.mono hh.2 (λe yJ he=>by cases e<;>first | exact⟨he,N9 hd⟩ | exact⟨he,λhx=>by cases hx⟩ | exact Oa he)⟩
 | halt x w'=>cases x<;>simp only[Oper.uponIn]at hh |-<;>first | exact hh | exact⟨hh,λhx=>by cases hx⟩
def zod{i:Nat}{a a0:Act}{w:World}{K:Act->World->Prop}{ts:List Nat}(hd:∀(i:Nat) (o:Oper),ops[i]?=some o->∀d,o.dst=some d->d∈ts)
 (hh:wpOpIn F n P ops Q i K a w):wpOpIn F n P ops (Fl ts a0 Q) i (λa' w'=>K a' w'/\∀t,t∉ts->a'.tmps[t]?=a.tmps[t]?) a w:=by
 unfold wpOpIn at *;cases ho:ops[i]? with
 | none=>rw[ho]at hh;exact⟨hh,λ_ _=>rfl⟩
 | some o=>
   rw[ho]at hh;simp only at hh |-
   split;rename_i hw;rw[if_pos hw]at hh;exact Zbu (hd i o ho) hh;rename_i hw;rw[if_neg hw]at hh;exact⟨hh.1,hh.2,N9 (hd i o ho)⟩
def zlw{ts:List Nat}(hd:∀(i:Nat) (o:Oper),ops[i]?=some o->∀d,o.dst=some d->d∈ts) :
 ∀{l:List Nat} {a a0:Act} {w:World},(∀t,t∉ts->a.tmps[t]?=a0.tmps[t]?)->wpOpsIn F n P ops Q l a w->wpOpsIn F n P ops (Fl ts a0 Q) l a w
 | [],a,a0,w,ha,hh=>⟨hh,λ_=>ha⟩
 | i :: r,a,a0,w,ha,hh=>by
   rw[wpOpsIn_cons]at hh |-
   refine wpOpIn_mono ?_ (zod (a0:=a0) hd hh);rintro a' w' ⟨h1,h2⟩;exact zlw hd (λt ht=>(h2 t ht).trans (ha t ht)) h1
def zfs{ts:List Nat}{md:Region.Mode}(hd:∀(i:Nat) (o:Oper),ops[i]?=some o->∀d,o.dst=some d->d∈ts) :
 ∀{fuel:Nat} {listed:Array Bool} {a a0:Act} {w:World},(∀t,t∉ts->a.tmps[t]?=a0.tmps[t]?)->wpAnyIn F n P md ops Q fuel listed a w->wpAnyIn F n P md ops (Fl ts a0 Q) fuel listed a w
 | 0,listed,a,a0,w,ha,hh=>⟨hh.1,hh.2,λ_=>ha⟩
 | fuel+1,listed,a,a0,w,ha,hh=>by
   refine⟨λhr=>⟨hh.1 hr,λ_=>ha⟩,λi hi=>?_⟩;refine wpOpIn_mono ?_ (zod (a0:=a0) hd (hh.2 i hi));rintro a' w' ⟨h1,h2⟩;exact zfs hd (λt ht=>(h2 t ht).trans (ha t ht)) h1
end Den
end

noncomputable section
namespace Den
open Go
variable {nn:Nat}
def Zci{P:Program}{Q:Exit->Act->World->Prop}{c:Code}{σ:Type}(I:σ->Act->World->Prop)(μ:σ->Nat)
 (round:∀s a w,I s a w->c.wpIn (Yb ro) nn P (Exit.then (λa' w'=>∃s',I s' a' w'/\μ s'<μ s) Q) a w) {s:σ} {a:Act} {w:World} (h0:I s a w):(Code.loop c).wpIn (Yb ro) nn P Q a w:=by
 intro b k cs nC hb hr;have key:∀n s a w,μ s=n->I s a w ->
  ∃e a' w',Q e a' w'/\ArrivesIn (Machine.fenced P (Yb ro)) P (lone (b.atR a (.code c :: .inLoop c :: k)) cs w) b k cs e a' w':=by
  intro n;induction n using Nat.strongRecOn with
  | _ n ih=>
    intro s a w hn hI;obtain⟨e,a₁,w₁,hq,gK⟩:=round s a w hI b (.inLoop c :: k) cs nC hb hr;cases e with
    | normal=>
      obtain⟨s',hI₁,hlt⟩:=hq;obtain⟨e₂,a₂,w₂,hq₂,Ob⟩:=ih (μ s') (hn▸hlt) s' a₁ w₁ rfl hI₁;exact⟨e₂,a₂,w₂,hq₂,.of_steps (StepsIn.trans gK (.one (fenced_calm hb hr rfl) stepR_inLoop)) Ob⟩
    | exit id=>exact⟨_,a₁,w₁,hq,.pass (x:=.inLoop c) rfl (λ_ _=>.inl zS) gK⟩
    | goto l=>exact⟨_,a₁,w₁,hq,.pass (x:=.inLoop c) rfl (λ_ _=>.inl zS) gK⟩
    | ret=>exact⟨_,a₁,w₁,hq,.pass (x:=.inLoop c) rfl (λ_ _=>.inl zS) gK⟩
    | panic ch=>exact⟨_,a₁,w₁,hq,.pass (x:=.inLoop c) rfl (λ_ _=>.inl zS) gK⟩
    | outgrown=>exact⟨_,a₁,w₁,hq,.pass (x:=.inLoop c) rfl (λ_ _=>.inl zS) gK⟩
 obtain⟨e,a',w',hq,gK⟩:=key _ s a w rfl h0;exact⟨e,a',w',hq,.of_steps (.one (fenced_calm hb hr rfl) stepR_loop) gK⟩
section
variable {B:fI}
def exM:Ex->Exit->Prop
 | .normal,.normal=>True
 | .exit i,.exit j=>i=j
 | .ret,.ret=>True
 | _,_=>False
def Out(C:bX)(B:fI)(ms ts:List Nat)(a0:Act)(e:Env)(K:Ex->Env->Hp->Prop):Exit->Act->World->Prop:=λx a' w'=>
 ∃ex e' h',exM ex x/\K ex e' h'/\Rel C B e' h' a' w'/\(∀t,t∉ms->Vb (e t) (e' t))/\∀t,t∉ts->a'.tmps[t]?=a0.tmps[t]?
def zum(P:Program)(gf:Nat)(T:dp):Prop:=
 (∀args w,(callFunc gf args).run P w=.ok (.enter gf args) w) /\
 ∀(l:Nat) (ab:Addr) (x:Sl) (J:Nat->World->Prop) (w:World),x.len<=140737488355328->J x.len w ->
  (∀i W,J i W->W.cell? ab=some (.slice x.a x.len x.cap)) ->
  (∀i W,i<x.len->J (i+1) W->∃(ad:Addr) (v:T.T),x.a=some ad/\(∀j u,(T.cells v)[j]?=some u->W.cell? (ad.add (i*T.size+j))=some u) /\
    ∃f tmps Fm body,(Instr.yield l #[.int .i64 i,T.val v]).run P W=.ok (.round l f tmps Fm body) W/\RoundIn Fence.wide 0 P l f tmps Fm body W λe W'=>e=.returned (.bool true)/\J i W') ->
  CallsIn Fence.wide 0 P gf #[.func (.yield l) #[] #[],.pointer (some ab)] w λe w'=>(∃v,e=.returned v)/\J 0 w'
def uT(P:Program):List (Nat×dp)->Prop
 | []=>True
 | (g,T) :: r=>zum P g T/\uT P r
def uT.get{P:Program}:∀{l:List (Nat×dp)},uT P l->∀g T,Z98 g l=some T->zum P g T
 | [],_,_,_,h=>by cases h
 | (x,y) :: r,hb,g,T,h=>by
   unfold Z98 at h;by_cases hg:g=x;subst hg;rw[vy]at h;cases h;exact hb.1;rw[jB hg]at h;exact uT.get hb.2 g T h
def Z6f{P:Program}{n m:Nat}{l:Nat}{f:FuncId}{tmps:Array Value}{Fm body:Code}{w:World}{R:Ending->World->Prop}
 (h:RoundIn Fence.wide n P l f tmps Fm body w R):RoundIn Fence.wide m P l f tmps Fm body w R:=⟨h.1,λc cs _=>h.2 c cs (room_wide _)⟩
def LT.cX:∀{ls:List Lf} {vs:List Value} {K:LT ls->Prop},LT.dn ls vs K↔∃x,vs=LT.up ls x/\K x
 | [],[],K=>by
   unfold LT.dn;exact⟨λhk=>⟨(),rfl,hk⟩,λ⟨x,_,hk⟩=>hk⟩
 | [],v :: vs,K=>by
   simp only[LT.dn,false_iff];rintro⟨x,hx,_⟩;cases hx
 | l :: r,[],K=>by
   simp only[LT.dn,false_iff];rintro⟨x,hx,_⟩;cases hx
 | l :: r,v :: vs,K=>by
   unfold LT.dn;rw[Lf.cX];constructor
   . rintro⟨x,rfl,hk⟩;rw[LT.cX]at hk;obtain⟨y,rfl,hk⟩:=hk;exact⟨(x,y),rfl,hk⟩
   . rintro⟨⟨x,y⟩,hx,hk⟩;have oi:v :: vs=l.up x :: LT.up r y:=hx;cases oi;exact⟨x,rfl,LT.cX.2 ⟨y,rfl,hk⟩⟩
def dp.cX{s:dp}{sl:Slot}{K:s.T->Prop}:s.dn sl K↔∃x,sl=s.up x/\K x:=by
 cases s with
 | leaf l=>
   cases sl with
   | val v=>
     exact(Lf.cX (l:=l) (v:=v) (K:=K)).trans ⟨λ⟨x,h1,h2⟩=>⟨x,by rw[h1];rfl,h2⟩,λ⟨x,h1,h2⟩=>⟨x,by cases h1;rfl,h2⟩⟩
   | _=>exact⟨λhh=>hh.elim,λ⟨x,hx,_⟩=>by cases hx⟩
 | agg ls=>
   cases sl with
   | val v=>
     cases v with
     | agg cs=>
       refine(LT.cX (ls:=ls) (vs:=cs.toList) (K:=K)).trans ⟨?_,?_⟩
       . rintro⟨x,h1,h2⟩;refine⟨x,?_,h2⟩;show Slot.val (.agg cs)=Slot.val (.agg (LT.up ls x).toArray);rw[<-h1]
       . rintro⟨x,h1,h2⟩;have jQ:Slot.val (.agg cs)=Slot.val (.agg (LT.up ls x).toArray):=h1;simp only[Slot.val.injEq,Value.agg.injEq]at jQ;exact⟨x,by rw[jQ],h2⟩
     | _=>exact⟨λhh=>hh.elim,λ⟨x,hx,_⟩=>by cases hx⟩
   | _=>exact⟨λhh=>hh.elim,λ⟨x,hx,_⟩=>by cases hx⟩
 | mp=>
   cases sl with
   | mp m=>exact⟨λhh=>⟨m,rfl,hh⟩,λ⟨x,hx,hk⟩=>by cases hx;exact hk⟩
   | _=>exact⟨λhh=>hh.elim,λ⟨x,hx,_⟩=>by cases hx⟩
 | box ls=>
   cases sl with
   | box cs=>
     exact(LT.cX (ls:=ls) (vs:=cs) (K:=K)).trans ⟨λ⟨x,h1,h2⟩=>⟨x,by rw[h1];rfl,h2⟩,λ⟨x,h1,h2⟩=>⟨x,by cases h1;rfl,h2⟩⟩
   | _=>exact⟨λhh=>hh.elim,λ⟨x,hx,_⟩=>by cases hx⟩
def JS:∀{L:List (Nat×dp)} {e:Env} {K:nS L->Prop},CJ L e K->∃s,(∀t x,Ql L s t=some x->e t=x)/\K s
 | [],e,K,hk=>⟨(),(λt x hx=>by cases hx),hk⟩
 | (t,s) :: r,e,K,hk=>by
   unfold CJ at hk;obtain⟨x,hx,hk⟩:=dp.cX.1 hk;obtain⟨xs,h1,h2⟩:=JS hk;refine⟨(x,xs),λt' y hy=>?_,h2⟩;have oo:(bif Nat.beq t' t then some (s.up x)else Ql r xs t')=some y:=hy;by_cases ht:t'=t;subst ht;rw[vy]at oo;simp only[cond_true,Js]at oo;rw[<-oo];exact hx;rw[jB ht]at oo;simp only[cond_false]at oo;exact h1 t' y oo
def Oc{e e':Env}{ms:List Nat}{L:List (Nat×dp)}{s:nS L}(hs:∀t x,Ql L s t=some x->e' t=x)(hk:∀t,t∉ms->Vb (e t) (e' t))(t:Nat) :
 qg e ms L s t=.fG\/(qg e ms L s t=e' t):=by
 unfold qg;cases hu:Ql L s t with
 | some x=>exact .inr (hs t x hu).symm
 | none=>
   simp only;cases hm:eZ t ms with
   | true=>exact .inl rfl
   | false=>
     simp only[cond_false];have lW:=hk t (λhh=>by rw[Qu.2 hh]at hm;cases hm);cases he:e t with
     | val v=>right;exact(lW.2 v he).symm
     | box cs=>right;have:=lW.1 (.inl ⟨cs,he⟩);rw[this,he]
     | mp m=>right;have:=lW.1 (.inr (.inl ⟨m,he⟩));rw[this,he]
     | mr=>right;have:=lW.1 (.inr (.inr he));rw[this,he]
     | _=>exact .inl rfl
def zzq{e e':Env}{ms:List Nat}{L:List (Nat×dp)}{s:nS L}(t off:Nat):qg e ms L s t≠.ref off:=by
 unfold qg;cases hu:Ql L s t with
 | some x=>
   simp only;intro hx;subst hx;revert hu s;induction L with
   | nil=>intro s hu;cases hu
   | cons p r ih=>
     intro s hu;obtain⟨t',sy⟩:=p;unfold Ql at hu;by_cases ht:t=t'
     . subst ht;rw[vy]at hu;simp only[cond_true,Js]at hu;cases sy<;>cases hu
     rw[jB ht]at hu;exact ih hu
 | none=>
   simp only;cases hm:eZ t ms with
   | true=>intro hh;cases hh
   | false=>
     simp only[cond_false];cases he:e t<;>intro hh<;>cases hh
def Rel.AO{e e':Env}{h:Hp}{a:Act}{w:World}(hR:Rel C B e' h a w){ms:List Nat}{L:List (Nat×dp)}{s:nS L}
 (hs:∀t x,Ql L s t=some x->e' t=x) (hk:∀t,t∉ms->Vb (e t) (e' t)):Rel C B (qg e ms L s) h a w where
 sub:=hR.sub
 sz:=hR.sz
 defers:=hR.defers
 fr:=hR.fr
 jc:=hR.jc
 cL:=λt v ht=>by
  rcases Oc hs hk t with h1 | h1
  rw[h1]at ht;cases ht;rw[h1]at ht;exact hR.cL t v ht
 dy:=λt ht=>by
  rcases Oc hs hk t with h1 | h1
  rw[h1]at ht;cases ht;rw[h1]at ht |-;exact hR.dy t ht
 inj:=λt t' b i1 i2 i3 i4=>by
  rcases Oc hs hk t with h1 | h1
  rw[h1]at i1;cases i1
  . rcases Oc hs hk t' with h2 | h2
    rw[h2]at i2;cases i2;rw[h1]at i1 i3;rw[h2]at i2 i4;exact hR.inj t t' b i1 i2 i3 i4
 refs:=λt off ht=>absurd ht (zzq (e':=e') t off)
 iL:=λt ht=>by
  rcases Oc hs hk t with h1 | h1
  rw[h1]at ht;cases ht;rw[h1]at ht;exact hR.iL t ht
def zom{e e':Env}{ms:List Nat}{L:List (Nat×dp)}{s:nS L}(hs:∀t x,Ql L s t=some x->e' t=x)(hk:∀t,t∉ms->Vb (e t) (e' t)){t:Nat}
 (ht:t∉ms):Vb (e t) (qg e ms L s t):=by
 unfold qg;cases hu:Ql L s t with
 | some x=>simp only;rw[<-hs t x hu];exact hk t ht
 | none=>
   simp only;have hm:eZ t ms=false:=by
    cases hm:eZ t ms with
    | false=>rfl
    | true=>exact absurd (Qu.1 hm) ht
   rw[hm];simp only[cond_false];cases he:e t with
   | val v=>exact Vb.refl _
   | box cs=>exact Vb.refl _
   | lit cs n=>exact⟨(λhh=>by rcases hh with ⟨_,hh⟩ | ⟨_,hh⟩ | hh<;>cases hh),(λv hv=>by cases hv)⟩
   | mp m=>exact Vb.refl _
   | mr=>exact Vb.refl _
   | ref off=>exact⟨(λhh=>by rcases hh with ⟨_,hh⟩ | ⟨_,hh⟩ | hh<;>cases hh),(λv hv=>by cases hv)⟩
   | fG=>exact Vb.refl _
open Classical in
def so(e:Env)(h:Hp)(a:Act):Hp:=λk=>
 if h k≠none\/∃t,lU (e t)=true/\a.tmps[t]?=some (jA k (e t))then some ⟨[],0,(0,0)⟩else none
def Zc1{e:Env}{h:Hp}{a:Act}{k:Nat}(hk:so e h a k=none):h k=none/\∀t,lU (e t)=true->a.tmps[t]?=some (jA k (e t))->False:=by
 unfold so at hk;split at hk;cases hk
 . rename_i hh;refine⟨Classical.byContradiction λhx=>hh (.inl hx),λt h1 h2=>hh (.inr ⟨t,h1,h2⟩)⟩
def Zc2{e:Env}{h:Hp}{a:Act}{k:Nat}(hk:h k≠none\/∃t,lU (e t)=true/\a.tmps[t]?=some (jA k (e t))):so e h a k≠none:=by
 unfold so;rw[if_pos hk];simp
def Rel.mG{e:Env}{h:Hp}{a:Act}{w:World}(hR:Rel C B e h a w):Rel C ⟨so e h a,w,0⟩ e h a w where
 sub:=hR.sub
 sz:=hR.sz
 defers:=hR.defers.mono (Jt _) λ_ hr=>hr
 fr:=Fr.refl _ _
 jc:=λk h1 h2=>absurd (Zc1 h2).1 h1
 cL:=hR.cL
 dy:=λt ht=>by
  obtain⟨h1,b,el,h2,h3,h4,_⟩:=hR.dy t ht;exact⟨h1,b,el,h2,h3,h4,.inr (Zc2 (.inr ⟨t,ht,h2⟩))⟩
 inj:=hR.inj
 refs:=hR.refs
 iL:=hR.iL
section
variable {e0 e1:Env}{h0 h1:Hp}{a0 a1:Act}{w0 w1:World}
def zwu(hR:Rel C B e0 h0 a0 w0){k:Nat}(hk:B.D k=none)(hlt:k<B.w.heap.size):so e0 h0 a0 k=none:=by
 cases hh:so e0 h0 a0 k with
 | none=>rfl
 | some b=>
   exfalso;unfold so at hh;split at hh
   . rename_i hx;rcases hx with hx | ⟨t,h1,h2⟩
     have:=hR.jc k hx hk;omega
     . obtain⟨_,b',_,h3,_,_,h5⟩:=hR.dy t h1;rw[h2]at h3;have:=NA (Gg h3);subst this;rcases h5 with h5 | h5
       omega;exact h5 hk
   cases hh
def Rel.ot(hR:Rel C B e0 h0 a0 w0)(fK:Rel C ⟨so e0 h0 a0,w0,0⟩ e1 h1 a1 w1){ds:List Deferred}(hd:nU B.nb w1 ds):Rel C B e1 h1 { a1 with defers:=ds } w1 where
 sub:=fK.sub
 sz:=fK.sz
 defers:=hd
 fr:=by
  obtain⟨x1,x2,x3,x4,x5,x6⟩:=hR.fr;obtain⟨y1,y2,y3,y4,y5,y6⟩:=fK.fr;refine⟨Jo x1 y1,λk hk hD=>?_,y3.trans x3,y4.trans x4,y5.trans x5,Jo x6 y6⟩;have h3:k<w0.heap.size:=Nat.lt_of_lt_of_le hk x1;rw[y2 k h3 (zwu hR hD hk),x2 k hk hD]
 jc:=λk hk hD=>by
  rcases Jx k B.w.heap.size with hlt | nD
  . have h2:=fK.jc k hk (zwu hR hD hlt);have mC:w0.heap.size<=k:=h2;have:=hR.fr.1;omega
  exact nD
 cL:=fK.cL
 dy:=λt ht=>by
  obtain⟨g1,b,el,g2,g3,g4,g5⟩:=fK.dy t ht;refine⟨g1,b,el,g2,g3,g4,?_⟩;rcases g5 with g5 | g5
  exact .inl (Jo hR.fr.1 g5)
  . rcases Jx b B.w.heap.size with hlt | nD
    exact .inr λhD=>g5 (zwu hR hD hlt)
    exact .inl nD
 inj:=fK.inj
 refs:=fK.refs
 iL:=fK.iL
def JT(hR:Rel C B e0 h0 a0 w0)(fK:Rel C ⟨so e0 h0 a0,w0,0⟩ e1 h1 a1 w1){k:Nat}{o:Obj}(hk:w0.heap[k]?=some o)(ho:¬Nw o):w1.heap[k]?=some o:=by
 have hlt:k<w0.heap.size:=Xr hk;have hn:so e0 h0 a0 k=none:=by
  cases hh:so e0 h0 a0 k with
  | none=>rfl
  | some b=>
    exfalso;unfold so at hh;split at hh
    . rename_i hx;rcases hx with hx | ⟨t,h1,h2⟩
      . cases hb:h0 k with
        | none=>exact hx hb
        | some b=>rw[hR.sub k b hb]at hk;cases hk;exact ho trivial
      . obtain⟨_,b',_,h3,h4,_,_⟩:=hR.dy t h1;rw[h2]at h3;have:=NA (Gg h3);subst this;obtain⟨o',q1,q2⟩:=h4.obj;rw[q2]at hk;cases hk;exact ho q1
    cases hh
 rw[fK.fr.2.1 k hlt hn];exact hk
def Rel.putObj(hR:Rel C B e0 h0 a0 w0){l:Nat}{r r':Loop}(hl:B.w.heap.size<=l)(hw:w0.heap[l]?=some (.loop r)):Rel C B e0 h0 a0 (w0.putObj l (Obj.loop r')):=by
 have cd:∀(k:Nat) (o:Obj),w0.heap[k]?=some o->(∀q,o≠Obj.loop q)->(w0.putObj l (Obj.loop r')).heap[k]?=some o:=λk o hk ho=>by
  rw[Tw (λhh=>by subst hh;rw[hw]at hk;exact ho r (Gg hk).symm)];exact hk
 refine⟨λk b hb=>cd k _ (hR.sub k b hb) (λq hq=>by cases hq),hR.sz,hR.defers.mono (Jd _) (λk hk=>cd k _ hk (λq hq=>by cases hq)),?_,hR.jc,hR.cL,λt ht=>?_,hR.inj,hR.refs,hR.iL⟩
 . obtain⟨x1,x2,x3,x4,x5,x6⟩:=hR.fr;refine⟨by rw[World.putObj_size];exact x1,λk hk hD=>?_,x3,x4,x5,x6⟩;rw[Tw zO];exact x2 k hk hD
 . obtain⟨g1,b,el,g2,g3,g4,g5⟩:=hR.dy t ht;exact⟨g1,b,el,g2,g3.mono λo hp E7=>cd b o E7 (λq hq=>by subst hq;exact hp),g4,g5⟩
def Rel.ou(hR:Rel C B e0 h0 a0 w0)(o:Obj):Rel C B e0 h0 a0 (w0.alloc o):=
 hR.step (hR.sub.alloc o) (Fr.alloc h0 w0 o) λ_ h1 h2=>absurd h2 h1
def Rel.gL(hR:Rel C B e0 h0 a0 w0){ds:List Deferred}(hd:nU B.nb w0 ds):Rel C B e0 h0 { a0 with defers:=ds } w0:=
 ⟨hR.sub,hR.sz,hd,hR.fr,hR.jc,hR.cL,hR.dy,hR.inj,hR.refs,hR.iL⟩
end
def Rel.vJ{e e2:Env}{h1 h2:Hp}{a a2:Act}{w1 w2:World}{ms:List Nat}{L:List (Nat×dp)}{s s':nS L}(hJ:Rel C B (qg e ms L s) h1 a w1)(hE:Rel C B e2 h2 a2 w2)
 (hL:∀q∈L,zw7 q.2=true) (hs:∀t x,Ql L s' t=some x->e2 t=x) (hk:∀t,t∉ms->Vb (qg e ms L s t) (e2 t))
 (ht:∀t,lU (qg e ms L s t)=true->a2.tmps[t]?=a.tmps[t]?) (hm:nU B.nb w2 a.defers):Rel C B (qg e ms L s') h2 a w2:=by
 have jq:∀(L:List (Nat×dp)) (z:nS L),(∀q∈L,zw7 q.2=true)->∀t y,Ql L z t=some y->∃cs,y=.box cs:=by
  intro L;induction L with
  | nil=>intro z _ t y hu;cases hu
  | cons p r ih=>
    intro z hb t y hu;obtain⟨t',sy⟩:=p;unfold Ql at hu;by_cases su:t=t'
    . subst su;rw[vy]at hu;simp only[cond_true,Js]at hu;have:=hb _ (Ln);cases sy with
      | box ls=>exact⟨_,hu.symm⟩
      | _=>cases this
    rw[jB su]at hu;exact ih z.2 (λq hq=>hb q (Gx _ hq)) t y hu
 have lZ:∀(L:List (Nat×dp)) (z z':nS L) t,(∃y,Ql L z t=some y)->∃y,Ql L z' t=some y:=by
  intro L;induction L with
  | nil=>intro z z' t ⟨y,hy⟩;cases hy
  | cons p r ih=>
    intro z z' t ⟨y,hy⟩;obtain⟨t',sy⟩:=p;unfold Ql at hy |-
    by_cases su:t=t';subst su;rw[vy];exact⟨_,rfl⟩;rw[jB su]at hy |-;exact ih z.2 z'.2 t ⟨y,hy⟩
 have back:∀t,lU (qg e ms L s' t)=true->(∃cs jD,qg e ms L s t=.box cs/\qg e ms L s' t=.box jD/\e2 t=.box jD)\/∃m,qg e ms L s t=.mp m/\qg e ms L s' t=.mp m/\e2 t=.mp m:=by
  intro t hh;unfold qg at hh |-
  cases hu:Ql L s' t with
  | some y=>
    obtain⟨jD,rfl⟩:=jq L s' hL t y hu;obtain⟨y0,ov⟩:=lZ L s' s t ⟨_,hu⟩;obtain⟨cs,rfl⟩:=jq L s hL t y0 ov;rw[ov];exact .inl ⟨cs,jD,rfl,rfl,hs t _ hu⟩
  | none=>
    rw[hu]at hh;have tM:Ql L s t=none:=by
     cases hx:Ql L s t with
     | none=>rfl
     | some y=>obtain⟨y',oo⟩:=lZ L s s' t ⟨y,hx⟩;rw[hu]at oo;cases oo
    rw[tM];simp only at hh |-
    cases hm:eZ t ms with
    | true=>rw[hm]at hh;cases hh
    | false=>
      rw[hm]at hh;simp only[cond_false]at hh |-
      cases he:e t with
      | box cs=>
        simp only;refine .inl ⟨cs,cs,rfl,rfl,?_⟩;have h1:qg e ms L s t=.box cs:=by unfold qg;rw[tM];simp only[hm,cond_false,he]
        have:=hk t (λhx=>by rw[Qu.2 hx]at hm;cases hm);rw[h1]at this;exact this.1 (.inl ⟨cs,rfl⟩)
      | mp m=>
        simp only;refine .inr ⟨m,rfl,rfl,?_⟩;have h1:qg e ms L s t=.mp m:=by unfold qg;rw[tM];simp only[hm,cond_false,he]
        have:=hk t (λhx=>by rw[Qu.2 hx]at hm;cases hm);rw[h1]at this;exact this.1 (.inr (.inl ⟨m,rfl⟩))
      | _=>rw[he]at hh;cases hh
 refine⟨hE.sub,hJ.sz,hm,hE.fr,hE.jc,λt v hv=>?_,λt hh=>?_,λt t' b i1 i2 i3 i4=>?_,λt off hh=>absurd hh (zzq (e':=e2) t off),λt hh=>?_⟩
 . refine hJ.cL t v ?_;unfold qg at hv |-
   cases hu:Ql L s' t with
   | some y=>rw[hu]at hv;obtain⟨cs,rfl⟩:=jq L s' hL t y hu;cases hv
   | none=>
     have tM:Ql L s t=none:=by
      cases hx:Ql L s t with
      | none=>rfl
      | some y=>obtain⟨y',oo⟩:=lZ L s s' t ⟨y,hx⟩;rw[hu]at oo;cases oo
     rw[hu]at hv;rw[tM];exact hv
 . rcases back t hh with ⟨cs,jD,c1,c2,c3⟩ | ⟨m,c1,c2,c3⟩
   . obtain⟨g1,b,el,g2,g3,g4,g5⟩:=hE.dy t (by rw[c3];rfl);rw[c3]at g2 g3;rw[ht t (by rw[c1];rfl)]at g2;exact⟨g1,b,el,by rw[c2];exact g2,by rw[c2];exact g3,g4,g5⟩
   . obtain⟨g1,b,el,g2,g3,g4,g5⟩:=hE.dy t (by rw[c3];rfl);rw[c3]at g2 g3;rw[ht t (by rw[c1];rfl)]at g2;exact⟨g1,b,el,by rw[c2];exact g2,by rw[c2];exact g3,g4,g5⟩
 . have key:∀t c,lU (qg e ms L s' t)=true->a.tmps[t]?=some (jA c (qg e ms L s' t))->lU (qg e ms L s t)=true/\a.tmps[t]?=some (jA c (qg e ms L s t)):=λt c j1 j2=>by
    rcases back t j1 with ⟨cs,jD,c1,c2,c3⟩ | ⟨m,c1,c2,c3⟩
    rw[c2]at j2;rw[c1];exact⟨rfl,j2⟩;rw[c2]at j2;rw[c1];exact⟨rfl,j2⟩
   obtain⟨k1,k2⟩:=key t b i1 i3;obtain⟨k3,k4⟩:=key t' b i2 i4;exact hJ.inj t t' b k1 k3 k2 k4
 . refine hJ.iL t ?_;unfold qg at hh |-
   cases hu:Ql L s' t with
   | some y=>rw[hu]at hh;obtain⟨cs,rfl⟩:=jq L s' hL t y hu;cases hh
   | none=>
     have tM:Ql L s t=none:=by
      cases hx:Ql L s t with
      | none=>rfl
      | some y=>obtain⟨y',oo⟩:=lZ L s s' t ⟨y,hx⟩;rw[hu]at oo;cases oo
     rw[hu]at hh;rw[tM];exact hh
def Z38{C:bX}{L:List (Nat×dp)}{p0 p1:Nat}{x y:Code}(h:zuv C L p0 p1 x y=true) :
 (∀q∈L,zw7 q.2=true/\q.1∈Y6 C x++Y6 C y/\q.1∉p0 :: p1 :: (gD x++gD y))/\Xk x=true/\Xk y=true/\C.loc p0=false/\C.loc p1=false/\p0<C.n/\p1<C.n/\p0≠p1:=by
 unfold zuv at h;simp only[Uh,J1,Bool.not_eq_true']at h;obtain⟨⟨⟨⟨⟨⟨⟨h1,h2⟩,h3⟩,h4⟩,h5⟩,h6⟩,h7⟩,h8⟩:=h;have lt:∀{a b:Nat},Pc a b=true->a<b:=λhh=>by unfold Pc at hh;have:=Un hh;omega
 refine⟨λq hq=>?_,h2,h3,h4,h5,lt h6,lt h7,λhh=>by rw[hh,vy]at h8;cases h8⟩;obtain⟨⟨⟨g1,g2⟩,g3⟩,g4⟩:=h1 q hq;exact⟨g1,Qu.1 g2,λhm=>by rw[Qu.2 hm]at g3;cases g3⟩
def zka:∀{L:List (Nat×dp)} {s:nS L} {t:Nat} {y:Slot},Ql L s t=some y->∃q∈L,q.1=t
 | [],_,_,_,h=>by cases h
 | (t',sy) :: r,s,t,y,h=>by
   unfold Ql at h;by_cases su:t=t';exact⟨_,Ln,su.symm⟩
   . rw[jB su]at h;obtain⟨q,h1,h2⟩:=zka (s:=s.2) h;exact⟨q,Gx _ h1,h2⟩
def AP{C:bX}:∀(c:Code) (t:Nat),t∈gD c->t∈Y6 C c
 | .region _ ops _,t,h=>by
   unfold gD at h;unfold Y6;rw[List.mem_flatMap]at h |-
   obtain⟨o,h1,h2⟩:=h;refine⟨o,h1,Jv _ ?_⟩;unfold Yf;exact Jv _ (Jv _ h2)
 | .seq a b,t,h=>by
   unfold gD at h;unfold Y6;rcases Ul.1 h with h | h
   exact Jv _ (AP a t h);exact Ue _ (AP b t h)
 | .cond _ a b,t,h=>by
   unfold gD at h;unfold Y6;rcases Ul.1 h with h | h
   exact Jv _ (AP a t h);exact Ue _ (AP b t h)
 | .block _ a,t,h=>AP a t h
 | .loop a,t,h=>AP a t h
 | .scope a,t,h=>AP a t h
 | .rangeFunc _ _ _ _,t,h=>by cases h
 | .skip,t,h=>by cases h
 | .exit _,t,h=>by cases h
 | .ret,t,h=>by cases h
 | .label _,t,h=>by cases h
 | .goto _,t,h=>by cases h
 | .refuse ..,t,h=>by cases h
def nU.lt{N:Nat}{w:World}:∀{ds:List Deferred},nU N w ds->∀d∈ds,d≠{ target:=.collected w.heap.size,args:=#[] }
 | [],_,_,h=>by cases h
 | d :: ds,⟨⟨r,h1,_,h3,_⟩,hm⟩,d',hd=>by
   rcases Gk.1 hd with rfl | hd
   . intro hh;rw[h1]at hh;have:=Xr h3;simp only[Deferred.mk.injEq,Target.collected.injEq,and_true]at hh;omega
   exact nU.lt hm d' hd
def Z39{nn:Nat}(rj:uT C.P C.fk)(iR:B.nb<=B.w.heap.size){x y:Code}
 (hx:Xk x=true->∀(B:fI) (l:Nat) (an:An) (K:Ex->Env->Hp->Prop) (e:Env) (h:Hp) (a:Act) (w:World),B.nb<=B.w.heap.size->den C x an K e h->Rel C B e h a w->x.wpIn (Yb (some l)) nn C.P (Out C B (Y6 C x) (gD x) a e K) a w)
 (hy:Xk y=true->∀(B:fI) (l:Nat) (an:An) (K:Ex->Env->Hp->Prop) (e:Env) (h:Hp) (a:Act) (w:World),B.nb<=B.w.heap.size->den C y an K e h->Rel C B e h a w->y.wpIn (Yb (some l)) nn C.P (Out C B (Y6 C y) (gD y) a e K) a w)
 {g:Operand} {p0 p1:Nat} {L:List (Nat×dp)} {b1 b2:An} {K:Ex->Env->Hp->Prop} {e:Env} {h:Hp} {a:Act} {w:World}
 (hk:den C (.rangeFunc g ⟨[p0,p1]⟩ x y) (.back L b1 b2) K e h) (hR:Rel C B e h a w) :
 (Code.rangeFunc g ⟨[p0,p1]⟩ x y).wpIn (Yb none) nn C.P (Out C B (Y6 C (.rangeFunc g ⟨[p0,p1]⟩ x y)) (gD (.rangeFunc g ⟨[p0,p1]⟩ x y)) a e K) a w:=by
 unfold den at hk;simp only at hk;cases iS:zuv C L p0 p1 x y with
 | false=>rw[iS]at hk;exact hk.elim
 | true=>
   rw[iS]at hk;simp only at hk;obtain⟨hL,nx,ny,lp0,lp1,np0,np1,hp01⟩:=Z38 iS;replace hk:=yb hR hk;split at hk
   case h_2=>exact hk.elim
   rename_i gf ad hg;split at hk
   case h_2=>exact hk.elim
   rename_i T hT;have hB:=rj.get gf T hT;obtain⟨s0,uU,Od⟩:=JS hk;obtain⟨xs,I,vK,hI0,Oe,sv,CZ⟩:=Od;obtain⟨ms,jR⟩:∃ms,ms=[p0,p1]++Y6 C x++Y6 C y:=⟨_,rfl⟩;rw[<-jR]at sv CZ;have aas:Y6 C (.rangeFunc g ⟨[p0,p1]⟩ x y)=ms:=by rw[jR];rfl
   rw[aas];have gI:Rel C B (qg e ms L s0) h a w:=hR.AO uU (λ_ _=>Vb.refl _);have hwB:B.w.heap.size<=w.heap.size:=hR.fr.1;refine wpIn_rangeFunc λfn hfn=>?_
   obtain⟨rec,ow⟩:∃rec:LoopState->Option Code->Loop,rec=λst pe=>{ state:=st,pending:=pe,fn,tmps:=a.tmps,params:=⟨[p0,p1]⟩,assign:=x,body:=y,defers:=w.heap.size }:=⟨_,rfl⟩
   obtain⟨W1,hW1⟩:∃W1,(w.alloc (.deferred (some []))).alloc (.loop (rec .ready none))=W1:=⟨_,rfl⟩;have hL1:W1.heap[w.heap.size+1]?=some (.loop (rec .ready none)):=by
    rw[<-hW1];have:=NH (w:=w.alloc (.deferred (some []))) (o:=.loop (rec .ready none));simpa using this
   have hK1:W1.heap[w.heap.size]?=some (.deferred (some [])):=by
    rw[<-hW1,NG zS];exact NH
   have fK:Rel C B (qg e ms L s0) h a W1:=by rw[<-hW1];exact(gI.ou _).ou _
   refine⟨w.heap.size+1,[{ target:=.collected w.heap.size,args:=#[] }],W1,{ target:=.fn (.func gf) #[.pointer (some ad)],args:=#[.func (.yield (w.heap.size+1)) #[] #[]] },W1,gf,
    #[.func (.yield (w.heap.size + 1)) #[] #[], .pointer (some ad)], W1, ?_, ?_, ?_, ?_, (fun hh => by cases hh), ?_⟩
   rw[<-hW1,ow];exact run_enterLoop_outer _ _ _ _ _
   . have:a.eval g=.func (.func gf) #[] #[.pointer (some ad)]:=hg;simp only[resolve,this];simp[go_sem]
   intro f' dk;trivial;simp[invoke,go_sem,hB.1]
   . refine(callsIn_wide (n:=nn-1)).2 ((callsIn_wide (n:=0)).1 ((hB.2 (w.heap.size+1) ad xs (λi W=>∃s h',I i s h'/\Rel C B (qg e ms L s) h' a W/\W.heap[w.heap.size+1]?=some (.loop (rec .ready none))/\W.heap[w.heap.size]?=some (.deferred (some [])))
      W1 vK ⟨s0,h,hI0,fK,hL1,hK1⟩ ?_ ?_).mono ?_))
     . rintro i W ⟨s,h',hI,fc,_,_⟩;exact fc.sub.cell (Oe i s h' hI)
     . rintro i W hi ⟨s,h',hI,fc,aP,hD1⟩;obtain⟨ad',v,kI,jW,Of⟩:=sv i s h' hi hI;refine⟨ad',v,kI,λj u hj=>fc.sub.cell (jW j u hj),fn,(a.tmps.setIfInBounds p0 (.int .i64 i)).setIfInBounds p1 (T.val v),x,y,?_,?_⟩
       . have:=run_yield (P:=C.P) (args:=#[.int .i64 i,T.val v]) aP (by rw[ow];rfl);rw[ow]at this;rw[this];simp
       . refine Z6f (n:=nn) (roundIn_of_wpIn (F:=Fence.wide) trivial ?_);have hS:Rel C ⟨so (qg e ms L s) h' a,W,0⟩ (((qg e ms L s).set p0 (.val (.int .i64 i))).set p1 (.val (T.val v))) h'
          { tmps:=(a.tmps.setIfInBounds p0 (.int .i64 i)).setIfInBounds p1 (T.val v),defers:=[] } W:=
          ((fc.mG.gL (ds:=[]) trivial).mz lp0 np0).mz lp1 np1
         refine Yk (ro:=some (w.heap.size+1)) ?_ (hx nx _ _ b1 _ _ h' _ W (Jt _) Of hS);rintro xx a1 w1 ⟨ex,e1,h1,hm,hK,Og,aat,aau⟩;cases xx with
         | normal=>
           cases ex<;>first | (exact hm.elim) | skip
           have Oh:∀(q:Loop),¬Nw (Obj.loop q):=λq hh=>hh
           have AQ:∀q,¬Nw (Obj.deferred q):=λq hh=>hh
           have CX:nU B.nb w1 a.defers:=fc.defers.mono (Jd _) λr hr=>JT fc Og hr (AQ _)
           have bH:=JT fc Og aP (Oh _);have uV:=JT fc Og hD1 (AQ _);have Fo:Rel C B e1 h1 { a1 with defers:=a.defers } w1:=fc.ot Og CX;refine⟨_,run_beginRound bH (by rw[ow]),?_⟩;have pV:=Fo.putObj (r':={ rec .ready none with state:=.busy }) (show B.w.heap.size<=w.heap.size+1 by omega) bH;have hS2:=pV.mG;have aav:nU 0 (w1.putObj (w.heap.size+1) (Obj.loop { rec .ready none with state:=.busy })) a1.defers:=Og.defers.mono (Jd _) λr hr=>by
            rw[Tw (λhh=>by rw[hh,bH]at hr;cases hr)];exact hr
           have hS3:=hS2.gL aav;refine Yk (ro:=some (w.heap.size+1)) ?_ (hy ny _ _ b2 _ _ h1 a1 _ (Jt _) hK hS3);rintro xx a2 w2 ⟨ex,e2,h2,hm,hK,hRy,vL,tN⟩;have bj:=JT pV hRy (World.putObj_heap_same (Xr bH)) (Oh _);have rk:=JT pV hRy ((Tw zO).trans uV) (AQ _);cases xx with
           | normal=>
             cases ex<;>first | (exact hm.elim) | skip
             obtain⟨s',iQ,JU⟩:=JS hK;have uM:nU B.nb w2 a.defers:=pV.defers.mono (Jd _) λr hr=>JT pV hRy hr (AQ _)
             have hE:=pV.ot hRy uM;refine⟨_,_,run_endRound none bj,rfl,s',h2,JU,?_,?_,?_⟩
             . refine(fc.vJ hE (λq hq=>(hL q hq).1) iQ (λt ht=>?_) (λt ht=>?_) uM).putObj zO bj
               . have t0:t≠p0:=λhh=>ht (by rw[jR,hh];simp)
                 have t1:t≠p1:=λhh=>ht (by rw[jR,hh];simp)
                 have tx:t∉Y6 C x:=λhh=>ht (by rw[jR];simp[hh])
                 have ty:t∉Y6 C y:=λhh=>ht (by rw[jR];simp[hh])
                 have:=(aat t tx).trans (vL t ty);rw[Env.aN t1,Env.aN t0]at this;exact this
               . have AE:t∉p0 :: p1 :: (gD x++gD y):=by
                  intro rm;cases hu:Ql L s t with
                  | some z=>
                    obtain⟨q,hq,hqt⟩:=zka hu;exact(hL q hq).2.2 (by rw[hqt];exact rm)
                  | none=>
                    have Oi:t∈ms:=by
                     rw[jR];simp only[Gk,Ul]at rm;rcases rm with rfl | rfl | rm | rm
                     simp;simp;simp[AP x t rm];simp[AP y t rm]
                    unfold qg at ht;rw[hu]at ht;simp only[Qu.2 Oi,cond_true]at ht;cases ht
                 simp only[Gk,Ul,not_or]at AE;obtain⟨n0,n1,n2,n3⟩:=AE;rw[tN t n3,aau t n2];simp only;rw[Array.getElem?_setIfInBounds_ne (Ne.symm n1),Array.getElem?_setIfInBounds_ne (Ne.symm n0)]
             rw[World.putObj_heap_same (Xr bj),ow];rfl;exact(Tw zO).trans rk
           | _=>
             cases ex<;>first | (exact hm.elim) | (exact hK.elim)
         | _=>
           cases ex<;>first | (exact hm.elim) | (exact hK.elim)
     . rintro e' W2 ⟨⟨v,rfl⟩,s,h',hI,fc,hl,hD⟩;refine⟨none,_,by have:=run_endLoop (P:=C.P) hl (by rw[ow];simp);rw[ow]at this;exact this,?_⟩;have hRp:=fc.putObj (r':={ rec .ready none with state:=.exhausted }) (show B.w.heap.size<=w.heap.size+1 by omega) hl;rw[ow]at hRp;refine⟨.normal,qg e ms L s,h',trivial,CZ s h' hI,hRp.gL ⟨⟨w.heap.size,rfl,zO,(Tw zO).trans hD,λd' de=>hR.defers.lt d' de⟩,hRp.defers⟩,λt ht=>?_,λt _=>rfl⟩;exact zom (e':=qg e ms L s) (λt y hu=>by unfold qg;rw[hu]) (λt ht=>by
        unfold qg;cases hu:Ql L s t with
        | some z=>
          exfalso;obtain⟨q,hq,hqt⟩:=zka hu;exact ht (by rw[jR,<-hqt];have:=(hL q hq).2.1;rcases Ul.1 this with h1 | h1<;>simp[h1])
        | none=>
          simp only;have:eZ t ms=false:=by
           cases hm:eZ t ms with
           | false=>rfl
           | true=>exact absurd (Qu.1 hm) ht
          rw[this];simp only[cond_false];cases he:e t with
          | val v=>exact Vb.refl _
          | box cs=>exact Vb.refl _
          | lit cs n=>exact⟨(λhh=>by rcases hh with ⟨_,hh⟩ | ⟨_,hh⟩ | hh<;>cases hh),(λv hv=>by cases hv)⟩
          | mp m=>exact Vb.refl _
          | mr=>exact Vb.refl _
          | ref off=>exact⟨(λhh=>by rcases hh with ⟨_,hh⟩ | ⟨_,hh⟩ | hh<;>cases hh),(λv hv=>by cases hv)⟩
          | fG=>exact Vb.refl _) ht
def Rel.pub{e:Env}{h:Hp}{a:Act}{w:World}(hR:Rel C B e h a w){d:Nat}{cs:List Value}(hd:e d=.box cs){K:Addr->Hp->Prop}(hk:Ys cs K h) :
 ∃b h',K ⟨b,0,none⟩ h'/\Rel C B (e.alloc C.rt d (.val (.pointer (some ⟨b,0,none⟩)))) h' a w:=by
 obtain⟨g1,b,el,g2,g3,g4,g5⟩:=hR.dy d (by rw[hd];rfl);rw[hd]at g2 g3;have hb:∀t,lU (e.alloc C.rt d (.val (.pointer (some ⟨b,0,none⟩))) t)=true->t≠d/\e.alloc C.rt d (.val (.pointer (some ⟨b,0,none⟩))) t=e t:=λt ht=>by
  have hn:t≠d:=λhh=>by subst hh;rw[Env.aY]at ht;cases ht
  refine⟨hn,Env.cE hn λo ho=>?_⟩;unfold Env.alloc at ht;rw[jB hn]at ht;simp only[cond_false,ho]at ht;cases hr:Nat.beq (C.rt t) d<;>rw[hr]at ht<;>cases ht
 refine⟨b,_,hk b el g4,⟨?_,hR.sz,hR.defers,hR.fr,?_,?_,?_,?_,?_,?_⟩⟩
 . intro k c hc;by_cases dH:k=b
   . subst dH;rw[Uy]at hc;cases hc;exact g3
   rw[Gc dH]at hc;exact hR.sub k c hc
 . intro k h1 h2;by_cases dH:k=b
   . subst dH;rcases g5 with g5 | g5
     exact g5;exact absurd h2 g5
   rw[Gc dH]at h1;exact hR.jc k h1 h2
 . intro t v ht;by_cases hn:t=d
   . subst hn;rw[Env.aY]at ht;cases ht;exact g2
   exact hR.cL t v (Env.bU hn ht (by intro hh;cases hh)).1
 . intro t ht;obtain⟨hn,he⟩:=hb t ht;rw[he]at ht |-
   obtain⟨k1,b',E5,k2,k3,k4,k5⟩:=hR.dy t ht;refine⟨k1,b',E5,k2,k3,?_,k5⟩;have hbb:b'≠b:=λhh=>by
    subst hh;exact hn (hR.inj t d b' ht (by rw[hd];rfl) k2 (by rw[hd];exact g2))
   rw[Gc hbb];exact k4
 . intro t t' b' i1 i2 i3 i4;obtain⟨_,e1⟩:=hb t i1;obtain⟨_,e2⟩:=hb t' i2;rw[e1]at i1 i3;rw[e2]at i2 i4;exact hR.inj t t' b' i1 i2 i3 i4
 . intro t off ht;have hn:t≠d:=λhh=>by subst hh;rw[Env.aY]at ht;cases ht
   obtain⟨h1,h2⟩:=Env.bU hn ht (by intro hh;cases hh);obtain⟨jD,b',k1,k2,k3⟩:=hR.refs t off h1;refine⟨jD,b',?_,k2,k3⟩;rw[Env.cE (h2 off rfl) (by intro o ho;rw[k1]at ho;cases ho)];exact k1
 . intro t ht;have hn:t≠d:=λhh=>by subst hh;rw[Env.aY]at ht;cases ht
   exact hR.iL t (Env.bU hn ht (by intro hh;cases hh)).1
def Z07:∀{L:List Nat} {K:Env->Hp->Prop} {e:Env} {h:Hp} {a:Act} {w:World},Rel C B e h a w->Zp5 C L K e h ->
 ∃e' h',K e' h'/\Rel C B e' h' a w/\∀t,t∉L->Vb (e t) (e' t)
 | [],K,e,h,a,w,hR,hk=>⟨e,h,hk,hR,λ_ _=>Vb.refl _⟩
 | d :: r,K,e,h,a,w,hR,hk=>by
   unfold Zp5 at hk;split at hk
   . rename_i cs hd;obtain⟨b,h',aG,yK⟩:=hR.pub hd hk;obtain⟨e2,h2,k1,k2,k3⟩:=Z07 yK aG;refine⟨e2,h2,k1,k2,λt ht=>?_⟩;have hn:t≠d:=λhh=>ht (by rw[hh];exact Ln)
     refine Vb.trans ?_ (k3 t λhh=>ht (Gx _ hh));refine⟨λhb=>?_,λv hv=>?_⟩
     . rcases hb with ⟨jD,hc⟩ | ⟨m,hc⟩ | hc
       exact Env.cE hn λo ho=>by rw[hc]at ho;cases ho
       exact Env.cE hn λo ho=>by rw[hc]at ho;cases ho
       exact Env.cE hn λo ho=>by rw[hc]at ho;cases ho
     rw[Env.cE hn λo ho=>by rw[hv]at ho;cases ho];exact hv
   exact hk.elim
def Zar(hC:dK C)(rj:uT C.P C.fk):∀(c:Code) (ro:Option Nat) (B:fI) (an:An) (K:Ex->Env->Hp->Prop) (e:Env) (h:Hp) (a:Act) (w:World),(ro=none\/Xk c=true)->B.nb<=B.w.heap.size->den C c an K e h->Rel C B e h a w ->
 c.wpIn (Yb ro) nn C.P (Out C B (Y6 C c) (gD c) a e K) a w:=by
 intro c;induction c with
 | skip=>intro ro B an K e h a w nC iR hk hR;exact wpIn_skip ⟨.normal,e,h,trivial,(by cases an<;>exact hk),hR,λ_ _=>Vb.refl _,λ_ _=>rfl⟩
 | exit j=>intro ro B an K e h a w nC iR hk hR;exact wpIn_exit ⟨.exit j,e,h,rfl,(by cases an<;>exact hk),hR,λ_ _=>Vb.refl _,λ_ _=>rfl⟩
 | ret=>intro ro B an K e h a w nC iR hk hR;exact wpIn_ret ⟨.ret,e,h,trivial,(by cases an<;>exact hk),hR,λ_ _=>Vb.refl _,λ_ _=>rfl⟩
 | region id ops draw=>
   intro ro B an K e h a w nC iR hk hR;have mB:∀(i:Nat) (o:Oper),ops[i]?=some o->∀d,o.dst=some d->d∈gD (.region id ops draw):=λi o hi d hd=>by
    unfold gD;rw[List.mem_flatMap];exact⟨o,by have:=Array.mem_of_getElem? hi;simpa using this,by rw[hd];simp⟩
   have jR:∀(i:Nat) (o:Oper),ops[i]?=some o->∀d∈Yf C o,d∈Y6 C (.region id ops draw):=λi o hi d hd=>by
    unfold Y6;rw[List.mem_flatMap];exact⟨o,by have:=Array.mem_of_getElem? hi;simpa using this,Jv _ hd⟩
   have hQ:∀x a' w',Fl (gD (.region id ops draw)) a (NT C B (Y6 C (.region id ops draw)) e (K .normal)) x a' w'->Out C B (Y6 C (.region id ops draw)) (gD (.region id ops draw)) a e K x a' w':=by
    rintro x a' w' ⟨⟨rfl,e',h',h1,h2,h3⟩,h4⟩;exact⟨.normal,e',h',trivial,h1,h2,h3,h4 rfl⟩
   cases draw with
   | false=>
     have bP:Vp C ops (K .normal) (List.range ops.size) e h:=by cases an<;>exact hk
     exact Yk hQ (wpIn_region (zlw mB (λ_ _=>rfl) (zpj hC.fH jR (λ_ _ _ hh=>hh) hR bP)))
   | true=>
     have drawn:∀(order:List Nat) (K0:Env->Hp->Prop),zhk C ops order=true->Vp C ops K0 order e h ->
      (Code.region id ops true).wpIn (Yb ro) nn C.P (Fl (gD (.region id ops true)) a (NT C B (Y6 C (.region id ops true)) e K0)) a w:=by
      intro order K0 vM hk;unfold zhk at vM;simp only[Uh]at vM;obtain⟨⟨⟨⟨⟨⟨hm,hb⟩,hlen⟩,hnd⟩,hlt⟩,cr⟩,hp⟩:=vM;have fm:∀(i:Nat) (o:Oper),ops[i]?=some o->∀e∈o.after.toList,Ts .any e=true->e.on<i:=λi o hi ed vH fA=>by
       unfold zho at hb;rw[J1]at hb;have vF:i<ops.size:=by
        rcases Jx i ops.size with h1 | h1
        exact h1;rw[Tn h1]at hi;cases hi
       have:=hb i (Pd.2 vF);rw[hi]at this;simp only[J1]at this;have:=this ed vH;rw[fA]at this;simp only[Bool.not_true,Bool.false_or]at this;unfold Pc at this;have:=Un this;omega
      have nd:∀{l:List Nat},EX l=true->l.Nodup:=by
       intro l;induction l with
       | nil=>intro _;exact List.nodup_nil
       | cons x r ih=>
         intro hh;simp only[EX,Uh]at hh;refine List.nodup_cons.2 ⟨λhm=>?_,ih hh.2⟩;rw[Qu.2 hm]at hh;simp at hh
      have Fp:∀i∈order,i<ops.size:=λi hi=>by
       have:=(J1.1 hlt) i hi;unfold Pc at this;have:=Un this;omega
      replace hlen:order.length<=ops.size:=Un hlen;refine(wpIn_region_any hm (zfs mB (λ_ _=>rfl) (zpk hC jR (λ_ _ _ hh=>hh) fm ops.size order (Lz ops.size false) e h a _ hlen zS (nd hnd) (λi hi=>?_) Fp (λi o hi hl=>?_) hp
       (λ_ _=>Vb.refl _) hk hR.drew)))
      . have h1:(Lz ops.size false).getD i false=false:=by
         rw[Um];simp[hi]
        have h2:=Qu.1 ((J1.1 cr) i (Pd.2 hi));exact⟨λ_=>h2,λ_=>h1⟩
      . have h1:(Lz ops.size false).getD i false=false:=by
         rw[Um];by_cases aA:i<ops.size<;>simp[aA]
        rw[h1]at hl;cases hl
     cases an with
     | draw order=>
       unfold den at hk;split at hk
       . rename_i vM;exact Yk hQ (drawn order _ vM hk)
       exact hk.elim
     | CK order Ax=>
       unfold den at hk;split at hk
       . rename_i vM;obtain⟨AS,Fq⟩:=L4.1 vM;refine Yk ?_ (drawn order _ AS hk);rintro x a' w' ⟨⟨rfl,e',h',h1,h2,h3⟩,h4⟩;obtain⟨e2,h5,k1,k2,k3⟩:=Z07 h2 h1;refine⟨.normal,e2,h5,trivial,k1,k2,λt ht=>(h3 t ht).trans (k3 t λhm=>ht ?_),h4 rfl⟩;exact Qu.1 ((J1.1 Fq) t hm)
       exact hk.elim
     | CM p b q as=>
       unfold den at hk;split at hk
       . rename_i vM;unfold zpa at vM;simp only[Uh]at vM;obtain⟨⟨⟨⟨⟨⟨⟨⟨⟨⟨⟨hm,hb⟩,hlen⟩,hnd⟩,hlt⟩,cr⟩,hp⟩,hq⟩,AN⟩,jf⟩,hld⟩,lZ⟩:=vM;obtain⟨ob,Fk⟩:=Option.isSome_iff_exists.1 lZ;have fm:∀(i:Nat) (o:Oper),ops[i]?=some o->∀e∈o.after.toList,Ts .any e=true->e.on<i:=λi o hi ed vH fA=>by
          unfold zho at hb;rw[J1]at hb;have vF:i<ops.size:=by
           rcases Jx i ops.size with h1 | h1
           exact h1;rw[Tn h1]at hi;cases hi
          have:=hb i (Pd.2 vF);rw[hi]at this;simp only[J1]at this;have:=this ed vH;rw[fA]at this;simp only[Bool.not_true,Bool.false_or]at this;unfold Pc at this;have:=Un this;omega
         have nd:∀{l:List Nat},EX l=true->l.Nodup:=by
          intro l;induction l with
          | nil=>intro _;exact List.nodup_nil
          | cons x r ih=>
            intro hh;simp only[EX,Uh]at hh;refine List.nodup_cons.2 ⟨λhm=>?_,ih hh.2⟩;rw[Qu.2 hm]at hh;simp at hh
         have Fp:∀i∈p++b :: q,i<ops.size:=λi hi=>by
          have:=(J1.1 hlt) i hi;unfold Pc at this;have:=Un this;omega
         have hlen:(p++b :: q).length<=ops.size:=Un hlen;refine Yk hQ (wpIn_region_any hm (zfs mB (λ_ _=>rfl) (zz2 hC Fk (λa ha oa hoa=>?_) jR (λ_ _ _ hh=>hh) fm ops.size p (Lz ops.size false) e h a _ hlen zS (nd hnd) (λi hi=>?_) Fp (λi o hi hl=>?_) hp
          (J1.1 hq) (λx hx=>?_) (zyq jf) (λ_ _=>Vb.refl _) hk hR.drew)))
         . have:=(J1.1 hld) a ha;rw[hoa]at this;simp only at this;cases hc:eD C oa with
           | load=>rfl
           | _=>rw[hc]at this;cases this
         . have h1:(Lz ops.size false).getD i false=false:=by
            rw[Um];simp[hi]
           have h2:=Qu.1 ((J1.1 cr) i (Pd.2 hi));exact⟨λ_=>h2,λ_=>h1⟩
         . have h1:(Lz ops.size false).getD i false=false:=by
            rw[Um];by_cases aA:i<ops.size<;>simp[aA]
           rw[h1]at hl;cases hl
         . have:=(J1.1 AN) x hx;rw[Ly,Uh]at this;exact this
       exact hk.elim
     | _=>exact hk.elim
 | seq x y JV JW=>
   intro ro B an K e h a w nC iR hk hR;have rx:ro=none\/Xk x=true:=nC.imp id λhh=>by unfold Xk at hh;exact(L4.1 hh).1
   have ry:ro=none\/Xk y=true:=nC.imp id λhh=>by unfold Xk at hh;exact(L4.1 hh).2
   have tail:∀(Kx:Ex->Env->Hp->Prop),x.wpIn (Yb ro) nn C.P (Out C B (Y6 C x) (gD x) a e Kx) a w ->
    (∀e' h' a' w',Kx .normal e' h'->Rel C B e' h' a' w'->(∀t,t∉Y6 C x->Vb (e t) (e' t))->(∀t,t∉gD x->a'.tmps[t]?=a.tmps[t]?)->y.wpIn (Yb ro) nn C.P (Out C B (Y6 C (.seq x y)) (gD (.seq x y)) a e K) a' w') ->
    (∀ex e' h',ex≠.normal->Kx ex e' h'->K ex e' h')->(Code.seq x y).wpIn (Yb ro) nn C.P (Out C B (Y6 C (.seq x y)) (gD (.seq x y)) a e K) a w:=by
    intro Kx hx hn ho;refine wpIn_seq (Yk ?_ hx);rintro xx a' w' ⟨ex,e',h',hm,hK,fc,oz,iT⟩;cases xx with
    | normal=>
      cases ex<;>first | (exact hm.elim) | skip
      exact hn e' h' a' w' hK fc oz iT
    | _=>
      cases ex<;>first | (exact hm.elim) | skip
      all_goals exact⟨_,e',h',hm,ho _ _ _ zS hK,fc,(λt ht=>oz t λhh=>ht (Jv _ hh)),λt ht=>iT t λhh=>ht (Jv _ hh)⟩
   cases an with
   | seq a1 a2=>
     unfold den at hk;refine tail _ (JV ro B a1 _ e h a w rx iR hk hR) ?_ ?_
     . intro e' h' a' w' hK fc oz iT;refine Yk ?_ (JW ro B a2 K e' h' a' w' ry iR hK fc);rintro xx a'' yJ ⟨ex,JX,kP,hm,hK,tO,Ft,Fu⟩;exact⟨ex,JX,kP,hm,hK,tO,(λt ht=>(oz t λhh=>ht (Jv _ hh)).trans (Ft t λhh=>ht (Ue _ hh))),
        λt ht=>(Fu t λhh=>ht (Ue _ hh)).trans (iT t λhh=>ht (Jv _ hh))⟩
     . intro ex e' h' cd hK;cases ex<;>first | (exact absurd rfl cd) | exact hK
   | join L a1 a2=>
     unfold den at hk;obtain⟨J,hJ,hx⟩:=hk;refine tail _ (JV ro B a1 _ e h a w rx iR hx hR) ?_ ?_
     . intro e' h' a' w' hK fc oz iT;obtain⟨s,hs,hJs⟩:=JS hK;refine Yk ?_ (JW ro B a2 K _ h' a' w' ry iR (hJ s h' hJs) (fc.AO hs oz));rintro xx a'' yJ ⟨ex,JX,kP,hm,hK,tO,Ft,Fu⟩;exact⟨ex,JX,kP,hm,hK,tO,(λt ht=>(zom hs oz λhh=>ht (Jv _ hh)).trans (Ft t λhh=>ht (Ue _ hh))),
        λt ht=>(Fu t λhh=>ht (Ue _ hh)).trans (iT t λhh=>ht (Jv _ hh))⟩
     . intro ex e' h' cd hK;cases ex<;>first | (exact absurd rfl cd) | exact hK
   | _=>exact hk.elim
 | cond c x y JV JW=>
   intro ro B an K e h a w nC iR hk hR;cases an with
   | cond a1 a2=>
     unfold den at hk;replace hk:=yb hR hk;split at hk
     . rename_i t ht;refine wpIn_cond ht ?_;cases t with
       | true=>
         refine Yk ?_ (JV ro B a1 K e h a w (nC.imp id λhh=>by unfold Xk at hh;exact(L4.1 hh).1) iR hk hR);rintro xx a' w' ⟨ex,e',h',hm,hK,fc,oz,iT⟩;exact⟨ex,e',h',hm,hK,fc,(λt ht=>oz t λhh=>ht (Jv _ hh)),λt ht=>iT t λhh=>ht (Jv _ hh)⟩
       | false=>
         refine Yk ?_ (JW ro B a2 K e h a w (nC.imp id λhh=>by unfold Xk at hh;exact(L4.1 hh).2) iR hk hR);rintro xx a' w' ⟨ex,e',h',hm,hK,fc,oz,iT⟩;exact⟨ex,e',h',hm,hK,fc,(λt ht=>oz t λhh=>ht (Ue _ hh)),λt ht=>iT t λhh=>ht (Ue _ hh)⟩
     exact hk.elim
   | _=>exact hk.elim
 | block id x ih=>
   intro ro B an K e h a w nC iR hk hR;cases an with
   | block a1=>
     unfold den at hk;refine wpIn_block (Yk ?_ (ih ro B a1 _ e h a w (nC.imp (λhh=>hh) λhh=>hh) iR hk hR));rintro xx a' w' ⟨ex,e',h',hm,hK,fc,oz,iT⟩;cases xx with
     | exit j=>
       cases ex<;>first | (exact hm.elim) | skip
       rename_i i;have nA:i=j:=hm;subst nA;simp only[Exit.inBlock];by_cases hi:i=id
       . subst hi;simp only[vy]at hK;rw[if_pos rfl];exact⟨.normal,e',h',trivial,hK,fc,oz,iT⟩
       . simp only[jB hi]at hK;rw[if_neg hi];exact⟨.exit i,e',h',rfl,hK,fc,oz,iT⟩
     | _=>
       cases ex<;>first | (exact hm.elim) | skip
       all_goals exact⟨_,e',h',hm,hK,fc,oz,iT⟩
   | _=>exact hk.elim
 | loop x ih=>
   intro ro B an K e h a w nC iR hk hR;cases an with
   | loop L a1=>
     unfold den at hk;obtain⟨s0,uU,hl⟩:=JS hk;obtain⟨I,μ,hI0,gM⟩:=hl;refine Zci (σ:=nS L×Hp) (λp a' w=>I p.1 p.2/\Rel C B (qg e (Y6 C x) L p.1) p.2 a' w/\(∀t,t∉Y6 C x->Vb (e t) (qg e (Y6 C x) L p.1 t))/\∀t,t∉gD x->a'.tmps[t]?=a.tmps[t]?) (λp=>μ p.1 p.2)
      ?_ (s:=(s0,h)) ⟨hI0,hR.AO uU (λ_ _=>Vb.refl _),(λt ht=>zom uU (λ_ _=>Vb.refl _) ht),λ_ _=>rfl⟩
     rintro⟨s,h1⟩ a' w' ⟨hI,fc,aaw,aax⟩;refine Yk ?_ (ih ro B a1 _ _ h1 a' w' (nC.imp id λhh=>hh) iR (gM s h1 hI) fc);rintro xx a'' yJ ⟨ex,JX,kP,hm,hK,tO,oz,iT⟩;have tN:∀t,t∉gD x->a''.tmps[t]?=a.tmps[t]?:=λt ht=>(iT t ht).trans (aax t ht)
     have vL:∀t,t∉Y6 C x->Vb (e t) (JX t):=λt ht=>(aaw t ht).trans (oz t ht)
     cases xx with
     | normal=>
       cases ex<;>first | (exact hm.elim) | skip
       obtain⟨s',iQ,JU,hlt⟩:=JS hK;exact⟨(s',kP),⟨JU,tO.AO iQ vL,(λt ht=>zom iQ vL ht),tN⟩,hlt⟩
     | _=>
       cases ex<;>first | (exact hm.elim) | skip
       all_goals exact⟨_,JX,kP,hm,hK,tO,vL,tN⟩
   | _=>exact hk.elim
 | rangeFunc g ps x y JV JW=>
   intro ro B an K e h a w nC iR hk hR;have aay:ro=none:=nC.resolve_right (by unfold Xk;decide);subst aay;obtain⟨pl⟩:=ps
   match pl,an,hk with
   | [p0,p1],.back L b1 b2,hk=>
     exact Z39 rj iR (λnx B l an K e h a w hm hk hR=>JV (some l) B an K e h a w (.inr nx) hm hk hR) (λny B l an K e h a w hm hk hR=>JW (some l) B an K e h a w (.inr ny) hm hk hR) hk hR
 | _=>intro ro B an K e h a w nC iR hk hR;cases an<;>exact hk.elim
def zww(tmps:Array Value):ResultVar->Sem Value
 | .tmp t=>Pure.pure (tmps.getD t undef)
 | .cell ad t=>do loadVar t (<-asAddr (tmps.getD ad undef))
def Zkh{rs:List ResultVar}{e:Env}{h:Hp}{a:Act}{w:World}(hR:Rel C B e h a w):∀{K:List Value->Prop},E1 C rs e K ->
 ∃vs,K vs/\(rs.mapM (zww a.tmps)).run C.P w=.ok vs w:=by
 induction rs with
 | nil=>intro K hk;exact⟨[],hk,zS⟩
 | cons r rs ih=>
   intro K hk;cases r with
   | tmp t=>
     unfold E1 at hk;split at hk
     . rename_i v hv;obtain⟨vs,h1,h2⟩:=ih hk;refine⟨v :: vs,h1,?_⟩;have:a.tmps.getD t undef=v:=by rw[Um,hR.cL t v hv];rfl
       simp only[List.mapM_cons,Jg,zww,this,Jj,Jb,h2]
     exact hk.elim
   | cell t ty=>
     unfold E1 at hk;split at hk
     . rename_i cs hb;obtain⟨b,el,h3,h4⟩:∃b el,a.tmps[t]?=some (.pointer (some ⟨b,0,none⟩))/\w.heap[b]?=some (.cells cs.toArray el (0,0)):=by
        obtain⟨_,b,el,h1,h2,_,_⟩:=hR.dy t (by rw[hb];rfl);rw[hb]at h1 h2;exact⟨b,el,h1,h2⟩
       obtain⟨v,hv,bR⟩:=zjp (P:=C.P) h4 hk;obtain⟨vs,h1,h2⟩:=ih hv;refine⟨v :: vs,h1,?_⟩;have:a.tmps.getD t undef=.pointer (some ⟨b,0,none⟩):=by rw[Um,h3];rfl
       simp only[List.mapM_cons,Jg,zww,this,asAddr,Jj,Jb,bR,h2]
     exact hk.elim
def Zj4(hC:dK C)(rj:uT C.P C.fk){g:FuncId}{fn:Func}{c:Code}{an:An}(hf:C.P.funcs[g]?=some fn)(hb:fn.body=some c)(hn:fn.ntmps=C.n)
 {args:List Value} (ha:args.length<=C.n) {K:Value->Hp->Prop} {D:Hp} {w:World} (hs:Sub D w) (hk:E3 C fn c an args K D):Calls C.P g args.toArray w (lS K D w):=by
 refine(callsIn_wide (n:=0)).1 (callsIn_of_wp_marks hf hb trivial ?_);have hR:Rel C ⟨D,w,w.heap.size⟩ (E2 args) D { tmps:=args.toArray++Lz (fn.ntmps-args.toArray.size) undef,defers:=[] } w:=by
  have hb:∀t,lU (E2 args t)=true->False:=λt ht=>by unfold E2 at ht;split at ht<;>cases ht
  refine⟨hs,by simp[hn];omega,trivial,Fr.refl D w,λk h1 h2=>absurd h2 h1,λt v hv=>?_,λt ht=>(hb t ht).elim,λt t' b ht=>(hb t ht).elim,λt off ht=>?_,λt ht=>?_⟩
  . unfold E2 at hv;split at hv
    . rename_i u hu;cases hv;have hlt:t<args.length:=by
       rcases Jx t args.length with h1 | h1
       exact h1;rw[G3 h1]at hu;cases hu
      simp only;rw[Array.getElem?_append_left (by simpa using hlt)];simpa using hu
    cases hv
  unfold E2 at ht;split at ht<;>cases ht
  unfold E2 at ht;split at ht<;>cases ht
 unfold E3 at hk;refine Yk (ro:=none) ?_ (Zar hC rj c none _ an _ _ D _ w (.inl rfl) (Jd _) hk hR);rintro x a' w' ⟨ex,e',h',hm,hK,fc,_,_⟩;have fin:∀(ds:List Deferred) (w1:World),Rel C ⟨D,w,w.heap.size⟩ e' h' { a' with defers:=ds } w1->E1 C fn.results.toList e' (λvs=>K (Nv vs) h')->LeavesInM Fence.wide 0 C.P fn a'.tmps (lS K D w) ds .returning w1:=by
  intro ds;induction ds with
  | nil=>
    intro w1 fK hh;obtain⟨vs,h1,h2⟩:=Zkh fK hh;refine⟨Nv vs,?_,Nv vs,h',rfl,h1,fK.sub,fK.fr,fK.jc⟩;have oA:results fn a'.tmps=(do
     let vs <-fn.results.mapM (zww a'.tmps)
     Pure.pure (if h:vs.size=1 then vs[0]else .tuple vs)):=rfl
    rw[oA,Jg,Array.mapM_eq_mapM_toList,Sem.run_map,h2];simp only[Jb,Jj];congr 1
    match vs with
    | []=>rfl
    | [v]=>rfl
    | u :: v :: r=>simp[Nv]
  | cons d ds ih=>
    intro w1 fK hh;obtain⟨⟨r,hd,eF,ei,nE⟩,jR⟩:=fK.defers;refine⟨zS,.inl ⟨r,_,by rw[hd],run_takeDeferred ei,ih _ ?_ hh⟩⟩;have cd:∀(k:Nat) (o:Obj),w1.heap[k]?=some o->k≠r->(w1.putObj r (.deferred none)).heap[k]?=some o:=λk o hk vN=>by
     rw[Tw vN];exact hk
    have hmarks:∀ds:List Deferred,(∀d'∈ds,d'≠d)->nU w.heap.size w1 ds->nU w.heap.size (w1.putObj r (.deferred none)) ds:=by
     intro ds;induction ds with
     | nil=>intro _ _;trivial
     | cons d2 ds ih2=>
       rintro hnd ⟨⟨r2,g1,g2,g3,g4⟩,g5⟩;refine⟨⟨r2,g1,g2,cd r2 _ g3 (λhx=>?_),g4⟩,ih2 (λd' de=>hnd d' (Gx _ de)) g5⟩;exact hnd d2 Ln (by rw[g1,hd,hx])
    have bp:∀(k:Nat) (c:Array Value) (el:TypeId) (f:Nat×Nat),w1.heap[k]?=some (.cells c el f)->(w1.putObj r (.deferred none)).heap[k]?=some (.cells c el f):=λk c el f hk=>
     cd k _ hk (λhx=>by rw[hx,ei]at hk;cases hk)
    refine⟨λk b hb=>bp k _ _ _ (fK.sub k b hb),fK.sz,hmarks ds nE jR,?_,fK.jc,fK.cL,λt ht=>?_,fK.inj,fK.refs,fK.iL⟩
    . obtain⟨x1,x2,x3,x4,x5,x6⟩:=fK.fr;refine⟨by rw[World.putObj_size];exact x1,λk hk hD=>?_,x3,x4,x5,x6⟩;have hr1':w.heap.size<=r:=eF;have bP:k<w.heap.size:=hk;rw[Tw zO];exact x2 k hk hD
    . obtain⟨g1,b,el,g2,g3,g4,g5⟩:=fK.dy t ht;exact⟨g1,b,el,g2,g3.mono λo hp E7=>cd b o E7 (λhx=>by subst hx;rw[ei]at E7;cases E7;exact hp),g4,g5⟩
 have hRd:Rel C ⟨D,w,w.heap.size⟩ e' h' { a' with defers:=a'.defers } w':=fc;cases x with
 | normal=>
   cases ex<;>first | (exact hm.elim) | skip
   exact fin a'.defers w' hRd hK
 | ret=>
   cases ex<;>first | (exact hm.elim) | skip
   exact fin a'.defers w' hRd hK
 | exit j=>
   cases ex<;>first | (exact hm.elim) | skip
   exact hK.elim
 | _=>cases ex<;>exact hm.elim
end
end Den
end

section
namespace Den
open Go
structure Ty(α:Type) where
 up:α->Value
 dn:Value->(α->Prop)->Prop
 snd:∀v K,dn v K->∃x,v=up x/\K x
 cmp:∀x K,dn (up x) K↔K x
structure cn(α:Type) where
 up:α->List Value
 dn:List Value->(α->Prop)->Prop
 snd:∀v K,dn v K->∃x,v=up x/\K x
 cmp:∀x K,dn (up x) K↔K x
def ao{α ρ:Type}(A:cn α)(R:Ty ρ)(F:α->(ρ->Hp->Prop)->Hp->Prop):zh:=λargs K h=>
 A.dn args λa=>za (F a) (λr=>K (R.up r)) h
def vO{α ρ:Type}(A:cn α)(R:Ty ρ)(F:α->(ρ->Hp->Prop)->Hp->Prop):zh:=λargs K h=>
 A.dn args λa=>kE (F a) (λr=>K (R.up r)) h
structure Entry(P:Program)(g:Nat)(F:zh)(m:Bool):Prop where
 fn:Zs1 P g F
 Fv:m=false->∀args,zow (F args)
 mono:∀args K K' h,(∀v h,K v h->K' v h)->F args K h->F args K' h
def tP(C:bX):List (Nat×zh)->Prop
 | []=>True
 | (g,F) :: r=>Entry C.P g F (eZ g C.gn)/\tP C r
def tP.ok{C:bX}:∀{l:List (Nat×zh)},tP C l->tF C l
 | [],_=>trivial
 | (_,_) :: _,h=>⟨h.1.fn,h.1.Fv,tP.ok h.2⟩
def tP.mono{C:bX}:∀{l:List (Nat×zh)},tP C l->∀g args K K' h,(∀v h,K v h->K' v h)->yE g l args K h->yE g l args K' h
 | [],_,_,_,_,_,_,_,hk=>hk
 | (g',F) :: r,ht,g,args,K,K',h,ck,hk=>by
   unfold yE at *;by_cases hg:g=g';subst hg;rw[vy]at *;exact ht.1.mono args K K' h ck hk;rw[jB hg]at *;exact tP.mono ht.2 g args K K' h ck hk
def dK.of{C:bX}(h:tP C C.fH):dK C:=⟨h.ok,h.mono⟩
section
variable {ρ:Type}{A:cn α}{R:Ty ρ}{F:α->(ρ->Hp->Prop)->Hp->Prop}{P:Program}{g:Nat}
def zqd{K:Value->Hp->Prop}{D O:Hp}{Q:ρ->Hp->Prop}{w:World}(CW:D.dj O)(hs:Sub (D.add O) w)
 (hq:∀v D',Q v D'->D'.dj O->(D'.add O).Fin->K (R.up v) (D'.add O)):∀e w',lS (λv h=>R.dn v λr=>Q r h) D w e w'->lS K (D.add O) w e w':=by
 rintro e w' ⟨v,D',rfl,hv,iQ,hf,hd⟩;obtain⟨r,rfl,hr⟩:=R.snd _ _ hv;have hO:∀k b,O k=some b->D k=none/\w.heap[k]?=some (.cells b.cells.toArray b.elem b.fz)/\k<w.heap.size:=λk b hb=>by
  have h1:D k=none:=by
   rcases CW k with h1 | h1
   exact h1;rw[h1]at hb;cases hb
  have h2:(D.add O) k=some b:=by simp[Hp.add,h1,hb]
  exact⟨h1,hs k b h2,hs.lt h2⟩
 have Fw:D'.dj O:=λk=>by
  cases hb:O k with
  | none=>exact .inr rfl
  | some b=>
    obtain⟨h1,_,h3⟩:=hO k b hb;left;cases hk:D' k with
    | none=>rfl
    | some x=>have:=hd k (by simp[hk]) h1;omega
 suffices dz:Sub (D'.add O) w' from by
  refine⟨R.up r,D'.add O,rfl,hq r D' hr Fw dz.fin,dz,?_,λk h1 h2=>?_⟩;exact⟨hf.1,λk h1 h2=>hf.2.1 k h1 (Li.1 h2).1,hf.2.2⟩
  . rw[Li]at h2;refine hd k (λhh=>h1 ?_) h2.1;rw[Li];exact⟨hh,h2.2⟩
 intro k b hk
 . cases bP:D' k with
   | some x=>
     have:(D'.add O) k=some x:=by simp[Hp.add,bP]
     rw[this]at hk;cases hk;exact iQ k _ bP
   | none=>
     have:(D'.add O) k=O k:=by simp[Hp.add,bP]
     rw[this]at hk;obtain⟨h1,h2,h3⟩:=hO k b hk;rw[hf.2.1 k h3 h1];exact h2
def yq(hfn:∃fn,P.funcs[g]?=some fn/\fn.body.isNone=false/\(fn.name == "runtime.NumGoroutine")=false)
 (hb:∀a K D w,Sub D w->F a K D->Calls P g (A.up a).toArray w (lS (λv h=>R.dn v λr=>K r h) D w)):Entry P g (ao A R F) false where
 fn:=by
  refine⟨hfn,λargs K h w hs hk=>?_⟩;obtain⟨a,rfl,D,O,Q,h1,rfl,h3,h4⟩:=A.snd _ _ hk;exact(hb a Q D w (hs.mono (Hp.qU D O)) h3).mono (zqd h1 hs λv D' hq hd dY=>(h4 v D' hq).2 hd dY)
 Fv:=λ_ args=>by
  by_cases hx:∃a,args=A.up a
  . obtain⟨a,rfl⟩:=hx;exact .inl ⟨ρ,F a,R.up,λK h=>A.cmp a _⟩
  . refine .inr λK h hk=>hx ?_
    obtain⟨a,ha,_⟩:=A.snd _ _ hk;exact⟨a,ha⟩
 mono:=λargs K K' h ck hk=>by
  obtain⟨a,rfl,hc⟩:=A.snd _ _ hk;exact(A.cmp a _).2 (Ff (λv h' hh _ _=>ck _ _ hh) hc)
def zmh(hfn:∃fn,P.funcs[g]?=some fn/\fn.body.isNone=false/\(fn.name == "runtime.NumGoroutine")=false)
 (hb:∀a K D w,Sub D w->F a K D->Calls P g (A.up a).toArray w (lS (λv h=>R.dn v λr=>K r h) D w)):Entry P g (vO A R F) true where
 fn:=by
  refine⟨hfn,λargs K h w hs hk=>?_⟩;obtain⟨a,rfl,D,O,Q,h1,rfl,h3,h4⟩:=A.snd _ _ hk;exact(hb a Q D w (hs.mono (Hp.qU D O)) h3).mono (zqd h1 hs λv D' hq hd _=>h4 v D' hq hd)
 Fv:=λhh=>by cases hh
 mono:=λargs K K' h ck hk=>by
  obtain⟨a,rfl,hc⟩:=A.snd _ _ hk;exact(A.cmp a _).2 (Z3d (λv h' hh=>ck _ _ hh) hc)
def sA{C:bX}(hC:tP C C.fH)(rj:uT C.P C.fk){fn:Func}{c:Code}{an:An}(hf:C.P.funcs[g]?=some fn)(hb:fn.body=some c)(hn:fn.ntmps=C.n)
 (ha:∀a,Nat.ble (A.up a).length C.n=true) (hF:∀a K D,E3 C fn c an (A.up a) (λv h=>R.dn v λr=>K r h) D=F a K D) :
 ∀a K D w,Sub D w->F a K D->Calls C.P g (A.up a).toArray w (lS (λv h=>R.dn v λr=>K r h) D w):=λa K D w hs hk=>
 Zj4 (dK.of hC) rj hf hb hn (Un (ha a)) hs (by rw[hF];exact hk)
def Zj2{C:bX}(hC:tP C C.fH)(rj:uT C.P C.fk){fn:Func}{c:Code}{an:An}(hf:C.P.funcs[g]?=some fn)(hb:fn.body=some c)(hn:fn.ntmps=C.n)
 (jX:(fn.name == "runtime.NumGoroutine")=false) (ha:∀a,Nat.ble (A.up a).length C.n=true)
 (hF:∀a K D,E3 C fn c an (A.up a) (λv h=>R.dn v λr=>K r h) D=F a K D):Entry C.P g (ao A R F) false:=
 yq ⟨fn,hf,by rw[hb];rfl,jX⟩ (sA hC rj hf hb hn ha hF)
def Zaz{C:bX}(hC:tP C C.fH)(rj:uT C.P C.fk){fn:Func}{c:Code}{an:An}(hf:C.P.funcs[g]?=some fn)(hb:fn.body=some c)(hn:fn.ntmps=C.n)
 (jX:(fn.name == "runtime.NumGoroutine")=false) (ha:∀a,Nat.ble (A.up a).length C.n=true)
 (hF:∀a K D,E3 C fn c an (A.up a) (λv h=>R.dn v λr=>K r h) D=F a K D):Entry C.P g (vO A R F) true:=
 zmh ⟨fn,hf,by rw[hb];rfl,jX⟩ (sA hC rj hf hb hn ha hF)
end
end Den
end

section
namespace Den
open Go
def Ty.leaf(l:Lf):Ty l.T where
 up:=l.up
 dn:=l.dn
 snd _ _ h:=Lf.cX.1 h
 cmp x K:=⟨λh=>by
  obtain⟨y,h1,h2⟩:=Lf.cX.1 h;have:x=y:=by
   cases l with
   | int k=>injection h1
   | bool=>injection h1
   | str=>injection h1
   | ptr=>injection h1
   | val=>exact h1
   | sl=>injection h1 with h1 h3 h4;cases x;cases y;simp only at h1 h3 h4;subst h1 h3 h4;rfl
  exact this▸h2,λh=>Lf.cX.2 ⟨x,rfl,h⟩⟩
def Lf.mH{l:Lf}{x y:l.T}(h:l.up x=l.up y):x=y:=
 ((Ty.leaf l).cmp x (λz=>z=y)).1 (Lf.cX.2 ⟨y,h,rfl⟩)
def LT.mH:∀{ls:List Lf} {x y:LT ls},LT.up ls x=LT.up ls y->x=y
 | [],_,_,_=>rfl
 | _ :: _,x,y,h=>by
   injection h with h1 h2
   exact Prod.ext (Lf.mH h1) (LT.mH h2)
def Ty.agg{α:Type}(ls:List Lf)(f:α->LT ls)(g:LT ls->α)(h1:∀x,g (f x)=x)(h2:∀y,f (g y)=y):Ty α where
 up x:=.agg (LT.up ls (f x)).toArray
 dn v K:=match v with
  | .agg cs=>LT.dn ls cs.toList λy=>K (g y)
  | _=>False
 snd v K h:=by
  cases v<;>simp only at h<;>try exact h.elim
  obtain⟨y,h3,h4⟩:=LT.cX.1 h;exact⟨g y,by rw[h2,<-h3],h4⟩
 cmp x K:=⟨λh=>by
  obtain⟨y,h3,h4⟩:=LT.cX.1 h;rw[<-LT.mH h3,h1]at h4;exact h4,λh=>LT.cX.2 ⟨f x,rfl,by rw[h1];exact h⟩⟩
def cn.nil:cn Unit where
 up _:=[]
 dn vs K:=match vs with | []=>K () | _=>False
 snd vs K h:=by cases vs<;>simp only at h;exact⟨(),rfl,h⟩
 cmp _ _:=Iff.rfl
def cn.cons{α β:Type}(T:Ty α)(A:cn β):cn (α×β) where
 up x:=T.up x.1 :: A.up x.2
 dn vs K:=match vs with | v :: r=>T.dn v λx=>A.dn r λy=>K (x,y) | _=>False
 snd vs K h:=by
  cases vs<;>simp only at h
  obtain⟨x,rfl,h1⟩:=T.snd _ _ h;obtain⟨y,rfl,h2⟩:=A.snd _ _ h1;exact⟨(x,y),rfl,h2⟩
 cmp x K:=by
  show T.dn (T.up x.1) _↔_;rw[T.cmp,A.cmp]
def cn.fn{α:Type}(g:Nat)(A:cn α):cn α where
 up x:=.func (.func g) #[] #[] :: A.up x
 dn vs K:=match vs with
  | .func (.func g') ⟨[]⟩ ⟨[]⟩ :: r=>(match decide (g'=g)with | true=>A.dn r K | false=>False)
  | _=>False
 snd vs K h:=by
  split at h
  . split at h
    . rename_i hg;obtain⟨y,rfl,h2⟩:=A.snd _ _ h;rw[of_decide_eq_true hg];exact⟨y,rfl,h2⟩
    exact h.elim
  exact h.elim
 cmp x K:=by
  show(match decide (g=g)with | true=>A.dn (A.up x) K | false=>False)↔_;rw[decide_eq_true (rfl:g=g)];exact A.cmp x K
def Ty.Fx{α β:Type}(A:cn α)(f:β->α)(g:α->β)(h1:∀x,g (f x)=x)(h2:∀y,f (g y)=y):Ty β where
 up x:=.tuple (A.up (f x)).toArray
 dn v K:=match v with
  | .tuple vs=>A.dn vs.toList λy=>K (g y)
  | _=>False
 snd v K h:=by
  cases v<;>simp only at h<;>try exact h.elim
  obtain⟨y,h3,h4⟩:=A.snd _ _ h;exact⟨g y,by rw[h2,<-h3],h4⟩
 cmp x K:=by
  show A.dn (A.up (f x)) _↔_;rw[A.cmp,h1]
def Fy:Nat->Type
 | 0=>Unit
 | n+1=>Option Addr×Fy n
def JY:(n:Nat)->Fy n->List Value
 | 0,_=>[]
 | n+1,x=>.pointer x.1 :: JY n x.2
def C0:(n:Nat)->List Value->(Fy n->Prop)->Prop
 | 0,[],K=>K ()
 | n+1,.pointer c :: r,K=>C0 n r λx=>K (c,x)
 | _,_,_=>False
def Z8k:∀{n:Nat} {l:List Value} {K:Fy n->Prop},C0 n l K->∃x,l=JY n x/\K x
 | 0,[],K,h=>⟨(),rfl,h⟩
 | n+1,.pointer c :: r,K,h=>by
   obtain⟨x,h1,h2⟩:=Z8k (n:=n) (l:=r) h;exact⟨(c,x),by rw[h1];rfl,h2⟩
 | 0,_ :: _,_,h=>by simp[C0]at h
 | n+1,[],_,h=>by simp[C0]at h
def Z8j:∀{n:Nat} {x:Fy n} {K:Fy n->Prop},C0 n (JY n x) K↔K x
 | 0,_,_=>Iff.rfl
 | n+1,x,K=>by
   show C0 n (JY n x.2) (λy=>K (x.1,y))↔_;rw[Z8j];exact Iff.rfl
def cn.fnc{α:Type}(g n:Nat)(A:cn α):cn (Fy n×α) where
 up x:=.func (.func g) #[] (JY n x.1).toArray :: A.up x.2
 dn vs K:=match vs with
  | .func (.func g') ⟨[]⟩ cs :: r=>(match decide (g'=g)with | true=>C0 n cs.toList λc=>A.dn r λy=>K (c,y) | false=>False)
  | _=>False
 snd vs K h:=by
  split at h
  . split at h
    . rename_i hg;obtain⟨c,h1,h2⟩:=Z8k h;obtain⟨y,rfl,h3⟩:=A.snd _ _ h2;rw[of_decide_eq_true hg];exact⟨(c,y),by rw[<-h1],h3⟩
    exact h.elim
  exact h.elim
 cmp x K:=by
  show(match decide (g=g)with | true=>C0 n (JY n x.1).toArray.toList (λc=>A.dn (A.up x.2) λy=>K (c,y)) | false=>False)↔_;rw[decide_eq_true (rfl:g=g)];simp only;rw[Z8j,A.cmp]
def Y13(i g1:Nat)(e1 e2:zh):zh:=λargs=>
 match args[i]? with
 | some (.func (.func g) _ _)=>bif Nat.beq g g1 then e1 args else e2 args
 | _=>e2 args
def Ty.clo(g:Nat):Ty Addr where
 up a:=.func (.func g) #[] #[.pointer (some a)]
 dn v K:=match v with
  | .func (.func g') ⟨[]⟩ ⟨[.pointer (some a)]⟩=>(match decide (g'=g)with | true=>K a | false=>False)
  | _=>False
 snd v K h:=by
  split at h
  . split at h
    . rename_i hg;rw[of_decide_eq_true hg];exact⟨_,rfl,h⟩
    exact h.elim
  exact h.elim
 cmp x K:=by
  show(match decide (g=g)with | true=>K x | false=>False)↔_;rw[decide_eq_true (rfl:g=g)]
def Ty.unit:Ty Unit where
 up _:=.tuple #[]
 dn v K:=match v with | .tuple ⟨[]⟩=>K () | _=>False
 snd v K h:=by split at h;exact⟨(),rfl,h⟩;exact h.elim
 cmp _ _:=Iff.rfl
end Den
end

section
namespace Den
open Go
def zd:Sl:=⟨none,0,0⟩
def Oj:ByteArray:=.empty
section
variable {G:(α->Hp->Prop)->Hp->Prop}{K:α->Hp->Prop}{h:Hp}
def zb(R:α->Hp->Prop)(H:∀K':α->Hp->Prop,(∀v h',h.le h'->R v h'->K' v h')->G K' h)(k:∀v h',h.le h'->R v h'->K v h'):za G K h:=
 ⟨h,Hp.emp,λv h'=>h.le h'/\R v h',h.qV,h.fZ.symm,H _ (λv h' h1 h2=>⟨h1,h2⟩),
  λv D' hq=>⟨hq.1,λ_ _=>by rw[Hp.fZ];exact k v D' hq.1 hq.2⟩⟩
def zw(v:α)(H:∀K':α->Hp->Prop,K' v h->G K' h)(k:K v h):za G K h:=
 ⟨h,Hp.emp,λv' h'=>v'=v/\h'=h,h.qV,h.fZ.symm,H _ ⟨rfl,rfl⟩,λv' D' hq=>by
  obtain⟨rfl,rfl⟩:=hq;exact⟨Hp.le_refl _,λ_ _=>by rw[Hp.fZ];exact k⟩⟩
def C1(H:G K h):kE G K h:=
 ⟨h,Hp.emp,K,h.qV,h.fZ.symm,H,λv D' hq _=>by rw[Hp.fZ];exact hq⟩
end
def Wf{S:Type}{k:S->Hp->Prop}{body:(S->Hp->Prop)->Prop}(H:body k):zy k body:=⟨k,λ_ _ h=>h,H⟩
def zj{S:Type}{k:S->Hp->Prop}{body:(S->Hp->Prop)->Prop}(J:S->Hp->Prop)(h1:∀s h,J s h->k s h)(h2:body J):zy k body:=⟨J,h1,h2⟩
def Za{S:Type}{body:S->(S->Hp->Prop)->Hp->Prop}{s0:S}{h0:Hp}(I:S->Hp->Prop)(μ:S->Nat)
 (h1:I s0 h0) (h2:∀s h,I s h->body s (λs' h'=>I s' h'/\μ s'<μ s) h):zx body s0 h0:=⟨I,λs _=>μ s,h1,h2⟩
def zk{A B:Prop}{t:Bool}(ht:t=true)(ha:A):ak t A B:=by subst ht;exact ha
def zc{A B:Prop}{t:Bool}(ht:t=false)(hb:B):ak t A B:=by subst ht;exact hb
def zg{A B p:Prop}[Decidable p](ha:p->A)(hb:¬p->B):ak (decide p) A B:=
 Zw (λh=>ha (of_decide_eq_true h)) (λh=>hb (of_decide_eq_false h))
def Zs{A B:Prop}{a b:Int}(ha:a=b->A)(hb:a≠b->B):ak (a==b) A B:=
 Zw (λh=>ha (by simpa using h)) (λh=>hb (by simpa using h))
def oB{A B:Prop}{a b:Int}(ha:a≠b->A)(hb:a=b->B):ak (a != b) A B:=
 Zw (λh=>ha (by simpa using h)) (λh=>hb (by simpa using h))
def aM{n:Int}(h:-9223372036854775808<=n/\n<=9223372036854775807):i64.wrap n=n:=by
 simp[IntKind.wrap,T7,IntKind.bits];omega
def Ol{n:Int}(h:0<=n/\n<=18446744073709551615):u64.wrap n=n:=by
 simp[IntKind.wrap,T7,IntKind.bits];omega
abbrev BS(s:ByteArray):List UInt8:=s.data.toList
def Z2q(s:ByteArray):(BS s).length=s.size:=by simp[BS]
def Z2p{s t:ByteArray}(h:BS s=BS t):s=t:=by
 cases s;cases t;simp only[BS]at h;rw[Array.toList_inj.1 h]
def zt3(s:ByteArray):s.toList=BS s:=ByteArray.toList_eq s
def Z1m{s:ByteArray}{i:Int}{K:Int->Prop}{k:Nat}{c:UInt8}{r:List UInt8}(hd:(BS s).drop k=c :: r)(hi:i=k)(H:K (c.toNat:Int)):Vq s i K:=by
 subst hi;refine⟨zO,c,?_,H⟩;have h1:(BS s)[k]?=some c:=by
  have:((BS s).drop k)[0]?=some c:=by rw[hd];rfl
  simpa using this
 have hk:k<s.size:=by
  rw[<-Z2q];rcases Jx k (BS s).length with h2 | h2
  exact h2;rw[G3 h2]at h1;cases h1
 have:((k:Int).toNat)=k:=rfl;rw[this,getElem?_pos s k hk];rw[Jp (by rw[Z2q];exact hk)]at h1;simp only[Js]at h1 |-
 rw[<-h1];rfl
def Z2o{s:ByteArray}{a b:Nat}:BS (s.extract a b)=((BS s).drop a).take (b-a):=by
 simp[BS,ByteArray.data_extract,Array.toList_extract,List.extract_eq_take_drop]
def zmt{s:ByteArray}{lo hi:Int}{K:ByteArray->Prop}(a b:Nat)(ha:lo=a)(hb:hi=b)(tI:a<=b)(hs:b<=s.size)(H:∀t,BS t=((BS s).drop a).take (b-a)->K t):Yl s lo hi K:=by
 subst ha hb;exact⟨zO,zO,zO,H _ Z2o⟩
def qo(a:Addr):a.add 0=a:=by cases a;rfl
def Vw(a:Addr)(i j:Nat):(a.add i).add j=a.add (i+j):=by
 unfold Addr.add;by_cases hi:i=0;subst hi;simp
 . by_cases hj:j=0;subst hj;simp[hi]
   . have:i+j≠0:=zO;simp[hi,hj,Nat.add_assoc]
def Qf(a:Addr)(i:Nat):(a.add i).block=a.block:=by unfold Addr.add;split<;>rfl
def tQ(a:Addr)(i:Nat):(a.add i).off=a.off+i:=by
 unfold Addr.add;split;rename_i h;subst h;rfl;rfl
def Fz{a:Addr}(hs:a.spot=none)(i:Nat):(a.add i).spot=none:=by unfold Addr.add;split<;>simp[hs]
def Rd(h:Hp)(size:Nat)(x:Sl)(cs:List Value):Prop:=x.len*size=cs.length/\Zi h x.a cs.length=some cs
def Rd.le{h h':Hp}{size:Nat}{x:Sl}{cs:List Value}(hr:Rd h size x cs)(hl:h.le h'):Rd h' size x cs:=⟨hr.1,EP hl hr.2⟩
def Rd.nil{h:Hp}{size:Nat}:Rd h size zd []:=⟨by simp[zd],rfl⟩
def JZ{h:Hp}{a:Addr}:∀{n:Nat} {l:List Value},Zp h a n=some l->l.length=n
 | 0,l,e=>by simp only[Zp,Js]at e;subst e;rfl
 | n+1,l,e=>by
   unfold Zp at e;split at e
   . rename_i l1 h1;split at e;simp only[Js]at e;subst e;simp[JZ h1];cases e
   cases e
def C2{h:Hp}{a:Addr}:∀{n:Nat} {l:List Value},Zp h a n=some l->∀i v,l[i]?=some v->h.cell (a.add i)=some v
 | 0,l,e,i,v,hi=>by simp only[Zp,Js]at e;subst e;simp at hi
 | n+1,l,e,i,v,hi=>by
   unfold Zp at e;split at e
   . rename_i l1 h1;split at e
     . rename_i u hu;simp only[Js]at e;subst e;have hl:=JZ h1;rcases Jx i n with h2 | h2
       . rw[List.getElem?_append_left zO]at hi;exact C2 h1 i v hi
       . rw[List.getElem?_append_right zO]at hi;have:i-l1.length=0:=by
          rcases Gs (i-l1.length)with h3 | h3
          exact h3;rw[G3 (by simp;omega)]at hi;cases hi
         rw[this]at hi;simp only[Tj,Js]at hi;subst hi;have:i=n:=zO;subst this;exact hu
     cases e
   cases e
def z82{h:Hp}{a:Addr}{b:qT}(hb:h a.block=some b)(hs:a.spot=none):∀{n:Nat},a.off+n<=b.cells.length->Zp h a n=some ((b.cells.drop a.off).take n)
 | 0,_=>by simp[Zp]
 | n+1,hn=>by
   unfold Zp;rw[z82 hb hs zO];have h1:h.cell (a.add n)=some (b.cells[a.off+n]'zO):=by
    unfold Hp.cell;simp only[Qf,tQ,Fz hs,hb];exact Jp zO
   simp only[h1];rw[List.take_succ_eq_append_getElem (by simp;omega)];simp
def C3{h:Hp}{size:Nat}{x:Sl}{cs:List Value}{i:Int}{K:Addr->Prop}(k:Nat)(hr:Rd h size x cs)(hi:i=k)(hk:k<x.len)(dO:0<size)
 (H:∀a,(∀j v,cs[k*size+j]?=some v->h.cell (a.add j)=some v)->K a):zi x i size K:=by
 subst hi;refine⟨zO,zO,?_⟩;have cI:0<cs.length:=by
  rw[<-hr.1];exact Nat.mul_pos zO dO
 cases ha:x.a with
 | none=>
   have:=hr.2;rw[ha]at this;simp only[Zi]at this;split at this;omega;cases this
 | some a=>
   have h2:=hr.2;rw[ha]at h2;simp only[Zi]at h2;refine H _ λj v hv=>?_
   rw[Vw];exact C2 h2 _ v hv
def Own(h0 h:Hp)(size:Nat)(x:Sl)(cs:List Value):Prop:=
 h0.le h/\x.len*size=cs.length/\x.len<=x.cap /\
 match x.a with
 | none=>x.cap=0
 | some a=>a.off=0/\a.spot=none/\h0 a.block=none/\∃b,h a.block=some b/\b.fz=(0,0)/\b.cells.length=x.cap*size/\b.cells.take cs.length=cs
def Own.nil{h0 h:Hp}{size:Nat}(hl:h0.le h):Own h0 h size zd []:=⟨hl,by simp[zd],Jd _,rfl⟩
def Own.rd{h0 h:Hp}{size:Nat}{x:Sl}{cs:List Value}(ho:Own h0 h size x cs):Rd h size x cs:=by
 obtain⟨h1,h2,h3,h4⟩:=ho;refine⟨h2,?_⟩;cases ha:x.a with
 | none=>
   rw[ha]at h4;simp only at h4;have:cs=[]:=by
    have:x.len=0:=zO;rw[this]at h2;cases cs with
    | nil=>rfl
    | cons a b=>simp at h2
   subst this;rfl
 | some a=>
   rw[ha]at h4;obtain⟨g1,g2,g3,b,g4,g5,g6,g7⟩:=h4;have hle:cs.length<=b.cells.length:=by rw[g6,<-h2];exact Jm _ h3
   simp only[Zi];rw[z82 g4 g2 zO,g1];simp[g7]
def Own.le{h0 h h':Hp}{size:Nat}{x:Sl}{cs:List Value}(ho:Own h0 h size x cs)(hl:h.le h'):Own h0 h' size x cs:=by
 obtain⟨h1,h2,h3,h4⟩:=ho;refine⟨Ja h1 hl,h2,h3,?_⟩;cases ha:x.a with
 | none=>rw[ha]at h4;exact h4
 | some a=>
   rw[ha]at h4;obtain⟨g1,g2,g3,b,g4,g5⟩:=h4;exact⟨g1,g2,g3,b,hl _ _ g4,g5⟩
def Own.base{h0 h1 h:Hp}{size:Nat}{x:Sl}{cs:List Value}(ho:Own h1 h size x cs)(hl:h0.le h1):Own h0 h size x cs:=by
 obtain⟨g0,h2,h3,h4⟩:=ho;refine⟨Ja hl g0,h2,h3,?_⟩;cases ha:x.a with
 | none=>rw[ha]at h4;exact h4
 | some a=>
   rw[ha]at h4;obtain⟨g1,g2,g3,g4⟩:=h4;refine⟨g1,g2,?_,g4⟩;cases hk:h0 a.block with
   | none=>rfl
   | some b=>rw[hl _ _ hk]at g3;cases g3
def pW{h0 h:Hp}{size bytes n:Nat}{zero new cs:List Value}{x:Sl}{K:Sl->Hp->Prop}(ho:Own h0 h size x cs)(hn:new.length=n*size)(hz:zero.length=size)
 (dt:new.all Value.leaf=true) (hb:(x.len+n)*bytes<=140737488355328) (je:x.len+n<=140737488355328)
 (H:∀y h',Own h0 h' size y (cs++new)->y.len=x.len+n->K y h'):Qg size bytes zero x n new K h:=by
 have eh:=ho.rd;obtain⟨h1,h2,h3,h4⟩:=ho;refine⟨hb,je,λdQ=>?_,λvR=>?_⟩
 . cases ha:x.a with
   | none=>
     rw[ha]at h4;simp only at h4;have lX:n=0:=zO;have gr:new=[]:=by
      cases new with
      | nil=>rfl
      | cons a b=>rw[lX]at hn;simp at hn
     subst gr lX;simp only[pS];refine H _ _ ⟨h1,?_,?_,?_⟩ rfl;simpa using h2;show x.len+0<=x.cap;omega;show x.cap=0;exact h4
   | some a=>
     rw[ha]at h4;obtain⟨g1,g2,g3,b,g4,g5,g6,g7⟩:=h4;have e1:(x.len+n)*size=cs.length+new.length:=by rw[J9,h2,hn]
     have e2:cs.length+new.length<=b.cells.length:=by rw[g6,<-e1];exact Jm _ dQ
     simp only[pS];refine⟨b,by rw[Qf];exact g4,Fz g2 _,g5,?_,dt,?_⟩;rw[tQ];omega
     . rw[Qf,tQ];refine H _ _ ⟨?_,?_,dQ,?_⟩ rfl
       . intro k bk hk;rw[Gc (λhh=>by subst hh;rw[g3]at hk;cases hk)];exact h1 k bk hk
       show(x.len+n)*size=_;rw[Jq];exact e1
       . refine⟨g1,g2,g3,_,Uy _ _ _,g5,?_,?_⟩
         . show(Zn b.cells (a.off+x.len*size) new).length=_;unfold Zn;simp only[Jq,List.length_take,List.length_drop];show _=x.cap*size;rw[<-g6,g1,h2];omega
         . show(Zn b.cells (a.off+x.len*size) new).take _=_;have mI:a.off+x.len*size=cs.length:=by rw[g1,h2];omega
           unfold Zn;rw[mI,g7,J8,Jq,List.take_append];simp only[Nat.add_sub_cancel_left];rw[Je zO,List.take_append,Je (Jd _)];simp
 . refine⟨cs,?_,λbk e c hc fJ=>?_⟩;rw[h2];exact eh.2
   . refine H _ _ ⟨Ja h1 (Hp.cH fJ),?_,hc,?_⟩ rfl;show(x.len+n)*size=_;rw[Jq,J9,h2,hn]
     . refine⟨rfl,rfl,?_,_,Uy _ _ _,rfl,?_,?_⟩
       . cases hk:h0 bk with
         | none=>rfl
         | some b=>have:=h1 _ _ hk;rw[fJ]at this;cases this
       . show(cs++new++Yi (c-(x.len+n)) zero).length=c*size;have hr:(Yi (c-(x.len+n)) zero).length=(c-(x.len+n))*size:=by
          unfold Yi;simp[hz]
         rw[Jq,Jq,hr,hn,<-h2,<-J9,<-J9];congr 1;omega
       . show(cs++new++Yi (c-(x.len+n)) zero).take _=cs++new;rw[U4 zS];exact Je (Jd _)
def Qv{h:Hp}{size n:Nat}{cells:List Value}{K:Addr->Hp->Prop}(hn:cells.length=n*size)
 (H:∀b h',h b=none->Own h h' size ⟨some ⟨b,0,none⟩,n,n⟩ cells->K ⟨b,0,none⟩ h'):Ys cells K h:=by
 intro b e hb;refine H b _ hb ⟨Hp.cH hb,hn.symm,Jd _,rfl,rfl,hb,_,Uy _ _ _,rfl,hn,Je (Jd _)⟩
def C4{n:Nat}{zero:List Value}:(Yi n zero).length=n*zero.length:=by
 unfold Yi;simp
def J'{h:Hp}{size bytes:Nat}{len cap:Int}{zero:List Value}{K:Sl->Hp->Prop}(l c:Nat)(hl:len=l)(hc:cap=c)(vS:l<=c)(hb:bytes*c<=140737488355328)(je:c<=140737488355328)(hz:zero.length=size)
 (H:∀x h',x.len=l->x.cap=c->Own h h' size x (Yi l zero)->K x h'):eW len cap bytes zero K h:=by
 subst hl hc;refine⟨zO,zO,(Int.natCast_mul bytes c)▸(Int.ofNat_le.2 hb),zO,λb e hb=>?_⟩;have e1:((c:Int).toNat)=c:=rfl;have e2:((l:Int).toNat)=l:=rfl;rw[e1,e2];refine H _ _ rfl rfl ⟨Hp.cH hb,by rw[C4,hz],vS,rfl,rfl,hb,_,Uy _ _ _,rfl,by rw[C4,hz],?_⟩;show(Yi c zero).take (Yi l zero).length=Yi l zero;have:Yi c zero=Yi l zero++Yi (c-l) zero:=by
  unfold Yi;rw[<-List.flatten_append,List.replicate_append_replicate];congr 2;omega
 rw[this,U4 (Jd _),Je (Jd _)]
def qd{cs vs:List Value}{off:Nat}(h:off+vs.length<=cs.length):(Zn cs off vs).length=cs.length:=by
 unfold Zn;simp;omega
def zc7{cs vs bs:List Value}{off:Nat}(h:off+vs.length<=cs.length)(hb:bs.take cs.length=cs):(Zn bs off vs).take cs.length=Zn cs off vs:=by
 have e:bs=cs++bs.drop cs.length:=by conv=>lhs;rw[<-List.take_append_drop cs.length bs,hb]
 have e2:Zn bs off vs=Zn cs off vs++bs.drop cs.length:=by
  rw[e];unfold Zn;rw[U4 zO,List.drop_append_of_le_length h];simp[J8]
 rw[e2,U4 (by rw[qd h];exact Jd _),Je (by rw[qd h];exact Jd _)]
def Z75{h0 h:Hp}{size:Nat}{x:Sl}{cs vs:List Value}{i:Int}{K:Hp->Prop}(k:Nat)(ho:Own h0 h size x cs)(hi:i=k)(hk:k<x.len)(hv:vs.length=size)(dO:0<size)(dt:vs.all Value.leaf=true)
 (H:∀h',Own h0 h' size x (Zn cs (k*size) vs)->K h'):zi x i size λa=>bD a vs K h:=by
 subst hi;obtain⟨h1,h2,h3,h4⟩:=ho;refine⟨zO,zO,?_⟩;cases ha:x.a with
 | none=>rw[ha]at h4;simp only at h4;omega
 | some a=>
   rw[ha]at h4;obtain⟨g1,g2,g3,b,g4,g5,g6,g7⟩:=h4;have e0:((k:Int).toNat)=k:=rfl;have e1:k*size+size<=cs.length:=by
    rw[<-h2];have:=Jm size (show k+1<=x.len by omega);rw[J9]at this;omega
   have e2:cs.length<=b.cells.length:=by rw[g6,<-h2];exact Jm _ h3
   show Yv (some a) _;simp only[Yv,e0];refine⟨b,by rw[Qf];exact g4,Fz g2 _,g5,by rw[tQ];omega,dt,?_⟩;rw[Qf,tQ,g1,Nat.zero_add];refine H _ ⟨?_,?_,h3,?_⟩
   . intro kk bk ck;rw[Gc (λhh=>by subst hh;rw[g3]at ck;cases ck)];exact h1 kk bk ck
   rw[qd zO];exact h2
   . rw[ha];refine⟨g1,g2,g3,_,Uy _ _ _,g5,?_,?_⟩
     . show(Zn b.cells (k*size) vs).length=_;rw[qd zO];exact g6
     . show(Zn b.cells (k*size) vs).take _=_;rw[qd zO];exact zc7 zO g7
def zk1{cs:List Value}{k:Nat}{v:Value}:Zn cs k [v]=cs.take k++v :: cs.drop (k+1):=by
 unfold Zn;simp
def rn{h:Hp}{x:Sl}{cs:List Value}{v:Value}{i:Int}{Ka:Addr->Prop}(k:Nat)(hr:Rd h 1 x cs)(hi:i=k)(hv:cs[k]?=some v)
 (H:∀a,h.cell a=some v->Ka a):zi x i 1 Ka:=by
 have hk:k<x.len:=by
  have h1:=hr.1;rcases Jx k cs.length with h2 | h2
  omega;rw[G3 h2]at hv;cases hv
 refine C3 k hr hi hk zD λa ha=>H a ?_
 have:=ha 0 v (by rw[Nat.mul_one];exact hv)
 rwa [qo]at this
end Den
end

section
namespace Den
open Go
open Go.ChangeShapes Go.WideShapes Go.ChangeAt Go.RowKit
def Zjy{D h':Hp}{w w':World}(hs:Sub D w)(hf:Fr D w w')(iQ:Sub h' w')(hl:D.le h'):∀k,k<w.heap.size->w'.heap[k]?=w.heap[k]?:=λk hk=>by
 cases hD:D k with
 | none=>exact hf.2.1 k hk hD
 | some b=>rw[iQ k b (hl k b hD),hs k b hD]
def Zon{w w':World}(h1:w'.os=w.os)(h2:w'.output=w.output)(h3:∀k,k<w.heap.size->w'.heap[k]?=w.heap[k]?)(may:MemPlace->Prop):w.keptBut w' may:=by
 refine⟨h1,h2,λi hi=>?_⟩;rw[h3 i hi];exact(World.keptBut_refl w may).2.2 i hi
def Zj6{w w':World}(h3:∀k,k<w.heap.size->w'.heap[k]?=w.heap[k]?){a:Addr}(ha:a.block<w.heap.size):w'.frozen? a=w.frozen? a:=by
 unfold World.frozen?;rw[h3 _ ha]
def zuy{w w':World}(h3:∀k,k<w.heap.size->w'.heap[k]?=w.heap[k]?){a:Addr}(ha:a.block<w.heap.size):w'.cell? a=w.cell? a:=by
 unfold World.cell?;rw[h3 _ ha]
section
variable {enc:TypeId × Value->H}{P:Program}
def Znu{f:Func}{s:ChangeSpec}{Z8b fresh handsOn again:Bool}{W W':World}{args:Array Value}{v:Value}{ds gs:List (DataW H)}{before pa pv:List MemPlace}
 (hW:DataW.Whole enc P f.params.toList s.vars Z8b W args.toList ds gs before)
 (oA:∀(b:Nat) (sp:Nat->Bool) (hd:Bool),DataW.TrodAll enc P W' b sp hd f.resultTypes.toList (v.resultList f.resultTypes.size) (s.fn H (ds++gs)).results [])
 (hargs:∀sp:Nat->Bool,(∀p∈before,sp p.block=true)->DataW.TrodAll enc P W' 0 sp true f.params.toList args.toList (s.fn H (ds++gs)).args pa)
 (C5:∀sp:Nat->Bool,(∀p∈before,sp p.block=true)->DataW.TrodVars enc P W' sp s.vars (s.fn H (ds++gs)).vars pv)
 (jr:before=pa++pv) (hk:W.keptBut W' (·∈before)) (hfz:∀a,a.block<W.heap.size->W'.frozen? a=W.frozen? a)
 (iS:∀(j:Nat) (t:TypeId) (r:Value),f.resultTypes[j]?=some t->(v.resultList f.resultTypes.size)[j]?=some r->Value.okWide P W' .any 0 t r) :
 s.post enc P f Z8b fresh handsOn again W args v W':=by
 have hold:∀p∈before,(λb=>decide (b<W.heap.size)) p.block=true:=λp hp=>by simpa using hW.lt p hp
 have hlt:=hW.lt;refine⟨ds,gs,before,[],pa,pv,hW,oA _ _ _,hargs _ hold,C5 _ hold,World.keptBut_mono (λp hp=>⟨hp,?_⟩) hk,λ_=>?_⟩
 . rw[jr,Ul]at hp;exact Or.inr hp
 . obtain⟨_,_,_,_,_,hz,hn⟩:=hW;refine⟨iS,_,_,([]++pa)++pv,⟨[]++pa,pv,trodAll_append (hargs _ (λ_ _=>rfl)) (oA _ _ _),C5 _ (λ_ _=>rfl),rfl,?_,?_⟩,?_⟩
   . intro b off hp;have hp':MemPlace.cell b off∈before:=by rw[jr];simpa using hp
     rw[hfz _ (hlt _ hp')];exact hz b off hp'
   . intro ha;have:=hn ha;rw[jr]at this;simpa using this
   . intro p hp _;rw[jr];simpa using hp
end
def Zxx{α:Type}{A:cn α}{F:α->(Bool->Hp->Prop)->Hp->Prop}{P:Program}{g:Nat}(hE:Entry P g (ao A (Ty.leaf .bool) F) false)(a:α)(D:Hp)(w:World)(hs:Sub D w)
 (hF:∀K:Bool->Hp->Prop,(∀h',D.le h'->K true h')->F a K D) :
 Calls P g (A.up a).toArray w λe w'=>e=.returned (.bool true)/\w'.os=w.os/\w'.output=w.output/\w.heap.size<=w'.heap.size/\∀k,k<w.heap.size->w'.heap[k]?=w.heap[k]?:=by
 refine(hE.fn.2 (A.up a) (λv h'=>v=.bool true/\D.le h') D w hs ((A.cmp a _).2 ?_)).mono ?_;exact zb (λv _=>v=true) (λK' hk=>hF _ λh' hl=>hk _ _ hl rfl) λv h' hl hv=>by subst hv;exact⟨rfl,hl⟩
 . rintro e w' ⟨v,h',rfl,⟨rfl,hl⟩,iQ,hf,hd⟩;exact⟨rfl,hf.2.2.2.1,hf.2.2.2.2.1,hf.1,Zjy hs hf iQ hl⟩
end Den
end

section
namespace Den
open Go
open Go.ChangeShapes Go.WideShapes Go.ChangeAt Go.RowKit
def hpW(w:World):Hp:=λk=>match w.heap[k]? with | some (.cells cs e fz)=>some ⟨cs.toList,e,fz⟩ | _=>none
def Y0m(w:World):Sub (hpW w) w:=λk b hk=>by
 unfold hpW at hk;split at hk
 . rename_i cs e fz h;cases hk;rw[h]
 cases hk
def zzg(w:World)(a:Addr):(hpW w).cell a=w.cell? a:=by
 unfold Hp.cell hpW World.cell?;cases hs:a.spot with
 | some x=>cases w.heap[a.block]? with
   | none=>rfl
   | some o=>cases o<;>simp
 | none=>cases w.heap[a.block]? with
   | none=>rfl
   | some o=>cases o<;>simp
def Zbb{w:World}{a:Addr}:∀{cs:List Value},(∀i,i<cs.length->w.cell? (a.add i)=cs[i]?)->Zp (hpW w) a cs.length=some cs:=by
 suffices H:∀(n:Nat) (cs:List Value),n<=cs.length->(∀i,i<cs.length->w.cell? (a.add i)=cs[i]?)->Zp (hpW w) a n=some (cs.take n) from λ{cs} h=>by
  rw[H cs.length cs (Jd _) h,List.take_length]
 intro n;induction n with
 | zero=>intro cs _ _;rfl
 | succ n ih=>
   intro cs hn h;unfold Zp;rw[ih cs zO h];simp only;rw[zzg,h n zO,Jp zO];simp only;rw[List.take_add_one,Jp zO];rfl
section
variable {enc:TypeId × Value->H}{P:Program}{w w':World}
def Z6y(P:Program):Bool:=(List.range P.types.size).all λt=>match P.underlying t with | some (.slice e)=>decide (0<P.cellsOf e) | _=>true
def Zky(h:Z6y P=true){t e:TypeId}(ht:t<P.types.size)(hu:P.underlying t=some (.slice e)):0<P.cellsOf e:=by
 have:=J1.1 h t (Pd.2 ht);rw[hu]at this;simpa using this
def zxw(hl:laidOutB P=true)(hm:mapsRowed P=true)(hz:Z6y P=true)(h3:∀k,k<w.heap.size->w'.heap[k]?=w.heap[k]?){sp:Nat->Bool} :
 ∀{ts:List TypeId} {vs:List Value} {ds:List (DataW H)} {ps:List MemPlace},(∀t∈ts,t<P.types.size)->(∀p∈ps,p.block<w.heap.size)->(∀p∈ps,sp p.block=true) ->
  DataW.TrodAll enc P w 0 (λ_=>true) true ts vs ds ps->DataW.TrodAll enc P w' 0 sp true ts vs ds ps
 | [],[],[],_,_,_,_,h=>h
 | t :: ts,v :: vs,d :: ds,_,ht,hp,hs,⟨p,q,⟨n,hn⟩,h2,e⟩=>by
   subst e;refine⟨p,q,⟨n,?_⟩,zxw hl hm hz h3 (λt h=>ht t (Gx _ h)) (λx hx=>hp x (Ue _ hx)) (λx hx=>hs x (Ue _ hx)) h2,rfl⟩;refine DataW.trod_stays (T:=λt=>t<P.types.size) (kids_rows hl hm) (λh h'=>Zky hz h h') (by intro hh;cases hh) (ht t zS) hn (λx hx=>?_) (λx hx=>hs x (Jv _ hx));have hb:=hp x (Jv _ hx);cases x with
   | cell b off=>exact zuy h3 (a:=⟨b,off,none⟩) hb
   | map b=>exact h3 b hb
def kU(enc:TypeId×Value->H)(P:Program)(w:World)(t:TypeId)(cs:List Value):Prop:=∃n x,DataW.trod enc P w 0 (λ_=>true) true n t cs=some x/\∀k∈x.1.weights P t,k<=reachBytes
def z9a:∀{ts:List TypeId} {ds:List (DataW H)} {i:Nat} {t:TypeId} {d:DataW H},ts[i]?=some t->ds[i]?=some d->∀k∈d.weights P t,k∈DataW.weightsEach P ts ds
 | [],_,_,_,_,h,_,_,_=>by simp at h
 | _ :: _,[],_,_,_,_,h,_,_=>by simp at h
 | t :: ts,d :: ds,0,_,_,h1,h2,k,hk=>by
   simp only[Tj,Js]at h1 h2;subst h1 h2;unfold DataW.weightsEach;exact Jv _ hk
 | t :: ts,d :: ds,i+1,_,_,h1,h2,k,hk=>by
   simp only[List.getElem?_cons_succ]at h1 h2;unfold DataW.weightsEach;exact Ue _ (z9a h1 h2 k hk)
def zgn{e:TypeId}:∀{ds:List (DataW H)} {d:DataW H},d∈ds->∀k∈d.weights P e,k∈DataW.weightsAll P e ds
 | [],_,h,_,_=>by simp at h
 | d :: ds,x,h,k,hk=>by
   unfold DataW.weightsAll;rcases Gk.1 h with rfl | h
   exact Jv _ hk;exact Ue _ (zgn h k hk)
def kU.int{t:TypeId}{k:IntKind}{cs:List Value}(ht:P.underlying t=some (.int k))(h:kU enc P w t cs):∃m:Int,cs=[.int k m]/\(Lit.int k m).wf=true:=by
 obtain⟨n,x,h,_⟩:=h;obtain⟨m,hb,_,hw⟩:=DataW.trod_int ht h;exact⟨m,hb,hw⟩
def kU.fields{t:TypeId}{fs:Array Field}{cs:List Value}(ht:P.underlying t=some (.struct fs))(h:kU enc P w t cs) :
 cs.length=P.cellsOf t/\∀(i:Nat) (f:Field),fs[i]?=some f->kU enc P w f.type ((cs.drop f.offset).take (P.cellsOf f.type)):=by
 obtain⟨n,x,h,hw⟩:=h;obtain⟨xs,m,_,e,hl,hx,hf⟩:=DataW.trod_struct ht h;subst e;simp only[DataW.weights,ht]at hw;refine⟨hl,λi f hi=>⟨m,?_⟩⟩;have h1:=hf i f hi;have h2:i<xs.length:=by rw[hx];exact(Array.getElem?_eq_some_iff.1 hi).1
 rw[Jp h2]at h1;refine⟨_,h1,λk hk=>hw k (z9a (i:=i) ?_ ?_ k hk)⟩;rw[Gr,Array.getElem?_toList,hi];rfl;rw[Gr,Jp h2];rfl
def zts{ga:List (List Value)}{k:Nat}(h:∀c∈ga,c.length=k):ga.flatten.length=ga.length*k:=by
 induction ga with
 | nil=>simp
 | cons c r ih=>rw[List.flatten_cons,Jq,ih (λx hx=>h x (by simp[hx])),h c zS,List.length_cons,J9];omega
def Zb4{ga:List (List Value)}{k:Nat}(h:∀c∈ga,c.length=k):∀{i j:Nat},j<k->ga.flatten[i*k+j]?=ga[i]?.bind λc=>c[j]?:=by
 induction ga with
 | nil=>intro i j _;simp
 | cons c r ih=>
   intro i j hj;have hc:=h c zS;cases i with
   | zero=>rw[List.flatten_cons,List.getElem?_append_left zO];simp
   | succ i=>
     rw[List.flatten_cons,List.getElem?_append_right (by rw[hc,J9];omega),hc,show(i+1)*k+j-k=i*k+j by rw[J9];omega,ih (λx hx=>h x (by simp[hx])) hj];simp
def kU.slice{t e:TypeId}{cs:List Value}(ht:P.underlying t=some (.slice e))(h:kU enc P w t cs) :
 ∃s:Sl,cs=[Lf.sl.up s]/\s.len<=s.cap/\s.len*P.bytesOf e<=reachBytes/\∃ga:List (List Value),ga.length=s.len/\(∀c∈ga,c.length=P.cellsOf e/\kU enc P w e c)/\Rd (hpW w) (P.cellsOf e) s ga.flatten:=by
 obtain⟨n,x,h,hw⟩:=h;rcases DataW.trod_slice ht h with ⟨rfl,_⟩ | ⟨a,len,cap,elems,rest,m,_,rfl,ex,_,hl,hm,hlen,yO,_,_⟩
 exact⟨⟨none,0,0⟩,rfl,Jd _,zS,[],rfl,zS,zS,rfl⟩
 . subst ex;simp only[DataW.weights,ht]at hw;have hby:len*P.bytesOf e<=reachBytes:=by
    refine Jo (Jm _ ?_) (hw _ (Ln ..));simp only[List.length_map,hlen];omega
   have each:∀i,i<len->∃c,w.cells? 0 (a.add (i*P.cellsOf e)) (P.cellsOf e)=some c/\kU enc P w e c:=λi hi=>by
    have h1:=yO i hi;rw[Jp zO,Option.bind_eq_some_iff]at h1;obtain⟨c,hc,hd⟩:=h1;exact⟨c,hc,m,_,hd,λk hk=>hw k (Gx _ (Jv _ (zgn (List.mem_map.2 ⟨_,List.getElem_mem zO,rfl⟩) k hk)))⟩
   have cr:∀k,k<=len->∃ga:List (List Value),ga.length=k/\∀i (hi:i<ga.length),w.cells? 0 (a.add (i*P.cellsOf e)) (P.cellsOf e)=some ga[i]/\kU enc P w e ga[i]:=by
    intro k;induction k with
    | zero=>intro _;exact⟨[],rfl,λi hi=>by simp at hi⟩
    | succ k ih=>
      intro hk;obtain⟨ga,h1,h2⟩:=ih zO;obtain⟨c,hc,hd⟩:=each k zO;refine⟨ga++[c],by simp[h1],λi hi=>?_⟩;by_cases mJ:i<ga.length;rw[List.getElem_append_left mJ];exact h2 i mJ
      . have:i=k:=by simp at hi;omega
        subst this;rw[List.getElem_append_right zO];simpa [h1] using ⟨hc,hd⟩
   obtain⟨ga,h1,h2⟩:=cr len (Jd _);have dO:∀c∈ga,c.length=P.cellsOf e:=λc hc=>by
    obtain⟨i,hi,rfl⟩:=List.mem_iff_getElem.1 hc;exact(World.cells?_some (h2 i hi).1).2.1
   refine⟨⟨some a,len,cap⟩,rfl,hl,hby,ga,h1,λc hc=>⟨dO c hc,?_⟩,?_,?_⟩
   . obtain⟨i,hi,rfl⟩:=List.mem_iff_getElem.1 hc;exact(h2 i hi).2
   rw[zts dO,h1]
   . refine Zbb λi hi=>?_
     rw[zts dO]at hi;have hk:0<P.cellsOf e:=by
      rcases Gs (P.cellsOf e)with h0 | h0
      rw[h0,Nat.mul_zero]at hi;omega;exact h0
     have hq:i/P.cellsOf e<ga.length:=(Nat.div_lt_iff_lt_mul hk).2 hi;have hr:i % P.cellsOf e<P.cellsOf e:=Nat.mod_lt _ hk;have aA:i=i/P.cellsOf e*P.cellsOf e+i % P.cellsOf e:=by rw[Nat.mul_comm];exact(Nat.div_add_mod _ _).symm
     have h3:=(World.cells?_some (h2 _ hq).1).2.2 _ hr;rw[Vw,<-aA]at h3;have h4:ga.flatten[i]?=ga.flatten[i/P.cellsOf e*P.cellsOf e+i % P.cellsOf e]?:=congrArg (ga.flatten[·]?) aA;rw[h3,h4,Zb4 dO hr,Jp hq];rfl
def Y0u{ts:List TypeId}{ds:List (DataW H)}{t:TypeId}{v:Value}{d:DataW H}{ps:List MemPlace}(i:Nat)(ht:ts[i]?=some t)(hd:ds[i]?=some d)(h:DataW.Trod enc P w 0 (λ_=>true) true t v d ps)
 (hw:(DataW.weightsEach P ts ds).all (·<=reachBytes)=true):kU enc P w t v.cells.toList:=by
 obtain⟨n,hn⟩:=h;exact⟨n,_,hn,λk hk=>of_decide_eq_true (J1.1 hw k (z9a ht hd k hk))⟩
end
end Den
end

section
namespace Den
open Go
abbrev zJ(a:Addr)(K:Sl->Sl->Prop)(h:Hp):Prop:=aB .sl (a.add 0) (λx=>aB .sl (a.add 1) (λy=>K x y) h) h
abbrev zK(a:Addr)(K:Sl->Sl->Sl->Sl->Prop)(h:Hp):Prop:=aB .sl (a.add 0) (λx=>aB .sl (a.add 1) (λy=>aB .sl (a.add 2) (λz=>aB .sl (a.add 3) (λw=>K x y z w) h) h) h) h
abbrev zH(a:Addr)(K:Bool->Sl->Bool->Sl->Prop)(h:Hp):Prop:=aB .bool (a.add 0) (λx=>aB .sl (a.add 1) (λy=>aB .bool (a.add 2) (λz=>aB .sl (a.add 3) (λw=>K x y z w) h) h) h) h
abbrev zY(a:Type):Type:=a->Hp->Prop
abbrev zW(p:Prop)[Decidable p](A B:Prop):Prop:=ak (decide p) A B
end Den
namespace Den
open Go
abbrev zN:Value:=.slice zd.a zd.len zd.cap
end Den
set_option maxRecDepth 10000
namespace Den
open Go
structure aE where
 neg:Bool
 ah:Sl
def Ze:Ty aE:=Ty.agg [.bool,.sl] (λx=>(x.neg,x.ah,())) (λy=>⟨y.1,y.2.1⟩) (λ_=>rfl) (λ_=>rfl)
structure aC where
 num:aE
 den:aE
def Zg:Ty aC:=Ty.agg [.bool,.sl,.bool,.sl] (λx=>(x.num.neg,x.num.ah,x.den.neg,x.den.ah,())) (λy=>⟨⟨y.1,y.2.1⟩,⟨y.2.2.1,y.2.2.2.1⟩⟩) (λ_=>rfl) (λ_=>rfl)
structure aH where
 low:aC
 high:aC
def Ya:Ty aH:=Ty.agg [.bool,.sl,.bool,.sl,.bool,.sl,.bool,.sl] (λx=>(x.low.num.neg,x.low.num.ah,x.low.den.neg,x.low.den.ah,x.high.num.neg,x.high.num.ah,x.high.den.neg,x.high.den.ah,())) (λy=>⟨⟨⟨y.1,y.2.1⟩,⟨y.2.2.1,y.2.2.2.1⟩⟩,⟨⟨y.2.2.2.2.1,y.2.2.2.2.2.1⟩,⟨y.2.2.2.2.2.2.1,y.2.2.2.2.2.2.2.1⟩⟩⟩) (λ_=>rfl) (λ_=>rfl)
namespace F
def Zb(m:Sl)(K:zY Sl)(h:Hp):=zx (S:=Sl×Unit) (λs1 k2 h1=>(zy (S:=Unit) (λs3 h2=>(ca s1.1 0 (i64.wrap ((s1.1.len:Int)-1)) 1 λc5=>(k2 (c5,()) h2))) (λk4=>(zW ((s1.1.len:Int)>0) (zi s1.1 (i64.wrap ((s1.1.len:Int)-1)) 1 λa6=>(aB (.int .u32) a6 (λx7=>(ak (x7==0) (k4 () h1) (K s1.1 h1))) h1)) (K s1.1 h1))))) (m,()) h
def Yo(n:Int)(K:zY Sl)(h:Hp):=0<=(32:Int) /\ (Ys [.int .u32 (u32.wrap (n)),.int .u32 (u32.wrap ((n:Int).fdiv (2 ^ (min (32:Int).toNat u64.bits))))] (λp1=>za (Zb ⟨some p1,2,2⟩) (λr2 h2=>(K r2 h2))) h)
def Zy(neg:Bool)(m:Sl)(K:zY aE)(h:Hp):=za (Zb m) (λr1 h1=>(ak ((r1.len:Int)==0) (K ⟨false,zd⟩ h1) (K ⟨neg,r1⟩ h1))) h
def yd(n:Int)(K:zY aE)(h:Hp):=zy (S:=Int×Unit) (λs1=>za (Yo s1.1) (λr3=>za (Zy (decide (n<0)) r3) (λr4 h3=>(K r4 h3)))) (λk2=>(zW (n<0) (k2 ((u64.wrap (0-(u64.wrap (n)))),()) h) (k2 ((u64.wrap (n)),()) h)))
def Kc(K:zY aE)(h:Hp):=za (yd 1) (λr1 h1=>(K r1 h1)) h
def zr(n:Int)(K:zY aC)(h:Hp):=za (yd n) (λr1=>za (Kc) (λr2 h2=>(K ⟨r1,r2⟩ h2))) h
def Wj(a:aE)(K:zY Int)(h:Hp):=za (Zb a.ah) (λr1 h1=>(ak ((r1.len:Int)==0) (K 0 h1) (ak a.neg (K (-1) h1) (K 1 h1)))) h
def Yr(a:aC)(K:zY Int)(h:Hp):=za (Wj a.num) (λr1 h1=>(K r1 h1)) h
def Om(a:Sl)(b:Sl)(K:zY Sl)(h:Hp):=zy (S:=Unit) (λs1=>eW (i64.wrap ((a.len:Int)+(b.len:Int))) (i64.wrap ((a.len:Int)+(b.len:Int))) 4 [.int .u32 0] (λm3=>zx (S:=Int×Unit) (λs4 k5 h3=>(zW (s4.1<(a.len:Int)) (zi a s4.1 1 λa6=>(aB (.int .u32) a6 (λx7=>(zx (S:=Int×Int×Unit) (λs8 k9 h4=>(zW (s8.2.1<(b.len:Int)) (zi b s8.2.1 1 λfM=>(aB (.int .u32) fM (λgd=>(zi m3 (i64.wrap (s4.1+s8.2.1)) 1 λFA=>(aB (.int .u32) FA (λFB=>(zi m3 (i64.wrap (s4.1+s8.2.1)) 1 λAT=>(bD AT [.int .u32 (u32.wrap ((u64.wrap (s8.1+(u64.wrap ((u64.wrap ((u64.wrap (x7))*(u64.wrap (gd))))+(u64.wrap (FB))))))))] (λh5=>(0<=(32:Int) /\ (k9 (((u64.wrap (s8.1+(u64.wrap ((u64.wrap ((u64.wrap (x7))*(u64.wrap (gd))))+(u64.wrap (FB)))))):Int).fdiv (2 ^ (min (32:Int).toNat u64.bits)),(i64.wrap (s8.2.1+1)),()) h5))) h4))) h4))) h4)) (zi m3 (i64.wrap (s4.1+(b.len:Int))) 1 λiU=>(bD iU [.int .u32 (u32.wrap (s8.1))] (λh6=>(k5 ((i64.wrap (s4.1+1)),()) h6)) h4)))) (0,0,()) h3)) h3)) (za (Zb m3) (λej h7=>(K ej h7)) h3))) (0,()))) (λk2=>(ak ((a.len:Int)==0) (K zd h) (ak ((b.len:Int)==0) (K zd h) (k2 () h))))
def ym(a:aE)(b:aE)(K:zY aE)(h:Hp):=za (Zb a.ah) (λr1=>za (Zb b.ah) (λr2=>za (Om r1 r2) (λr3=>za (Zy (!(a.neg==b.neg)) r3) (λr4 h4=>(K r4 h4))))) h
def On(x:Int)(K:zY Bool)(h:Hp):=K (x != x) h
def Oo(x:Int)(y:Int)(K:zY Int)(h:Hp):=za (On x) (λr1=>za (On y) (λr2 h2=>(ak r1 (ak r2 (K 0 h2) (K (-1) h2)) (ak r2 (K 1 h2) (zW (x<y) (K (-1) h2) (zW (x>y) (K 1 h2) (K 0 h2))))))) h
def Oq(x:Int)(K:zY Bool)(h:Hp):=K (x != x) h
def z1j(x:Int)(y:Int)(K:zY Int)(h:Hp):=za (Oq x) (λr1=>za (Oq y) (λr2 h2=>(ak r1 (ak r2 (K 0 h2) (K (-1) h2)) (ak r2 (K 1 h2) (zW (x<y) (K (-1) h2) (zW (x>y) (K 1 h2) (K 0 h2))))))) h
def Q5(a:Sl)(b:Sl)(K:zY Int)(h:Hp):=ak ((a.len:Int) != (b.len:Int)) (za (Oo (a.len:Int) (b.len:Int)) (λr1 h1=>(K r1 h1)) h) (zx (S:=Int×Unit) (λs2 k3 h2=>(zW (s2.1>=0) (zi a s2.1 1 λa4=>(aB (.int .u32) a4 (λx5=>(zi b s2.1 1 λa6=>(aB (.int .u32) a6 (λx7=>(ak (x5 != x7) (zi a s2.1 1 λa8=>(aB (.int .u32) a8 (λx9=>(zi b s2.1 1 λfM=>(aB (.int .u32) fM (λgd=>(za (z1j x9 gd) (λbZ h3=>(K bZ h3)) h2)) h2))) h2)) (k3 ((i64.wrap (s2.1-1)),()) h2))) h2))) h2)) (K 0 h2))) ((i64.wrap ((a.len:Int)-1)),()) h)
def Ot(a:aE)(b:aE)(K:zY Int)(h:Hp):=za (Wj a) (λr1=>za (Wj b) (λr2 h2=>(ak (r1 != r2) (za (Oo r1 r2) (λr3 h3=>(K r3 h3)) h2) (za (Zb a.ah) (λr4=>za (Zb b.ah) (λr5=>za (Q5 r4 r5) (λr6 h6=>(K (i64.wrap (r1*r6)) h6)))) h2)))) h
def C6(a:aC)(b:aC)(K:zY Int)(h:Hp):=za (Yr a) (λr1=>za (Yr b) (λr2 h2=>(ak (r1 != r2) (zW (r1<r2) (K (-1) h2) (K 1 h2)) (za (ym a.num b.den) (λr3=>za (ym b.num a.den) (λr4=>za (Ot r3 r4) (λr5 h5=>(K r5 h5)))) h2)))) h
def Ou(a:aE)(K:zY Bool)(h:Hp):=K ((a.ah.len:Int)==0) h
def Zd(s:Sl)(K:zY Sl)(h:Hp):=ak s.a.isNone (K zd h) (Ys [] (λp1 h1=>(iO s.a (s.len*1) (λvT=>(Qg 1 4 [.int .u32 0] ⟨some p1,0,0⟩ s.len vT (λw3 h2=>(K w3 h2)) h1)) h1)) h)
def yn(s:Sl)(K:zY Addr)(h:Hp):=Ys [.slice s.a s.len s.cap] (λp1 h1=>(K p1 h1)) h
def Xu(m:Sl)(K:zY Int)(h:Hp):=za (yn m) (λr1 h1=>(Nu (S:=(Int×Unit)×Unit) (.leaf (.int .u32)) r1 (λi2 v3 s4 k5 h2=>(0<=(32:Int) /\ (k5 ((Yw .or .u64 (u64.wrap (s4.1.1*2 ^ (min (32:Int).toNat u64.bits))) (u64.wrap (v3)),()),()) h2))) ((0,()),()) (λs6 h3=>(K s6.1.1 h3)) h1)) h
def z1m(a:Sl)(b:Int)(K:zY (Sl×Sl))(h:Hp):=eW (a.len:Int) (a.len:Int) 4 [.int .u32 0] (λm1=>zx (S:=Int×Int×Unit) (λs2 k3 h2=>(zW (s2.2.1>=0) (0<=(32:Int) /\ (zi a s2.2.1 1 λa4=>(aB (.int .u32) a4 (λx5=>(((u64.wrap (b)):Int)≠0 /\ (zi m1 s2.2.1 1 λa6=>(bD a6 [.int .u32 (u32.wrap ((u64.wrap (((Yw .or .u64 (u64.wrap (s2.1*2 ^ (min (32:Int).toNat u64.bits))) (u64.wrap (x5))):Int).tdiv (u64.wrap (b))))))] (λh3=>(((u64.wrap (b)):Int)≠0 /\ (k3 (((Yw .or .u64 (u64.wrap (s2.1*2 ^ (min (32:Int).toNat u64.bits))) (u64.wrap (x5))):Int).tmod (u64.wrap (b)),(i64.wrap (s2.2.1-1)),()) h3))) h2)))) h2))) (za (Zb m1) (λr7=>za (Yo s2.1) (λr8 h5=>(K (r7,r8) h5))) h2))) (0,(i64.wrap ((a.len:Int)-1)),())) h
def Ov(x:Int)(K:zY Int)(h:Hp):=zy (S:=Int×Int×Unit) (λs1 h1=>(zy (S:=Int×Int×Unit) (λs3 h2=>(Vq zL1 (u8.wrap (s3.1)) λc5=>(K (i64.wrap (s3.2.1+(i64.wrap (c5)))) h2))) (λk4=>(zW (s1.1>=256) (0<=(8:Int) /\ (k4 ((s1.1:Int).fdiv (2 ^ (min (8:Int).toNat u32.bits)),(i64.wrap (s1.2.1+8)),()) h1)) (k4 (s1.1,s1.2.1,()) h1))))) (λk2=>(zW (x>=65536) (0<=(16:Int) /\ (k2 ((x:Int).fdiv (2 ^ (min (16:Int).toNat u32.bits)),16,()) h)) (k2 (x,0,()) h)))
def Xj(x:Int)(K:zY Int)(h:Hp):=za (Ov x) (λr1 h1=>(K (i64.wrap (32-r1)) h1)) h
def Xy(a:Sl)(n:Int)(K:zY Sl)(h:Hp):=eW (i64.wrap ((a.len:Int)+1)) (i64.wrap ((a.len:Int)+1)) 4 [.int .u32 0] (λm1=>zx (S:=Int×Unit) (λs2 k3 h2=>(zW (s2.1<(a.len:Int)) (zi a s2.1 1 λa4=>(aB (.int .u32) a4 (λx5=>(0<=(n:Int) /\ (zi m1 s2.1 1 λa6=>(aB (.int .u32) a6 (λx7=>(zi m1 s2.1 1 λa8=>(bD a8 [.int .u32 (Yw .or .u32 x7 (u32.wrap ((u64.wrap ((u64.wrap (x5))*2 ^ (min (n:Int).toNat u64.bits))))))] (λh3=>(0<=(32:Int) /\ (zi m1 (i64.wrap (s2.1+1)) 1 λa9=>(bD a9 [.int .u32 (u32.wrap (((u64.wrap ((u64.wrap (x5))*2 ^ (min (n:Int).toNat u64.bits))):Int).fdiv (2 ^ (min (32:Int).toNat u64.bits))))] (λh4=>(k3 ((i64.wrap (s2.1+1)),()) h4)) h3)))) h2))) h2)))) h2)) (K m1 h2))) (0,())) h
def z43(u:Sl)(v:Sl)(digit:Int)(K:zY Bool)(h:Hp):=zx (S:=Int×Int×Unit) (λs1 k2 h1=>(zW (s1.2.1<(v.len:Int)) (zi v s1.2.1 1 λa3=>(aB (.int .u32) a3 (λx4=>(zi u s1.2.1 1 λa5=>(aB (.int .u32) a5 (λx6=>(zi u s1.2.1 1 λa7=>(bD a7 [.int .u32 (u32.wrap ((u64.wrap ((u64.wrap (x6))-(u64.wrap ((u32.wrap ((u64.wrap ((u64.wrap ((u64.wrap (x4))*digit))+s1.1))))))))))] (λh2=>(0<=(32:Int) /\ (0<=(63:Int) /\ (k2 ((u64.wrap ((((u64.wrap ((u64.wrap ((u64.wrap (x4))*digit))+s1.1)):Int).fdiv (2 ^ (min (32:Int).toNat u64.bits)))+(((u64.wrap ((u64.wrap (x6))-(u64.wrap ((u32.wrap ((u64.wrap ((u64.wrap ((u64.wrap (x4))*digit))+s1.1)))))))):Int).fdiv (2 ^ (min (63:Int).toNat u64.bits))))),(i64.wrap (s1.2.1+1)),()) h2)))) h1))) h1))) h1)) (zi u (v.len:Int) 1 λa8=>(aB (.int .u32) a8 (λx9=>(zi u (v.len:Int) 1 λfM=>(bD fM [.int .u32 (u32.wrap ((u64.wrap ((u64.wrap (x9))-s1.1))))] (λh3=>(0<=(63:Int) /\ (K ((((u64.wrap ((u64.wrap (x9))-s1.1)):Int).fdiv (2 ^ (min (63:Int).toNat u64.bits)))==1) h3))) h1))) h1)))) (0,0,()) h
def z5i(u:Sl)(v:Sl)(K:zY Unit)(h:Hp):=zx (S:=Int×Int×Unit) (λs1 k2 h1=>(zW (s1.2.1<(v.len:Int)) (zi v s1.2.1 1 λa3=>(aB (.int .u32) a3 (λx4=>(zi u s1.2.1 1 λa5=>(aB (.int .u32) a5 (λx6=>(zi u s1.2.1 1 λa7=>(bD a7 [.int .u32 (u32.wrap ((u64.wrap (s1.1+(u64.wrap ((u64.wrap (x6))+(u64.wrap (x4))))))))] (λh2=>(0<=(32:Int) /\ (k2 (((u64.wrap (s1.1+(u64.wrap ((u64.wrap (x6))+(u64.wrap (x4)))))):Int).fdiv (2 ^ (min (32:Int).toNat u64.bits)),(i64.wrap (s1.2.1+1)),()) h2))) h1))) h1))) h1)) (zi u (v.len:Int) 1 λa8=>(aB (.int .u32) a8 (λx9=>(zi u (v.len:Int) 1 λfM=>(bD fM [.int .u32 (u32.wrap (x9+(u32.wrap (s1.1))))] (λh3=>(K () h3)) h1))) h1)))) (0,0,()) h
def W8(a:Sl)(n:Int)(K:zY Sl)(h:Hp):=eW (a.len:Int) (a.len:Int) 4 [.int .u32 0] (λm1=>zx (S:=Int×Unit) (λs2 k3 h2=>(zW (s2.1<(a.len:Int)) (zy (S:=Unit) (λs4 h3=>(k3 ((i64.wrap (s2.1+1)),()) h3)) (λk5=>(zi a s2.1 1 λa6=>(aB (.int .u32) a6 (λx7=>(0<=(n:Int) /\ (zi m1 s2.1 1 λa8=>(bD a8 [.int .u32 ((x7:Int).fdiv (2 ^ (min (n:Int).toNat u32.bits)))] (λh4=>(zW ((i64.wrap (s2.1+1))<(a.len:Int)) (zi m1 s2.1 1 λa9=>(aB (.int .u32) a9 (λmK=>(zi a (i64.wrap (s2.1+1)) 1 λoC=>(aB (.int .u32) oC (λjY=>(0<=((i64.wrap (32-n)):Int) /\ (zi m1 s2.1 1 λdV=>(bD dV [.int .u32 (Yw .or .u32 mK (u32.wrap ((u64.wrap ((u64.wrap (jY))*2 ^ (min ((i64.wrap (32-n)):Int).toNat u64.bits))))))] (λh5=>(k5 () h5)) h4)))) h4))) h4)) (k5 () h4))) h2)))) h2)))) (K m1 h2))) (0,())) h
def Xt(a:Sl)(b:Sl)(K:zY (Sl×Sl))(h:Hp):=za (Q5 a b) (λr1 h1=>(zW (r1<0) (za (Zd a) (λr2 h2=>(K (zd,r2) h2)) h1) (zW ((a.len:Int)<=2) (za (Xu a) (λr3=>za (Xu b) (λr4 h4=>((r4:Int)≠0 /\ ((r4:Int)≠0 /\ (za (Yo (u64.wrap ((r3:Int).tdiv r4))) (λr5=>za (Yo ((r3:Int).tmod r4)) (λr6 h6=>(K (r5,r6) h6))) h4))))) h1) (ak ((b.len:Int)==1) (zi b 0 1 λa7=>(aB (.int .u32) a7 (λx8=>(za (z1m a x8) (λr9 h7=>(K (r9.1,r9.2) h7)) h1)) h1)) (zi b (i64.wrap ((b.len:Int)-1)) 1 λfM=>(aB (.int .u32) fM (λgd=>(za (Xj gd) (λbZ=>za (Xy a bZ) (λcN=>za (Xy b bZ) (λdR=>za (Zb dR) (λcA=>eW (i64.wrap ((cN.len:Int)-(cA.len:Int))) (i64.wrap ((cN.len:Int)-(cA.len:Int))) 4 [.int .u32 0] (λAU cu=>(zi cA (i64.wrap ((cA.len:Int)-1)) 1 λoD=>(aB (.int .u32) oD (λnF=>(zi cA (i64.wrap ((cA.len:Int)-2)) 1 λmL=>(aB (.int .u32) mL (λoF=>(zx (S:=Int×Unit) (λnG Kd cO=>(zW (nG.1>=0) (zi cN (i64.wrap (nG.1+(cA.len:Int))) 1 λyR=>(aB (.int .u32) yR (λvU=>(0<=(32:Int) /\ (zi cN (i64.wrap ((i64.wrap (nG.1+(cA.len:Int)))-1)) 1 λvV=>(aB (.int .u32) vV (λyS=>(((u64.wrap (nF)):Int)≠0 /\ (((u64.wrap (nF)):Int)≠0 /\ (zy (S:=Int×Unit) (λma eG=>(zy (S:=Int×Unit) (λKe gh=>(zi AU nG.1 1 λa31=>(bD a31 [.int .u32 (u32.wrap (Ke.1))] (λgi=>(Kd ((i64.wrap (nG.1-1)),()) gi)) gh))) (λk30=>(ca cN nG.1 (i64.wrap ((i64.wrap (nG.1+(cA.len:Int)))+1)) 1 λc32=>(kE (z43 c32 cA ma.1) (λAV dF=>(ak AV (ca cN nG.1 (i64.wrap ((i64.wrap (nG.1+(cA.len:Int)))+1)) 1 λc34=>(kE (z5i c34 cA) (λuW fN=>(k30 ((u64.wrap (ma.1-1)),()) fN)) dF)) (k30 (ma.1,()) dF))) eG))))) (λk28=>(zx (S:=Int×Int×Unit) (λAW k37 iV=>(zy (S:=Unit) (λs38 gX=>(zW ((u64.wrap (AW.2.1+(u64.wrap (nF))))>=4294967296) (k28 ((u64.wrap (AW.1-1)),()) gX) (k37 ((u64.wrap (AW.1-1)),(u64.wrap (AW.2.1+(u64.wrap (nF)))),()) gX))) (λk39=>(zW (AW.1>=4294967296) (k39 () iV) (0<=(32:Int) /\ (zi cN (i64.wrap ((i64.wrap (nG.1+(cA.len:Int)))-2)) 1 λa40=>(aB (.int .u32) a40 (λx41=>(zW ((u64.wrap (AW.1*(u64.wrap (oF))))>(Yw .or .u64 (u64.wrap (AW.2.1*2 ^ (min (32:Int).toNat u64.bits))) (u64.wrap (x41)))) (k39 () iV) (k28 (AW.1,()) iV))) iV))))))) ((u64.wrap (((Yw .or .u64 (u64.wrap ((u64.wrap (vU))*2 ^ (min (32:Int).toNat u64.bits))) (u64.wrap (yS))):Int).tdiv (u64.wrap (nF)))),((Yw .or .u64 (u64.wrap ((u64.wrap (vU))*2 ^ (min (32:Int).toNat u64.bits))) (u64.wrap (yS))):Int).tmod (u64.wrap (nF)),()) cO)))))) cO)))) cO)) (ca cN 0 (cA.len:Int) 1 λc42=>(za (Zb AU) (λOw=>za (Zb c42) (λFC=>za (W8 FC bZ) (λAX=>za (Zb AX) (λr46 js=>(K (Ow,r46) js))))) cO)))) ((i64.wrap ((AU.len:Int)-1)),()) cu)) cu))) cu))))))) h1)) h1)))))) h
def C7(a:aE)(b:aE)(K:zY aE)(h:Hp):=za (Zb a.ah) (λr1=>za (Zb b.ah) (λr2 h2=>(zy (S:=Sl×Sl×Unit) (λs3 h3=>(ak ((s3.2.1.len:Int)==0) (za (Zd s3.1) (λr5=>za (Zy false r5) (λr6 h5=>(K r6 h5))) h3) (za (Xu s3.1) (λr7=>za (Xu s3.2.1) (λr8=>zx (S:=Int×Int×Unit) (λs9 k10 h8=>(ak (s9.2.1 != 0) ((s9.2.1:Int)≠0 /\ (k10 (s9.2.1,(s9.1:Int).tmod s9.2.1,()) h8)) (za (Yo s9.1) (λcB=>za (Zy false cB) (λbZ aZ=>(K bZ aZ))) h8))) (r7,r8,()))) h3))) (λk4=>(zx (S:=Sl×Sl×Unit) (λim k14 bV=>(zy (S:=Unit) (λAY=>za (Xt im.1 im.2.1) (λfq cO=>(k14 (im.2.1,fq.2,()) cO))) (λk16=>(zW ((im.2.1.len:Int)>2) (k16 () bV) (zW ((im.1.len:Int)>2) (zW ((im.2.1.len:Int)>0) (k16 () bV) (k4 (im.1,im.2.1,()) bV)) (k4 (im.1,im.2.1,()) bV)))))) (r1,r2,()) h2))))) h
def Qw(a:aE)(K:zY Bool)(h:Hp):=ak (!a.neg) (ak ((a.ah.len:Int)==1) (zi a.ah 0 1 λa1=>(aB (.int .u32) a1 (λx2=>(K (x2==1) h)) h)) (K false h)) (K false h)
def FD(a:Sl)(b:Sl)(K:zY Sl)(h:Hp):=zy (S:=Sl×Sl×Unit) (λs1=>eW 0 (i64.wrap ((s1.1.len:Int)+1)) 4 [.int .u32 0] (λm3=>zx (S:=Sl×Int×Int×Unit) (λs4 k5 h3=>(zW (s4.2.2.1<(s1.1.len:Int)) (zi s1.1 s4.2.2.1 1 λa6=>(aB (.int .u32) a6 (λx7=>(zy (S:=Int×Unit) (λs8=>Qg 1 4 [.int .u32 0] s4.1 1 [.int .u32 (u32.wrap (s8.1))] (λFE h5=>(0<=(32:Int) /\ (k5 (FE,(s8.1:Int).fdiv (2 ^ (min (32:Int).toNat u64.bits)),(i64.wrap (s4.2.2.1+1)),()) h5)))) (λk9=>(zW (s4.2.2.1<(s1.2.1.len:Int)) (zi s1.2.1 s4.2.2.1 1 λoC=>(aB (.int .u32) oC (λjY=>(k9 ((u64.wrap ((u64.wrap (s4.2.1+(u64.wrap (x7))))+(u64.wrap (jY)))),()) h3)) h3)) (k9 ((u64.wrap (s4.2.1+(u64.wrap (x7)))),()) h3))))) h3)) (zW (s4.2.1>0) (Qg 1 4 [.int .u32 0] s4.1 1 [.int .u32 (u32.wrap (s4.2.1))] (λAZ h6=>(K AZ h6)) h3) (K s4.1 h3)))) (m3,0,0,()))) (λk2=>(zW ((a.len:Int)<(b.len:Int)) (k2 (b,a,()) h) (k2 (a,b,()) h)))
def FF(a:Sl)(b:Sl)(K:zY Sl)(h:Hp):=eW (a.len:Int) (a.len:Int) 4 [.int .u32 0] (λm1=>zx (S:=Int×Int×Unit) (λs2 k3 h2=>(zW (s2.2.1<(a.len:Int)) (zi a s2.2.1 1 λa4=>(aB (.int .u32) a4 (λx5=>(zy (S:=Int×Unit) (λs6 h3=>(zi m1 s2.2.1 1 λa8=>(bD a8 [.int .u32 (u32.wrap (s6.1))] (λh4=>(0<=(63:Int) /\ (k3 ((s6.1:Int).fdiv (2 ^ (min (63:Int).toNat u64.bits)),(i64.wrap (s2.2.1+1)),()) h4))) h3))) (λk7=>(zW (s2.2.1<(b.len:Int)) (zi b s2.2.1 1 λa9=>(aB (.int .u32) a9 (λmK=>(k7 ((u64.wrap ((u64.wrap ((u64.wrap (x5))-s2.1))-(u64.wrap (mK)))),()) h2)) h2)) (k7 ((u64.wrap ((u64.wrap (x5))-s2.1)),()) h2))))) h2)) (za (Zb m1) (λcB h5=>(K cB h5)) h2))) (0,0,())) h
def qp(a:aE)(b:aE)(K:zY (aE×aE×Int))(h:Hp):=za (Zb b.ah) (λr1 h1=>(ak ((r1.len:Int)==0) (K (⟨false,zd⟩,⟨false,zd⟩,6) h1) (za (Zb a.ah) (λr2=>za (Xt r2 r1) (λr3 h3=>(zy (S:=Sl×Sl×Unit) (λs4=>za (Zy (!(a.neg==b.neg)) s4.1) (λr6=>za (Zy b.neg s4.2.1) (λr7 h6=>(K (r6,r7,0) h6)))) (λk5=>(ak (!(a.neg==b.neg)) (zW ((r3.2.len:Int)>0) (Ys [.int .u32 1] (λp8=>za (FD r3.1 ⟨some p8,1,1⟩) (λr9=>za (FF r1 r3.2) (λbY h9=>(k5 (r9,bY,()) h9)))) h3) (k5 (r3.1,r3.2,()) h3)) (k5 (r3.1,r3.2,()) h3)))))) h1))) h
def Ox(a:aE)(b:aE)(K:zY aE)(h:Hp):=za (Qw b) (λr1 h1=>(ak r1 (K a h1) (za (qp a b) (λr2 h2=>(K ⟨r2.1.neg,r2.1.ah⟩ h2)) h1))) h
def Oy(a:aE)(K:zY aE)(h:Hp):=za (Zb a.ah) (λr1=>za (Zd r1) (λr2=>za (Zy (!a.neg) r2) (λr3 h3=>(K r3 h3)))) h
def Wb(num:aE)(den:aE)(K:zY aC)(h:Hp):=za (C7 num den) (λr1 h1=>(zy (S:=(Bool×Sl×Unit)×Unit) (λs2=>za (Ox num ⟨s2.1.1,s2.1.2.1⟩) (λr4=>za (Ox den ⟨s2.1.1,s2.1.2.1⟩) (λr5 h4=>(K ⟨r4,r5⟩ h4)))) (λk3=>(ak den.neg (za (Oy r1) (λr6 h5=>(k3 ((r6.neg,r6.ah,()),()) h5)) h1) (k3 ((r1.neg,r1.ah,()),()) h1))))) h
def FG(a:aC)(b:aC)(K:zY (aC×Int))(h:Hp):=za (Ou b.num) (λr1 h1=>(ak r1 (K (⟨⟨false,zd⟩,⟨false,zd⟩⟩,6) h1) (za (ym a.num b.den) (λr2=>za (ym a.den b.num) (λr3=>za (Wb r2 r3) (λr4 h4=>(K (r4,0) h4)))) h1))) h
def yl(a:aC)(b:aC)(K:zY aC)(h:Hp):=zy (S:=(Bool×Sl×Bool×Sl×Unit)×Unit) (λs1=>za (ym a.num b.num) (λr3=>za (ym a.den b.den) (λr4=>za (Wb r3 r4) (λr5 h4=>(K r5 h4))))) (λk2=>(za (Qw a.den) (λr6 h5=>(ak r6 (za (Qw b.den) (λr7 h6=>(ak r7 (za (ym a.num b.num) (λr8=>za (Kc) (λr9 h8=>(K ⟨r8,r9⟩ h8))) h6) (k2 ((false,zd,false,zd,()),()) h6))) h5) (k2 ((false,zd,false,zd,()),()) h5))) h))
def Kg(a:aE)(b:aE)(K:zY aE)(h:Hp):=za (Zb a.ah) (λr1=>za (Zb b.ah) (λr2 h2=>(ak (a.neg==b.neg) (za (FD r1 r2) (λr3=>za (Zy a.neg r3) (λr4 h4=>(K r4 h4))) h2) (za (Q5 r1 r2) (λr5 h5=>(zW (r5<0) (za (FF r2 r1) (λr6=>za (Zy b.neg r6) (λr7 h7=>(K r7 h7))) h5) (za (FF r1 r2) (λr8=>za (Zy a.neg r8) (λr9 h9=>(K r9 h9))) h5))) h2)))) h
def Y9(a:aC)(b:aC)(K:zY aC)(h:Hp):=zy (S:=(Bool×Sl×Bool×Sl×Unit)×Unit) (λs1=>za (ym a.num b.den) (λr3=>za (ym b.num a.den) (λr4=>za (Kg r3 r4) (λr5=>za (ym a.den b.den) (λr6=>za (Wb r5 r6) (λr7 h6=>(K r7 h6))))))) (λk2=>(za (Qw a.den) (λr8 h7=>(ak r8 (za (Qw b.den) (λr9 h8=>(ak r9 (za (Kg a.num b.num) (λbY=>za (Kc) (λcB aZ=>(K ⟨bY,cB⟩ aZ))) h8) (k2 ((false,zd,false,zd,()),()) h8))) h7) (k2 ((false,zd,false,zd,()),()) h7))) h))
def Oz(l:Sl)(K:zY aH)(h:Hp):=zi l 0 4 λa1=>(zH a1 (λeH eI fe ff=>(zi l 0 4 λa3=>(zH a3 (λdu dv eJ eK=>(ca l 1 (l.len:Int) 4 λc5=>(zx (S:=(Bool×Sl×Bool×Sl×Unit)×(Bool×Sl×Bool×Sl×Unit)×Int×Unit) (λs6 k7 h1=>(zW (s6.2.2.1<(c5.len:Int)) (zy (S:=(Bool×Sl×Bool×Sl×Unit)×(Bool×Sl×Bool×Sl×Unit)×Unit) (λs8 h2=>(k7 ((s8.1.1,s8.1.2.1,s8.1.2.2.1,s8.1.2.2.2.1,()),(s8.2.1.1,s8.2.1.2.1,s8.2.1.2.2.1,s8.2.1.2.2.2.1,()),(i64.wrap (s6.2.2.1+1)),()) h2)) (λk9=>(zi c5 s6.2.2.1 4 λfM=>(zH fM (λsB sC sD sE=>(zy (S:=(Bool×Sl×Bool×Sl×Unit)×Unit) (λpX=>za (C6 ⟨⟨sB,sC⟩,⟨sD,sE⟩⟩ ⟨⟨s6.2.1.1,s6.2.1.2.1⟩,⟨s6.2.1.2.2.1,s6.2.1.2.2.2.1⟩⟩) (λdR h4=>(zW (dR>0) (k9 ((pX.1.1,pX.1.2.1,pX.1.2.2.1,pX.1.2.2.2.1,()),(sB,sC,sD,sE,()),()) h4) (k9 ((pX.1.1,pX.1.2.1,pX.1.2.2.1,pX.1.2.2.2.1,()),(s6.2.1.1,s6.2.1.2.1,s6.2.1.2.2.1,s6.2.1.2.2.2.1,()),()) h4)))) (λk13=>(za (C6 ⟨⟨sB,sC⟩,⟨sD,sE⟩⟩ ⟨⟨s6.1.1,s6.1.2.1⟩,⟨s6.1.2.2.1,s6.1.2.2.2.1⟩⟩) (λcA h5=>(zW (cA<0) (k13 ((sB,sC,sD,sE,()),()) h5) (k13 ((s6.1.1,s6.1.2.1,s6.1.2.2.1,s6.1.2.2.2.1,()),()) h5))) h1)))) h1)))) (za (zr 0) (λej=>za (Y9 ⟨⟨s6.1.1,s6.1.2.1⟩,⟨s6.1.2.2.1,s6.1.2.2.2.1⟩⟩ ej) (λfq=>za (Y9 ⟨⟨s6.2.1.1,s6.2.1.2.1⟩,⟨s6.2.1.2.2.1,s6.2.1.2.2.2.1⟩⟩ ej) (λiM h8=>(K ⟨fq,iM⟩ h8)))) h1))) ((eH,eI,fe,ff,()),(du,dv,eJ,eK,()),0,()) h))) h))) h)
def z9o(a:aH)(b:aH)(K:zY aH)(h:Hp):=za (yl a.low b.low) (λr1=>za (yl a.low b.high) (λr2=>za (yl a.high b.low) (λr3=>za (yl a.high b.high) (λr4=>Ys [.bool r1.num.neg,.slice r1.num.ah.a r1.num.ah.len r1.num.ah.cap,.bool r1.den.neg,.slice r1.den.ah.a r1.den.ah.len r1.den.ah.cap,.bool r2.num.neg,.slice r2.num.ah.a r2.num.ah.len r2.num.ah.cap,.bool r2.den.neg,.slice r2.den.ah.a r2.den.ah.len r2.den.ah.cap,.bool r3.num.neg,.slice r3.num.ah.a r3.num.ah.len r3.num.ah.cap,.bool r3.den.neg,.slice r3.den.ah.a r3.den.ah.len r3.den.ah.cap,.bool r4.num.neg,.slice r4.num.ah.a r4.num.ah.len r4.num.ah.cap,.bool r4.den.neg,.slice r4.den.ah.a r4.den.ah.len r4.den.ah.cap] (λp5=>za (Oz ⟨some p5,4,4⟩) (λr6 h6=>(K r6 h6))))))) h
def Zz(m:Sl)(K:zY Sl)(h:Hp):=zx (S:=Sl×Unit) (λs1 k2 h1=>(zy (S:=Unit) (λs3 h2=>(ca s1.1 0 (i64.wrap ((s1.1.len:Int)-1)) 1 λc5=>(k2 (c5,()) h2))) (λk4=>(zW ((s1.1.len:Int)>0) (zi s1.1 (i64.wrap ((s1.1.len:Int)-1)) 1 λa6=>(aB (.int .u32) a6 (λx7=>(ak (x7==0) (k4 () h1) (K s1.1 h1))) h1)) (K s1.1 h1))))) (m,()) h
def Yd(neg:Bool)(m:Sl)(K:zY aE)(h:Hp):=za (Zz m) (λr1 h1=>(ak neg (K ⟨decide ((r1.len:Int)>0),r1⟩ h1) (K ⟨false,r1⟩ h1))) h
def C8(a:aE)(K:zY aE)(h:Hp):=za (Yd (!a.neg) a.ah) (λr1 h1=>(K r1 h1)) h
def zi0(a:aC)(K:zY aC)(h:Hp):=ak a.num.neg (za (C8 a.den) (λr1=>za (C8 a.num) (λr2 h2=>(K ⟨r1,r2⟩ h2))) h) (K ⟨a.den,a.num⟩ h)
def Wc(a:aE)(K:zY aE)(h:Hp):=za (Yd a.neg a.ah) (λr1 h1=>(K r1 h1)) h
def C9(a:Sl)(b:Sl)(K:zY Sl)(h:Hp):=eW (i64.wrap ((a.len:Int)+(b.len:Int))) (i64.wrap ((a.len:Int)+(b.len:Int))) 4 [.int .u32 0] (λm1=>zx (S:=Int×Unit) (λs2 k3 h2=>(zW (s2.1<(a.len:Int)) (zx (S:=Int×Int×Unit) (λs4 k5 h3=>(zW (s4.2.1<(b.len:Int)) (zi m1 (i64.wrap (s2.1+s4.2.1)) 1 λa6=>(aB (.int .u32) a6 (λx7=>(zi a s2.1 1 λa8=>(aB (.int .u32) a8 (λx9=>(zi b s4.2.1 1 λfM=>(aB (.int .u32) fM (λgd=>(zi m1 (i64.wrap (s2.1+s4.2.1)) 1 λFA=>(bD FA [.int .u32 (u32.wrap ((u64.wrap ((u64.wrap (s4.1+(u64.wrap (x7))))+(u64.wrap ((u64.wrap (x9))*(u64.wrap (gd))))))))] (λh4=>(0<=(32:Int) /\ (k5 (((u64.wrap ((u64.wrap (s4.1+(u64.wrap (x7))))+(u64.wrap ((u64.wrap (x9))*(u64.wrap (gd)))))):Int).fdiv (2 ^ (min (32:Int).toNat u64.bits)),(i64.wrap (s4.2.1+1)),()) h4))) h3))) h3))) h3))) h3)) (zi m1 (i64.wrap (s2.1+(b.len:Int))) 1 λdV=>(bD dV [.int .u32 (u32.wrap (s4.1))] (λh5=>(k3 ((i64.wrap (s2.1+1)),()) h5)) h3)))) (0,0,()) h2) (za (Zz m1) (λdR h6=>(K dR h6)) h2))) (0,())) h
def Qi(a:aE)(b:aE)(K:zY aE)(h:Hp):=za (Wc a) (λr1=>za (Wc b) (λr2=>za (C9 r1.ah r2.ah) (λr3=>za (Yd (!(r1.neg==r2.neg)) r3) (λr4 h4=>(K r4 h4))))) h
def OA(a:Sl)(b:Sl)(K:zY Sl)(h:Hp):=zy (S:=Sl×Sl×Unit) (λs1=>eW (i64.wrap ((s1.1.len:Int)+1)) (i64.wrap ((s1.1.len:Int)+1)) 4 [.int .u32 0] (λm3=>zx (S:=Int×Int×Unit) (λs4 k5 h3=>(zW (s4.2.1<(s1.1.len:Int)) (zi s1.1 s4.2.1 1 λa6=>(aB (.int .u32) a6 (λx7=>(zy (S:=Int×Unit) (λs8 h4=>(zi m3 s4.2.1 1 λfM=>(bD fM [.int .u32 (u32.wrap (s8.1))] (λh5=>(0<=(32:Int) /\ (k5 ((s8.1:Int).fdiv (2 ^ (min (32:Int).toNat u64.bits)),(i64.wrap (s4.2.1+1)),()) h5))) h4))) (λk9=>(zW (s4.2.1<(s1.2.1.len:Int)) (zi s1.2.1 s4.2.1 1 λoC=>(aB (.int .u32) oC (λjY=>(k9 ((u64.wrap ((u64.wrap (s4.1+(u64.wrap (x7))))+(u64.wrap (jY)))),()) h3)) h3)) (k9 ((u64.wrap (s4.1+(u64.wrap (x7)))),()) h3))))) h3)) (zi m3 (s1.1.len:Int) 1 λdV=>(bD dV [.int .u32 (u32.wrap (s4.1))] (λh6=>(za (Zz m3) (λdR h7=>(K dR h7)) h6)) h3)))) (0,0,()))) (λk2=>(zW ((a.len:Int)<(b.len:Int)) (k2 (b,a,()) h) (k2 (a,b,()) h)))
def Wy(a:Sl)(b:Sl)(K:zY Int)(h:Hp):=ak ((a.len:Int) != (b.len:Int)) (zW ((a.len:Int)<(b.len:Int)) (K (-1) h) (K 1 h)) (zx (S:=Int×Unit) (λs1 k2 h1=>(zW (s1.1>=0) (zi a s1.1 1 λa3=>(aB (.int .u32) a3 (λx4=>(zi b s1.1 1 λa5=>(aB (.int .u32) a5 (λx6=>(zW (x4<x6) (K (-1) h1) (zi a s1.1 1 λa7=>(aB (.int .u32) a7 (λx8=>(zi b s1.1 1 λa9=>(aB (.int .u32) a9 (λmK=>(zW (x8>mK) (K 1 h1) (k2 ((i64.wrap (s1.1-1)),()) h1))) h1))) h1)))) h1))) h1)) (K 0 h1))) ((i64.wrap ((a.len:Int)-1)),()) h)
def A0(a:Sl)(b:Sl)(K:zY Sl)(h:Hp):=eW (a.len:Int) (a.len:Int) 4 [.int .u32 0] (λm1=>zx (S:=Int×Int×Unit) (λs2 k3 h2=>(zW (s2.2.1<(a.len:Int)) (zy (S:=Int×Unit) (λs4 h3=>(zi a s2.2.1 1 λa6=>(aB (.int .u32) a6 (λx7=>(zi m1 s2.2.1 1 λa8=>(bD a8 [.int .u32 (u32.wrap ((u64.wrap ((u64.wrap ((u64.wrap ((u64.wrap (x7))+4294967296))-s4.1))-s2.1))))] (λh4=>(0<=(32:Int) /\ (k3 ((u64.wrap (1-(((u64.wrap ((u64.wrap ((u64.wrap ((u64.wrap (x7))+4294967296))-s4.1))-s2.1)):Int).fdiv (2 ^ (min (32:Int).toNat u64.bits))))),(i64.wrap (s2.2.1+1)),()) h4))) h3))) h3))) (λk5=>(zW (s2.2.1<(b.len:Int)) (zi b s2.2.1 1 λa9=>(aB (.int .u32) a9 (λmK=>(k5 ((u64.wrap (mK)),()) h2)) h2)) (k5 (0,()) h2)))) (za (Zz m1) (λcB h5=>(K cB h5)) h2))) (0,0,())) h
def Da(a:aE)(b:aE)(K:zY aE)(h:Hp):=za (Wc a) (λr1=>za (Wc b) (λr2 h2=>(ak (r1.neg==r2.neg) (za (OA r1.ah r2.ah) (λr3=>za (Yd r1.neg r3) (λr4 h4=>(K r4 h4))) h2) (za (Wy r1.ah r2.ah) (λr5 h5=>(zW (r5>=0) (za (A0 r1.ah r2.ah) (λr6=>za (Yd r1.neg r6) (λr7 h7=>(K r7 h7))) h5) (za (A0 r2.ah r1.ah) (λr8=>za (Yd r2.neg r8) (λr9 h9=>(K r9 h9))) h5))) h2)))) h
def Kh(a:aE)(b:aE)(K:zY aE)(h:Hp):=za (C8 b) (λr1=>za (Da a r1) (λr2 h2=>(K r2 h2))) h
def yT(a:aE)(K:zY Int)(h:Hp):=za (Wc a) (λr1 h1=>(ak ((r1.ah.len:Int)==0) (K 0 h1) (ak r1.neg (K (-1) h1) (K 1 h1)))) h
def zhx(a:aE)(b:aE)(K:zY Int)(h:Hp):=za (Kh a b) (λr1=>za (yT r1) (λr2 h2=>(K r2 h2))) h
def zhz(a:aC)(b:aC)(K:zY Int)(h:Hp):=za (Qi a.num b.den) (λr1=>za (Qi b.num a.den) (λr2=>za (zhx r1 r2) (λr3 h3=>(K r3 h3)))) h
def Kj(m:Sl)(K:zY Int)(h:Hp):=zx (S:=Int×Int×Unit) (λs1 k2 h1=>(zW (s1.2.1>=0) (0<=(32:Int) /\ (zi m s1.2.1 1 λa3=>(aB (.int .u32) a3 (λx4=>(k2 (Yw .or .u64 (u64.wrap (s1.1*2 ^ (min (32:Int).toNat u64.bits))) (u64.wrap (x4)),(i64.wrap (s1.2.1-1)),()) h1)) h1))) (K s1.1 h1))) (0,(i64.wrap ((m.len:Int)-1)),()) h
def A1(n:Int)(K:zY Sl)(h:Hp):=0<=(32:Int) /\ (Ys [.int .u32 (u32.wrap (n)),.int .u32 (u32.wrap ((n:Int).fdiv (2 ^ (min (32:Int).toNat u64.bits))))] (λp1=>za (Zz ⟨some p1,2,2⟩) (λr2 h2=>(K r2 h2))) h)
def zl6(a:Sl)(n:Int)(K:zY (Sl×Int))(h:Hp):=eW (a.len:Int) (a.len:Int) 4 [.int .u32 0] (λm1=>zx (S:=Int×Int×Unit) (λs2 k3 h2=>(zW (s2.2.1>=0) (0<=(32:Int) /\ (zi a s2.2.1 1 λa4=>(aB (.int .u32) a4 (λx5=>(((u64.wrap (n)):Int)≠0 /\ (zi m1 s2.2.1 1 λa6=>(bD a6 [.int .u32 (u32.wrap ((u64.wrap (((Yw .or .u64 (u64.wrap (s2.1*2 ^ (min (32:Int).toNat u64.bits))) (u64.wrap (x5))):Int).tdiv (u64.wrap (n))))))] (λh3=>(((u64.wrap (n)):Int)≠0 /\ (k3 (((Yw .or .u64 (u64.wrap (s2.1*2 ^ (min (32:Int).toNat u64.bits))) (u64.wrap (x5))):Int).tmod (u64.wrap (n)),(i64.wrap (s2.2.1-1)),()) h3))) h2)))) h2))) (za (Zz m1) (λr7 h4=>(K (r7,(u32.wrap (s2.1))) h4)) h2))) (0,(i64.wrap ((a.len:Int)-1)),())) h
def Kk(a:Sl)(K:zY Int)(h:Hp):=ak ((a.len:Int)==0) (K 0 h) (zi a (i64.wrap ((a.len:Int)-1)) 1 λa1=>(aB (.int .u32) a1 (λx2=>(zx (S:=Int×Int×Unit) (λs3 k4 h1=>(zW (s3.2.1>0) ((2:Int)≠0 /\ (k4 ((i64.wrap (s3.1+1)),(u32.wrap ((s3.2.1:Int).tdiv 2)),()) h1)) (K (i64.wrap ((i64.wrap (32*(i64.wrap ((a.len:Int)-1))))+s3.1)) h1))) (0,x2,()) h)) h))
def z8e(a:Sl)(s:Int)(K:zY Sl)(h:Hp):=eW (i64.wrap ((a.len:Int)+1)) (i64.wrap ((a.len:Int)+1)) 4 [.int .u32 0] (λm1=>zx (S:=Int×Unit) (λs2 k3 h2=>(zW (s2.1<(a.len:Int)) (zi a s2.1 1 λa4=>(aB (.int .u32) a4 (λx5=>(0<=(s:Int) /\ (zi m1 s2.1 1 λa6=>(aB (.int .u32) a6 (λx7=>(zi m1 s2.1 1 λa8=>(bD a8 [.int .u32 (Yw .or .u32 x7 (u32.wrap ((u64.wrap ((u64.wrap (x5))*2 ^ (min (s:Int).toNat u64.bits))))))] (λh3=>(0<=(32:Int) /\ (zi m1 (i64.wrap (s2.1+1)) 1 λa9=>(bD a9 [.int .u32 (u32.wrap (((u64.wrap ((u64.wrap (x5))*2 ^ (min (s:Int).toNat u64.bits))):Int).fdiv (2 ^ (min (32:Int).toNat u64.bits))))] (λh4=>(k3 ((i64.wrap (s2.1+1)),()) h4)) h3)))) h2))) h2)))) h2)) (K m1 h2))) (0,())) h
def zbw(x:Sl)(y:Sl)(K:zY (Int×Sl))(h:Hp):=zi x (y.len:Int) 1 λa1=>(aB (.int .u32) a1 (λx2=>(0<=(32:Int) /\ (zi x (i64.wrap ((y.len:Int)-1)) 1 λa3=>(aB (.int .u32) a3 (λx4=>(zi y (i64.wrap ((y.len:Int)-1)) 1 λa5=>(aB (.int .u32) a5 (λx6=>(((u64.wrap (x6)):Int)≠0 /\ (zy (S:=Int×Unit) (λs7=>Ys [.int .u32 (u32.wrap (s7.1))] (λp9=>za (C9 y ⟨some p9,1,1⟩) (λbY=>zx (S:=Int×Sl×Unit) (λeu k12 h4=>(za (Zz x) (λcN=>za (Wy cN eu.2.1) (λdR h6=>(zW (dR<0) (za (A0 eu.2.1 y) (λcA h7=>(k12 ((u64.wrap (eu.1-1)),cA,()) h7)) h6) (K ((u32.wrap (eu.1)),eu.2.1) h6)))) h4)) (s7.1,bY,())))) (λk8=>(zW ((u64.wrap (((Yw .or .u64 (u64.wrap ((u64.wrap (x2))*2 ^ (min (32:Int).toNat u64.bits))) (u64.wrap (x4))):Int).tdiv (u64.wrap (x6))))>4294967295) (k8 (4294967295,()) h) (k8 ((u64.wrap (((Yw .or .u64 (u64.wrap ((u64.wrap (x2))*2 ^ (min (32:Int).toNat u64.bits))) (u64.wrap (x4))):Int).tdiv (u64.wrap (x6)))),()) h)))))) h))) h)))) h)
def zel(a:Sl)(s:Int)(K:zY Sl)(h:Hp):=eW (a.len:Int) (a.len:Int) 4 [.int .u32 0] (λm1=>zx (S:=Int×Unit) (λs2 k3 h2=>(zW (s2.1<(a.len:Int)) (zi a s2.1 1 λa4=>(aB (.int .u32) a4 (λx5=>(zy (S:=Int×Unit) (λs6 h3=>(0<=(s:Int) /\ (zi m1 s2.1 1 λa8=>(bD a8 [.int .u32 (u32.wrap ((s6.1:Int).fdiv (2 ^ (min (s:Int).toNat u64.bits))))] (λh4=>(k3 ((i64.wrap (s2.1+1)),()) h4)) h3)))) (λk7=>(zW ((i64.wrap (s2.1+1))<(a.len:Int)) (zi a (i64.wrap (s2.1+1)) 1 λa9=>(aB (.int .u32) a9 (λmK=>(0<=(32:Int) /\ (k7 (Yw .or .u64 (u64.wrap (x5)) (u64.wrap ((u64.wrap (mK))*2 ^ (min (32:Int).toNat u64.bits))),()) h2))) h2)) (k7 ((u64.wrap (x5)),()) h2))))) h2)) (za (Zz m1) (λcB h5=>(K cB h5)) h2))) (0,())) h
def Kl(a:Sl)(b:Sl)(K:zY (Sl×Sl))(h:Hp):=za (Wy a b) (λr1 h1=>(zW (r1<0) (K (zd,a) h1) (zW ((a.len:Int)<=2) (za (Kj a) (λr2=>za (Kj b) (λr3 h3=>((r3:Int)≠0 /\ ((r3:Int)≠0 /\ (za (A1 (u64.wrap ((r2:Int).tdiv r3))) (λr4=>za (A1 ((r2:Int).tmod r3)) (λr5 h5=>(K (r4,r5) h5))) h3))))) h1) (ak ((b.len:Int)==1) (zi b 0 1 λa6=>(aB (.int .u32) a6 (λx7=>(za (zl6 a x7) (λr8=>za (A1 (u64.wrap (r8.2))) (λr9 h7=>(K (r8.1,r9) h7))) h1)) h1)) (za (Kk b) (λbY=>za (z8e a (i64.wrap ((i64.wrap (32*(b.len:Int)))-bY))) (λcB=>za (z8e b (i64.wrap ((i64.wrap (32*(b.len:Int)))-bY))) (λbZ=>za (Zz bZ) (λcN=>eW (a.len:Int) (a.len:Int) 4 [.int .u32 0] (λA2=>zx (S:=Int×Unit) (λAY k16 cO=>(zW (AY.1>=0) (ca cB AY.1 (i64.wrap ((i64.wrap (AY.1+(cN.len:Int)))+1)) 1 λFH=>(za (zbw FH cN) (λiM eG=>(zi A2 AY.1 1 λmL=>(bD mL [.int .u32 iM.1] (λgh=>(za (Zz FH) (λjG=>za (A0 jG iM.2) (λdS=>zx (S:=Int×Unit) (λsF k23 fN=>(zW (sF.1<(FH.len:Int)) (zy (S:=Unit) (λA3 iV=>(k23 ((i64.wrap (sF.1+1)),()) iV)) (λk25=>(zi FH sF.1 1 λOB=>(bD OB [.int .u32 0] (λgX=>(zW (sF.1<(dS.len:Int)) (zi dS sF.1 1 λOC=>(aB (.int .u32) OC (λx28=>(zi FH sF.1 1 λuX=>(bD uX [.int .u32 x28] (λme=>(k25 () me)) gX))) gX)) (k25 () gX))) fN)))) (k16 ((i64.wrap (AY.1-1)),()) fN))) (0,()))) gh)) eG))) cO)) (za (Zz A2) (λFI=>za (Zz cB) (λnH=>za (zel nH (i64.wrap ((i64.wrap (32*(b.len:Int)))-bY))) (λuY js=>(K (FI,uY) js)))) cO))) ((i64.wrap ((a.len:Int)-(cN.len:Int))),())))))) h1))))) h
def yU(a:aE)(b:aE)(K:zY aE)(h:Hp):=za (Zz a.ah) (λr1=>za (Zz b.ah) (λr2=>zx (S:=Sl×Sl×Unit) (λs3 k4 h3=>(zW ((s3.2.1.len:Int)>0) (za (Kl s3.1 s3.2.1) (λr5 h4=>(k4 (s3.2.1,r5.2,()) h4)) h3) (za (Yd false s3.1) (λr6 h5=>(K r6 h5)) h3))) (r1,r2,()))) h
def A4(a:aE)(K:zY Bool)(h:Hp):=ak ((a.ah.len:Int)==1) (zi a.ah 0 1 λa1=>(aB (.int .u32) a1 (λx2=>(ak (x2==1) (K (!a.neg) h) (K false h))) h)) (K false h)
def Wx(n:Int)(K:zY aE)(h:Hp):=zW (n<0) (za (A1 (u64.wrap (0-(u64.wrap (n))))) (λr1=>za (Yd true r1) (λr2 h2=>(K r2 h2))) h) (za (A1 (u64.wrap (n))) (λr3=>za (Yd false r3) (λr4 h4=>(K r4 h4))) h)
def z9s(a:aE)(b:aE)(K:zY (aE×aE×Int))(h:Hp):=za (Wc a) (λr1=>za (Wc b) (λr2 h2=>(ak ((r2.ah.len:Int)==0) (K (⟨false,zd⟩,⟨false,zd⟩,6) h2) (za (Kl r1.ah r2.ah) (λr3=>za (Yd (!(r1.neg==r2.neg)) r3.1) (λr4=>za (Qi r4 r2) (λr5=>za (Kh r1 r5) (λr6 h6=>(zy (S:=(Bool×Sl×Unit)×(Bool×Sl×Unit)×Unit) (λs7 h7=>(K (⟨s7.1.1,s7.1.2.1⟩,⟨s7.2.1.1,s7.2.1.2.1⟩,0) h7)) (λk8=>(za (yT r6) (λr9=>za (yT r2) (λbY h9=>(zW ((i64.wrap (r9*bY))<0) (za (Wx 1) (λcB=>za (Kh r4 cB) (λbZ=>za (Da r6 r2) (λcN cu=>(k8 ((bZ.neg,bZ.ah,()),(cN.neg,cN.ah,()),()) cu)))) h9) (k8 ((r4.neg,r4.ah,()),(r6.neg,r6.ah,()),()) h9)))) h6))))))) h2)))) h
def W5(a:aE)(b:aE)(K:zY aE)(h:Hp):=za (z9s a b) (λr1 h1=>(K ⟨r1.1.neg,r1.1.ah⟩ h1)) h
def zhy(a:aC)(b:aC)(K:zY aC)(h:Hp):=ak ((a.num.ah.len:Int)==0) (K b h) (ak ((b.num.ah.len:Int)==0) (K a h) (zy (S:=(Bool×Sl×Bool×Sl×Unit)×Unit) (λs1=>za (yU a.den b.den) (λr3=>za (A4 r3) (λr4 h3=>(ak r4 (za (Qi a.num b.den) (λr5=>za (Qi b.num a.den) (λr6=>za (Da r5 r6) (λr7=>za (Qi a.den b.den) (λr8 h7=>(K ⟨r7,r8⟩ h7))))) h3) (za (W5 a.den r3) (λr9=>za (W5 b.den r3) (λbY=>za (Qi a.num bY) (λcB=>za (Qi b.num r9) (λbZ=>za (Da cB bZ) (λcN=>za (yU cN r3) (λdR=>za (W5 cN dR) (λcA=>za (W5 b.den dR) (λej=>za (Qi r9 ej) (λfq gi=>(K ⟨cA,fq⟩ gi)))))))))) h3))))) (λk2=>(za (A4 a.den) (λiM dF=>(ak iM (za (A4 b.den) (λmf fN=>(ak mf (za (Da a.num b.num) (λjG iV=>(K ⟨jG,a.den⟩ iV)) fN) (k2 ((false,zd,false,zd,()),()) fN))) dF) (k2 ((false,zd,false,zd,()),()) dF))) h))))
def zi2(a:aC)(K:zY aC)(h:Hp):=za (C8 a.num) (λr1 h1=>(K ⟨r1,a.den⟩ h1)) h
def yh(n:Int)(K:zY aC)(h:Hp):=za (Wx n) (λr1=>za (Wx 1) (λr2 h2=>(K ⟨r1,r2⟩ h2))) h
def zi1(a:aC)(b:aC)(K:zY aC)(h:Hp):=zy (S:=(Bool×Sl×Bool×Sl×Unit)×Unit) (λs1 h1=>(zy (S:=(Bool×Sl×Bool×Sl×Unit)×Unit) (λs3=>za (yU a.num b.den) (λr5=>za (yU b.num a.den) (λr6=>za (W5 a.num r5) (λr7=>za (W5 b.num r6) (λr8=>za (Qi r7 r8) (λr9=>za (W5 a.den r6) (λbY=>za (W5 b.den r5) (λcB=>za (Qi bY cB) (λbZ aZ=>(K ⟨r9,bZ⟩ aZ)))))))))) (λk4=>(za (A4 a.den) (λcN bV=>(ak cN (za (A4 b.den) (λdR cu=>(ak dR (za (Qi a.num b.num) (λcA cO=>(K ⟨cA,a.den⟩ cO)) cu) (k4 ((s1.1.1,s1.1.2.1,s1.1.2.2.1,s1.1.2.2.2.1,()),()) cu))) bV) (k4 ((s1.1.1,s1.1.2.1,s1.1.2.2.1,s1.1.2.2.2.1,()),()) bV))) h1)))) (λk2=>(ak ((a.num.ah.len:Int)==0) (za (yh 0) (λej eG=>(K ej eG)) h) (ak ((b.num.ah.len:Int)==0) (za (yh 0) (λfq gh=>(K fq gh)) h) (k2 ((false,zd,false,zd,()),()) h))))
def OE(a:aC)(K:zY Int)(h:Hp):=za (yT a.num) (λr1 h1=>(K r1 h1)) h
def OF(a:aE)(b:aE)(K:zY Bool)(h:Hp):=zy (S:=Unit) (λs1=>zx (S:=Int×Unit) (λs3 k4 h2=>(zW (s3.1<(a.ah.len:Int)) (zi a.ah s3.1 1 λa5=>(aB (.int .u32) a5 (λx6=>(zi b.ah s3.1 1 λa7=>(aB (.int .u32) a7 (λx8=>(ak (x6 != x8) (K false h2) (k4 ((i64.wrap (s3.1+1)),()) h2))) h2))) h2)) (K true h2))) (0,())) (λk2=>(ak (!(a.neg==b.neg)) (K false h) (ak ((a.ah.len:Int) != (b.ah.len:Int)) (K false h) (k2 () h))))
def z6v(a:aC)(K:zY aH)(h:Hp):=Ys [.bool a.num.neg,.slice a.num.ah.a a.num.ah.len a.num.ah.cap,.bool a.den.neg,.slice a.den.ah.a a.den.ah.len a.den.ah.cap,.bool a.num.neg,.slice a.num.ah.a a.num.ah.len a.num.ah.cap,.bool a.den.neg,.slice a.den.ah.a a.den.ah.len a.den.ah.cap] (λp1=>za (Oz ⟨some p1,2,2⟩) (λr2 h2=>(K r2 h2))) h
def zgi(n:Int)(K:zY aE)(h:Hp):=(32:Int)≠0 /\ (eW (i64.wrap ((i64.wrap ((n:Int).tdiv 32))+1)) (i64.wrap ((i64.wrap ((n:Int).tdiv 32))+1)) 4 [.int .u32 0] (λm1 h1=>((32:Int)≠0 /\ ((32:Int)≠0 /\ (0<=(((n:Int).tmod 32):Int) /\ (zi m1 (i64.wrap ((n:Int).tdiv 32)) 1 λa2=>(bD a2 [.int .u32 (u32.wrap (1*2 ^ (min (((n:Int).tmod 32):Int).toNat u32.bits)))] (λh2=>(K ⟨false,m1⟩ h2)) h1)))))) h)
def z9l(a:aE)(K:zY Int)(h:Hp):=za (Zb a.ah) (λr1 h1=>(ak ((r1.len:Int)==0) (K 0 h1) (zi r1 (i64.wrap ((r1.len:Int)-1)) 1 λa2=>(aB (.int .u32) a2 (λx3=>(za (Ov x3) (λr4 h2=>(K (i64.wrap ((i64.wrap (32*(i64.wrap ((r1.len:Int)-1))))+r4)) h2)) h1)) h1)))) h
def z5j(n:Int)(K:zY Sl)(h:Hp):=(32:Int)≠0 /\ (eW (i64.wrap ((i64.wrap ((n:Int).tdiv 32))+1)) (i64.wrap ((i64.wrap ((n:Int).tdiv 32))+1)) 4 [.int .u32 0] (λm1 h1=>((32:Int)≠0 /\ ((32:Int)≠0 /\ (0<=(((n:Int).tmod 32):Int) /\ (zi m1 (i64.wrap ((n:Int).tdiv 32)) 1 λa2=>(bD a2 [.int .u32 (u32.wrap (1*2 ^ (min (((n:Int).tmod 32):Int).toNat u32.bits)))] (λh2=>(K m1 h2)) h1)))))) h)
def z9m(a:Sl)(K:zY Sl)(h:Hp):=za (W8 a 1) (λr1=>za (Zb r1) (λr2 h2=>(K r2 h2))) h
def FJ(a:aE)(K:zY (aE×Int))(h:Hp):=za (Wj a) (λr1 h1=>(ak (r1==(-1)) (K (⟨false,zd⟩,7) h1) (ak (r1==0) (K (⟨false,zd⟩,0) h1) (za (z9l a) (λr2 h2=>((2:Int)≠0 /\ (za (z5j (i64.wrap ((i64.wrap ((r2:Int).tdiv 2))+1))) (λr3=>zx (S:=(Bool×Sl×Unit)×Sl×Unit) (λs4 k5 h4=>(za (Zb a.ah) (λr6=>za (Xt r6 s4.2.1) (λr7=>za (FD s4.2.1 r7.1) (λr8=>za (z9m r8) (λr9=>za (Q5 r9 s4.2.1) (λbY h9=>(zW (bY>=0) (za (Zy false s4.2.1) (λcB aZ=>(K (cB,0) aZ)) h9) (k5 ((s4.1.1,s4.1.2.1,()),r9,()) h9))))))) h4)) ((false,zd,()),r3,())) h2))) h1)))) h
def Wq(a:aC)(K:zY aC)(h:Hp):=za (Oy a.num) (λr1 h1=>(K ⟨r1,a.den⟩ h1)) h
def Km(a:aE)(K:zY aE)(h:Hp):=za (Zb a.ah) (λr1=>za (Zd r1) (λr2=>za (Zy a.neg r2) (λr3 h3=>(K r3 h3)))) h
def Qm(num:aE)(den:aE)(K:zY (aC×Int))(h:Hp):=za (Km num) (λr1=>za (Km den) (λr2=>za (Ou r2) (λr3 h3=>(ak r3 (K (⟨⟨false,zd⟩,⟨false,zd⟩⟩,6) h3) (za (Wb r1 r2) (λr4 h4=>(K (r4,0) h4)) h3))))) h
def zem(num:aE)(den:aE)(K:zY aC)(h:Hp):=za (yU num den) (λr1 h1=>(zy (S:=(Bool×Sl×Unit)×Unit) (λs2=>za (W5 num ⟨s2.1.1,s2.1.2.1⟩) (λr4=>za (W5 den ⟨s2.1.1,s2.1.2.1⟩) (λr5 h4=>(K ⟨r4,r5⟩ h4)))) (λk3=>(za (yT den) (λr6 h5=>(zW (r6<0) (za (C8 r1) (λr7 h6=>(k3 ((r7.neg,r7.ah,()),()) h6)) h5) (k3 ((r1.neg,r1.ah,()),()) h5))) h1)))) h
def Kn(num:Int)(den:Int)(K:zY aC)(h:Hp):=ak (den==0) (za (yh 0) (λr1 h1=>(K r1 h1)) h) (za (Wx num) (λr2=>za (Wx den) (λr3=>za (zem r2 r3) (λr4 h4=>(K r4 h4)))) h)
def OG(a:aE)(K:zY Bool)(h:Hp):=za (Zz a.ah) (λr1 h1=>(ak ((r1.len:Int)==(a.ah.len:Int)) (ak (!a.neg) (K true h1) (K (decide ((a.ah.len:Int)>0)) h1)) (K false h1))) h
def zbx(a:aC)(K:zY Bool)(h:Hp):=za (OG a.num) (λr1 h1=>(ak r1 (za (OG a.den) (λr2 h2=>(ak r2 (za (yT a.den) (λr3 h3=>(zW (r3>0) (za (yU a.num a.den) (λr4=>za (A4 r4) (λr5 h5=>(K r5 h5))) h3) (K false h3))) h2) (K false h2))) h1) (K false h1))) h
def zek(a:aE)(K:zY Int)(h:Hp):=za (Zz a.ah) (λr1=>za (Kk r1) (λr2 h2=>(K r2 h2))) h
def OH(a:aE)(K:zY (aE×Int))(h:Hp):=za (Wc a) (λr1 h1=>(ak r1.neg (K (⟨false,zd⟩,7) h1) (za (zek r1) (λr2 h2=>((2:Int)≠0 /\ ((32:Int)≠0 /\ (eW (i64.wrap ((i64.wrap (((i64.wrap (((i64.wrap (r2+1)):Int).tdiv 2)):Int).tdiv 32))+1)) (i64.wrap ((i64.wrap (((i64.wrap (((i64.wrap (r2+1)):Int).tdiv 2)):Int).tdiv 32))+1)) 4 [.int .u32 0] (λm3=>zx (S:=Int×Unit) (λs4 k5 h4=>(zW (s4.1>=0) (zy (S:=Unit) (λs6 h5=>(k5 ((i64.wrap (s4.1-1)),()) h5)) (λk7=>((32:Int)≠0 /\ ((32:Int)≠0 /\ (zi m3 (i64.wrap ((s4.1:Int).tdiv 32)) 1 λa8=>(aB (.int .u32) a8 (λx9=>((32:Int)≠0 /\ (0<=(((s4.1:Int).tmod 32):Int) /\ (zi m3 (i64.wrap ((s4.1:Int).tdiv 32)) 1 λfM=>(bD fM [.int .u32 (Yw .or .u32 x9 (u32.wrap (1*2 ^ (min (((s4.1:Int).tmod 32):Int).toNat u32.bits))))] (λh6=>(za (Zz m3) (λcB=>za (Zz m3) (λbZ=>za (C9 cB bZ) (λcN=>za (Wy cN r1.ah) (λdR aZ=>(zW (dR>0) ((32:Int)≠0 /\ ((32:Int)≠0 /\ (zi m3 (i64.wrap ((s4.1:Int).tdiv 32)) 1 λiU=>(aB (.int .u32) iU (λyV=>((32:Int)≠0 /\ (0<=(((s4.1:Int).tmod 32):Int) /\ (zi m3 (i64.wrap ((s4.1:Int).tdiv 32)) 1 λoD=>(bD oD [.int .u32 (Yw .andNot .u32 yV (u32.wrap (1*2 ^ (min (((s4.1:Int).tmod 32):Int).toNat u32.bits))))] (λbV=>(k7 () bV)) aZ))))) aZ)))) (k7 () aZ)))))) h6)) h4))))) h4)))))) (za (Yd false m3) (λiM cu=>(K (iM,0) cu)) h4))) ((i64.wrap ((i64.wrap (((i64.wrap (r2+1)):Int).tdiv 2))-1)),())) h2)))) h1))) h
def z9n(a:aH)(b:aH)(K:zY aH)(h:Hp):=za (Y9 a.low b.low) (λr1=>za (Y9 a.high b.high) (λr2 h2=>(K ⟨r1,r2⟩ h2))) h
def Xo(a:aC)(b:aC)(K:zY aC)(h:Hp):=za (Wq b) (λr1=>za (Y9 a r1) (λr2 h2=>(K r2 h2))) h
def z6w(a:aH)(K:zY aC)(h:Hp):=za (Xo a.high a.low) (λr1 h1=>(K r1 h1)) h
def OJ(a:aE)(K:zY Bool)(h:Hp):=ak ((a.ah.len:Int)==0) (ak (!a.neg) (K true h) (zW ((a.ah.len:Int)>0) (zi a.ah (i64.wrap ((a.ah.len:Int)-1)) 1 λa1=>(aB (.int .u32) a1 (λx2=>(K (x2 != 0) h)) h)) (K false h))) (zW ((a.ah.len:Int)>0) (zi a.ah (i64.wrap ((a.ah.len:Int)-1)) 1 λa3=>(aB (.int .u32) a3 (λx4=>(K (x4 != 0) h)) h)) (K false h))
def OK(a:aC)(K:zY Bool)(h:Hp):=za (OJ a.num) (λr1 h1=>(ak r1 (za (OJ a.den) (λr2 h2=>(ak r2 (za (Wj a.den) (λr3 h3=>(zW (r3>0) (za (C7 a.num a.den) (λr4=>za (Qw r4) (λr5 h5=>(K r5 h5))) h3) (K false h3))) h2) (K false h2))) h1) (K false h1))) h
end F
end Den
end

section
set_option maxRecDepth 10000
namespace Den
open Go
namespace F
def Q6(b:(Option Addr))(K:zY Unit)(h:Hp):=∃n bl,b=some ⟨n,0,none⟩/\h n=some bl/\bl.elem=191/\bl.fz=(0,0)/\bl.cells.length=2 /\ ((bl.cells[0]?=some (.pointer none)/\K () (h.ins n { bl with cells:=bl.cells.set 0 (.pointer b) }))\/(bl.cells[0]?=some (.pointer b)/\K () h))
def z4u(b:(Option Addr))(c:Int)(K:zY Value)(h:Hp):=kE (Q6 b) (λr1 h1=>(Yv b λp2=>(aB (.sl) (p2.add 1) (λx3=>(Av 5 1 1 [.int .u8 0] x3 1 [.int .u8 c] (λw4 h2=>(Yv b λp5=>(bD (p5.add 1) [.slice w4.a w4.len w4.cap] (λh3=>(K (.nilIface) h3)) h2))) h1)) h1))) h
def Wu(b:(Option Addr))(K:zY ByteArray)(h:Hp):=∃n bl p,b=some ⟨n,0,none⟩/\h n=some bl/\bl.elem=191/\bl.fz=(0,0) /\ ((bl.cells=[p,.slice none 0 0]/\K Oj h) \/ (∃(g c:Nat) (l:List UInt8) (bg:qT),l≠[]/\bl.cells=[p,.slice (some ⟨g,0,none⟩) l.length c]/\l.length<=c/\h g=some bg/\bg.elem=5/\l.length<=bg.cells.length/\l.length<=140737488355328 /\ (∀(j:Nat) (x:UInt8),l[j]?=some x->bg.cells[j]?=some (.int .u8 x.toNat))/\K ⟨l.toArray⟩ (λk=>if k=g then none else h k)))
def yg(b:(Option Addr))(s:ByteArray)(K:zY (Int×Value))(h:Hp):=kE (Q6 b) (λr1 h1=>(Yv b λp2=>(aB (.sl) (p2.add 1) (λx3=>(Av 5 1 1 [.int .u8 0] x3 (s.size) (tt s) (λw5 h2=>(Yv b λp6=>(bD (p6.add 1) [.slice w5.a w5.len w5.cap] (λh3=>(K ((s.size:Int),.nilIface) h3)) h2))) h1)) h1))) h
end F
end Den
end

section
set_option maxRecDepth 10000
namespace Den
open Go
namespace F
def Zl(s:Sl)(K:zY Sl)(h:Hp):=ak s.a.isNone (K zd h) (Ys [] (λp1 h1=>(iO s.a (s.len*4) (λvT=>(Qg 4 64 [.bool false,zN,.bool false,zN] ⟨some p1,0,0⟩ s.len vT (λw3 h2=>(K w3 h2)) h1)) h1)) h)
def Yn(a:Sl)(K:zY Sl)(h:Hp):=zy (S:=Int×Unit) (λs1 h1=>(ca a 0 s1.1 4 λc3=>(za (Zl c3) (λr4 h2=>(K r4 h2)) h1))) (λk2=>(zx (S:=Int×Unit) (λs5 k6 h3=>(zy (S:=Unit) (λs7 h4=>(k6 ((i64.wrap (s5.1-1)),()) h4)) (λk8=>(zW (s5.1>0) (zi a (i64.wrap (s5.1-1)) 4 λa9=>(zH a9 (λfO fP fQ fR=>(za (Yr ⟨⟨fO,fP⟩,⟨fQ,fR⟩⟩) (λcB h5=>(ak (cB==0) (k8 () h5) (k2 (s5.1,()) h5))) h3)) h3)) (k2 (s5.1,()) h3))))) ((a.len:Int),()) h))
def V3(a:Sl)(K:zY Int)(h:Hp):=za (Yn a) (λr1 h1=>(K (i64.wrap ((r1.len:Int)-1)) h1)) h
def z99(x:Int)(y:Int)(K:zY (Int×Int))(h:Hp):=0<=(32:Int) /\ (0<=(32:Int) /\ (0<=(32:Int) /\ (0<=(32:Int) /\ (0<=(32:Int) /\ (K ((u64.wrap ((u64.wrap ((u64.wrap (((x:Int).fdiv (2 ^ (min (32:Int).toNat u64.bits)))*((y:Int).fdiv (2 ^ (min (32:Int).toNat u64.bits)))))+(((u64.wrap ((u64.wrap (((x:Int).fdiv (2 ^ (min (32:Int).toNat u64.bits)))*(Yw .and .u64 y 4294967295)))+(((u64.wrap ((Yw .and .u64 x 4294967295)*(Yw .and .u64 y 4294967295))):Int).fdiv (2 ^ (min (32:Int).toNat u64.bits))))):Int).fdiv (2 ^ (min (32:Int).toNat u64.bits)))))+(((u64.wrap ((Yw .and .u64 (u64.wrap ((u64.wrap (((x:Int).fdiv (2 ^ (min (32:Int).toNat u64.bits)))*(Yw .and .u64 y 4294967295)))+(((u64.wrap ((Yw .and .u64 x 4294967295)*(Yw .and .u64 y 4294967295))):Int).fdiv (2 ^ (min (32:Int).toNat u64.bits))))) 4294967295)+(u64.wrap ((Yw .and .u64 x 4294967295)*((y:Int).fdiv (2 ^ (min (32:Int).toNat u64.bits))))))):Int).fdiv (2 ^ (min (32:Int).toNat u64.bits))))),(u64.wrap (x*y))) h)))))
def OM(x:Int)(y:Int)(K:zY (Int×Int))(h:Hp):=za (z99 x y) (λr1 h1=>(K (r1.1,r1.2) h1)) h
def ql(x:Sl)(count:Int)(K:zY Sl)(h:Hp):=zy (S:=Unit) (λs1=>za (OM (u64.wrap ((x.len:Int))) (u64.wrap (count))) (λr3 h2=>(zy (S:=Unit) (λs4=>eW (i64.wrap (r3.2)) (i64.wrap (r3.2)) 64 [.bool false,zN,.bool false,zN] (λm6 h4=>(cpP 4 m6 x (λn7=>zx (S:=Int×Unit) (λs8 k9 h6=>(zW (s8.1<(m6.len:Int)) (ca m6 s8.1 (m6.len:Int) 4 λnI=>(ca m6 0 s8.1 4 λmg=>(cpP 4 nI mg (λtR h7=>(k9 ((i64.wrap (s8.1+(tR:Int))),()) h7)) h6))) (K m6 h6))) ((n7:Int),())) h4))) (λk5=>(zW (r3.1>0) False (zW (r3.2>9223372036854775807) False (k5 () h2))))))) (λk2=>(zW (count<0) False (k2 () h)))
def z4d(n:Int)(K:zY Sl)(h:Hp):=za (zr 0) (λr1=>Ys [.bool r1.num.neg,.slice r1.num.ah.a r1.num.ah.len r1.num.ah.cap,.bool r1.den.neg,.slice r1.den.ah.a r1.den.ah.len r1.den.ah.cap] (λp2=>za (ql ⟨some p2,1,1⟩ n) (λr3 h3=>(K r3 h3)))) h
def qj(a:Sl)(b:Sl)(K:zY (Sl×Sl))(h:Hp):=za (Yn b) (λr1=>za (Yn a) (λr2=>za (z4d (I9 0 (i64.wrap ((i64.wrap ((r2.len:Int)-(r1.len:Int)))+1)))) (λr3=>zx (S:=Int×Unit) (λs4 k5 h4=>(zW (s4.1>=0) (zi r2 (i64.wrap ((i64.wrap (s4.1+(r1.len:Int)))-1)) 4 λa6=>(zH a6 (λrp mM rq mN=>(zi r1 (i64.wrap ((r1.len:Int)-1)) 4 λa8=>(zH a8 (λvW ru vX rv=>(za (FG ⟨⟨rp,mM⟩,⟨rq,mN⟩⟩ ⟨⟨vW,ru⟩,⟨vX,rv⟩⟩) (λbY h5=>(zi r3 s4.1 4 λoC=>(bD oC [.bool bY.1.num.neg,.slice bY.1.num.ah.a bY.1.num.ah.len bY.1.num.ah.cap,.bool bY.1.den.neg,.slice bY.1.den.ah.a bY.1.den.ah.len bY.1.den.ah.cap] (λh6=>(zx (S:=Int×Unit) (λpX k13 h7=>(zW (pX.1<(r1.len:Int)) (zi r1 pX.1 4 λAT=>(zH AT (λON OO OQ OR=>(zi r2 (i64.wrap (s4.1+pX.1)) 4 λkV=>(zH kV (λOT OU OW OX=>(zi r3 s4.1 4 λyW=>(zH yW (λoH oI vY vZ=>(za (yl ⟨⟨oH,oI⟩,⟨vY,vZ⟩⟩ ⟨⟨ON,OO⟩,⟨OQ,OR⟩⟩) (λjG=>za (Xo ⟨⟨OT,OU⟩,⟨OW,OX⟩⟩ jG) (λdS h9=>(zi r2 (i64.wrap (s4.1+pX.1)) 4 λFK=>(bD FK [.bool dS.num.neg,.slice dS.num.ah.a dS.num.ah.len dS.num.ah.cap,.bool dS.den.neg,.slice dS.den.ah.a dS.den.ah.len dS.den.ah.cap] (λaZ=>(k13 ((i64.wrap (pX.1+1)),()) aZ)) h9)))) h7)) h7))) h7))) h7)) (k5 ((i64.wrap (s4.1-1)),()) h7))) (0,()) h6)) h5))) h4)) h4))) h4)) (za (Yn r3) (λjt=>za (Yn r2) (λdL cu=>(K (jt,dL) cu))) h4))) ((i64.wrap ((r2.len:Int)-(r1.len:Int))),())))) h
def V4(a:Sl)(b:Sl)(K:zY (Sl×Sl×Int))(h:Hp):=za (V3 b) (λr1 h1=>(zW (r1<0) (K (zd,zd,6) h1) (za (qj a b) (λr2 h2=>(K (r2.1,r2.2,0) h2)) h1))) h
def OY(a:Sl)(n:aC)(K:zY Sl)(h:Hp):=eW (a.len:Int) (a.len:Int) 64 [.bool false,zN,.bool false,zN] (λm1=>zx (S:=Int×Unit) (λs2 k3 h2=>(zW (s2.1<(a.len:Int)) (zi a s2.1 4 λa4=>(zH a4 (λfS gw jZ j0=>(za (yl ⟨⟨fS,gw⟩,⟨jZ,j0⟩⟩ n) (λr6 h3=>(zi m1 s2.1 4 λa7=>(bD a7 [.bool r6.num.neg,.slice r6.num.ah.a r6.num.ah.len r6.num.ah.cap,.bool r6.den.neg,.slice r6.den.ah.a r6.den.ah.len r6.den.ah.cap] (λh4=>(k3 ((i64.wrap (s2.1+1)),()) h4)) h3))) h2)) h2)) (za (Yn m1) (λr8 h5=>(K r8 h5)) h2))) (0,())) h
def Yq(a:Sl)(K:zY Sl)(h:Hp):=za (Yn a) (λr1 h1=>(ak ((r1.len:Int)==0) (K zd h1) (zi r1 (i64.wrap ((r1.len:Int)-1)) 4 λa2=>(zH a2 (λFM FN FO FP=>(za (zr 1) (λr4=>za (FG r4 ⟨⟨FM,FN⟩,⟨FO,FP⟩⟩) (λr5=>za (OY r1 ⟨⟨r5.1.num.neg,r5.1.num.ah⟩,⟨r5.1.den.neg,r5.1.den.ah⟩⟩) (λr6 h4=>(K r6 h4)))) h1)) h1)))) h
def Q7(a:Sl)(K:zY Sl)(h:Hp):=zx (S:=Sl×Int×Unit) (λs1 k2 h1=>(zW (s1.2.1<(a.len:Int)) (zy (S:=Sl×Unit) (λs3 h2=>(k2 (s3.1,(i64.wrap (s1.2.1+1)),()) h2)) (λk4=>(zi a s1.2.1 4 λa5=>(zH a5 (λdw dZ fw eQ=>(zW (s1.2.1>0) (za (zr s1.2.1) (λr7=>za (yl ⟨⟨dw,dZ⟩,⟨fw,eQ⟩⟩ r7) (λr8=>Qg 4 64 [.bool false,zN,.bool false,zN] s1.1 1 [.bool r8.num.neg,.slice r8.num.ah.a r8.num.ah.len r8.num.ah.cap,.bool r8.den.neg,.slice r8.den.ah.a r8.den.ah.len r8.den.ah.cap] (λw9 h5=>(k4 (w9,()) h5)))) h1) (k4 (s1.1,()) h1))) h1)))) (za (Yn s1.1) (λbY h6=>(K bY h6)) h1))) (zd,0,()) h
def z72(a:Sl)(b:Sl)(K:zY Sl)(h:Hp):=za (Yq a) (λr1=>za (Yq b) (λr2=>zx (S:=Sl×Sl×Unit) (λs3 k4 h3=>(zW ((s3.2.1.len:Int)>0) (za (qj s3.1 s3.2.1) (λr5=>za (Yq r5.2) (λr6 h5=>(k4 (s3.2.1,r6,()) h5))) h3) (K s3.1 h3))) (r1,r2,()))) h
def Vm(a:Sl)(K:zY Sl)(h:Hp):=za (Yq a) (λr1 h1=>(ak ((r1.len:Int)==0) (K zd h1) (za (Q7 r1) (λr2=>za (z72 r1 r2) (λr3=>za (qj r1 r3) (λr4=>za (Yq r4.1) (λr5 h5=>(K r5 h5))))) h1))) h
def V7(a:Sl)(K:zY Sl)(h:Hp):=za (Yq a) (λr1=>za (yd 1) (λr2=>zx (S:=(Bool×Sl×Unit)×Int×Unit) (λs3 k4 h3=>(zW (s3.2.1<(r1.len:Int)) (zi r1 s3.2.1 4 λa5=>(zH a5 (λdw dZ fw eQ=>(za (C7 ⟨s3.1.1,s3.1.2.1⟩ ⟨fw,eQ⟩) (λr7=>za (qp ⟨fw,eQ⟩ r7) (λr8=>za (ym ⟨s3.1.1,s3.1.2.1⟩ ⟨r8.1.neg,r8.1.ah⟩) (λr9 h6=>(k4 ((r9.neg,r9.ah,()),(i64.wrap (s3.2.1+1)),()) h6)))) h3)) h3)) (eW (r1.len:Int) (r1.len:Int) 32 [.bool false,zN] (λoJ=>zx (S:=(Bool×Sl×Unit)×Int×Unit) (λeu k12 h8=>(zW (eu.2.1<(r1.len:Int)) (zi r1 eu.2.1 4 λdV=>(zH dV (λOZ O0 O2 O3=>(za (qp ⟨s3.1.1,s3.1.2.1⟩ ⟨O2,O3⟩) (λcA=>za (ym ⟨OZ,O0⟩ ⟨cA.1.neg,cA.1.ah⟩) (λej aZ=>(zi oJ eu.2.1 2 λoD=>(bD oD [.bool ej.neg,.slice ej.ah.a ej.ah.len ej.ah.cap] (λbV=>(zi oJ eu.2.1 2 λyW=>(aB (.bool) (yW.add 0) (λoH=>(aB (.sl) (yW.add 1) (λoI=>(za (C7 ⟨eu.1.1,eu.1.2.1⟩ ⟨oH,oI⟩) (λjG cu=>(k12 ((jG.neg,jG.ah,()),(i64.wrap (eu.2.1+1)),()) cu)) bV)) bV)) bV))) aZ)))) h8)) h8)) (zx (S:=Int×Unit) (λnG Kd cO=>(zW (nG.1<(oJ.len:Int)) (zi oJ nG.1 2 λyR=>(aB (.bool) (yR.add 0) (λO4=>(aB (.sl) (yR.add 1) (λO5=>(za (qp ⟨O4,O5⟩ ⟨eu.1.1,eu.1.2.1⟩) (λiq eG=>(zi oJ nG.1 2 λOB=>(bD OB [.bool iq.1.neg,.slice iq.1.ah.a iq.1.ah.len iq.1.ah.cap] (λgh=>(Kd ((i64.wrap (nG.1+1)),()) gh)) eG))) cO)) cO)) cO)) (K oJ cO))) (0,()) h8))) ((false,zd,()),0,())) h3))) ((r2.neg,r2.ah,()),0,()))) h
def z4c(a:Sl)(K:zY aC)(h:Hp):=za (Yq a) (λr1 h1=>(zW ((r1.len:Int)<2) (za (zr 0) (λr2 h2=>(K r2 h2)) h1) (za (zr 0) (λr3 h3=>(ca r1 0 (i64.wrap ((r1.len:Int)-1)) 4 λc4=>(zx (S:=(Bool×Sl×Bool×Sl×Unit)×Int×Unit) (λs5 k6 h4=>(zW (s5.2.1<(c4.len:Int)) (zy (S:=(Bool×Sl×Bool×Sl×Unit)×Unit) (λs7 h5=>(k6 ((s7.1.1,s7.1.2.1,s7.1.2.2.1,s7.1.2.2.2.1,()),(i64.wrap (s5.2.1+1)),()) h5)) (λk8=>(zi c4 s5.2.1 4 λa9=>(zH a9 (λfO fP fQ fR=>(zy (S:=(Bool×Sl×Bool×Sl×Unit)×Unit) (λeu=>za (C6 ⟨⟨eu.1.1,eu.1.2.1⟩,⟨eu.1.2.2.1,eu.1.2.2.2.1⟩⟩ ⟨⟨s5.1.1,s5.1.2.1⟩,⟨s5.1.2.2.1,s5.1.2.2.2.1⟩⟩) (λcN h7=>(zW (cN>0) (k8 ((eu.1.1,eu.1.2.1,eu.1.2.2.1,eu.1.2.2.2.1,()),()) h7) (k8 ((s5.1.1,s5.1.2.1,s5.1.2.2.1,s5.1.2.2.2.1,()),()) h7)))) (λk12=>(za (Yr ⟨⟨fO,fP⟩,⟨fQ,fR⟩⟩) (λdR h8=>(zW (dR<0) (za (Wq ⟨⟨fO,fP⟩,⟨fQ,fR⟩⟩) (λcA h9=>(k12 ((cA.num.neg,cA.num.ah,cA.den.neg,cA.den.ah,()),()) h9)) h8) (k12 ((fO,fP,fQ,fR,()),()) h8))) h4)))) h4)))) (za (zr 1) (λej=>za (Y9 ⟨⟨s5.1.1,s5.1.2.1⟩,⟨s5.1.2.2.1,s5.1.2.2.2.1⟩⟩ ej) (λfq bV=>(K fq bV))) h4))) ((r3.num.neg,r3.num.ah,r3.den.neg,r3.den.ah,()),0,()) h3))) h1))) h
def Yy(s:Sl)(K:zY Addr)(h:Hp):=Ys [.slice s.a s.len s.cap] (λp1 h1=>(K p1 h1)) h
def z5m(a:Sl)(x:aC)(K:zY aC)(h:Hp):=za (zr 0) (λr1=>za (Yy a) (λr2 h2=>(Nu (S:=(Bool×Sl×Bool×Sl×Unit)×Unit) (.agg [.bool,.sl,.bool,.sl]) r2 (λi3 v4 s5 k6 h3=>(za (yl ⟨⟨s5.1.1,s5.1.2.1⟩,⟨s5.1.2.2.1,s5.1.2.2.2.1⟩⟩ x) (λr8=>za (Y9 r8 ⟨⟨v4.1,v4.2.1⟩,⟨v4.2.2.1,v4.2.2.2.1⟩⟩) (λr9 h6=>(k6 ((r9.num.neg,r9.num.ah,r9.den.neg,r9.den.ah,()),()) h6))) h3)) ((r1.num.neg,r1.num.ah,r1.den.neg,r1.den.ah,()),()) (λs7 h4=>(K ⟨⟨s7.1.1,s7.1.2.1⟩,⟨s7.1.2.2.1,s7.1.2.2.2.1⟩⟩ h4)) h2))) h
def FR(chain:Sl)(x:aC)(K:zY Int)(h:Hp):=zx (S:=Int×Int×Int×Unit) (λs1 k2 h1=>(zW (s1.2.2.1<(chain.len:Int)) (zy (S:=Int×Int×Unit) (λs3 h2=>(k2 (s3.1,s3.2.1,(i64.wrap (s1.2.2.1+1)),()) h2)) (λk4=>(zi chain s1.2.2.1 1 λa5=>(aB (.sl) a5 (λx6=>(za (z5m x6 x) (λr7=>za (Yr r7) (λr8 h4=>(ak (r8==0) (k4 (s1.1,s1.2.1,()) h4) (ak (s1.2.1==(i64.wrap (0-r8))) (k4 ((i64.wrap (s1.1+1)),r8,()) h4) (k4 (s1.1,r8,()) h4))))) h1)) h1)))) (K s1.1 h1))) (0,0,0,()) h
def zc8(a:Sl)(K:zY Sl)(h:Hp):=za (V3 a) (λr1 h1=>(zW (r1<1) (K zd h1) (za (Vm a) (λr2=>za (Q7 r2) (λr3=>Ys [.slice r2.a r2.len r2.cap,.slice r3.a r3.len r3.cap] (λp4=>zx (S:=Sl×Sl×Sl×Unit) (λs5 k6 h5=>(za (V4 s5.1 s5.2.1) (λr7 h6=>(zy (S:=Unit) (λs8=>za (zr (-1)) (λbY=>za (OY r7.2.1 bY) (λcB=>Qg 1 24 [zN] s5.2.2.1 1 [.slice cB.a cB.len cB.cap] (λw12 aZ=>(k6 (s5.2.1,cB,w12,()) aZ))))) (λk9=>(ak (r7.2.2 != 0) (K s5.2.2.1 h6) (ak ((r7.2.1.len:Int)==0) (K s5.2.2.1 h6) (k9 () h6)))))) h5)) (r2,r3,⟨some p4,2,2⟩,())))) h1))) h
def zff(a:Sl)(K:zY aH)(h:Hp):=za (z4c a) (λr1=>za (Wq r1) (λr2 h2=>(K ⟨r2,r1⟩ h2))) h
def FT(num:Int)(den:Int)(K:zY aC)(h:Hp):=za (yd num) (λr1=>za (yd den) (λr2=>za (Qm r1 r2) (λr3 h3=>(ak (r3.2 != 0) (za (zr 0) (λr4 h4=>(K r4 h4)) h3) (K ⟨⟨r3.1.num.neg,r3.1.num.ah⟩,⟨r3.1.den.neg,r3.1.den.ah⟩⟩ h3))))) h
def z9z(i:aH)(K:zY aC)(h:Hp):=za (Y9 i.low i.high) (λr1=>za (FT 1 2) (λr2=>za (yl r1 r2) (λr3 h3=>(K r3 h3)))) h
def Qz:Nat->Sl->aH->Int->Int->(Sl->Hp->Prop)->Hp->Prop
 | 0,_,_,_,_,_,_=>False
 | fuel+1,chain,i,low,high,K,h=>(ak ((i64.wrap (low-high))==0) (K zd h) (ak ((i64.wrap (low-high))==1) (Ys [.bool i.low.num.neg,.slice i.low.num.ah.a i.low.num.ah.len i.low.num.ah.cap,.bool i.low.den.neg,.slice i.low.den.ah.a i.low.den.ah.len i.low.den.ah.cap,.bool i.high.num.neg,.slice i.high.num.ah.a i.high.num.ah.len i.high.num.ah.cap,.bool i.high.den.neg,.slice i.high.den.ah.a i.high.den.ah.len i.high.den.ah.cap] (λp1 h1=>(K ⟨some p1,1,1⟩ h1)) h) (za (z9z i) (λr2=>za (FR chain r2) (λr3=>za ((Qz fuel) chain ⟨i.low,r2⟩ low r3) (λr4=>za ((Qz fuel) chain ⟨r2,i.high⟩ r3 high) (λr5 h5=>(iO r5.a (r5.len*8) (λvs6=>(Qg 8 128 [.bool false,zN,.bool false,zN,.bool false,zN,.bool false,zN] r4 r5.len vs6 (λw7 h6=>(K w7 h6)) h5)) h5))))) h)))
def zj6(chain:Sl)(i:aH)(low:Int)(high:Int)(K:zY Sl)(h:Hp):=∃fuel,Qz fuel chain i low high K h
def z8h(a:Sl)(K:zY Sl)(h:Hp):=za (zc8 a) (λr1 h1=>(ak ((r1.len:Int)==0) (K zd h1) (za (zff a) (λr2=>za (FR r1 r2.low) (λr3=>za (FR r1 r2.high) (λr4=>za (zj6 r1 r2 r3 r4) (λr5 h5=>(K r5 h5))))) h1))) h
end F
end Den
end
