/-
  Part 2 of the tools and contracts from which the statement is proved.
-/
import Derived.Test.YtlddjhibbccljaaGreatPartk1
import Derived.RangeFuncRecord
import Derived.RangeFuncLeaves
import Derived.Laws.Strings
import Derived.Lib.Bytealg
import Derived.ProofKit
import Derived.ChangeSlices
import Derived.ChangeStays
import Derived.ChangeArms
import Derived.OpenShut
set_option linter.unusedVariables false
open Go.IntKind
section
namespace Den
open Go
section
variable {C : Cfg}
theorem zbm{t:Nat}:∀{l:List Nat},memN t l=true↔t∈l
 | []=>by simp[memN]
 | x :: r=>by
   unfold memN
   by_cases h:t=x
   . subst h;simp
   . rw[beqF h];simp[h,zbm (l:=r)]
theorem ziz{a b:List Nat}:disjN a b=true↔∀x∈a,x∉b:=by
 unfold disjN
 rw[List.all_eq_true]
 constructor
 . intro h x hx hb
   have:=h x hx
   rw[(zbm (t:=x) (l:=b)).2 hb]at this;cases this
 . intro h x hx
   cases hm:memN x b with
   | false=>rfl
   | true=>exact absurd (zbm.1 hm) (h x hx)
theorem zmc{e:Env}{u:Up}{t:Nat}(ht:∀d,u.dst=some d->t≠d)(hr:∀d,u.dst=some d->C.rt t≠d):e.upd C.rt u t=e t:=by
 cases u with
 | none=>rfl
 | set d s=>exact Env.set_ne (ht d rfl)
 | alloc d s=>
   show(bif Nat.beq t d then s else match e t with | .ref o=>bif Nat.beq (C.rt t) d then Slot.junk else .ref o | x=>x)=e t
   rw[beqF (ht d rfl),beqF (hr d rfl)]
   cases e t<;>rfl
theorem zanm{e:Env}{u v:Up}(h1:∀d d',u.dst=some d->v.dst=some d'->d≠d')(hu:∀d off,u=.set d (.ref off)->∀d',v.dst=some d'->C.rt d≠d')
 (hv:∀d off,v=.set d (.ref off)->∀d',u.dst=some d'->C.rt d≠d')
 (ha:∀d off,u≠.alloc d (.ref off)) (hb:∀d off,v≠.alloc d (.ref off)):(e.upd C.rt u).upd C.rt v=(e.upd C.rt v).upd C.rt u:=by
 cases u with
 | none=>rfl
 | set d s=>
   cases v with
   | none=>rfl
   | set d' s'=>
     have hd:=h1 d d' rfl rfl
     funext t
     simp only[Env.upd]
     by_cases ht:t=d
     . subst ht;rw[Env.set_ne hd,Env.set_same,Env.set_same]
     . by_cases ht':t=d'
       . subst ht';rw[Env.set_same,Env.set_ne ht,Env.set_same]
       . rw[Env.set_ne ht',Env.set_ne ht,Env.set_ne ht,Env.set_ne ht']
   | alloc d' s'=>
     have hd:=h1 d d' rfl rfl
     funext t
     simp only[Env.upd]
     by_cases ht:t=d
     . subst ht
       rw[Env.set_same]
       unfold Env.alloc
       rw[beqF hd,Env.set_same]
       cases s with
       | ref o=>rw[beqF (hu t o rfl d' rfl)];rfl
       | _=>rfl
     . rw[Env.set_ne ht]
       unfold Env.alloc
       rw[Env.set_ne ht]
 | alloc d s=>
   cases v with
   | none=>rfl
   | set d' s'=>
     have hd:=h1 d d' rfl rfl
     funext t
     simp only[Env.upd]
     by_cases ht:t=d'
     . subst ht
       rw[Env.set_same]
       unfold Env.alloc
       rw[beqF (Ne.symm hd),Env.set_same]
       cases s' with
       | ref o=>rw[beqF (hv t o rfl d rfl)];rfl
       | _=>rfl
     . rw[Env.set_ne ht]
       unfold Env.alloc
       rw[Env.set_ne ht]
   | alloc d' s'=>
     have hd:=h1 d d' rfl rfl
     funext t
     simp only[Env.upd]
     unfold Env.alloc
     by_cases ht:t=d
     . subst ht
       rw[beqF hd,beqT]
       simp only[cond_true,cond_false]
       cases s with
       | ref o=>exact absurd rfl (ha t o)
       | _=>rfl
     . rw[beqF ht]
       by_cases ht':t=d'
       . subst ht'
         rw[beqT]
         simp only[cond_true,cond_false]
         cases s' with
         | ref o=>exact absurd rfl (hb t o)
         | _=>rfl
       . rw[beqF ht']
         simp only[cond_false]
         cases e t with
         | ref o=>
           simp only
           cases Nat.beq (C.rt t) d<;>cases Nat.beq (C.rt t) d'<;>rfl
         | _=>rfl
def wantE(C:Cfg)(ops:Array Oper)(o:Oper)(e:Env):Option Bool:=
 match o.guard with
 | none=>some true
 | some (j,want)=>match (ops[j]?).bind (·.dst)with
   | none=>none
   | some d=>match C.loc d,e d with
     | false,.val (.bool t)=>some (t==want)
     | false,.val (.tuple _)=>some false
     | _,_=>none
def stepT(C:Cfg)(ops:Array Oper)(o:Oper)(e:Env):PT:=λh K=>
 match wantE C ops o e with
 | some true=>dcore C o e h K
 | some false=>skipV C o.dst h K
 | none=>False
theorem zbu{ops:Array Oper}{i:Nat}{r:List Nat}{K:Env->Hp->Prop}{e:Env}{h:Hp}{o:Oper}(hi:ops[i]?=some o) :
 dops C ops K (i :: r) e h↔stepT C ops o e h λu h'=>dops C ops K r (e.upd C.rt u) h':=by
 conv=>lhs;unfold dops
 rw[hi]
 unfold stepT wantE
 simp only
 cases hg:o.guard with
 | none=>exact Iff.rfl
 | some g=>
   obtain⟨j,want⟩:=g
   simp only
   cases hd:(ops[j]?).bind (·.dst)with
   | none=>exact Iff.rfl
   | some d=>
     simp only
     cases hl:C.loc d with
     | true=>
       cases he:e d with
       | val v=>cases v<;>exact Iff.rfl
       | _=>exact Iff.rfl
     | false=>
       cases he:e d with
       | val v=>
         cases v with
         | bool t=>
           have hset:e.set d (.val (.bool t))=e:=by
            funext x;by_cases hx:x=d
            . subst hx;rw[Env.set_same,he]
            . rw[Env.set_ne hx]
           cases t<;>cases want<;>simp only[ifP]<;>rw[hset]<;>exact Iff.rfl
         | _=>exact Iff.rfl
       | _=>exact Iff.rfl
theorem zagq{ops:Array Oper}{o:Oper}{e e':Env}(H:∀d∈guardD ops o,e d=e' d):wantE C ops o e=wantE C ops o e':=by
 unfold wantE
 unfold guardD at H
 cases hg:o.guard with
 | none=>rfl
 | some g=>
   obtain⟨j,want⟩:=g
   rw[hg]at H
   simp only at H |-
   cases hd:(ops[j]?).bind (·.dst)with
   | none=>rfl
   | some d=>
     rw[hd]at H
     simp only at H |-
     rw[H d (by simp)]
theorem zagg{ops:Array Oper}{o:Oper}{e e':Env}(hmk:isMk o=false)(H:∀t∈readsO C ops o,e t=e' t):stepT C ops o e=stepT C ops o e':=by
 have h1:wantE C ops o e=wantE C ops o e':=zagq λd hd=>H d (by simp[readsO,hd])
 have h2:dcore C o e=dcore C o e':=zo4 hmk λx hx t ht=>by
  subst ht
  have hr:∀s∈readsX C (.tmp t),s∈readsO C ops o:=λs hs=>by
   unfold readsO
   exact List.mem_append_left _ (List.mem_append_left _ (List.mem_flatMap.2 ⟨_,hx,hs⟩))
  exact⟨H _ (hr _ (by simp[readsX])),H _ (hr _ (by simp[readsX]))⟩
 funext h K
 unfold stepT
 rw[h1,h2]
theorem zakd{h:Hp}(hf:h.Fin):∃w:World,Sub h w:=by
 obtain⟨n,hn⟩:=hf
 refine⟨{ (default:World)with heap:=Array.ofFn (n:=n) λi=>match h i.1 with | some b=>.cells b.cells.toArray b.elem b.fz | none=>.deferred none },λk b hk=>?_⟩
 have hkn:k<n:=by
  rcases Nat.lt_or_ge k n with h1 | h1
  . exact h1
  . rw[hn k h1]at hk;cases hk
 simp only[Array.getElem?_ofFn,hkn,dite_true,hk]
theorem zajg{e:Env}:∀{xs:List Operand} {K:List Value->Prop},opvs e xs K->∃vs,K vs/\∀K':List Value->Prop,K' vs->opvs e xs K'
 | [],K,h=>⟨[],h,λ_ h=>h⟩
 | x :: r,K,h=>by
   unfold opvs at h
   have key:∀K1:Value->Prop,opv e x K1->∃v,K1 v/\∀K2:Value->Prop,K2 v->opv e x K2:=λK1 h1=>by
    unfold opv at h1 |-
    split at h1
    . exact⟨_,h1,λ_ h=>h⟩
    . exact⟨_,h1,λ_ h=>h⟩
    . exact⟨_,h1,λ_ h=>h⟩
    . split at h1
      . exact⟨_,h1,λ_ h=>h⟩
      . exact h1.elim
   obtain⟨v,h1,h2⟩:=key _ h
   obtain⟨vs,h3,h4⟩:=zajg h1
   exact⟨v :: vs,h3,λK' hk=>by unfold opvs;exact h2 _ (h4 _ hk)⟩
theorem zalt(hC:TabOK C C.tab){o:Oper}{e:Env}(hc:clsO C o=.call){h:Hp}{K:Up->Hp->Prop}(hfin:h.Fin)(hk:dcore C o e h K):∃u h',K u h':=by
 obtain⟨c,g,ho,hcal,hm⟩:=zaj4 hc
 unfold dcore at hk
 simp only[ho,hcal,opv]at hk
 obtain⟨vs,hk,_⟩:=zajg hk
 rcases hC.get g with ⟨hf,_⟩ | hno
 . obtain⟨w,hs⟩:=zakd hfin
   obtain⟨_,_,_,⟨v,h',_,hv,_⟩,_⟩:=hf.2 _ _ _ w hs hk []
   have hp:PureLike (modsU C o) λh K=>retV C o.dst v h K:=zaj za6
   obtain⟨p,_,h2⟩:=hp
   obtain⟨u,_,hu⟩:=(h2 _ _).1 hv
   exact⟨u,h',hu⟩
 . exact(hno _ _ _ hk).elim
theorem za9e{Mx My:Up->Prop}{Tx Ty:PT}(hx:PureLike Mx Tx)(hy:MonoU My Ty){h:Hp}{F:Up->Up->Hp->Prop}
 (hk:Tx h λu1 h1=>Ty h1 λu2 h2=>F u1 u2 h2):Ty h λu2 h2=>Tx h2 λu1 h1=>F u1 u2 h1:=by
 obtain⟨p,_,h2⟩:=hx
 obtain⟨u1,hp,hF⟩:=(h2 _ _).1 hk
 exact hy _ _ _ (λu h' _ hh=>(h2 _ _).2 ⟨u1,hp,hh⟩) hF
theorem zala{Mx My:Up->Prop}{Tx Ty:PT}(hx:LoadLike Mx Tx)(hy:MonoU My Ty)(hg:GrowU Ty){h:Hp}{F:Up->Up->Hp->Prop}
 (hk:Tx h λu1 h1=>Ty h1 λu2 h2=>F u1 u2 h2):Ty h λu2 h2=>Tx h2 λu1 h1=>F u1 u2 h1:=by
 obtain⟨p,_,hm,h2⟩:=hx
 obtain⟨u1,hp,hF⟩:=(h2 _ _).1 hk
 exact hy _ _ _ (λu h' _ hh=>(h2 _ _).2 ⟨u1,hm _ _ _ hp hh.2,hh.1⟩) (hg _ _ hF)
theorem zajx{α:Type}{G:(α->Hp->Prop)->Hp->Prop}{K:α->Hp->Prop}{h:Hp}{b:Nat}{x:Blk}(hb:h b=none)
 (hc:callP G (λr h1=>h1 b=none->K r (h1.ins b x)) h):callP G K (h.ins b x):=by
 obtain⟨D,O,Q,h1,h2,h3,h4⟩:=hc
 subst h2
 rw[Hp.add_none]at hb
 refine⟨D,O.ins b x,Q,Hp.dj_ins h1 hb.1,Hp.add_ins hb.1,h3,λv D' hQ=>⟨(h4 v D' hQ).1,λhd hfin=>?_⟩⟩
 have hdb:D' b=none:=by
  rcases hd b with h5 | h5
  . exact h5
  . rw[Hp.ins_same]at h5;cases h5
 have hdj:D'.dj O:=λj=>by
  by_cases hj:j=b
  . subst hj;exact .inl hdb
  . have:=hd j;rw[Hp.ins_ne hj]at this;exact this
 have:=(h4 v D' hQ).2 hdj (hfin.sub λk hk=>by
  rw[Hp.add_none]at hk |-
  refine⟨hk.1,?_⟩
  by_cases hkb:k=b
  . subst hkb;exact hb.2
  . rw[Hp.ins_ne hkb]at hk;exact hk.2) (Hp.add_none.2 ⟨hdb,hb.2⟩)
 rw[Hp.add_ins hdb]at this
 exact this
theorem zal9{Mx My:Up->Prop}{Tx Ty:PT}(hx:CallLikeU Mx Tx)(hy:NewLike My Ty){h:Hp}(hinh:∀K,Tx h K->∃u h',K u h'){F:Up->Up->Hp->Prop}
 (hk:Tx h λu1 h1=>Ty h1 λu2 h2=>F u1 u2 h2):Ty h λu2 h2=>Tx h2 λu1 h1=>F u1 u2 h1:=by
 obtain⟨α,G,q,_,hG⟩:=hx
 obtain⟨P0,c,f,q2,_,_,hN⟩:=hy
 obtain⟨u0,h0,hT0⟩:=hinh _ hk
 have hp0:=((hN _ _).1 hT0).1
 rcases hG with hG | hG
 . refine(hN _ _).2 ⟨hp0,λb el hel hb=>(hG _ _).2 ?_⟩
   have h1:=(hG _ _).1 hk
   refine zajx (x:=⟨c,el,(0,0)⟩) hb (zfh ?_ h1)
   rintro r h' ⟨u,hq,hT⟩ _ _ hb'
   exact⟨u,hq,((hN _ _).1 hT).2 b el hel hb'⟩
 . exact(hG _ _ hk).elim
theorem zanj{Mx My:Up->Prop}{Tx Ty:PT}(hx:NewLike Mx Tx)(hy:NewLike My Ty){h:Hp}(hfin:h.Fin){F:Up->Up->Hp->Prop}
 (hk:Tx h λu1 h1=>Ty h1 λu2 h2=>F u1 u2 h2):Ty h λu2 h2=>Tx h2 λu1 h1=>F u1 u2 h1:=by
 obtain⟨P1,c1,f1,q1,⟨e1,he1⟩,_,h1⟩:=hx
 obtain⟨P2,c2,f2,q2,_,_,h2⟩:=hy
 obtain⟨hp1,hk1⟩:=(h1 _ _).1 hk
 obtain⟨b0,hb0⟩:=hfin.fresh
 have hp2:=((h2 _ _).1 (hk1 b0 e1 he1 hb0)).1
 refine(h2 _ _).2 ⟨hp2,λb2 el2 g2 hb2=>(h1 _ _).2 ⟨hp1,λb1 el1 g1 hb1=>?_⟩⟩
 have hne:b1≠b2:=λhh=>by subst hh;rw[Hp.ins_same]at hb1;cases hb1
 rw[Hp.ins_ne hne]at hb1
 have:=((h2 _ _).1 (hk1 b1 el1 g1 hb1)).2 b2 el2 g2 (by rw[Hp.ins_ne (Ne.symm hne)];exact hb2)
 rw[Hp.ins_comm (Ne.symm hne)]
 exact this
structure CfgOK(C:Cfg):Prop where
 tab:TabOK C C.tab
 mono:∀g args K K' h,(∀v h,K v h->K' v h)->C.f g args K h->C.f g args K' h
theorem zm8{o:Oper}:PureLike (modsU C o) λh K=>skipV C o.dst h K:=zamz za6
theorem zay(hC:CfgOK C){ops:Array Oper}{o:Oper}{e:Env}:MonoU (modsU C o) (stepT C ops o e):=by
 unfold stepT
 cases wantE C ops o e with
 | none=>exact za1
 | some b=>
   cases b
   . exact zm8.mono
   . exact zahq hC.tab hC.mono
theorem za9d(hC:CfgOK C){ops:Array Oper}{ox oy:Oper}{e:Env}(hs:swapCls C ox oy=true){h:Hp}(hfin:h.Fin){F:Up->Up->Hp->Prop}
 (hk:stepT C ops ox e h λu1 h1=>stepT C ops oy e h1 λu2 h2=>F u1 u2 h2) :
 stepT C ops oy e h λu2 h2=>stepT C ops ox e h2 λu1 h1=>F u1 u2 h1:=by
 cases hwx:wantE C ops ox e with
 | none=>unfold stepT at hk;rw[hwx]at hk;exact hk.elim
 | some bx=>
   cases bx with
   | false=>
     have ex:stepT C ops ox e=λh K=>skipV C ox.dst h K:=by funext h K;unfold stepT;rw[hwx]
     have hp:PureLike (modsU C ox) (stepT C ops ox e):=by rw[ex];exact zm8
     exact za9e hp (zay hC) hk
   | true=>
     have ex':stepT C ops ox e=λh K=>dcore C ox e h K:=by funext h K;unfold stepT;rw[hwx]
     have same:sameGuard ox.guard oy.guard=true->wantE C ops oy e=some true:=λhg=>by
      unfold sameGuard at hg
      cases hgy:oy.guard with
      | none=>unfold wantE;rw[hgy]
      | some gy=>
        cases hgx:ox.guard with
        | none=>rw[hgx,hgy]at hg;cases hg
        | some gx=>
          rw[hgx,hgy]at hg
          obtain⟨i,a⟩:=gx
          obtain⟨j,b⟩:=gy
          simp only[Bool.and_eq_true]at hg
          have hij:=Nat.eq_of_beq_eq_true hg.1
          have hab:a=b:=by have:=hg.2;cases a<;>cases b<;>simp_all
          subst hij hab
          unfold wantE at hwx |-
          rw[hgx]at hwx
          rw[hgy]
          exact hwx
     unfold swapCls at hs
     cases hcx:clsO C ox with
     | pure=>exact za9e (by rw[ex'];exact zj3 hcx) (zay hC) hk
     | load=>
       rw[hcx]at hs
       refine zala (by rw[ex'];exact zj1 hcx) (zay hC) ?_ hk
       unfold stepT
       cases wantE C ops oy e with
       | none=>exact zb5
       | some b=>
         cases b with
         | false=>exact(zm8 (o:=oy)).grow
         | true=>
           simp only
           cases hcy:clsO C oy with
           | pure=>exact(zj3 hcy).grow
           | load=>exact(zj1 hcy).grow
           | call=>exact(zpc hC.tab hcy).grow
           | new=>exact zams hcy
           | other=>rw[hcy]at hs;cases hs
     | call=>
       rw[hcx]at hs
       cases hcy:clsO C oy with
       | new=>
         rw[hcy]at hs
         have hwy:=same hs
         have ey:stepT C ops oy e=λh K=>dcore C oy e h K:=by funext h K;unfold stepT;rw[hwy]
         exact zal9 (by rw[ex'];exact zpc hC.tab hcx) (by rw[ey];exact zuk hcy) (λK hh=>by rw[ex']at hh;exact zalt hC.tab hcx hfin hh) hk
       | _=>rw[hcy]at hs;cases hs
     | new=>
       rw[hcx]at hs
       cases hcy:clsO C oy with
       | new=>
         rw[hcy]at hs
         have hwy:=same hs
         have ey:stepT C ops oy e=λh K=>dcore C oy e h K:=by funext h K;unfold stepT;rw[hwy]
         exact zanj (by rw[ex'];exact zuk hcx) (by rw[ey];exact zuk hcy) hfin hk
       | _=>rw[hcy]at hs;cases hs
     | other=>rw[hcx]at hs;cases hs
theorem zj7{ops:Array Oper}{ox oy:Oper}{e:Env}{u:Up}(hmk:isMk oy=false)(hu:modsU C ox u)(hd:disjN (modsO C ox) (readsA C ops oy)=true) :
 stepT C ops oy (e.upd C.rt u)=stepT C ops oy e:=by
 rw[ziz]at hd
 refine zagg hmk λt ht=>zmc (λd hdd hh=>?_) (λd hdd hh=>?_)
 . exact hd d (hu.1 d hdd) (by rw[<-hh];exact List.mem_append_left _ ht)
 . exact hd d (hu.1 d hdd) (by rw[<-hh];exact List.mem_append_right _ (List.mem_map.2 ⟨t,ht,rfl⟩))
theorem zp9{ops:Array Oper}{ox oy:Oper}{e:Env}{u v:Up}(hu:modsU C ox u)(hv:modsU C oy v)(h1:disjN (modsO C ox) (readsA C ops oy)=true)
 (h2:disjN (modsO C oy) (readsA C ops ox)=true) (h3:disjN (modsO C ox) (modsO C oy)=true):(e.upd C.rt u).upd C.rt v=(e.upd C.rt v).upd C.rt u:=by
 rw[ziz]at h1 h2 h3
 have root:∀(o:Oper) (u:Up),modsU C o u->∀d off,u=.set d (.ref off)->C.rt d∈readsA C ops o:=λo u hu d off hh=>by
  refine List.mem_append_left _ ?_
  unfold readsO
  rw[hu.2.1 d off hh]
  simp
 refine zanm (λd d' hd hd' hh=>?_) (λd off hh d' hd' hr=>?_) (λd off hh d' hd' hr=>?_) hu.2.2 hv.2.2
 . subst hh;exact h3 d (hu.1 d hd) (hv.1 d hd')
 . exact h2 d' (hv.1 d' hd') (by rw[<-hr];exact root ox u hu d off hh)
 . exact h1 d' (hu.1 d' hd') (by rw[<-hr];exact root oy v hv d off hh)
theorem zak9(hC:CfgOK C){ops:Array Oper}{K:Env->Hp->Prop}{x y:Nat}{r:List Nat}{e:Env}{h:Hp}(hfin:h.Fin)(hs:swapOk C ops x y=true)
 (hk:dops C ops K (x :: y :: r) e h):dops C ops K (y :: x :: r) e h:=by
 unfold swapOk at hs
 split at hs
 . rename_i ox oy hx hy
   simp only[Bool.and_eq_true]at hs
   obtain⟨⟨⟨⟨⟨hc,hm1⟩,hm2⟩,h1⟩,h2⟩,h3⟩:=hs
   have hm1:isMk ox=false:=by simpa using hm1
   have hm2:isMk oy=false:=by simpa using hm2
   rw[zbu hx]at hk
   rw[zbu hy]
   have k1:stepT C ops ox e h λu1 h1=>stepT C ops oy e h1 λu2 h2=>modsU C ox u1/\modsU C oy u2/\dops C ops K r ((e.upd C.rt u1).upd C.rt u2) h2:=by
    refine zay hC _ _ _ (λu1 h' hu1 hk1=>?_) hk
    rw[zbu hy,zj7 hm2 hu1 h1]at hk1
    exact zay hC _ _ _ (λu2 h'' hu2 hk2=>⟨hu1,hu2,hk2⟩) hk1
   refine zay hC _ _ _ (λu2 h' hu2 hk2=>?_) (za9d hC hc hfin k1)
   rw[zbu hx,zj7 hm1 hu2 h2]
   refine zay hC _ _ _ (λu1 h'' hu1 hk3=>?_) hk2
   rw[<-zp9 hu1 hu2 h1 h2 h3]
   exact hk3.2.2
 . cases hs
theorem zw0(hC:CfgOK C){ops:Array Oper}{K K':Env->Hp->Prop}(hK:∀e h,K e h->K' e h):∀{l:List Nat} {e:Env} {h:Hp},dops C ops K l e h->dops C ops K' l e h
 | [],e,h,hk=>hK e h hk
 | i :: r,e,h,hk=>by
   cases hi:ops[i]? with
   | none=>unfold dops at hk;rw[hi]at hk;exact hk.elim
   | some o=>
     rw[zbu hi]at hk |-
     exact zay hC _ _ _ (λu h' _ hh=>zw0 hC hK hh) hk
theorem zang(hC:CfgOK C){ops:Array Oper}{ox oy:Oper}{e:Env}(hs:swapCls C ox oy=true):FinU (stepT C ops ox e):=by
 unfold stepT
 cases wantE C ops ox e with
 | none=>exact zakc
 | some b=>
   cases b with
   | false=>exact(zm8 (o:=ox)).fin
   | true=>
     simp only
     unfold swapCls at hs
     cases hc:clsO C ox with
     | pure=>exact(zj3 hc).fin
     | load=>exact(zj1 hc).fin
     | call=>exact(zpc hC.tab hc).fin
     | new=>exact(zuk hc).fin
     | other=>rw[hc]at hs;cases hs
theorem zo5(hC:CfgOK C){ops:Array Oper}{K:Env->Hp->Prop}{y:Nat}{r:List Nat}:∀{p:List Nat} {e:Env} {h:Hp},h.Fin->(∀x∈p,swapOk C ops x y=true) ->
 dops C ops K (p++y :: r) e h->dops C ops K (y :: (p++r)) e h
 | [],e,h,_,_,hk=>hk
 | x :: p,e,h,hfin,hp,hk=>by
   have hs:=hp x (by simp)
   have h1:dops C ops K (x :: (y :: (p++r))) e h:=by
    cases hx:ops[x]? with
    | none=>unfold swapOk at hs;rw[hx]at hs;cases hs
    | some ox=>
      rw[List.cons_append,zbu hx]at hk
      rw[zbu hx]
      have hcl:∃oy,swapCls C ox oy=true:=by
       unfold swapOk at hs
       rw[hx]at hs
       split at hs
       . rename_i o1 o2 h1 h2
         cases h1
         simp only[Bool.and_eq_true]at hs
         exact⟨o2,hs.1.1.1.1.1⟩
       . cases hs
      obtain⟨oy,hcl⟩:=hcl
      refine zay hC _ _ _ (λu h' _ hh=>?_) (zang hC hcl _ _ hfin hk)
      exact zo5 hC hh.2 (λz hz=>hp z (by simp[hz])) hh.1
   exact zak9 hC hfin hs h1
end
end Den
end

section
namespace Den
open Go
variable {ro : Option Nat} {nn : Nat}
section
variable {C : Cfg} {B : Base}
theorem zaci{ops:Array Oper}{o:Oper}{e:Env}{h:Hp}{a:Act}{w:World}(hR:Rel C B e h a w){b:Bool}(hw:wantE C ops o e=some b) :
 Region.wanted o (yielded ops a.tmps)=b:=by
 unfold wantE at hw
 cases hg:o.guard with
 | none=>rw[hg]at hw;cases hw;exact zxe hg
 | some g=>
   obtain⟨j,want⟩:=g
   rw[hg]at hw
   simp only at hw
   cases hd:(ops[j]?).bind (·.dst)with
   | none=>rw[hd]at hw;cases hw
   | some d=>
     rw[hd]at hw
     simp only at hw
     split at hw
     . rename_i t hl hv
       cases hw
       exact zxd hg hd (hR.vals d _ hv)
     . rename_i vs hl hv
       cases hw
       exact zv2 hg hd (hR.vals d _ hv)
     . cases hw
theorem zsk(hC:CfgOK C){ops:Array Oper}{i:Nat}{o:Oper}{e:Env}{h:Hp}{a:Act}{w:World}{K:Up->Hp->Prop}{Q:Exit->Act->World->Prop}
 (hi:ops[i]?=some o) (hR:Rel C B e h a w) (hk:stepT C ops o e h K):wpOpIn (wideR ro) nn C.P ops Q i (After C B o e K) a w:=by
 unfold wpOpIn
 rw[hi]
 simp only
 unfold stepT at hk
 cases hw:wantE C ops o e with
 | none=>rw[hw]at hk;exact hk.elim
 | some b=>
   rw[hw]at hk
   rw[zaci hR hw]
   cases b with
   | true=>simp only[if_true];exact zkb hC.tab hR hk
   | false=>simp only[Bool.false_eq_true,if_false];exact⟨λ_ _=>trivial,zkt hR hk⟩
theorem zmt{ops:Array Oper}{listed:Array Bool}{x:Nat}
 (hdc:∀(i:Nat) (o:Oper),ops[i]?=some o->listed.getD i false=true->∀e∈o.after.toList,Region.binds .any e=true->listed.getD e.on false=true) :
 ∀{d i:Nat} {o:Oper},ops[i]?=some o->(∀e∈o.after.toList,Region.binds .any e=true->listed.getD e.on false=true)->reachB ops d x i=true->listed.getD x false=true
 | 0,i,o,_,_,hx=>by simp[reachB]at hx
 | d+1,i,o,hi,ho,hx=>by
   unfold reachB at hx
   rw[hi]at hx
   simp only[Bool.or_eq_true,List.any_eq_true,Bool.and_eq_true]at hx
   rcases hx with ⟨e,he,hb,hxe⟩ | ⟨e,he,hb,_,hr⟩
   . rw[<-Nat.eq_of_beq_eq_true hxe];exact ho e he hb
   . cases he':ops[e.on]? with
     | none=>
       cases d with
       | zero=>simp[reachB]at hr
       | succ d=>unfold reachB at hr;rw[he']at hr;cases hr
     | some oe=>exact zmt hdc he' (λe2 he2 hb2=>hdc e.on oe he' (ho e he hb) e2 he2 hb2) hr
theorem za45{ops:Array Oper}:∀{p r:List Nat} {y:Nat},pairsOk C ops (p++y :: r)=true->(∀x∈p,reachB ops ops.size x y=true\/swapOk C ops x y=true)/\pairsOk C ops (p++r)=true
 | [],r,y,hp=>by
   simp only[List.nil_append,pairsOk,Bool.and_eq_true]at hp
   exact⟨(λx hx=>by cases hx),hp.2⟩
 | z :: p,r,y,hp=>by
   simp only[List.cons_append,pairsOk,Bool.and_eq_true,List.all_eq_true]at hp
   obtain⟨h1,h2⟩:=hp
   obtain⟨h3,h4⟩:=za45 h2
   refine⟨λx hx=>?_,?_⟩
   . rcases List.mem_cons.1 hx with rfl | hx
     . have:=h1 y (by simp);rw[Bool.or_eq_true]at this;exact this
     . exact h3 x hx
   . simp only[List.cons_append,pairsOk,Bool.and_eq_true,List.all_eq_true]
     exact⟨λq hq=>h1 q (by rcases List.mem_append.1 hq with h | h<;>simp[h]),h4⟩
theorem za3k(hC:CfgOK C){ops:Array Oper}{K:Env->Hp->Prop}{ms:List Nat}{e0:Env}{Q:Exit->Act->World->Prop}
 (hms:∀(i:Nat) (o:Oper),ops[i]?=some o->∀d∈modsO C o,d∈ms) (hQ:∀x a w,Behind C B ms e0 K x a w->Q x a w)
 (hback:∀(i:Nat) (o:Oper),ops[i]?=some o->∀e∈o.after.toList,Region.binds .any e=true->e.on<i) :
 ∀(fuel:Nat) (c:List Nat) (listed:Array Bool) (e:Env) (h:Hp) (a:Act) (w:World),c.length<=fuel->listed.size=ops.size->c.Nodup ->
  (∀i,i<ops.size->(listed.getD i false=false↔i∈c))->(∀i∈c,i<ops.size) ->
  (∀(i:Nat) (o:Oper),ops[i]?=some o->listed.getD i false=true->∀e∈o.after.toList,Region.binds .any e=true->listed.getD e.on false=true) ->
  pairsOk C ops c=true->(∀t,t∉ms->keep (e0 t) (e t))->dops C ops K c e h->Rel C B e h a w->wpAnyIn (wideR ro) nn C.P .any ops Q fuel listed a w:=by
 have least:∀(c:List Nat) (listed:Array Bool),listed.size=ops.size->(∀i,i<ops.size->(listed.getD i false=false↔i∈c))->(∀i∈c,i<ops.size)->c≠[] ->
  Region.ready .any ops listed≠[]:=by
  intro c listed hsz hiff hlt hne
  have:∀n,∀i∈c,i<=n->∃j∈c,∀k∈c,j<=k:=by
   intro n
   induction n with
   | zero=>intro i hi hn;exact⟨i,hi,λk _=>by omega⟩
   | succ n ih=>
     intro i hi hn
     by_cases hex:∃k∈c,k<=n
     . obtain⟨k,hk,hkn⟩:=hex;exact ih k hk hkn
     . exact⟨i,hi,λk hk=>by
        by_cases hkn:k<=n
        . exact absurd ⟨k,hk,hkn⟩ hex
        . omega⟩
  obtain⟨i0,r0,hc⟩:∃i r,c=i :: r:=by cases c with | nil=>exact absurd rfl hne | cons i r=>exact⟨i,r,rfl⟩
  obtain⟨j,hj,hmin⟩:=this i0 i0 (by rw[hc];simp) (Nat.le_refl _)
  have hjs:=hlt j hj
  have hready:j∈Region.ready .any ops listed:=by
   unfold Region.ready
   rw[List.mem_filter]
   refine⟨List.mem_range.2 hjs,?_⟩
   have hl:=(hiff j hjs).2 hj
   have h1:listed.getD j true=false:=by
    rw[Array.getD_eq_getD_getElem?]at hl |-
    rw[Array.getElem?_eq_getElem (by omega)]at hl |-
    exact hl
   rw[h1]
   simp only[Bool.not_false,Bool.true_and]
   rw[Array.getElem?_eq_getElem hjs]
   simp only[Option.map_some,Option.getD_some]
   rw[Array.all_eq_true']
   intro e he
   rw[Bool.or_eq_true]
   cases hbe:Region.binds .any e with
   | false=>left;rfl
   | true=>
   right
   have hlt':=hback j _ (Array.getElem?_eq_getElem hjs) e (by simpa using he) hbe
   cases hg:listed.getD e.on false with
   | true=>rfl
   | false=>have:=hmin _ ((hiff e.on (by omega)).1 hg);omega
  intro hnil;rw[hnil]at hready;cases hready
 intro fuel
 induction fuel with
 | zero=>
   intro c listed e h a w hf hsz hnd hiff hlt hdc hp hkeep hk hR
   have hcn:c=[]:=List.eq_nil_of_length_eq_zero (by omega)
   subst hcn
   refine⟨?_,hQ _ _ _ ⟨rfl,e,h,hk,hR,hkeep⟩⟩
   unfold Region.ready
   rw[List.filter_eq_nil_iff]
   intro i hi
   have his:=List.mem_range.1 hi
   have hl:listed.getD i false=true:=by
    cases hg:listed.getD i false with
    | true=>rfl
    | false=>exact absurd ((hiff i his).1 hg) (by simp)
   have h1:listed.getD i true=true:=by
    rw[Array.getD_eq_getD_getElem?]at hl |-
    rw[Array.getElem?_eq_getElem (by omega)]at hl |-
    exact hl
   rw[h1];simp
 | succ fuel ih=>
   intro c listed e h a w hf hsz hnd hiff hlt hdc hp hkeep hk hR
   refine⟨λhnil=>?_,λi hi=>?_⟩
   . by_cases hcn:c=[]
     . subst hcn;exact hQ _ _ _ ⟨rfl,e,h,hk,hR,hkeep⟩
     . exact absurd hnil (least c listed hsz hiff hlt hcn)
   . unfold Region.ready at hi
     rw[List.mem_filter]at hi
     obtain⟨hi1,hi2⟩:=hi
     have his:=List.mem_range.1 hi1
     rw[Bool.and_eq_true]at hi2
     obtain⟨hi3,hi4⟩:=hi2
     have hl:listed.getD i false=false:=by
      rw[Array.getD_eq_getD_getElem?]at hi3 |-
      rw[Array.getElem?_eq_getElem (by omega)]at hi3 |-
      simpa using hi3
     have hic:=(hiff i his).1 hl
     obtain⟨p,r,rfl⟩:=List.append_of_mem hic
     obtain⟨o,ho⟩:∃o,ops[i]?=some o:=⟨_,Array.getElem?_eq_getElem his⟩
     rw[ho]at hi4
     simp only[Option.map_some,Option.getD_some]at hi4
     have hedges:∀e∈o.after.toList,Region.binds .any e=true->listed.getD e.on false=true:=λe he hb=>by
      have:=(Array.all_eq_true'.1 hi4) e (by simpa using he)
      rw[hb]at this;simpa using this
     obtain⟨hpo,hpr⟩:=za45 hp
     have hswap:∀x∈p,swapOk C ops x i=true:=λx hx=>by
      rcases hpo x hx with h1 | h1
      . have h2:=zmt hdc ho hedges h1
        have hxs:=hlt x (by simp[hx])
        have h3:=(hiff x hxs).2 (by simp[hx])
        rw[h2]at h3;cases h3
      . exact h1
     have hb:=zo5 hC hR.sub.fin hswap hk
     rw[zbu ho]at hb
     refine wpOpIn_mono ?_ (zsk hC ho hR hb)
     rintro a' w' ⟨u,h',hk',hR',hd'⟩
     have hnd':(p++r).Nodup/\i∉p++r:=by
      rw[List.nodup_append]at hnd
      obtain⟨n1,n2,n3⟩:=hnd
      rw[List.nodup_cons]at n2
      refine⟨List.nodup_append.2 ⟨n1,n2.2,λa ha b hb=>n3 a ha b (by simp[hb])⟩,λhm=>?_⟩
      rcases List.mem_append.1 hm with hm | hm
      . exact n3 i hm i (by simp) rfl
      . exact n2.1 hm
     have hset:∀j,j<ops.size->(listed.setIfInBounds i true).getD j false=if j=i then true else listed.getD j false:=λj hj=>by
      simp only[Array.getD_eq_getD_getElem?,Array.getElem?_setIfInBounds]
      by_cases hji:j=i
      . subst hji;simp[show j<listed.size by omega]
      . simp[Ne.symm hji,hji]
     refine ih (p++r) (listed.setIfInBounds i true) (e.upd C.rt u) h' a' w' ?_ (by simpa using hsz) hnd'.1 ?_ ?_ ?_ hpr ?_ hk' hR'
     . simp at hf |-;omega
     . intro j hj
       rw[hset j hj]
       by_cases hji:j=i
       . subst hji;simp only[if_true];exact⟨(λhh=>by cases hh),λhh=>absurd hh hnd'.2⟩
       . rw[if_neg hji,hiff j hj]
         simp only[List.mem_append,List.mem_cons]
         constructor
         . rintro(h1 | h1 | h1)
           . exact .inl h1
           . exact absurd h1 hji
           . exact .inr h1
         . rintro(h1 | h1)
           . exact .inl h1
           . exact .inr (.inr h1)
     . intro j hj
       exact hlt j (by rcases List.mem_append.1 hj with h1 | h1<;>simp[h1])
     . intro j oj hoj hlj ed hed hbd
       have hjs:j<ops.size:=by
        rcases Nat.lt_or_ge j ops.size with h1 | h1
        . exact h1
        . rw[Array.getElem?_eq_none h1]at hoj;cases hoj
       have hes:ed.on<ops.size:=by have:=hback j oj hoj ed hed hbd;omega
       rw[hset _ hes]
       by_cases hei:ed.on=i
       . simp[hei]
       . rw[if_neg hei]
         rw[hset j hjs]at hlj
         by_cases hji:j=i
         . subst hji
           rw[ho]at hoj;cases hoj
           exact hedges ed hed hbd
         . rw[if_neg hji]at hlj
           exact hdc j oj hoj hlj ed hed hbd
     . intro t ht
       exact(hkeep t ht).trans (zug λd hd hh=>ht (by rw[hh];exact hms i o ho d (hd' d hd)))
end
abbrev ValU(dst:Option Nat)(u:Up):Prop:=(u=.none/\dst=none)\/∃d v,dst=some d/\u=.set d (.val v)
theorem za49{C:Cfg}{dst:Option Nat}{v:Value}:PureLike (ValU dst) λh K=>retV C dst v h K:=by
 unfold retV
 cases dst with
 | none=>exact zh3 (.inl ⟨rfl,rfl⟩)
 | some d=>
   simp only
   split
   . exact zh3 (.inr ⟨d,v,rfl,rfl⟩)
   . exact za4
theorem za3y{C:Cfg}{o:Oper}{e:Env}(hc:clsO C o=.load):LoadLike (ValU o.dst) λh K=>dcore C o e h K:=by
 unfold clsO at hc
 unfold dcore
 cases ho:o.op<;>simp only[ho]at hc |-<;>try (cases hc;done)
 case load t x=>
  split
  . split
    . exact(zi1 λv=>za49).load
    . split
      . exact(zi1 λv=>za49).load
      . exact za4.load
    . split
      . exact za4.load
      exact zab3 (Φ:=LoadLike _) za4.load λad=>zamk λv=>(za95 λv=>za49).load
    . exact za4.load
  . exact za4.load
 all_goals
  exfalso
  revert hc
  repeat' split
  all_goals (intro hc;first | (cases hc;done) | (cases hc;contradiction))
theorem zapl{C:Cfg}{o:Oper}(hm:isMk o=true):clsO C o=.other:=by
 unfold isMk at hm
 split at hm
 . rename_i ho
   unfold clsO
   rw[ho]
 . cases hm
section
variable {C : Cfg} {B : Base}
def chk1(C:Cfg)(ops:Array Oper)(a:Nat)(e:Env)(h:Hp):Prop:=
 match ops[a]? with
 | some o=>dcore C o e h λu _=>(match u with
   | .set d (.val v)=>(match e d with
     | .val v'=>v=v'
     | _=>False)
   | _=>False)
 | none=>False
theorem za9a{ops:Array Oper}{e:Env}{h:Hp}{P:Prop}:∀{as:List Nat},sameT C ops as e h P↔(∀a∈as,chk1 C ops a e h)/\P
 | []=>by simp[sameT]
 | a :: r=>by
   unfold sameT
   rw[za9a (as:=r)]
   simp only[List.mem_cons,forall_eq_or_imp]
   exact(and_assoc (a:=chk1 C ops a e h)).symm
theorem zag8{u:Up}{e:Env}(hh:match u with
 | .set d (.val v)=>(match e d with
   | .val v'=>v=v'
   | _=>False)
 | _=>False):∃d v,u=.set d (.val v)/\e d=.val v:=by
 split at hh
 . rename_i d v
   split at hh
   . rename_i v' hv
     exact⟨d,v,rfl,by rw[hv,hh]⟩
   . exact hh.elim
 . exact hh.elim
theorem zwo(hC:CfgOK C){ops:Array Oper}{K:Env->Hp->Prop}{q:List Nat}:∀{p:List Nat} {e:Env} {h:Hp},dops C ops (dops C ops K q) p e h->dops C ops K (p++q) e h
 | [],_,_,hk=>hk
 | i :: p,e,h,hk=>by
   cases hi:ops[i]? with
   | none=>unfold dops at hk;rw[hi]at hk;exact hk.elim
   | some o=>
     rw[zbu hi]at hk
     rw[List.cons_append,zbu hi]
     exact zay hC _ _ _ (λu h' _ hh=>zwo hC hh) hk
theorem zal8{ops:Array Oper}{o:Oper}{e:Env}(hc:clsO C o=.pure\/clsO C o=.load):LoadLike (modsU C o) (stepT C ops o e):=by
 unfold stepT
 cases wantE C ops o e with
 | none=>exact za4.load
 | some b=>
   cases b with
   | false=>exact(zm8 (o:=o)).load
   | true=>
     rcases hc with hc | hc
     . exact(zj3 hc).load
     . exact zj1 hc
theorem zao5{ops:Array Oper}{x:Nat}(hs:calmO C ops x=true):∃ox,ops[x]?=some ox/\(clsO C ox=.pure\/clsO C ox=.load):=by
 unfold calmO at hs
 split at hs
 . rename_i ox hx
   refine⟨ox,hx,?_⟩
   cases hc:clsO C ox with
   | pure=>exact .inl rfl
   | load=>exact .inr rfl
   | _=>rw[hc]at hs;exact absurd hs (by simp)
 . cases hs
theorem zalu{ops:Array Oper}{a x:Nat}(hs:calm1 C ops a x=true):∃ox oa,ops[x]?=some ox/\ops[a]?=some oa/\disjN (modsO C ox) (readsA C ops oa)=true/\disjN (modsO C ox) (modsO C oa)=true/\isMk oa=false:=by
 unfold calm1 at hs
 split at hs
 . rename_i ox oa hx ha
   simp only[Bool.and_eq_true,Bool.not_eq_true']at hs
   exact⟨ox,oa,hx,ha,hs.1.1,hs.1.2,hs.2⟩
 . cases hs
theorem zaey{ops:Array Oper}{as:List Nat}{b:Nat}:∀{p:List Nat},calmL C ops as b p=true->p.Pairwise λa x=>a∈as->reachB ops ops.size x b=true\/calm1 C ops a x=true
 | [],_=>List.Pairwise.nil
 | a :: r,h=>by
   unfold calmL at h
   rw[Bool.and_eq_true,Bool.or_eq_true]at h
   refine List.pairwise_cons.2 ⟨λx hx ha=>?_,zaey h.2⟩
   rcases h.1 with h1 | h1
   . rw[zbm.2 ha]at h1;cases h1
   . have:=(List.all_eq_true.1 h1) x hx
     rwa [Bool.or_eq_true]at this
theorem zalv{ops:Array Oper}{a:Nat}{oa ox:Oper}{e:Env}{u:Up}{h:Hp}(ha:ops[a]?=some oa)(hu:modsU C ox u)(h1:disjN (modsO C ox) (readsA C ops oa)=true)
 (h2:disjN (modsO C ox) (modsO C oa)=true) (hm:isMk oa=false) (hc:clsO C oa=.load) (hk:chk1 C ops a (e.upd C.rt u) h):chk1 C ops a e h:=by
 unfold chk1 at hk |-
 rw[ha]at hk |-
 simp only at hk |-
 rw[ziz]at h1 h2
 have hr:∀t∈readsO C ops oa,(e.upd C.rt u) t=e t:=λt ht=>zmc (λd hdd hh=>h1 d (hu.1 d hdd) (by rw[<-hh];exact List.mem_append_left _ ht))
  (λd hdd hh=>h1 d (hu.1 d hdd) (by rw[<-hh];exact List.mem_append_right _ (List.mem_map.2 ⟨t,ht,rfl⟩)))
 have hco:dcore C oa (e.upd C.rt u)=dcore C oa e:=zo4 hm λx hx t ht=>by
  subst ht
  have hr2:∀s∈readsX C (.tmp t),s∈readsO C ops oa:=λs hs=>by
   unfold readsO
   exact List.mem_append_left _ (List.mem_append_left _ (List.mem_flatMap.2 ⟨_,hx,hs⟩))
  exact⟨hr _ (hr2 _ (by simp[readsX])),hr _ (hr2 _ (by simp[readsX]))⟩
 rw[hco]at hk
 obtain⟨p,p1,p2,p3⟩:=za3y (e:=e) hc
 obtain⟨v,hv,hq⟩:=(p3 h _).1 hk
 refine(p3 h _).2 ⟨v,hv,?_⟩
 obtain⟨d,y,rfl,hy⟩:=zag8 hq
 have hd:oa.dst=some d:=by
  rcases p1 _ _ hv with ⟨h3,_⟩ | ⟨d',y',h3,h4⟩
  . cases h3
  . simp only[Up.set.injEq]at h4;rw[h4.1];exact h3
 have:(e.upd C.rt u) d=e d:=zmc (λd' hdd hh=>h2 d' (hu.1 d' hdd) (by rw[<-hh];simp[modsO,hd]))
  (λd' hdd hh=>h1 d' (hu.1 d' hdd) (by
    rw[<-hh]
    refine List.mem_append_left _ ?_
    unfold readsO
    simp[hd]))
 rw[this]at hy
 simp only[hy]
theorem bubbleC(hC:CfgOK C){ops:Array Oper}{as:List Nat}{b:Nat}{ob:Oper}(hb:ops[b]?=some ob){K:Env->Hp->Prop}(hload:∀a∈as,∀oa,ops[a]?=some oa->clsO C oa=.load) :
 ∀{p D:List Nat} {e:Env} {h:Hp},h.Fin->(∀x∈p,swapC C ops as b x=true/\calmO C ops x=true)->p.Pairwise (λa x=>a∈as->calm1 C ops a x=true)->(∀a∈as,a∈D->∀x∈p,calm1 C ops a x=true) ->
 dops C ops (λe1 h1=>stepT C ops ob e1 h1 λu2 h2=>(∀a∈as,a∈D\/a∈p->chk1 C ops a (e1.upd C.rt u2) h2)/\K (e1.upd C.rt u2) h2) p e h ->
 stepT C ops ob e h λu2 h2=>(∀a∈as,a∈D->chk1 C ops a (e.upd C.rt u2) h2)/\dops C ops K p (e.upd C.rt u2) h2
 | [],D,e,h,_,_,_,_,hk=>by
   refine zay hC _ _ _ (λu h' _ hh=>⟨λa ha hd=>hh.1 a ha (.inl hd),hh.2⟩) hk
 | x :: p,D,e,h,hfin,hp,hnd,hD,hk=>by
   obtain⟨hsw,hcalm⟩:=hp x (by simp)
   obtain⟨ox,hx,hcx⟩:=zao5 hcalm
   rw[zbu hx]at hk
   rw[List.pairwise_cons]at hnd
   have hll:LoadLike (modsU C ox) (stepT C ops ox e):=zal8 hcx
   have hmx:isMk ox=false:=by
    cases hm:isMk ox with
    | false=>rfl
    | true=>have:=zapl (C:=C) hm;rcases hcx with h1 | h1<;>rw[h1]at this<;>cases this
   have hdis:isMk ob=false/\disjN (modsO C ox) (readsA C ops ob)=true/\disjN (modsO C ob) (readsA C ops ox)=true/\disjN (modsO C ox) (modsO C ob)=true:=by
    unfold swapC at hsw
    rw[hx,hb]at hsw
    simp only at hsw
    split at hsw
    . simp only[Bool.and_eq_true,Bool.not_eq_true']at hsw
      exact⟨hsw.1.1.1.1.2,hsw.1.1.1.2,hsw.1.1.2,hsw.1.2⟩
    . unfold swapOk at hsw
      rw[hx,hb]at hsw
      simp only[Bool.and_eq_true,Bool.not_eq_true']at hsw
      exact⟨hsw.1.1.1.2,hsw.1.1.2,hsw.1.2,hsw.2⟩
   obtain⟨hmb,h1,h2,h3⟩:=hdis
   have hk1:stepT C ops ox e h λu1 h'=>modsU C ox u1/\stepT C ops ob e h' λu2 h2=>modsU C ob u2/\(∀a∈as,a∈x :: D->chk1 C ops a ((e.upd C.rt u1).upd C.rt u2) h2)/\dops C ops K p ((e.upd C.rt u1).upd C.rt u2) h2:=by
    refine zay hC _ _ _ (λu1 h' hu1 hh=>⟨hu1,?_⟩) (hll.fin _ _ hfin hk)
    rw[<-zj7 (C:=C) (ops:=ops) (ox:=ox) (oy:=ob) (e:=e) hmb hu1 h1]
    refine zay hC _ _ _ (λu2 h2 hu2 hk2=>⟨hu2,hk2⟩) (bubbleC hC hb hload (D:=x :: D) hh.2 (λz hz=>hp z (by simp[hz])) hnd.2 (λa ha hd z hz=>?_) ?_)
    . rcases List.mem_cons.1 hd with rfl | hd
      . exact hnd.1 z hz ha
      . exact hD a ha hd z (by simp[hz])
    . refine zw0 hC (λe1 h1 hq=>zay hC _ _ _ (λu2 h2 _ hk2=>⟨λa ha had=>hk2.1 a ha ?_,hk2.2⟩) hq) hh.1
      rcases had with had | had
      . rcases List.mem_cons.1 had with rfl | had
        . exact .inr (by simp)
        . exact .inl had
      . exact .inr (by simp[had])
   have carry:∀u1 u2 h2,modsU C ox u1->modsU C ob u2->(∀a∈as,a∈x :: D->chk1 C ops a ((e.upd C.rt u1).upd C.rt u2) h2)->∀a∈as,a∈D->chk1 C ops a (e.upd C.rt u2) h2:=by
    intro u1 u2 h2' hu1 hu2 hch a ha hd
    obtain⟨ox',oa,hx',hoa,g1,g2,g3⟩:=zalu (hD a ha hd x (by simp))
    rw[hx]at hx'
    cases hx'
    have:=hch a ha (by simp[hd])
    rw[zp9 (ops:=ops) hu1 hu2 h1 h2 h3]at this
    exact zalv hoa hu1 g1 g2 g3 (hload a ha oa hoa) this
   by_cases hxa:x∈as
   . 
    have hsw':=hsw
    unfold swapC at hsw'
    rw[hx,hb]at hsw'
    simp only[zbm.2 hxa,Bool.and_eq_true]at hsw'
    obtain⟨⟨⟨⟨⟨⟨hcl,hgn⟩,_⟩,_⟩,_⟩,_⟩,hown⟩:=hsw'
    have hcl:clsO C ox=.load:=hload x hxa ox hx
    have hgn:ox.guard=none:=by simpa using hgn
    have hst:∀e',stepT C ops ox e'=λh K=>dcore C ox e' h K:=λe'=>by
     funext h K;unfold stepT wantE;rw[hgn]
    obtain⟨p0,p1,p2,p3⟩:=za3y (e:=e) hcl
    rw[hst]at hk1
    obtain⟨u1,hpu,hu1,hk2⟩:=(p3 h _).1 hk1
    refine zay hC _ _ _ (λu2 h2' hu2 hk3=>⟨carry u1 u2 h2' hu1 hu2 hk3.2.1,?_⟩) hk2
    rw[zbu hx,zj7 hmx hu2 h2,hst]
    have hch:=hk3.2.1 x hxa (by simp)
    unfold chk1 at hch
    rw[hx]at hch
    simp only at hch
    have hown':=ziz.1 hown
    have hco:dcore C ox ((e.upd C.rt u1).upd C.rt u2)=dcore C ox e:=by
     rw[zp9 (ops:=ops) hu1 hu2 h1 h2 h3]
     have e1:dcore C ox ((e.upd C.rt u2).upd C.rt u1)=dcore C ox (e.upd C.rt u2):=zo4 hmx λy hy t ht=>by
      subst ht
      have hr2:∀s∈readsX C (.tmp t),((e.upd C.rt u2).upd C.rt u1) s=(e.upd C.rt u2) s:=λs hs=>by
       have hm:s∈ox.op.operands.toList.flatMap (readsX C):=List.mem_flatMap.2 ⟨_,hy,hs⟩
       exact zmc (λd hdd hh=>hown' d (hu1.1 d hdd) (by rw[<-hh];exact List.mem_append_left _ hm))
        (λd hdd hh=>hown' d (hu1.1 d hdd) (by rw[<-hh];exact List.mem_append_right _ (List.mem_map.2 ⟨s,hm,rfl⟩)))
      exact⟨hr2 _ (by simp[readsX]),hr2 _ (by simp[readsX])⟩
     have e2:dcore C ox (e.upd C.rt u2)=dcore C ox e:=by
      have:=zj7 (C:=C) (ops:=ops) (ox:=ob) (oy:=ox) (e:=e) hmx hu2 h2
      rw[hst,hst]at this
      exact this
     rw[e1,e2]
    rw[hco]at hch
    obtain⟨u,hpu2,hq⟩:=(p3 h2' _).1 hch
    obtain⟨d,v,rfl,hv⟩:=zag8 hq
    have hd:ox.dst=some d:=by
     rcases p1 _ _ hpu2 with ⟨h5,_⟩ | ⟨d',y',h5,h6⟩
     . cases h5
     . simp only[Up.set.injEq]at h6;rw[h6.1];exact h5
    have hkeep:((e.upd C.rt u1).upd C.rt u2) d=(e.upd C.rt u1) d:=zmc
     (λd' hdd hh=>ziz.1 h3 d (by simp[modsO,hd]) (by rw[hh];exact hu2.1 d' hdd))
     (λd' hdd hh=>ziz.1 h2 d' (hu2.1 d' hdd) (by
       rw[<-hh]
       refine List.mem_append_left _ ?_
       unfold readsO
       simp[hd]))
    have hu:u1=.set d (.val v):=by
     rcases p1 _ _ hpu with ⟨_,h5⟩ | ⟨d',y',h5,rfl⟩
     . rw[hd]at h5;cases h5
     . have hdd:d'=d:=by rw[hd]at h5;cases h5;rfl
       subst hdd
       rw[hkeep]at hv
       have:(e.upd C.rt (.set d' (.val y'))) d'=.val y':=Env.set_same _ _ _
       rw[this]at hv
       cases hv
       rfl
    subst hu
    refine(p3 h2' _).2 ⟨_,hpu2,?_⟩
    rw[<-zp9 (ops:=ops) hu1 hu2 h1 h2 h3]
    exact hk3.2.2
   . have hso:swapOk C ops x b=true:=by
      unfold swapC at hsw
      rw[hx,hb]at hsw
      simp only at hsw
      split at hsw
      . rename_i hm;exact absurd (zbm.1 hm) hxa
      . exact hsw
     have hcl:swapCls C ox ob=true:=by
      unfold swapOk at hso
      rw[hx,hb]at hso
      simp only[Bool.and_eq_true]at hso
      exact hso.1.1.1.1.1
     have hk2:stepT C ops ox e h λu1 h'=>stepT C ops ob e h' λu2 h2=>modsU C ox u1/\modsU C ob u2/\(∀a∈as,a∈x :: D->chk1 C ops a ((e.upd C.rt u1).upd C.rt u2) h2)/\dops C ops K p ((e.upd C.rt u1).upd C.rt u2) h2:=
      zay hC _ _ _ (λu1 h' _ hh=>zay hC _ _ _ (λu2 h2 _ hh2=>⟨hh.1,hh2⟩) hh.2) hk1
     refine zay hC _ _ _ (λu2 h2' hu2 hk3=>?_) (za9d hC hcl hfin hk2)
     obtain⟨p0,p1,p2,p3⟩:=hll
     obtain⟨u1,hpu,hu1,_,hch,hd⟩:=(p3 h2' _).1 hk3
     refine⟨carry u1 u2 h2' hu1 hu2 hch,?_⟩
     rw[zbu hx,zj7 hmx hu2 h2]
     refine(p3 h2' _).2 ⟨u1,hpu,?_⟩
     rw[<-zp9 (ops:=ops) hu1 hu2 h1 h2 h3]
     exact hd
theorem zafd{ops:Array Oper}(hback:∀(i:Nat) (o:Oper),ops[i]?=some o->∀e∈o.after.toList,Region.binds .any e=true->e.on<i)(c:List Nat)(listed:Array Bool)(hsz:listed.size=ops.size)
 (hiff:∀i,i<ops.size->(listed.getD i false=false↔i∈c)) (hlt:∀i∈c,i<ops.size) (hne:c≠[]):Region.ready .any ops listed≠[]:=by
 have:∀n,∀i∈c,i<=n->∃j∈c,∀k∈c,j<=k:=by
  intro n
  induction n with
  | zero=>intro i hi hn;exact⟨i,hi,λk _=>by omega⟩
  | succ n ih=>
    intro i hi hn
    by_cases hex:∃k∈c,k<=n
    . obtain⟨k,hk,hkn⟩:=hex;exact ih k hk hkn
    . exact⟨i,hi,λk hk=>by
       by_cases hkn:k<=n
       . exact absurd ⟨k,hk,hkn⟩ hex
       . omega⟩
 obtain⟨i0,r0,hc⟩:∃i r,c=i :: r:=by cases c with | nil=>exact absurd rfl hne | cons i r=>exact⟨i,r,rfl⟩
 obtain⟨j,hj,hmin⟩:=this i0 i0 (by rw[hc];simp) (Nat.le_refl _)
 have hjs:=hlt j hj
 have hready:j∈Region.ready .any ops listed:=by
  unfold Region.ready
  rw[List.mem_filter]
  refine⟨List.mem_range.2 hjs,?_⟩
  have hl:=(hiff j hjs).2 hj
  have h1:listed.getD j true=false:=by
   rw[Array.getD_eq_getD_getElem?]at hl |-
   rw[Array.getElem?_eq_getElem (by omega)]at hl |-
   exact hl
  rw[h1]
  simp only[Bool.not_false,Bool.true_and]
  rw[Array.getElem?_eq_getElem hjs]
  simp only[Option.map_some,Option.getD_some]
  rw[Array.all_eq_true']
  intro e he
  rw[Bool.or_eq_true]
  cases hbe:Region.binds .any e with
  | false=>left;rfl
  | true=>
  right
  have hlt':=hback j _ (Array.getElem?_eq_getElem hjs) e (by simpa using he) hbe
  cases hg:listed.getD e.on false with
  | true=>rfl
  | false=>have:=hmin _ ((hiff e.on (by omega)).1 hg);omega
 intro hnil;rw[hnil]at hready;cases hready
theorem zaf6(hC:CfgOK C){ops:Array Oper}{K:Env->Hp->Prop}{ms:List Nat}{e0:Env}{Q:Exit->Act->World->Prop}{b:Nat}{ob:Oper}{q as:List Nat}(hob:ops[b]?=some ob)
 (hload:∀a∈as,∀oa,ops[a]?=some oa->clsO C oa=.load)
 (hms:∀(i:Nat) (o:Oper),ops[i]?=some o->∀d∈modsO C o,d∈ms) (hQ:∀x a w,Behind C B ms e0 K x a w->Q x a w)
 (hback:∀(i:Nat) (o:Oper),ops[i]?=some o->∀e∈o.after.toList,Region.binds .any e=true->e.on<i) :
 ∀(fuel:Nat) (p:List Nat) (listed:Array Bool) (e:Env) (h:Hp) (a:Act) (w:World),(p++b :: q).length<=fuel->listed.size=ops.size->(p++b :: q).Nodup ->
  (∀i,i<ops.size->(listed.getD i false=false↔i∈p++b :: q))->(∀i∈p++b :: q,i<ops.size) ->
  (∀(i:Nat) (o:Oper),ops[i]?=some o->listed.getD i false=true->∀e∈o.after.toList,Region.binds .any e=true->listed.getD e.on false=true) ->
  pairsOk C ops (p++q)=true->(∀y∈q,reachB ops ops.size b y=true)->(∀x∈p,reachB ops ops.size x b=true\/swapC C ops as b x=true/\calmO C ops x=true)->p.Pairwise (λa x=>a∈as->reachB ops ops.size x b=true\/calm1 C ops a x=true)->(∀t,t∉ms->keep (e0 t) (e t)) ->
  dops C ops (λe1 h1=>dops C ops (λe2 h2=>sameT C ops as e2 h2 (dops C ops K q e2 h2)) [b] e1 h1) p e h->Rel C B e h a w->wpAnyIn (wideR ro) nn C.P .any ops Q fuel listed a w:=by
 intro fuel
 induction fuel with
 | zero=>
   intro p listed e h a w hf
   simp at hf
 | succ fuel ih=>
   intro p listed e h a w hf hsz hnd hiff hlt hdc hp hq hpb hpw hkeep hk hR
   refine⟨λhnil=>absurd hnil (zafd hback _ listed hsz hiff hlt (by simp)),λi hi=>?_⟩
   unfold Region.ready at hi
   rw[List.mem_filter]at hi
   obtain⟨hi1,hi2⟩:=hi
   have his:=List.mem_range.1 hi1
   rw[Bool.and_eq_true]at hi2
   obtain⟨hi3,hi4⟩:=hi2
   have hl:listed.getD i false=false:=by
    rw[Array.getD_eq_getD_getElem?]at hi3 |-
    rw[Array.getElem?_eq_getElem (by omega)]at hi3 |-
    simpa using hi3
   have hic:=(hiff i his).1 hl
   obtain⟨o,ho⟩:∃o,ops[i]?=some o:=⟨_,Array.getElem?_eq_getElem his⟩
   rw[ho]at hi4
   simp only[Option.map_some,Option.getD_some]at hi4
   have hedges:∀e∈o.after.toList,Region.binds .any e=true->listed.getD e.on false=true:=λe he hb=>by
    have:=(Array.all_eq_true'.1 hi4) e (by simpa using he)
    rw[hb]at this;simpa using this
   have hset:∀j,j<ops.size->(listed.setIfInBounds i true).getD j false=if j=i then true else listed.getD j false:=λj hj=>by
    simp only[Array.getD_eq_getD_getElem?,Array.getElem?_setIfInBounds]
    by_cases hji:j=i
    . subst hji;simp[show j<listed.size by omega]
    . simp[Ne.symm hji,hji]
   have hdc':∀(j:Nat) (oj:Oper),ops[j]?=some oj->(listed.setIfInBounds i true).getD j false=true->∀e∈oj.after.toList,Region.binds .any e=true->(listed.setIfInBounds i true).getD e.on false=true:=by
    intro j oj hoj hlj ed hed hbd
    have hjs:j<ops.size:=by
     rcases Nat.lt_or_ge j ops.size with h1 | h1
     . exact h1
     . rw[Array.getElem?_eq_none h1]at hoj;cases hoj
    have hes:ed.on<ops.size:=by have:=hback j oj hoj ed hed hbd;omega
    rw[hset _ hes]
    by_cases hei:ed.on=i
    . simp[hei]
    . rw[if_neg hei]
      rw[hset j hjs]at hlj
      by_cases hji:j=i
      . subst hji
        rw[ho]at hoj;cases hoj
        exact hedges ed hed hbd
      . rw[if_neg hji]at hlj
        exact hdc j oj hoj hlj ed hed hbd
   have notin:∀x,x∈p++b :: q->reachB ops ops.size x i=true->False:=λx hx hr=>by
    have h2:=zmt hdc ho hedges hr
    have h3:=(hiff x (hlt x hx)).2 hx
    rw[h2]at h3;cases h3
   rcases List.mem_append.1 hic with hip | hip
   . 
    obtain⟨p1,p2,rfl⟩:=List.append_of_mem hip
    rw[show(p1++i :: p2)++q=p1++i :: (p2++q)by simp]at hp
    obtain⟨hpo,hpr⟩:=za45 hp
    have hswap:∀x∈p1,swapOk C ops x i=true:=λx hx=>by
     rcases hpo x hx with h1 | h1
     . exact(notin x (by simp[hx]) h1).elim
     . exact h1
    have hb:=zo5 hC hR.sub.fin hswap hk
    rw[zbu ho]at hb
    refine wpOpIn_mono ?_ (zsk hC ho hR hb)
    rintro a' w' ⟨u,h',hk',hR',hd'⟩
    have hperm:((p1++i :: p2)++b :: q).Perm (i :: ((p1++p2)++b :: q)):=by
     simp only[List.append_assoc,List.cons_append]
     exact List.perm_middle
    have hnd':=(hperm.nodup_iff).1 hnd
    rw[List.nodup_cons]at hnd'
    refine ih (p1++p2) (listed.setIfInBounds i true) (e.upd C.rt u) h' a' w' ?_ (by simpa using hsz) hnd'.2 ?_ ?_ hdc' (by simpa using hpr) hq ?_ ?_ ?_ hk' hR'
    . simp at hf |-;omega
    . intro j hj
      rw[hset j hj]
      by_cases hji:j=i
      . subst hji;simp only[if_true];exact⟨(λhh=>by cases hh),λhh=>absurd hh hnd'.1⟩
      . rw[if_neg hji,hiff j hj,hperm.mem_iff,List.mem_cons]
        exact⟨λhh=>hh.resolve_left hji,.inr⟩
    . exact λj hj=>hlt j (hperm.mem_iff.2 (List.mem_cons_of_mem _ hj))
    . exact λx hx=>hpb x (by rcases List.mem_append.1 hx with h1 | h1<;>simp[h1])
    . exact hpw.sublist (List.Sublist.append_left (List.sublist_cons_self _ _) _)
    . intro t ht
      exact(hkeep t ht).trans (zug λd hd hh=>ht (by rw[hh];exact hms i o ho d (hd' d hd)))
   . rcases List.mem_cons.1 hip with rfl | hiq
     . 
      rw[hob]at ho;cases ho
      have hpw':p.Pairwise λa x=>a∈as->calm1 C ops a x=true:=by
       refine hpw.imp_of_mem λ{a x} _ hx hh ha=>?_
       rcases hh ha with h1 | h1
       . exact(notin x (by simp[hx]) h1).elim
       . exact h1
      have hpb':∀x∈p,swapC C ops as i x=true/\calmO C ops x=true:=λx hx=>by
       rcases hpb x hx with h1 | h1
       . exact(notin x (by simp[hx]) h1).elim
       . exact h1
      have hperm:(p++i :: q).Perm (i :: (p++q)):=List.perm_middle
      have hnd':=(hperm.nodup_iff).1 hnd
      rw[List.nodup_cons]at hnd'
      have hk1:dops C ops (λe1 h1=>stepT C ops ob e1 h1 λu2 h2=>(∀a∈as,a∈([]:List Nat)\/a∈p->chk1 C ops a (e1.upd C.rt u2) h2)/\dops C ops K q (e1.upd C.rt u2) h2) p e h:=by
       refine zw0 hC (λe1 h1 hh=>?_) hk
       rw[zbu hob]at hh
       refine zay hC _ _ _ (λu h' _ hh=>?_) hh
       have hh:sameT C ops as (e1.upd C.rt u) h' (dops C ops K q (e1.upd C.rt u) h'):=hh
       rw[za9a]at hh
       exact⟨λa ha _=>hh.1 a ha,hh.2⟩
      have hb:=bubbleC hC hob hload hR.sub.fin hpb' hpw' (λ_ _ hh=>by cases hh) hk1
      have hb2:stepT C ops ob e h λu h'=>dops C ops K (p++q) (e.upd C.rt u) h':=zay hC _ _ _ (λu h' _ hh=>zwo hC hh.2) hb
      refine wpOpIn_mono ?_ (zsk hC hob hR hb2)
      rintro a' w' ⟨u,h',hk',hR',hd'⟩
      refine za3k hC hms hQ hback fuel (p++q) (listed.setIfInBounds i true) (e.upd C.rt u) h' a' w' ?_ (by simpa using hsz) hnd'.2 ?_ ?_ hdc' hp ?_ hk' hR'
      . simp at hf |-;omega
      . intro j hj
        rw[hset j hj]
        by_cases hji:j=i
        . subst hji;simp only[if_true];exact⟨(λhh=>by cases hh),λhh=>absurd hh hnd'.1⟩
        . rw[if_neg hji,hiff j hj,hperm.mem_iff,List.mem_cons]
          exact⟨λhh=>hh.resolve_left hji,.inr⟩
      . exact λj hj=>hlt j (hperm.mem_iff.2 (List.mem_cons_of_mem _ hj))
      . intro t ht
        exact(hkeep t ht).trans (zug λd hd hh=>ht (by rw[hh];exact hms i ob hob d (hd' d hd)))
     . exact(notin b (by simp) (hq i hiq)).elim
end
end Den
end

section
namespace Den
open Go
variable {F : Fence} {n : Nat} {P : Program} {ops : Array Oper} {Q : Exit → Act → World → Prop}
def keepQ(ts:List Nat)(a0:Act)(Q:Exit->Act->World->Prop):Exit->Act->World->Prop:=λe a' w'=>
 Q e a' w'/\(e=.normal->∀t,t∉ts->a'.tmps[t]?=a0.tmps[t]?)
theorem zor{a:Act}{dst:Option Nat}{v:Value}{ts:List Nat}(hd:∀d,dst=some d->d∈ts):∀t,t∉ts->(a.put dst v).tmps[t]?=a.tmps[t]?:=λt ht=>by
 cases dst with
 | none=>rfl
 | some d=>exact zap (λhh=>ht (by rw[hh];exact hd d rfl))
theorem zakw{o:Oper}{a a0:Act}{w:World}{K:Act->World->Prop}{ts:List Nat}(hd:∀d,o.dst=some d->d∈ts)
 (hh:o.wpIn F n P a w K Q):o.wpIn F n P a w (λa' w'=>K a' w'/\∀t,t∉ts->a'.tmps[t]?=a.tmps[t]?) (keepQ ts a0 Q):=by
 unfold Oper.wpIn at *
 refine⟨hh.1,?_⟩
 have hh:=hh.2
 have hlet:LetsOut Q->LetsOut (keepQ ts a0 Q):=λ⟨x,y,hxy⟩=>⟨x,y,hxy,λhe=>by cases he⟩
 generalize (o.semAt F.round a.eval).run P w=r at *
 cases r with
 | ok x w'=>
   cases x<;>simp only[Oper.uponIn]at hh |- <;>
    first
     | exact⟨hh,zor hd⟩
     | exact⟨hh.1,CallsIn.mono hh.2 (λe w'' he=>by cases e<;>first | exact⟨he,zor hd⟩ | exact⟨he,λhx=>by cases hx⟩ | exact hlet he)⟩
     | exact⟨hh.1,RowsIn.mono hh.2 (λ_ _ he=>⟨he,zor hd⟩)⟩
     | exact⟨hh.1,RoundIn.mono hh.2 (λe w'' he=>by cases e<;>first | exact⟨he,zor hd⟩ | exact⟨he,λhx=>by cases hx⟩ | exact hlet he)⟩
 | halt x w'=>cases x<;>simp only[Oper.uponIn]at hh |-<;>first | exact hh | exact⟨hh,λhx=>by cases hx⟩
theorem zxf{i:Nat}{a a0:Act}{w:World}{K:Act->World->Prop}{ts:List Nat}(hd:∀(i:Nat) (o:Oper),ops[i]?=some o->∀d,o.dst=some d->d∈ts)
 (hh:wpOpIn F n P ops Q i K a w):wpOpIn F n P ops (keepQ ts a0 Q) i (λa' w'=>K a' w'/\∀t,t∉ts->a'.tmps[t]?=a.tmps[t]?) a w:=by
 unfold wpOpIn at *
 cases ho:ops[i]? with
 | none=>rw[ho]at hh;exact⟨hh,λ_ _=>rfl⟩
 | some o=>
   rw[ho]at hh
   simp only at hh |-
   split
   . rename_i hw;rw[if_pos hw]at hh;exact zakw (hd i o ho) hh
   . rename_i hw;rw[if_neg hw]at hh;exact⟨hh.1,hh.2,zor (hd i o ho)⟩
theorem zv3{ts:List Nat}(hd:∀(i:Nat) (o:Oper),ops[i]?=some o->∀d,o.dst=some d->d∈ts) :
 ∀{l:List Nat} {a a0:Act} {w:World},(∀t,t∉ts->a.tmps[t]?=a0.tmps[t]?)->wpOpsIn F n P ops Q l a w->wpOpsIn F n P ops (keepQ ts a0 Q) l a w
 | [],a,a0,w,ha,hh=>⟨hh,λ_=>ha⟩
 | i :: r,a,a0,w,ha,hh=>by
   rw[wpOpsIn_cons]at hh |-
   refine wpOpIn_mono ?_ (zxf (a0:=a0) hd hh)
   rintro a' w' ⟨h1,h2⟩
   exact zv3 hd (λt ht=>(h2 t ht).trans (ha t ht)) h1
theorem zn7{ts:List Nat}{md:Region.Mode}(hd:∀(i:Nat) (o:Oper),ops[i]?=some o->∀d,o.dst=some d->d∈ts) :
 ∀{fuel:Nat} {listed:Array Bool} {a a0:Act} {w:World},(∀t,t∉ts->a.tmps[t]?=a0.tmps[t]?)->wpAnyIn F n P md ops Q fuel listed a w->wpAnyIn F n P md ops (keepQ ts a0 Q) fuel listed a w
 | 0,listed,a,a0,w,ha,hh=>⟨hh.1,hh.2,λ_=>ha⟩
 | fuel+1,listed,a,a0,w,ha,hh=>by
   refine⟨λhr=>⟨hh.1 hr,λ_=>ha⟩,λi hi=>?_⟩
   refine wpOpIn_mono ?_ (zxf (a0:=a0) hd (hh.2 i hi))
   rintro a' w' ⟨h1,h2⟩
   exact zn7 hd (λt ht=>(h2 t ht).trans (ha t ht)) h1
end Den
end

section
namespace Den
open Go
variable {ro : Option Nat} {nn : Nat}
theorem zalj{P:Program}{Q:Exit->Act->World->Prop}{c:Code}{σ:Type}(I:σ->Act->World->Prop)(μ:σ->Nat)
 (round:∀s a w,I s a w->c.wpIn (wideR ro) nn P (Exit.then (λa' w'=>∃s',I s' a' w'/\μ s'<μ s) Q) a w) {s:σ} {a:Act} {w:World} (h0:I s a w):(Code.loop c).wpIn (wideR ro) nn P Q a w:=by
 intro b k cs hro hb hr
 have key:∀n s a w,μ s=n->I s a w ->
  ∃e a' w',Q e a' w'/\ArrivesIn (Machine.fenced P (wideR ro)) P (lone (b.atR a (.code c :: .inLoop c :: k)) cs w) b k cs e a' w':=by
  intro n
  induction n using Nat.strongRecOn with
  | _ n ih=>
    intro s a w hn hI
    obtain⟨e,a₁,w₁,hq,harr⟩:=round s a w hI b (.inLoop c :: k) cs hro hb hr
    cases e with
    | normal=>
      obtain⟨s',hI₁,hlt⟩:=hq
      obtain⟨e₂,a₂,w₂,hq₂,harr₂⟩:=ih (μ s') (hn▸hlt) s' a₁ w₁ rfl hI₁
      exact⟨e₂,a₂,w₂,hq₂,.of_steps (StepsIn.trans harr (.one (fenced_calm hb hr rfl) stepR_inLoop)) harr₂⟩
    | exit id=>exact⟨_,a₁,w₁,hq,.pass (x:=.inLoop c) rfl (λ_ _=>.inl (by simp)) harr⟩
    | goto l=>exact⟨_,a₁,w₁,hq,.pass (x:=.inLoop c) rfl (λ_ _=>.inl (by simp)) harr⟩
    | ret=>exact⟨_,a₁,w₁,hq,.pass (x:=.inLoop c) rfl (λ_ _=>.inl (by simp)) harr⟩
    | panic ch=>exact⟨_,a₁,w₁,hq,.pass (x:=.inLoop c) rfl (λ_ _=>.inl (by simp)) harr⟩
    | outgrown=>exact⟨_,a₁,w₁,hq,.pass (x:=.inLoop c) rfl (λ_ _=>.inl (by simp)) harr⟩
 obtain⟨e,a',w',hq,harr⟩:=key _ s a w rfl h0
 exact⟨e,a',w',hq,.of_steps (.one (fenced_calm hb hr rfl) stepR_loop) harr⟩
section
variable {C : Cfg} {B : Base}
def exM:Ex->Exit->Prop
 | .normal,.normal=>True
 | .exit i,.exit j=>i=j
 | .ret,.ret=>True
 | _,_=>False
def Out(C:Cfg)(B:Base)(ms ts:List Nat)(a0:Act)(e:Env)(K:Ex->Env->Hp->Prop):Exit->Act->World->Prop:=λx a' w'=>
 ∃ex e' h',exM ex x/\K ex e' h'/\Rel C B e' h' a' w'/\(∀t,t∉ms->keep (e t) (e' t))/\∀t,t∉ts->a'.tmps[t]?=a0.tmps[t]?
def BackFn(P:Program)(gf:Nat)(T:STy):Prop:=
 (∀args w,(callFunc gf args).run P w=.ok (.enter gf args) w) /\
 ∀(l:Nat) (ab:Addr) (x:Sl) (J:Nat->World->Prop) (w:World),x.len<=140737488355328->J x.len w ->
  (∀i W,J i W->W.cell? ab=some (.slice x.a x.len x.cap)) ->
  (∀i W,i<x.len->J (i+1) W->∃(ad:Addr) (v:T.T),x.a=some ad/\(∀j u,(T.cells v)[j]?=some u->W.cell? (ad.add (i*T.size+j))=some u) /\
    ∃f tmps asg body,(Instr.yield l #[.int .i64 i,T.val v]).run P W=.ok (.round l f tmps asg body) W/\RoundIn Fence.wide 0 P l f tmps asg body W λe W'=>e=.returned (.bool true)/\J i W') ->
  CallsIn Fence.wide 0 P gf #[.func (.yield l) #[] #[],.pointer (some ab)] w λe w'=>(∃v,e=.returned v)/\J 0 w'
def BackTab(P:Program):List (Nat×STy)->Prop
 | []=>True
 | (g,T) :: r=>BackFn P g T/\BackTab P r
theorem BackTab.get{P:Program}:∀{l:List (Nat×STy)},BackTab P l->∀g T,lookB g l=some T->BackFn P g T
 | [],_,_,_,h=>by cases h
 | (x,y) :: r,hb,g,T,h=>by
   unfold lookB at h
   by_cases hg:g=x
   . subst hg;rw[beqT]at h;cases h;exact hb.1
   . rw[beqF hg]at h;exact BackTab.get hb.2 g T h
theorem zaib{P:Program}{n m:Nat}{l:Nat}{f:FuncId}{tmps:Array Value}{asg body:Code}{w:World}{R:Ending->World->Prop}
 (h:RoundIn Fence.wide n P l f tmps asg body w R):RoundIn Fence.wide m P l f tmps asg body w R:=⟨h.1,λc cs _=>h.2 c cs (room_wide _)⟩
theorem LT.dn_iff:∀{ls:List Lf} {vs:List Value} {K:LT ls->Prop},LT.dn ls vs K↔∃x,vs=LT.up ls x/\K x
 | [],[],K=>by
   unfold LT.dn
   exact⟨λhk=>⟨(),rfl,hk⟩,λ⟨x,_,hk⟩=>hk⟩
 | [],v :: vs,K=>by
   simp only[LT.dn,false_iff]
   rintro⟨x,hx,_⟩;cases hx
 | l :: r,[],K=>by
   simp only[LT.dn,false_iff]
   rintro⟨x,hx,_⟩;cases hx
 | l :: r,v :: vs,K=>by
   unfold LT.dn
   rw[Lf.dn_iff]
   constructor
   . rintro⟨x,rfl,hk⟩
     rw[LT.dn_iff]at hk
     obtain⟨y,rfl,hk⟩:=hk
     exact⟨(x,y),rfl,hk⟩
   . rintro⟨⟨x,y⟩,hx,hk⟩
     have hx':v :: vs=l.up x :: LT.up r y:=hx
     cases hx'
     exact⟨x,rfl,LT.dn_iff.2 ⟨y,rfl,hk⟩⟩
theorem STy.dn_iff{s:STy}{sl:Slot}{K:s.T->Prop}:s.dn sl K↔∃x,sl=s.up x/\K x:=by
 cases s with
 | leaf l=>
   cases sl with
   | val v=>
     exact(Lf.dn_iff (l:=l) (v:=v) (K:=K)).trans ⟨λ⟨x,h1,h2⟩=>⟨x,by rw[h1];rfl,h2⟩,λ⟨x,h1,h2⟩=>⟨x,by cases h1;rfl,h2⟩⟩
   | _=>exact⟨λhh=>hh.elim,λ⟨x,hx,_⟩=>by cases hx⟩
 | agg ls=>
   cases sl with
   | val v=>
     cases v with
     | agg cs=>
       refine(LT.dn_iff (ls:=ls) (vs:=cs.toList) (K:=K)).trans ⟨?_,?_⟩
       . rintro⟨x,h1,h2⟩
         refine⟨x,?_,h2⟩
         show Slot.val (.agg cs)=Slot.val (.agg (LT.up ls x).toArray)
         rw[<-h1]
       . rintro⟨x,h1,h2⟩
         have h1':Slot.val (.agg cs)=Slot.val (.agg (LT.up ls x).toArray):=h1
         simp only[Slot.val.injEq,Value.agg.injEq]at h1'
         exact⟨x,by rw[h1'],h2⟩
     | _=>exact⟨λhh=>hh.elim,λ⟨x,hx,_⟩=>by cases hx⟩
   | _=>exact⟨λhh=>hh.elim,λ⟨x,hx,_⟩=>by cases hx⟩
 | mp=>
   cases sl with
   | mp m=>exact⟨λhh=>⟨m,rfl,hh⟩,λ⟨x,hx,hk⟩=>by cases hx;exact hk⟩
   | _=>exact⟨λhh=>hh.elim,λ⟨x,hx,_⟩=>by cases hx⟩
 | box ls=>
   cases sl with
   | box cs=>
     exact(LT.dn_iff (ls:=ls) (vs:=cs) (K:=K)).trans ⟨λ⟨x,h1,h2⟩=>⟨x,by rw[h1];rfl,h2⟩,λ⟨x,h1,h2⟩=>⟨x,by cases h1;rfl,h2⟩⟩
   | _=>exact⟨λhh=>hh.elim,λ⟨x,hx,_⟩=>by cases hx⟩
theorem zj2:∀{L:List (Nat×STy)} {e:Env} {K:STup L->Prop},packS L e K->∃s,(∀t x,unpack L s t=some x->e t=x)/\K s
 | [],e,K,hk=>⟨(),(λt x hx=>by cases hx),hk⟩
 | (t,s) :: r,e,K,hk=>by
   unfold packS at hk
   obtain⟨x,hx,hk⟩:=STy.dn_iff.1 hk
   obtain⟨xs,h1,h2⟩:=zj2 hk
   refine⟨(x,xs),λt' y hy=>?_,h2⟩
   have hy':(bif Nat.beq t' t then some (s.up x)else unpack r xs t')=some y:=hy
   by_cases ht:t'=t
   . subst ht;rw[beqT]at hy';simp only[cond_true,Option.some.injEq]at hy';rw[<-hy'];exact hx
   . rw[beqF ht]at hy';simp only[cond_false]at hy';exact h1 t' y hy'
theorem zui{e e':Env}{ms:List Nat}{L:List (Nat×STy)}{s:STup L}(hs:∀t x,unpack L s t=some x->e' t=x)(hk:∀t,t∉ms->keep (e t) (e' t))(t:Nat) :
 mkEnv e ms L s t=.junk\/(mkEnv e ms L s t=e' t):=by
 unfold mkEnv
 cases hu:unpack L s t with
 | some x=>exact .inr (hs t x hu).symm
 | none=>
   simp only
   cases hm:memN t ms with
   | true=>exact .inl rfl
   | false=>
     simp only[cond_false]
     have hkt:=hk t (λhh=>by rw[zbm.2 hh]at hm;cases hm)
     cases he:e t with
     | val v=>right;exact(hkt.2 v he).symm
     | box cs=>right;have:=hkt.1 (.inl ⟨cs,he⟩);rw[this,he]
     | mp m=>right;have:=hkt.1 (.inr (.inl ⟨m,he⟩));rw[this,he]
     | mr=>right;have:=hkt.1 (.inr (.inr he));rw[this,he]
     | _=>exact .inl rfl
theorem zafg{e e':Env}{ms:List Nat}{L:List (Nat×STy)}{s:STup L}(t off:Nat):mkEnv e ms L s t≠.ref off:=by
 unfold mkEnv
 cases hu:unpack L s t with
 | some x=>
   simp only
   intro hx
   subst hx
   revert hu s
   induction L with
   | nil=>intro s hu;cases hu
   | cons p r ih=>
     intro s hu
     obtain⟨t',sy⟩:=p
     unfold unpack at hu
     by_cases ht:t=t'
     . subst ht;rw[beqT]at hu
       simp only[cond_true,Option.some.injEq]at hu
       cases sy<;>cases hu
     . rw[beqF ht]at hu;exact ih hu
 | none=>
   simp only
   cases hm:memN t ms with
   | true=>intro hh;cases hh
   | false=>
     simp only[cond_false]
     cases he:e t<;>intro hh<;>cases hh
theorem Rel.atMk{e e':Env}{h:Hp}{a:Act}{w:World}(hR:Rel C B e' h a w){ms:List Nat}{L:List (Nat×STy)}{s:STup L}
 (hs:∀t x,unpack L s t=some x->e' t=x) (hk:∀t,t∉ms->keep (e t) (e' t)):Rel C B (mkEnv e ms L s) h a w where
 sub:=hR.sub
 sz:=hR.sz
 defers:=hR.defers
 fr:=hR.fr
 dom:=hR.dom
 vals:=λt v ht=>by
  rcases zui hs hk t with h1 | h1
  . rw[h1]at ht;cases ht
  . rw[h1]at ht;exact hR.vals t v ht
 hid:=λt ht=>by
  rcases zui hs hk t with h1 | h1
  . rw[h1]at ht;cases ht
  . rw[h1]at ht |-;exact hR.hid t ht
 inj:=λt t' b i1 i2 i3 i4=>by
  rcases zui hs hk t with h1 | h1
  . rw[h1]at i1;cases i1
  . rcases zui hs hk t' with h2 | h2
    . rw[h2]at i2;cases i2
    . rw[h1]at i1 i3;rw[h2]at i2 i4;exact hR.inj t t' b i1 i2 i3 i4
 refs:=λt off ht=>absurd ht (zafg (e':=e') t off)
 mrs:=λt ht=>by
  rcases zui hs hk t with h1 | h1
  . rw[h1]at ht;cases ht
  . rw[h1]at ht;exact hR.mrs t ht
theorem za0d{e e':Env}{ms:List Nat}{L:List (Nat×STy)}{s:STup L}(hs:∀t x,unpack L s t=some x->e' t=x)(hk:∀t,t∉ms->keep (e t) (e' t)){t:Nat}
 (ht:t∉ms):keep (e t) (mkEnv e ms L s t):=by
 unfold mkEnv
 cases hu:unpack L s t with
 | some x=>simp only;rw[<-hs t x hu];exact hk t ht
 | none=>
   simp only
   have hm:memN t ms=false:=by
    cases hm:memN t ms with
    | false=>rfl
    | true=>exact absurd (zbm.1 hm) ht
   rw[hm]
   simp only[cond_false]
   cases he:e t with
   | val v=>exact keep.refl _
   | box cs=>exact keep.refl _
   | lit cs n=>exact⟨(λhh=>by rcases hh with ⟨_,hh⟩ | ⟨_,hh⟩ | hh<;>cases hh),(λv hv=>by cases hv)⟩
   | mp m=>exact keep.refl _
   | mr=>exact keep.refl _
   | ref off=>exact⟨(λhh=>by rcases hh with ⟨_,hh⟩ | ⟨_,hh⟩ | hh<;>cases hh),(λv hv=>by cases hv)⟩
   | junk=>exact keep.refl _
open Classical in
noncomputable def rebD(e:Env)(h:Hp)(a:Act):Hp:=λk=>
 if h k≠none\/∃t,isHid (e t)=true/\a.tmps[t]?=some (hidV k (e t))then some ⟨[],0,(0,0)⟩else none
theorem zal3{e:Env}{h:Hp}{a:Act}{k:Nat}(hk:rebD e h a k=none):h k=none/\∀t,isHid (e t)=true->a.tmps[t]?=some (hidV k (e t))->False:=by
 unfold rebD at hk
 split at hk
 . cases hk
 . rename_i hh
   refine⟨Classical.byContradiction λhx=>hh (.inl hx),λt h1 h2=>hh (.inr ⟨t,h1,h2⟩)⟩
theorem zal4{e:Env}{h:Hp}{a:Act}{k:Nat}(hk:h k≠none\/∃t,isHid (e t)=true/\a.tmps[t]?=some (hidV k (e t))):rebD e h a k≠none:=by
 unfold rebD
 rw[if_pos hk];simp
theorem Rel.rebase{e:Env}{h:Hp}{a:Act}{w:World}(hR:Rel C B e h a w):Rel C ⟨rebD e h a,w,0⟩ e h a w where
 sub:=hR.sub
 sz:=hR.sz
 defers:=hR.defers.mono (Nat.zero_le _) λ_ hr=>hr
 fr:=Fr.refl _ _
 dom:=λk h1 h2=>absurd (zal3 h2).1 h1
 vals:=hR.vals
 hid:=λt ht=>by
  obtain⟨h1,b,el,h2,h3,h4,_⟩:=hR.hid t ht
  exact⟨h1,b,el,h2,h3,h4,.inr (zal4 (.inr ⟨t,ht,h2⟩))⟩
 inj:=hR.inj
 refs:=hR.refs
 mrs:=hR.mrs
section
variable {e0 e1 : Env} {h0 h1 : Hp} {a0 a1 : Act} {w0 w1 : World}
theorem zabz(hR:Rel C B e0 h0 a0 w0){k:Nat}(hk:B.D k=none)(hlt:k<B.w.heap.size):rebD e0 h0 a0 k=none:=by
 cases hh:rebD e0 h0 a0 k with
 | none=>rfl
 | some b=>
   exfalso
   unfold rebD at hh
   split at hh
   . rename_i hx
     rcases hx with hx | ⟨t,h1,h2⟩
     . have:=hR.dom k hx hk;omega
     . obtain⟨_,b',_,h3,_,_,h5⟩:=hR.hid t h1
       rw[h2]at h3
       have:=zoi (Option.some.inj h3)
       subst this
       rcases h5 with h5 | h5
       . omega
       . exact h5 hk
   . cases hh
theorem Rel.unrebase(hR:Rel C B e0 h0 a0 w0)(hR1:Rel C ⟨rebD e0 h0 a0,w0,0⟩ e1 h1 a1 w1){ds:List Deferred}(hd:Marks B.nb w1 ds):Rel C B e1 h1 { a1 with defers:=ds } w1 where
 sub:=hR1.sub
 sz:=hR1.sz
 defers:=hd
 fr:=by
  obtain⟨x1,x2,x3,x4,x5,x6⟩:=hR.fr
  obtain⟨y1,y2,y3,y4,y5,y6⟩:=hR1.fr
  refine⟨Nat.le_trans x1 y1,λk hk hD=>?_,y3.trans x3,y4.trans x4,y5.trans x5,Nat.le_trans x6 y6⟩
  have h3:k<w0.heap.size:=Nat.lt_of_lt_of_le hk x1
  rw[y2 k h3 (zabz hR hD hk),x2 k hk hD]
 dom:=λk hk hD=>by
  rcases Nat.lt_or_ge k B.w.heap.size with hlt | hge
  . have h2:=hR1.dom k hk (zabz hR hD hlt)
    have h2':w0.heap.size<=k:=h2
    have:=hR.fr.1;omega
  . exact hge
 vals:=hR1.vals
 hid:=λt ht=>by
  obtain⟨g1,b,el,g2,g3,g4,g5⟩:=hR1.hid t ht
  refine⟨g1,b,el,g2,g3,g4,?_⟩
  rcases g5 with g5 | g5
  . exact .inl (Nat.le_trans hR.fr.1 g5)
  . rcases Nat.lt_or_ge b B.w.heap.size with hlt | hge
    . exact .inr λhD=>g5 (zabz hR hD hlt)
    . exact .inl hge
 inj:=hR1.inj
 refs:=hR1.refs
 mrs:=hR1.mrs
theorem zpi(hR:Rel C B e0 h0 a0 w0)(hR1:Rel C ⟨rebD e0 h0 a0,w0,0⟩ e1 h1 a1 w1){k:Nat}{o:Obj}(hk:w0.heap[k]?=some o)(ho:¬plainO o):w1.heap[k]?=some o:=by
 have hlt:k<w0.heap.size:=zce hk
 have hn:rebD e0 h0 a0 k=none:=by
  cases hh:rebD e0 h0 a0 k with
  | none=>rfl
  | some b=>
    exfalso
    unfold rebD at hh
    split at hh
    . rename_i hx
      rcases hx with hx | ⟨t,h1,h2⟩
      . cases hb:h0 k with
        | none=>exact hx hb
        | some b=>rw[hR.sub k b hb]at hk;cases hk;exact ho trivial
      . obtain⟨_,b',_,h3,h4,_,_⟩:=hR.hid t h1
        rw[h2]at h3
        have:=zoi (Option.some.inj h3)
        subst this
        obtain⟨o',q1,q2⟩:=h4.obj
        rw[q2]at hk;cases hk;exact ho q1
    . cases hh
 rw[hR1.fr.2.1 k hlt hn];exact hk
theorem Rel.putObj(hR:Rel C B e0 h0 a0 w0){l:Nat}{r r':Loop}(hl:B.w.heap.size<=l)(hw:w0.heap[l]?=some (.loop r)):Rel C B e0 h0 a0 (w0.putObj l (Obj.loop r')):=by
 have hne:∀(k:Nat) (o:Obj),w0.heap[k]?=some o->(∀q,o≠Obj.loop q)->(w0.putObj l (Obj.loop r')).heap[k]?=some o:=λk o hk ho=>by
  rw[World.putObj_heap_other (λhh=>by subst hh;rw[hw]at hk;exact ho r (Option.some.inj hk).symm)];exact hk
 refine⟨λk b hb=>hne k _ (hR.sub k b hb) (λq hq=>by cases hq),hR.sz,hR.defers.mono (Nat.le_refl _) (λk hk=>hne k _ hk (λq hq=>by cases hq)),?_,hR.dom,hR.vals,λt ht=>?_,hR.inj,hR.refs,hR.mrs⟩
 . obtain⟨x1,x2,x3,x4,x5,x6⟩:=hR.fr
   refine⟨by rw[World.putObj_size];exact x1,λk hk hD=>?_,x3,x4,x5,x6⟩
   rw[World.putObj_heap_other (by omega)];exact x2 k hk hD
 . obtain⟨g1,b,el,g2,g3,g4,g5⟩:=hR.hid t ht
   exact⟨g1,b,el,g2,g3.mono λo hp hoo=>hne b o hoo (λq hq=>by subst hq;exact hp),g4,g5⟩
theorem Rel.allocObj(hR:Rel C B e0 h0 a0 w0)(o:Obj):Rel C B e0 h0 a0 (w0.alloc o):=
 hR.step (hR.sub.alloc o) (Fr.alloc h0 w0 o) λ_ h1 h2=>absurd h2 h1
theorem Rel.withDefers(hR:Rel C B e0 h0 a0 w0){ds:List Deferred}(hd:Marks B.nb w0 ds):Rel C B e0 h0 { a0 with defers:=ds } w0:=
 ⟨hR.sub,hR.sz,hd,hR.fr,hR.dom,hR.vals,hR.hid,hR.inj,hR.refs,hR.mrs⟩
end
theorem Rel.roundEnd{e e2:Env}{h1 h2:Hp}{a a2:Act}{w1 w2:World}{ms:List Nat}{L:List (Nat×STy)}{s s':STup L}(hJ:Rel C B (mkEnv e ms L s) h1 a w1)(hE:Rel C B e2 h2 a2 w2)
 (hL:∀q∈L,isBoxT q.2=true) (hs:∀t x,unpack L s' t=some x->e2 t=x) (hk:∀t,t∉ms->keep (mkEnv e ms L s t) (e2 t))
 (ht:∀t,isHid (mkEnv e ms L s t)=true->a2.tmps[t]?=a.tmps[t]?) (hm:Marks B.nb w2 a.defers):Rel C B (mkEnv e ms L s') h2 a w2:=by
 have hbox:∀(L:List (Nat×STy)) (z:STup L),(∀q∈L,isBoxT q.2=true)->∀t y,unpack L z t=some y->∃cs,y=.box cs:=by
  intro L
  induction L with
  | nil=>intro z _ t y hu;cases hu
  | cons p r ih=>
    intro z hb t y hu
    obtain⟨t',sy⟩:=p
    unfold unpack at hu
    by_cases htt:t=t'
    . subst htt;rw[beqT]at hu
      simp only[cond_true,Option.some.injEq]at hu
      have:=hb _ (List.mem_cons_self)
      cases sy with
      | box ls=>exact⟨_,hu.symm⟩
      | _=>cases this
    . rw[beqF htt]at hu;exact ih z.2 (λq hq=>hb q (List.mem_cons_of_mem _ hq)) t y hu
 have hsome:∀(L:List (Nat×STy)) (z z':STup L) t,(∃y,unpack L z t=some y)->∃y,unpack L z' t=some y:=by
  intro L
  induction L with
  | nil=>intro z z' t ⟨y,hy⟩;cases hy
  | cons p r ih=>
    intro z z' t ⟨y,hy⟩
    obtain⟨t',sy⟩:=p
    unfold unpack at hy |-
    by_cases htt:t=t'
    . subst htt;rw[beqT];exact⟨_,rfl⟩
    . rw[beqF htt]at hy |-;exact ih z.2 z'.2 t ⟨y,hy⟩
 have back:∀t,isHid (mkEnv e ms L s' t)=true->(∃cs cs',mkEnv e ms L s t=.box cs/\mkEnv e ms L s' t=.box cs'/\e2 t=.box cs')\/∃m,mkEnv e ms L s t=.mp m/\mkEnv e ms L s' t=.mp m/\e2 t=.mp m:=by
  intro t hh
  unfold mkEnv at hh |-
  cases hu:unpack L s' t with
  | some y=>
    obtain⟨cs',rfl⟩:=hbox L s' hL t y hu
    obtain⟨y0,hy0⟩:=hsome L s' s t ⟨_,hu⟩
    obtain⟨cs,rfl⟩:=hbox L s hL t y0 hy0
    rw[hy0]
    exact .inl ⟨cs,cs',rfl,rfl,hs t _ hu⟩
  | none=>
    rw[hu]at hh
    have hu0:unpack L s t=none:=by
     cases hx:unpack L s t with
     | none=>rfl
     | some y=>obtain⟨y',hy'⟩:=hsome L s s' t ⟨y,hx⟩;rw[hu]at hy';cases hy'
    rw[hu0]
    simp only at hh |-
    cases hm:memN t ms with
    | true=>rw[hm]at hh;cases hh
    | false=>
      rw[hm]at hh
      simp only[cond_false]at hh |-
      cases he:e t with
      | box cs=>
        simp only
        refine .inl ⟨cs,cs,rfl,rfl,?_⟩
        have h1:mkEnv e ms L s t=.box cs:=by unfold mkEnv;rw[hu0];simp only[hm,cond_false,he]
        have:=hk t (λhx=>by rw[zbm.2 hx]at hm;cases hm)
        rw[h1]at this
        exact this.1 (.inl ⟨cs,rfl⟩)
      | mp m=>
        simp only
        refine .inr ⟨m,rfl,rfl,?_⟩
        have h1:mkEnv e ms L s t=.mp m:=by unfold mkEnv;rw[hu0];simp only[hm,cond_false,he]
        have:=hk t (λhx=>by rw[zbm.2 hx]at hm;cases hm)
        rw[h1]at this
        exact this.1 (.inr (.inl ⟨m,rfl⟩))
      | _=>rw[he]at hh;cases hh
 refine⟨hE.sub,hJ.sz,hm,hE.fr,hE.dom,λt v hv=>?_,λt hh=>?_,λt t' b i1 i2 i3 i4=>?_,λt off hh=>absurd hh (zafg (e':=e2) t off),λt hh=>?_⟩
 . refine hJ.vals t v ?_
   unfold mkEnv at hv |-
   cases hu:unpack L s' t with
   | some y=>rw[hu]at hv;obtain⟨cs,rfl⟩:=hbox L s' hL t y hu;cases hv
   | none=>
     have hu0:unpack L s t=none:=by
      cases hx:unpack L s t with
      | none=>rfl
      | some y=>obtain⟨y',hy'⟩:=hsome L s s' t ⟨y,hx⟩;rw[hu]at hy';cases hy'
     rw[hu]at hv;rw[hu0];exact hv
 . rcases back t hh with ⟨cs,cs',c1,c2,c3⟩ | ⟨m,c1,c2,c3⟩
   . obtain⟨g1,b,el,g2,g3,g4,g5⟩:=hE.hid t (by rw[c3];rfl)
     rw[c3]at g2 g3
     rw[ht t (by rw[c1];rfl)]at g2
     exact⟨g1,b,el,by rw[c2];exact g2,by rw[c2];exact g3,g4,g5⟩
   . obtain⟨g1,b,el,g2,g3,g4,g5⟩:=hE.hid t (by rw[c3];rfl)
     rw[c3]at g2 g3
     rw[ht t (by rw[c1];rfl)]at g2
     exact⟨g1,b,el,by rw[c2];exact g2,by rw[c2];exact g3,g4,g5⟩
 . have key:∀t c,isHid (mkEnv e ms L s' t)=true->a.tmps[t]?=some (hidV c (mkEnv e ms L s' t))->isHid (mkEnv e ms L s t)=true/\a.tmps[t]?=some (hidV c (mkEnv e ms L s t)):=λt c j1 j2=>by
    rcases back t j1 with ⟨cs,cs',c1,c2,c3⟩ | ⟨m,c1,c2,c3⟩
    . rw[c2]at j2;rw[c1];exact⟨rfl,j2⟩
    . rw[c2]at j2;rw[c1];exact⟨rfl,j2⟩
   obtain⟨k1,k2⟩:=key t b i1 i3
   obtain⟨k3,k4⟩:=key t' b i2 i4
   exact hJ.inj t t' b k1 k3 k2 k4
 . refine hJ.mrs t ?_
   unfold mkEnv at hh |-
   cases hu:unpack L s' t with
   | some y=>rw[hu]at hh;obtain⟨cs,rfl⟩:=hbox L s' hL t y hu;cases hh
   | none=>
     have hu0:unpack L s t=none:=by
      cases hx:unpack L s t with
      | none=>rfl
      | some y=>obtain⟨y',hy'⟩:=hsome L s s' t ⟨y,hx⟩;rw[hu]at hy';cases hy'
     rw[hu]at hh;rw[hu0];exact hh
theorem zah6{C:Cfg}{L:List (Nat×STy)}{p0 p1:Nat}{x y:Code}(h:backOk C L p0 p1 x y=true) :
 (∀q∈L,isBoxT q.2=true/\q.1∈modsC C x++modsC C y/\q.1∉p0 :: p1 :: (dstC x++dstC y))/\noRange x=true/\noRange y=true/\C.loc p0=false/\C.loc p1=false/\p0<C.n/\p1<C.n/\p0≠p1:=by
 unfold backOk at h
 simp only[Bool.and_eq_true,List.all_eq_true,Bool.not_eq_true']at h
 obtain⟨⟨⟨⟨⟨⟨⟨h1,h2⟩,h3⟩,h4⟩,h5⟩,h6⟩,h7⟩,h8⟩:=h
 have lt:∀{a b:Nat},Nat.blt a b=true->a<b:=λhh=>by unfold Nat.blt at hh;have:=Nat.le_of_ble_eq_true hh;omega
 refine⟨λq hq=>?_,h2,h3,h4,h5,lt h6,lt h7,λhh=>by rw[hh,beqT]at h8;cases h8⟩
 obtain⟨⟨⟨g1,g2⟩,g3⟩,g4⟩:=h1 q hq
 exact⟨g1,zbm.1 g2,λhm=>by rw[zbm.2 hm]at g3;cases g3⟩
theorem zsr:∀{L:List (Nat×STy)} {s:STup L} {t:Nat} {y:Slot},unpack L s t=some y->∃q∈L,q.1=t
 | [],_,_,_,h=>by cases h
 | (t',sy) :: r,s,t,y,h=>by
   unfold unpack at h
   by_cases htt:t=t'
   . exact⟨_,List.mem_cons_self,htt.symm⟩
   . rw[beqF htt]at h
     obtain⟨q,h1,h2⟩:=zsr (s:=s.2) h
     exact⟨q,List.mem_cons_of_mem _ h1,h2⟩
theorem zg8{C:Cfg}:∀(c:Code) (t:Nat),t∈dstC c->t∈modsC C c
 | .region _ ops _,t,h=>by
   unfold dstC at h;unfold modsC
   rw[List.mem_flatMap]at h |-
   obtain⟨o,h1,h2⟩:=h
   refine⟨o,h1,List.mem_append_left _ ?_⟩
   unfold modsO
   exact List.mem_append_left _ (List.mem_append_left _ h2)
 | .seq a b,t,h=>by
   unfold dstC at h;unfold modsC
   rcases List.mem_append.1 h with h | h
   . exact List.mem_append_left _ (zg8 a t h)
   . exact List.mem_append_right _ (zg8 b t h)
 | .cond _ a b,t,h=>by
   unfold dstC at h;unfold modsC
   rcases List.mem_append.1 h with h | h
   . exact List.mem_append_left _ (zg8 a t h)
   . exact List.mem_append_right _ (zg8 b t h)
 | .block _ a,t,h=>zg8 a t h
 | .loop a,t,h=>zg8 a t h
 | .scope a,t,h=>zg8 a t h
 | .rangeFunc _ _ _ _,t,h=>by cases h
 | .skip,t,h=>by cases h
 | .exit _,t,h=>by cases h
 | .ret,t,h=>by cases h
 | .label _,t,h=>by cases h
 | .goto _,t,h=>by cases h
 | .refuse ..,t,h=>by cases h
theorem Marks.lt{N:Nat}{w:World}:∀{ds:List Deferred},Marks N w ds->∀d∈ds,d≠{ target:=.collected w.heap.size,args:=#[] }
 | [],_,_,h=>by cases h
 | d :: ds,⟨⟨r,h1,_,h3,_⟩,hm⟩,d',hd=>by
   rcases List.mem_cons.1 hd with rfl | hd
   . intro hh
     rw[h1]at hh
     have:=zce h3
     simp only[Deferred.mk.injEq,Target.collected.injEq,and_true]at hh
     omega
   . exact Marks.lt hm d' hd
theorem zah7{nn:Nat}(hBk:BackTab C.P C.backs)(hmk:B.nb<=B.w.heap.size){x y:Code}
 (hx:noRange x=true->∀(B:Base) (l:Nat) (an:An) (K:Ex->Env->Hp->Prop) (e:Env) (h:Hp) (a:Act) (w:World),B.nb<=B.w.heap.size->den C x an K e h->Rel C B e h a w->x.wpIn (wideR (some l)) nn C.P (Out C B (modsC C x) (dstC x) a e K) a w)
 (hy:noRange y=true->∀(B:Base) (l:Nat) (an:An) (K:Ex->Env->Hp->Prop) (e:Env) (h:Hp) (a:Act) (w:World),B.nb<=B.w.heap.size->den C y an K e h->Rel C B e h a w->y.wpIn (wideR (some l)) nn C.P (Out C B (modsC C y) (dstC y) a e K) a w)
 {g:Operand} {p0 p1:Nat} {L:List (Nat×STy)} {b1 b2:An} {K:Ex->Env->Hp->Prop} {e:Env} {h:Hp} {a:Act} {w:World}
 (hk:den C (.rangeFunc g ⟨[p0,p1]⟩ x y) (.back L b1 b2) K e h) (hR:Rel C B e h a w) :
 (Code.rangeFunc g ⟨[p0,p1]⟩ x y).wpIn (wideR none) nn C.P (Out C B (modsC C (.rangeFunc g ⟨[p0,p1]⟩ x y)) (dstC (.rangeFunc g ⟨[p0,p1]⟩ x y)) a e K) a w:=by
 unfold den at hk
 simp only at hk
 cases hok:backOk C L p0 p1 x y with
 | false=>rw[hok]at hk;exact hk.elim
 | true=>
   rw[hok]at hk
   simp only at hk
   obtain⟨hL,nx,ny,lp0,lp1,np0,np1,hp01⟩:=zah6 hok
   replace hk:=zac hR hk
   split at hk
   case h_2=>exact hk.elim
   rename_i gf ad hg
   split at hk
   case h_2=>exact hk.elim
   rename_i T hT
   have hB:=hBk.get gf T hT
   obtain⟨s0,hs0,hbk⟩:=zj2 hk
   obtain⟨xs,I,hxl,hI0,hIbox,hIround,hIend⟩:=hbk
   obtain⟨ms,hms⟩:∃ms,ms=[p0,p1]++modsC C x++modsC C y:=⟨_,rfl⟩
   rw[<-hms]at hIround hIend
   have hmsC:modsC C (.rangeFunc g ⟨[p0,p1]⟩ x y)=ms:=by rw[hms];rfl
   rw[hmsC]
   have hk0:Rel C B (mkEnv e ms L s0) h a w:=hR.atMk hs0 (λ_ _=>keep.refl _)
   have hwB:B.w.heap.size<=w.heap.size:=hR.fr.1
   refine wpIn_rangeFunc λfn hfn=>?_
   obtain⟨rec,hrec⟩:∃rec:LoopState->Option Code->Loop,rec=λst pe=>{ state:=st,pending:=pe,fn,tmps:=a.tmps,params:=⟨[p0,p1]⟩,assign:=x,body:=y,defers:=w.heap.size }:=⟨_,rfl⟩
   obtain⟨W1,hW1⟩:∃W1,(w.alloc (.deferred (some []))).alloc (.loop (rec .ready none))=W1:=⟨_,rfl⟩
   have hL1:W1.heap[w.heap.size+1]?=some (.loop (rec .ready none)):=by
    rw[<-hW1]
    have:=zlj (w:=w.alloc (.deferred (some []))) (o:=.loop (rec .ready none))
    simpa using this
   have hK1:W1.heap[w.heap.size]?=some (.deferred (some [])):=by
    rw[<-hW1,zlk (by simp)];exact zlj
   have hR1:Rel C B (mkEnv e ms L s0) h a W1:=by rw[<-hW1];exact(hk0.allocObj _).allocObj _
   refine⟨w.heap.size+1,[{ target:=.collected w.heap.size,args:=#[] }],W1,{ target:=.fn (.func gf) #[.pointer (some ad)],args:=#[.func (.yield (w.heap.size+1)) #[] #[]] },W1,gf,
    #[.func (.yield (w.heap.size + 1)) #[] #[], .pointer (some ad)], W1, ?_, ?_, ?_, ?_, (fun hh => by cases hh), ?_⟩
   . rw[<-hW1,hrec];exact run_enterLoop_outer _ _ _ _ _
   . have:a.eval g=.func (.func gf) #[] #[.pointer (some ad)]:=hg
     simp only[resolve,this]
     simp[go_sem]
   . intro f' hf';trivial
   . simp[invoke,go_sem,hB.1]
   . refine(callsIn_wide (n:=nn-1)).2 ((callsIn_wide (n:=0)).1 ((hB.2 (w.heap.size+1) ad xs (λi W=>∃s h',I i s h'/\Rel C B (mkEnv e ms L s) h' a W/\W.heap[w.heap.size+1]?=some (.loop (rec .ready none))/\W.heap[w.heap.size]?=some (.deferred (some [])))
      W1 hxl ⟨s0,h,hI0,hR1,hL1,hK1⟩ ?_ ?_).mono ?_))
     . rintro i W ⟨s,h',hI,hR',_,_⟩
       exact hR'.sub.cell (hIbox i s h' hI)
     . rintro i W hi ⟨s,h',hI,hR',hl1,hD1⟩
       obtain⟨ad',v,hxa,hcells,hbody⟩:=hIround i s h' hi hI
       refine⟨ad',v,hxa,λj u hj=>hR'.sub.cell (hcells j u hj),fn,(a.tmps.setIfInBounds p0 (.int .i64 i)).setIfInBounds p1 (T.val v),x,y,?_,?_⟩
       . have:=run_yield (P:=C.P) (args:=#[.int .i64 i,T.val v]) hl1 (by rw[hrec];rfl)
         rw[hrec]at this
         rw[this]
         simp
       . refine zaib (n:=nn) (roundIn_of_wpIn (F:=Fence.wide) trivial ?_)
         have hS:Rel C ⟨rebD (mkEnv e ms L s) h' a,W,0⟩ (((mkEnv e ms L s).set p0 (.val (.int .i64 i))).set p1 (.val (T.val v))) h'
          { tmps:=(a.tmps.setIfInBounds p0 (.int .i64 i)).setIfInBounds p1 (T.val v),defers:=[] } W:=
          ((hR'.rebase.withDefers (ds:=[]) trivial).setVal lp0 np0).setVal lp1 np1
         refine zas (ro:=some (w.heap.size+1)) ?_ (hx nx _ _ b1 _ _ h' _ W (Nat.zero_le _) hbody hS)
         rintro xx a1 w1 ⟨ex,e1,h1,hm,hK,hRx,hkp1,htk1⟩
         cases xx with
         | normal=>
           cases ex<;>first | (exact hm.elim) | skip
           have notC:∀(q:Loop),¬plainO (Obj.loop q):=λq hh=>hh
           have notD:∀q,¬plainO (Obj.deferred q):=λq hh=>hh
           have hm1:Marks B.nb w1 a.defers:=hR'.defers.mono (Nat.le_refl _) λr hr=>zpi hR' hRx hr (notD _)
           have hl2:=zpi hR' hRx hl1 (notC _)
           have hD2:=zpi hR' hRx hD1 (notD _)
           have hB1:Rel C B e1 h1 { a1 with defers:=a.defers } w1:=hR'.unrebase hRx hm1
           refine⟨_,run_beginRound hl2 (by rw[hrec]),?_⟩
           have hB2:=hB1.putObj (r':={ rec .ready none with state:=.busy }) (show B.w.heap.size<=w.heap.size+1 by omega) hl2
           have hS2:=hB2.rebase
           have hma1:Marks 0 (w1.putObj (w.heap.size+1) (Obj.loop { rec .ready none with state:=.busy })) a1.defers:=hRx.defers.mono (Nat.le_refl _) λr hr=>by
            rw[World.putObj_heap_other (λhh=>by rw[hh,hl2]at hr;cases hr)];exact hr
           have hS3:=hS2.withDefers hma1
           refine zas (ro:=some (w.heap.size+1)) ?_ (hy ny _ _ b2 _ _ h1 a1 _ (Nat.zero_le _) hK hS3)
           rintro xx a2 w2 ⟨ex,e2,h2,hm,hK,hRy,hkp2,htk2⟩
           have hl3:=zpi hB2 hRy (World.putObj_heap_same (zce hl2)) (notC _)
           have hD3:=zpi hB2 hRy ((World.putObj_heap_other (by omega)).trans hD2) (notD _)
           cases xx with
           | normal=>
             cases ex<;>first | (exact hm.elim) | skip
             obtain⟨s',hs',hI'⟩:=zj2 hK
             have hm2:Marks B.nb w2 a.defers:=hB2.defers.mono (Nat.le_refl _) λr hr=>zpi hB2 hRy hr (notD _)
             have hE:=hB2.unrebase hRy hm2
             refine⟨_,_,run_endRound none hl3,rfl,s',h2,hI',?_,?_,?_⟩
             . refine(hR'.roundEnd hE (λq hq=>(hL q hq).1) hs' (λt ht=>?_) (λt ht=>?_) hm2).putObj (by omega) hl3
               . have t0:t≠p0:=λhh=>ht (by rw[hms,hh];simp)
                 have t1:t≠p1:=λhh=>ht (by rw[hms,hh];simp)
                 have tx:t∉modsC C x:=λhh=>ht (by rw[hms];simp[hh])
                 have ty:t∉modsC C y:=λhh=>ht (by rw[hms];simp[hh])
                 have:=(hkp1 t tx).trans (hkp2 t ty)
                 rw[Env.set_ne t1,Env.set_ne t0]at this
                 exact this
               . have hnot:t∉p0 :: p1 :: (dstC x++dstC y):=by
                  intro hmem
                  cases hu:unpack L s t with
                  | some z=>
                    obtain⟨q,hq,hqt⟩:=zsr hu
                    exact(hL q hq).2.2 (by rw[hqt];exact hmem)
                  | none=>
                    have hmem2:t∈ms:=by
                     rw[hms]
                     simp only[List.mem_cons,List.mem_append]at hmem
                     rcases hmem with rfl | rfl | hmem | hmem
                     . simp
                     . simp
                     . simp[zg8 x t hmem]
                     . simp[zg8 y t hmem]
                    unfold mkEnv at ht
                    rw[hu]at ht
                    simp only[zbm.2 hmem2,cond_true]at ht
                    cases ht
                 simp only[List.mem_cons,List.mem_append,not_or]at hnot
                 obtain⟨n0,n1,n2,n3⟩:=hnot
                 rw[htk2 t n3,htk1 t n2]
                 simp only
                 rw[Array.getElem?_setIfInBounds_ne (Ne.symm n1),Array.getElem?_setIfInBounds_ne (Ne.symm n0)]
             . rw[World.putObj_heap_same (zce hl3),hrec];rfl
             . exact(World.putObj_heap_other (by omega)).trans hD3
           | _=>
             cases ex<;>first | (exact hm.elim) | (exact hK.elim)
         | _=>
           cases ex<;>first | (exact hm.elim) | (exact hK.elim)
     . rintro e' W2 ⟨⟨v,rfl⟩,s,h',hI,hR',hl,hD⟩
       refine⟨none,_,by have:=run_endLoop (P:=C.P) hl (by rw[hrec];simp);rw[hrec]at this;exact this,?_⟩
       have hRp:=hR'.putObj (r':={ rec .ready none with state:=.exhausted }) (show B.w.heap.size<=w.heap.size+1 by omega) hl
       rw[hrec]at hRp
       refine⟨.normal,mkEnv e ms L s,h',trivial,hIend s h' hI,hRp.withDefers ⟨⟨w.heap.size,rfl,by omega,(World.putObj_heap_other (by omega)).trans hD,λd' hd'=>hR.defers.lt d' hd'⟩,hRp.defers⟩,λt ht=>?_,λt _=>rfl⟩
       exact za0d (e':=mkEnv e ms L s) (λt y hu=>by unfold mkEnv;rw[hu]) (λt ht=>by
        unfold mkEnv
        cases hu:unpack L s t with
        | some z=>
          exfalso
          obtain⟨q,hq,hqt⟩:=zsr hu
          exact ht (by rw[hms,<-hqt];have:=(hL q hq).2.1;rcases List.mem_append.1 this with h1 | h1<;>simp[h1])
        | none=>
          simp only
          have:memN t ms=false:=by
           cases hm:memN t ms with
           | false=>rfl
           | true=>exact absurd (zbm.1 hm) ht
          rw[this]
          simp only[cond_false]
          cases he:e t with
          | val v=>exact keep.refl _
          | box cs=>exact keep.refl _
          | lit cs n=>exact⟨(λhh=>by rcases hh with ⟨_,hh⟩ | ⟨_,hh⟩ | hh<;>cases hh),(λv hv=>by cases hv)⟩
          | mp m=>exact keep.refl _
          | mr=>exact keep.refl _
          | ref off=>exact⟨(λhh=>by rcases hh with ⟨_,hh⟩ | ⟨_,hh⟩ | hh<;>cases hh),(λv hv=>by cases hv)⟩
          | junk=>exact keep.refl _) ht
theorem Rel.pub{e:Env}{h:Hp}{a:Act}{w:World}(hR:Rel C B e h a w){d:Nat}{cs:List Value}(hd:e d=.box cs){K:Addr->Hp->Prop}(hk:newP cs K h) :
 ∃b h',K ⟨b,0,none⟩ h'/\Rel C B (e.alloc C.rt d (.val (.pointer (some ⟨b,0,none⟩)))) h' a w:=by
 obtain⟨g1,b,el,g2,g3,g4,g5⟩:=hR.hid d (by rw[hd];rfl)
 rw[hd]at g2 g3
 have hb:∀t,isHid (e.alloc C.rt d (.val (.pointer (some ⟨b,0,none⟩))) t)=true->t≠d/\e.alloc C.rt d (.val (.pointer (some ⟨b,0,none⟩))) t=e t:=λt ht=>by
  have hn:t≠d:=λhh=>by subst hh;rw[Env.alloc_same]at ht;cases ht
  refine⟨hn,Env.alloc_ne hn λo ho=>?_⟩
  unfold Env.alloc at ht
  rw[beqF hn]at ht
  simp only[cond_false,ho]at ht
  cases hr:Nat.beq (C.rt t) d<;>rw[hr]at ht<;>cases ht
 refine⟨b,_,hk b el g4,⟨?_,hR.sz,hR.defers,hR.fr,?_,?_,?_,?_,?_,?_⟩⟩
 . intro k c hc
   by_cases hkb:k=b
   . subst hkb
     rw[Hp.ins_same]at hc;cases hc
     exact g3
   . rw[Hp.ins_ne hkb]at hc;exact hR.sub k c hc
 . intro k h1 h2
   by_cases hkb:k=b
   . subst hkb
     rcases g5 with g5 | g5
     . exact g5
     . exact absurd h2 g5
   . rw[Hp.ins_ne hkb]at h1;exact hR.dom k h1 h2
 . intro t v ht
   by_cases hn:t=d
   . subst hn
     rw[Env.alloc_same]at ht;cases ht
     exact g2
   . exact hR.vals t v (Env.alloc_val hn ht (by intro hh;cases hh)).1
 . intro t ht
   obtain⟨hn,he⟩:=hb t ht
   rw[he]at ht |-
   obtain⟨k1,b',el',k2,k3,k4,k5⟩:=hR.hid t ht
   refine⟨k1,b',el',k2,k3,?_,k5⟩
   have hbb:b'≠b:=λhh=>by
    subst hh
    exact hn (hR.inj t d b' ht (by rw[hd];rfl) k2 (by rw[hd];exact g2))
   rw[Hp.ins_ne hbb];exact k4
 . intro t t' b' i1 i2 i3 i4
   obtain⟨_,e1⟩:=hb t i1
   obtain⟨_,e2⟩:=hb t' i2
   rw[e1]at i1 i3;rw[e2]at i2 i4
   exact hR.inj t t' b' i1 i2 i3 i4
 . intro t off ht
   have hn:t≠d:=λhh=>by subst hh;rw[Env.alloc_same]at ht;cases ht
   obtain⟨h1,h2⟩:=Env.alloc_val hn ht (by intro hh;cases hh)
   obtain⟨cs',b',k1,k2,k3⟩:=hR.refs t off h1
   refine⟨cs',b',?_,k2,k3⟩
   rw[Env.alloc_ne (h2 off rfl) (by intro o ho;rw[k1]at ho;cases ho)];exact k1
 . intro t ht
   have hn:t≠d:=λhh=>by subst hh;rw[Env.alloc_same]at ht;cases ht
   exact hR.mrs t (Env.alloc_val hn ht (by intro hh;cases hh)).1
theorem zafs:∀{L:List Nat} {K:Env->Hp->Prop} {e:Env} {h:Hp} {a:Act} {w:World},Rel C B e h a w->pubS C L K e h ->
 ∃e' h',K e' h'/\Rel C B e' h' a w/\∀t,t∉L->keep (e t) (e' t)
 | [],K,e,h,a,w,hR,hk=>⟨e,h,hk,hR,λ_ _=>keep.refl _⟩
 | d :: r,K,e,h,a,w,hR,hk=>by
   unfold pubS at hk
   split at hk
   . rename_i cs hd
     obtain⟨b,h',hk2,hR2⟩:=hR.pub hd hk
     obtain⟨e2,h2,k1,k2,k3⟩:=zafs hR2 hk2
     refine⟨e2,h2,k1,k2,λt ht=>?_⟩
     have hn:t≠d:=λhh=>ht (by rw[hh];exact List.mem_cons_self)
     refine keep.trans ?_ (k3 t λhh=>ht (List.mem_cons_of_mem _ hh))
     refine⟨λhb=>?_,λv hv=>?_⟩
     . rcases hb with ⟨cs',hc⟩ | ⟨m,hc⟩ | hc
       . exact Env.alloc_ne hn λo ho=>by rw[hc]at ho;cases ho
       . exact Env.alloc_ne hn λo ho=>by rw[hc]at ho;cases ho
       . exact Env.alloc_ne hn λo ho=>by rw[hc]at ho;cases ho
     . rw[Env.alloc_ne hn λo ho=>by rw[hv]at ho;cases ho];exact hv
   . exact hk.elim
theorem zak5(hC:CfgOK C)(hBk:BackTab C.P C.backs):∀(c:Code) (ro:Option Nat) (B:Base) (an:An) (K:Ex->Env->Hp->Prop) (e:Env) (h:Hp) (a:Act) (w:World),(ro=none\/noRange c=true)->B.nb<=B.w.heap.size->den C c an K e h->Rel C B e h a w ->
 c.wpIn (wideR ro) nn C.P (Out C B (modsC C c) (dstC c) a e K) a w:=by
 intro c
 induction c with
 | skip=>intro ro B an K e h a w hro hmk hk hR;exact wpIn_skip ⟨.normal,e,h,trivial,(by cases an<;>exact hk),hR,λ_ _=>keep.refl _,λ_ _=>rfl⟩
 | exit j=>intro ro B an K e h a w hro hmk hk hR;exact wpIn_exit ⟨.exit j,e,h,rfl,(by cases an<;>exact hk),hR,λ_ _=>keep.refl _,λ_ _=>rfl⟩
 | ret=>intro ro B an K e h a w hro hmk hk hR;exact wpIn_ret ⟨.ret,e,h,trivial,(by cases an<;>exact hk),hR,λ_ _=>keep.refl _,λ_ _=>rfl⟩
 | region id ops draw=>
   intro ro B an K e h a w hro hmk hk hR
   have hdst:∀(i:Nat) (o:Oper),ops[i]?=some o->∀d,o.dst=some d->d∈dstC (.region id ops draw):=λi o hi d hd=>by
    unfold dstC
    rw[List.mem_flatMap]
    exact⟨o,by have:=Array.mem_of_getElem? hi;simpa using this,by rw[hd];simp⟩
   have hms:∀(i:Nat) (o:Oper),ops[i]?=some o->∀d∈modsO C o,d∈modsC C (.region id ops draw):=λi o hi d hd=>by
    unfold modsC
    rw[List.mem_flatMap]
    exact⟨o,by have:=Array.mem_of_getElem? hi;simpa using this,List.mem_append_left _ hd⟩
   have hQ:∀x a' w',keepQ (dstC (.region id ops draw)) a (Behind C B (modsC C (.region id ops draw)) e (K .normal)) x a' w'->Out C B (modsC C (.region id ops draw)) (dstC (.region id ops draw)) a e K x a' w':=by
    rintro x a' w' ⟨⟨rfl,e',h',h1,h2,h3⟩,h4⟩
    exact⟨.normal,e',h',trivial,h1,h2,h3,h4 rfl⟩
   cases draw with
   | false=>
     have hk':dops C ops (K .normal) (List.range ops.size) e h:=by cases an<;>exact hk
     exact zas hQ (wpIn_region (zv3 hdst (λ_ _=>rfl) (za3j hC.tab hms (λ_ _ _ hh=>hh) hR hk')))
   | true=>
     have drawn:∀(order:List Nat) (K0:Env->Hp->Prop),checkDraw C ops order=true->dops C ops K0 order e h ->
      (Code.region id ops true).wpIn (wideR ro) nn C.P (keepQ (dstC (.region id ops true)) a (Behind C B (modsC C (.region id ops true)) e K0)) a w:=by
      intro order K0 hck hk
      unfold checkDraw at hck
      simp only[Bool.and_eq_true]at hck
      obtain⟨⟨⟨⟨⟨⟨hm,hb⟩,hlen⟩,hnd⟩,hlt⟩,hall⟩,hp⟩:=hck
      have hback:∀(i:Nat) (o:Oper),ops[i]?=some o->∀e∈o.after.toList,Region.binds .any e=true->e.on<i:=λi o hi ed hed hbd=>by
       unfold edgesBack at hb
       rw[List.all_eq_true]at hb
       have his:i<ops.size:=by
        rcases Nat.lt_or_ge i ops.size with h1 | h1
        . exact h1
        . rw[Array.getElem?_eq_none h1]at hi;cases hi
       have:=hb i (List.mem_range.2 his)
       rw[hi]at this
       simp only[List.all_eq_true]at this
       have:=this ed hed
       rw[hbd]at this
       simp only[Bool.not_true,Bool.false_or]at this
       unfold Nat.blt at this
       have:=Nat.le_of_ble_eq_true this
       omega
      have nd:∀{l:List Nat},nodupN l=true->l.Nodup:=by
       intro l
       induction l with
       | nil=>intro _;exact List.nodup_nil
       | cons x r ih=>
         intro hh
         simp only[nodupN,Bool.and_eq_true]at hh
         refine List.nodup_cons.2 ⟨λhm=>?_,ih hh.2⟩
         rw[zbm.2 hm]at hh;simp at hh
      have hltN:∀i∈order,i<ops.size:=λi hi=>by
       have:=(List.all_eq_true.1 hlt) i hi
       unfold Nat.blt at this
       have:=Nat.le_of_ble_eq_true this
       omega
      replace hlen:order.length<=ops.size:=Nat.le_of_ble_eq_true hlen
      refine(wpIn_region_any hm (zn7 hdst (λ_ _=>rfl) (za3k hC hms (λ_ _ _ hh=>hh) hback ops.size order (Array.replicate ops.size false) e h a _ hlen (by simp) (nd hnd) (λi hi=>?_) hltN (λi o hi hl=>?_) hp
       (λ_ _=>keep.refl _) hk hR.drew)))
      . have h1:(Array.replicate ops.size false).getD i false=false:=by
         rw[Array.getD_eq_getD_getElem?];simp[hi]
        have h2:=zbm.1 ((List.all_eq_true.1 hall) i (List.mem_range.2 hi))
        exact⟨λ_=>h2,λ_=>h1⟩
      . have h1:(Array.replicate ops.size false).getD i false=false:=by
         rw[Array.getD_eq_getD_getElem?]
         by_cases hi':i<ops.size<;>simp[hi']
        rw[h1]at hl;cases hl
     cases an with
     | draw order=>
       unfold den at hk
       split at hk
       . rename_i hck
         exact zas hQ (drawn order _ hck hk)
       . exact hk.elim
     | drawP order pubs=>
       unfold den at hk
       split at hk
       . rename_i hck
         obtain⟨hc1,hc2⟩:=Bool.and_eq_true_iff.1 hck
         refine zas ?_ (drawn order _ hc1 hk)
         rintro x a' w' ⟨⟨rfl,e',h',h1,h2,h3⟩,h4⟩
         obtain⟨e2,h5,k1,k2,k3⟩:=zafs h2 h1
         refine⟨.normal,e2,h5,trivial,k1,k2,λt ht=>(h3 t ht).trans (k3 t λhm=>ht ?_),h4 rfl⟩
         exact zbm.1 ((List.all_eq_true.1 hc2) t hm)
       . exact hk.elim
     | drawC p b q as=>
       unfold den at hk
       split at hk
       . rename_i hck
         unfold checkDrawC at hck
         simp only[Bool.and_eq_true]at hck
         obtain⟨⟨⟨⟨⟨⟨⟨⟨⟨⟨⟨hm,hb⟩,hlen⟩,hnd⟩,hlt⟩,hall⟩,hp⟩,hq⟩,hpb⟩,hcl⟩,hld⟩,hsome⟩:=hck
         obtain⟨ob,hob⟩:=Option.isSome_iff_exists.1 hsome
         have hback:∀(i:Nat) (o:Oper),ops[i]?=some o->∀e∈o.after.toList,Region.binds .any e=true->e.on<i:=λi o hi ed hed hbd=>by
          unfold edgesBack at hb
          rw[List.all_eq_true]at hb
          have his:i<ops.size:=by
           rcases Nat.lt_or_ge i ops.size with h1 | h1
           . exact h1
           . rw[Array.getElem?_eq_none h1]at hi;cases hi
          have:=hb i (List.mem_range.2 his)
          rw[hi]at this
          simp only[List.all_eq_true]at this
          have:=this ed hed
          rw[hbd]at this
          simp only[Bool.not_true,Bool.false_or]at this
          unfold Nat.blt at this
          have:=Nat.le_of_ble_eq_true this
          omega
         have nd:∀{l:List Nat},nodupN l=true->l.Nodup:=by
          intro l
          induction l with
          | nil=>intro _;exact List.nodup_nil
          | cons x r ih=>
            intro hh
            simp only[nodupN,Bool.and_eq_true]at hh
            refine List.nodup_cons.2 ⟨λhm=>?_,ih hh.2⟩
            rw[zbm.2 hm]at hh;simp at hh
         have hltN:∀i∈p++b :: q,i<ops.size:=λi hi=>by
          have:=(List.all_eq_true.1 hlt) i hi
          unfold Nat.blt at this
          have:=Nat.le_of_ble_eq_true this
          omega
         have hlen:(p++b :: q).length<=ops.size:=Nat.le_of_ble_eq_true hlen
         refine zas hQ (wpIn_region_any hm (zn7 hdst (λ_ _=>rfl) (zaf6 hC hob (λa ha oa hoa=>?_) hms (λ_ _ _ hh=>hh) hback ops.size p (Array.replicate ops.size false) e h a _ hlen (by simp) (nd hnd) (λi hi=>?_) hltN (λi o hi hl=>?_) hp
          (List.all_eq_true.1 hq) (λx hx=>?_) (zaey hcl) (λ_ _=>keep.refl _) hk hR.drew)))
         . have:=(List.all_eq_true.1 hld) a ha
           rw[hoa]at this
           simp only at this
           cases hc:clsO C oa with
           | load=>rfl
           | _=>rw[hc]at this;cases this
         . have h1:(Array.replicate ops.size false).getD i false=false:=by
            rw[Array.getD_eq_getD_getElem?];simp[hi]
           have h2:=zbm.1 ((List.all_eq_true.1 hall) i (List.mem_range.2 hi))
           exact⟨λ_=>h2,λ_=>h1⟩
         . have h1:(Array.replicate ops.size false).getD i false=false:=by
            rw[Array.getD_eq_getD_getElem?]
            by_cases hi':i<ops.size<;>simp[hi']
           rw[h1]at hl;cases hl
         . have:=(List.all_eq_true.1 hpb) x hx
           rw[Bool.or_eq_true,Bool.and_eq_true]at this
           exact this
       . exact hk.elim
     | _=>exact hk.elim
 | seq x y ihx ihy=>
   intro ro B an K e h a w hro hmk hk hR
   have rx:ro=none\/noRange x=true:=hro.imp id λhh=>by unfold noRange at hh;exact(Bool.and_eq_true_iff.1 hh).1
   have ry:ro=none\/noRange y=true:=hro.imp id λhh=>by unfold noRange at hh;exact(Bool.and_eq_true_iff.1 hh).2
   have tail:∀(Kx:Ex->Env->Hp->Prop),x.wpIn (wideR ro) nn C.P (Out C B (modsC C x) (dstC x) a e Kx) a w ->
    (∀e' h' a' w',Kx .normal e' h'->Rel C B e' h' a' w'->(∀t,t∉modsC C x->keep (e t) (e' t))->(∀t,t∉dstC x->a'.tmps[t]?=a.tmps[t]?)->y.wpIn (wideR ro) nn C.P (Out C B (modsC C (.seq x y)) (dstC (.seq x y)) a e K) a' w') ->
    (∀ex e' h',ex≠.normal->Kx ex e' h'->K ex e' h')->(Code.seq x y).wpIn (wideR ro) nn C.P (Out C B (modsC C (.seq x y)) (dstC (.seq x y)) a e K) a w:=by
    intro Kx hx hn ho
    refine wpIn_seq (zas ?_ hx)
    rintro xx a' w' ⟨ex,e',h',hm,hK,hR',hkp,htk⟩
    cases xx with
    | normal=>
      cases ex<;>first | (exact hm.elim) | skip
      exact hn e' h' a' w' hK hR' hkp htk
    | _=>
      cases ex<;>first | (exact hm.elim) | skip
      all_goals exact⟨_,e',h',hm,ho _ _ _ (by simp) hK,hR',(λt ht=>hkp t λhh=>ht (List.mem_append_left _ hh)),λt ht=>htk t λhh=>ht (List.mem_append_left _ hh)⟩
   cases an with
   | seq a1 a2=>
     unfold den at hk
     refine tail _ (ihx ro B a1 _ e h a w rx hmk hk hR) ?_ ?_
     . intro e' h' a' w' hK hR' hkp htk
       refine zas ?_ (ihy ro B a2 K e' h' a' w' ry hmk hK hR')
       rintro xx a'' w'' ⟨ex,e'',h'',hm,hK,hR'',hkp',htk'⟩
       exact⟨ex,e'',h'',hm,hK,hR'',(λt ht=>(hkp t λhh=>ht (List.mem_append_left _ hh)).trans (hkp' t λhh=>ht (List.mem_append_right _ hh))),
        λt ht=>(htk' t λhh=>ht (List.mem_append_right _ hh)).trans (htk t λhh=>ht (List.mem_append_left _ hh))⟩
     . intro ex e' h' hne hK
       cases ex<;>first | (exact absurd rfl hne) | exact hK
   | join L a1 a2=>
     unfold den at hk
     obtain⟨J,hJ,hx⟩:=hk
     refine tail _ (ihx ro B a1 _ e h a w rx hmk hx hR) ?_ ?_
     . intro e' h' a' w' hK hR' hkp htk
       obtain⟨s,hs,hJs⟩:=zj2 hK
       refine zas ?_ (ihy ro B a2 K _ h' a' w' ry hmk (hJ s h' hJs) (hR'.atMk hs hkp))
       rintro xx a'' w'' ⟨ex,e'',h'',hm,hK,hR'',hkp',htk'⟩
       exact⟨ex,e'',h'',hm,hK,hR'',(λt ht=>(za0d hs hkp λhh=>ht (List.mem_append_left _ hh)).trans (hkp' t λhh=>ht (List.mem_append_right _ hh))),
        λt ht=>(htk' t λhh=>ht (List.mem_append_right _ hh)).trans (htk t λhh=>ht (List.mem_append_left _ hh))⟩
     . intro ex e' h' hne hK
       cases ex<;>first | (exact absurd rfl hne) | exact hK
   | _=>exact hk.elim
 | cond c x y ihx ihy=>
   intro ro B an K e h a w hro hmk hk hR
   cases an with
   | cond a1 a2=>
     unfold den at hk
     replace hk:=zac hR hk
     split at hk
     . rename_i t ht
       refine wpIn_cond ht ?_
       cases t with
       | true=>
         refine zas ?_ (ihx ro B a1 K e h a w (hro.imp id λhh=>by unfold noRange at hh;exact(Bool.and_eq_true_iff.1 hh).1) hmk hk hR)
         rintro xx a' w' ⟨ex,e',h',hm,hK,hR',hkp,htk⟩
         exact⟨ex,e',h',hm,hK,hR',(λt ht=>hkp t λhh=>ht (List.mem_append_left _ hh)),λt ht=>htk t λhh=>ht (List.mem_append_left _ hh)⟩
       | false=>
         refine zas ?_ (ihy ro B a2 K e h a w (hro.imp id λhh=>by unfold noRange at hh;exact(Bool.and_eq_true_iff.1 hh).2) hmk hk hR)
         rintro xx a' w' ⟨ex,e',h',hm,hK,hR',hkp,htk⟩
         exact⟨ex,e',h',hm,hK,hR',(λt ht=>hkp t λhh=>ht (List.mem_append_right _ hh)),λt ht=>htk t λhh=>ht (List.mem_append_right _ hh)⟩
     . exact hk.elim
   | _=>exact hk.elim
 | block id x ih=>
   intro ro B an K e h a w hro hmk hk hR
   cases an with
   | block a1=>
     unfold den at hk
     refine wpIn_block (zas ?_ (ih ro B a1 _ e h a w (hro.imp (λhh=>hh) λhh=>hh) hmk hk hR))
     rintro xx a' w' ⟨ex,e',h',hm,hK,hR',hkp,htk⟩
     cases xx with
     | exit j=>
       cases ex<;>first | (exact hm.elim) | skip
       rename_i i
       have hij:i=j:=hm
       subst hij
       simp only[Exit.inBlock]
       by_cases hi:i=id
       . subst hi
         simp only[beqT]at hK
         rw[if_pos rfl]
         exact⟨.normal,e',h',trivial,hK,hR',hkp,htk⟩
       . simp only[beqF hi]at hK
         rw[if_neg hi]
         exact⟨.exit i,e',h',rfl,hK,hR',hkp,htk⟩
     | _=>
       cases ex<;>first | (exact hm.elim) | skip
       all_goals exact⟨_,e',h',hm,hK,hR',hkp,htk⟩
   | _=>exact hk.elim
 | loop x ih=>
   intro ro B an K e h a w hro hmk hk hR
   cases an with
   | loop L a1=>
     unfold den at hk
     obtain⟨s0,hs0,hl⟩:=zj2 hk
     obtain⟨I,μ,hI0,hround⟩:=hl
     refine zalj (σ:=STup L×Hp) (λp a' w=>I p.1 p.2/\Rel C B (mkEnv e (modsC C x) L p.1) p.2 a' w/\(∀t,t∉modsC C x->keep (e t) (mkEnv e (modsC C x) L p.1 t))/\∀t,t∉dstC x->a'.tmps[t]?=a.tmps[t]?) (λp=>μ p.1 p.2)
      ?_ (s:=(s0,h)) ⟨hI0,hR.atMk hs0 (λ_ _=>keep.refl _),(λt ht=>za0d hs0 (λ_ _=>keep.refl _) ht),λ_ _=>rfl⟩
     rintro⟨s,h1⟩ a' w' ⟨hI,hR',hkp0,htk0⟩
     refine zas ?_ (ih ro B a1 _ _ h1 a' w' (hro.imp id λhh=>hh) hmk (hround s h1 hI) hR')
     rintro xx a'' w'' ⟨ex,e'',h'',hm,hK,hR'',hkp,htk⟩
     have htk2:∀t,t∉dstC x->a''.tmps[t]?=a.tmps[t]?:=λt ht=>(htk t ht).trans (htk0 t ht)
     have hkp2:∀t,t∉modsC C x->keep (e t) (e'' t):=λt ht=>(hkp0 t ht).trans (hkp t ht)
     cases xx with
     | normal=>
       cases ex<;>first | (exact hm.elim) | skip
       obtain⟨s',hs',hI',hlt⟩:=zj2 hK
       exact⟨(s',h''),⟨hI',hR''.atMk hs' hkp2,(λt ht=>za0d hs' hkp2 ht),htk2⟩,hlt⟩
     | _=>
       cases ex<;>first | (exact hm.elim) | skip
       all_goals exact⟨_,e'',h'',hm,hK,hR'',hkp2,htk2⟩
   | _=>exact hk.elim
 | rangeFunc g ps x y ihx ihy=>
   intro ro B an K e h a w hro hmk hk hR
   have hro':ro=none:=hro.resolve_right (by unfold noRange;decide)
   subst hro'
   obtain⟨pl⟩:=ps
   match pl,an,hk with
   | [p0,p1],.back L b1 b2,hk=>
     exact zah7 hBk hmk (λnx B l an K e h a w hm hk hR=>ihx (some l) B an K e h a w (.inr nx) hm hk hR) (λny B l an K e h a w hm hk hR=>ihy (some l) B an K e h a w (.inr ny) hm hk hR) hk hR
 | _=>intro ro B an K e h a w hro hmk hk hR;cases an<;>exact hk.elim
def resOne(tmps:Array Value):ResultVar->Sem Value
 | .tmp t=>Pure.pure (tmps.getD t undef)
 | .cell ad t=>do loadVar t (<-asAddr (tmps.getD ad undef))
theorem zan1{rs:List ResultVar}{e:Env}{h:Hp}{a:Act}{w:World}(hR:Rel C B e h a w):∀{K:List Value->Prop},resP C rs e K ->
 ∃vs,K vs/\(rs.mapM (resOne a.tmps)).run C.P w=.ok vs w:=by
 induction rs with
 | nil=>intro K hk;exact⟨[],hk,by simp⟩
 | cons r rs ih=>
   intro K hk
   cases r with
   | tmp t=>
     unfold resP at hk
     split at hk
     . rename_i v hv
       obtain⟨vs,h1,h2⟩:=ih hk
       refine⟨v :: vs,h1,?_⟩
       have:a.tmps.getD t undef=v:=by rw[Array.getD_eq_getD_getElem?,hR.vals t v hv];rfl
       simp only[List.mapM_cons,Sem.run_bind,resOne,this,Sem.run_pure,Result.andThen_ok,h2]
     . exact hk.elim
   | cell t ty=>
     unfold resP at hk
     split at hk
     . rename_i cs hb
       obtain⟨b,el,h3,h4⟩:∃b el,a.tmps[t]?=some (.pointer (some ⟨b,0,none⟩))/\w.heap[b]?=some (.cells cs.toArray el (0,0)):=by
        obtain⟨_,b,el,h1,h2,_,_⟩:=hR.hid t (by rw[hb];rfl)
        rw[hb]at h1 h2
        exact⟨b,el,h1,h2⟩
       obtain⟨v,hv,hrun⟩:=zsf (P:=C.P) h4 hk
       obtain⟨vs,h1,h2⟩:=ih hv
       refine⟨v :: vs,h1,?_⟩
       have:a.tmps.getD t undef=.pointer (some ⟨b,0,none⟩):=by rw[Array.getD_eq_getD_getElem?,h3];rfl
       simp only[List.mapM_cons,Sem.run_bind,resOne,this,asAddr,Sem.run_pure,Result.andThen_ok,hrun,h2]
     . exact hk.elim
theorem zamc(hC:CfgOK C)(hBk:BackTab C.P C.backs){g:FuncId}{fn:Func}{c:Code}{an:An}(hf:C.P.funcs[g]?=some fn)(hb:fn.body=some c)(hn:fn.ntmps=C.n)
 {args:List Value} (ha:args.length<=C.n) {K:Value->Hp->Prop} {D:Hp} {w:World} (hs:Sub D w) (hk:denF C fn c an args K D):Calls C.P g args.toArray w (Post K D w):=by
 refine(callsIn_wide (n:=0)).1 (callsIn_of_wp_marks hf hb trivial ?_)
 have hR:Rel C ⟨D,w,w.heap.size⟩ (env0 args) D { tmps:=args.toArray++Array.replicate (fn.ntmps-args.toArray.size) undef,defers:=[] } w:=by
  have hb:∀t,isHid (env0 args t)=true->False:=λt ht=>by unfold env0 at ht;split at ht<;>cases ht
  refine⟨hs,by simp[hn];omega,trivial,Fr.refl D w,λk h1 h2=>absurd h2 h1,λt v hv=>?_,λt ht=>(hb t ht).elim,λt t' b ht=>(hb t ht).elim,λt off ht=>?_,λt ht=>?_⟩
  . unfold env0 at hv
    split at hv
    . rename_i u hu
      cases hv
      have hlt:t<args.length:=by
       rcases Nat.lt_or_ge t args.length with h1 | h1
       . exact h1
       . rw[List.getElem?_eq_none h1]at hu;cases hu
      simp only
      rw[Array.getElem?_append_left (by simpa using hlt)]
      simpa using hu
    . cases hv
  . unfold env0 at ht;split at ht<;>cases ht
  . unfold env0 at ht;split at ht<;>cases ht
 unfold denF at hk
 refine zas (ro:=none) ?_ (zak5 hC hBk c none _ an _ _ D _ w (.inl rfl) (Nat.le_refl _) hk hR)
 rintro x a' w' ⟨ex,e',h',hm,hK,hR',_,_⟩
 have fin:∀(ds:List Deferred) (w1:World),Rel C ⟨D,w,w.heap.size⟩ e' h' { a' with defers:=ds } w1->resP C fn.results.toList e' (λvs=>K (resV vs) h')->LeavesInM Fence.wide 0 C.P fn a'.tmps (Post K D w) ds .returning w1:=by
  intro ds
  induction ds with
  | nil=>
    intro w1 hR1 hh
    obtain⟨vs,h1,h2⟩:=zan1 hR1 hh
    refine⟨resV vs,?_,resV vs,h',rfl,h1,hR1.sub,hR1.fr,hR1.dom⟩
    have hres:results fn a'.tmps=(do
     let vs <-fn.results.mapM (resOne a'.tmps)
     Pure.pure (if h:vs.size=1 then vs[0]else .tuple vs)):=rfl
    rw[hres,Sem.run_bind,Array.mapM_eq_mapM_toList,Sem.run_map,h2]
    simp only[Result.andThen_ok,Sem.run_pure]
    congr 1
    match vs with
    | []=>rfl
    | [v]=>rfl
    | u :: v :: r=>simp[resV]
  | cons d ds ih=>
    intro w1 hR1 hh
    obtain⟨⟨r,hd,hr1,hr2,hr3⟩,hms⟩:=hR1.defers
    refine⟨by simp,.inl ⟨r,_,by rw[hd],run_takeDeferred hr2,ih _ ?_ hh⟩⟩
    have hne:∀(k:Nat) (o:Obj),w1.heap[k]?=some o->k≠r->(w1.putObj r (.deferred none)).heap[k]?=some o:=λk o hk hkr=>by
     rw[World.putObj_heap_other hkr];exact hk
    have hmarks:∀ds:List Deferred,(∀d'∈ds,d'≠d)->Marks w.heap.size w1 ds->Marks w.heap.size (w1.putObj r (.deferred none)) ds:=by
     intro ds
     induction ds with
     | nil=>intro _ _;trivial
     | cons d2 ds ih2=>
       rintro hnd ⟨⟨r2,g1,g2,g3,g4⟩,g5⟩
       refine⟨⟨r2,g1,g2,hne r2 _ g3 (λhx=>?_),g4⟩,ih2 (λd' hd'=>hnd d' (List.mem_cons_of_mem _ hd')) g5⟩
       exact hnd d2 List.mem_cons_self (by rw[g1,hd,hx])
    have hcell:∀(k:Nat) (c:Array Value) (el:TypeId) (f:Nat×Nat),w1.heap[k]?=some (.cells c el f)->(w1.putObj r (.deferred none)).heap[k]?=some (.cells c el f):=λk c el f hk=>
     hne k _ hk (λhx=>by rw[hx,hr2]at hk;cases hk)
    refine⟨λk b hb=>hcell k _ _ _ (hR1.sub k b hb),hR1.sz,hmarks ds hr3 hms,?_,hR1.dom,hR1.vals,λt ht=>?_,hR1.inj,hR1.refs,hR1.mrs⟩
    . obtain⟨x1,x2,x3,x4,x5,x6⟩:=hR1.fr
      refine⟨by rw[World.putObj_size];exact x1,λk hk hD=>?_,x3,x4,x5,x6⟩
      have hr1':w.heap.size<=r:=hr1
      have hk':k<w.heap.size:=hk
      rw[World.putObj_heap_other (by omega)];exact x2 k hk hD
    . obtain⟨g1,b,el,g2,g3,g4,g5⟩:=hR1.hid t ht
      exact⟨g1,b,el,g2,g3.mono λo hp hoo=>hne b o hoo (λhx=>by subst hx;rw[hr2]at hoo;cases hoo;exact hp),g4,g5⟩
 have hRd:Rel C ⟨D,w,w.heap.size⟩ e' h' { a' with defers:=a'.defers } w':=hR'
 cases x with
 | normal=>
   cases ex<;>first | (exact hm.elim) | skip
   exact fin a'.defers w' hRd hK
 | ret=>
   cases ex<;>first | (exact hm.elim) | skip
   exact fin a'.defers w' hRd hK
 | exit j=>
   cases ex<;>first | (exact hm.elim) | skip
   exact hK.elim
 | _=>cases ex<;>exact hm.elim
end
end Den
end

section
namespace Den
open Go
structure Ty(α:Type) where
 up:α->Value
 dn:Value->(α->Prop)->Prop
 snd:∀v K,dn v K->∃x,v=up x/\K x
 cmp:∀x K,dn (up x) K↔K x
structure ArgT(α:Type) where
 up:α->List Value
 dn:List Value->(α->Prop)->Prop
 snd:∀v K,dn v K->∃x,v=up x/\K x
 cmp:∀x K,dn (up x) K↔K x
def mkE{α ρ:Type}(A:ArgT α)(R:Ty ρ)(F:α->(ρ->Hp->Prop)->Hp->Prop):FSem:=λargs K h=>
 A.dn args λa=>callP (F a) (λr=>K (R.up r)) h
def mkM{α ρ:Type}(A:ArgT α)(R:Ty ρ)(F:α->(ρ->Hp->Prop)->Hp->Prop):FSem:=λargs K h=>
 A.dn args λa=>callM (F a) (λr=>K (R.up r)) h
structure Entry(P:Program)(g:Nat)(F:FSem)(m:Bool):Prop where
 fn:FnOK P g F
 like:m=false->∀args,CallLike (F args)
 mono:∀args K K' h,(∀v h,K v h->K' v h)->F args K h->F args K' h
def Tab(C:Cfg):List (Nat×FSem)->Prop
 | []=>True
 | (g,F) :: r=>Entry C.P g F (memN g C.mutL)/\Tab C r
theorem Tab.ok{C:Cfg}:∀{l:List (Nat×FSem)},Tab C l->TabOK C l
 | [],_=>trivial
 | (_,_) :: _,h=>⟨h.1.fn,h.1.like,Tab.ok h.2⟩
theorem Tab.mono{C:Cfg}:∀{l:List (Nat×FSem)},Tab C l->∀g args K K' h,(∀v h,K v h->K' v h)->lookF g l args K h->lookF g l args K' h
 | [],_,_,_,_,_,_,_,hk=>hk
 | (g',F) :: r,ht,g,args,K,K',h,hkk,hk=>by
   unfold lookF at *
   by_cases hg:g=g'
   . subst hg;rw[beqT]at *;exact ht.1.mono args K K' h hkk hk
   . rw[beqF hg]at *;exact Tab.mono ht.2 g args K K' h hkk hk
theorem CfgOK.of{C:Cfg}(h:Tab C C.tab):CfgOK C:=⟨h.ok,h.mono⟩
section
variable {α ρ : Type} {A : ArgT α} {R : Ty ρ} {F : α → (ρ → Hp → Prop) → Hp → Prop} {P : Program} {g : Nat}
theorem za3p{K:Value->Hp->Prop}{D O:Hp}{Q:ρ->Hp->Prop}{w:World}(hdj:D.dj O)(hs:Sub (D.add O) w)
 (hq:∀v D',Q v D'->D'.dj O->(D'.add O).Fin->K (R.up v) (D'.add O)):∀e w',Post (λv h=>R.dn v λr=>Q r h) D w e w'->Post K (D.add O) w e w':=by
 rintro e w' ⟨v,D',rfl,hv,hs',hf,hd⟩
 obtain⟨r,rfl,hr⟩:=R.snd _ _ hv
 have hO:∀k b,O k=some b->D k=none/\w.heap[k]?=some (.cells b.cells.toArray b.elem b.fz)/\k<w.heap.size:=λk b hb=>by
  have h1:D k=none:=by
   rcases hdj k with h1 | h1
   . exact h1
   . rw[h1]at hb;cases hb
  have h2:(D.add O) k=some b:=by simp[Hp.add,h1,hb]
  exact⟨h1,hs k b h2,hs.lt h2⟩
 have hdj':D'.dj O:=λk=>by
  cases hb:O k with
  | none=>exact .inr rfl
  | some b=>
    obtain⟨h1,_,h3⟩:=hO k b hb
    left
    cases hk:D' k with
    | none=>rfl
    | some x=>have:=hd k (by simp[hk]) h1;omega
 suffices hsub:Sub (D'.add O) w' from by
  refine⟨R.up r,D'.add O,rfl,hq r D' hr hdj' hsub.fin,hsub,?_,λk h1 h2=>?_⟩
  . exact⟨hf.1,λk h1 h2=>hf.2.1 k h1 (Hp.add_none.1 h2).1,hf.2.2⟩
  . rw[Hp.add_none]at h2
    refine hd k (λhh=>h1 ?_) h2.1
    rw[Hp.add_none];exact⟨hh,h2.2⟩
 intro k b hk
 . cases hk':D' k with
   | some x=>
     have:(D'.add O) k=some x:=by simp[Hp.add,hk']
     rw[this]at hk;cases hk
     exact hs' k _ hk'
   | none=>
     have:(D'.add O) k=O k:=by simp[Hp.add,hk']
     rw[this]at hk
     obtain⟨h1,h2,h3⟩:=hO k b hk
     rw[hf.2.1 k h3 h1];exact h2
theorem zw3(hfn:∃fn,P.funcs[g]?=some fn/\fn.body.isNone=false/\(fn.name == "runtime.NumGoroutine")=false)
 (hb:∀a K D w,Sub D w->F a K D->Calls P g (A.up a).toArray w (Post (λv h=>R.dn v λr=>K r h) D w)):Entry P g (mkE A R F) false where
 fn:=by
  refine⟨hfn,λargs K h w hs hk=>?_⟩
  obtain⟨a,rfl,D,O,Q,h1,rfl,h3,h4⟩:=A.snd _ _ hk
  exact(hb a Q D w (hs.mono (Hp.le_add D O)) h3).mono (za3p h1 hs λv D' hq hd hfin=>(h4 v D' hq).2 hd hfin)
 like:=λ_ args=>by
  by_cases hx:∃a,args=A.up a
  . obtain⟨a,rfl⟩:=hx
    exact .inl ⟨ρ,F a,R.up,λK h=>A.cmp a _⟩
  . refine .inr λK h hk=>hx ?_
    obtain⟨a,ha,_⟩:=A.snd _ _ hk
    exact⟨a,ha⟩
 mono:=λargs K K' h hkk hk=>by
  obtain⟨a,rfl,hc⟩:=A.snd _ _ hk
  exact(A.cmp a _).2 (zfh (λv h' hh _ _=>hkk _ _ hh) hc)
theorem zakn(hfn:∃fn,P.funcs[g]?=some fn/\fn.body.isNone=false/\(fn.name == "runtime.NumGoroutine")=false)
 (hb:∀a K D w,Sub D w->F a K D->Calls P g (A.up a).toArray w (Post (λv h=>R.dn v λr=>K r h) D w)):Entry P g (mkM A R F) true where
 fn:=by
  refine⟨hfn,λargs K h w hs hk=>?_⟩
  obtain⟨a,rfl,D,O,Q,h1,rfl,h3,h4⟩:=A.snd _ _ hk
  exact(hb a Q D w (hs.mono (Hp.le_add D O)) h3).mono (za3p h1 hs λv D' hq hd _=>h4 v D' hq hd)
 like:=λhh=>by cases hh
 mono:=λargs K K' h hkk hk=>by
  obtain⟨a,rfl,hc⟩:=A.snd _ _ hk
  exact(A.cmp a _).2 (zahd (λv h' hh=>hkk _ _ hh) hc)
theorem zaao{C:Cfg}(hC:Tab C C.tab)(hBk:BackTab C.P C.backs){fn:Func}{c:Code}{an:An}(hf:C.P.funcs[g]?=some fn)(hb:fn.body=some c)(hn:fn.ntmps=C.n)
 (ha:∀a,Nat.ble (A.up a).length C.n=true) (hF:∀a K D,denF C fn c an (A.up a) (λv h=>R.dn v λr=>K r h) D=F a K D) :
 ∀a K D w,Sub D w->F a K D->Calls C.P g (A.up a).toArray w (Post (λv h=>R.dn v λr=>K r h) D w):=λa K D w hs hk=>
 zamc (CfgOK.of hC) hBk hf hb hn (Nat.le_of_ble_eq_true (ha a)) hs (by rw[hF];exact hk)
theorem za0{C:Cfg}(hC:Tab C C.tab)(hBk:BackTab C.P C.backs){fn:Func}{c:Code}{an:An}(hf:C.P.funcs[g]?=some fn)(hb:fn.body=some c)(hn:fn.ntmps=C.n)
 (hname:(fn.name == "runtime.NumGoroutine")=false) (ha:∀a,Nat.ble (A.up a).length C.n=true)
 (hF:∀a K D,denF C fn c an (A.up a) (λv h=>R.dn v λr=>K r h) D=F a K D):Entry C.P g (mkE A R F) false:=
 zw3 ⟨fn,hf,by rw[hb];rfl,hname⟩ (zaao hC hBk hf hb hn ha hF)
theorem za8s{C:Cfg}(hC:Tab C C.tab)(hBk:BackTab C.P C.backs){fn:Func}{c:Code}{an:An}(hf:C.P.funcs[g]?=some fn)(hb:fn.body=some c)(hn:fn.ntmps=C.n)
 (hname:(fn.name == "runtime.NumGoroutine")=false) (ha:∀a,Nat.ble (A.up a).length C.n=true)
 (hF:∀a K D,denF C fn c an (A.up a) (λv h=>R.dn v λr=>K r h) D=F a K D):Entry C.P g (mkM A R F) true:=
 zakn ⟨fn,hf,by rw[hb];rfl,hname⟩ (zaao hC hBk hf hb hn ha hF)
end
end Den
end

section
namespace Den
open Go
def Ty.leaf(l:Lf):Ty l.T where
 up:=l.up
 dn:=l.dn
 snd _ _ h:=Lf.dn_iff.1 h
 cmp x K:=⟨λh=>by
  obtain⟨y,h1,h2⟩:=Lf.dn_iff.1 h
  have:x=y:=by
   cases l with
   | int k=>injection h1
   | bool=>injection h1
   | str=>injection h1
   | ptr=>injection h1
   | val=>exact h1
   | sl=>injection h1 with h1 h3 h4;cases x;cases y;simp only at h1 h3 h4;subst h1 h3 h4;rfl
  exact this▸h2,λh=>Lf.dn_iff.2 ⟨x,rfl,h⟩⟩
theorem Lf.up_inj{l:Lf}{x y:l.T}(h:l.up x=l.up y):x=y:=
 ((Ty.leaf l).cmp x (λz=>z=y)).1 (Lf.dn_iff.2 ⟨y,h,rfl⟩)
theorem LT.up_inj:∀{ls:List Lf} {x y:LT ls},LT.up ls x=LT.up ls y->x=y
 | [],_,_,_=>rfl
 | _ :: _,x,y,h=>by
   injection h with h1 h2
   exact Prod.ext (Lf.up_inj h1) (LT.up_inj h2)
def Ty.agg{α:Type}(ls:List Lf)(f:α->LT ls)(g:LT ls->α)(h1:∀x,g (f x)=x)(h2:∀y,f (g y)=y):Ty α where
 up x:=.agg (LT.up ls (f x)).toArray
 dn v K:=match v with
  | .agg cs=>LT.dn ls cs.toList λy=>K (g y)
  | _=>False
 snd v K h:=by
  cases v<;>simp only at h<;>try exact h.elim
  obtain⟨y,h3,h4⟩:=LT.dn_iff.1 h
  exact⟨g y,by rw[h2,<-h3],h4⟩
 cmp x K:=⟨λh=>by
  obtain⟨y,h3,h4⟩:=LT.dn_iff.1 h
  rw[<-LT.up_inj h3,h1]at h4;exact h4,λh=>LT.dn_iff.2 ⟨f x,rfl,by rw[h1];exact h⟩⟩
def ArgT.nil:ArgT Unit where
 up _:=[]
 dn vs K:=match vs with | []=>K () | _=>False
 snd vs K h:=by cases vs<;>simp only at h;exact⟨(),rfl,h⟩
 cmp _ _:=Iff.rfl
def ArgT.cons{α β:Type}(T:Ty α)(A:ArgT β):ArgT (α×β) where
 up x:=T.up x.1 :: A.up x.2
 dn vs K:=match vs with | v :: r=>T.dn v λx=>A.dn r λy=>K (x,y) | _=>False
 snd vs K h:=by
  cases vs<;>simp only at h
  obtain⟨x,rfl,h1⟩:=T.snd _ _ h
  obtain⟨y,rfl,h2⟩:=A.snd _ _ h1
  exact⟨(x,y),rfl,h2⟩
 cmp x K:=by
  show T.dn (T.up x.1) _↔_
  rw[T.cmp,A.cmp]
def ArgT.fn{α:Type}(g:Nat)(A:ArgT α):ArgT α where
 up x:=.func (.func g) #[] #[] :: A.up x
 dn vs K:=match vs with
  | .func (.func g') ⟨[]⟩ ⟨[]⟩ :: r=>(match decide (g'=g)with | true=>A.dn r K | false=>False)
  | _=>False
 snd vs K h:=by
  split at h
  . split at h
    . rename_i hg
      obtain⟨y,rfl,h2⟩:=A.snd _ _ h
      rw[of_decide_eq_true hg]
      exact⟨y,rfl,h2⟩
    . exact h.elim
  . exact h.elim
 cmp x K:=by
  show(match decide (g=g)with | true=>A.dn (A.up x) K | false=>False)↔_
  rw[decide_eq_true (rfl:g=g)]
  exact A.cmp x K
def Ty.tup{α β:Type}(A:ArgT α)(f:β->α)(g:α->β)(h1:∀x,g (f x)=x)(h2:∀y,f (g y)=y):Ty β where
 up x:=.tuple (A.up (f x)).toArray
 dn v K:=match v with
  | .tuple vs=>A.dn vs.toList λy=>K (g y)
  | _=>False
 snd v K h:=by
  cases v<;>simp only at h<;>try exact h.elim
  obtain⟨y,h3,h4⟩:=A.snd _ _ h
  exact⟨g y,by rw[h2,<-h3],h4⟩
 cmp x K:=by
  show A.dn (A.up (f x)) _↔_
  rw[A.cmp,h1]
def capT:Nat->Type
 | 0=>Unit
 | n+1=>Option Addr×capT n
def capUp:(n:Nat)->capT n->List Value
 | 0,_=>[]
 | n+1,x=>.pointer x.1 :: capUp n x.2
def capDn:(n:Nat)->List Value->(capT n->Prop)->Prop
 | 0,[],K=>K ()
 | n+1,.pointer c :: r,K=>capDn n r λx=>K (c,x)
 | _,_,_=>False
theorem zaj6:∀{n:Nat} {l:List Value} {K:capT n->Prop},capDn n l K->∃x,l=capUp n x/\K x
 | 0,[],K,h=>⟨(),rfl,h⟩
 | n+1,.pointer c :: r,K,h=>by
   obtain⟨x,h1,h2⟩:=zaj6 (n:=n) (l:=r) h
   exact⟨(c,x),by rw[h1];rfl,h2⟩
 | 0,_ :: _,_,h=>by simp[capDn]at h
 | n+1,[],_,h=>by simp[capDn]at h
theorem zaj5:∀{n:Nat} {x:capT n} {K:capT n->Prop},capDn n (capUp n x) K↔K x
 | 0,_,_=>Iff.rfl
 | n+1,x,K=>by
   show capDn n (capUp n x.2) (λy=>K (x.1,y))↔_
   rw[zaj5]
   exact Iff.rfl
def ArgT.fnc{α:Type}(g n:Nat)(A:ArgT α):ArgT (capT n×α) where
 up x:=.func (.func g) #[] (capUp n x.1).toArray :: A.up x.2
 dn vs K:=match vs with
  | .func (.func g') ⟨[]⟩ cs :: r=>(match decide (g'=g)with | true=>capDn n cs.toList λc=>A.dn r λy=>K (c,y) | false=>False)
  | _=>False
 snd vs K h:=by
  split at h
  . split at h
    . rename_i hg
      obtain⟨c,h1,h2⟩:=zaj6 h
      obtain⟨y,rfl,h3⟩:=A.snd _ _ h2
      rw[of_decide_eq_true hg]
      exact⟨(c,y),by rw[<-h1],h3⟩
    . exact h.elim
  . exact h.elim
 cmp x K:=by
  show(match decide (g=g)with | true=>capDn n (capUp n x.1).toArray.toList (λc=>A.dn (A.up x.2) λy=>K (c,y)) | false=>False)↔_
  rw[decide_eq_true (rfl:g=g)]
  simp only
  rw[zaj5,A.cmp]
def selE(i g1:Nat)(e1 e2:FSem):FSem:=λargs=>
 match args[i]? with
 | some (.func (.func g) _ _)=>bif Nat.beq g g1 then e1 args else e2 args
 | _=>e2 args
def Ty.clo(g:Nat):Ty Addr where
 up a:=.func (.func g) #[] #[.pointer (some a)]
 dn v K:=match v with
  | .func (.func g') ⟨[]⟩ ⟨[.pointer (some a)]⟩=>(match decide (g'=g)with | true=>K a | false=>False)
  | _=>False
 snd v K h:=by
  split at h
  . split at h
    . rename_i hg
      rw[of_decide_eq_true hg]
      exact⟨_,rfl,h⟩
    . exact h.elim
  . exact h.elim
 cmp x K:=by
  show(match decide (g=g)with | true=>K x | false=>False)↔_
  rw[decide_eq_true (rfl:g=g)]
def Ty.unit:Ty Unit where
 up _:=.tuple #[]
 dn v K:=match v with | .tuple ⟨[]⟩=>K () | _=>False
 snd v K h:=by split at h;exact⟨(),rfl,h⟩;exact h.elim
 cmp _ _:=Iff.rfl
end Den
end

section
namespace Den
open Go
def nilS:Sl:=⟨none,0,0⟩
section
variable {α : Type} {G : (α → Hp → Prop) → Hp → Prop} {K : α → Hp → Prop} {h : Hp}
theorem za3(R:α->Hp->Prop)(H:∀K':α->Hp->Prop,(∀v h',h.le h'->R v h'->K' v h')->G K' h)(k:∀v h',h.le h'->R v h'->K v h'):callP G K h:=
 ⟨h,Hp.emp,λv h'=>h.le h'/\R v h',h.dj_emp,h.add_emp.symm,H _ (λv h' h1 h2=>⟨h1,h2⟩),
  λv D' hq=>⟨hq.1,λ_ _=>by rw[Hp.add_emp];exact k v D' hq.1 hq.2⟩⟩
theorem zao(v:α)(H:∀K':α->Hp->Prop,K' v h->G K' h)(k:K v h):callP G K h:=
 ⟨h,Hp.emp,λv' h'=>v'=v/\h'=h,h.dj_emp,h.add_emp.symm,H _ ⟨rfl,rfl⟩,λv' D' hq=>by
  obtain⟨rfl,rfl⟩:=hq
  exact⟨Hp.le_refl _,λ_ _=>by rw[Hp.add_emp];exact k⟩⟩
theorem zaew(H:G K h):callM G K h:=
 ⟨h,Hp.emp,K,h.dj_emp,h.add_emp.symm,H,λv D' hq _=>by rw[Hp.add_emp];exact hq⟩
end
theorem zuf{S:Type}{k:S->Hp->Prop}{body:(S->Hp->Prop)->Prop}(H:body k):joinP k body:=⟨k,λ_ _ h=>h,H⟩
theorem za9{S:Type}{k:S->Hp->Prop}{body:(S->Hp->Prop)->Prop}(J:S->Hp->Prop)(h1:∀s h,J s h->k s h)(h2:body J):joinP k body:=⟨J,h1,h2⟩
theorem zaa{S:Type}{body:S->(S->Hp->Prop)->Hp->Prop}{s0:S}{h0:Hp}(I:S->Hp->Prop)(μ:S->Nat)
 (h1:I s0 h0) (h2:∀s h,I s h->body s (λs' h'=>I s' h'/\μ s'<μ s) h):loopP body s0 h0:=⟨I,λs _=>μ s,h1,h2⟩
theorem zb1{A B:Prop}{t:Bool}(ht:t=true)(ha:A):ifP t A B:=by subst ht;exact ha
theorem zab{A B:Prop}{t:Bool}(ht:t=false)(hb:B):ifP t A B:=by subst ht;exact hb
theorem za5{A B p:Prop}[Decidable p](ha:p->A)(hb:¬p->B):ifP (decide p) A B:=
 zcp (λh=>ha (of_decide_eq_true h)) (λh=>hb (of_decide_eq_false h))
theorem zbl{A B:Prop}{a b:Int}(ha:a=b->A)(hb:a≠b->B):ifP (a==b) A B:=
 zcp (λh=>ha (by simpa using h)) (λh=>hb (by simpa using h))
theorem zoj{A B:Prop}{a b:Int}(ha:a≠b->A)(hb:a=b->B):ifP (a != b) A B:=
 zcp (λh=>ha (by simpa using h)) (λh=>hb (by simpa using h))
theorem w64{n:Int}(h:-9223372036854775808<=n/\n<=9223372036854775807):i64.wrap n=n:=by
 simp[IntKind.wrap,IntKind.signed,IntKind.bits]
 omega
theorem wu64{n:Int}(h:0<=n/\n<=18446744073709551615):u64.wrap n=n:=by
 simp[IntKind.wrap,IntKind.signed,IntKind.bits]
 omega
abbrev BS(s:ByteArray):List UInt8:=s.data.toList
theorem zall(s:ByteArray):(BS s).length=s.size:=by simp[BS]
theorem zagh{s:ByteArray}{i:Int}{K:Int->Prop}{k:Nat}{c:UInt8}{r:List UInt8}(hd:(BS s).drop k=c :: r)(hi:i=k)(H:K (c.toNat:Int)):strIdx s i K:=by
 subst hi
 refine⟨by omega,c,?_,H⟩
 have h1:(BS s)[k]?=some c:=by
  have:((BS s).drop k)[0]?=some c:=by rw[hd];rfl
  simpa using this
 have hk:k<s.size:=by
  rw[<-zall]
  rcases Nat.lt_or_ge k (BS s).length with h2 | h2
  . exact h2
  . rw[List.getElem?_eq_none h2]at h1;cases h1
 have:((k:Int).toNat)=k:=rfl
 rw[this,getElem?_pos s k hk]
 rw[List.getElem?_eq_getElem (by rw[zall];exact hk)]at h1
 simp only[Option.some.injEq]at h1 |-
 rw[<-h1]
 rfl
theorem zky(a:Addr):a.add 0=a:=by cases a;rfl
theorem zir(a:Addr)(i j:Nat):(a.add i).add j=a.add (i+j):=by
 unfold Addr.add
 by_cases hi:i=0
 . subst hi;simp
 . by_cases hj:j=0
   . subst hj;simp[hi]
   . have:i+j≠0:=by omega
     simp[hi,hj,Nat.add_assoc]
theorem zcd(a:Addr)(i:Nat):(a.add i).block=a.block:=by unfold Addr.add;split<;>rfl
theorem zhb(a:Addr)(i:Nat):(a.add i).off=a.off+i:=by
 unfold Addr.add;split
 . rename_i h;subst h;rfl
 . rfl
theorem znw{a:Addr}(hs:a.spot=none)(i:Nat):(a.add i).spot=none:=by unfold Addr.add;split<;>simp[hs]
def Rd(h:Hp)(size:Nat)(x:Sl)(cs:List Value):Prop:=x.len*size=cs.length/\cellsAtO h x.a cs.length=some cs
theorem Rd.le{h h':Hp}{size:Nat}{x:Sl}{cs:List Value}(hr:Rd h size x cs)(hl:h.le h'):Rd h' size x cs:=⟨hr.1,zhr hl hr.2⟩
theorem Rd.nil{h:Hp}{size:Nat}:Rd h size nilS []:=⟨by simp[nilS],rfl⟩
theorem zk8{h:Hp}{a:Addr}:∀{n:Nat} {l:List Value},cellsAt h a n=some l->l.length=n
 | 0,l,e=>by simp only[cellsAt,Option.some.injEq]at e;subst e;rfl
 | n+1,l,e=>by
   unfold cellsAt at e
   split at e
   . rename_i l1 h1
     split at e
     . simp only[Option.some.injEq]at e;subst e;simp[zk8 h1]
     . cases e
   . cases e
theorem zhs{h:Hp}{a:Addr}:∀{n:Nat} {l:List Value},cellsAt h a n=some l->∀i v,l[i]?=some v->h.cell (a.add i)=some v
 | 0,l,e,i,v,hi=>by simp only[cellsAt,Option.some.injEq]at e;subst e;simp at hi
 | n+1,l,e,i,v,hi=>by
   unfold cellsAt at e
   split at e
   . rename_i l1 h1
     split at e
     . rename_i u hu
       simp only[Option.some.injEq]at e;subst e
       have hl:=zk8 h1
       rcases Nat.lt_or_ge i n with h2 | h2
       . rw[List.getElem?_append_left (by omega)]at hi
         exact zhs h1 i v hi
       . rw[List.getElem?_append_right (by omega)]at hi
         have:i-l1.length=0:=by
          rcases Nat.eq_zero_or_pos (i-l1.length)with h3 | h3
          . exact h3
          . rw[List.getElem?_eq_none (by simp;omega)]at hi;cases hi
         rw[this]at hi
         simp only[List.getElem?_cons_zero,Option.some.injEq]at hi
         subst hi
         have:i=n:=by omega
         subst this;exact hu
     . cases e
   . cases e
theorem zqc{h:Hp}{a:Addr}{b:Blk}(hb:h a.block=some b)(hs:a.spot=none):∀{n:Nat},a.off+n<=b.cells.length->cellsAt h a n=some ((b.cells.drop a.off).take n)
 | 0,_=>by simp[cellsAt]
 | n+1,hn=>by
   unfold cellsAt
   rw[zqc hb hs (by omega)]
   have h1:h.cell (a.add n)=some (b.cells[a.off+n]'(by omega)):=by
    unfold Hp.cell
    simp only[zcd,zhb,znw hs,hb]
    exact List.getElem?_eq_getElem (by omega)
   simp only[h1]
   rw[List.take_succ_eq_append_getElem (by simp;omega)]
   simp
theorem zajc{h:Hp}{size:Nat}{x:Sl}{cs:List Value}{i:Int}{K:Addr->Prop}(k:Nat)(hr:Rd h size x cs)(hi:i=k)(hk:k<x.len)(hsz:0<size)
 (H:∀a,(∀j v,cs[k*size+j]?=some v->h.cell (a.add j)=some v)->K a):idxP x i size K:=by
 subst hi
 refine⟨by omega,by omega,?_⟩
 have hpos:0<cs.length:=by
  rw[<-hr.1]
  exact Nat.mul_pos (by omega) hsz
 cases ha:x.a with
 | none=>
   have:=hr.2
   rw[ha]at this
   simp only[cellsAtO]at this
   split at this
   . omega
   . cases this
 | some a=>
   have h2:=hr.2
   rw[ha]at h2
   simp only[cellsAtO]at h2
   refine H _ λj v hv=>?_
   rw[zir]
   exact zhs h2 _ v hv
def Own(h0 h:Hp)(size:Nat)(x:Sl)(cs:List Value):Prop:=
 h0.le h/\x.len*size=cs.length/\x.len<=x.cap /\
 match x.a with
 | none=>x.cap=0
 | some a=>a.off=0/\a.spot=none/\h0 a.block=none/\∃b,h a.block=some b/\b.fz=(0,0)/\b.cells.length=x.cap*size/\b.cells.take cs.length=cs
theorem Own.nil{h0 h:Hp}{size:Nat}(hl:h0.le h):Own h0 h size nilS []:=⟨hl,by simp[nilS],Nat.le_refl _,rfl⟩
theorem Own.rd{h0 h:Hp}{size:Nat}{x:Sl}{cs:List Value}(ho:Own h0 h size x cs):Rd h size x cs:=by
 obtain⟨h1,h2,h3,h4⟩:=ho
 refine⟨h2,?_⟩
 cases ha:x.a with
 | none=>
   rw[ha]at h4
   simp only at h4
   have:cs=[]:=by
    have:x.len=0:=by omega
    rw[this]at h2
    cases cs with
    | nil=>rfl
    | cons a b=>simp at h2
   subst this;rfl
 | some a=>
   rw[ha]at h4
   obtain⟨g1,g2,g3,b,g4,g5,g6,g7⟩:=h4
   have hle:cs.length<=b.cells.length:=by rw[g6,<-h2];exact Nat.mul_le_mul_right _ h3
   simp only[cellsAtO]
   rw[zqc g4 g2 (by omega),g1]
   simp[g7]
theorem Own.le{h0 h h':Hp}{size:Nat}{x:Sl}{cs:List Value}(ho:Own h0 h size x cs)(hl:h.le h'):Own h0 h' size x cs:=by
 obtain⟨h1,h2,h3,h4⟩:=ho
 refine⟨Hp.le_trans h1 hl,h2,h3,?_⟩
 cases ha:x.a with
 | none=>rw[ha]at h4;exact h4
 | some a=>
   rw[ha]at h4
   obtain⟨g1,g2,g3,b,g4,g5⟩:=h4
   exact⟨g1,g2,g3,b,hl _ _ g4,g5⟩
theorem Own.base{h0 h1 h:Hp}{size:Nat}{x:Sl}{cs:List Value}(ho:Own h1 h size x cs)(hl:h0.le h1):Own h0 h size x cs:=by
 obtain⟨g0,h2,h3,h4⟩:=ho
 refine⟨Hp.le_trans hl g0,h2,h3,?_⟩
 cases ha:x.a with
 | none=>rw[ha]at h4;exact h4
 | some a=>
   rw[ha]at h4
   obtain⟨g1,g2,g3,g4⟩:=h4
   refine⟨g1,g2,?_,g4⟩
   cases hk:h0 a.block with
   | none=>rfl
   | some b=>rw[hl _ _ hk]at g3;cases g3
theorem zk6{h0 h:Hp}{size bytes n:Nat}{zero new cs:List Value}{x:Sl}{K:Sl->Hp->Prop}(ho:Own h0 h size x cs)(hn:new.length=n*size)(hz:zero.length=size)
 (hleaf:new.all Value.leaf=true) (hb:(x.len+n)*bytes<=140737488355328) (hb2:x.len+n<=140737488355328)
 (H:∀y h',Own h0 h' size y (cs++new)->y.len=x.len+n->K y h'):appP size bytes zero x n new K h:=by
 have hrd:=ho.rd
 obtain⟨h1,h2,h3,h4⟩:=ho
 refine⟨hb,hb2,λhfit=>?_,λhgrow=>?_⟩
 . cases ha:x.a with
   | none=>
     rw[ha]at h4
     simp only at h4
     have hn0:n=0:=by omega
     have hnew:new=[]:=by
      cases new with
      | nil=>rfl
      | cons a b=>rw[hn0]at hn;simp at hn
     subst hnew hn0
     simp only[stO]
     refine H _ _ ⟨h1,?_,?_,?_⟩ rfl
     . simpa using h2
     . show x.len+0<=x.cap;omega
     . show x.cap=0;exact h4
   | some a=>
     rw[ha]at h4
     obtain⟨g1,g2,g3,b,g4,g5,g6,g7⟩:=h4
     have e1:(x.len+n)*size=cs.length+new.length:=by rw[Nat.add_mul,h2,hn]
     have e2:cs.length+new.length<=b.cells.length:=by rw[g6,<-e1];exact Nat.mul_le_mul_right _ hfit
     simp only[stO]
     refine⟨b,by rw[zcd];exact g4,znw g2 _,g5,?_,hleaf,?_⟩
     . rw[zhb];omega
     . rw[zcd,zhb]
       refine H _ _ ⟨?_,?_,hfit,?_⟩ rfl
       . intro k bk hk
         rw[Hp.ins_ne (λhh=>by subst hh;rw[g3]at hk;cases hk)]
         exact h1 k bk hk
       . show(x.len+n)*size=_;rw[List.length_append];exact e1
       . refine⟨g1,g2,g3,_,Hp.ins_same _ _ _,g5,?_,?_⟩
         . show(splice b.cells (a.off+x.len*size) new).length=_
           unfold splice
           simp only[List.length_append,List.length_take,List.length_drop]
           show _=x.cap*size
           rw[<-g6,g1,h2];omega
         . show(splice b.cells (a.off+x.len*size) new).take _=_
           have hoff:a.off+x.len*size=cs.length:=by rw[g1,h2];omega
           unfold splice
           rw[hoff,g7,List.append_assoc,List.length_append,List.take_append]
           simp only[Nat.add_sub_cancel_left]
           rw[List.take_of_length_le (by omega),List.take_append,List.take_of_length_le (Nat.le_refl _)]
           simp
 . refine⟨cs,?_,λbk e c hc hfr=>?_⟩
   . rw[h2];exact hrd.2
   . refine H _ _ ⟨Hp.le_trans h1 (Hp.le_ins hfr),?_,hc,?_⟩ rfl
     . show(x.len+n)*size=_;rw[List.length_append,Nat.add_mul,h2,hn]
     . refine⟨rfl,rfl,?_,_,Hp.ins_same _ _ _,rfl,?_,?_⟩
       . cases hk:h0 bk with
         | none=>rfl
         | some b=>have:=h1 _ _ hk;rw[hfr]at this;cases this
       . show(cs++new++repl (c-(x.len+n)) zero).length=c*size
         have hr:(repl (c-(x.len+n)) zero).length=(c-(x.len+n))*size:=by
          unfold repl
          simp[hz]
         rw[List.length_append,List.length_append,hr,hn,<-h2,<-Nat.add_mul,<-Nat.add_mul]
         congr 1;omega
       . show(cs++new++repl (c-(x.len+n)) zero).take _=cs++new
         rw[List.take_append_of_le_length (by simp)]
         exact List.take_of_length_le (Nat.le_refl _)
theorem zeq{h:Hp}{size n:Nat}{cells:List Value}{K:Addr->Hp->Prop}(hn:cells.length=n*size)
 (H:∀b h',h b=none->Own h h' size ⟨some ⟨b,0,none⟩,n,n⟩ cells->K ⟨b,0,none⟩ h'):newP cells K h:=by
 intro b e hb
 refine H b _ hb ⟨Hp.le_ins hb,hn.symm,Nat.le_refl _,rfl,rfl,hb,_,Hp.ins_same _ _ _,rfl,hn,List.take_of_length_le (Nat.le_refl _)⟩
theorem zag1{n:Nat}{zero:List Value}:(repl n zero).length=n*zero.length:=by
 unfold repl;simp
theorem zahx{h:Hp}{size bytes:Nat}{len cap:Int}{zero:List Value}{K:Sl->Hp->Prop}(l c:Nat)(hl:len=l)(hc:cap=c)(hlc:l<=c)(hb:bytes*c<=140737488355328)(hb2:c<=140737488355328)(hz:zero.length=size)
 (H:∀x h',x.len=l->x.cap=c->Own h h' size x (repl l zero)->K x h'):mkP len cap bytes zero K h:=by
 subst hl hc
 refine⟨by omega,by omega,(Int.natCast_mul bytes c)▸(Int.ofNat_le.2 hb),by omega,λb e hb=>?_⟩
 have e1:((c:Int).toNat)=c:=rfl
 have e2:((l:Int).toNat)=l:=rfl
 rw[e1,e2]
 refine H _ _ rfl rfl ⟨Hp.le_ins hb,by rw[zag1,hz],hlc,rfl,rfl,hb,_,Hp.ins_same _ _ _,rfl,by rw[zag1,hz],?_⟩
 show(repl c zero).take (repl l zero).length=repl l zero
 have:repl c zero=repl l zero++repl (c-l) zero:=by
  unfold repl
  rw[<-List.flatten_append,List.replicate_append_replicate]
  congr 2;omega
 rw[this,List.take_append_of_le_length (Nat.le_refl _),List.take_of_length_le (Nat.le_refl _)]
theorem zcl{cs vs:List Value}{off:Nat}(h:off+vs.length<=cs.length):(splice cs off vs).length=cs.length:=by
 unfold splice;simp;omega
theorem zov{cs vs bs:List Value}{off:Nat}(h:off+vs.length<=cs.length)(hb:bs.take cs.length=cs):(splice bs off vs).take cs.length=splice cs off vs:=by
 have e:bs=cs++bs.drop cs.length:=by conv=>lhs;rw[<-List.take_append_drop cs.length bs,hb]
 have e2:splice bs off vs=splice cs off vs++bs.drop cs.length:=by
  rw[e]
  unfold splice
  rw[List.take_append_of_le_length (by omega),List.drop_append_of_le_length h]
  simp[List.append_assoc]
 rw[e2,List.take_append_of_le_length (by rw[zcl h];exact Nat.le_refl _),List.take_of_length_le (by rw[zcl h];exact Nat.le_refl _)]
theorem zanf{h0 h:Hp}{size:Nat}{x:Sl}{cs vs:List Value}{i:Int}{K:Hp->Prop}(k:Nat)(ho:Own h0 h size x cs)(hi:i=k)(hk:k<x.len)(hv:vs.length=size)(hsz:0<size)(hleaf:vs.all Value.leaf=true)
 (H:∀h',Own h0 h' size x (splice cs (k*size) vs)->K h'):idxP x i size λa=>stP a vs K h:=by
 subst hi
 obtain⟨h1,h2,h3,h4⟩:=ho
 refine⟨by omega,by omega,?_⟩
 cases ha:x.a with
 | none=>rw[ha]at h4;simp only at h4;omega
 | some a=>
   rw[ha]at h4
   obtain⟨g1,g2,g3,b,g4,g5,g6,g7⟩:=h4
   have e0:((k:Int).toNat)=k:=rfl
   have e1:k*size+size<=cs.length:=by
    rw[<-h2]
    have:=Nat.mul_le_mul_right size (show k+1<=x.len by omega)
    rw[Nat.add_mul]at this;omega
   have e2:cs.length<=b.cells.length:=by rw[g6,<-h2];exact Nat.mul_le_mul_right _ h3
   show ptrK (some a) _
   simp only[ptrK,e0]
   refine⟨b,by rw[zcd];exact g4,znw g2 _,g5,by rw[zhb];omega,hleaf,?_⟩
   rw[zcd,zhb,g1,Nat.zero_add]
   refine H _ ⟨?_,?_,h3,?_⟩
   . intro kk bk hkk
     rw[Hp.ins_ne (λhh=>by subst hh;rw[g3]at hkk;cases hkk)]
     exact h1 kk bk hkk
   . rw[zcl (by omega)];exact h2
   . rw[ha]
     refine⟨g1,g2,g3,_,Hp.ins_same _ _ _,g5,?_,?_⟩
     . show(splice b.cells (k*size) vs).length=_
       rw[zcl (by omega)];exact g6
     . show(splice b.cells (k*size) vs).take _=_
       rw[zcl (by omega)]
       exact zov (by omega) g7
theorem zaio{cs:List Value}{k:Nat}{v:Value}:splice cs k [v]=cs.take k++v :: cs.drop (k+1):=by
 unfold splice;simp
theorem zabx{h:Hp}{x:Sl}{cs:List Value}{v:Value}{i:Int}{Ka:Addr->Prop}(k:Nat)(hr:Rd h 1 x cs)(hi:i=k)(hv:cs[k]?=some v)
 (H:∀a,h.cell a=some v->Ka a):idxP x i 1 Ka:=by
 have hk:k<x.len:=by
  have h1:=hr.1
  rcases Nat.lt_or_ge k cs.length with h2 | h2
  . omega
  . rw[List.getElem?_eq_none h2]at hv;cases hv
 refine zajc k hr hi hk (by decide) λa ha=>H a ?_
 have:=ha 0 v (by rw[Nat.mul_one];exact hv)
 rwa [zky]at this
end Den
end

section
namespace Den
open Go
open Go.ChangeShapes Go.WideShapes Go.ChangeAt Go.RowKit
theorem zamt{D h':Hp}{w w':World}(hs:Sub D w)(hf:Fr D w w')(hs':Sub h' w')(hl:D.le h'):∀k,k<w.heap.size->w'.heap[k]?=w.heap[k]?:=λk hk=>by
 cases hD:D k with
 | none=>exact hf.2.1 k hk hD
 | some b=>rw[hs' k b (hl k b hD),hs k b hD]
theorem zaoe{w w':World}(h1:w'.os=w.os)(h2:w'.output=w.output)(h3:∀k,k<w.heap.size->w'.heap[k]?=w.heap[k]?)(may:MemPlace->Prop):w.keptBut w' may:=by
 refine⟨h1,h2,λi hi=>?_⟩
 rw[h3 i hi]
 exact(World.keptBut_refl w may).2.2 i hi
theorem zamd{w w':World}(h3:∀k,k<w.heap.size->w'.heap[k]?=w.heap[k]?){a:Addr}(ha:a.block<w.heap.size):w'.frozen? a=w.frozen? a:=by
 unfold World.frozen?;rw[h3 _ ha]
theorem zab0{w w':World}(h3:∀k,k<w.heap.size->w'.heap[k]?=w.heap[k]?){a:Addr}(ha:a.block<w.heap.size):w'.cell? a=w.cell? a:=by
 unfold World.cell?;rw[h3 _ ha]
section
variable {H : Type} {enc : TypeId × Value → H} {P : Program}
theorem zanr{f:Func}{s:ChangeSpec}{apart fresh handsOn again:Bool}{W W':World}{args:Array Value}{v:Value}{ds gs:List (DataW H)}{before pa pv:List MemPlace}
 (hW:DataW.Whole enc P f.params.toList s.vars apart W args.toList ds gs before)
 (hres:∀(b:Nat) (sp:Nat->Bool) (hd:Bool),DataW.TrodAll enc P W' b sp hd f.resultTypes.toList (v.resultList f.resultTypes.size) (s.fn H (ds++gs)).results [])
 (hargs:∀sp:Nat->Bool,(∀p∈before,sp p.block=true)->DataW.TrodAll enc P W' 0 sp true f.params.toList args.toList (s.fn H (ds++gs)).args pa)
 (hvars:∀sp:Nat->Bool,(∀p∈before,sp p.block=true)->DataW.TrodVars enc P W' sp s.vars (s.fn H (ds++gs)).vars pv)
 (hps:before=pa++pv) (hk:W.keptBut W' (·∈before)) (hfz:∀a,a.block<W.heap.size->W'.frozen? a=W.frozen? a)
 (hok:∀(j:Nat) (t:TypeId) (r:Value),f.resultTypes[j]?=some t->(v.resultList f.resultTypes.size)[j]?=some r->Value.okWide P W' .any 0 t r) :
 s.post enc P f apart fresh handsOn again W args v W':=by
 have hold:∀p∈before,(λb=>decide (b<W.heap.size)) p.block=true:=λp hp=>by simpa using hW.lt p hp
 have hlt:=hW.lt
 refine⟨ds,gs,before,[],pa,pv,hW,hres _ _ _,hargs _ hold,hvars _ hold,World.keptBut_mono (λp hp=>⟨hp,?_⟩) hk,λ_=>?_⟩
 . rw[hps,List.mem_append]at hp
   exact Or.inr hp
 . obtain⟨_,_,_,_,_,hz,hn⟩:=hW
   refine⟨hok,_,_,([]++pa)++pv,⟨[]++pa,pv,trodAll_append (hargs _ (λ_ _=>rfl)) (hres _ _ _),hvars _ (λ_ _=>rfl),rfl,?_,?_⟩,?_⟩
   . intro b off hp
     have hp':MemPlace.cell b off∈before:=by rw[hps];simpa using hp
     rw[hfz _ (hlt _ hp')]
     exact hz b off hp'
   . intro ha
     have:=hn ha
     rw[hps]at this
     simpa using this
   . intro p hp _
     rw[hps]
     simpa using hp
end
theorem zaq0{α:Type}{A:ArgT α}{F:α->(Bool->Hp->Prop)->Hp->Prop}{P:Program}{g:Nat}(hE:Entry P g (mkE A (Ty.leaf .bool) F) false)(a:α)(D:Hp)(w:World)(hs:Sub D w)
 (hF:∀K:Bool->Hp->Prop,(∀h',D.le h'->K true h')->F a K D) :
 Calls P g (A.up a).toArray w λe w'=>e=.returned (.bool true)/\w'.os=w.os/\w'.output=w.output/\w.heap.size<=w'.heap.size/\∀k,k<w.heap.size->w'.heap[k]?=w.heap[k]?:=by
 refine(hE.fn.2 (A.up a) (λv h'=>v=.bool true/\D.le h') D w hs ((A.cmp a _).2 ?_)).mono ?_
 . exact za3 (λv _=>v=true) (λK' hk=>hF _ λh' hl=>hk _ _ hl rfl) λv h' hl hv=>by subst hv;exact⟨rfl,hl⟩
 . rintro e w' ⟨v,h',rfl,⟨rfl,hl⟩,hs',hf,hd⟩
   exact⟨rfl,hf.2.2.2.1,hf.2.2.2.2.1,hf.1,zamt hs hf hs' hl⟩
end Den
end

section
namespace Den
open Go
open Go.ChangeShapes Go.WideShapes Go.ChangeAt Go.RowKit
def hpW(w:World):Hp:=λk=>match w.heap[k]? with | some (.cells cs e fz)=>some ⟨cs.toList,e,fz⟩ | _=>none
theorem zaq1(w:World):Sub (hpW w) w:=λk b hk=>by
 unfold hpW at hk
 split at hk
 . rename_i cs e fz h
   cases hk
   rw[h]
 . cases hk
theorem zamg(w:World)(a:Addr):(hpW w).cell a=w.cell? a:=by
 unfold Hp.cell hpW World.cell?
 cases hs:a.spot with
 | some x=>cases w.heap[a.block]? with
   | none=>rfl
   | some o=>cases o<;>simp
 | none=>cases w.heap[a.block]? with
   | none=>rfl
   | some o=>cases o<;>simp
theorem zakh{w:World}{a:Addr}:∀{cs:List Value},(∀i,i<cs.length->w.cell? (a.add i)=cs[i]?)->cellsAt (hpW w) a cs.length=some cs:=by
 suffices H:∀(n:Nat) (cs:List Value),n<=cs.length->(∀i,i<cs.length->w.cell? (a.add i)=cs[i]?)->cellsAt (hpW w) a n=some (cs.take n) from λ{cs} h=>by
  rw[H cs.length cs (Nat.le_refl _) h,List.take_length]
 intro n
 induction n with
 | zero=>intro cs _ _;rfl
 | succ n ih=>
   intro cs hn h
   unfold cellsAt
   rw[ih cs (by omega) h]
   simp only
   rw[zamg,h n (by omega),List.getElem?_eq_getElem (by omega)]
   simp only
   rw[List.take_add_one,List.getElem?_eq_getElem (by omega)]
   rfl
section
variable {H : Type} {enc : TypeId × Value → H} {P : Program} {w w' : World}
def sizedB(P:Program):Bool:=(List.range P.types.size).all λt=>match P.underlying t with | some (.slice e)=>decide (0<P.cellsOf e) | _=>true
theorem zanc(h:sizedB P=true){t e:TypeId}(ht:t<P.types.size)(hu:P.underlying t=some (.slice e)):0<P.cellsOf e:=by
 have:=List.all_eq_true.1 h t (List.mem_range.2 ht)
 rw[hu]at this
 simpa using this
theorem zacg(hl:laidOutB P=true)(hm:mapsRowed P=true)(hz:sizedB P=true)(h3:∀k,k<w.heap.size->w'.heap[k]?=w.heap[k]?){sp:Nat->Bool} :
 ∀{ts:List TypeId} {vs:List Value} {ds:List (DataW H)} {ps:List MemPlace},(∀t∈ts,t<P.types.size)->(∀p∈ps,p.block<w.heap.size)->(∀p∈ps,sp p.block=true) ->
  DataW.TrodAll enc P w 0 (λ_=>true) true ts vs ds ps->DataW.TrodAll enc P w' 0 sp true ts vs ds ps
 | [],[],[],_,_,_,_,h=>h
 | t :: ts,v :: vs,d :: ds,_,ht,hp,hs,⟨p,q,⟨n,hn⟩,h2,e⟩=>by
   subst e
   refine⟨p,q,⟨n,?_⟩,zacg hl hm hz h3 (λt h=>ht t (List.mem_cons_of_mem _ h)) (λx hx=>hp x (List.mem_append_right _ hx)) (λx hx=>hs x (List.mem_append_right _ hx)) h2,rfl⟩
   refine DataW.trod_stays (T:=λt=>t<P.types.size) (kids_rows hl hm) (λh h'=>zanc hz h h') (by intro hh;cases hh) (ht t (by simp)) hn (λx hx=>?_) (λx hx=>hs x (List.mem_append_left _ hx))
   have hb:=hp x (List.mem_append_left _ hx)
   cases x with
   | cell b off=>exact zab0 h3 (a:=⟨b,off,none⟩) hb
   | map b=>exact h3 b hb
def Okt(enc:TypeId×Value->H)(P:Program)(w:World)(t:TypeId)(cs:List Value):Prop:=∃n x,DataW.trod enc P w 0 (λ_=>true) true n t cs=some x/\∀k∈x.1.weights P t,k<=reachBytes
theorem zii:∀{ts:List TypeId} {ds:List (DataW H)} {i:Nat} {t:TypeId} {d:DataW H},ts[i]?=some t->ds[i]?=some d->∀k∈d.weights P t,k∈DataW.weightsEach P ts ds
 | [],_,_,_,_,h,_,_,_=>by simp at h
 | _ :: _,[],_,_,_,_,h,_,_=>by simp at h
 | t :: ts,d :: ds,0,_,_,h1,h2,k,hk=>by
   simp only[List.getElem?_cons_zero,Option.some.injEq]at h1 h2
   subst h1 h2
   unfold DataW.weightsEach
   exact List.mem_append_left _ hk
 | t :: ts,d :: ds,i+1,_,_,h1,h2,k,hk=>by
   simp only[List.getElem?_cons_succ]at h1 h2
   unfold DataW.weightsEach
   exact List.mem_append_right _ (zii h1 h2 k hk)
theorem zjv{e:TypeId}:∀{ds:List (DataW H)} {d:DataW H},d∈ds->∀k∈d.weights P e,k∈DataW.weightsAll P e ds
 | [],_,h,_,_=>by simp at h
 | d :: ds,x,h,k,hk=>by
   unfold DataW.weightsAll
   rcases List.mem_cons.1 h with rfl | h
   . exact List.mem_append_left _ hk
   . exact List.mem_append_right _ (zjv h k hk)
theorem Okt.bool{t:TypeId}{cs:List Value}(ht:P.underlying t=some .bool)(h:Okt enc P w t cs):∃b:Bool,cs=[.bool b]:=by
 obtain⟨n,x,h,_⟩:=h
 obtain⟨b,hb,_⟩:=DataW.trod_bool ht h
 exact⟨b,hb⟩
theorem Okt.int{t:TypeId}{k:IntKind}{cs:List Value}(ht:P.underlying t=some (.int k))(h:Okt enc P w t cs):∃m:Int,cs=[.int k m]/\(Lit.int k m).wf=true:=by
 obtain⟨n,x,h,_⟩:=h
 obtain⟨m,hb,_,hw⟩:=DataW.trod_int ht h
 exact⟨m,hb,hw⟩
theorem Okt.fields{t:TypeId}{fs:Array Field}{cs:List Value}(ht:P.underlying t=some (.struct fs))(h:Okt enc P w t cs) :
 cs.length=P.cellsOf t/\∀(i:Nat) (f:Field),fs[i]?=some f->Okt enc P w f.type ((cs.drop f.offset).take (P.cellsOf f.type)):=by
 obtain⟨n,x,h,hw⟩:=h
 obtain⟨xs,m,_,e,hl,hx,hf⟩:=DataW.trod_struct ht h
 subst e
 simp only[DataW.weights,ht]at hw
 refine⟨hl,λi f hi=>⟨m,?_⟩⟩
 have h1:=hf i f hi
 have h2:i<xs.length:=by rw[hx];exact(Array.getElem?_eq_some_iff.1 hi).1
 rw[List.getElem?_eq_getElem h2]at h1
 refine⟨_,h1,λk hk=>hw k (zii (i:=i) ?_ ?_ k hk)⟩
 . rw[List.getElem?_map,Array.getElem?_toList,hi];rfl
 . rw[List.getElem?_map,List.getElem?_eq_getElem h2];rfl
theorem Okt.items{t e:TypeId}{k:Nat}{cs:List Value}(ht:P.underlying t=some (.array k e))(h:Okt enc P w t cs) :
 cs.length=P.cellsOf t/\∀i,i<k->Okt enc P w e ((cs.drop (i*P.cellsOf e)).take (P.cellsOf e)):=by
 obtain⟨n,x,h,hw⟩:=h
 obtain⟨xs,m,_,ee,hl,hx,hf⟩:=DataW.trod_array ht h
 subst ee
 simp only[DataW.weights,ht]at hw
 refine⟨hl,λi hi=>⟨m,?_⟩⟩
 have h1:=hf i hi
 rw[List.getElem?_eq_getElem (by omega)]at h1
 exact⟨_,h1,λk hk=>hw k (zjv (List.mem_map.2 ⟨_,List.getElem_mem (by omega),rfl⟩) k hk)⟩
theorem za8v{css:List (List Value)}{k:Nat}(h:∀c∈css,c.length=k):css.flatten.length=css.length*k:=by
 induction css with
 | nil=>simp
 | cons c r ih=>rw[List.flatten_cons,List.length_append,ih (λx hx=>h x (by simp[hx])),h c (by simp),List.length_cons,Nat.add_mul];omega
theorem zake{css:List (List Value)}{k:Nat}(h:∀c∈css,c.length=k):∀{i j:Nat},j<k->css.flatten[i*k+j]?=css[i]?.bind λc=>c[j]?:=by
 induction css with
 | nil=>intro i j _;simp
 | cons c r ih=>
   intro i j hj
   have hc:=h c (by simp)
   cases i with
   | zero=>rw[List.flatten_cons,List.getElem?_append_left (by omega)];simp
   | succ i=>
     rw[List.flatten_cons,List.getElem?_append_right (by rw[hc,Nat.add_mul];omega),hc,show(i+1)*k+j-k=i*k+j by rw[Nat.add_mul];omega,ih (λx hx=>h x (by simp[hx])) hj]
     simp
theorem Okt.slice{t e:TypeId}{cs:List Value}(ht:P.underlying t=some (.slice e))(h:Okt enc P w t cs) :
 ∃s:Sl,cs=[Lf.sl.up s]/\s.len<=s.cap/\s.len*P.bytesOf e<=reachBytes/\∃css:List (List Value),css.length=s.len/\(∀c∈css,c.length=P.cellsOf e/\Okt enc P w e c)/\Rd (hpW w) (P.cellsOf e) s css.flatten:=by
 obtain⟨n,x,h,hw⟩:=h
 rcases DataW.trod_slice ht h with ⟨rfl,_⟩ | ⟨a,len,cap,elems,rest,m,_,rfl,ex,_,hl,hm,hlen,hel,_,_⟩
 . exact⟨⟨none,0,0⟩,rfl,Nat.le_refl _,by simp,[],rfl,by simp,by simp,rfl⟩
 . subst ex
   simp only[DataW.weights,ht]at hw
   have hby:len*P.bytesOf e<=reachBytes:=by
    refine Nat.le_trans (Nat.mul_le_mul_right _ ?_) (hw _ (List.mem_cons_self ..))
    simp only[List.length_map,hlen]
    omega
   have each:∀i,i<len->∃c,w.cells? 0 (a.add (i*P.cellsOf e)) (P.cellsOf e)=some c/\Okt enc P w e c:=λi hi=>by
    have h1:=hel i hi
    rw[List.getElem?_eq_getElem (by omega),Option.bind_eq_some_iff]at h1
    obtain⟨c,hc,hd⟩:=h1
    exact⟨c,hc,m,_,hd,λk hk=>hw k (List.mem_cons_of_mem _ (List.mem_append_left _ (zjv (List.mem_map.2 ⟨_,List.getElem_mem (by omega),rfl⟩) k hk)))⟩
   have hall:∀k,k<=len->∃css:List (List Value),css.length=k/\∀i (hi:i<css.length),w.cells? 0 (a.add (i*P.cellsOf e)) (P.cellsOf e)=some css[i]/\Okt enc P w e css[i]:=by
    intro k
    induction k with
    | zero=>intro _;exact⟨[],rfl,λi hi=>by simp at hi⟩
    | succ k ih=>
      intro hk
      obtain⟨css,h1,h2⟩:=ih (by omega)
      obtain⟨c,hc,hd⟩:=each k (by omega)
      refine⟨css++[c],by simp[h1],λi hi=>?_⟩
      by_cases hik:i<css.length
      . rw[List.getElem_append_left hik];exact h2 i hik
      . have:i=k:=by simp at hi;omega
        subst this
        rw[List.getElem_append_right (by omega)]
        simpa [h1] using ⟨hc,hd⟩
   obtain⟨css,h1,h2⟩:=hall len (Nat.le_refl _)
   have hsz:∀c∈css,c.length=P.cellsOf e:=λc hc=>by
    obtain⟨i,hi,rfl⟩:=List.mem_iff_getElem.1 hc
    exact(World.cells?_some (h2 i hi).1).2.1
   refine⟨⟨some a,len,cap⟩,rfl,hl,hby,css,h1,λc hc=>⟨hsz c hc,?_⟩,?_,?_⟩
   . obtain⟨i,hi,rfl⟩:=List.mem_iff_getElem.1 hc
     exact(h2 i hi).2
   . rw[za8v hsz,h1]
   . refine zakh λi hi=>?_
     rw[za8v hsz]at hi
     have hk:0<P.cellsOf e:=by
      rcases Nat.eq_zero_or_pos (P.cellsOf e)with h0 | h0
      . rw[h0,Nat.mul_zero]at hi;omega
      . exact h0
     have hq:i/P.cellsOf e<css.length:=(Nat.div_lt_iff_lt_mul hk).2 hi
     have hr:i % P.cellsOf e<P.cellsOf e:=Nat.mod_lt _ hk
     have hi':i=i/P.cellsOf e*P.cellsOf e+i % P.cellsOf e:=by rw[Nat.mul_comm];exact(Nat.div_add_mod _ _).symm
     have h3:=(World.cells?_some (h2 _ hq).1).2.2 _ hr
     rw[zir,<-hi']at h3
     have h4:css.flatten[i]?=css.flatten[i/P.cellsOf e*P.cellsOf e+i % P.cellsOf e]?:=congrArg (css.flatten[·]?) hi'
     rw[h3,h4,zake hsz hr,List.getElem?_eq_getElem hq]
     rfl
theorem zaq5{ts:List TypeId}{ds:List (DataW H)}{t:TypeId}{v:Value}{d:DataW H}{ps:List MemPlace}(i:Nat)(ht:ts[i]?=some t)(hd:ds[i]?=some d)(h:DataW.Trod enc P w 0 (λ_=>true) true t v d ps)
 (hw:(DataW.weightsEach P ts ds).all (·<=reachBytes)=true):Okt enc P w t v.cells.toList:=by
 obtain⟨n,hn⟩:=h
 exact⟨n,_,hn,λk hk=>of_decide_eq_true (List.all_eq_true.1 hw k (zii ht hd k hk))⟩
theorem sl_of{t e:TypeId}{r:Reach}{b:Nat}{v:Value}(ht:P.underlying t=some (.slice e))(hv:Value.okWide P w r b t v)(h:Okt enc P w t v.cells.toList) :
 ∃s:Sl,v=Lf.sl.up s/\v.cells.toList=[Lf.sl.up s]:=by
 obtain⟨s,hs,_⟩:=h.slice ht
 refine⟨s,?_,hs⟩
 unfold Value.okWide at hv
 rw[ht]at hv
 simp only at hv
 unfold Cell.okWide at hv
 rw[ht]at hv
 cases v<;>simp only[Cell.ok,ht]at hv
 simpa [Value.cells] using hs
end
end Den
end

section
namespace Iv
def W:Nat:=4294967296
theorem W_pos:0<W:=by decide
theorem W_eq:W=4294967296:=rfl
def vl:List Nat->Nat
 | []=>0
 | x :: r=>x+W*vl r
def okW(l:List Nat):Prop:=∀d∈l,d<W
def trimL:List Nat->List Nat
 | []=>[]
 | x :: r=>match trimL r with
   | []=>if x=0 then []else [x]
   | y :: t=>x :: y :: t
def dg(n:Nat):List Nat:=if h:n=0 then []else (n % W) :: dg (n/W)
termination_by n
decreasing_by exact Nat.div_lt_self (Nat.pos_of_ne_zero h) (by decide)
theorem zbg:dg 0=[]:=by unfold dg;simp
theorem zvz{n:Nat}(h:n≠0):dg n=(n % W) :: dg (n/W):=by conv=>lhs;unfold dg;rw[dif_neg h]
theorem vl_dg(n:Nat):vl (dg n)=n:=by
 induction n using Nat.strongRecOn with
 | _ n ih=>
   by_cases h:n=0
   . subst h;rw[zbg];rfl
   . rw[zvz h]
     simp only[vl]
     rw[ih (n/W) (Nat.div_lt_self (Nat.pos_of_ne_zero h) (by decide))]
     exact Nat.mod_add_div n W
theorem ok_dg(n:Nat):okW (dg n):=by
 induction n using Nat.strongRecOn with
 | _ n ih=>
   by_cases h:n=0
   . subst h;rw[zbg];intro d hd;cases hd
   . rw[zvz h]
     intro d hd
     rcases List.mem_cons.1 hd with rfl | hd
     . exact Nat.mod_lt _ W_pos
     . exact ih (n/W) (Nat.div_lt_self (Nat.pos_of_ne_zero h) (by decide)) d hd
theorem zgz{n:Nat}:dg n=[]↔n=0:=by
 constructor
 . intro h
   have:=vl_dg n
   rw[h]at this
   exact this.symm
 . rintro rfl;exact zbg
theorem za0f{x:Nat}{r:List Nat}(h:okW (x :: r)):x<W/\okW r:=⟨h x List.mem_cons_self,λd hd=>h d (List.mem_cons_of_mem _ hd)⟩
theorem zar:∀{l:List Nat},okW l->trimL l=dg (vl l)
 | [],_=>by simp[trimL,vl,zbg]
 | x :: r,h=>by
   obtain⟨hx,hr⟩:=za0f h
   have ih:=zar hr
   unfold trimL vl
   rw[ih]
   by_cases hv:vl r=0
   . rw[hv,zbg]
     simp only[Nat.mul_zero,Nat.add_zero]
     by_cases h0:x=0
     . rw[if_pos h0,h0,zbg]
     . rw[if_neg h0,zvz h0,Nat.mod_eq_of_lt hx,Nat.div_eq_of_lt hx,zbg]
   . have hne:dg (vl r)≠[]:=λhh=>hv (zgz.1 hh)
     have hpos:x+W*vl r≠0:=by
      have:0<W*vl r:=Nat.mul_pos W_pos (Nat.pos_of_ne_zero hv)
      omega
     rw[zvz hpos,Nat.add_mul_mod_self_left,Nat.mod_eq_of_lt hx,Nat.add_mul_div_left _ _ W_pos,Nat.div_eq_of_lt hx,Nat.zero_add]
     cases hd:dg (vl r)with
     | nil=>exact absurd hd hne
     | cons y t=>rfl
theorem vl_lt:∀{l:List Nat},okW l->vl l<W ^ l.length
 | [],_=>by simp[vl]
 | x :: r,h=>by
   obtain⟨hx,hr⟩:=za0f h
   have ih:=vl_lt hr
   simp only[vl,List.length_cons,Nat.pow_succ]
   have:W*(vl r+1)<=W*W ^ r.length:=Nat.mul_le_mul_left _ ih
   rw[Nat.mul_comm (W ^ r.length)]
   rw[Nat.mul_add]at this
   omega
theorem zbs{n k:Nat}:(dg n).length<=k↔n<W ^ k:=by
 constructor
 . intro h
   have h1:=vl_lt (ok_dg n)
   rw[vl_dg]at h1
   exact Nat.lt_of_lt_of_le h1 (Nat.pow_le_pow_right W_pos h)
 . induction k generalizing n with
   | zero=>
     intro h
     have:n=0:=by simp at h;exact h
     subst this;rw[zbg];simp
   | succ k ih=>
     intro h
     by_cases hn:n=0
     . subst hn;rw[zbg];simp
     . rw[zvz hn]
       simp only[List.length_cons]
       have:n/W<W ^ k:=by
        rw[Nat.div_lt_iff_lt_mul W_pos];rw[Nat.pow_succ]at h;exact h
       have:=ih this
       omega
theorem zmd:∀(a b:List Nat),vl (a++b)=vl a+W ^ a.length*vl b
 | [],b=>by simp[vl]
 | x :: r,b=>by
   simp only[List.cons_append,vl,zmd r b,List.length_cons,Nat.pow_succ]
   rw[Nat.mul_add,Nat.mul_comm (W ^ r.length) W,Nat.mul_assoc];omega
theorem zak7{l:List Nat}(hok:okW l)(ht:trimL l=l):l=dg (vl l):=ht.symm.trans (zar hok)
theorem zn6:∀{l:List Nat} {k v:Nat} (hk:k<l.length),vl (l.set k v)+W ^ k*l[k]=vl l+W ^ k*v
 | [],k,v,hk=>by simp at hk
 | x :: r,0,v,hk=>by simp[vl];omega
 | x :: r,k+1,v,hk=>by
   have hk':k<r.length:=by simpa using hk
   have ih:=zn6 (v:=v) hk'
   simp only[List.set_cons_succ,vl,List.getElem_cons_succ,Nat.pow_succ]
   have e1:W ^ k*W*r[k]=W*(W ^ k*r[k]):=by rw[Nat.mul_comm (W ^ k) W,Nat.mul_assoc]
   have e2:W ^ k*W*v=W*(W ^ k*v):=by rw[Nat.mul_comm (W ^ k) W,Nat.mul_assoc]
   rw[e1,e2]
   have:=congrArg (W*·) ih
   simp only[Nat.mul_add]at this
   omega
theorem zdh{l:List Nat}{k v:Nat}(hl:okW l)(hv:v<W):okW (l.set k v):=λd hd=>by
 rcases List.mem_or_eq_of_mem_set hd with h | h
 . exact hl d h
 . rw[h];exact hv
theorem zan{l:List Nat}{k:Nat}(hk:k<l.length):vl (l.take (k+1))=vl (l.take k)+W ^ k*l[k]:=by
 rw[List.take_succ_eq_append_getElem hk,zmd,List.length_take,Nat.min_eq_left (by omega)]
 simp[vl]
theorem zbo{l:List Nat}(hl:okW l){k:Nat}(hk:k<l.length):l[k]<W:=hl _ (List.getElem_mem hk)
theorem zhh{l:List Nat}(hl:okW l)(k:Nat):okW (l.take k):=λd hd=>hl d (List.mem_of_mem_take hd)
theorem zmm{l:List Nat}(hl:okW l)(k:Nat):okW (l.drop k):=λd hd=>hl d (List.mem_of_mem_drop hd)
theorem za91{a b:List Nat}(ha:okW a)(hb:okW b):okW (a++b):=λd hd=>(List.mem_append.1 hd).elim (ha d) (hb d)
theorem zax{l:List Nat}{k:Nat}(hk:k<=l.length):vl l=vl (l.take k)+W ^ k*vl (l.drop k):=by
 have:=zmd (l.take k) (l.drop k)
 rw[List.take_append_drop,List.length_take,Nat.min_eq_left hk]at this;exact this
theorem zaiy(n:Nat):vl (List.replicate n 0)=0:=by
 induction n with
 | zero=>rfl
 | succ n ih=>rw[List.replicate_succ];simp[vl,ih]
theorem zjw(n:Nat):okW (List.replicate n 0):=λd hd=>by rw[(List.mem_replicate.1 hd).2];decide
theorem zapn:okW []:=λd hd=>by cases hd
theorem trim_len(l:List Nat):(trimL l).length<=l.length:=by
 induction l with
 | nil=>exact Nat.le_refl _
 | cons x r ih=>
   unfold trimL
   split
   . split<;>simp
   . rename_i y t h
     rw[h]at ih
     simp only[List.length_cons]at ih |-;omega
theorem zj8(l:List Nat):trimL l=l.take (trimL l).length:=by
 induction l with
 | nil=>rfl
 | cons x r ih=>
   unfold trimL
   split
   . split<;>simp
   . rename_i y t h
     rw[h]at ih
     simp only[List.length_cons]at ih |-
     rw[List.take_succ_cons,<-ih]
theorem za4v(l:List Nat):trimL (l++[0])=trimL l:=by
 induction l with
 | nil=>simp[trimL]
 | cons x r ih=>simp only[List.cons_append,trimL,ih]
theorem za8l(l:List Nat){x:Nat}(hx:x≠0):trimL (l++[x])=l++[x]:=by
 induction l with
 | nil=>simp[trimL,hx]
 | cons y r ih=>
   simp only[List.cons_append,trimL,ih]
   cases h:r++[x]with
   | nil=>simp at h
   | cons a b=>rfl
end Iv
end

section
namespace Den
open Go Iv
def LeX(b:Nat)(h h':Hp):Prop:=∀k B,k≠b->h k=some B->h' k=some B
def apart(x y:Sl):Prop:=∀a b,x.a=some a->y.a=some b->a.block≠b.block
theorem ztm{h1 h2 h3:Hp}{s s':Nat}{x y:Sl}{cs ds:List Value}(hx:Own h1 h2 s x cs)(hy:Own h2 h3 s' y ds):apart x y:=λa b ha hb hh=>by
 obtain⟨_,_,_,gx⟩:=hx
 obtain⟨_,_,_,gy⟩:=hy
 rw[ha]at gx;rw[hb]at gy
 obtain⟨_,_,_,B,g4,_⟩:=gx
 obtain⟨_,_,g3,_⟩:=gy
 rw[hh,g3]at g4;cases g4
theorem zwl{h h':Hp}{b:Nat}(hl:LeX b h h'){a:Addr}(ha:a.block≠b):∀{n:Nat} {l:List Value},cellsAt h a n=some l->cellsAt h' a n=some l
 | 0,_,e=>e
 | n+1,l,e=>by
   unfold cellsAt at *
   cases h1:cellsAt h a n with
   | none=>rw[h1]at e;cases e
   | some l1=>
     rw[h1]at e;rw[zwl hl ha h1];simp only at e |-
     have hc:∀v,h.cell (a.add n)=some v->h'.cell (a.add n)=some v:=λv hv=>by
      unfold Hp.cell at *
      cases hs:(a.add n).spot with
      | some x=>rw[hs]at hv;cases hv
      | none=>
        rw[hs]at hv;simp only at hv |-
        rw[zcd]at hv |-
        cases hb:h a.block with
        | none=>rw[hb]at hv;cases hv
        | some B=>rw[hb]at hv;rw[hl _ _ ha hb];exact hv
     cases h2:h.cell (a.add n)with
     | none=>rw[h2]at e;cases e
     | some v=>rw[h2]at e;rw[hc v h2];exact e
theorem Rd.leX{h h':Hp}{b s:Nat}{y:Sl}{cs:List Value}(hr:Rd h s y cs)(hl:LeX b h h')(hne:∀a,y.a=some a->a.block≠b):Rd h' s y cs:=by
 refine⟨hr.1,?_⟩
 have h2:=hr.2
 cases ha:y.a with
 | none=>rw[ha]at h2;exact h2
 | some a=>rw[ha]at h2;exact zwl hl (hne a ha) h2
theorem Own.leX{h0 h h':Hp}{b s:Nat}{y:Sl}{cs:List Value}(hr:Own h0 h s y cs)(hl:LeX b h h')(h0b:h0 b=none)(hne:∀a,y.a=some a->a.block≠b):Own h0 h' s y cs:=by
 obtain⟨h1,h2,h3,h4⟩:=hr
 refine⟨λk B hk=>?_,h2,h3,?_⟩
 . exact hl k B (λhh=>by rw[hh,h0b]at hk;cases hk) (h1 k B hk)
 . cases ha:y.a with
   | none=>rw[ha]at h4;exact h4
   | some a=>
     rw[ha]at h4
     obtain⟨g1,g2,g3,B,g4,g5⟩:=h4
     exact⟨g1,g2,g3,B,hl _ _ (hne a ha) g4,g5⟩
theorem zaow{h0 h:Hp}{size:Nat}{x:Sl}{cs vs:List Value}{i:Int}{K:Hp->Prop}(k:Nat)(ho:Own h0 h size x cs)(hi:i=k)(hk:k<x.len)(hv:vs.length=size)(hsz:0<size)(hleaf:vs.all Value.leaf=true)
 (H:∀h' b,(∀a,x.a=some a->a.block=b)->h0 b=none->LeX b h h'->Own h0 h' size x (splice cs (k*size) vs)->K h'):idxP x i size λa=>stP a vs K h:=by
 have ho':=ho
 obtain⟨h1,h2,h3,h4⟩:=ho
 cases ha:x.a with
 | none=>rw[ha]at h4;simp only at h4;omega
 | some a=>
   rw[ha]at h4
   obtain⟨g1,g2,g3,b,g4,g5,g6,g7⟩:=h4
   have key:=zanf (K:=λh'=>LeX a.block h h'->K h') k ho' hi hk hv hsz hleaf (λh' ho2 hl=>H h' a.block (λa' ha'=>by rw[ha]at ha';cases ha';rfl) g3 hl ho2)
   obtain⟨q1,q2,q3⟩:=key
   refine⟨q1,q2,?_⟩
   rw[ha]at q3 |-
   simp only[ptrK]at q3 |-
   obtain⟨B,r1,r2,r3,r4,r5,r6⟩:=q3
   refine⟨B,r1,r2,r3,r4,r5,r6 ?_⟩
   rw[zcd]
   intro kk BB hne hkk
   rw[Hp.ins_ne hne];exact hkk
def wc(l:List Nat):List Value:=l.map λ(n:Nat)=>Value.int .u32 (n:Int)
theorem zwh(l:List Nat):(wc l).length=l.length:=by simp[wc]
theorem zapy{l:List Nat}{k v:Nat}(hk:k<l.length):splice (wc l) (k*1) [.int .u32 (v:Int)]=wc (l.set k v):=by
 rw[Nat.mul_one,zaio]
 unfold wc
 rw[List.map_set]
 have hk':k<(l.map λ(n:Nat)=>Value.int .u32 (n:Int)).length:=by simpa using hk
 rw[List.set_eq_take_append_cons_drop,if_pos hk']
theorem zapx(n:Nat):repl n [Value.int .u32 0]=wc (List.replicate n 0):=by
 unfold repl wc;simp
theorem zalg(a b:List Nat):wc (a++b)=wc a++wc b:=by simp[wc]
def RdW(h:Hp)(x:Sl)(l:List Nat):Prop:=Rd h 1 x (wc l)/\x.len<=x.cap
abbrev OwnW(h0 h:Hp)(x:Sl)(l:List Nat):Prop:=Own h0 h 1 x (wc l)
theorem RdW.len{h:Hp}{x:Sl}{l:List Nat}(hr:RdW h x l):x.len=l.length:=by have:=hr.1.1;rw[zwh]at this;omega
theorem OwnW.rdW{h0 h:Hp}{x:Sl}{l:List Nat}(hr:OwnW h0 h x l):RdW h x l:=⟨hr.rd,hr.2.2.1⟩
theorem OwnW.len{h0 h:Hp}{x:Sl}{l:List Nat}(hr:OwnW h0 h x l):x.len=l.length:=RdW.len hr.rdW
theorem RdW.le{h h':Hp}{x:Sl}{l:List Nat}(hr:RdW h x l)(hl:h.le h'):RdW h' x l:=⟨hr.1.le hl,hr.2⟩
theorem RdW.nil{h:Hp}:RdW h nilS []:=⟨Rd.nil,Nat.le_refl _⟩
theorem RdW.leX{h h':Hp}{b:Nat}{y:Sl}{l:List Nat}(hr:RdW h y l)(hl:LeX b h h')(hne:∀a,y.a=some a->a.block≠b):RdW h' y l:=⟨hr.1.leX hl hne,hr.2⟩
theorem za39{h:Hp}{a:Addr}{l:List Value}(H:∀i v,l[i]?=some v->h.cell (a.add i)=some v):∀n,n<=l.length->cellsAt h a n=some (l.take n)
 | 0,_=>by simp[cellsAt]
 | n+1,hn=>by
   unfold cellsAt
   rw[za39 H n (by omega)]
   have h1:l[n]?=some l[n]:=List.getElem?_eq_getElem (by omega)
   simp only[H n _ h1]
   rw[List.take_succ_eq_append_getElem (by omega)]
theorem Rd.cut{h:Hp}{x:Sl}{cs:List Value}(hr:Rd h 1 x cs)(lo hi:Nat)(h1:lo<=hi)(h2:hi<=cs.length)(h3:hi<=x.cap):Rd h 1 (x.cut lo hi 1) ((cs.drop lo).take (hi-lo)):=by
 have hlen:((cs.drop lo).take (hi-lo)).length=hi-lo:=by rw[List.length_take,List.length_drop];omega
 refine⟨by rw[hlen];show(hi-lo)*1=_;omega,?_⟩
 rw[hlen]
 by_cases h0:hi=lo
 . have:hi-lo=0:=by omega
   rw[this]
   cases(x.cut lo hi 1).a<;>simp[cellsAtO,cellsAt]
 . have hne:x.cap≠lo:=by omega
   have ha:(x.cut lo hi 1).a=x.a.map (·.add (lo*1)):=by show(if x.cap=lo then _ else _)=_;rw[if_neg hne]
   rw[ha]
   have hr2:=hr.2
   cases hxa:x.a with
   | none=>
     rw[hxa]at hr2
     simp only[cellsAtO]at hr2
     split at hr2
     . omega
     . cases hr2
   | some a=>
     rw[hxa]at hr2
     simp only[cellsAtO]at hr2
     show cellsAt h (a.add (lo*1)) (hi-lo)=_
     have key:=za39 (h:=h) (a:=a.add (lo*1)) (l:=cs.drop lo) (λi v hv=>by
      rw[zir]
      refine zhs hr2 _ v ?_
      rw[List.getElem?_drop]at hv
      rw[Nat.mul_one];exact hv) (hi-lo) (by rw[List.length_drop];omega)
     exact key
theorem RdW.cut{h:Hp}{x:Sl}{l:List Nat}(hr:RdW h x l)(lo hi:Nat)(h1:lo<=hi)(h2:hi<=l.length):RdW h (x.cut lo hi 1) ((l.drop lo).take (hi-lo)):=by
 have hl:=hr.len
 have hc:=hr.2
 refine⟨?_,?_⟩
 . have:=hr.1.cut lo hi h1 (by rw[zwh];exact h2) (by omega)
   unfold wc at *
   rw[List.map_take,List.map_drop];exact this
 . show hi-lo<=x.cap-lo;omega
theorem zaor{h:Hp}{x:Sl}{l:List Nat}{lo hi:Int}{K:Sl->Prop}(a b:Nat)(hr:RdW h x l)(ha:lo=a)(hb:hi=b)(hab:a<=b)(hbl:b<=l.length)
 (H:RdW h (x.cut a b 1) ((l.drop a).take (b-a))->K (x.cut a b 1)):slP x lo hi 1 K:=by
 subst ha hb
 have hl:=hr.len
 have hc:=hr.2
 exact⟨by omega,by omega,by omega,H (hr.cut a b hab hbl)⟩
theorem zad{h:Hp}{x:Sl}{l:List Nat}{i:Int}{Ka:Addr->Prop}(k:Nat)(hr:RdW h x l)(hi:i=k)(hk:k<l.length)
 (H:∀a,h.cell a=some (.int .u32 (l[k]:Int))->Ka a):idxP x i 1 Ka:=
 zabx k hr.1 hi (v:=.int .u32 (l[k]:Int)) (by simp[wc,hk]) H
theorem zdx{h0 h:Hp}{x:Sl}{l:List Nat}{i:Int}{v:Int}{K:Hp->Prop}(k n:Nat)(ho:OwnW h0 h x l)(hi:i=k)(hk:k<l.length)(hv:v=n)
 (H:∀h' b,(∀a,x.a=some a->a.block=b)->h0 b=none->LeX b h h'->OwnW h0 h' x (l.set k n)->K h'):idxP x i 1 λa=>stP a [.int .u32 v] K h:=by
 subst hv
 refine zaow k ho hi (by rw[ho.len];exact hk) rfl (by decide) rfl λh' b h1 h2 h3 h4=>H h' b h1 h2 h3 ?_
 rw[zapy hk]at h4;exact h4
theorem zeo{h:Hp}{len cap:Int}{K:Sl->Hp->Prop}(l c:Nat)(hl:len=l)(hc:cap=c)(hlc:l<=c)(hb:c<=35184372088832)
 (H:∀x h',x.len=l->OwnW h h' x (List.replicate l 0)->K x h'):mkP len cap 4 [.int .u32 0] K h:=by
 refine zahx (size:=1) l c hl hc hlc (by omega) (by omega) rfl λx h' hx _ ho=>H x h' hx ?_
 rw[zapx]at ho;exact ho
theorem zady{h0 h:Hp}{x:Sl}{l:List Nat}{v:Int}{K:Sl->Hp->Prop}(n:Nat)(ho:OwnW h0 h x l)(hv:v=n)(hb:l.length<35184372088832)
 (H:∀y h',OwnW h0 h' y (l++[n])->K y h'):appP 1 4 [.int .u32 0] x 1 [.int .u32 v] K h:=by
 subst hv
 have hl:=ho.len
 refine zk6 ho (n:=1) rfl rfl rfl (by omega) (by omega) λy h' hy hyl=>H y h' ?_
 unfold OwnW
 rw[zalg];exact hy
theorem u64n{n:Nat}(h:n<18446744073709551616):u64.wrap (n:Int)=(n:Int):=wu64 (by omega)
theorem u32n(n:Nat):u32.wrap (n:Int)=((n % W:Nat):Int):=by
 simp[IntKind.wrap,IntKind.signed,IntKind.bits,W]
theorem i64n{n:Nat}(h:n<9223372036854775808):i64.wrap (n:Int)=(n:Int):=w64 (by omega)
theorem shr32(n:Nat):((n:Int)).fdiv (2 ^ (min (32:Int).toNat u64.bits))=((n/W:Nat):Int):=by
 have:(2:Int) ^ (min (32:Int).toNat u64.bits)=((4294967296:Nat):Int):=by decide
 rw[this]
 show((n:Int)).fdiv ((4294967296:Nat):Int)=((n/4294967296:Nat):Int)
 exact Int.ofNat_fdiv n 4294967296 |>.symm
theorem mac{c x y z:Nat}(hc:c<W)(hx:x<W)(hy:y<W)(hz:z<W) :
 u64.wrap ((c:Int)+u64.wrap (u64.wrap (u64.wrap (x:Int)*u64.wrap (y:Int))+u64.wrap (z:Int)))=((c+(x*y+z):Nat):Int):=by
 unfold W at *
 have hxy:x*y<=4294967295*4294967295:=Nat.mul_le_mul (by omega) (by omega)
 rw[u64n (n:=x) (by omega),u64n (n:=y) (by omega),u64n (n:=z) (by omega)]
 rw[show((x:Int)*(y:Int))=((x*y:Nat):Int)by simp,u64n (n:=x*y) (by omega)]
 rw[show(((x*y:Nat):Int)+(z:Int))=((x*y+z:Nat):Int)by simp,u64n (n:=x*y+z) (by omega)]
 rw[show((c:Int)+((x*y+z:Nat):Int))=((c+(x*y+z):Nat):Int)by simp,u64n (by omega)]
theorem zamm{c x y z:Nat}(hc:c<W)(hx:x<W)(hy:y<W)(hz:z<W):(c+(x*y+z))/W<W:=by
 rw[Nat.div_lt_iff_lt_mul W_pos]
 unfold W at *
 have hxy:x*y<=4294967295*4294967295:=Nat.mul_le_mul (by omega) (by omega)
 omega
end Den
end

section
set_option maxRecDepth 10000
namespace Den
open Go
structure TInt where
 neg:Bool
 mag:Sl
def tyTInt:Ty TInt:=Ty.agg [.bool,.sl] (λx=>(x.neg,x.mag,())) (λy=>⟨y.1,y.2.1⟩) (λ_=>rfl) (λ_=>rfl)
structure TRat where
 num:TInt
 den:TInt
def tyTRat:Ty TRat:=Ty.agg [.bool,.sl,.bool,.sl] (λx=>(x.num.neg,x.num.mag,x.den.neg,x.den.mag,())) (λy=>⟨⟨y.1,y.2.1⟩,⟨y.2.2.1,y.2.2.2.1⟩⟩) (λ_=>rfl) (λ_=>rfl)
structure TInterval where
 low:TRat
 high:TRat
def tyTInterval:Ty TInterval:=Ty.agg [.bool,.sl,.bool,.sl,.bool,.sl,.bool,.sl] (λx=>(x.low.num.neg,x.low.num.mag,x.low.den.neg,x.low.den.mag,x.high.num.neg,x.high.num.mag,x.high.den.neg,x.high.den.mag,())) (λy=>⟨⟨⟨y.1,y.2.1⟩,⟨y.2.2.1,y.2.2.2.1⟩⟩,⟨⟨y.2.2.2.2.1,y.2.2.2.2.2.1⟩,⟨y.2.2.2.2.2.2.1,y.2.2.2.2.2.2.2.1⟩⟩⟩) (λ_=>rfl) (λ_=>rfl)
structure A2_TRat where
 c0:TRat
 c1:TRat
def zale:Ty A2_TRat:=Ty.agg [.bool,.sl,.bool,.sl,.bool,.sl,.bool,.sl] (λx=>(x.c0.num.neg,x.c0.num.mag,x.c0.den.neg,x.c0.den.mag,x.c1.num.neg,x.c1.num.mag,x.c1.den.neg,x.c1.den.mag,())) (λy=>⟨⟨⟨y.1,y.2.1⟩,⟨y.2.2.1,y.2.2.2.1⟩⟩,⟨⟨y.2.2.2.2.1,y.2.2.2.2.2.1⟩,⟨y.2.2.2.2.2.2.1,y.2.2.2.2.2.2.2.1⟩⟩⟩) (λ_=>rfl) (λ_=>rfl)
namespace F
def za8(m:Sl)(K:Sl->Hp->Prop)(h:Hp):Prop:=
 (loopP (S:=Sl×Unit) (λs1 k2 h1=>
 (joinP (S:=Unit) (λs3 h2=>
 (slP s1.1 0 (i64.wrap ((s1.1.len:Int)-1)) 1 λc5=>
 (k2 (c5,()) h2)))
 (λk4=>
 (ifP (decide ((s1.1.len:Int)>0))
 (idxP s1.1 (i64.wrap ((s1.1.len:Int)-1)) 1 λa6=>
 (ldL (.int .u32) a6 (λx7=>
 (ifP (x7==0)
 (k4 () h1)
 (K s1.1 h1))) h1))
 (K s1.1 h1)))))
 (m,()) h)
def zaw(n:Int)(K:Sl->Hp->Prop)(h:Hp):Prop:=
 (0<=(32:Int) /\
 (newP [.int .u32 (u32.wrap (n)),.int .u32 (u32.wrap ((n:Int).fdiv (2 ^ (min (32:Int).toNat u64.bits))))] (λp1 h1=>
 (callP (za8 (⟨some p1,2,2⟩:Sl)) (λr2 h2=>
 (K r2 h2)) h1)) h))
def zaf(neg:Bool)(m:Sl)(K:TInt->Hp->Prop)(h:Hp):Prop:=
 (callP (za8 m) (λr1 h1=>
 (ifP ((r1.len:Int)==0)
 (K (⟨false,nilS⟩:TInt) h1)
 (K (⟨neg,r1⟩:TInt) h1))) h)
def zc8(n:Int)(K:TInt->Hp->Prop)(h:Hp):Prop:=
 (joinP (S:=Int×Unit) (λs1 h1=>
 (callP (zaw s1.1) (λr3 h2=>
 (callP (zaf (decide (n<0)) r3) (λr4 h3=>
 (K r4 h3)) h2)) h1))
 (λk2=>
 (ifP (decide (n<0))
 (k2 ((u64.wrap (0-(u64.wrap (n)))),()) h)
 (k2 ((u64.wrap (n)),()) h))))
def zew(K:TInt->Hp->Prop)(h:Hp):Prop:=
 (callP (zc8 1) (λr1 h1=>
 (K r1 h1)) h)
def zal(n:Int)(K:TRat->Hp->Prop)(h:Hp):Prop:=
 (callP (zc8 n) (λr1 h1=>
 (callP (zew) (λr2 h2=>
 (K (⟨r1,r2⟩:TRat) h2)) h1)) h)
def zdq(a:TInt)(K:Int->Hp->Prop)(h:Hp):Prop:=
 (callP (za8 a.mag) (λr1 h1=>
 (ifP ((r1.len:Int)==0)
 (K 0 h1)
 (ifP a.neg
 (K (-1) h1)
 (K 1 h1)))) h)
def zcc(a:TRat)(K:Int->Hp->Prop)(h:Hp):Prop:=
 (callP (zdq a.num) (λr1 h1=>
 (K r1 h1)) h)
def zf9(a:Sl)(b:Sl)(K:Sl->Hp->Prop)(h:Hp):Prop:=
 (joinP (S:=Unit) (λs1 h1=>
 (mkP (i64.wrap ((a.len:Int)+(b.len:Int))) (i64.wrap ((a.len:Int)+(b.len:Int))) 4 [.int .u32 0] (λm3 h2=>
 (loopP (S:=Int×Unit) (λs4 k5 h3=>
 (ifP (decide (s4.1<(a.len:Int)))
 (idxP a s4.1 1 λa6=>
 (ldL (.int .u32) a6 (λx7=>
 (loopP (S:=Int×Int×Unit) (λs8 k9 h4=>
 (ifP (decide (s8.2.1<(b.len:Int)))
 (idxP b s8.2.1 1 λa10=>
 (ldL (.int .u32) a10 (λx11=>
 (idxP m3 (i64.wrap (s4.1+s8.2.1)) 1 λa12=>
 (ldL (.int .u32) a12 (λx13=>
 (idxP m3 (i64.wrap (s4.1+s8.2.1)) 1 λa14=>
 (stP a14 [.int .u32 (u32.wrap ((u64.wrap (s8.1+(u64.wrap ((u64.wrap ((u64.wrap (x7))*(u64.wrap (x11))))+(u64.wrap (x13))))))))] (λh5=>
 (0<=(32:Int) /\
 (k9 (((u64.wrap (s8.1+(u64.wrap ((u64.wrap ((u64.wrap (x7))*(u64.wrap (x11))))+(u64.wrap (x13)))))):Int).fdiv (2 ^ (min (32:Int).toNat u64.bits)),(i64.wrap (s8.2.1+1)),()) h5))) h4))) h4))) h4))
 (idxP m3 (i64.wrap (s4.1+(b.len:Int))) 1 λa15=>
 (stP a15 [.int .u32 (u32.wrap (s8.1))] (λh6=>
 (k5 ((i64.wrap (s4.1+1)),()) h6)) h4))))
 (0,0,()) h3)) h3))
 (callP (za8 m3) (λr16 h7=>
 (K r16 h7)) h3)))
 (0,()) h2)) h1))
 (λk2=>
 (ifP ((a.len:Int)==0)
 (K nilS h)
 (ifP ((b.len:Int)==0)
 (K nilS h)
 (k2 () h)))))
def zbf(a:TInt)(b:TInt)(K:TInt->Hp->Prop)(h:Hp):Prop:=
 (callP (za8 a.mag) (λr1 h1=>
 (callP (za8 b.mag) (λr2 h2=>
 (callP (zf9 r1 r2) (λr3 h3=>
 (callP (zaf (!(a.neg==b.neg)) r3) (λr4 h4=>
 (K r4 h4)) h3)) h2)) h1)) h)
def zf5(x:Int)(K:Bool->Hp->Prop)(h:Hp):Prop:=
 (K (x != x) h)
def ze1(x:Int)(y:Int)(K:Int->Hp->Prop)(h:Hp):Prop:=
 (callP (zf5 x) (λr1 h1=>
 (callP (zf5 y) (λr2 h2=>
 (ifP r1
 (ifP r2
 (K 0 h2)
 (K (-1) h2))
 (ifP r2
 (K 1 h2)
 (ifP (decide (x<y))
 (K (-1) h2)
 (ifP (decide (x>y))
 (K 1 h2)
 (K 0 h2)))))) h1)) h)
def zdd(x:Int)(K:Bool->Hp->Prop)(h:Hp):Prop:=
 (K (x != x) h)
def zdo(x:Int)(y:Int)(K:Int->Hp->Prop)(h:Hp):Prop:=
 (callP (zdd x) (λr1 h1=>
 (callP (zdd y) (λr2 h2=>
 (ifP r1
 (ifP r2
 (K 0 h2)
 (K (-1) h2))
 (ifP r2
 (K 1 h2)
 (ifP (decide (x<y))
 (K (-1) h2)
 (ifP (decide (x>y))
 (K 1 h2)
 (K 0 h2)))))) h1)) h)
def zc9(a:Sl)(b:Sl)(K:Int->Hp->Prop)(h:Hp):Prop:=
 (ifP ((a.len:Int) != (b.len:Int))
 (callP (ze1 (a.len:Int) (b.len:Int)) (λr1 h1=>
 (K r1 h1)) h)
 (loopP (S:=Int×Unit) (λs2 k3 h2=>
 (ifP (decide (s2.1>=0))
 (idxP a s2.1 1 λa4=>
 (ldL (.int .u32) a4 (λx5=>
 (idxP b s2.1 1 λa6=>
 (ldL (.int .u32) a6 (λx7=>
 (ifP (x5 != x7)
 (idxP a s2.1 1 λa8=>
 (ldL (.int .u32) a8 (λx9=>
 (idxP b s2.1 1 λa10=>
 (ldL (.int .u32) a10 (λx11=>
 (callP (zdo x9 x11) (λr12 h3=>
 (K r12 h3)) h2)) h2))) h2))
 (k3 ((i64.wrap (s2.1-1)),()) h2))) h2))) h2))
 (K 0 h2)))
 ((i64.wrap ((a.len:Int)-1)),()) h))
def zkj(a:TInt)(b:TInt)(K:Int->Hp->Prop)(h:Hp):Prop:=
 (callP (zdq a) (λr1 h1=>
 (callP (zdq b) (λr2 h2=>
 (ifP (r1 != r2)
 (callP (ze1 r1 r2) (λr3 h3=>
 (K r3 h3)) h2)
 (callP (za8 a.mag) (λr4 h4=>
 (callP (za8 b.mag) (λr5 h5=>
 (callP (zc9 r4 r5) (λr6 h6=>
 (K (i64.wrap (r1*r6)) h6)) h5)) h4)) h2))) h1)) h)
def zga(a:TRat)(b:TRat)(K:Int->Hp->Prop)(h:Hp):Prop:=
 (callP (zcc a) (λr1 h1=>
 (callP (zcc b) (λr2 h2=>
 (ifP (r1 != r2)
 (ifP (decide (r1<r2))
 (K (-1) h2)
 (K 1 h2))
 (callP (zbf a.num b.den) (λr3 h3=>
 (callP (zbf b.num a.den) (λr4 h4=>
 (callP (zkj r3 r4) (λr5 h5=>
 (K r5 h5)) h4)) h3)) h2))) h1)) h)
def ze5(a:TInt)(K:Bool->Hp->Prop)(h:Hp):Prop:=
 (K ((a.mag.len:Int)==0) h)
def zai(s:Sl)(K:Sl->Hp->Prop)(h:Hp):Prop:=
 (ifP s.a.isNone
 (K nilS h)
 (newP [] (λp1 h1=>
 (rdO s.a (s.len*1) (λvs2=>
 (appP 1 4 [.int .u32 0] (⟨some p1,0,0⟩:Sl) s.len vs2 (λw3 h2=>
 (K w3 h2)) h1)) h1)) h))
def zc3(s:Sl)(K:Addr->Hp->Prop)(h:Hp):Prop:=
 (newP [.slice s.a s.len s.cap] (λp1 h1=>
 (K p1 h1)) h)
def zc1(m:Sl)(K:Int->Hp->Prop)(h:Hp):Prop:=
 (callP (zc3 m) (λr1 h1=>
 (backP (S:=(Int×Unit)×Unit) (.leaf (.int .u32)) r1 (λi2 v3 s4 k5 h2=>
 (0<=(32:Int) /\
 (k5 ((ibits .or .u64 (u64.wrap (s4.1.1*2 ^ (min (32:Int).toNat u64.bits))) (u64.wrap (v3)),()),()) h2)))
 ((0,()),()) (λs6 h3=>
 (K s6.1.1 h3)) h1)) h)
def zdr(a:Sl)(b:Int)(K:(Sl×Sl)->Hp->Prop)(h:Hp):Prop:=
 (mkP (a.len:Int) (a.len:Int) 4 [.int .u32 0] (λm1 h1=>
 (loopP (S:=Int×Int×Unit) (λs2 k3 h2=>
 (ifP (decide (s2.2.1>=0))
 (0<=(32:Int) /\
 (idxP a s2.2.1 1 λa4=>
 (ldL (.int .u32) a4 (λx5=>
 (((u64.wrap (b)):Int)≠0 /\
 (idxP m1 s2.2.1 1 λa6=>
 (stP a6 [.int .u32 (u32.wrap ((u64.wrap (((ibits .or .u64 (u64.wrap (s2.1*2 ^ (min (32:Int).toNat u64.bits))) (u64.wrap (x5))):Int).tdiv (u64.wrap (b))))))] (λh3=>
 (((u64.wrap (b)):Int)≠0 /\
 (k3 (((ibits .or .u64 (u64.wrap (s2.1*2 ^ (min (32:Int).toNat u64.bits))) (u64.wrap (x5))):Int).tmod (u64.wrap (b)),(i64.wrap (s2.2.1-1)),()) h3))) h2)))) h2)))
 (callP (za8 m1) (λr7 h4=>
 (callP (zaw s2.1) (λr8 h5=>
 (K (r7,r8) h5)) h4)) h2)))
 (0,(i64.wrap ((a.len:Int)-1)),()) h1)) h)
def zfd(x:Int)(K:Int->Hp->Prop)(h:Hp):Prop:=
 (joinP (S:=Int×Int×Unit) (λs1 h1=>
 (joinP (S:=Int×Int×Unit) (λs3 h2=>
 (strIdx ⟨#[0,1,2,2,3,3,3,3,4,4,4,4,4,4,4,4,5,5,5,5,5,5,5,5,5,5,5,5,5,5,5,5,6,6,6,6,6,6,6,6,6,6,6,6,6,6,6,6,6,6,6,6,6,6,6,6,6,6,6,6,6,6,6,6,7,7,7,7,7,7,7,7,7,7,7,7,7,7,7,7,7,7,7,7,7,7,7,7,7,7,7,7,7,7,7,7,7,7,7,7,7,7,7,7,7,7,7,7,7,7,7,7,7,7,7,7,7,7,7,7,7,7,7,7,7,7,7,7,8,8,8,8,8,8,8,8,8,8,8,8,8,8,8,8,8,8,8,8,8,8,8,8,8,8,8,8,8,8,8,8,8,8,8,8,8,8,8,8,8,8,8,8,8,8,8,8,8,8,8,8,8,8,8,8,8,8,8,8,8,8,8,8,8,8,8,8,8,8,8,8,8,8,8,8,8,8,8,8,8,8,8,8,8,8,8,8,8,8,8,8,8,8,8,8,8,8,8,8,8,8,8,8,8,8,8,8,8,8,8,8,8,8,8,8,8,8,8,8,8,8,8,8,8,8,8,8]⟩ (u8.wrap (s3.1)) λc5=>
 (K (i64.wrap (s3.2.1+(i64.wrap (c5)))) h2)))
 (λk4=>
 (ifP (decide (s1.1>=256))
 (0<=(8:Int) /\
 (k4 ((s1.1:Int).fdiv (2 ^ (min (8:Int).toNat u32.bits)),(i64.wrap (s1.2.1+8)),()) h1))
 (k4 (s1.1,s1.2.1,()) h1)))))
 (λk2=>
 (ifP (decide (x>=65536))
 (0<=(16:Int) /\
 (k2 ((x:Int).fdiv (2 ^ (min (16:Int).toNat u32.bits)),16,()) h))
 (k2 (x,0,()) h))))
def zby(x:Int)(K:Int->Hp->Prop)(h:Hp):Prop:=
 (callP (zfd x) (λr1 h1=>
 (K (i64.wrap (32-r1)) h1)) h)
def zc6(a:Sl)(n:Int)(K:Sl->Hp->Prop)(h:Hp):Prop:=
 (mkP (i64.wrap ((a.len:Int)+1)) (i64.wrap ((a.len:Int)+1)) 4 [.int .u32 0] (λm1 h1=>
 (loopP (S:=Int×Unit) (λs2 k3 h2=>
 (ifP (decide (s2.1<(a.len:Int)))
 (idxP a s2.1 1 λa4=>
 (ldL (.int .u32) a4 (λx5=>
 (0<=(n:Int) /\
 (idxP m1 s2.1 1 λa6=>
 (ldL (.int .u32) a6 (λx7=>
 (idxP m1 s2.1 1 λa8=>
 (stP a8 [.int .u32 (ibits .or .u32 x7 (u32.wrap ((u64.wrap ((u64.wrap (x5))*2 ^ (min (n:Int).toNat u64.bits))))))] (λh3=>
 (0<=(32:Int) /\
 (idxP m1 (i64.wrap (s2.1+1)) 1 λa9=>
 (stP a9 [.int .u32 (u32.wrap (((u64.wrap ((u64.wrap (x5))*2 ^ (min (n:Int).toNat u64.bits))):Int).fdiv (2 ^ (min (32:Int).toNat u64.bits))))] (λh4=>
 (k3 ((i64.wrap (s2.1+1)),()) h4)) h3)))) h2))) h2)))) h2))
 (K m1 h2)))
 (0,()) h1)) h)
def zen(u:Sl)(v:Sl)(digit:Int)(K:Bool->Hp->Prop)(h:Hp):Prop:=
 (loopP (S:=Int×Int×Unit) (λs1 k2 h1=>
 (ifP (decide (s1.2.1<(v.len:Int)))
 (idxP v s1.2.1 1 λa3=>
 (ldL (.int .u32) a3 (λx4=>
 (idxP u s1.2.1 1 λa5=>
 (ldL (.int .u32) a5 (λx6=>
 (idxP u s1.2.1 1 λa7=>
 (stP a7 [.int .u32 (u32.wrap ((u64.wrap ((u64.wrap (x6))-(u64.wrap ((u32.wrap ((u64.wrap ((u64.wrap ((u64.wrap (x4))*digit))+s1.1))))))))))] (λh2=>
 (0<=(32:Int) /\
 (0<=(63:Int) /\
 (k2 ((u64.wrap ((((u64.wrap ((u64.wrap ((u64.wrap (x4))*digit))+s1.1)):Int).fdiv (2 ^ (min (32:Int).toNat u64.bits)))+(((u64.wrap ((u64.wrap (x6))-(u64.wrap ((u32.wrap ((u64.wrap ((u64.wrap ((u64.wrap (x4))*digit))+s1.1)))))))):Int).fdiv (2 ^ (min (63:Int).toNat u64.bits))))),(i64.wrap (s1.2.1+1)),()) h2)))) h1))) h1))) h1))
 (idxP u (v.len:Int) 1 λa8=>
 (ldL (.int .u32) a8 (λx9=>
 (idxP u (v.len:Int) 1 λa10=>
 (stP a10 [.int .u32 (u32.wrap ((u64.wrap ((u64.wrap (x9))-s1.1))))] (λh3=>
 (0<=(63:Int) /\
 (K ((((u64.wrap ((u64.wrap (x9))-s1.1)):Int).fdiv (2 ^ (min (63:Int).toNat u64.bits)))==1) h3))) h1))) h1))))
 (0,0,()) h)
def zfc(u:Sl)(v:Sl)(K:Unit->Hp->Prop)(h:Hp):Prop:=
 (loopP (S:=Int×Int×Unit) (λs1 k2 h1=>
 (ifP (decide (s1.2.1<(v.len:Int)))
 (idxP v s1.2.1 1 λa3=>
 (ldL (.int .u32) a3 (λx4=>
 (idxP u s1.2.1 1 λa5=>
 (ldL (.int .u32) a5 (λx6=>
 (idxP u s1.2.1 1 λa7=>
 (stP a7 [.int .u32 (u32.wrap ((u64.wrap (s1.1+(u64.wrap ((u64.wrap (x6))+(u64.wrap (x4))))))))] (λh2=>
 (0<=(32:Int) /\
 (k2 (((u64.wrap (s1.1+(u64.wrap ((u64.wrap (x6))+(u64.wrap (x4)))))):Int).fdiv (2 ^ (min (32:Int).toNat u64.bits)),(i64.wrap (s1.2.1+1)),()) h2))) h1))) h1))) h1))
 (idxP u (v.len:Int) 1 λa8=>
 (ldL (.int .u32) a8 (λx9=>
 (idxP u (v.len:Int) 1 λa10=>
 (stP a10 [.int .u32 (u32.wrap (x9+(u32.wrap (s1.1))))] (λh3=>
 (K () h3)) h1))) h1))))
 (0,0,()) h)
def zds(a:Sl)(n:Int)(K:Sl->Hp->Prop)(h:Hp):Prop:=
 (mkP (a.len:Int) (a.len:Int) 4 [.int .u32 0] (λm1 h1=>
 (loopP (S:=Int×Unit) (λs2 k3 h2=>
 (ifP (decide (s2.1<(a.len:Int)))
 (joinP (S:=Unit) (λs4 h3=>
 (k3 ((i64.wrap (s2.1+1)),()) h3))
 (λk5=>
 (idxP a s2.1 1 λa6=>
 (ldL (.int .u32) a6 (λx7=>
 (0<=(n:Int) /\
 (idxP m1 s2.1 1 λa8=>
 (stP a8 [.int .u32 ((x7:Int).fdiv (2 ^ (min (n:Int).toNat u32.bits)))] (λh4=>
 (ifP (decide ((i64.wrap (s2.1+1))<(a.len:Int)))
 (idxP m1 s2.1 1 λa9=>
 (ldL (.int .u32) a9 (λx10=>
 (idxP a (i64.wrap (s2.1+1)) 1 λa11=>
 (ldL (.int .u32) a11 (λx12=>
 (0<=((i64.wrap (32-n)):Int) /\
 (idxP m1 s2.1 1 λa13=>
 (stP a13 [.int .u32 (ibits .or .u32 x10 (u32.wrap ((u64.wrap ((u64.wrap (x12))*2 ^ (min ((i64.wrap (32-n)):Int).toNat u64.bits))))))] (λh5=>
 (k5 () h5)) h4)))) h4))) h4))
 (k5 () h4))) h2)))) h2))))
 (K m1 h2)))
 (0,()) h1)) h)
def zcg(a:Sl)(b:Sl)(K:(Sl×Sl)->Hp->Prop)(h:Hp):Prop:=
 (callP (zc9 a b) (λr1 h1=>
 (ifP (decide (r1<0))
 (callP (zai a) (λr2 h2=>
 (K (nilS,r2) h2)) h1)
 (ifP (decide ((a.len:Int)<=2))
 (callP (zc1 a) (λr3 h3=>
 (callP (zc1 b) (λr4 h4=>
 ((r4:Int)≠0 /\
 ((r4:Int)≠0 /\
 (callP (zaw (u64.wrap ((r3:Int).tdiv r4))) (λr5 h5=>
 (callP (zaw ((r3:Int).tmod r4)) (λr6 h6=>
 (K (r5,r6) h6)) h5)) h4)))) h3)) h1)
 (ifP ((b.len:Int)==1)
 (idxP b 0 1 λa7=>
 (ldL (.int .u32) a7 (λx8=>
 (callP (zdr a x8) (λr9 h7=>
 (K (r9.1,r9.2) h7)) h1)) h1))
 (idxP b (i64.wrap ((b.len:Int)-1)) 1 λa10=>
 (ldL (.int .u32) a10 (λx11=>
 (callP (zby x11) (λr12 h8=>
 (callP (zc6 a r12) (λr13 h9=>
 (callP (zc6 b r12) (λr14 h10=>
 (callP (za8 r14) (λr15 h11=>
 (mkP (i64.wrap ((r13.len:Int)-(r15.len:Int))) (i64.wrap ((r13.len:Int)-(r15.len:Int))) 4 [.int .u32 0] (λm16 h12=>
 (idxP r15 (i64.wrap ((r15.len:Int)-1)) 1 λa17=>
 (ldL (.int .u32) a17 (λx18=>
 (idxP r15 (i64.wrap ((r15.len:Int)-2)) 1 λa19=>
 (ldL (.int .u32) a19 (λx20=>
 (loopP (S:=Int×Unit) (λs21 k22 h13=>
 (ifP (decide (s21.1>=0))
 (idxP r13 (i64.wrap (s21.1+(r15.len:Int))) 1 λa23=>
 (ldL (.int .u32) a23 (λx24=>
 (0<=(32:Int) /\
 (idxP r13 (i64.wrap ((i64.wrap (s21.1+(r15.len:Int)))-1)) 1 λa25=>
 (ldL (.int .u32) a25 (λx26=>
 (((u64.wrap (x18)):Int)≠0 /\
 (((u64.wrap (x18)):Int)≠0 /\
 (joinP (S:=Int×Unit) (λs27 h14=>
 (joinP (S:=Int×Unit) (λs29 h15=>
 (idxP m16 s21.1 1 λa31=>
 (stP a31 [.int .u32 (u32.wrap (s29.1))] (λh16=>
 (k22 ((i64.wrap (s21.1-1)),()) h16)) h15)))
 (λk30=>
 (slP r13 s21.1 (i64.wrap ((i64.wrap (s21.1+(r15.len:Int)))+1)) 1 λc32=>
 (callM (zen c32 r15 s27.1) (λr33 h17=>
 (ifP r33
 (slP r13 s21.1 (i64.wrap ((i64.wrap (s21.1+(r15.len:Int)))+1)) 1 λc34=>
 (callM (zfc c34 r15) (λr35 h18=>
 (k30 ((u64.wrap (s27.1-1)),()) h18)) h17))
 (k30 (s27.1,()) h17))) h14)))))
 (λk28=>
 (loopP (S:=Int×Int×Unit) (λs36 k37 h19=>
 (joinP (S:=Unit) (λs38 h20=>
 (ifP (decide ((u64.wrap (s36.2.1+(u64.wrap (x18))))>=4294967296))
 (k28 ((u64.wrap (s36.1-1)),()) h20)
 (k37 ((u64.wrap (s36.1-1)),(u64.wrap (s36.2.1+(u64.wrap (x18)))),()) h20)))
 (λk39=>
 (ifP (decide (s36.1>=4294967296))
 (k39 () h19)
 (0<=(32:Int) /\
 (idxP r13 (i64.wrap ((i64.wrap (s21.1+(r15.len:Int)))-2)) 1 λa40=>
 (ldL (.int .u32) a40 (λx41=>
 (ifP (decide ((u64.wrap (s36.1*(u64.wrap (x20))))>(ibits .or .u64 (u64.wrap (s36.2.1*2 ^ (min (32:Int).toNat u64.bits))) (u64.wrap (x41)))))
 (k39 () h19)
 (k28 (s36.1,()) h19))) h19)))))))
 ((u64.wrap (((ibits .or .u64 (u64.wrap ((u64.wrap (x24))*2 ^ (min (32:Int).toNat u64.bits))) (u64.wrap (x26))):Int).tdiv (u64.wrap (x18)))),((ibits .or .u64 (u64.wrap ((u64.wrap (x24))*2 ^ (min (32:Int).toNat u64.bits))) (u64.wrap (x26))):Int).tmod (u64.wrap (x18)),()) h13)))))) h13)))) h13))
 (slP r13 0 (r15.len:Int) 1 λc42=>
 (callP (za8 m16) (λr43 h21=>
 (callP (za8 c42) (λr44 h22=>
 (callP (zds r44 r12) (λr45 h23=>
 (callP (za8 r45) (λr46 h24=>
 (K (r43,r46) h24)) h23)) h22)) h21)) h13))))
 ((i64.wrap ((m16.len:Int)-1)),()) h12)) h12))) h12))) h11)) h10)) h9)) h8)) h1)) h1)))))) h)
def zhy(a:TInt)(b:TInt)(K:TInt->Hp->Prop)(h:Hp):Prop:=
 (callP (za8 a.mag) (λr1 h1=>
 (callP (za8 b.mag) (λr2 h2=>
 (joinP (S:=Sl×Sl×Unit) (λs3 h3=>
 (ifP ((s3.2.1.len:Int)==0)
 (callP (zai s3.1) (λr5 h4=>
 (callP (zaf false r5) (λr6 h5=>
 (K r6 h5)) h4)) h3)
 (callP (zc1 s3.1) (λr7 h6=>
 (callP (zc1 s3.2.1) (λr8 h7=>
 (loopP (S:=Int×Int×Unit) (λs9 k10 h8=>
 (ifP (s9.2.1 != 0)
 ((s9.2.1:Int)≠0 /\
 (k10 (s9.2.1,(s9.1:Int).tmod s9.2.1,()) h8))
 (callP (zaw s9.1) (λr11 h9=>
 (callP (zaf false r11) (λr12 h10=>
 (K r12 h10)) h9)) h8)))
 (r7,r8,()) h7)) h6)) h3)))
 (λk4=>
 (loopP (S:=Sl×Sl×Unit) (λs13 k14 h11=>
 (joinP (S:=Unit) (λs15 h12=>
 (callP (zcg s13.1 s13.2.1) (λr17 h13=>
 (k14 (s13.2.1,r17.2,()) h13)) h12))
 (λk16=>
 (ifP (decide ((s13.2.1.len:Int)>2))
 (k16 () h11)
 (ifP (decide ((s13.1.len:Int)>2))
 (ifP (decide ((s13.2.1.len:Int)>0))
 (k16 () h11)
 (k4 (s13.1,s13.2.1,()) h11))
 (k4 (s13.1,s13.2.1,()) h11))))))
 (r1,r2,()) h2)))) h1)) h)
def zc2(a:TInt)(K:Bool->Hp->Prop)(h:Hp):Prop:=
 (ifP (!a.neg)
 (ifP ((a.mag.len:Int)==1)
 (idxP a.mag 0 1 λa1=>
 (ldL (.int .u32) a1 (λx2=>
 (K (x2==1) h)) h))
 (K false h))
 (K false h))
def zem(a:Sl)(b:Sl)(K:Sl->Hp->Prop)(h:Hp):Prop:=
 (joinP (S:=Sl×Sl×Unit) (λs1 h1=>
 (mkP 0 (i64.wrap ((s1.1.len:Int)+1)) 4 [.int .u32 0] (λm3 h2=>
 (loopP (S:=Sl×Int×Int×Unit) (λs4 k5 h3=>
 (ifP (decide (s4.2.2.1<(s1.1.len:Int)))
 (idxP s1.1 s4.2.2.1 1 λa6=>
 (ldL (.int .u32) a6 (λx7=>
 (joinP (S:=Int×Unit) (λs8 h4=>
 (appP 1 4 [.int .u32 0] s4.1 1 [.int .u32 (u32.wrap (s8.1))] (λw10 h5=>
 (0<=(32:Int) /\
 (k5 (w10,(s8.1:Int).fdiv (2 ^ (min (32:Int).toNat u64.bits)),(i64.wrap (s4.2.2.1+1)),()) h5))) h4))
 (λk9=>
 (ifP (decide (s4.2.2.1<(s1.2.1.len:Int)))
 (idxP s1.2.1 s4.2.2.1 1 λa11=>
 (ldL (.int .u32) a11 (λx12=>
 (k9 ((u64.wrap ((u64.wrap (s4.2.1+(u64.wrap (x7))))+(u64.wrap (x12)))),()) h3)) h3))
 (k9 ((u64.wrap (s4.2.1+(u64.wrap (x7)))),()) h3))))) h3))
 (ifP (decide (s4.2.1>0))
 (appP 1 4 [.int .u32 0] s4.1 1 [.int .u32 (u32.wrap (s4.2.1))] (λw13 h6=>
 (K w13 h6)) h3)
 (K s4.1 h3))))
 (m3,0,0,()) h2)) h1))
 (λk2=>
 (ifP (decide ((a.len:Int)<(b.len:Int)))
 (k2 (b,a,()) h)
 (k2 (a,b,()) h))))
def zd5(a:Sl)(b:Sl)(K:Sl->Hp->Prop)(h:Hp):Prop:=
 (mkP (a.len:Int) (a.len:Int) 4 [.int .u32 0] (λm1 h1=>
 (loopP (S:=Int×Int×Unit) (λs2 k3 h2=>
 (ifP (decide (s2.2.1<(a.len:Int)))
 (idxP a s2.2.1 1 λa4=>
 (ldL (.int .u32) a4 (λx5=>
 (joinP (S:=Int×Unit) (λs6 h3=>
 (idxP m1 s2.2.1 1 λa8=>
 (stP a8 [.int .u32 (u32.wrap (s6.1))] (λh4=>
 (0<=(63:Int) /\
 (k3 ((s6.1:Int).fdiv (2 ^ (min (63:Int).toNat u64.bits)),(i64.wrap (s2.2.1+1)),()) h4))) h3)))
 (λk7=>
 (ifP (decide (s2.2.1<(b.len:Int)))
 (idxP b s2.2.1 1 λa9=>
 (ldL (.int .u32) a9 (λx10=>
 (k7 ((u64.wrap ((u64.wrap ((u64.wrap (x5))-s2.1))-(u64.wrap (x10)))),()) h2)) h2))
 (k7 ((u64.wrap ((u64.wrap (x5))-s2.1)),()) h2))))) h2))
 (callP (za8 m1) (λr11 h5=>
 (K r11 h5)) h2)))
 (0,0,()) h1)) h)
def zg6(a:TInt)(b:TInt)(K:(TInt×TInt×Int)->Hp->Prop)(h:Hp):Prop:=
 (callP (za8 b.mag) (λr1 h1=>
 (ifP ((r1.len:Int)==0)
 (K ((⟨false,nilS⟩:TInt),(⟨false,nilS⟩:TInt),6) h1)
 (callP (za8 a.mag) (λr2 h2=>
 (callP (zcg r2 r1) (λr3 h3=>
 (joinP (S:=Sl×Sl×Unit) (λs4 h4=>
 (callP (zaf (!(a.neg==b.neg)) s4.1) (λr6 h5=>
 (callP (zaf b.neg s4.2.1) (λr7 h6=>
 (K (r6,r7,0) h6)) h5)) h4))
 (λk5=>
 (ifP (!(a.neg==b.neg))
 (ifP (decide ((r3.2.len:Int)>0))
 (newP [.int .u32 1] (λp8 h7=>
 (callP (zem r3.1 (⟨some p8,1,1⟩:Sl)) (λr9 h8=>
 (callP (zd5 r1 r3.2) (λr10 h9=>
 (k5 (r9,r10,()) h9)) h8)) h7)) h3)
 (k5 (r3.1,r3.2,()) h3))
 (k5 (r3.1,r3.2,()) h3))))) h2)) h1))) h)
def zgc(a:TInt)(b:TInt)(K:TInt->Hp->Prop)(h:Hp):Prop:=
 (callP (zc2 b) (λr1 h1=>
 (ifP r1
 (K a h1)
 (callP (zg6 a b) (λr2 h2=>
 (K (⟨r2.1.neg,r2.1.mag⟩:TInt) h2)) h1))) h)
def zhz(a:TInt)(K:TInt->Hp->Prop)(h:Hp):Prop:=
 (callP (za8 a.mag) (λr1 h1=>
 (callP (zai r1) (λr2 h2=>
 (callP (zaf (!a.neg) r2) (λr3 h3=>
 (K r3 h3)) h2)) h1)) h)
def zca(num:TInt)(den:TInt)(K:TRat->Hp->Prop)(h:Hp):Prop:=
 (callP (zhy num den) (λr1 h1=>
 (joinP (S:=(Bool×Sl×Unit)×Unit) (λs2 h2=>
 (callP (zgc num (⟨s2.1.1,s2.1.2.1⟩:TInt)) (λr4 h3=>
 (callP (zgc den (⟨s2.1.1,s2.1.2.1⟩:TInt)) (λr5 h4=>
 (K (⟨r4,r5⟩:TRat) h4)) h3)) h2))
 (λk3=>
 (ifP den.neg
 (callP (zhz r1) (λr6 h5=>
 (k3 ((r6.neg,r6.mag,()),()) h5)) h1)
 (k3 ((r1.neg,r1.mag,()),()) h1))))) h)
def zgb(a:TRat)(b:TRat)(K:(TRat×Int)->Hp->Prop)(h:Hp):Prop:=
 (callP (ze5 b.num) (λr1 h1=>
 (ifP r1
 (K ((⟨(⟨false,nilS⟩:TInt),(⟨false,nilS⟩:TInt)⟩:TRat),6) h1)
 (callP (zbf a.num b.den) (λr2 h2=>
 (callP (zbf a.den b.num) (λr3 h3=>
 (callP (zca r2 r3) (λr4 h4=>
 (K (r4,0) h4)) h3)) h2)) h1))) h)
def zd0(a:TRat)(b:TRat)(K:TRat->Hp->Prop)(h:Hp):Prop:=
 (joinP (S:=(Bool×Sl×Bool×Sl×Unit)×Unit) (λs1 h1=>
 (callP (zbf a.num b.num) (λr3 h2=>
 (callP (zbf a.den b.den) (λr4 h3=>
 (callP (zca r3 r4) (λr5 h4=>
 (K r5 h4)) h3)) h2)) h1))
 (λk2=>
 (callP (zc2 a.den) (λr6 h5=>
 (ifP r6
 (callP (zc2 b.den) (λr7 h6=>
 (ifP r7
 (callP (zbf a.num b.num) (λr8 h7=>
 (callP (zew) (λr9 h8=>
 (K (⟨r8,r9⟩:TRat) h8)) h7)) h6)
 (k2 ((false,nilS,false,nilS,()),()) h6))) h5)
 (k2 ((false,nilS,false,nilS,()),()) h5))) h)))
def zhx(a:TInt)(b:TInt)(K:TInt->Hp->Prop)(h:Hp):Prop:=
 (callP (za8 a.mag) (λr1 h1=>
 (callP (za8 b.mag) (λr2 h2=>
 (ifP (a.neg==b.neg)
 (callP (zem r1 r2) (λr3 h3=>
 (callP (zaf a.neg r3) (λr4 h4=>
 (K r4 h4)) h3)) h2)
 (callP (zc9 r1 r2) (λr5 h5=>
 (ifP (decide (r5<0))
 (callP (zd5 r2 r1) (λr6 h6=>
 (callP (zaf b.neg r6) (λr7 h7=>
 (K r7 h7)) h6)) h5)
 (callP (zd5 r1 r2) (λr8 h8=>
 (callP (zaf a.neg r8) (λr9 h9=>
 (K r9 h9)) h8)) h5))) h2))) h1)) h)
def zdv(a:TRat)(b:TRat)(K:TRat->Hp->Prop)(h:Hp):Prop:=
 (joinP (S:=(Bool×Sl×Bool×Sl×Unit)×Unit) (λs1 h1=>
 (callP (zbf a.num b.den) (λr3 h2=>
 (callP (zbf b.num a.den) (λr4 h3=>
 (callP (zhx r3 r4) (λr5 h4=>
 (callP (zbf a.den b.den) (λr6 h5=>
 (callP (zca r5 r6) (λr7 h6=>
 (K r7 h6)) h5)) h4)) h3)) h2)) h1))
 (λk2=>
 (callP (zc2 a.den) (λr8 h7=>
 (ifP r8
 (callP (zc2 b.den) (λr9 h8=>
 (ifP r9
 (callP (zhx a.num b.num) (λr10 h9=>
 (callP (zew) (λr11 h10=>
 (K (⟨r10,r11⟩:TRat) h10)) h9)) h8)
 (k2 ((false,nilS,false,nilS,()),()) h8))) h7)
 (k2 ((false,nilS,false,nilS,()),()) h7))) h)))
def zak(m:Sl)(K:Sl->Hp->Prop)(h:Hp):Prop:=
 (loopP (S:=Sl×Unit) (λs1 k2 h1=>
 (joinP (S:=Unit) (λs3 h2=>
 (slP s1.1 0 (i64.wrap ((s1.1.len:Int)-1)) 1 λc5=>
 (k2 (c5,()) h2)))
 (λk4=>
 (ifP (decide ((s1.1.len:Int)>0))
 (idxP s1.1 (i64.wrap ((s1.1.len:Int)-1)) 1 λa6=>
 (ldL (.int .u32) a6 (λx7=>
 (ifP (x7==0)
 (k4 () h1)
 (K s1.1 h1))) h1))
 (K s1.1 h1)))))
 (m,()) h)
def zat(neg:Bool)(m:Sl)(K:TInt->Hp->Prop)(h:Hp):Prop:=
 (callP (zak m) (λr1 h1=>
 (ifP neg
 (K (⟨decide ((r1.len:Int)>0),r1⟩:TInt) h1)
 (K (⟨false,r1⟩:TInt) h1))) h)
def zm0(a:TInt)(K:TInt->Hp->Prop)(h:Hp):Prop:=
 (callP (zat (!a.neg) a.mag) (λr1 h1=>
 (K r1 h1)) h)
def zci(a:TInt)(K:TInt->Hp->Prop)(h:Hp):Prop:=
 (callP (zat a.neg a.mag) (λr1 h1=>
 (K r1 h1)) h)
def zeh(a:Sl)(b:Sl)(K:Sl->Hp->Prop)(h:Hp):Prop:=
 (mkP (i64.wrap ((a.len:Int)+(b.len:Int))) (i64.wrap ((a.len:Int)+(b.len:Int))) 4 [.int .u32 0] (λm1 h1=>
 (loopP (S:=Int×Unit) (λs2 k3 h2=>
 (ifP (decide (s2.1<(a.len:Int)))
 (loopP (S:=Int×Int×Unit) (λs4 k5 h3=>
 (ifP (decide (s4.2.1<(b.len:Int)))
 (idxP m1 (i64.wrap (s2.1+s4.2.1)) 1 λa6=>
 (ldL (.int .u32) a6 (λx7=>
 (idxP a s2.1 1 λa8=>
 (ldL (.int .u32) a8 (λx9=>
 (idxP b s4.2.1 1 λa10=>
 (ldL (.int .u32) a10 (λx11=>
 (idxP m1 (i64.wrap (s2.1+s4.2.1)) 1 λa12=>
 (stP a12 [.int .u32 (u32.wrap ((u64.wrap ((u64.wrap (s4.1+(u64.wrap (x7))))+(u64.wrap ((u64.wrap (x9))*(u64.wrap (x11))))))))] (λh4=>
 (0<=(32:Int) /\
 (k5 (((u64.wrap ((u64.wrap (s4.1+(u64.wrap (x7))))+(u64.wrap ((u64.wrap (x9))*(u64.wrap (x11)))))):Int).fdiv (2 ^ (min (32:Int).toNat u64.bits)),(i64.wrap (s4.2.1+1)),()) h4))) h3))) h3))) h3))) h3))
 (idxP m1 (i64.wrap (s2.1+(b.len:Int))) 1 λa13=>
 (stP a13 [.int .u32 (u32.wrap (s4.1))] (λh5=>
 (k3 ((i64.wrap (s2.1+1)),()) h5)) h3))))
 (0,0,()) h2)
 (callP (zak m1) (λr14 h6=>
 (K r14 h6)) h2)))
 (0,()) h1)) h)
def zbw(a:TInt)(b:TInt)(K:TInt->Hp->Prop)(h:Hp):Prop:=
 (callP (zci a) (λr1 h1=>
 (callP (zci b) (λr2 h2=>
 (callP (zeh r1.mag r2.mag) (λr3 h3=>
 (callP (zat (!(r1.neg==r2.neg)) r3) (λr4 h4=>
 (K r4 h4)) h3)) h2)) h1)) h)
def zk0(a:Sl)(b:Sl)(K:Sl->Hp->Prop)(h:Hp):Prop:=
 (joinP (S:=Sl×Sl×Unit) (λs1 h1=>
 (mkP (i64.wrap ((s1.1.len:Int)+1)) (i64.wrap ((s1.1.len:Int)+1)) 4 [.int .u32 0] (λm3 h2=>
 (loopP (S:=Int×Int×Unit) (λs4 k5 h3=>
 (ifP (decide (s4.2.1<(s1.1.len:Int)))
 (idxP s1.1 s4.2.1 1 λa6=>
 (ldL (.int .u32) a6 (λx7=>
 (joinP (S:=Int×Unit) (λs8 h4=>
 (idxP m3 s4.2.1 1 λa10=>
 (stP a10 [.int .u32 (u32.wrap (s8.1))] (λh5=>
 (0<=(32:Int) /\
 (k5 ((s8.1:Int).fdiv (2 ^ (min (32:Int).toNat u64.bits)),(i64.wrap (s4.2.1+1)),()) h5))) h4)))
 (λk9=>
 (ifP (decide (s4.2.1<(s1.2.1.len:Int)))
 (idxP s1.2.1 s4.2.1 1 λa11=>
 (ldL (.int .u32) a11 (λx12=>
 (k9 ((u64.wrap ((u64.wrap (s4.1+(u64.wrap (x7))))+(u64.wrap (x12)))),()) h3)) h3))
 (k9 ((u64.wrap (s4.1+(u64.wrap (x7)))),()) h3))))) h3))
 (idxP m3 (s1.1.len:Int) 1 λa13=>
 (stP a13 [.int .u32 (u32.wrap (s4.1))] (λh6=>
 (callP (zak m3) (λr14 h7=>
 (K r14 h7)) h6)) h3))))
 (0,0,()) h2)) h1))
 (λk2=>
 (ifP (decide ((a.len:Int)<(b.len:Int)))
 (k2 (b,a,()) h)
 (k2 (a,b,()) h))))
def zd8(a:Sl)(b:Sl)(K:Int->Hp->Prop)(h:Hp):Prop:=
 (ifP ((a.len:Int) != (b.len:Int))
 (ifP (decide ((a.len:Int)<(b.len:Int)))
 (K (-1) h)
 (K 1 h))
 (loopP (S:=Int×Unit) (λs1 k2 h1=>
 (ifP (decide (s1.1>=0))
 (idxP a s1.1 1 λa3=>
 (ldL (.int .u32) a3 (λx4=>
 (idxP b s1.1 1 λa5=>
 (ldL (.int .u32) a5 (λx6=>
 (ifP (decide (x4<x6))
 (K (-1) h1)
 (idxP a s1.1 1 λa7=>
 (ldL (.int .u32) a7 (λx8=>
 (idxP b s1.1 1 λa9=>
 (ldL (.int .u32) a9 (λx10=>
 (ifP (decide (x8>x10))
 (K 1 h1)
 (k2 ((i64.wrap (s1.1-1)),()) h1))) h1))) h1)))) h1))) h1))
 (K 0 h1)))
 ((i64.wrap ((a.len:Int)-1)),()) h))
def zd1(a:Sl)(b:Sl)(K:Sl->Hp->Prop)(h:Hp):Prop:=
 (mkP (a.len:Int) (a.len:Int) 4 [.int .u32 0] (λm1 h1=>
 (loopP (S:=Int×Int×Unit) (λs2 k3 h2=>
 (ifP (decide (s2.2.1<(a.len:Int)))
 (joinP (S:=Int×Unit) (λs4 h3=>
 (idxP a s2.2.1 1 λa6=>
 (ldL (.int .u32) a6 (λx7=>
 (idxP m1 s2.2.1 1 λa8=>
 (stP a8 [.int .u32 (u32.wrap ((u64.wrap ((u64.wrap ((u64.wrap ((u64.wrap (x7))+4294967296))-s4.1))-s2.1))))] (λh4=>
 (0<=(32:Int) /\
 (k3 ((u64.wrap (1-(((u64.wrap ((u64.wrap ((u64.wrap ((u64.wrap (x7))+4294967296))-s4.1))-s2.1)):Int).fdiv (2 ^ (min (32:Int).toNat u64.bits))))),(i64.wrap (s2.2.1+1)),()) h4))) h3))) h3)))
 (λk5=>
 (ifP (decide (s2.2.1<(b.len:Int)))
 (idxP b s2.2.1 1 λa9=>
 (ldL (.int .u32) a9 (λx10=>
 (k5 ((u64.wrap (x10)),()) h2)) h2))
 (k5 (0,()) h2))))
 (callP (zak m1) (λr11 h5=>
 (K r11 h5)) h2)))
 (0,0,()) h1)) h)
def zfn(a:TInt)(b:TInt)(K:TInt->Hp->Prop)(h:Hp):Prop:=
 (callP (zci a) (λr1 h1=>
 (callP (zci b) (λr2 h2=>
 (ifP (r1.neg==r2.neg)
 (callP (zk0 r1.mag r2.mag) (λr3 h3=>
 (callP (zat r1.neg r3) (λr4 h4=>
 (K r4 h4)) h3)) h2)
 (callP (zd8 r1.mag r2.mag) (λr5 h5=>
 (ifP (decide (r5>=0))
 (callP (zd1 r1.mag r2.mag) (λr6 h6=>
 (callP (zat r1.neg r6) (λr7 h7=>
 (K r7 h7)) h6)) h5)
 (callP (zd1 r2.mag r1.mag) (λr8 h8=>
 (callP (zat r2.neg r8) (λr9 h9=>
 (K r9 h9)) h8)) h5))) h2))) h1)) h)
def zj4(a:TInt)(b:TInt)(K:TInt->Hp->Prop)(h:Hp):Prop:=
 (callP (zm0 b) (λr1 h1=>
 (callP (zfn a r1) (λr2 h2=>
 (K r2 h2)) h1)) h)
def zdw(a:TInt)(K:Int->Hp->Prop)(h:Hp):Prop:=
 (callP (zci a) (λr1 h1=>
 (ifP ((r1.mag.len:Int)==0)
 (K 0 h1)
 (ifP r1.neg
 (K (-1) h1)
 (K 1 h1)))) h)
def zpj(a:TInt)(b:TInt)(K:Int->Hp->Prop)(h:Hp):Prop:=
 (callP (zj4 a b) (λr1 h1=>
 (callP (zdw r1) (λr2 h2=>
 (K r2 h2)) h1)) h)
def zj5(a:TRat)(b:TRat)(K:Int->Hp->Prop)(h:Hp):Prop:=
 (callP (zbw a.num b.den) (λr1 h1=>
 (callP (zbw b.num a.den) (λr2 h2=>
 (callP (zpj r1 r2) (λr3 h3=>
 (K r3 h3)) h2)) h1)) h)
def zfo(m:Sl)(K:Int->Hp->Prop)(h:Hp):Prop:=
 (loopP (S:=Int×Int×Unit) (λs1 k2 h1=>
 (ifP (decide (s1.2.1>=0))
 (0<=(32:Int) /\
 (idxP m s1.2.1 1 λa3=>
 (ldL (.int .u32) a3 (λx4=>
 (k2 (ibits .or .u64 (u64.wrap (s1.1*2 ^ (min (32:Int).toNat u64.bits))) (u64.wrap (x4)),(i64.wrap (s1.2.1-1)),()) h1)) h1)))
 (K s1.1 h1)))
 (0,(i64.wrap ((m.len:Int)-1)),()) h)
def zd2(n:Int)(K:Sl->Hp->Prop)(h:Hp):Prop:=
 (0<=(32:Int) /\
 (newP [.int .u32 (u32.wrap (n)),.int .u32 (u32.wrap ((n:Int).fdiv (2 ^ (min (32:Int).toNat u64.bits))))] (λp1 h1=>
 (callP (zak (⟨some p1,2,2⟩:Sl)) (λr2 h2=>
 (K r2 h2)) h1)) h))
def zuq(a:Sl)(n:Int)(K:(Sl×Int)->Hp->Prop)(h:Hp):Prop:=
 (mkP (a.len:Int) (a.len:Int) 4 [.int .u32 0] (λm1 h1=>
 (loopP (S:=Int×Int×Unit) (λs2 k3 h2=>
 (ifP (decide (s2.2.1>=0))
 (0<=(32:Int) /\
 (idxP a s2.2.1 1 λa4=>
 (ldL (.int .u32) a4 (λx5=>
 (((u64.wrap (n)):Int)≠0 /\
 (idxP m1 s2.2.1 1 λa6=>
 (stP a6 [.int .u32 (u32.wrap ((u64.wrap (((ibits .or .u64 (u64.wrap (s2.1*2 ^ (min (32:Int).toNat u64.bits))) (u64.wrap (x5))):Int).tdiv (u64.wrap (n))))))] (λh3=>
 (((u64.wrap (n)):Int)≠0 /\
 (k3 (((ibits .or .u64 (u64.wrap (s2.1*2 ^ (min (32:Int).toNat u64.bits))) (u64.wrap (x5))):Int).tmod (u64.wrap (n)),(i64.wrap (s2.2.1-1)),()) h3))) h2)))) h2)))
 (callP (zak m1) (λr7 h4=>
 (K (r7,(u32.wrap (s2.1))) h4)) h2)))
 (0,(i64.wrap ((a.len:Int)-1)),()) h1)) h)
def zgd(a:Sl)(K:Int->Hp->Prop)(h:Hp):Prop:=
 (ifP ((a.len:Int)==0)
 (K 0 h)
 (idxP a (i64.wrap ((a.len:Int)-1)) 1 λa1=>
 (ldL (.int .u32) a1 (λx2=>
 (loopP (S:=Int×Int×Unit) (λs3 k4 h1=>
 (ifP (decide (s3.2.1>0))
 ((2:Int)≠0 /\
 (k4 ((i64.wrap (s3.1+1)),(u32.wrap ((s3.2.1:Int).tdiv 2)),()) h1))
 (K (i64.wrap ((i64.wrap (32*(i64.wrap ((a.len:Int)-1))))+s3.1)) h1)))
 (0,x2,()) h)) h)))
def zhl(a:Sl)(s:Int)(K:Sl->Hp->Prop)(h:Hp):Prop:=
 (mkP (i64.wrap ((a.len:Int)+1)) (i64.wrap ((a.len:Int)+1)) 4 [.int .u32 0] (λm1 h1=>
 (loopP (S:=Int×Unit) (λs2 k3 h2=>
 (ifP (decide (s2.1<(a.len:Int)))
 (idxP a s2.1 1 λa4=>
 (ldL (.int .u32) a4 (λx5=>
 (0<=(s:Int) /\
 (idxP m1 s2.1 1 λa6=>
 (ldL (.int .u32) a6 (λx7=>
 (idxP m1 s2.1 1 λa8=>
 (stP a8 [.int .u32 (ibits .or .u32 x7 (u32.wrap ((u64.wrap ((u64.wrap (x5))*2 ^ (min (s:Int).toNat u64.bits))))))] (λh3=>
 (0<=(32:Int) /\
 (idxP m1 (i64.wrap (s2.1+1)) 1 λa9=>
 (stP a9 [.int .u32 (u32.wrap (((u64.wrap ((u64.wrap (x5))*2 ^ (min (s:Int).toNat u64.bits))):Int).fdiv (2 ^ (min (32:Int).toNat u64.bits))))] (λh4=>
 (k3 ((i64.wrap (s2.1+1)),()) h4)) h3)))) h2))) h2)))) h2))
 (K m1 h2)))
 (0,()) h1)) h)
def zkn(x:Sl)(y:Sl)(K:(Int×Sl)->Hp->Prop)(h:Hp):Prop:=
 (idxP x (y.len:Int) 1 λa1=>
 (ldL (.int .u32) a1 (λx2=>
 (0<=(32:Int) /\
 (idxP x (i64.wrap ((y.len:Int)-1)) 1 λa3=>
 (ldL (.int .u32) a3 (λx4=>
 (idxP y (i64.wrap ((y.len:Int)-1)) 1 λa5=>
 (ldL (.int .u32) a5 (λx6=>
 (((u64.wrap (x6)):Int)≠0 /\
 (joinP (S:=Int×Unit) (λs7 h1=>
 (newP [.int .u32 (u32.wrap (s7.1))] (λp9 h2=>
 (callP (zeh y (⟨some p9,1,1⟩:Sl)) (λr10 h3=>
 (loopP (S:=Int×Sl×Unit) (λs11 k12 h4=>
 (callP (zak x) (λr13 h5=>
 (callP (zd8 r13 s11.2.1) (λr14 h6=>
 (ifP (decide (r14<0))
 (callP (zd1 s11.2.1 y) (λr15 h7=>
 (k12 ((u64.wrap (s11.1-1)),r15,()) h7)) h6)
 (K ((u32.wrap (s11.1)),s11.2.1) h6))) h5)) h4))
 (s7.1,r10,()) h3)) h2)) h1))
 (λk8=>
 (ifP (decide ((u64.wrap (((ibits .or .u64 (u64.wrap ((u64.wrap (x2))*2 ^ (min (32:Int).toNat u64.bits))) (u64.wrap (x4))):Int).tdiv (u64.wrap (x6))))>4294967295))
 (k8 (4294967295,()) h)
 (k8 ((u64.wrap (((ibits .or .u64 (u64.wrap ((u64.wrap (x2))*2 ^ (min (32:Int).toNat u64.bits))) (u64.wrap (x4))):Int).tdiv (u64.wrap (x6)))),()) h)))))) h))) h)))) h))
def zmu(a:Sl)(s:Int)(K:Sl->Hp->Prop)(h:Hp):Prop:=
 (mkP (a.len:Int) (a.len:Int) 4 [.int .u32 0] (λm1 h1=>
 (loopP (S:=Int×Unit) (λs2 k3 h2=>
 (ifP (decide (s2.1<(a.len:Int)))
 (idxP a s2.1 1 λa4=>
 (ldL (.int .u32) a4 (λx5=>
 (joinP (S:=Int×Unit) (λs6 h3=>
 (0<=(s:Int) /\
 (idxP m1 s2.1 1 λa8=>
 (stP a8 [.int .u32 (u32.wrap ((s6.1:Int).fdiv (2 ^ (min (s:Int).toNat u64.bits))))] (λh4=>
 (k3 ((i64.wrap (s2.1+1)),()) h4)) h3))))
 (λk7=>
 (ifP (decide ((i64.wrap (s2.1+1))<(a.len:Int)))
 (idxP a (i64.wrap (s2.1+1)) 1 λa9=>
 (ldL (.int .u32) a9 (λx10=>
 (0<=(32:Int) /\
 (k7 (ibits .or .u64 (u64.wrap (x5)) (u64.wrap ((u64.wrap (x10))*2 ^ (min (32:Int).toNat u64.bits))),()) h2))) h2))
 (k7 ((u64.wrap (x5)),()) h2))))) h2))
 (callP (zak m1) (λr11 h5=>
 (K r11 h5)) h2)))
 (0,()) h1)) h)
def zey(a:Sl)(b:Sl)(K:(Sl×Sl)->Hp->Prop)(h:Hp):Prop:=
 (callP (zd8 a b) (λr1 h1=>
 (ifP (decide (r1<0))
 (K (nilS,a) h1)
 (ifP (decide ((a.len:Int)<=2))
 (callP (zfo a) (λr2 h2=>
 (callP (zfo b) (λr3 h3=>
 ((r3:Int)≠0 /\
 ((r3:Int)≠0 /\
 (callP (zd2 (u64.wrap ((r2:Int).tdiv r3))) (λr4 h4=>
 (callP (zd2 ((r2:Int).tmod r3)) (λr5 h5=>
 (K (r4,r5) h5)) h4)) h3)))) h2)) h1)
 (ifP ((b.len:Int)==1)
 (idxP b 0 1 λa6=>
 (ldL (.int .u32) a6 (λx7=>
 (callP (zuq a x7) (λr8 h6=>
 (callP (zd2 (u64.wrap (r8.2))) (λr9 h7=>
 (K (r8.1,r9) h7)) h6)) h1)) h1))
 (callP (zgd b) (λr10 h8=>
 (callP (zhl a (i64.wrap ((i64.wrap (32*(b.len:Int)))-r10))) (λr11 h9=>
 (callP (zhl b (i64.wrap ((i64.wrap (32*(b.len:Int)))-r10))) (λr12 h10=>
 (callP (zak r12) (λr13 h11=>
 (mkP (a.len:Int) (a.len:Int) 4 [.int .u32 0] (λm14 h12=>
 (loopP (S:=Int×Unit) (λs15 k16 h13=>
 (ifP (decide (s15.1>=0))
 (slP r11 s15.1 (i64.wrap ((i64.wrap (s15.1+(r13.len:Int)))+1)) 1 λc17=>
 (callP (zkn c17 r13) (λr18 h14=>
 (idxP m14 s15.1 1 λa19=>
 (stP a19 [.int .u32 r18.1] (λh15=>
 (callP (zak c17) (λr20 h16=>
 (callP (zd1 r20 r18.2) (λr21 h17=>
 (loopP (S:=Int×Unit) (λs22 k23 h18=>
 (ifP (decide (s22.1<(c17.len:Int)))
 (joinP (S:=Unit) (λs24 h19=>
 (k23 ((i64.wrap (s22.1+1)),()) h19))
 (λk25=>
 (idxP c17 s22.1 1 λa26=>
 (stP a26 [.int .u32 0] (λh20=>
 (ifP (decide (s22.1<(r21.len:Int)))
 (idxP r21 s22.1 1 λa27=>
 (ldL (.int .u32) a27 (λx28=>
 (idxP c17 s22.1 1 λa29=>
 (stP a29 [.int .u32 x28] (λh21=>
 (k25 () h21)) h20))) h20))
 (k25 () h20))) h18))))
 (k16 ((i64.wrap (s15.1-1)),()) h18)))
 (0,()) h17)) h16)) h15)) h14))) h13))
 (callP (zak m14) (λr30 h22=>
 (callP (zak r11) (λr31 h23=>
 (callP (zmu r31 (i64.wrap ((i64.wrap (32*(b.len:Int)))-r10))) (λr32 h24=>
 (K (r30,r32) h24)) h23)) h22)) h13)))
 ((i64.wrap ((a.len:Int)-(r13.len:Int))),()) h12)) h11)) h10)) h9)) h8)) h1))))) h)
def zex(a:TInt)(b:TInt)(K:TInt->Hp->Prop)(h:Hp):Prop:=
 (callP (zak a.mag) (λr1 h1=>
 (callP (zak b.mag) (λr2 h2=>
 (loopP (S:=Sl×Sl×Unit) (λs3 k4 h3=>
 (ifP (decide ((s3.2.1.len:Int)>0))
 (callP (zey s3.1 s3.2.1) (λr5 h4=>
 (k4 (s3.2.1,r5.2,()) h4)) h3)
 (callP (zat false s3.1) (λr6 h5=>
 (K r6 h5)) h3)))
 (r1,r2,()) h2)) h1)) h)
def zez(a:TInt)(K:Bool->Hp->Prop)(h:Hp):Prop:=
 (ifP ((a.mag.len:Int)==1)
 (idxP a.mag 0 1 λa1=>
 (ldL (.int .u32) a1 (λx2=>
 (ifP (x2==1)
 (K (!a.neg) h)
 (K false h))) h))
 (K false h))
def ze8(n:Int)(K:TInt->Hp->Prop)(h:Hp):Prop:=
 (ifP (decide (n<0))
 (callP (zd2 (u64.wrap (0-(u64.wrap (n))))) (λr1 h1=>
 (callP (zat true r1) (λr2 h2=>
 (K r2 h2)) h1)) h)
 (callP (zd2 (u64.wrap (n))) (λr3 h3=>
 (callP (zat false r3) (λr4 h4=>
 (K r4 h4)) h3)) h))
def ziv(a:TInt)(b:TInt)(K:(TInt×TInt×Int)->Hp->Prop)(h:Hp):Prop:=
 (callP (zci a) (λr1 h1=>
 (callP (zci b) (λr2 h2=>
 (ifP ((r2.mag.len:Int)==0)
 (K ((⟨false,nilS⟩:TInt),(⟨false,nilS⟩:TInt),6) h2)
 (callP (zey r1.mag r2.mag) (λr3 h3=>
 (callP (zat (!(r1.neg==r2.neg)) r3.1) (λr4 h4=>
 (callP (zbw r4 r2) (λr5 h5=>
 (callP (zj4 r1 r5) (λr6 h6=>
 (joinP (S:=(Bool×Sl×Unit)×(Bool×Sl×Unit)×Unit) (λs7 h7=>
 (K ((⟨s7.1.1,s7.1.2.1⟩:TInt),(⟨s7.2.1.1,s7.2.1.2.1⟩:TInt),0) h7))
 (λk8=>
 (callP (zdw r6) (λr9 h8=>
 (callP (zdw r2) (λr10 h9=>
 (ifP (decide ((i64.wrap (r9*r10))<0))
 (callP (ze8 1) (λr11 h10=>
 (callP (zj4 r4 r11) (λr12 h11=>
 (callP (zfn r6 r2) (λr13 h12=>
 (k8 ((r12.neg,r12.mag,()),(r13.neg,r13.mag,()),()) h12)) h11)) h10)) h9)
 (k8 ((r4.neg,r4.mag,()),(r6.neg,r6.mag,()),()) h9))) h8)) h6)))) h5)) h4)) h3)) h2))) h1)) h)
def zdl(a:TInt)(b:TInt)(K:TInt->Hp->Prop)(h:Hp):Prop:=
 (callP (ziv a b) (λr1 h1=>
 (K (⟨r1.1.neg,r1.1.mag⟩:TInt) h1)) h)
def zpk(a:TRat)(b:TRat)(K:TRat->Hp->Prop)(h:Hp):Prop:=
 (ifP ((a.num.mag.len:Int)==0)
 (K b h)
 (ifP ((b.num.mag.len:Int)==0)
 (K a h)
 (joinP (S:=(Bool×Sl×Bool×Sl×Unit)×Unit) (λs1 h1=>
 (callP (zex a.den b.den) (λr3 h2=>
 (callP (zez r3) (λr4 h3=>
 (ifP r4
 (callP (zbw a.num b.den) (λr5 h4=>
 (callP (zbw b.num a.den) (λr6 h5=>
 (callP (zfn r5 r6) (λr7 h6=>
 (callP (zbw a.den b.den) (λr8 h7=>
 (K (⟨r7,r8⟩:TRat) h7)) h6)) h5)) h4)) h3)
 (callP (zdl a.den r3) (λr9 h8=>
 (callP (zdl b.den r3) (λr10 h9=>
 (callP (zbw a.num r10) (λr11 h10=>
 (callP (zbw b.num r9) (λr12 h11=>
 (callP (zfn r11 r12) (λr13 h12=>
 (callP (zex r13 r3) (λr14 h13=>
 (callP (zdl r13 r14) (λr15 h14=>
 (callP (zdl b.den r14) (λr16 h15=>
 (callP (zbw r9 r16) (λr17 h16=>
 (K (⟨r15,r17⟩:TRat) h16)) h15)) h14)) h13)) h12)) h11)) h10)) h9)) h8)) h3))) h2)) h1))
 (λk2=>
 (callP (zez a.den) (λr18 h17=>
 (ifP r18
 (callP (zez b.den) (λr19 h18=>
 (ifP r19
 (callP (zfn a.num b.num) (λr20 h19=>
 (K (⟨r20,a.den⟩:TRat) h19)) h18)
 (k2 ((false,nilS,false,nilS,()),()) h18))) h17)
 (k2 ((false,nilS,false,nilS,()),()) h17))) h)))))
def zpm(a:TRat)(K:TRat->Hp->Prop)(h:Hp):Prop:=
 (callP (zm0 a.num) (λr1 h1=>
 (K (⟨r1,a.den⟩:TRat) h1)) h)
def zbi(n:Int)(K:TRat->Hp->Prop)(h:Hp):Prop:=
 (callP (ze8 n) (λr1 h1=>
 (callP (ze8 1) (λr2 h2=>
 (K (⟨r1,r2⟩:TRat) h2)) h1)) h)
def zpl(a:TRat)(b:TRat)(K:TRat->Hp->Prop)(h:Hp):Prop:=
 (joinP (S:=(Bool×Sl×Bool×Sl×Unit)×Unit) (λs1 h1=>
 (joinP (S:=(Bool×Sl×Bool×Sl×Unit)×Unit) (λs3 h2=>
 (callP (zex a.num b.den) (λr5 h3=>
 (callP (zex b.num a.den) (λr6 h4=>
 (callP (zdl a.num r5) (λr7 h5=>
 (callP (zdl b.num r6) (λr8 h6=>
 (callP (zbw r7 r8) (λr9 h7=>
 (callP (zdl a.den r6) (λr10 h8=>
 (callP (zdl b.den r5) (λr11 h9=>
 (callP (zbw r10 r11) (λr12 h10=>
 (K (⟨r9,r12⟩:TRat) h10)) h9)) h8)) h7)) h6)) h5)) h4)) h3)) h2))
 (λk4=>
 (callP (zez a.den) (λr13 h11=>
 (ifP r13
 (callP (zez b.den) (λr14 h12=>
 (ifP r14
 (callP (zbw a.num b.num) (λr15 h13=>
 (K (⟨r15,a.den⟩:TRat) h13)) h12)
 (k4 ((s1.1.1,s1.1.2.1,s1.1.2.2.1,s1.1.2.2.2.1,()),()) h12))) h11)
 (k4 ((s1.1.1,s1.1.2.1,s1.1.2.2.1,s1.1.2.2.2.1,()),()) h11))) h1))))
 (λk2=>
 (ifP ((a.num.mag.len:Int)==0)
 (callP (zbi 0) (λr16 h14=>
 (K r16 h14)) h)
 (ifP ((b.num.mag.len:Int)==0)
 (callP (zbi 0) (λr17 h15=>
 (K r17 h15)) h)
 (k2 ((false,nilS,false,nilS,()),()) h)))))
def zmv(a:TRat)(K:Int->Hp->Prop)(h:Hp):Prop:=
 (callP (zdw a.num) (λr1 h1=>
 (K r1 h1)) h)
def zev(a:TRat)(K:TRat->Hp->Prop)(h:Hp):Prop:=
 (callP (zhz a.num) (λr1 h1=>
 (K (⟨r1,a.den⟩:TRat) h1)) h)
def zg7(a:TInt)(K:TInt->Hp->Prop)(h:Hp):Prop:=
 (callP (za8 a.mag) (λr1 h1=>
 (callP (zai r1) (λr2 h2=>
 (callP (zaf a.neg r2) (λr3 h3=>
 (K r3 h3)) h2)) h1)) h)
def zhk(num:TInt)(den:TInt)(K:(TRat×Int)->Hp->Prop)(h:Hp):Prop:=
 (callP (zg7 num) (λr1 h1=>
 (callP (zg7 den) (λr2 h2=>
 (callP (ze5 r2) (λr3 h3=>
 (ifP r3
 (K ((⟨(⟨false,nilS⟩:TInt),(⟨false,nilS⟩:TInt)⟩:TRat),6) h3)
 (callP (zca r1 r2) (λr4 h4=>
 (K (r4,0) h4)) h3))) h2)) h1)) h)
def zi2(a:TInt)(K:Bool->Hp->Prop)(h:Hp):Prop:=
 (callP (zak a.mag) (λr1 h1=>
 (ifP ((r1.len:Int)==(a.mag.len:Int))
 (ifP (!a.neg)
 (K true h1)
 (K (decide ((a.mag.len:Int)>0)) h1))
 (K false h1))) h)
def zko(a:TRat)(K:Bool->Hp->Prop)(h:Hp):Prop:=
 (callP (zi2 a.num) (λr1 h1=>
 (ifP r1
 (callP (zi2 a.den) (λr2 h2=>
 (ifP r2
 (callP (zdw a.den) (λr3 h3=>
 (ifP (decide (r3>0))
 (callP (zex a.num a.den) (λr4 h4=>
 (callP (zez r4) (λr5 h5=>
 (K r5 h5)) h4)) h3)
 (K false h3))) h2)
 (K false h2))) h1)
 (K false h1))) h)
def ziu(a:TRat)(b:TRat)(K:TRat->Hp->Prop)(h:Hp):Prop:=
 (callP (zev b) (λr1 h1=>
 (callP (zdv a r1) (λr2 h2=>
 (K r2 h2)) h1)) h)
end F
end Den
end

section
namespace Den
open Go Iv
section
variable {h : Hp} {x y : Sl} {l m : List Nat} {Ks : Sl → Hp → Prop} {Ki : Int → Hp → Prop} {Kb : Bool → Hp → Prop}
def InM(y x:Sl):Prop:=∀a,y.a=some a->∃a',x.a=some a'/\a.block=a'.block
theorem InM.rfl{x:Sl}:InM x x:=λa ha=>⟨a,ha,Eq.refl _⟩
theorem InM.trans{x y z:Sl}(h1:InM x y)(h2:InM y z):InM x z:=λa ha=>by
 obtain⟨a',h3,h4⟩:=h1 a ha
 obtain⟨a2,h5,h6⟩:=h2 a' h3
 exact⟨a2,h5,h4.trans h6⟩
theorem InM.cut{x:Sl}{lo hi n:Nat}:InM (x.cut lo hi n) x:=λa ha=>by
 have ha':(if x.cap=lo then x.a else x.a.map (·.add (lo*n)))=some a:=ha
 split at ha'
 . exact⟨a,ha',Eq.refl _⟩
 . cases hx:x.a with
   | none=>rw[hx]at ha';cases ha'
   | some a'=>
     rw[hx]at ha'
     simp only[Option.map_some,Option.some.injEq]at ha'
     subst ha'
     exact⟨a',Eq.refl _,zcd _ _⟩
theorem zwg{Kf:Sl->Hp->Prop}(hr:RdW h x l)(hl:l.length<4611686018427387904)(H:∀y,RdW h y (trimL l)->InM y x->Kf y h) :
 loopP (S:=Sl×Unit) (λs1 k2 h1=>
  (joinP (S:=Unit) (λs3 h2=>(slP s1.1 0 (i64.wrap ((s1.1.len:Int)-1)) 1 λc5=>(k2 (c5,()) h2)))
  (λk4=>(ifP (decide ((s1.1.len:Int)>0)) (idxP s1.1 (i64.wrap ((s1.1.len:Int)-1)) 1 λa6=>(ldL (.int .u32) a6 (λx7=>(ifP (x7==0) (k4 () h1) (Kf s1.1 h1))) h1)) (Kf s1.1 h1)))))
  (x,()) h:=by
 refine zaa (λst h'=>h'=h/\∃(y:Sl) (k:Nat),st=(y,())/\k<=l.length/\RdW h y (l.take k)/\trimL (l.take k)=trimL l/\InM y x) (λst=>st.1.len)
  ⟨rfl,x,l.length,rfl,Nat.le_refl _,by rw[List.take_of_length_le (Nat.le_refl _)];exact hr,by rw[List.take_of_length_le (Nat.le_refl _)],InM.rfl⟩ ?_
 rintro st h' ⟨rfl,y,k,rfl,hk,hy,ht,hsub⟩
 have hyl:=hy.len
 rw[List.length_take,Nat.min_eq_left hk]at hyl
 refine za9 (λ_ h1=>h1=h'/\∃j,k=j+1/\∃hj:j<l.length,l[j]=0) ?_ ?_
 . rintro _ h1 ⟨rfl,j,rfl,hj,h0⟩
   refine zaor 0 j hy rfl (by simp only;rw[hyl,w64 (by omega)];omega) (Nat.zero_le _) (by rw[List.length_take];omega) λhc=>?_
   have e:((l.take (j+1)).drop 0).take (j-0)=l.take j:=by
    rw[List.drop_zero,Nat.sub_zero,List.take_take];congr 1;omega
   rw[e]at hc
   refine⟨⟨rfl,_,j,rfl,by omega,hc,?_,InM.cut.trans hsub⟩,?_⟩
   . rw[<-ht,List.take_succ_eq_append_getElem hj,h0,za4v]
   . show j-0<y.len;omega
 . refine za5 (λh1=>?_) (λh1=>?_)
   . simp only at h1
     obtain⟨j,rfl⟩:∃j,k=j+1:=⟨k-1,by omega⟩
     have hj:j<l.length:=by omega
     refine zad j hy (by simp only;rw[hyl,w64 (by omega)];omega) (by rw[List.length_take];omega) λa ha=>⟨_,ha,?_⟩
     have e:(l.take (j+1))[j]'(by rw[List.length_take];omega)=l[j]:=by simp
     rw[e]
     refine zbl (λh2=>⟨rfl,j,rfl,hj,by omega⟩) (λh2=>?_)
     have h3:l[j]≠0:=by omega
     have:trimL (l.take (j+1))=l.take (j+1):=by
      rw[List.take_succ_eq_append_getElem hj,za8l _ h3]
     rw[<-ht,this]at H
     exact H y hy hsub
   . simp only at h1
     have:k=0:=by omega
     subst this
     rw[<-ht]at H
     exact H y hy hsub
theorem trim_of(hr:RdW h x l)(hl:l.length<4611686018427387904)(H:∀y,RdW h y (trimL l)->Ks y h):F.za8 x Ks h:=zwg hr hl λy hy _=>H y hy
theorem zan3(hr:RdW h x l)(hl:l.length<4611686018427387904)(H:∀y,RdW h y (trimL l)->Ks y h):F.zak x Ks h:=zwg hr hl λy hy _=>H y hy
theorem za4u(hr:RdW h x l)(hl:l.length<4611686018427387904)(H:∀y,RdW h y (trimL l)->InM y x->Ks y h):callP (F.za8 x) Ks h:=
 za3 (λy h'=>h'=h/\RdW h y (trimL l)/\InM y x) (λK' hk=>zwg hr hl λy hy hs=>hk y h (Hp.le_refl _) ⟨rfl,hy,hs⟩) λy h' _ ⟨e,hy,hs⟩=>by subst e;exact H y hy hs
theorem zou(hr:RdW h x l)(hl:l.length<4611686018427387904)(H:∀y,RdW h y (trimL l)->InM y x->Ks y h):callP (F.zak x) Ks h:=za4u hr hl H
theorem zf1(hr:RdW h x l)(hl:l.length<4611686018427387904)(H:∀y,RdW h y (trimL l)->Ks y h):callP (F.za8 x) Ks h:=
 za3 (λy h'=>h'=h/\RdW h y (trimL l)) (λK' hk=>trim_of hr hl λy hy=>hk y h (Hp.le_refl _) ⟨rfl,hy⟩) λy h' _ ⟨e,hy⟩=>by subst e;exact H y hy
theorem zck(hr:RdW h x l)(hl:l.length<4611686018427387904)(H:∀y,RdW h y (trimL l)->Ks y h):callP (F.zak x) Ks h:=
 za3 (λy h'=>h'=h/\RdW h y (trimL l)) (λK' hk=>zan3 hr hl λy hy=>hk y h (Hp.le_refl _) ⟨rfl,hy⟩) λy h' _ ⟨e,hy⟩=>by subst e;exact H y hy
theorem zaix{Kf:Sl->Hp->Prop}{h0:Hp}{a b:Sl}{la lb:List Nat}(ha:RdW h0 a la)(hb:RdW h0 b lb)(oa:okW la)(ob:okW lb)(hl:la.length+lb.length<=35184372088800)
 (ho:OwnW h0 h x (List.replicate (la.length+lb.length) 0)) (H:∀h' l,OwnW h0 h' x l->okW l->l.length=la.length+lb.length->vl l=vl la*vl lb->Kf x h') :
 loopP (S:=Int×Unit) (λs4 k5 h3=>
  (ifP (decide (s4.1<(a.len:Int)))
  (idxP a s4.1 1 λa6=>
  (ldL (.int .u32) a6 (λx7=>
  (loopP (S:=Int×Int×Unit) (λs8 k9 h4=>
  (ifP (decide (s8.2.1<(b.len:Int)))
  (idxP b s8.2.1 1 λa10=>
  (ldL (.int .u32) a10 (λx11=>
  (idxP x (i64.wrap (s4.1+s8.2.1)) 1 λa12=>
  (ldL (.int .u32) a12 (λx13=>
  (idxP x (i64.wrap (s4.1+s8.2.1)) 1 λa14=>
  (stP a14 [.int .u32 (u32.wrap ((u64.wrap (s8.1+(u64.wrap ((u64.wrap ((u64.wrap (x7))*(u64.wrap (x11))))+(u64.wrap (x13))))))))] (λh5=>
  (0<=(32:Int) /\
  (k9 (((u64.wrap (s8.1+(u64.wrap ((u64.wrap ((u64.wrap (x7))*(u64.wrap (x11))))+(u64.wrap (x13)))))):Int).fdiv (2 ^ (min (32:Int).toNat u64.bits)),(i64.wrap (s8.2.1+1)),()) h5))) h4))) h4))) h4))
  (idxP x (i64.wrap (s4.1+(b.len:Int))) 1 λa15=>
  (stP a15 [.int .u32 (u32.wrap (s8.1))] (λh6=>
  (k5 ((i64.wrap (s4.1+1)),()) h6)) h4))))
  (0,0,()) h3)) h3))
  (Kf x h3)))
  (0,()) h:=by
 have hal:=ha.len
 have hbl:=hb.len
 refine zaa (λst h'=>∃(i:Nat) (l:List Nat),st=((i:Int),())/\i<=la.length/\OwnW h0 h' x l/\okW l/\l.length=la.length+lb.length/\vl l=vl (la.take i)*vl lb/\∀j (hj:j<l.length),i+lb.length<=j->l[j]=0)
  (λst=>((la.length:Int)-st.1).toNat) ⟨0,_,rfl,Nat.zero_le _,ho,zjw _,by simp,by rw[zaiy];simp[vl],λj hj _=>by simp⟩ ?_
 rintro st h1 ⟨i,l,rfl,hi,ho1,okl,hll,hv,hz⟩
 refine za5 (λh2=>?_) (λh2=>?_)
 . simp only at h2
   have hi':i<la.length:=by omega
   have hxi:=zbo oa hi'
   refine zad i (ha.le ho1.1) rfl hi' λaa haa=>⟨_,haa,?_⟩
   refine zaa (λst h'=>∃(k c:Nat) (l':List Nat),st=((c:Int),(k:Int),())/\k<=lb.length/\c<W/\OwnW h0 h' x l'/\okW l'/\l'.length=la.length+lb.length /\
    vl l'+W ^ (i+k)*c=vl l+W ^ i*(la[i]*vl (lb.take k))/\∀j (hj:j<l'.length),i+lb.length<=j->l'[j]=0)
    (λst=>((lb.length:Int)-st.2.1).toNat) ⟨0,0,l,rfl,Nat.zero_le _,by decide,ho1,okl,hll,by simp[vl],hz⟩ ?_
   rintro st h3 ⟨k,c,l',rfl,hk,hc,ho3,okl',hll',hv',hz'⟩
   refine za5 (λh4=>?_) (λh4=>?_)
   . simp only at h4
     have hk':k<lb.length:=by omega
     have hyk:=zbo ob hk'
     have hik:i+k<l'.length:=by omega
     have hzk:=zbo okl' hik
     have wik:i64.wrap ((i:Int)+(k:Int))=((i+k:Nat):Int):=by rw[w64 (by omega)];omega
     refine zad k (hb.le ho3.1) rfl hk' λa1 ha1=>⟨_,ha1,?_⟩
     simp only
     rw[wik]
     refine zad (i+k) ho3.rdW rfl hik λa2 ha2=>⟨_,ha2,?_⟩
     simp only
     rw[mac hc hxi hyk hzk]
     refine zdx (i+k) _ ho3 rfl hik (u32n _) λh5 b5 _ _ _ ho5=>⟨by decide,?_⟩
     rw[shr32]
     refine⟨⟨k+1,_,_,by rw[w64 (by omega)];rfl,by omega,zamm hc hxi hyk hzk,ho5,zdh okl' (Nat.mod_lt _ W_pos),by simp[hll'],?_,?_⟩,by rw[w64 (by omega)];omega⟩
     . have e1:=zn6 (l:=l') (k:=i+k) (v:=(c+(la[i]*lb[k]+l'[i+k])) % W) hik
       have e2:=Nat.mod_add_div (c+(la[i]*lb[k]+l'[i+k])) W
       have e3:=zan hk'
       rw[e3]
       generalize vl (l'.set (i+k) ((c+(la[i]*lb[k]+l'[i+k])) % W))=V at e1 |-
       generalize hr:(c+(la[i]*lb[k]+l'[i+k])) % W=r at *
       generalize hq:(c+(la[i]*lb[k]+l'[i+k]))/W=q at *
       generalize vl l'=V' at *
       generalize vl l=V0 at *
       generalize l'[i+k]=z at *
       generalize la[i]=xx at *
       generalize lb[k]=yy at *
       generalize vl (lb.take k)=T at *
       have p1:W ^ (i+(k+1))=W ^ (i+k)*W:=by rw[<-Nat.add_assoc,Nat.pow_succ]
       have p2:W ^ (i+k)=W ^ i*W ^ k:=Nat.pow_add ..
       rw[p1]
       generalize W ^ (i+k)=P at *
       subst p2
       generalize W ^ i=Pi at *
       generalize W ^ k=Pk at *
       grind
     . intro j hj hjl
       rw[List.length_set]at hj
       rw[List.getElem_set_ne (by omega)]
       exact hz' j hj hjl
   . simp only at h4
     have hk':k=lb.length:=by omega
     subst hk'
     have hil:i+lb.length<l'.length:=by omega
     have w1:i64.wrap ((i:Int)+(b.len:Int))=((i+lb.length:Nat):Int):=by rw[hbl,w64 (by omega)];omega
     simp only
     rw[w1]
     refine zdx (i+lb.length) c ho3 rfl hil (by rw[u32n,Nat.mod_eq_of_lt hc]) λh5 b5 _ _ _ ho5=>?_
     refine⟨⟨i+1,_,by rw[w64 (by omega)];rfl,by omega,ho5,zdh okl' hc,by simp[hll'],?_,?_⟩,by rw[w64 (by omega)];omega⟩
     . have e1:=zn6 (l:=l') (k:=i+lb.length) (v:=c) hil
       rw[hz' _ hil (Nat.le_refl _)]at e1
       rw[List.take_of_length_le (Nat.le_refl _)]at hv'
       rw[zan hi',Nat.add_mul]
       rw[Nat.mul_assoc]
       omega
     . intro j hj hjl
       rw[List.length_set]at hj
       rw[List.getElem_set_ne (by omega)]
       exact hz' j hj (by omega)
 . simp only at h2
   have:i=la.length:=by omega
   subst this
   rw[List.take_of_length_le (Nat.le_refl _)]at hv
   exact H h1 l ho1 okl hll hv
end
end Den
end

section
namespace Den
open Go Iv
theorem zlp{α:Type}{G:(α->Hp->Prop)->Hp->Prop}{K:α->Hp->Prop}{h:Hp}(R:α->Prop)(H:∀K':α->Hp->Prop,(∀v,R v->K' v h)->G K' h)(k:∀v,R v->K v h):callP G K h:=
 za3 (λv h'=>h'=h/\R v) (λK' hk=>H K' λv hv=>hk v h (Hp.le_refl _) ⟨rfl,hv⟩) λv h' _ ⟨e,hv⟩=>by subst e;exact k v hv
def cmpN(m n:Nat):Int:=if m<n then -1 else if n<m then 1 else 0
def sg(neg:Bool)(n:Nat):Int:=if neg=true then -(n:Int)else n
def NI(h:Hp)(x:TInt)(n:Int):Prop:=RdW h x.mag (dg n.natAbs)/\x.neg=decide (n<0)
theorem NI.le{h h':Hp}{x:TInt}{n:Int}(hx:NI h x n)(hl:h.le h'):NI h' x n:=⟨hx.1.le hl,hx.2⟩
theorem NI.zero{h:Hp}:NI h ⟨false,nilS⟩ 0:=⟨by rw[show(0:Int).natAbs=0 from rfl,zbg];exact RdW.nil,by simp⟩
theorem za4x:∀{a b:List Nat} (i:Nat),okW a->okW b->a.length=b.length->(hi:i<a.length)->(hi':i<b.length)->a.drop (i+1)=b.drop (i+1)->a[i]<b[i]->vl a<vl b
 | [],_,i,_,_,_,hi,_,_,_=>by simp at hi
 | x :: r,[],i,_,_,hl,_,_,_,_=>by simp at hl
 | x :: r,y :: t,0,ha,hb,hl,hi,hi',hd,hlt=>by
   simp only[Nat.zero_add,List.drop_succ_cons,List.drop_zero]at hd
   subst hd
   simp only[List.getElem_cons_zero]at hlt
   simp only[vl];omega
 | x :: r,y :: t,i+1,ha,hb,hl,hi,hi',hd,hlt=>by
   obtain⟨hx,hr⟩:=za0f ha
   obtain⟨hy,ht⟩:=za0f hb
   have:=za4x (a:=r) (b:=t) i hr ht (by simpa using hl) (by simpa using hi) (by simpa using hi') (by simpa using hd) (by simpa using hlt)
   simp only[vl]
   have h2:W*(vl r+1)<=W*vl t:=Nat.mul_le_mul_left _ this
   rw[Nat.mul_add]at h2;omega
theorem zpe{m n:Nat}(h:(dg m).length<(dg n).length):m<n:=by
 rcases Nat.lt_or_ge m n with h1 | h1
 . exact h1
 . exfalso
   have h2:=zbs.1 (Nat.le_refl (dg m).length)
   have h3:(dg n).length<=(dg m).length:=zbs.2 (Nat.lt_of_le_of_lt h1 h2)
   omega
section
variable {h : Hp} {x y : Sl} {l m : List Nat} {Ks : Sl → Hp → Prop} {Ki : Int → Hp → Prop} {Kb : Bool → Hp → Prop} {KI : TInt → Hp → Prop}
theorem zn3(neg:Bool)(n:Nat):(sg neg n).natAbs=n:=by unfold sg;split<;>simp
theorem zal7{neg:Bool}(hr:RdW h x l)(ok:okW l)(hl:l.length<4611686018427387904)(H:∀y,NI h y (sg neg (vl l))->KI y h):F.zaf neg x KI h:=by
 unfold F.zaf
 refine zf1 hr hl λy hy=>?_
 rw[zar ok]at hy
 have hyl:=hy.len
 refine zbl (λh1=>?_) (λh1=>?_)
 . have h0:vl l=0:=zgz.1 (List.length_eq_zero_iff.1 (by omega))
   refine H _ ?_
   rw[h0]
   have:sg neg 0=0:=by unfold sg;split<;>rfl
   rw[this];exact NI.zero
 . refine H _ ⟨by rw[zn3];exact hy,?_⟩
   have hpos:vl l≠0:=λh0=>by rw[h0,zbg]at hyl;exact h1 (by rw[hyl];rfl)
   unfold sg
   cases neg
   . simp
   . simp;omega
theorem zaii{neg:Bool}(hr:RdW h x l)(ok:okW l)(hl:l.length<4611686018427387904)(H:∀y,NI h y (sg neg (vl l))->KI y h):F.zat neg x KI h:=by
 unfold F.zat
 refine zck hr hl λy hy=>?_
 rw[zar ok]at hy
 have hyl:=hy.len
 have hz:(vl l=0)↔(dg (vl l)).length=0:=by rw[List.length_eq_zero_iff,zgz]
 refine zcp (λh1=>?_) (λh1=>?_)
 . refine H _ ⟨by rw[zn3];exact hy,?_⟩
   rw[h1]
   unfold sg
   simp only[if_true]
   congr 1
   apply propext
   omega
 . refine H _ ⟨by rw[zn3];exact hy,?_⟩
   rw[h1]
   unfold sg
   simp
theorem zks{neg:Bool}(hr:RdW h x l)(ok:okW l)(hl:l.length<4611686018427387904)(H:∀y,NI h y (sg neg (vl l))->KI y h):callP (F.zaf neg x) KI h:=
 zlp _ (λK'=>zal7 hr ok hl) H
theorem zac3{neg:Bool}(hr:RdW h x l)(ok:okW l)(hl:l.length<4611686018427387904)(H:∀y,NI h y (sg neg (vl l))->KI y h):callP (F.zat neg x) KI h:=
 zlp _ (λK'=>zaii hr ok hl) H
theorem zmg(hr:RdW h x l)(hl:l.length<=35184372088800)(H:∀y h',h.le h'->RdW h' y l->Ks y h'):callP (F.zai x) Ks h:=by
 refine za3 (λy h'=>RdW h' y l) (λK' hk=>?_) H
 unfold F.zai
 have hlen:=hr.len
 refine zcp (λh1=>?_) (λh1=>?_)
 . have hn:x.a=none:=by cases hx:x.a with | none=>rfl | some a=>rw[hx]at h1;cases h1
   have:l=[]:=by
    have h2:=hr.1.2
    rw[hn]at h2
    simp only[cellsAtO]at h2
    split at h2
    . rename_i h3;rw[zwh]at h3;exact List.length_eq_zero_iff.1 h3
    . cases h2
   subst this
   exact hk _ _ (Hp.le_refl _) RdW.nil
 . refine zeq (n:=0) (size:=1) rfl λb h1 hb ho=>?_
   have hr1:=hr.le ho.1
   refine⟨wc l,?_,?_⟩
   . have:=hr1.1.2
     rw[zwh]at this
     rw[hlen,Nat.mul_one];exact this
   . refine zk6 ho (n:=x.len) (by rw[zwh];omega) rfl ?_ (by simp only;omega) (by simp only;omega) λy h2 hy _=>hk _ _ hy.1 ⟨hy.rd,hy.2.2.1⟩
     simp[wc,Value.leaf]
theorem zaf9{n:Nat}(hn:n<18446744073709551616)(H:∀y h',h.le h'->RdW h' y (dg n)->Ks y h'):F.zaw n Ks h:=by
 unfold F.zaw
 refine⟨by decide,?_⟩
 rw[u32n,shr32,u32n]
 have hq:n/W<W:=by unfold W;omega
 rw[Nat.mod_eq_of_lt hq]
 refine zeq (n:=2) (size:=1) rfl λb h1 hb ho=>?_
 have ho':OwnW h h1 ⟨some ⟨b,0,none⟩,2,2⟩ [n % W,n/W]:=ho
 have ok:okW [n % W,n/W]:=λd hd=>by
  simp only[List.mem_cons,List.not_mem_nil,or_false]at hd
  rcases hd with rfl | rfl
  . exact Nat.mod_lt _ W_pos
  . exact hq
 refine zf1 ho'.rdW (by simp) λy hy=>?_
 rw[zar ok]at hy
 have:vl [n % W,n/W]=n:=by simp only[vl,Nat.mul_zero,Nat.add_zero];exact Nat.mod_add_div n W
 rw[this]at hy
 exact H _ _ ho.1 hy
theorem zf7{n:Nat}{i:Int}(hi:i=n)(hn:n<18446744073709551616)(H:∀y h',h.le h'->RdW h' y (dg n)->Ks y h'):callP (F.zaw i) Ks h:=by
 subst hi
 exact za3 _ (λK'=>zaf9 hn) H
theorem zanq{n:Nat}(hn:n<18446744073709551616)(H:∀y h',h.le h'->RdW h' y (dg n)->Ks y h'):F.zd2 n Ks h:=by
 unfold F.zd2
 refine⟨by decide,?_⟩
 rw[u32n,shr32,u32n]
 have hq:n/W<W:=by unfold W;omega
 rw[Nat.mod_eq_of_lt hq]
 refine zeq (n:=2) (size:=1) rfl λb h1 hb ho=>?_
 have ho':OwnW h h1 ⟨some ⟨b,0,none⟩,2,2⟩ [n % W,n/W]:=ho
 have ok:okW [n % W,n/W]:=λd hd=>by
  simp only[List.mem_cons,List.not_mem_nil,or_false]at hd
  rcases hd with rfl | rfl
  . exact Nat.mod_lt _ W_pos
  . exact hq
 refine zck ho'.rdW (by simp) λy hy=>?_
 rw[zar ok]at hy
 have:vl [n % W,n/W]=n:=by simp only[vl,Nat.mul_zero,Nat.add_zero];exact Nat.mod_add_div n W
 rw[this]at hy
 exact H _ _ ho.1 hy
theorem zk5{n:Nat}{i:Int}(hi:i=n)(hn:n<18446744073709551616)(H:∀y h',h.le h'->RdW h' y (dg n)->Ks y h'):callP (F.zd2 i) Ks h:=by
 subst hi
 exact za3 _ (λK'=>zanq hn) H
theorem or32{a b:Nat}(ha:a<W)(hb:b<W):ibits .or .u64 (u64.wrap ((a:Int)*2 ^ (min (32:Int).toNat u64.bits))) (u64.wrap (b:Int))=((a*W+b:Nat):Int):=by
 have e1:((a:Int)*2 ^ (min (32:Int).toNat u64.bits))=((a*W:Nat):Int):=by
  have:(2:Int) ^ (min (32:Int).toNat u64.bits)=((W:Nat):Int):=by decide
  rw[this];simp
 unfold W at *
 rw[e1,u64n (n:=a*4294967296) (by omega),u64n (n:=b) (by omega)]
 unfold ibits
 simp only[IntKind.bits]
 have h1:(BitVec.ofInt 64 ((a*4294967296:Nat):Int) ||| BitVec.ofInt 64 (b:Int)).toNat=a*4294967296+b:=by
  rw[BitVec.ofInt_natCast,BitVec.ofInt_natCast,BitVec.toNat_or,BitVec.toNat_ofNat,BitVec.toNat_ofNat,Nat.mod_eq_of_lt (by omega),Nat.mod_eq_of_lt (by omega)]
  have:=Nat.two_pow_add_eq_or_of_lt (i:=32) (b:=b) (by omega) a
  rw[Nat.mul_comm (2 ^ 32) a]at this
  exact this.symm
 exact(congrArg (λz:Nat=>u64.wrap (z:Int)) h1).trans (u64n (by omega))
theorem zalb(hr:RdW h x l)(ok:okW l)(hl:l.length<=2)(H:∀h',h.le h'->Ki (vl l:Int) h'):F.zc1 x Ki h:=by
 unfold F.zc1
 refine za3 (λ(a:Addr) h'=>h'.cell a=some (.slice x.a x.len x.cap)) (λK' hk=>?_) λa h1 l1 ha=>?_
 . unfold F.zc3
   intro b e hb
   refine hk _ _ (Hp.le_ins hb) ?_
   unfold Hp.cell
   simp[Hp.ins_same]
 . have hlen:=hr.len
   refine⟨x,λk s h'=>h1.le h'/\k<=l.length/\s=((((vl (l.drop k):Nat):Int),()),()),by omega,⟨Hp.le_refl _,by omega,?_⟩,λi s h' hI=>?_,λi s h' hi hI=>?_,λs h' hI=>?_⟩
   . rw[hlen,List.drop_eq_nil_of_le (Nat.le_refl _)];rfl
   . exact Hp.cell_le hI.1 ha
   . obtain⟨hl',hk,rfl⟩:=hI
     have hi':i<l.length:=by omega
     have hr':=(hr.le l1).le hl'
     have h2:=hr'.1.2
     cases hxa:x.a with
     | none=>
       rw[hxa]at h2
       simp only[cellsAtO]at h2
       split at h2
       . rename_i h3;rw[zwh]at h3;omega
       . cases h2
     | some ad=>
       rw[hxa]at h2
       simp only[cellsAtO]at h2
       have hxi:=zbo ok hi'
       refine⟨ad,(l[i]:Int),rfl,λj u hj=>?_,by decide,hl',by omega,?_⟩
       . have hj0:j=0:=by
          rcases Nat.eq_zero_or_pos j with h3 | h3
          . exact h3
          . exfalso
            have:((STy.leaf (.int .u32)).cells (l[i]:Int))[j]?=none:=by
             apply List.getElem?_eq_none
             simp only[STy.cells,List.length_singleton];omega
            rw[this]at hj;cases hj
         subst hj0
         simp only[STy.cells,List.getElem?_cons_zero,Option.some.injEq]at hj
         subst hj
         refine zhs h2 _ _ ?_
         simp[wc,STy.size,hi',Lf.up]
       . have hd:l.drop i=l[i] :: l.drop (i+1):=List.drop_eq_getElem_cons hi'
         rw[hd]
         simp only[vl]
         have hsm:vl (l.drop (i+1))<W:=by
          have:=vl_lt (zmm ok (i+1))
          rw[List.length_drop]at this
          refine Nat.lt_of_lt_of_le this ?_
          have h3:l.length-(i+1)<=1:=by omega
          exact Nat.le_trans (Nat.pow_le_pow_right W_pos h3) (by simp)
         rw[or32 hsm hxi]
         congr 2
         congr 1
         rw[Nat.mul_comm];omega
   . obtain⟨hl',hk,rfl⟩:=hI
     exact H _ (Hp.le_trans l1 hl')
theorem zkx(hr:RdW h x l)(ok:okW l)(hl:l.length<=2)(H:∀h',h.le h'->Ki (vl l:Int) h'):callP (F.zc1 x) Ki h:=
 za3 (λv _=>v=(vl l:Int)) (λK' hk=>zalb hr ok hl λh' hl'=>hk _ _ hl' rfl) λv h' hl' hv=>by subst hv;exact H h' hl'
theorem zan9(hr:RdW h x l)(ok:okW l)(hl:l.length<=2)(H:Ki (vl l:Int) h):F.zfo x Ki h:=by
 unfold F.zfo
 have hlen:=hr.len
 refine zaa (λst h'=>h'=h/\∃k:Nat,k<=l.length/\st=(((vl (l.drop k):Nat):Int),(k:Int)-1,())) (λst=>(st.2.1+1).toNat)
  ⟨rfl,l.length,Nat.le_refl _,by rw[List.drop_eq_nil_of_le (Nat.le_refl _),hlen,w64 (by omega)];rfl⟩ ?_
 rintro st h' ⟨rfl,k,hk,rfl⟩
 refine za5 (λh1=>?_) (λh1=>?_)
 . simp only at h1
   obtain⟨i,rfl⟩:∃i,k=i+1:=⟨k-1,by omega⟩
   have hi':i<l.length:=by omega
   have hxi:=zbo ok hi'
   refine⟨by decide,zad i hr (by simp only;omega) hi' λa ha=>⟨_,ha,?_⟩⟩
   have hsm:vl (l.drop (i+1))<W:=by
    have:=vl_lt (zmm ok (i+1))
    rw[List.length_drop]at this
    refine Nat.lt_of_lt_of_le this ?_
    have h3:l.length-(i+1)<=1:=by omega
    exact Nat.le_trans (Nat.pow_le_pow_right W_pos h3) (by simp)
   simp only
   rw[or32 hsm hxi]
   refine⟨⟨by trivial,i,by omega,?_⟩,by rw[w64 (by omega)];omega⟩
   rw[List.drop_eq_getElem_cons hi',w64 (by omega)]
   simp only[vl]
   congr 1
   . congr 1;rw[Nat.mul_comm];omega
   . congr 1;omega
 . simp only at h1
   obtain rfl:k=0:=by omega
   exact H
theorem za4k(hr:RdW h x l)(ok:okW l)(hl:l.length<=2)(H:Ki (vl l:Int) h):callP (F.zfo x) Ki h:=zao _ (λK'=>zan9 hr ok hl) H
theorem zwm{a b:Int}(H:Ki (if a<b then -1 else if b<a then 1 else 0) h):callP (F.ze1 a b) Ki h:=by
 refine zao _ (λK' hk=>?_) H
 unfold F.ze1
 have e:∀z:Int,(z != z)=false:=λz=>by simp
 refine zao false (λK' hk=>by unfold F.zf5;rw[e];exact hk) (zao false (λK' hk=>by unfold F.zf5;rw[e];exact hk) ?_)
 refine zab rfl (zab rfl (za5 (λh1=>?_) (λh1=>za5 (λh2=>?_) (λh2=>?_))))
 . rw[if_pos h1]at hk;exact hk
 . rw[if_neg h1,if_pos h2]at hk;exact hk
 . rw[if_neg h1,if_neg h2]at hk;exact hk
theorem zaf1{a b:Int}(H:Ki (if a<b then -1 else if b<a then 1 else 0) h):callP (F.zdo a b) Ki h:=by
 refine zao _ (λK' hk=>?_) H
 unfold F.zdo
 have e:∀z:Int,(z != z)=false:=λz=>by simp
 refine zao false (λK' hk=>by unfold F.zdd;rw[e];exact hk) (zao false (λK' hk=>by unfold F.zdd;rw[e];exact hk) ?_)
 refine zab rfl (zab rfl (za5 (λh1=>?_) (λh1=>za5 (λh2=>?_) (λh2=>?_))))
 . rw[if_pos h1]at hk;exact hk
 . rw[if_neg h1,if_pos h2]at hk;exact hk
 . rw[if_neg h1,if_neg h2]at hk;exact hk
theorem zahf{m n:Nat}(hx:RdW h x (dg m))(hy:RdW h y (dg n))(hl:(dg m).length<4611686018427387904)(hl2:(dg n).length<4611686018427387904)(H:Ki (cmpN m n) h):F.zc9 x y Ki h:=by
 unfold F.zc9
 have lx:=hx.len
 have ly:=hy.len
 refine zoj (λh1=>?_) (λh1=>?_)
 . refine zwm ?_
   unfold cmpN at H
   by_cases h2:(dg m).length<(dg n).length
   . rw[if_pos (zpe h2)]at H
     rw[if_pos (by omega)];exact H
   . have h3:(dg n).length<(dg m).length:=by omega
     have h4:=zpe h3
     rw[if_neg (by omega),if_pos h4]at H
     rw[if_neg (by omega),if_pos (by omega)];exact H
 . have hll:(dg m).length=(dg n).length:=by omega
   refine zaa (λst h'=>h'=h/\∃k:Nat,st=((k:Int)-1,())/\k<=(dg m).length/\(dg m).drop k=(dg n).drop k) (λst=>(st.1+1).toNat)
    ⟨rfl,(dg m).length,by rw[lx,w64 (by omega)],Nat.le_refl _,by rw[List.drop_eq_nil_of_le (Nat.le_refl _),List.drop_eq_nil_of_le (by omega)]⟩ ?_
   rintro st h' ⟨rfl,k,rfl,hk,hd⟩
   refine za5 (λh2=>?_) (λh2=>?_)
   . simp only at h2
     obtain⟨i,rfl⟩:∃i,k=i+1:=⟨k-1,by omega⟩
     have hi:i<(dg m).length:=by omega
     have hi':i<(dg n).length:=by omega
     refine zad i hx (by simp only;omega) hi λa ha=>⟨_,ha,?_⟩
     refine zad i hy (by simp only;omega) hi' λa ha=>⟨_,ha,?_⟩
     refine zoj (λh3=>?_) (λh3=>?_)
     . refine zad i hx (by simp only;omega) hi λa ha=>⟨_,ha,?_⟩
       refine zad i hy (by simp only;omega) hi' λa ha=>⟨_,ha,?_⟩
       refine zaf1 ?_
       unfold cmpN at H
       by_cases h4:(dg m)[i]<(dg n)[i]
       . have:=za4x i (ok_dg m) (ok_dg n) hll hi hi' hd h4
         rw[vl_dg,vl_dg]at this
         rw[if_pos this]at H
         rw[if_pos (by omega)];exact H
       . have h5:(dg n)[i]<(dg m)[i]:=by omega
         have:=za4x i (ok_dg n) (ok_dg m) hll.symm hi' hi hd.symm h5
         rw[vl_dg,vl_dg]at this
         rw[if_neg (by omega),if_pos this]at H
         rw[if_neg (by omega),if_pos (by omega)];exact H
     . refine⟨⟨rfl,i,by simp only;rw[w64 (by omega)];congr 1;omega,by omega,?_⟩,by simp only;rw[w64 (by omega)];omega⟩
       rw[List.drop_eq_getElem_cons hi,List.drop_eq_getElem_cons hi',hd]
       congr 1;omega
   . simp only at h2
     obtain rfl:k=0:=by omega
     simp only[List.drop_zero]at hd
     have:m=n:=by rw[<-vl_dg m,<-vl_dg n,hd]
     subst this
     unfold cmpN at H
     rw[if_neg (Nat.lt_irrefl _),if_neg (Nat.lt_irrefl _)]at H
     exact H
theorem zmi{m n:Nat}(hx:RdW h x (dg m))(hy:RdW h y (dg n))(hl:(dg m).length<4611686018427387904)(hl2:(dg n).length<4611686018427387904)(H:Ki (cmpN m n) h):callP (F.zc9 x y) Ki h:=
 zao _ (λK'=>zahf hx hy hl hl2) H
theorem zafy{m n:Nat}(hx:RdW h x (dg m))(hy:RdW h y (dg n))(hl:(dg m).length<4611686018427387904)(hl2:(dg n).length<4611686018427387904)(H:Ki (cmpN m n) h):F.zd8 x y Ki h:=by
 unfold F.zd8
 have lx:=hx.len
 have ly:=hy.len
 refine zoj (λh1=>?_) (λh1=>?_)
 . unfold cmpN at H
   refine za5 (λh2=>?_) (λh2=>?_)
   . have h2':=Int.ofNat_lt.1 h2
     rw[if_pos (zpe (by omega))]at H;exact H
   . have h2':¬x.len<y.len:=λhh=>h2 (Int.ofNat_lt.2 hh)
     have h3:(dg n).length<(dg m).length:=by omega
     have h4:=zpe h3
     rw[if_neg (by omega),if_pos h4]at H;exact H
 . have hll:(dg m).length=(dg n).length:=by omega
   refine zaa (λst h'=>h'=h/\∃k:Nat,st=((k:Int)-1,())/\k<=(dg m).length/\(dg m).drop k=(dg n).drop k) (λst=>(st.1+1).toNat)
    ⟨rfl,(dg m).length,by rw[lx,w64 (by omega)],Nat.le_refl _,by rw[List.drop_eq_nil_of_le (Nat.le_refl _),List.drop_eq_nil_of_le (by omega)]⟩ ?_
   rintro st h' ⟨rfl,k,rfl,hk,hd⟩
   refine za5 (λh2=>?_) (λh2=>?_)
   . simp only at h2
     obtain⟨i,rfl⟩:∃i,k=i+1:=⟨k-1,by omega⟩
     have hi:i<(dg m).length:=by omega
     have hi':i<(dg n).length:=by omega
     refine zad i hx (by simp only;omega) hi λa ha=>⟨_,ha,?_⟩
     refine zad i hy (by simp only;omega) hi' λa ha=>⟨_,ha,?_⟩
     unfold cmpN at H
     refine za5 (λh3=>?_) (λh3=>?_)
     . have:=za4x i (ok_dg m) (ok_dg n) hll hi hi' hd (Int.ofNat_lt.1 h3)
       rw[vl_dg,vl_dg]at this
       rw[if_pos this]at H;exact H
     . refine zad i hx (by simp only;omega) hi λa ha=>⟨_,ha,?_⟩
       refine zad i hy (by simp only;omega) hi' λa ha=>⟨_,ha,?_⟩
       refine za5 (λh4=>?_) (λh4=>?_)
       . have:=za4x i (ok_dg n) (ok_dg m) hll.symm hi' hi hd.symm (Int.ofNat_lt.1 h4)
         rw[vl_dg,vl_dg]at this
         rw[if_neg (by omega),if_pos this]at H;exact H
       . have h3':¬(dg m)[i]<(dg n)[i]:=λhh=>h3 (Int.ofNat_lt.2 hh)
         have h4':¬(dg n)[i]<(dg m)[i]:=λhh=>h4 (Int.ofNat_lt.2 hh)
         refine⟨⟨rfl,i,by simp only;rw[w64 (by omega)];congr 1;omega,by omega,?_⟩,by simp only;rw[w64 (by omega)];omega⟩
         rw[List.drop_eq_getElem_cons hi,List.drop_eq_getElem_cons hi',hd]
         congr 1;omega
   . simp only at h2
     obtain rfl:k=0:=by omega
     simp only[List.drop_zero]at hd
     have:m=n:=by rw[<-vl_dg m,<-vl_dg n,hd]
     subst this
     unfold cmpN at H
     rw[if_neg (Nat.lt_irrefl _),if_neg (Nat.lt_irrefl _)]at H
     exact H
theorem zl8{m n:Nat}(hx:RdW h x (dg m))(hy:RdW h y (dg n))(hl:(dg m).length<4611686018427387904)(hl2:(dg n).length<4611686018427387904)(H:Ki (cmpN m n) h):callP (F.zd8 x y) Ki h:=
 zao _ (λK'=>zafy hx hy hl hl2) H
end
end Den
end
