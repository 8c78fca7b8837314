/-
  Part 2 of the tools and contracts from which the statement is proved.
-/
import Derived.Test.YtijmjfcnjfnpgaaGreatDoorPartq1
import Derived.RangeFuncRecord
import Derived.RangeFuncLeaves
import Derived.Laws.Strings
import Derived.Lib.Bytealg
import Derived.ProofKit
import Derived.ChangeSlices
import Derived.ChangeStays
import Derived.ChangeArms
import Derived.OpenShut
set_option linter.all false
open Go.IntKind
section
namespace Den
open Go
section
variable {C : Cfg}
theorem Qo{t:Nat}:∀{l:List Nat},Vw t l=true↔t∈l
 | []=>by simp[Vw]
 | x :: r=>by
   unfold Vw
   by_cases h:t=x
   . subst h;simp
   . rw[z5c h];simp[h,Qo (l:=r)]
theorem z5n{a b:List Nat}:z16 a b=true↔∀x∈a,x∉b:=by
 unfold z16
 rw[List.all_eq_true]
 constructor
 . intro h x hx hb
   have:=h x hx
   rw[(Qo (t:=x) (l:=b)).2 hb]at this;cases this
 . intro h x hx
   cases hm:Vw x b with
   | false=>rfl
   | true=>exact absurd (Qo.1 hm) (h x hx)
theorem z85{e:Env}{u:Up}{t:Nat}(ht:∀d,u.dst=some d->t≠d)(hr:∀d,u.dst=some d->C.rt t≠d):e.upd C.rt u t=e t:=by
 cases u with
 | none=>rfl
 | set d s=>exact Env.set_ne (ht d rfl)
 | alloc d s=>
   show(bif Nat.beq t d then s else match e t with | .ref o=>bif Nat.beq (C.rt t) d then Slot.junk else .ref o | x=>x)=e t
   rw[z5c (ht d rfl),z5c (hr d rfl)]
   cases e t<;>rfl
theorem Z77{e:Env}{u v:Up}(h1:∀d d',u.dst=some d->v.dst=some d'->d≠d')(hu:∀d off,u=.set d (.ref off)->∀d',v.dst=some d'->C.rt d≠d')
 (hv:∀d off,v=.set d (.ref off)->∀d',u.dst=some d'->C.rt d≠d')
 (ha:∀d off,u≠.alloc d (.ref off)) (hb:∀d off,v≠.alloc d (.ref off)):(e.upd C.rt u).upd C.rt v=(e.upd C.rt v).upd C.rt u:=by
 cases u with
 | none=>rfl
 | set d s=>
   cases v with
   | none=>rfl
   | set d' s'=>
     have hd:=h1 d d' rfl rfl
     funext t
     simp only[Env.upd]
     by_cases ht:t=d
     . subst ht;rw[Env.set_ne hd,Env.set_same,Env.set_same]
     . by_cases ht':t=d'
       . subst ht';rw[Env.set_same,Env.set_ne ht,Env.set_same]
       . rw[Env.set_ne ht',Env.set_ne ht,Env.set_ne ht,Env.set_ne ht']
   | alloc d' s'=>
     have hd:=h1 d d' rfl rfl
     funext t
     simp only[Env.upd]
     by_cases ht:t=d
     . subst ht
       rw[Env.set_same]
       unfold Env.alloc
       rw[z5c hd,Env.set_same]
       cases s with
       | ref o=>rw[z5c (hu t o rfl d' rfl)];rfl
       | _=>rfl
     . rw[Env.set_ne ht]
       unfold Env.alloc
       rw[Env.set_ne ht]
 | alloc d s=>
   cases v with
   | none=>rfl
   | set d' s'=>
     have hd:=h1 d d' rfl rfl
     funext t
     simp only[Env.upd]
     by_cases ht:t=d'
     . subst ht
       rw[Env.set_same]
       unfold Env.alloc
       rw[z5c (Ne.symm hd),Env.set_same]
       cases s' with
       | ref o=>rw[z5c (hv t o rfl d rfl)];rfl
       | _=>rfl
     . rw[Env.set_ne ht]
       unfold Env.alloc
       rw[Env.set_ne ht]
   | alloc d' s'=>
     have hd:=h1 d d' rfl rfl
     funext t
     simp only[Env.upd]
     unfold Env.alloc
     by_cases ht:t=d
     . subst ht
       rw[z5c hd,zgo]
       simp only[cond_true,cond_false]
       cases s with
       | ref o=>exact absurd rfl (ha t o)
       | _=>rfl
     . rw[z5c ht]
       by_cases ht':t=d'
       . subst ht'
         rw[zgo]
         simp only[cond_true,cond_false]
         cases s' with
         | ref o=>exact absurd rfl (hb t o)
         | _=>rfl
       . rw[z5c ht']
         simp only[cond_false]
         cases e t with
         | ref o=>
           simp only
           cases Nat.beq (C.rt t) d<;>cases Nat.beq (C.rt t) d'<;>rfl
         | _=>rfl
def z3h(C:Cfg)(ops:Array Oper)(o:Oper)(e:Env):Option Bool:=
 match o.guard with
 | none=>some true
 | some (j,want)=>match (ops[j]?).bind (·.dst)with
   | none=>none
   | some d=>match C.loc d,e d with
     | false,.val (.bool t)=>some (t==want)
     | false,.val (.tuple _)=>some false
     | _,_=>none
def qz(C:Cfg)(ops:Array Oper)(o:Oper)(e:Env):PT:=λh K=>
 match z3h C ops o e with
 | some true=>Zg C o e h K
 | some false=>zbn C o.dst h K
 | none=>False
theorem Q3{ops:Array Oper}{i:Nat}{r:List Nat}{K:Env->Hp->Prop}{e:Env}{h:Hp}{o:Oper}(hi:ops[i]?=some o) :
 Wm C ops K (i :: r) e h↔qz C ops o e h λu h'=>Wm C ops K r (e.upd C.rt u) h':=by
 conv=>lhs;unfold Wm
 rw[hi]
 unfold qz z3h
 simp only
 cases hg:o.guard with
 | none=>exact Iff.rfl
 | some g=>
   obtain⟨j,want⟩:=g
   simp only
   cases hd:(ops[j]?).bind (·.dst)with
   | none=>exact Iff.rfl
   | some d=>
     simp only
     cases hl:C.loc d with
     | true=>
       cases he:e d with
       | val v=>cases v<;>exact Iff.rfl
       | _=>exact Iff.rfl
     | false=>
       cases he:e d with
       | val v=>
         cases v with
         | bool t=>
           have hset:e.set d (.val (.bool t))=e:=by
            funext x;by_cases hx:x=d
            . subst hx;rw[Env.set_same,he]
            . rw[Env.set_ne hx]
           cases t<;>cases want<;>simp only[ifP]<;>rw[hset]<;>exact Iff.rfl
         | _=>exact Iff.rfl
       | _=>exact Iff.rfl
theorem zpk{ops:Array Oper}{o:Oper}{e e':Env}(H:∀d∈zly ops o,e d=e' d):z3h C ops o e=z3h C ops o e':=by
 unfold z3h
 unfold zly at H
 cases hg:o.guard with
 | none=>rfl
 | some g=>
   obtain⟨j,want⟩:=g
   rw[hg]at H
   simp only at H |-
   cases hd:(ops[j]?).bind (·.dst)with
   | none=>rfl
   | some d=>
     rw[hd]at H
     simp only at H |-
     rw[H d (by simp)]
theorem zpa{ops:Array Oper}{o:Oper}{e e':Env}(hmk:z9w o=false)(H:∀t∈z54 C ops o,e t=e' t):qz C ops o e=qz C ops o e':=by
 have h1:z3h C ops o e=z3h C ops o e':=zpk λd hd=>H d (by simp[z54,hd])
 have h2:Zg C o e=Zg C o e':=z9j hmk λx hx t ht=>by
  subst ht
  have hr:∀s∈z3t C (.tmp t),s∈z54 C ops o:=λs hs=>by
   unfold z54
   exact List.mem_append_left _ (List.mem_append_left _ (List.mem_flatMap.2 ⟨_,hx,hs⟩))
  exact⟨H _ (hr _ (by simp[z3t])),H _ (hr _ (by simp[z3t]))⟩
 funext h K
 unfold qz
 rw[h1,h2]
theorem zw9{h:Hp}(hf:h.Fin):∃w:World,Sub h w:=by
 obtain⟨n,hn⟩:=hf
 refine⟨{ (default:World)with heap:=Array.ofFn (n:=n) λi=>match h i.1 with | some b=>.cells b.cells.toArray b.elem b.fz | none=>.deferred none },λk b hk=>?_⟩
 have hkn:k<n:=by
  rcases Nat.lt_or_ge k n with h1 | h1
  . exact h1
  . rw[hn k h1]at hk;cases hk
 simp only[Array.getElem?_ofFn,hkn,dite_true,hk]
theorem zux{e:Env}:∀{xs:List Operand} {K:List Value->Prop},z7v e xs K->∃vs,K vs/\∀K':List Value->Prop,K' vs->z7v e xs K'
 | [],K,h=>⟨[],h,λ_ h=>h⟩
 | x :: r,K,h=>by
   unfold z7v at h
   have key:∀K1:Value->Prop,opv e x K1->∃v,K1 v/\∀K2:Value->Prop,K2 v->opv e x K2:=λK1 h1=>by
    unfold opv at h1 |-
    split at h1
    . exact⟨_,h1,λ_ h=>h⟩
    . exact⟨_,h1,λ_ h=>h⟩
    . exact⟨_,h1,λ_ h=>h⟩
    . split at h1
      . exact⟨_,h1,λ_ h=>h⟩
      . exact h1.elim
   obtain⟨v,h1,h2⟩:=key _ h
   obtain⟨vs,h3,h4⟩:=zux h1
   exact⟨v :: vs,h3,λK' hk=>by unfold z7v;exact h2 _ (h4 _ hk)⟩
theorem zyd(hC:z96 C C.tab){o:Oper}{e:Env}(hc:Wx C o=.call){h:Hp}{K:Up->Hp->Prop}(hfin:h.Fin)(hk:Zg C o e h K):∃u h',K u h':=by
 obtain⟨c,g,ho,hcal,hm⟩:=zu9 hc
 unfold Zg at hk
 simp only[ho,hcal,opv]at hk
 obtain⟨vs,hk,_⟩:=zux hk
 rcases hC.get g with ⟨hf,_⟩ | hno
 . obtain⟨w,hs⟩:=zw9 hfin
   obtain⟨_,_,_,⟨v,h',_,hv,_⟩,_⟩:=hf.2 _ _ _ w hs hk []
   have hp:zq (Wd C o) λh K=>Qb C o.dst v h K:=yq zu
   obtain⟨p,_,h2⟩:=hp
   obtain⟨u,_,hu⟩:=(h2 _ _).1 hv
   exact⟨u,h',hu⟩
 . exact(hno _ _ _ hk).elim
theorem zko{Mx My:Up->Prop}{Tx Ty:PT}(hx:zq Mx Tx)(hy:Zt My Ty){h:Hp}{F:Up->Up->Hp->Prop}
 (hk:Tx h λu1 h1=>Ty h1 λu2 h2=>F u1 u2 h2):Ty h λu2 h2=>Tx h2 λu1 h1=>F u1 u2 h1:=by
 obtain⟨p,_,h2⟩:=hx
 obtain⟨u1,hp,hF⟩:=(h2 _ _).1 hk
 exact hy _ _ _ (λu h' _ hh=>(h2 _ _).2 ⟨u1,hp,hh⟩) hF
theorem zxs{Mx My:Up->Prop}{Tx Ty:PT}(hx:Qf Mx Tx)(hy:Zt My Ty)(hg:z7n Ty){h:Hp}{F:Up->Up->Hp->Prop}
 (hk:Tx h λu1 h1=>Ty h1 λu2 h2=>F u1 u2 h2):Ty h λu2 h2=>Tx h2 λu1 h1=>F u1 u2 h1:=by
 obtain⟨p,_,hm,h2⟩:=hx
 obtain⟨u1,hp,hF⟩:=(h2 _ _).1 hk
 exact hy _ _ _ (λu h' _ hh=>(h2 _ _).2 ⟨u1,hm _ _ _ hp hh.2,hh.1⟩) (hg _ _ hF)
theorem zvq{α:Type}{G:(α->Hp->Prop)->Hp->Prop}{K:α->Hp->Prop}{h:Hp}{b:Nat}{x:Blk}(hb:h b=none)
 (hc:zc G (λr h1=>h1 b=none->K r (h1.ins b x)) h):zc G K (h.ins b x):=by
 obtain⟨D,O,Q,h1,h2,h3,h4⟩:=hc
 subst h2
 rw[Hp.add_none]at hb
 refine⟨D,O.ins b x,Q,Hp.dj_ins h1 hb.1,Hp.add_ins hb.1,h3,λv D' hQ=>⟨(h4 v D' hQ).1,λhd hfin=>?_⟩⟩
 have hdb:D' b=none:=by
  rcases hd b with h5 | h5
  . exact h5
  . rw[Hp.ins_same]at h5;cases h5
 have hdj:D'.dj O:=λj=>by
  by_cases hj:j=b
  . subst hj;exact .inl hdb
  . have:=hd j;rw[Hp.ins_ne hj]at this;exact this
 have:=(h4 v D' hQ).2 hdj (hfin.sub λk hk=>by
  rw[Hp.add_none]at hk |-
  refine⟨hk.1,?_⟩
  by_cases hkb:k=b
  . subst hkb;exact hb.2
  . rw[Hp.ins_ne hkb]at hk;exact hk.2) (Hp.add_none.2 ⟨hdb,hb.2⟩)
 rw[Hp.add_ins hdb]at this
 exact this
theorem zxr{Mx My:Up->Prop}{Tx Ty:PT}(hx:z01 Mx Tx)(hy:z42 My Ty){h:Hp}(hinh:∀K,Tx h K->∃u h',K u h'){F:Up->Up->Hp->Prop}
 (hk:Tx h λu1 h1=>Ty h1 λu2 h2=>F u1 u2 h2):Ty h λu2 h2=>Tx h2 λu1 h1=>F u1 u2 h1:=by
 obtain⟨α,G,q,_,hG⟩:=hx
 obtain⟨P0,c,f,q2,_,_,hN⟩:=hy
 obtain⟨u0,h0,hT0⟩:=hinh _ hk
 have hp0:=((hN _ _).1 hT0).1
 rcases hG with hG | hG
 . refine(hN _ _).2 ⟨hp0,λb el hel hb=>(hG _ _).2 ?_⟩
   have h1:=(hG _ _).1 hk
   refine zvq (x:=⟨c,el,(0,0)⟩) hb (z26 ?_ h1)
   rintro r h' ⟨u,hq,hT⟩ _ _ hb'
   exact⟨u,hq,((hN _ _).1 hT).2 b el hel hb'⟩
 . exact(hG _ _ hk).elim
theorem Z5h{Mx My:Up->Prop}{Tx Ty:PT}(hx:z42 Mx Tx)(hy:z42 My Ty){h:Hp}(hfin:h.Fin){F:Up->Up->Hp->Prop}
 (hk:Tx h λu1 h1=>Ty h1 λu2 h2=>F u1 u2 h2):Ty h λu2 h2=>Tx h2 λu1 h1=>F u1 u2 h1:=by
 obtain⟨P1,c1,f1,q1,⟨e1,he1⟩,_,h1⟩:=hx
 obtain⟨P2,c2,f2,q2,_,_,h2⟩:=hy
 obtain⟨hp1,hk1⟩:=(h1 _ _).1 hk
 obtain⟨b0,hb0⟩:=hfin.fresh
 have hp2:=((h2 _ _).1 (hk1 b0 e1 he1 hb0)).1
 refine(h2 _ _).2 ⟨hp2,λb2 el2 g2 hb2=>(h1 _ _).2 ⟨hp1,λb1 el1 g1 hb1=>?_⟩⟩
 have hne:b1≠b2:=λhh=>by subst hh;rw[Hp.ins_same]at hb1;cases hb1
 rw[Hp.ins_ne hne]at hb1
 have:=((h2 _ _).1 (hk1 b1 el1 g1 hb1)).2 b2 el2 g2 (by rw[Hp.ins_ne (Ne.symm hne)];exact hb2)
 rw[Hp.ins_comm (Ne.symm hne)]
 exact this
structure CfgOK(C:Cfg):Prop where
 tab:z96 C C.tab
 mono:∀g args K K' h,(∀v h,K v h->K' v h)->C.f g args K h->C.f g args K' h
theorem z80{o:Oper}:zq (Wd C o) λh K=>zbn C o.dst h K:=Z4x zu
theorem Y2(hC:CfgOK C){ops:Array Oper}{o:Oper}{e:Env}:Zt (Wd C o) (qz C ops o e):=by
 unfold qz
 cases z3h C ops o e with
 | none=>exact zh
 | some b=>
   cases b
   . exact z80.mono
   . exact zqy hC.tab hC.mono
theorem zkn(hC:CfgOK C){ops:Array Oper}{ox oy:Oper}{e:Env}(hs:z90 C ox oy=true){h:Hp}(hfin:h.Fin){F:Up->Up->Hp->Prop}
 (hk:qz C ops ox e h λu1 h1=>qz C ops oy e h1 λu2 h2=>F u1 u2 h2) :
 qz C ops oy e h λu2 h2=>qz C ops ox e h2 λu1 h1=>F u1 u2 h1:=by
 cases hwx:z3h C ops ox e with
 | none=>unfold qz at hk;rw[hwx]at hk;exact hk.elim
 | some bx=>
   cases bx with
   | false=>
     have ex:qz C ops ox e=λh K=>zbn C ox.dst h K:=by funext h K;unfold qz;rw[hwx]
     have hp:zq (Wd C ox) (qz C ops ox e):=by rw[ex];exact z80
     exact zko hp (Y2 hC) hk
   | true=>
     have ex':qz C ops ox e=λh K=>Zg C ox e h K:=by funext h K;unfold qz;rw[hwx]
     have same:zb3 ox.guard oy.guard=true->z3h C ops oy e=some true:=λhg=>by
      unfold zb3 at hg
      cases hgy:oy.guard with
      | none=>unfold z3h;rw[hgy]
      | some gy=>
        cases hgx:ox.guard with
        | none=>rw[hgx,hgy]at hg;cases hg
        | some gx=>
          rw[hgx,hgy]at hg
          obtain⟨i,a⟩:=gx
          obtain⟨j,b⟩:=gy
          simp only[Bool.and_eq_true]at hg
          have hij:=Nat.eq_of_beq_eq_true hg.1
          have hab:a=b:=by have:=hg.2;cases a<;>cases b<;>simp_all
          subst hij hab
          unfold z3h at hwx |-
          rw[hgx]at hwx
          rw[hgy]
          exact hwx
     unfold z90 at hs
     cases hcx:Wx C ox with
     | pure=>exact zko (by rw[ex'];exact z5r hcx) (Y2 hC) hk
     | load=>
       rw[hcx]at hs
       refine zxs (by rw[ex'];exact z5p hcx) (Y2 hC) ?_ hk
       unfold qz
       cases z3h C ops oy e with
       | none=>exact ql
       | some b=>
         cases b with
         | false=>exact(z80 (o:=oy)).grow
         | true=>
           simp only
           cases hcy:Wx C oy with
           | pure=>exact(z5r hcy).grow
           | load=>exact(z5p hcy).grow
           | call=>exact(zal hC.tab hcy).grow
           | new=>exact Z4l hcy
           | other=>rw[hcy]at hs;cases hs
     | call=>
       rw[hcx]at hs
       cases hcy:Wx C oy with
       | new=>
         rw[hcy]at hs
         have hwy:=same hs
         have ey:qz C ops oy e=λh K=>Zg C oy e h K:=by funext h K;unfold qz;rw[hwy]
         exact zxr (by rw[ex'];exact zal hC.tab hcx) (by rw[ey];exact zd8 hcy) (λK hh=>by rw[ex']at hh;exact zyd hC.tab hcx hfin hh) hk
       | _=>rw[hcy]at hs;cases hs
     | new=>
       rw[hcx]at hs
       cases hcy:Wx C oy with
       | new=>
         rw[hcy]at hs
         have hwy:=same hs
         have ey:qz C ops oy e=λh K=>Zg C oy e h K:=by funext h K;unfold qz;rw[hwy]
         exact Z5h (by rw[ex'];exact zd8 hcx) (by rw[ey];exact zd8 hcy) hfin hk
       | _=>rw[hcy]at hs;cases hs
     | other=>rw[hcx]at hs;cases hs
theorem z5u{ops:Array Oper}{ox oy:Oper}{e:Env}{u:Up}(hmk:z9w oy=false)(hu:Wd C ox u)(hd:z16 (Yh C ox) (z3s C ops oy)=true) :
 qz C ops oy (e.upd C.rt u)=qz C ops oy e:=by
 rw[z5n]at hd
 refine zpa hmk λt ht=>z85 (λd hdd hh=>?_) (λd hdd hh=>?_)
 . exact hd d (hu.1 d hdd) (by rw[<-hh];exact List.mem_append_left _ ht)
 . exact hd d (hu.1 d hdd) (by rw[<-hh];exact List.mem_append_right _ (List.mem_map.2 ⟨t,ht,rfl⟩))
theorem zai{ops:Array Oper}{ox oy:Oper}{e:Env}{u v:Up}(hu:Wd C ox u)(hv:Wd C oy v)(h1:z16 (Yh C ox) (z3s C ops oy)=true)
 (h2:z16 (Yh C oy) (z3s C ops ox)=true) (h3:z16 (Yh C ox) (Yh C oy)=true):(e.upd C.rt u).upd C.rt v=(e.upd C.rt v).upd C.rt u:=by
 rw[z5n]at h1 h2 h3
 have root:∀(o:Oper) (u:Up),Wd C o u->∀d off,u=.set d (.ref off)->C.rt d∈z3s C ops o:=λo u hu d off hh=>by
  refine List.mem_append_left _ ?_
  unfold z54
  rw[hu.2.1 d off hh]
  simp
 refine Z77 (λd d' hd hd' hh=>?_) (λd off hh d' hd' hr=>?_) (λd off hh d' hd' hr=>?_) hu.2.2 hv.2.2
 . subst hh;exact h3 d (hu.1 d hd) (hv.1 d hd')
 . exact h2 d' (hv.1 d' hd') (by rw[<-hr];exact root ox u hu d off hh)
 . exact h1 d' (hu.1 d' hd') (by rw[<-hr];exact root oy v hv d off hh)
theorem zw2(hC:CfgOK C){ops:Array Oper}{K:Env->Hp->Prop}{x y:Nat}{r:List Nat}{e:Env}{h:Hp}(hfin:h.Fin)(hs:z3y C ops x y=true)
 (hk:Wm C ops K (x :: y :: r) e h):Wm C ops K (y :: x :: r) e h:=by
 unfold z3y at hs
 split at hs
 . rename_i ox oy hx hy
   simp only[Bool.and_eq_true]at hs
   obtain⟨⟨⟨⟨⟨hc,hm1⟩,hm2⟩,h1⟩,h2⟩,h3⟩:=hs
   have hm1:z9w ox=false:=by simpa using hm1
   have hm2:z9w oy=false:=by simpa using hm2
   rw[Q3 hx]at hk
   rw[Q3 hy]
   have k1:qz C ops ox e h λu1 h1=>qz C ops oy e h1 λu2 h2=>Wd C ox u1/\Wd C oy u2/\Wm C ops K r ((e.upd C.rt u1).upd C.rt u2) h2:=by
    refine Y2 hC _ _ _ (λu1 h' hu1 hk1=>?_) hk
    rw[Q3 hy,z5u hm2 hu1 h1]at hk1
    exact Y2 hC _ _ _ (λu2 h'' hu2 hk2=>⟨hu1,hu2,hk2⟩) hk1
   refine Y2 hC _ _ _ (λu2 h' hu2 hk2=>?_) (zkn hC hc hfin k1)
   rw[Q3 hx,z5u hm1 hu2 h2]
   refine Y2 hC _ _ _ (λu1 h'' hu1 hk3=>?_) hk2
   rw[<-zai hu1 hu2 h1 h2 h3]
   exact hk3.2.2
 . cases hs
theorem ze9(hC:CfgOK C){ops:Array Oper}{K K':Env->Hp->Prop}(hK:∀e h,K e h->K' e h):∀{l:List Nat} {e:Env} {h:Hp},Wm C ops K l e h->Wm C ops K' l e h
 | [],e,h,hk=>hK e h hk
 | i :: r,e,h,hk=>by
   cases hi:ops[i]? with
   | none=>unfold Wm at hk;rw[hi]at hk;exact hk.elim
   | some o=>
     rw[Q3 hi]at hk |-
     exact Y2 hC _ _ _ (λu h' _ hh=>ze9 hC hK hh) hk
theorem Z5f(hC:CfgOK C){ops:Array Oper}{ox oy:Oper}{e:Env}(hs:z90 C ox oy=true):zvh (qz C ops ox e):=by
 unfold qz
 cases z3h C ops ox e with
 | none=>exact zw8
 | some b=>
   cases b with
   | false=>exact(z80 (o:=ox)).fin
   | true=>
     simp only
     unfold z90 at hs
     cases hc:Wx C ox with
     | pure=>exact(z5r hc).fin
     | load=>exact(z5p hc).fin
     | call=>exact(zal hC.tab hc).fin
     | new=>exact(zd8 hc).fin
     | other=>rw[hc]at hs;cases hs
theorem z9l(hC:CfgOK C){ops:Array Oper}{K:Env->Hp->Prop}{y:Nat}{r:List Nat}:∀{p:List Nat} {e:Env} {h:Hp},h.Fin->(∀x∈p,z3y C ops x y=true) ->
 Wm C ops K (p++y :: r) e h->Wm C ops K (y :: (p++r)) e h
 | [],e,h,_,_,hk=>hk
 | x :: p,e,h,hfin,hp,hk=>by
   have hs:=hp x (by simp)
   have h1:Wm C ops K (x :: (y :: (p++r))) e h:=by
    cases hx:ops[x]? with
    | none=>unfold z3y at hs;rw[hx]at hs;cases hs
    | some ox=>
      rw[List.cons_append,Q3 hx]at hk
      rw[Q3 hx]
      have hcl:∃oy,z90 C ox oy=true:=by
       unfold z3y at hs
       rw[hx]at hs
       split at hs
       . rename_i o1 o2 h1 h2
         cases h1
         simp only[Bool.and_eq_true]at hs
         exact⟨o2,hs.1.1.1.1.1⟩
       . cases hs
      obtain⟨oy,hcl⟩:=hcl
      refine Y2 hC _ _ _ (λu h' _ hh=>?_) (Z5f hC hcl _ _ hfin hk)
      exact z9l hC hh.2 (λz hz=>hp z (by simp[hz])) hh.1
   exact zw2 hC hfin hs h1
end
end Den
end

section
namespace Den
open Go
variable {ro : Option Nat} {nn : Nat}
section
variable {C : Cfg} {B : Base}
theorem zmu{ops:Array Oper}{o:Oper}{e:Env}{h:Hp}{a:Act}{w:World}(hR:Rel C B e h a w){b:Bool}(hw:z3h C ops o e=some b) :
 Region.wanted o (yielded ops a.tmps)=b:=by
 unfold z3h at hw
 cases hg:o.guard with
 | none=>rw[hg]at hw;cases hw;exact zfw hg
 | some g=>
   obtain⟨j,want⟩:=g
   rw[hg]at hw
   simp only at hw
   cases hd:(ops[j]?).bind (·.dst)with
   | none=>rw[hd]at hw;cases hw
   | some d=>
     rw[hd]at hw
     simp only at hw
     split at hw
     . rename_i t hl hv
       cases hw
       exact zfv hg hd (hR.vals d _ hv)
     . rename_i vs hl hv
       cases hw
       exact zdp hg hd (hR.vals d _ hv)
     . cases hw
theorem zcb(hC:CfgOK C){ops:Array Oper}{i:Nat}{o:Oper}{e:Env}{h:Hp}{a:Act}{w:World}{K:Up->Hp->Prop}{Q:Exit->Act->World->Prop}
 (hi:ops[i]?=some o) (hR:Rel C B e h a w) (hk:qz C ops o e h K):wpOpIn (Ye ro) nn C.P ops Q i (Qe C B o e K) a w:=by
 unfold wpOpIn
 rw[hi]
 simp only
 unfold qz at hk
 cases hw:z3h C ops o e with
 | none=>rw[hw]at hk;exact hk.elim
 | some b=>
   rw[hw]at hk
   rw[zmu hR hw]
   cases b with
   | true=>simp only[if_true];exact z6x hC.tab hR hk
   | false=>simp only[Bool.false_eq_true,if_false];exact⟨λ_ _=>trivial,z75 hR hk⟩
theorem z8s{ops:Array Oper}{listed:Array Bool}{x:Nat}
 (hdc:∀(i:Nat) (o:Oper),ops[i]?=some o->listed.getD i false=true->∀e∈o.after.toList,Region.binds .any e=true->listed.getD e.on false=true) :
 ∀{d i:Nat} {o:Oper},ops[i]?=some o->(∀e∈o.after.toList,Region.binds .any e=true->listed.getD e.on false=true)->z19 ops d x i=true->listed.getD x false=true
 | 0,i,o,_,_,hx=>by simp[z19]at hx
 | d+1,i,o,hi,ho,hx=>by
   unfold z19 at hx
   rw[hi]at hx
   simp only[Bool.or_eq_true,List.any_eq_true,Bool.and_eq_true]at hx
   rcases hx with ⟨e,he,hb,hxe⟩ | ⟨e,he,hb,_,hr⟩
   . rw[<-Nat.eq_of_beq_eq_true hxe];exact ho e he hb
   . cases he':ops[e.on]? with
     | none=>
       cases d with
       | zero=>simp[z19]at hr
       | succ d=>unfold z19 at hr;rw[he']at hr;cases hr
     | some oe=>exact z8s hdc he' (λe2 he2 hb2=>hdc e.on oe he' (ho e he hb) e2 he2 hb2) hr
theorem zhy{ops:Array Oper}:∀{p r:List Nat} {y:Nat},z4d C ops (p++y :: r)=true->(∀x∈p,z19 ops ops.size x y=true\/z3y C ops x y=true)/\z4d C ops (p++r)=true
 | [],r,y,hp=>by
   simp only[List.nil_append,z4d,Bool.and_eq_true]at hp
   exact⟨(λx hx=>by cases hx),hp.2⟩
 | z :: p,r,y,hp=>by
   simp only[List.cons_append,z4d,Bool.and_eq_true,List.all_eq_true]at hp
   obtain⟨h1,h2⟩:=hp
   obtain⟨h3,h4⟩:=zhy h2
   refine⟨λx hx=>?_,?_⟩
   . rcases List.mem_cons.1 hx with rfl | hx
     . have:=h1 y (by simp);rw[Bool.or_eq_true]at this;exact this
     . exact h3 x hx
   . simp only[List.cons_append,z4d,Bool.and_eq_true,List.all_eq_true]
     exact⟨λq hq=>h1 q (by rcases List.mem_append.1 hq with h | h<;>simp[h]),h4⟩
theorem zh1(hC:CfgOK C){ops:Array Oper}{K:Env->Hp->Prop}{ms:List Nat}{e0:Env}{Q:Exit->Act->World->Prop}
 (hms:∀(i:Nat) (o:Oper),ops[i]?=some o->∀d∈Yh C o,d∈ms) (hQ:∀x a w,zgg C B ms e0 K x a w->Q x a w)
 (hback:∀(i:Nat) (o:Oper),ops[i]?=some o->∀e∈o.after.toList,Region.binds .any e=true->e.on<i) :
 ∀(fuel:Nat) (c:List Nat) (listed:Array Bool) (e:Env) (h:Hp) (a:Act) (w:World),c.length<=fuel->listed.size=ops.size->c.Nodup ->
  (∀i,i<ops.size->(listed.getD i false=false↔i∈c))->(∀i∈c,i<ops.size) ->
  (∀(i:Nat) (o:Oper),ops[i]?=some o->listed.getD i false=true->∀e∈o.after.toList,Region.binds .any e=true->listed.getD e.on false=true) ->
  z4d C ops c=true->(∀t,t∉ms->Wj (e0 t) (e t))->Wm C ops K c e h->Rel C B e h a w->wpAnyIn (Ye ro) nn C.P .any ops Q fuel listed a w:=by
 have least:∀(c:List Nat) (listed:Array Bool),listed.size=ops.size->(∀i,i<ops.size->(listed.getD i false=false↔i∈c))->(∀i∈c,i<ops.size)->c≠[] ->
  Region.ready .any ops listed≠[]:=by
  intro c listed hsz hiff hlt hne
  have:∀n,∀i∈c,i<=n->∃j∈c,∀k∈c,j<=k:=by
   intro n
   induction n with
   | zero=>intro i hi hn;exact⟨i,hi,λk _=>by omega⟩
   | succ n ih=>
     intro i hi hn
     by_cases hex:∃k∈c,k<=n
     . obtain⟨k,hk,hkn⟩:=hex;exact ih k hk hkn
     . exact⟨i,hi,λk hk=>by
        by_cases hkn:k<=n
        . exact absurd ⟨k,hk,hkn⟩ hex
        . omega⟩
  obtain⟨i0,r0,hc⟩:∃i r,c=i :: r:=by cases c with | nil=>exact absurd rfl hne | cons i r=>exact⟨i,r,rfl⟩
  obtain⟨j,hj,hmin⟩:=this i0 i0 (by rw[hc];simp) (Nat.le_refl _)
  have hjs:=hlt j hj
  have hready:j∈Region.ready .any ops listed:=by
   unfold Region.ready
   rw[List.mem_filter]
   refine⟨List.mem_range.2 hjs,?_⟩
   have hl:=(hiff j hjs).2 hj
   have h1:listed.getD j true=false:=by
    rw[Array.getD_eq_getD_getElem?]at hl |-
    rw[Array.getElem?_eq_getElem (by omega)]at hl |-
    exact hl
   rw[h1]
   simp only[Bool.not_false,Bool.true_and]
   rw[Array.getElem?_eq_getElem hjs]
   simp only[Option.map_some,Option.getD_some]
   rw[Array.all_eq_true']
   intro e he
   rw[Bool.or_eq_true]
   cases hbe:Region.binds .any e with
   | false=>left;rfl
   | true=>
   right
   have hlt':=hback j _ (Array.getElem?_eq_getElem hjs) e (by simpa using he) hbe
   cases hg:listed.getD e.on false with
   | true=>rfl
   | false=>have:=hmin _ ((hiff e.on (by omega)).1 hg);omega
  intro hnil;rw[hnil]at hready;cases hready
 intro fuel
 induction fuel with
 | zero=>
   intro c listed e h a w hf hsz hnd hiff hlt hdc hp hkeep hk hR
   have hcn:c=[]:=List.eq_nil_of_length_eq_zero (by omega)
   subst hcn
   refine⟨?_,hQ _ _ _ ⟨rfl,e,h,hk,hR,hkeep⟩⟩
   unfold Region.ready
   rw[List.filter_eq_nil_iff]
   intro i hi
   have his:=List.mem_range.1 hi
   have hl:listed.getD i false=true:=by
    cases hg:listed.getD i false with
    | true=>rfl
    | false=>exact absurd ((hiff i his).1 hg) (by simp)
   have h1:listed.getD i true=true:=by
    rw[Array.getD_eq_getD_getElem?]at hl |-
    rw[Array.getElem?_eq_getElem (by omega)]at hl |-
    exact hl
   rw[h1];simp
 | succ fuel ih=>
   intro c listed e h a w hf hsz hnd hiff hlt hdc hp hkeep hk hR
   refine⟨λhnil=>?_,λi hi=>?_⟩
   . by_cases hcn:c=[]
     . subst hcn;exact hQ _ _ _ ⟨rfl,e,h,hk,hR,hkeep⟩
     . exact absurd hnil (least c listed hsz hiff hlt hcn)
   . unfold Region.ready at hi
     rw[List.mem_filter]at hi
     obtain⟨hi1,hi2⟩:=hi
     have his:=List.mem_range.1 hi1
     rw[Bool.and_eq_true]at hi2
     obtain⟨hi3,hi4⟩:=hi2
     have hl:listed.getD i false=false:=by
      rw[Array.getD_eq_getD_getElem?]at hi3 |-
      rw[Array.getElem?_eq_getElem (by omega)]at hi3 |-
      simpa using hi3
     have hic:=(hiff i his).1 hl
     obtain⟨p,r,rfl⟩:=List.append_of_mem hic
     obtain⟨o,ho⟩:∃o,ops[i]?=some o:=⟨_,Array.getElem?_eq_getElem his⟩
     rw[ho]at hi4
     simp only[Option.map_some,Option.getD_some]at hi4
     have hedges:∀e∈o.after.toList,Region.binds .any e=true->listed.getD e.on false=true:=λe he hb=>by
      have:=(Array.all_eq_true'.1 hi4) e (by simpa using he)
      rw[hb]at this;simpa using this
     obtain⟨hpo,hpr⟩:=zhy hp
     have hswap:∀x∈p,z3y C ops x i=true:=λx hx=>by
      rcases hpo x hx with h1 | h1
      . have h2:=z8s hdc ho hedges h1
        have hxs:=hlt x (by simp[hx])
        have h3:=(hiff x hxs).2 (by simp[hx])
        rw[h2]at h3;cases h3
      . exact h1
     have hb:=z9l hC hR.sub.fin hswap hk
     rw[Q3 ho]at hb
     refine wpOpIn_mono ?_ (zcb hC ho hR hb)
     rintro a' w' ⟨u,h',hk',hR',hd'⟩
     have hnd':(p++r).Nodup/\i∉p++r:=by
      rw[List.nodup_append]at hnd
      obtain⟨n1,n2,n3⟩:=hnd
      rw[List.nodup_cons]at n2
      refine⟨List.nodup_append.2 ⟨n1,n2.2,λa ha b hb=>n3 a ha b (by simp[hb])⟩,λhm=>?_⟩
      rcases List.mem_append.1 hm with hm | hm
      . exact n3 i hm i (by simp) rfl
      . exact n2.1 hm
     have hset:∀j,j<ops.size->(listed.setIfInBounds i true).getD j false=if j=i then true else listed.getD j false:=λj hj=>by
      simp only[Array.getD_eq_getD_getElem?,Array.getElem?_setIfInBounds]
      by_cases hji:j=i
      . subst hji;simp[show j<listed.size by omega]
      . simp[Ne.symm hji,hji]
     refine ih (p++r) (listed.setIfInBounds i true) (e.upd C.rt u) h' a' w' ?_ (by simpa using hsz) hnd'.1 ?_ ?_ ?_ hpr ?_ hk' hR'
     . simp at hf |-;omega
     . intro j hj
       rw[hset j hj]
       by_cases hji:j=i
       . subst hji;simp only[if_true];exact⟨(λhh=>by cases hh),λhh=>absurd hh hnd'.2⟩
       . rw[if_neg hji,hiff j hj]
         simp only[List.mem_append,List.mem_cons]
         constructor
         . rintro(h1 | h1 | h1)
           . exact .inl h1
           . exact absurd h1 hji
           . exact .inr h1
         . rintro(h1 | h1)
           . exact .inl h1
           . exact .inr (.inr h1)
     . intro j hj
       exact hlt j (by rcases List.mem_append.1 hj with h1 | h1<;>simp[h1])
     . intro j oj hoj hlj ed hed hbd
       have hjs:j<ops.size:=by
        rcases Nat.lt_or_ge j ops.size with h1 | h1
        . exact h1
        . rw[Array.getElem?_eq_none h1]at hoj;cases hoj
       have hes:ed.on<ops.size:=by have:=hback j oj hoj ed hed hbd;omega
       rw[hset _ hes]
       by_cases hei:ed.on=i
       . simp[hei]
       . rw[if_neg hei]
         rw[hset j hjs]at hlj
         by_cases hji:j=i
         . subst hji
           rw[ho]at hoj;cases hoj
           exact hedges ed hed hbd
         . rw[if_neg hji]at hlj
           exact hdc j oj hoj hlj ed hed hbd
     . intro t ht
       exact(hkeep t ht).trans (zd2 λd hd hh=>ht (by rw[hh];exact hms i o ho d (hd' d hd)))
end
abbrev Ziu(dst:Option Nat)(u:Up):Prop:=(u=.none/\dst=none)\/∃d v,dst=some d/\u=.set d (.val v)
theorem zi2{C:Cfg}{dst:Option Nat}{v:Value}:zq (Ziu dst) λh K=>Qb C dst v h K:=by
 unfold Qb
 cases dst with
 | none=>exact z3q (.inl ⟨rfl,rfl⟩)
 | some d=>
   simp only
   split
   . exact z3q (.inr ⟨d,v,rfl,rfl⟩)
   . exact zj
theorem zhp{C:Cfg}{o:Oper}{e:Env}(hc:Wx C o=.load):Qf (Ziu o.dst) λh K=>Zg C o e h K:=by
 unfold Wx at hc
 unfold Zg
 cases ho:o.op<;>simp only[ho]at hc |-<;>try (cases hc;done)
 case load t x=>
  split
  . split
    . exact(z4q λv=>zi2).load
    . split
      . exact(z4q λv=>zi2).load
      . exact zj.load
    . split
      . exact zj.load
      exact zl5 (Φ:=Qf _) zj.load λad=>Z46 λv=>(zke λv=>zi2).load
    . exact zj.load
  . exact zj.load
 all_goals
  exfalso
  revert hc
  repeat' split
  all_goals (intro hc;first | (cases hc;done) | (cases hc;contradiction))
theorem Zd8{C:Cfg}{o:Oper}(hm:z9w o=true):Wx C o=.other:=by
 unfold z9w at hm
 split at hm
 . rename_i ho
   unfold Wx
   rw[ho]
 . cases hm
section
variable {C : Cfg} {B : Base}
def ze4(C:Cfg)(ops:Array Oper)(a:Nat)(e:Env)(h:Hp):Prop:=
 match ops[a]? with
 | some o=>Zg C o e h λu _=>(match u with
   | .set d (.val v)=>(match e d with
     | .val v'=>v=v'
     | _=>False)
   | _=>False)
 | none=>False
theorem zkl{ops:Array Oper}{e:Env}{h:Hp}{P:Prop}:∀{as:List Nat},zil C ops as e h P↔(∀a∈as,ze4 C ops a e h)/\P
 | []=>by simp[zil]
 | a :: r=>by
   unfold zil
   rw[zkl (as:=r)]
   simp only[List.mem_cons,forall_eq_or_imp]
   exact(and_assoc (a:=ze4 C ops a e h)).symm
theorem zp5{u:Up}{e:Env}(hh:match u with
 | .set d (.val v)=>(match e d with
   | .val v'=>v=v'
   | _=>False)
 | _=>False):∃d v,u=.set d (.val v)/\e d=.val v:=by
 split at hh
 . rename_i d v
   split at hh
   . rename_i v' hv
     exact⟨d,v,rfl,by rw[hv,hh]⟩
   . exact hh.elim
 . exact hh.elim
theorem zfg(hC:CfgOK C){ops:Array Oper}{K:Env->Hp->Prop}{q:List Nat}:∀{p:List Nat} {e:Env} {h:Hp},Wm C ops (Wm C ops K q) p e h->Wm C ops K (p++q) e h
 | [],_,_,hk=>hk
 | i :: p,e,h,hk=>by
   cases hi:ops[i]? with
   | none=>unfold Wm at hk;rw[hi]at hk;exact hk.elim
   | some o=>
     rw[Q3 hi]at hk
     rw[List.cons_append,Q3 hi]
     exact Y2 hC _ _ _ (λu h' _ hh=>zfg hC hh) hk
theorem zxo{ops:Array Oper}{o:Oper}{e:Env}(hc:Wx C o=.pure\/Wx C o=.load):Qf (Wd C o) (qz C ops o e):=by
 unfold qz
 cases z3h C ops o e with
 | none=>exact zj.load
 | some b=>
   cases b with
   | false=>exact(z80 (o:=o)).load
   | true=>
     rcases hc with hc | hc
     . exact(z5r hc).load
     . exact z5p hc
theorem Z84{ops:Array Oper}{x:Nat}(hs:zjq C ops x=true):∃ox,ops[x]?=some ox/\(Wx C ox=.pure\/Wx C ox=.load):=by
 unfold zjq at hs
 split at hs
 . rename_i ox hx
   refine⟨ox,hx,?_⟩
   cases hc:Wx C ox with
   | pure=>exact .inl rfl
   | load=>exact .inr rfl
   | _=>rw[hc]at hs;exact absurd hs (by simp)
 . cases hs
theorem zye{ops:Array Oper}{a x:Nat}(hs:zf6 C ops a x=true):∃ox oa,ops[x]?=some ox/\ops[a]?=some oa/\z16 (Yh C ox) (z3s C ops oa)=true/\z16 (Yh C ox) (Yh C oa)=true/\z9w oa=false:=by
 unfold zf6 at hs
 split at hs
 . rename_i ox oa hx ha
   simp only[Bool.and_eq_true,Bool.not_eq_true']at hs
   exact⟨ox,oa,hx,ha,hs.1.1,hs.1.2,hs.2⟩
 . cases hs
theorem znj{ops:Array Oper}{as:List Nat}{b:Nat}:∀{p:List Nat},zua C ops as b p=true->p.Pairwise λa x=>a∈as->z19 ops ops.size x b=true\/zf6 C ops a x=true
 | [],_=>List.Pairwise.nil
 | a :: r,h=>by
   unfold zua at h
   rw[Bool.and_eq_true,Bool.or_eq_true]at h
   refine List.pairwise_cons.2 ⟨λx hx ha=>?_,znj h.2⟩
   rcases h.1 with h1 | h1
   . rw[Qo.2 ha]at h1;cases h1
   . have:=(List.all_eq_true.1 h1) x hx
     rwa [Bool.or_eq_true]at this
theorem zyg{ops:Array Oper}{a:Nat}{oa ox:Oper}{e:Env}{u:Up}{h:Hp}(ha:ops[a]?=some oa)(hu:Wd C ox u)(h1:z16 (Yh C ox) (z3s C ops oa)=true)
 (h2:z16 (Yh C ox) (Yh C oa)=true) (hm:z9w oa=false) (hc:Wx C oa=.load) (hk:ze4 C ops a (e.upd C.rt u) h):ze4 C ops a e h:=by
 unfold ze4 at hk |-
 rw[ha]at hk |-
 simp only at hk |-
 rw[z5n]at h1 h2
 have hr:∀t∈z54 C ops oa,(e.upd C.rt u) t=e t:=λt ht=>z85 (λd hdd hh=>h1 d (hu.1 d hdd) (by rw[<-hh];exact List.mem_append_left _ ht))
  (λd hdd hh=>h1 d (hu.1 d hdd) (by rw[<-hh];exact List.mem_append_right _ (List.mem_map.2 ⟨t,ht,rfl⟩)))
 have hco:Zg C oa (e.upd C.rt u)=Zg C oa e:=z9j hm λx hx t ht=>by
  subst ht
  have hr2:∀s∈z3t C (.tmp t),s∈z54 C ops oa:=λs hs=>by
   unfold z54
   exact List.mem_append_left _ (List.mem_append_left _ (List.mem_flatMap.2 ⟨_,hx,hs⟩))
  exact⟨hr _ (hr2 _ (by simp[z3t])),hr _ (hr2 _ (by simp[z3t]))⟩
 rw[hco]at hk
 obtain⟨p,p1,p2,p3⟩:=zhp (e:=e) hc
 obtain⟨v,hv,hq⟩:=(p3 h _).1 hk
 refine(p3 h _).2 ⟨v,hv,?_⟩
 obtain⟨d,y,rfl,hy⟩:=zp5 hq
 have hd:oa.dst=some d:=by
  rcases p1 _ _ hv with ⟨h3,_⟩ | ⟨d',y',h3,h4⟩
  . cases h3
  . simp only[Up.set.injEq]at h4;rw[h4.1];exact h3
 have:(e.upd C.rt u) d=e d:=z85 (λd' hdd hh=>h2 d' (hu.1 d' hdd) (by rw[<-hh];simp[Yh,hd]))
  (λd' hdd hh=>h1 d' (hu.1 d' hdd) (by
    rw[<-hh]
    refine List.mem_append_left _ ?_
    unfold z54
    simp[hd]))
 rw[this]at hy
 simp only[hy]
theorem zu8(hC:CfgOK C){ops:Array Oper}{as:List Nat}{b:Nat}{ob:Oper}(hb:ops[b]?=some ob){K:Env->Hp->Prop}(hload:∀a∈as,∀oa,ops[a]?=some oa->Wx C oa=.load) :
 ∀{p D:List Nat} {e:Env} {h:Hp},h.Fin->(∀x∈p,zir C ops as b x=true/\zjq C ops x=true)->p.Pairwise (λa x=>a∈as->zf6 C ops a x=true)->(∀a∈as,a∈D->∀x∈p,zf6 C ops a x=true) ->
 Wm C ops (λe1 h1=>qz C ops ob e1 h1 λu2 h2=>(∀a∈as,a∈D\/a∈p->ze4 C ops a (e1.upd C.rt u2) h2)/\K (e1.upd C.rt u2) h2) p e h ->
 qz C ops ob e h λu2 h2=>(∀a∈as,a∈D->ze4 C ops a (e.upd C.rt u2) h2)/\Wm C ops K p (e.upd C.rt u2) h2
 | [],D,e,h,_,_,_,_,hk=>by
   refine Y2 hC _ _ _ (λu h' _ hh=>⟨λa ha hd=>hh.1 a ha (.inl hd),hh.2⟩) hk
 | x :: p,D,e,h,hfin,hp,hnd,hD,hk=>by
   obtain⟨hsw,hcalm⟩:=hp x (by simp)
   obtain⟨ox,hx,hcx⟩:=Z84 hcalm
   rw[Q3 hx]at hk
   rw[List.pairwise_cons]at hnd
   have hll:Qf (Wd C ox) (qz C ops ox e):=zxo hcx
   have hmx:z9w ox=false:=by
    cases hm:z9w ox with
    | false=>rfl
    | true=>have:=Zd8 (C:=C) hm;rcases hcx with h1 | h1<;>rw[h1]at this<;>cases this
   have hdis:z9w ob=false/\z16 (Yh C ox) (z3s C ops ob)=true/\z16 (Yh C ob) (z3s C ops ox)=true/\z16 (Yh C ox) (Yh C ob)=true:=by
    unfold zir at hsw
    rw[hx,hb]at hsw
    simp only at hsw
    split at hsw
    . simp only[Bool.and_eq_true,Bool.not_eq_true']at hsw
      exact⟨hsw.1.1.1.1.2,hsw.1.1.1.2,hsw.1.1.2,hsw.1.2⟩
    . unfold z3y at hsw
      rw[hx,hb]at hsw
      simp only[Bool.and_eq_true,Bool.not_eq_true']at hsw
      exact⟨hsw.1.1.1.2,hsw.1.1.2,hsw.1.2,hsw.2⟩
   obtain⟨hmb,h1,h2,h3⟩:=hdis
   have hk1:qz C ops ox e h λu1 h'=>Wd C ox u1/\qz C ops ob e h' λu2 h2=>Wd C ob u2/\(∀a∈as,a∈x :: D->ze4 C ops a ((e.upd C.rt u1).upd C.rt u2) h2)/\Wm C ops K p ((e.upd C.rt u1).upd C.rt u2) h2:=by
    refine Y2 hC _ _ _ (λu1 h' hu1 hh=>⟨hu1,?_⟩) (hll.fin _ _ hfin hk)
    rw[<-z5u (C:=C) (ops:=ops) (ox:=ox) (oy:=ob) (e:=e) hmb hu1 h1]
    refine Y2 hC _ _ _ (λu2 h2 hu2 hk2=>⟨hu2,hk2⟩) (zu8 hC hb hload (D:=x :: D) hh.2 (λz hz=>hp z (by simp[hz])) hnd.2 (λa ha hd z hz=>?_) ?_)
    . rcases List.mem_cons.1 hd with rfl | hd
      . exact hnd.1 z hz ha
      . exact hD a ha hd z (by simp[hz])
    . refine ze9 hC (λe1 h1 hq=>Y2 hC _ _ _ (λu2 h2 _ hk2=>⟨λa ha had=>hk2.1 a ha ?_,hk2.2⟩) hq) hh.1
      rcases had with had | had
      . rcases List.mem_cons.1 had with rfl | had
        . exact .inr (by simp)
        . exact .inl had
      . exact .inr (by simp[had])
   have carry:∀u1 u2 h2,Wd C ox u1->Wd C ob u2->(∀a∈as,a∈x :: D->ze4 C ops a ((e.upd C.rt u1).upd C.rt u2) h2)->∀a∈as,a∈D->ze4 C ops a (e.upd C.rt u2) h2:=by
    intro u1 u2 h2' hu1 hu2 hch a ha hd
    obtain⟨ox',oa,hx',hoa,g1,g2,g3⟩:=zye (hD a ha hd x (by simp))
    rw[hx]at hx'
    cases hx'
    have:=hch a ha (by simp[hd])
    rw[zai (ops:=ops) hu1 hu2 h1 h2 h3]at this
    exact zyg hoa hu1 g1 g2 g3 (hload a ha oa hoa) this
   by_cases hxa:x∈as
   . 
    have hsw':=hsw
    unfold zir at hsw'
    rw[hx,hb]at hsw'
    simp only[Qo.2 hxa,Bool.and_eq_true]at hsw'
    obtain⟨⟨⟨⟨⟨⟨hcl,hgn⟩,_⟩,_⟩,_⟩,_⟩,hown⟩:=hsw'
    have hcl:Wx C ox=.load:=hload x hxa ox hx
    have hgn:ox.guard=none:=by simpa using hgn
    have hst:∀e',qz C ops ox e'=λh K=>Zg C ox e' h K:=λe'=>by
     funext h K;unfold qz z3h;rw[hgn]
    obtain⟨p0,p1,p2,p3⟩:=zhp (e:=e) hcl
    rw[hst]at hk1
    obtain⟨u1,hpu,hu1,hk2⟩:=(p3 h _).1 hk1
    refine Y2 hC _ _ _ (λu2 h2' hu2 hk3=>⟨carry u1 u2 h2' hu1 hu2 hk3.2.1,?_⟩) hk2
    rw[Q3 hx,z5u hmx hu2 h2,hst]
    have hch:=hk3.2.1 x hxa (by simp)
    unfold ze4 at hch
    rw[hx]at hch
    simp only at hch
    have hown':=z5n.1 hown
    have hco:Zg C ox ((e.upd C.rt u1).upd C.rt u2)=Zg C ox e:=by
     rw[zai (ops:=ops) hu1 hu2 h1 h2 h3]
     have e1:Zg C ox ((e.upd C.rt u2).upd C.rt u1)=Zg C ox (e.upd C.rt u2):=z9j hmx λy hy t ht=>by
      subst ht
      have hr2:∀s∈z3t C (.tmp t),((e.upd C.rt u2).upd C.rt u1) s=(e.upd C.rt u2) s:=λs hs=>by
       have hm:s∈ox.op.operands.toList.flatMap (z3t C):=List.mem_flatMap.2 ⟨_,hy,hs⟩
       exact z85 (λd hdd hh=>hown' d (hu1.1 d hdd) (by rw[<-hh];exact List.mem_append_left _ hm))
        (λd hdd hh=>hown' d (hu1.1 d hdd) (by rw[<-hh];exact List.mem_append_right _ (List.mem_map.2 ⟨s,hm,rfl⟩)))
      exact⟨hr2 _ (by simp[z3t]),hr2 _ (by simp[z3t])⟩
     have e2:Zg C ox (e.upd C.rt u2)=Zg C ox e:=by
      have:=z5u (C:=C) (ops:=ops) (ox:=ob) (oy:=ox) (e:=e) hmx hu2 h2
      rw[hst,hst]at this
      exact this
     rw[e1,e2]
    rw[hco]at hch
    obtain⟨u,hpu2,hq⟩:=(p3 h2' _).1 hch
    obtain⟨d,v,rfl,hv⟩:=zp5 hq
    have hd:ox.dst=some d:=by
     rcases p1 _ _ hpu2 with ⟨h5,_⟩ | ⟨d',y',h5,h6⟩
     . cases h5
     . simp only[Up.set.injEq]at h6;rw[h6.1];exact h5
    have hkeep:((e.upd C.rt u1).upd C.rt u2) d=(e.upd C.rt u1) d:=z85
     (λd' hdd hh=>z5n.1 h3 d (by simp[Yh,hd]) (by rw[hh];exact hu2.1 d' hdd))
     (λd' hdd hh=>z5n.1 h2 d' (hu2.1 d' hdd) (by
       rw[<-hh]
       refine List.mem_append_left _ ?_
       unfold z54
       simp[hd]))
    have hu:u1=.set d (.val v):=by
     rcases p1 _ _ hpu with ⟨_,h5⟩ | ⟨d',y',h5,rfl⟩
     . rw[hd]at h5;cases h5
     . have hdd:d'=d:=by rw[hd]at h5;cases h5;rfl
       subst hdd
       rw[hkeep]at hv
       have:(e.upd C.rt (.set d' (.val y'))) d'=.val y':=Env.set_same _ _ _
       rw[this]at hv
       cases hv
       rfl
    subst hu
    refine(p3 h2' _).2 ⟨_,hpu2,?_⟩
    rw[<-zai (ops:=ops) hu1 hu2 h1 h2 h3]
    exact hk3.2.2
   . have hso:z3y C ops x b=true:=by
      unfold zir at hsw
      rw[hx,hb]at hsw
      simp only at hsw
      split at hsw
      . rename_i hm;exact absurd (Qo.1 hm) hxa
      . exact hsw
     have hcl:z90 C ox ob=true:=by
      unfold z3y at hso
      rw[hx,hb]at hso
      simp only[Bool.and_eq_true]at hso
      exact hso.1.1.1.1.1
     have hk2:qz C ops ox e h λu1 h'=>qz C ops ob e h' λu2 h2=>Wd C ox u1/\Wd C ob u2/\(∀a∈as,a∈x :: D->ze4 C ops a ((e.upd C.rt u1).upd C.rt u2) h2)/\Wm C ops K p ((e.upd C.rt u1).upd C.rt u2) h2:=
      Y2 hC _ _ _ (λu1 h' _ hh=>Y2 hC _ _ _ (λu2 h2 _ hh2=>⟨hh.1,hh2⟩) hh.2) hk1
     refine Y2 hC _ _ _ (λu2 h2' hu2 hk3=>?_) (zkn hC hcl hfin hk2)
     obtain⟨p0,p1,p2,p3⟩:=hll
     obtain⟨u1,hpu,hu1,_,hch,hd⟩:=(p3 h2' _).1 hk3
     refine⟨carry u1 u2 h2' hu1 hu2 hch,?_⟩
     rw[Q3 hx,z5u hmx hu2 h2]
     refine(p3 h2' _).2 ⟨u1,hpu,?_⟩
     rw[<-zai (ops:=ops) hu1 hu2 h1 h2 h3]
     exact hd
theorem zog{ops:Array Oper}(hback:∀(i:Nat) (o:Oper),ops[i]?=some o->∀e∈o.after.toList,Region.binds .any e=true->e.on<i)(c:List Nat)(listed:Array Bool)(hsz:listed.size=ops.size)
 (hiff:∀i,i<ops.size->(listed.getD i false=false↔i∈c)) (hlt:∀i∈c,i<ops.size) (hne:c≠[]):Region.ready .any ops listed≠[]:=by
 have:∀n,∀i∈c,i<=n->∃j∈c,∀k∈c,j<=k:=by
  intro n
  induction n with
  | zero=>intro i hi hn;exact⟨i,hi,λk _=>by omega⟩
  | succ n ih=>
    intro i hi hn
    by_cases hex:∃k∈c,k<=n
    . obtain⟨k,hk,hkn⟩:=hex;exact ih k hk hkn
    . exact⟨i,hi,λk hk=>by
       by_cases hkn:k<=n
       . exact absurd ⟨k,hk,hkn⟩ hex
       . omega⟩
 obtain⟨i0,r0,hc⟩:∃i r,c=i :: r:=by cases c with | nil=>exact absurd rfl hne | cons i r=>exact⟨i,r,rfl⟩
 obtain⟨j,hj,hmin⟩:=this i0 i0 (by rw[hc];simp) (Nat.le_refl _)
 have hjs:=hlt j hj
 have hready:j∈Region.ready .any ops listed:=by
  unfold Region.ready
  rw[List.mem_filter]
  refine⟨List.mem_range.2 hjs,?_⟩
  have hl:=(hiff j hjs).2 hj
  have h1:listed.getD j true=false:=by
   rw[Array.getD_eq_getD_getElem?]at hl |-
   rw[Array.getElem?_eq_getElem (by omega)]at hl |-
   exact hl
  rw[h1]
  simp only[Bool.not_false,Bool.true_and]
  rw[Array.getElem?_eq_getElem hjs]
  simp only[Option.map_some,Option.getD_some]
  rw[Array.all_eq_true']
  intro e he
  rw[Bool.or_eq_true]
  cases hbe:Region.binds .any e with
  | false=>left;rfl
  | true=>
  right
  have hlt':=hback j _ (Array.getElem?_eq_getElem hjs) e (by simpa using he) hbe
  cases hg:listed.getD e.on false with
  | true=>rfl
  | false=>have:=hmin _ ((hiff e.on (by omega)).1 hg);omega
 intro hnil;rw[hnil]at hready;cases hready
theorem zns(hC:CfgOK C){ops:Array Oper}{K:Env->Hp->Prop}{ms:List Nat}{e0:Env}{Q:Exit->Act->World->Prop}{b:Nat}{ob:Oper}{q as:List Nat}(hob:ops[b]?=some ob)
 (hload:∀a∈as,∀oa,ops[a]?=some oa->Wx C oa=.load)
 (hms:∀(i:Nat) (o:Oper),ops[i]?=some o->∀d∈Yh C o,d∈ms) (hQ:∀x a w,zgg C B ms e0 K x a w->Q x a w)
 (hback:∀(i:Nat) (o:Oper),ops[i]?=some o->∀e∈o.after.toList,Region.binds .any e=true->e.on<i) :
 ∀(fuel:Nat) (p:List Nat) (listed:Array Bool) (e:Env) (h:Hp) (a:Act) (w:World),(p++b :: q).length<=fuel->listed.size=ops.size->(p++b :: q).Nodup ->
  (∀i,i<ops.size->(listed.getD i false=false↔i∈p++b :: q))->(∀i∈p++b :: q,i<ops.size) ->
  (∀(i:Nat) (o:Oper),ops[i]?=some o->listed.getD i false=true->∀e∈o.after.toList,Region.binds .any e=true->listed.getD e.on false=true) ->
  z4d C ops (p++q)=true->(∀y∈q,z19 ops ops.size b y=true)->(∀x∈p,z19 ops ops.size x b=true\/zir C ops as b x=true/\zjq C ops x=true)->p.Pairwise (λa x=>a∈as->z19 ops ops.size x b=true\/zf6 C ops a x=true)->(∀t,t∉ms->Wj (e0 t) (e t)) ->
  Wm C ops (λe1 h1=>Wm C ops (λe2 h2=>zil C ops as e2 h2 (Wm C ops K q e2 h2)) [b] e1 h1) p e h->Rel C B e h a w->wpAnyIn (Ye ro) nn C.P .any ops Q fuel listed a w:=by
 intro fuel
 induction fuel with
 | zero=>
   intro p listed e h a w hf
   simp at hf
 | succ fuel ih=>
   intro p listed e h a w hf hsz hnd hiff hlt hdc hp hq hpb hpw hkeep hk hR
   refine⟨λhnil=>absurd hnil (zog hback _ listed hsz hiff hlt (by simp)),λi hi=>?_⟩
   unfold Region.ready at hi
   rw[List.mem_filter]at hi
   obtain⟨hi1,hi2⟩:=hi
   have his:=List.mem_range.1 hi1
   rw[Bool.and_eq_true]at hi2
   obtain⟨hi3,hi4⟩:=hi2
   have hl:listed.getD i false=false:=by
    rw[Array.getD_eq_getD_getElem?]at hi3 |-
    rw[Array.getElem?_eq_getElem (by omega)]at hi3 |-
    simpa using hi3
   have hic:=(hiff i his).1 hl
   obtain⟨o,ho⟩:∃o,ops[i]?=some o:=⟨_,Array.getElem?_eq_getElem his⟩
   rw[ho]at hi4
   simp only[Option.map_some,Option.getD_some]at hi4
   have hedges:∀e∈o.after.toList,Region.binds .any e=true->listed.getD e.on false=true:=λe he hb=>by
    have:=(Array.all_eq_true'.1 hi4) e (by simpa using he)
    rw[hb]at this;simpa using this
   have hset:∀j,j<ops.size->(listed.setIfInBounds i true).getD j false=if j=i then true else listed.getD j false:=λj hj=>by
    simp only[Array.getD_eq_getD_getElem?,Array.getElem?_setIfInBounds]
    by_cases hji:j=i
    . subst hji;simp[show j<listed.size by omega]
    . simp[Ne.symm hji,hji]
   have hdc':∀(j:Nat) (oj:Oper),ops[j]?=some oj->(listed.setIfInBounds i true).getD j false=true->∀e∈oj.after.toList,Region.binds .any e=true->(listed.setIfInBounds i true).getD e.on false=true:=by
    intro j oj hoj hlj ed hed hbd
    have hjs:j<ops.size:=by
     rcases Nat.lt_or_ge j ops.size with h1 | h1
     . exact h1
     . rw[Array.getElem?_eq_none h1]at hoj;cases hoj
    have hes:ed.on<ops.size:=by have:=hback j oj hoj ed hed hbd;omega
    rw[hset _ hes]
    by_cases hei:ed.on=i
    . simp[hei]
    . rw[if_neg hei]
      rw[hset j hjs]at hlj
      by_cases hji:j=i
      . subst hji
        rw[ho]at hoj;cases hoj
        exact hedges ed hed hbd
      . rw[if_neg hji]at hlj
        exact hdc j oj hoj hlj ed hed hbd
   have notin:∀x,x∈p++b :: q->z19 ops ops.size x i=true->False:=λx hx hr=>by
    have h2:=z8s hdc ho hedges hr
    have h3:=(hiff x (hlt x hx)).2 hx
    rw[h2]at h3;cases h3
   rcases List.mem_append.1 hic with hip | hip
   . 
    obtain⟨p1,p2,rfl⟩:=List.append_of_mem hip
    rw[show(p1++i :: p2)++q=p1++i :: (p2++q)by simp]at hp
    obtain⟨hpo,hpr⟩:=zhy hp
    have hswap:∀x∈p1,z3y C ops x i=true:=λx hx=>by
     rcases hpo x hx with h1 | h1
     . exact(notin x (by simp[hx]) h1).elim
     . exact h1
    have hb:=z9l hC hR.sub.fin hswap hk
    rw[Q3 ho]at hb
    refine wpOpIn_mono ?_ (zcb hC ho hR hb)
    rintro a' w' ⟨u,h',hk',hR',hd'⟩
    have hperm:((p1++i :: p2)++b :: q).Perm (i :: ((p1++p2)++b :: q)):=by
     simp only[List.append_assoc,List.cons_append]
     exact List.perm_middle
    have hnd':=(hperm.nodup_iff).1 hnd
    rw[List.nodup_cons]at hnd'
    refine ih (p1++p2) (listed.setIfInBounds i true) (e.upd C.rt u) h' a' w' ?_ (by simpa using hsz) hnd'.2 ?_ ?_ hdc' (by simpa using hpr) hq ?_ ?_ ?_ hk' hR'
    . simp at hf |-;omega
    . intro j hj
      rw[hset j hj]
      by_cases hji:j=i
      . subst hji;simp only[if_true];exact⟨(λhh=>by cases hh),λhh=>absurd hh hnd'.1⟩
      . rw[if_neg hji,hiff j hj,hperm.mem_iff,List.mem_cons]
        exact⟨λhh=>hh.resolve_left hji,.inr⟩
    . exact λj hj=>hlt j (hperm.mem_iff.2 (List.mem_cons_of_mem _ hj))
    . exact λx hx=>hpb x (by rcases List.mem_append.1 hx with h1 | h1<;>simp[h1])
    . exact hpw.sublist (List.Sublist.append_left (List.sublist_cons_self _ _) _)
    . intro t ht
      exact(hkeep t ht).trans (zd2 λd hd hh=>ht (by rw[hh];exact hms i o ho d (hd' d hd)))
   . rcases List.mem_cons.1 hip with rfl | hiq
     . 
      rw[hob]at ho;cases ho
      have hpw':p.Pairwise λa x=>a∈as->zf6 C ops a x=true:=by
       refine hpw.imp_of_mem λ{a x} _ hx hh ha=>?_
       rcases hh ha with h1 | h1
       . exact(notin x (by simp[hx]) h1).elim
       . exact h1
      have hpb':∀x∈p,zir C ops as i x=true/\zjq C ops x=true:=λx hx=>by
       rcases hpb x hx with h1 | h1
       . exact(notin x (by simp[hx]) h1).elim
       . exact h1
      have hperm:(p++i :: q).Perm (i :: (p++q)):=List.perm_middle
      have hnd':=(hperm.nodup_iff).1 hnd
      rw[List.nodup_cons]at hnd'
      have hk1:Wm C ops (λe1 h1=>qz C ops ob e1 h1 λu2 h2=>(∀a∈as,a∈([]:List Nat)\/a∈p->ze4 C ops a (e1.upd C.rt u2) h2)/\Wm C ops K q (e1.upd C.rt u2) h2) p e h:=by
       refine ze9 hC (λe1 h1 hh=>?_) hk
       rw[Q3 hob]at hh
       refine Y2 hC _ _ _ (λu h' _ hh=>?_) hh
       have hh:zil C ops as (e1.upd C.rt u) h' (Wm C ops K q (e1.upd C.rt u) h'):=hh
       rw[zkl]at hh
       exact⟨λa ha _=>hh.1 a ha,hh.2⟩
      have hb:=zu8 hC hob hload hR.sub.fin hpb' hpw' (λ_ _ hh=>by cases hh) hk1
      have hb2:qz C ops ob e h λu h'=>Wm C ops K (p++q) (e.upd C.rt u) h':=Y2 hC _ _ _ (λu h' _ hh=>zfg hC hh.2) hb
      refine wpOpIn_mono ?_ (zcb hC hob hR hb2)
      rintro a' w' ⟨u,h',hk',hR',hd'⟩
      refine zh1 hC hms hQ hback fuel (p++q) (listed.setIfInBounds i true) (e.upd C.rt u) h' a' w' ?_ (by simpa using hsz) hnd'.2 ?_ ?_ hdc' hp ?_ hk' hR'
      . simp at hf |-;omega
      . intro j hj
        rw[hset j hj]
        by_cases hji:j=i
        . subst hji;simp only[if_true];exact⟨(λhh=>by cases hh),λhh=>absurd hh hnd'.1⟩
        . rw[if_neg hji,hiff j hj,hperm.mem_iff,List.mem_cons]
          exact⟨λhh=>hh.resolve_left hji,.inr⟩
      . exact λj hj=>hlt j (hperm.mem_iff.2 (List.mem_cons_of_mem _ hj))
      . intro t ht
        exact(hkeep t ht).trans (zd2 λd hd hh=>ht (by rw[hh];exact hms i ob hob d (hd' d hd)))
     . exact(notin b (by simp) (hq i hiq)).elim
end
end Den
end

section
namespace Den
open Go
variable {F : Fence} {n : Nat} {P : Program} {ops : Array Oper} {Q : Exit → Act → World → Prop}
def zhj(ts:List Nat)(a0:Act)(Q:Exit->Act->World->Prop):Exit->Act->World->Prop:=λe a' w'=>
 Q e a' w'/\(e=.normal->∀t,t∉ts->a'.tmps[t]?=a0.tmps[t]?)
theorem za4{a:Act}{dst:Option Nat}{v:Value}{ts:List Nat}(hd:∀d,dst=some d->d∈ts):∀t,t∉ts->(a.put dst v).tmps[t]?=a.tmps[t]?:=λt ht=>by
 cases dst with
 | none=>rfl
 | some d=>exact Yd (λhh=>ht (by rw[hh];exact hd d rfl))
theorem zx3{o:Oper}{a a0:Act}{w:World}{K:Act->World->Prop}{ts:List Nat}(hd:∀d,o.dst=some d->d∈ts)
 (hh:o.wpIn F n P a w K Q):o.wpIn F n P a w (λa' w'=>K a' w'/\∀t,t∉ts->a'.tmps[t]?=a.tmps[t]?) (zhj ts a0 Q):=by
 unfold Oper.wpIn at *
 refine⟨hh.1,?_⟩
 have hh:=hh.2
 have hlet:LetsOut Q->LetsOut (zhj ts a0 Q):=λ⟨x,y,hxy⟩=>⟨x,y,hxy,λhe=>by cases he⟩
 generalize (o.semAt F.round a.eval).run P w=r at *
 cases r with
 | ok x w'=>
   cases x<;>simp only[Oper.uponIn]at hh |- <;>
    first
     | exact⟨hh,za4 hd⟩
     | exact⟨hh.1,CallsIn.mono hh.2 (λe w'' he=>by cases e<;>first | exact⟨he,za4 hd⟩ | exact⟨he,λhx=>by cases hx⟩ | exact hlet he)⟩
     | exact⟨hh.1,RowsIn.mono hh.2 (λ_ _ he=>⟨he,za4 hd⟩)⟩
     | exact⟨hh.1,RoundIn.mono hh.2 (λe w'' he=>by cases e<;>first | exact⟨he,za4 hd⟩ | exact⟨he,λhx=>by cases hx⟩ | exact hlet he)⟩
 | halt x w'=>cases x<;>simp only[Oper.uponIn]at hh |-<;>first | exact hh | exact⟨hh,λhx=>by cases hx⟩
theorem zfy{i:Nat}{a a0:Act}{w:World}{K:Act->World->Prop}{ts:List Nat}(hd:∀(i:Nat) (o:Oper),ops[i]?=some o->∀d,o.dst=some d->d∈ts)
 (hh:wpOpIn F n P ops Q i K a w):wpOpIn F n P ops (zhj ts a0 Q) i (λa' w'=>K a' w'/\∀t,t∉ts->a'.tmps[t]?=a.tmps[t]?) a w:=by
 unfold wpOpIn at *
 cases ho:ops[i]? with
 | none=>rw[ho]at hh;exact⟨hh,λ_ _=>rfl⟩
 | some o=>
   rw[ho]at hh
   simp only at hh |-
   split
   . rename_i hw;rw[if_pos hw]at hh;exact zx3 (hd i o ho) hh
   . rename_i hw;rw[if_neg hw]at hh;exact⟨hh.1,hh.2,za4 (hd i o ho)⟩
theorem zdq{ts:List Nat}(hd:∀(i:Nat) (o:Oper),ops[i]?=some o->∀d,o.dst=some d->d∈ts) :
 ∀{l:List Nat} {a a0:Act} {w:World},(∀t,t∉ts->a.tmps[t]?=a0.tmps[t]?)->wpOpsIn F n P ops Q l a w->wpOpsIn F n P ops (zhj ts a0 Q) l a w
 | [],a,a0,w,ha,hh=>⟨hh,λ_=>ha⟩
 | i :: r,a,a0,w,ha,hh=>by
   rw[wpOpsIn_cons]at hh |-
   refine wpOpIn_mono ?_ (zfy (a0:=a0) hd hh)
   rintro a' w' ⟨h1,h2⟩
   exact zdq hd (λt ht=>(h2 t ht).trans (ha t ht)) h1
theorem z94{ts:List Nat}{md:Region.Mode}(hd:∀(i:Nat) (o:Oper),ops[i]?=some o->∀d,o.dst=some d->d∈ts) :
 ∀{fuel:Nat} {listed:Array Bool} {a a0:Act} {w:World},(∀t,t∉ts->a.tmps[t]?=a0.tmps[t]?)->wpAnyIn F n P md ops Q fuel listed a w->wpAnyIn F n P md ops (zhj ts a0 Q) fuel listed a w
 | 0,listed,a,a0,w,ha,hh=>⟨hh.1,hh.2,λ_=>ha⟩
 | fuel+1,listed,a,a0,w,ha,hh=>by
   refine⟨λhr=>⟨hh.1 hr,λ_=>ha⟩,λi hi=>?_⟩
   refine wpOpIn_mono ?_ (zfy (a0:=a0) hd (hh.2 i hi))
   rintro a' w' ⟨h1,h2⟩
   exact z94 hd (λt ht=>(h2 t ht).trans (ha t ht)) h1
end Den
end

noncomputable section
namespace Den
open Go
variable {ro : Option Nat} {nn : Nat}
theorem zy1{P:Program}{Q:Exit->Act->World->Prop}{c:Code}{σ:Type}(I:σ->Act->World->Prop)(μ:σ->Nat)
 (round:∀s a w,I s a w->c.wpIn (Ye ro) nn P (Exit.then (λa' w'=>∃s',I s' a' w'/\μ s'<μ s) Q) a w) {s:σ} {a:Act} {w:World} (h0:I s a w):(Code.loop c).wpIn (Ye ro) nn P Q a w:=by
 intro b k cs hro hb hr
 have key:∀n s a w,μ s=n->I s a w ->
  ∃e a' w',Q e a' w'/\ArrivesIn (Machine.fenced P (Ye ro)) P (lone (b.atR a (.code c :: .inLoop c :: k)) cs w) b k cs e a' w':=by
  intro n
  induction n using Nat.strongRecOn with
  | _ n ih=>
    intro s a w hn hI
    obtain⟨e,a₁,w₁,hq,harr⟩:=round s a w hI b (.inLoop c :: k) cs hro hb hr
    cases e with
    | normal=>
      obtain⟨s',hI₁,hlt⟩:=hq
      obtain⟨e₂,a₂,w₂,hq₂,harr₂⟩:=ih (μ s') (hn▸hlt) s' a₁ w₁ rfl hI₁
      exact⟨e₂,a₂,w₂,hq₂,.of_steps (StepsIn.trans harr (.one (fenced_calm hb hr rfl) stepR_inLoop)) harr₂⟩
    | exit id=>exact⟨_,a₁,w₁,hq,.pass (x:=.inLoop c) rfl (λ_ _=>.inl (by simp)) harr⟩
    | goto l=>exact⟨_,a₁,w₁,hq,.pass (x:=.inLoop c) rfl (λ_ _=>.inl (by simp)) harr⟩
    | ret=>exact⟨_,a₁,w₁,hq,.pass (x:=.inLoop c) rfl (λ_ _=>.inl (by simp)) harr⟩
    | panic ch=>exact⟨_,a₁,w₁,hq,.pass (x:=.inLoop c) rfl (λ_ _=>.inl (by simp)) harr⟩
    | outgrown=>exact⟨_,a₁,w₁,hq,.pass (x:=.inLoop c) rfl (λ_ _=>.inl (by simp)) harr⟩
 obtain⟨e,a',w',hq,harr⟩:=key _ s a w rfl h0
 exact⟨e,a',w',hq,.of_steps (.one (fenced_calm hb hr rfl) stepR_loop) harr⟩
section
variable {C : Cfg} {B : Base}
def exM:Ex->Exit->Prop
 | .normal,.normal=>True
 | .exit i,.exit j=>i=j
 | .ret,.ret=>True
 | _,_=>False
def Out(C:Cfg)(B:Base)(ms ts:List Nat)(a0:Act)(e:Env)(K:Ex->Env->Hp->Prop):Exit->Act->World->Prop:=λx a' w'=>
 ∃ex e' h',exM ex x/\K ex e' h'/\Rel C B e' h' a' w'/\(∀t,t∉ms->Wj (e t) (e' t))/\∀t,t∉ts->a'.tmps[t]?=a0.tmps[t]?
def zpw(P:Program)(gf:Nat)(T:STy):Prop:=
 (∀args w,(callFunc gf args).run P w=.ok (.enter gf args) w) /\
 ∀(l:Nat) (ab:Addr) (x:Sl) (J:Nat->World->Prop) (w:World),x.len<=140737488355328->J x.len w ->
  (∀i W,J i W->W.cell? ab=some (.slice x.a x.len x.cap)) ->
  (∀i W,i<x.len->J (i+1) W->∃(ad:Addr) (v:T.T),x.a=some ad/\(∀j u,(T.cells v)[j]?=some u->W.cell? (ad.add (i*T.size+j))=some u) /\
    ∃f tmps asg body,(Instr.yield l #[.int .i64 i,T.val v]).run P W=.ok (.round l f tmps asg body) W/\RoundIn Fence.wide 0 P l f tmps asg body W λe W'=>e=.returned (.bool true)/\J i W') ->
  CallsIn Fence.wide 0 P gf #[.func (.yield l) #[] #[],.pointer (some ab)] w λe w'=>(∃v,e=.returned v)/\J 0 w'
def z1t(P:Program):List (Nat×STy)->Prop
 | []=>True
 | (g,T) :: r=>zpw P g T/\z1t P r
theorem z1t.get{P:Program}:∀{l:List (Nat×STy)},z1t P l->∀g T,zus g l=some T->zpw P g T
 | [],_,_,_,h=>by cases h
 | (x,y) :: r,hb,g,T,h=>by
   unfold zus at h
   by_cases hg:g=x
   . subst hg;rw[zgo]at h;cases h;exact hb.1
   . rw[z5c hg]at h;exact z1t.get hb.2 g T h
theorem zsv{P:Program}{n m:Nat}{l:Nat}{f:FuncId}{tmps:Array Value}{asg body:Code}{w:World}{R:Ending->World->Prop}
 (h:RoundIn Fence.wide n P l f tmps asg body w R):RoundIn Fence.wide m P l f tmps asg body w R:=⟨h.1,λc cs _=>h.2 c cs (room_wide _)⟩
theorem LT.dn_iff:∀{ls:List Lf} {vs:List Value} {K:LT ls->Prop},LT.dn ls vs K↔∃x,vs=LT.up ls x/\K x
 | [],[],K=>by
   unfold LT.dn
   exact⟨λhk=>⟨(),rfl,hk⟩,λ⟨x,_,hk⟩=>hk⟩
 | [],v :: vs,K=>by
   simp only[LT.dn,false_iff]
   rintro⟨x,hx,_⟩;cases hx
 | l :: r,[],K=>by
   simp only[LT.dn,false_iff]
   rintro⟨x,hx,_⟩;cases hx
 | l :: r,v :: vs,K=>by
   unfold LT.dn
   rw[Lf.dn_iff]
   constructor
   . rintro⟨x,rfl,hk⟩
     rw[LT.dn_iff]at hk
     obtain⟨y,rfl,hk⟩:=hk
     exact⟨(x,y),rfl,hk⟩
   . rintro⟨⟨x,y⟩,hx,hk⟩
     have hx':v :: vs=l.up x :: LT.up r y:=hx
     cases hx'
     exact⟨x,rfl,LT.dn_iff.2 ⟨y,rfl,hk⟩⟩
theorem STy.dn_iff{s:STy}{sl:Slot}{K:s.T->Prop}:s.dn sl K↔∃x,sl=s.up x/\K x:=by
 cases s with
 | leaf l=>
   cases sl with
   | val v=>
     exact(Lf.dn_iff (l:=l) (v:=v) (K:=K)).trans ⟨λ⟨x,h1,h2⟩=>⟨x,by rw[h1];rfl,h2⟩,λ⟨x,h1,h2⟩=>⟨x,by cases h1;rfl,h2⟩⟩
   | _=>exact⟨λhh=>hh.elim,λ⟨x,hx,_⟩=>by cases hx⟩
 | agg ls=>
   cases sl with
   | val v=>
     cases v with
     | agg cs=>
       refine(LT.dn_iff (ls:=ls) (vs:=cs.toList) (K:=K)).trans ⟨?_,?_⟩
       . rintro⟨x,h1,h2⟩
         refine⟨x,?_,h2⟩
         show Slot.val (.agg cs)=Slot.val (.agg (LT.up ls x).toArray)
         rw[<-h1]
       . rintro⟨x,h1,h2⟩
         have h1':Slot.val (.agg cs)=Slot.val (.agg (LT.up ls x).toArray):=h1
         simp only[Slot.val.injEq,Value.agg.injEq]at h1'
         exact⟨x,by rw[h1'],h2⟩
     | _=>exact⟨λhh=>hh.elim,λ⟨x,hx,_⟩=>by cases hx⟩
   | _=>exact⟨λhh=>hh.elim,λ⟨x,hx,_⟩=>by cases hx⟩
 | mp=>
   cases sl with
   | mp m=>exact⟨λhh=>⟨m,rfl,hh⟩,λ⟨x,hx,hk⟩=>by cases hx;exact hk⟩
   | _=>exact⟨λhh=>hh.elim,λ⟨x,hx,_⟩=>by cases hx⟩
 | box ls=>
   cases sl with
   | box cs=>
     exact(LT.dn_iff (ls:=ls) (vs:=cs) (K:=K)).trans ⟨λ⟨x,h1,h2⟩=>⟨x,by rw[h1];rfl,h2⟩,λ⟨x,h1,h2⟩=>⟨x,by cases h1;rfl,h2⟩⟩
   | _=>exact⟨λhh=>hh.elim,λ⟨x,hx,_⟩=>by cases hx⟩
theorem z5q:∀{L:List (Nat×STy)} {e:Env} {K:z9f L->Prop},zfq L e K->∃s,(∀t x,Qk L s t=some x->e t=x)/\K s
 | [],e,K,hk=>⟨(),(λt x hx=>by cases hx),hk⟩
 | (t,s) :: r,e,K,hk=>by
   unfold zfq at hk
   obtain⟨x,hx,hk⟩:=STy.dn_iff.1 hk
   obtain⟨xs,h1,h2⟩:=z5q hk
   refine⟨(x,xs),λt' y hy=>?_,h2⟩
   have hy':(bif Nat.beq t' t then some (s.up x)else Qk r xs t')=some y:=hy
   by_cases ht:t'=t
   . subst ht;rw[zgo]at hy';simp only[cond_true,Option.some.injEq]at hy';rw[<-hy'];exact hx
   . rw[z5c ht]at hy';simp only[cond_false]at hy';exact h1 t' y hy'
theorem zd6{e e':Env}{ms:List Nat}{L:List (Nat×STy)}{s:z9f L}(hs:∀t x,Qk L s t=some x->e' t=x)(hk:∀t,t∉ms->Wj (e t) (e' t))(t:Nat) :
 qn e ms L s t=.junk\/(qn e ms L s t=e' t):=by
 unfold qn
 cases hu:Qk L s t with
 | some x=>exact .inr (hs t x hu).symm
 | none=>
   simp only
   cases hm:Vw t ms with
   | true=>exact .inl rfl
   | false=>
     simp only[cond_false]
     have hkt:=hk t (λhh=>by rw[Qo.2 hh]at hm;cases hm)
     cases he:e t with
     | val v=>right;exact(hkt.2 v he).symm
     | box cs=>right;have:=hkt.1 (.inl ⟨cs,he⟩);rw[this,he]
     | mp m=>right;have:=hkt.1 (.inr (.inl ⟨m,he⟩));rw[this,he]
     | mr=>right;have:=hkt.1 (.inr (.inr he));rw[this,he]
     | _=>exact .inl rfl
theorem zok{e e':Env}{ms:List Nat}{L:List (Nat×STy)}{s:z9f L}(t off:Nat):qn e ms L s t≠.ref off:=by
 unfold qn
 cases hu:Qk L s t with
 | some x=>
   simp only
   intro hx
   subst hx
   revert hu s
   induction L with
   | nil=>intro s hu;cases hu
   | cons p r ih=>
     intro s hu
     obtain⟨t',sy⟩:=p
     unfold Qk at hu
     by_cases ht:t=t'
     . subst ht;rw[zgo]at hu
       simp only[cond_true,Option.some.injEq]at hu
       cases sy<;>cases hu
     . rw[z5c ht]at hu;exact ih hu
 | none=>
   simp only
   cases hm:Vw t ms with
   | true=>intro hh;cases hh
   | false=>
     simp only[cond_false]
     cases he:e t<;>intro hh<;>cases hh
theorem Rel.atMk{e e':Env}{h:Hp}{a:Act}{w:World}(hR:Rel C B e' h a w){ms:List Nat}{L:List (Nat×STy)}{s:z9f L}
 (hs:∀t x,Qk L s t=some x->e' t=x) (hk:∀t,t∉ms->Wj (e t) (e' t)):Rel C B (qn e ms L s) h a w where
 sub:=hR.sub
 sz:=hR.sz
 defers:=hR.defers
 fr:=hR.fr
 dom:=hR.dom
 vals:=λt v ht=>by
  rcases zd6 hs hk t with h1 | h1
  . rw[h1]at ht;cases ht
  . rw[h1]at ht;exact hR.vals t v ht
 hid:=λt ht=>by
  rcases zd6 hs hk t with h1 | h1
  . rw[h1]at ht;cases ht
  . rw[h1]at ht |-;exact hR.hid t ht
 inj:=λt t' b i1 i2 i3 i4=>by
  rcases zd6 hs hk t with h1 | h1
  . rw[h1]at i1;cases i1
  . rcases zd6 hs hk t' with h2 | h2
    . rw[h2]at i2;cases i2
    . rw[h1]at i1 i3;rw[h2]at i2 i4;exact hR.inj t t' b i1 i2 i3 i4
 refs:=λt off ht=>absurd ht (zok (e':=e') t off)
 mrs:=λt ht=>by
  rcases zd6 hs hk t with h1 | h1
  . rw[h1]at ht;cases ht
  . rw[h1]at ht;exact hR.mrs t ht
theorem zg7{e e':Env}{ms:List Nat}{L:List (Nat×STy)}{s:z9f L}(hs:∀t x,Qk L s t=some x->e' t=x)(hk:∀t,t∉ms->Wj (e t) (e' t)){t:Nat}
 (ht:t∉ms):Wj (e t) (qn e ms L s t):=by
 unfold qn
 cases hu:Qk L s t with
 | some x=>simp only;rw[<-hs t x hu];exact hk t ht
 | none=>
   simp only
   have hm:Vw t ms=false:=by
    cases hm:Vw t ms with
    | false=>rfl
    | true=>exact absurd (Qo.1 hm) ht
   rw[hm]
   simp only[cond_false]
   cases he:e t with
   | val v=>exact Wj.refl _
   | box cs=>exact Wj.refl _
   | lit cs n=>exact⟨(λhh=>by rcases hh with ⟨_,hh⟩ | ⟨_,hh⟩ | hh<;>cases hh),(λv hv=>by cases hv)⟩
   | mp m=>exact Wj.refl _
   | mr=>exact Wj.refl _
   | ref off=>exact⟨(λhh=>by rcases hh with ⟨_,hh⟩ | ⟨_,hh⟩ | hh<;>cases hh),(λv hv=>by cases hv)⟩
   | junk=>exact Wj.refl _
open Classical in
def zdf(e:Env)(h:Hp)(a:Act):Hp:=λk=>
 if h k≠none\/∃t,z2f (e t)=true/\a.tmps[t]?=some (z5e k (e t))then some ⟨[],0,(0,0)⟩else none
theorem zxd{e:Env}{h:Hp}{a:Act}{k:Nat}(hk:zdf e h a k=none):h k=none/\∀t,z2f (e t)=true->a.tmps[t]?=some (z5e k (e t))->False:=by
 unfold zdf at hk
 split at hk
 . cases hk
 . rename_i hh
   refine⟨Classical.byContradiction λhx=>hh (.inl hx),λt h1 h2=>hh (.inr ⟨t,h1,h2⟩)⟩
theorem zxe{e:Env}{h:Hp}{a:Act}{k:Nat}(hk:h k≠none\/∃t,z2f (e t)=true/\a.tmps[t]?=some (z5e k (e t))):zdf e h a k≠none:=by
 unfold zdf
 rw[if_pos hk];simp
theorem Rel.rebase{e:Env}{h:Hp}{a:Act}{w:World}(hR:Rel C B e h a w):Rel C ⟨zdf e h a,w,0⟩ e h a w where
 sub:=hR.sub
 sz:=hR.sz
 defers:=hR.defers.mono (Nat.zero_le _) λ_ hr=>hr
 fr:=Fr.refl _ _
 dom:=λk h1 h2=>absurd (zxd h2).1 h1
 vals:=hR.vals
 hid:=λt ht=>by
  obtain⟨h1,b,el,h2,h3,h4,_⟩:=hR.hid t ht
  exact⟨h1,b,el,h2,h3,h4,.inr (zxe (.inr ⟨t,ht,h2⟩))⟩
 inj:=hR.inj
 refs:=hR.refs
 mrs:=hR.mrs
section
variable {e0 e1 : Env} {h0 h1 : Hp} {a0 a1 : Act} {w0 w1 : World}
theorem zme(hR:Rel C B e0 h0 a0 w0){k:Nat}(hk:B.D k=none)(hlt:k<B.w.heap.size):zdf e0 h0 a0 k=none:=by
 cases hh:zdf e0 h0 a0 k with
 | none=>rfl
 | some b=>
   exfalso
   unfold zdf at hh
   split at hh
   . rename_i hx
     rcases hx with hx | ⟨t,h1,h2⟩
     . have:=hR.dom k hx hk;omega
     . obtain⟨_,b',_,h3,_,_,h5⟩:=hR.hid t h1
       rw[h2]at h3
       have:=z9v (Option.some.inj h3)
       subst this
       rcases h5 with h5 | h5
       . omega
       . exact h5 hk
   . cases hh
theorem Rel.unrebase(hR:Rel C B e0 h0 a0 w0)(hR1:Rel C ⟨zdf e0 h0 a0,w0,0⟩ e1 h1 a1 w1){ds:List Deferred}(hd:z4h B.nb w1 ds):Rel C B e1 h1 { a1 with defers:=ds } w1 where
 sub:=hR1.sub
 sz:=hR1.sz
 defers:=hd
 fr:=by
  obtain⟨x1,x2,x3,x4,x5,x6⟩:=hR.fr
  obtain⟨y1,y2,y3,y4,y5,y6⟩:=hR1.fr
  refine⟨Nat.le_trans x1 y1,λk hk hD=>?_,y3.trans x3,y4.trans x4,y5.trans x5,Nat.le_trans x6 y6⟩
  have h3:k<w0.heap.size:=Nat.lt_of_lt_of_le hk x1
  rw[y2 k h3 (zme hR hD hk),x2 k hk hD]
 dom:=λk hk hD=>by
  rcases Nat.lt_or_ge k B.w.heap.size with hlt | hge
  . have h2:=hR1.dom k hk (zme hR hD hlt)
    have h2':w0.heap.size<=k:=h2
    have:=hR.fr.1;omega
  . exact hge
 vals:=hR1.vals
 hid:=λt ht=>by
  obtain⟨g1,b,el,g2,g3,g4,g5⟩:=hR1.hid t ht
  refine⟨g1,b,el,g2,g3,g4,?_⟩
  rcases g5 with g5 | g5
  . exact .inl (Nat.le_trans hR.fr.1 g5)
  . rcases Nat.lt_or_ge b B.w.heap.size with hlt | hge
    . exact .inr λhD=>g5 (zme hR hD hlt)
    . exact .inl hge
 inj:=hR1.inj
 refs:=hR1.refs
 mrs:=hR1.mrs
theorem zb2(hR:Rel C B e0 h0 a0 w0)(hR1:Rel C ⟨zdf e0 h0 a0,w0,0⟩ e1 h1 a1 w1){k:Nat}{o:Obj}(hk:w0.heap[k]?=some o)(ho:¬zi3 o):w1.heap[k]?=some o:=by
 have hlt:k<w0.heap.size:=Xg hk
 have hn:zdf e0 h0 a0 k=none:=by
  cases hh:zdf e0 h0 a0 k with
  | none=>rfl
  | some b=>
    exfalso
    unfold zdf at hh
    split at hh
    . rename_i hx
      rcases hx with hx | ⟨t,h1,h2⟩
      . cases hb:h0 k with
        | none=>exact hx hb
        | some b=>rw[hR.sub k b hb]at hk;cases hk;exact ho trivial
      . obtain⟨_,b',_,h3,h4,_,_⟩:=hR.hid t h1
        rw[h2]at h3
        have:=z9v (Option.some.inj h3)
        subst this
        obtain⟨o',q1,q2⟩:=h4.obj
        rw[q2]at hk;cases hk;exact ho q1
    . cases hh
 rw[hR1.fr.2.1 k hlt hn];exact hk
theorem Rel.putObj(hR:Rel C B e0 h0 a0 w0){l:Nat}{r r':Loop}(hl:B.w.heap.size<=l)(hw:w0.heap[l]?=some (.loop r)):Rel C B e0 h0 a0 (w0.putObj l (Obj.loop r')):=by
 have hne:∀(k:Nat) (o:Obj),w0.heap[k]?=some o->(∀q,o≠Obj.loop q)->(w0.putObj l (Obj.loop r')).heap[k]?=some o:=λk o hk ho=>by
  rw[World.putObj_heap_other (λhh=>by subst hh;rw[hw]at hk;exact ho r (Option.some.inj hk).symm)];exact hk
 refine⟨λk b hb=>hne k _ (hR.sub k b hb) (λq hq=>by cases hq),hR.sz,hR.defers.mono (Nat.le_refl _) (λk hk=>hne k _ hk (λq hq=>by cases hq)),?_,hR.dom,hR.vals,λt ht=>?_,hR.inj,hR.refs,hR.mrs⟩
 . obtain⟨x1,x2,x3,x4,x5,x6⟩:=hR.fr
   refine⟨by rw[World.putObj_size];exact x1,λk hk hD=>?_,x3,x4,x5,x6⟩
   rw[World.putObj_heap_other (by omega)];exact x2 k hk hD
 . obtain⟨g1,b,el,g2,g3,g4,g5⟩:=hR.hid t ht
   exact⟨g1,b,el,g2,g3.mono λo hp hoo=>hne b o hoo (λq hq=>by subst hq;exact hp),g4,g5⟩
theorem Rel.allocObj(hR:Rel C B e0 h0 a0 w0)(o:Obj):Rel C B e0 h0 a0 (w0.alloc o):=
 hR.step (hR.sub.alloc o) (Fr.alloc h0 w0 o) λ_ h1 h2=>absurd h2 h1
theorem Rel.withDefers(hR:Rel C B e0 h0 a0 w0){ds:List Deferred}(hd:z4h B.nb w0 ds):Rel C B e0 h0 { a0 with defers:=ds } w0:=
 ⟨hR.sub,hR.sz,hd,hR.fr,hR.dom,hR.vals,hR.hid,hR.inj,hR.refs,hR.mrs⟩
end
theorem Rel.roundEnd{e e2:Env}{h1 h2:Hp}{a a2:Act}{w1 w2:World}{ms:List Nat}{L:List (Nat×STy)}{s s':z9f L}(hJ:Rel C B (qn e ms L s) h1 a w1)(hE:Rel C B e2 h2 a2 w2)
 (hL:∀q∈L,zm2 q.2=true) (hs:∀t x,Qk L s' t=some x->e2 t=x) (hk:∀t,t∉ms->Wj (qn e ms L s t) (e2 t))
 (ht:∀t,z2f (qn e ms L s t)=true->a2.tmps[t]?=a.tmps[t]?) (hm:z4h B.nb w2 a.defers):Rel C B (qn e ms L s') h2 a w2:=by
 have hbox:∀(L:List (Nat×STy)) (z:z9f L),(∀q∈L,zm2 q.2=true)->∀t y,Qk L z t=some y->∃cs,y=.box cs:=by
  intro L
  induction L with
  | nil=>intro z _ t y hu;cases hu
  | cons p r ih=>
    intro z hb t y hu
    obtain⟨t',sy⟩:=p
    unfold Qk at hu
    by_cases htt:t=t'
    . subst htt;rw[zgo]at hu
      simp only[cond_true,Option.some.injEq]at hu
      have:=hb _ (List.mem_cons_self)
      cases sy with
      | box ls=>exact⟨_,hu.symm⟩
      | _=>cases this
    . rw[z5c htt]at hu;exact ih z.2 (λq hq=>hb q (List.mem_cons_of_mem _ hq)) t y hu
 have hsome:∀(L:List (Nat×STy)) (z z':z9f L) t,(∃y,Qk L z t=some y)->∃y,Qk L z' t=some y:=by
  intro L
  induction L with
  | nil=>intro z z' t ⟨y,hy⟩;cases hy
  | cons p r ih=>
    intro z z' t ⟨y,hy⟩
    obtain⟨t',sy⟩:=p
    unfold Qk at hy |-
    by_cases htt:t=t'
    . subst htt;rw[zgo];exact⟨_,rfl⟩
    . rw[z5c htt]at hy |-;exact ih z.2 z'.2 t ⟨y,hy⟩
 have back:∀t,z2f (qn e ms L s' t)=true->(∃cs cs',qn e ms L s t=.box cs/\qn e ms L s' t=.box cs'/\e2 t=.box cs')\/∃m,qn e ms L s t=.mp m/\qn e ms L s' t=.mp m/\e2 t=.mp m:=by
  intro t hh
  unfold qn at hh |-
  cases hu:Qk L s' t with
  | some y=>
    obtain⟨cs',rfl⟩:=hbox L s' hL t y hu
    obtain⟨y0,hy0⟩:=hsome L s' s t ⟨_,hu⟩
    obtain⟨cs,rfl⟩:=hbox L s hL t y0 hy0
    rw[hy0]
    exact .inl ⟨cs,cs',rfl,rfl,hs t _ hu⟩
  | none=>
    rw[hu]at hh
    have hu0:Qk L s t=none:=by
     cases hx:Qk L s t with
     | none=>rfl
     | some y=>obtain⟨y',hy'⟩:=hsome L s s' t ⟨y,hx⟩;rw[hu]at hy';cases hy'
    rw[hu0]
    simp only at hh |-
    cases hm:Vw t ms with
    | true=>rw[hm]at hh;cases hh
    | false=>
      rw[hm]at hh
      simp only[cond_false]at hh |-
      cases he:e t with
      | box cs=>
        simp only
        refine .inl ⟨cs,cs,rfl,rfl,?_⟩
        have h1:qn e ms L s t=.box cs:=by unfold qn;rw[hu0];simp only[hm,cond_false,he]
        have:=hk t (λhx=>by rw[Qo.2 hx]at hm;cases hm)
        rw[h1]at this
        exact this.1 (.inl ⟨cs,rfl⟩)
      | mp m=>
        simp only
        refine .inr ⟨m,rfl,rfl,?_⟩
        have h1:qn e ms L s t=.mp m:=by unfold qn;rw[hu0];simp only[hm,cond_false,he]
        have:=hk t (λhx=>by rw[Qo.2 hx]at hm;cases hm)
        rw[h1]at this
        exact this.1 (.inr (.inl ⟨m,rfl⟩))
      | _=>rw[he]at hh;cases hh
 refine⟨hE.sub,hJ.sz,hm,hE.fr,hE.dom,λt v hv=>?_,λt hh=>?_,λt t' b i1 i2 i3 i4=>?_,λt off hh=>absurd hh (zok (e':=e2) t off),λt hh=>?_⟩
 . refine hJ.vals t v ?_
   unfold qn at hv |-
   cases hu:Qk L s' t with
   | some y=>rw[hu]at hv;obtain⟨cs,rfl⟩:=hbox L s' hL t y hu;cases hv
   | none=>
     have hu0:Qk L s t=none:=by
      cases hx:Qk L s t with
      | none=>rfl
      | some y=>obtain⟨y',hy'⟩:=hsome L s s' t ⟨y,hx⟩;rw[hu]at hy';cases hy'
     rw[hu]at hv;rw[hu0];exact hv
 . rcases back t hh with ⟨cs,cs',c1,c2,c3⟩ | ⟨m,c1,c2,c3⟩
   . obtain⟨g1,b,el,g2,g3,g4,g5⟩:=hE.hid t (by rw[c3];rfl)
     rw[c3]at g2 g3
     rw[ht t (by rw[c1];rfl)]at g2
     exact⟨g1,b,el,by rw[c2];exact g2,by rw[c2];exact g3,g4,g5⟩
   . obtain⟨g1,b,el,g2,g3,g4,g5⟩:=hE.hid t (by rw[c3];rfl)
     rw[c3]at g2 g3
     rw[ht t (by rw[c1];rfl)]at g2
     exact⟨g1,b,el,by rw[c2];exact g2,by rw[c2];exact g3,g4,g5⟩
 . have key:∀t c,z2f (qn e ms L s' t)=true->a.tmps[t]?=some (z5e c (qn e ms L s' t))->z2f (qn e ms L s t)=true/\a.tmps[t]?=some (z5e c (qn e ms L s t)):=λt c j1 j2=>by
    rcases back t j1 with ⟨cs,cs',c1,c2,c3⟩ | ⟨m,c1,c2,c3⟩
    . rw[c2]at j2;rw[c1];exact⟨rfl,j2⟩
    . rw[c2]at j2;rw[c1];exact⟨rfl,j2⟩
   obtain⟨k1,k2⟩:=key t b i1 i3
   obtain⟨k3,k4⟩:=key t' b i2 i4
   exact hJ.inj t t' b k1 k3 k2 k4
 . refine hJ.mrs t ?_
   unfold qn at hh |-
   cases hu:Qk L s' t with
   | some y=>rw[hu]at hh;obtain⟨cs,rfl⟩:=hbox L s' hL t y hu;cases hh
   | none=>
     have hu0:Qk L s t=none:=by
      cases hx:Qk L s t with
      | none=>rfl
      | some y=>obtain⟨y',hy'⟩:=hsome L s s' t ⟨y,hx⟩;rw[hu]at hy';cases hy'
     rw[hu]at hh;rw[hu0];exact hh
theorem zqg{C:Cfg}{L:List (Nat×STy)}{p0 p1:Nat}{x y:Code}(h:zl2 C L p0 p1 x y=true) :
 (∀q∈L,zm2 q.2=true/\q.1∈Y7 C x++Y7 C y/\q.1∉p0 :: p1 :: (z1g x++z1g y))/\Xb x=true/\Xb y=true/\C.loc p0=false/\C.loc p1=false/\p0<C.n/\p1<C.n/\p0≠p1:=by
 unfold zl2 at h
 simp only[Bool.and_eq_true,List.all_eq_true,Bool.not_eq_true']at h
 obtain⟨⟨⟨⟨⟨⟨⟨h1,h2⟩,h3⟩,h4⟩,h5⟩,h6⟩,h7⟩,h8⟩:=h
 have lt:∀{a b:Nat},Nat.blt a b=true->a<b:=λhh=>by unfold Nat.blt at hh;have:=Nat.le_of_ble_eq_true hh;omega
 refine⟨λq hq=>?_,h2,h3,h4,h5,lt h6,lt h7,λhh=>by rw[hh,zgo]at h8;cases h8⟩
 obtain⟨⟨⟨g1,g2⟩,g3⟩,g4⟩:=h1 q hq
 exact⟨g1,Qo.1 g2,λhm=>by rw[Qo.2 hm]at g3;cases g3⟩
theorem zcf:∀{L:List (Nat×STy)} {s:z9f L} {t:Nat} {y:Slot},Qk L s t=some y->∃q∈L,q.1=t
 | [],_,_,_,h=>by cases h
 | (t',sy) :: r,s,t,y,h=>by
   unfold Qk at h
   by_cases htt:t=t'
   . exact⟨_,List.mem_cons_self,htt.symm⟩
   . rw[z5c htt]at h
     obtain⟨q,h1,h2⟩:=zcf (s:=s.2) h
     exact⟨q,List.mem_cons_of_mem _ h1,h2⟩
theorem z2z{C:Cfg}:∀(c:Code) (t:Nat),t∈z1g c->t∈Y7 C c
 | .region _ ops _,t,h=>by
   unfold z1g at h;unfold Y7
   rw[List.mem_flatMap]at h |-
   obtain⟨o,h1,h2⟩:=h
   refine⟨o,h1,List.mem_append_left _ ?_⟩
   unfold Yh
   exact List.mem_append_left _ (List.mem_append_left _ h2)
 | .seq a b,t,h=>by
   unfold z1g at h;unfold Y7
   rcases List.mem_append.1 h with h | h
   . exact List.mem_append_left _ (z2z a t h)
   . exact List.mem_append_right _ (z2z b t h)
 | .cond _ a b,t,h=>by
   unfold z1g at h;unfold Y7
   rcases List.mem_append.1 h with h | h
   . exact List.mem_append_left _ (z2z a t h)
   . exact List.mem_append_right _ (z2z b t h)
 | .block _ a,t,h=>z2z a t h
 | .loop a,t,h=>z2z a t h
 | .scope a,t,h=>z2z a t h
 | .rangeFunc _ _ _ _,t,h=>by cases h
 | .skip,t,h=>by cases h
 | .exit _,t,h=>by cases h
 | .ret,t,h=>by cases h
 | .label _,t,h=>by cases h
 | .goto _,t,h=>by cases h
 | .refuse ..,t,h=>by cases h
theorem z4h.lt{N:Nat}{w:World}:∀{ds:List Deferred},z4h N w ds->∀d∈ds,d≠{ target:=.collected w.heap.size,args:=#[] }
 | [],_,_,h=>by cases h
 | d :: ds,⟨⟨r,h1,_,h3,_⟩,hm⟩,d',hd=>by
   rcases List.mem_cons.1 hd with rfl | hd
   . intro hh
     rw[h1]at hh
     have:=Xg h3
     simp only[Deferred.mk.injEq,Target.collected.injEq,and_true]at hh
     omega
   . exact z4h.lt hm d' hd
theorem zqh{nn:Nat}(hBk:z1t C.P C.backs)(hmk:B.nb<=B.w.heap.size){x y:Code}
 (hx:Xb x=true->∀(B:Base) (l:Nat) (an:An) (K:Ex->Env->Hp->Prop) (e:Env) (h:Hp) (a:Act) (w:World),B.nb<=B.w.heap.size->den C x an K e h->Rel C B e h a w->x.wpIn (Ye (some l)) nn C.P (Out C B (Y7 C x) (z1g x) a e K) a w)
 (hy:Xb y=true->∀(B:Base) (l:Nat) (an:An) (K:Ex->Env->Hp->Prop) (e:Env) (h:Hp) (a:Act) (w:World),B.nb<=B.w.heap.size->den C y an K e h->Rel C B e h a w->y.wpIn (Ye (some l)) nn C.P (Out C B (Y7 C y) (z1g y) a e K) a w)
 {g:Operand} {p0 p1:Nat} {L:List (Nat×STy)} {b1 b2:An} {K:Ex->Env->Hp->Prop} {e:Env} {h:Hp} {a:Act} {w:World}
 (hk:den C (.rangeFunc g ⟨[p0,p1]⟩ x y) (.back L b1 b2) K e h) (hR:Rel C B e h a w) :
 (Code.rangeFunc g ⟨[p0,p1]⟩ x y).wpIn (Ye none) nn C.P (Out C B (Y7 C (.rangeFunc g ⟨[p0,p1]⟩ x y)) (z1g (.rangeFunc g ⟨[p0,p1]⟩ x y)) a e K) a w:=by
 unfold den at hk
 simp only at hk
 cases hok:zl2 C L p0 p1 x y with
 | false=>rw[hok]at hk;exact hk.elim
 | true=>
   rw[hok]at hk
   simp only at hk
   obtain⟨hL,nx,ny,lp0,lp1,np0,np1,hp01⟩:=zqg hok
   replace hk:=Z6 hR hk
   split at hk
   case h_2=>exact hk.elim
   rename_i gf ad hg
   split at hk
   case h_2=>exact hk.elim
   rename_i T hT
   have hB:=hBk.get gf T hT
   obtain⟨s0,hs0,hbk⟩:=z5q hk
   obtain⟨xs,I,hxl,hI0,hIbox,hIround,hIend⟩:=hbk
   obtain⟨ms,hms⟩:∃ms,ms=[p0,p1]++Y7 C x++Y7 C y:=⟨_,rfl⟩
   rw[<-hms]at hIround hIend
   have hmsC:Y7 C (.rangeFunc g ⟨[p0,p1]⟩ x y)=ms:=by rw[hms];rfl
   rw[hmsC]
   have hk0:Rel C B (qn e ms L s0) h a w:=hR.atMk hs0 (λ_ _=>Wj.refl _)
   have hwB:B.w.heap.size<=w.heap.size:=hR.fr.1
   refine wpIn_rangeFunc λfn hfn=>?_
   obtain⟨rec,hrec⟩:∃rec:LoopState->Option Code->Loop,rec=λst pe=>{ state:=st,pending:=pe,fn,tmps:=a.tmps,params:=⟨[p0,p1]⟩,assign:=x,body:=y,defers:=w.heap.size }:=⟨_,rfl⟩
   obtain⟨W1,hW1⟩:∃W1,(w.alloc (.deferred (some []))).alloc (.loop (rec .ready none))=W1:=⟨_,rfl⟩
   have hL1:W1.heap[w.heap.size+1]?=some (.loop (rec .ready none)):=by
    rw[<-hW1]
    have:=z7o (w:=w.alloc (.deferred (some []))) (o:=.loop (rec .ready none))
    simpa using this
   have hK1:W1.heap[w.heap.size]?=some (.deferred (some [])):=by
    rw[<-hW1,z7p (by simp)];exact z7o
   have hR1:Rel C B (qn e ms L s0) h a W1:=by rw[<-hW1];exact(hk0.allocObj _).allocObj _
   refine⟨w.heap.size+1,[{ target:=.collected w.heap.size,args:=#[] }],W1,{ target:=.fn (.func gf) #[.pointer (some ad)],args:=#[.func (.yield (w.heap.size+1)) #[] #[]] },W1,gf,
    #[.func (.yield (w.heap.size + 1)) #[] #[], .pointer (some ad)], W1, ?_, ?_, ?_, ?_, (fun hh => by cases hh), ?_⟩
   . rw[<-hW1,hrec];exact run_enterLoop_outer _ _ _ _ _
   . have:a.eval g=.func (.func gf) #[] #[.pointer (some ad)]:=hg
     simp only[resolve,this]
     simp[go_sem]
   . intro f' hf';trivial
   . simp[invoke,go_sem,hB.1]
   . refine(callsIn_wide (n:=nn-1)).2 ((callsIn_wide (n:=0)).1 ((hB.2 (w.heap.size+1) ad xs (λi W=>∃s h',I i s h'/\Rel C B (qn e ms L s) h' a W/\W.heap[w.heap.size+1]?=some (.loop (rec .ready none))/\W.heap[w.heap.size]?=some (.deferred (some [])))
      W1 hxl ⟨s0,h,hI0,hR1,hL1,hK1⟩ ?_ ?_).mono ?_))
     . rintro i W ⟨s,h',hI,hR',_,_⟩
       exact hR'.sub.cell (hIbox i s h' hI)
     . rintro i W hi ⟨s,h',hI,hR',hl1,hD1⟩
       obtain⟨ad',v,hxa,hcells,hbody⟩:=hIround i s h' hi hI
       refine⟨ad',v,hxa,λj u hj=>hR'.sub.cell (hcells j u hj),fn,(a.tmps.setIfInBounds p0 (.int .i64 i)).setIfInBounds p1 (T.val v),x,y,?_,?_⟩
       . have:=run_yield (P:=C.P) (args:=#[.int .i64 i,T.val v]) hl1 (by rw[hrec];rfl)
         rw[hrec]at this
         rw[this]
         simp
       . refine zsv (n:=nn) (roundIn_of_wpIn (F:=Fence.wide) trivial ?_)
         have hS:Rel C ⟨zdf (qn e ms L s) h' a,W,0⟩ (((qn e ms L s).set p0 (.val (.int .i64 i))).set p1 (.val (T.val v))) h'
          { tmps:=(a.tmps.setIfInBounds p0 (.int .i64 i)).setIfInBounds p1 (T.val v),defers:=[] } W:=
          ((hR'.rebase.withDefers (ds:=[]) trivial).setVal lp0 np0).setVal lp1 np1
         refine Yn (ro:=some (w.heap.size+1)) ?_ (hx nx _ _ b1 _ _ h' _ W (Nat.zero_le _) hbody hS)
         rintro xx a1 w1 ⟨ex,e1,h1,hm,hK,hRx,hkp1,htk1⟩
         cases xx with
         | normal=>
           cases ex<;>first | (exact hm.elim) | skip
           have notC:∀(q:Loop),¬zi3 (Obj.loop q):=λq hh=>hh
           have notD:∀q,¬zi3 (Obj.deferred q):=λq hh=>hh
           have hm1:z4h B.nb w1 a.defers:=hR'.defers.mono (Nat.le_refl _) λr hr=>zb2 hR' hRx hr (notD _)
           have hl2:=zb2 hR' hRx hl1 (notC _)
           have hD2:=zb2 hR' hRx hD1 (notD _)
           have hB1:Rel C B e1 h1 { a1 with defers:=a.defers } w1:=hR'.unrebase hRx hm1
           refine⟨_,run_beginRound hl2 (by rw[hrec]),?_⟩
           have hB2:=hB1.putObj (r':={ rec .ready none with state:=.busy }) (show B.w.heap.size<=w.heap.size+1 by omega) hl2
           have hS2:=hB2.rebase
           have hma1:z4h 0 (w1.putObj (w.heap.size+1) (Obj.loop { rec .ready none with state:=.busy })) a1.defers:=hRx.defers.mono (Nat.le_refl _) λr hr=>by
            rw[World.putObj_heap_other (λhh=>by rw[hh,hl2]at hr;cases hr)];exact hr
           have hS3:=hS2.withDefers hma1
           refine Yn (ro:=some (w.heap.size+1)) ?_ (hy ny _ _ b2 _ _ h1 a1 _ (Nat.zero_le _) hK hS3)
           rintro xx a2 w2 ⟨ex,e2,h2,hm,hK,hRy,hkp2,htk2⟩
           have hl3:=zb2 hB2 hRy (World.putObj_heap_same (Xg hl2)) (notC _)
           have hD3:=zb2 hB2 hRy ((World.putObj_heap_other (by omega)).trans hD2) (notD _)
           cases xx with
           | normal=>
             cases ex<;>first | (exact hm.elim) | skip
             obtain⟨s',hs',hI'⟩:=z5q hK
             have hm2:z4h B.nb w2 a.defers:=hB2.defers.mono (Nat.le_refl _) λr hr=>zb2 hB2 hRy hr (notD _)
             have hE:=hB2.unrebase hRy hm2
             refine⟨_,_,run_endRound none hl3,rfl,s',h2,hI',?_,?_,?_⟩
             . refine(hR'.roundEnd hE (λq hq=>(hL q hq).1) hs' (λt ht=>?_) (λt ht=>?_) hm2).putObj (by omega) hl3
               . have t0:t≠p0:=λhh=>ht (by rw[hms,hh];simp)
                 have t1:t≠p1:=λhh=>ht (by rw[hms,hh];simp)
                 have tx:t∉Y7 C x:=λhh=>ht (by rw[hms];simp[hh])
                 have ty:t∉Y7 C y:=λhh=>ht (by rw[hms];simp[hh])
                 have:=(hkp1 t tx).trans (hkp2 t ty)
                 rw[Env.set_ne t1,Env.set_ne t0]at this
                 exact this
               . have hnot:t∉p0 :: p1 :: (z1g x++z1g y):=by
                  intro hmem
                  cases hu:Qk L s t with
                  | some z=>
                    obtain⟨q,hq,hqt⟩:=zcf hu
                    exact(hL q hq).2.2 (by rw[hqt];exact hmem)
                  | none=>
                    have hmem2:t∈ms:=by
                     rw[hms]
                     simp only[List.mem_cons,List.mem_append]at hmem
                     rcases hmem with rfl | rfl | hmem | hmem
                     . simp
                     . simp
                     . simp[z2z x t hmem]
                     . simp[z2z y t hmem]
                    unfold qn at ht
                    rw[hu]at ht
                    simp only[Qo.2 hmem2,cond_true]at ht
                    cases ht
                 simp only[List.mem_cons,List.mem_append,not_or]at hnot
                 obtain⟨n0,n1,n2,n3⟩:=hnot
                 rw[htk2 t n3,htk1 t n2]
                 simp only
                 rw[Array.getElem?_setIfInBounds_ne (Ne.symm n1),Array.getElem?_setIfInBounds_ne (Ne.symm n0)]
             . rw[World.putObj_heap_same (Xg hl3),hrec];rfl
             . exact(World.putObj_heap_other (by omega)).trans hD3
           | _=>
             cases ex<;>first | (exact hm.elim) | (exact hK.elim)
         | _=>
           cases ex<;>first | (exact hm.elim) | (exact hK.elim)
     . rintro e' W2 ⟨⟨v,rfl⟩,s,h',hI,hR',hl,hD⟩
       refine⟨none,_,by have:=run_endLoop (P:=C.P) hl (by rw[hrec];simp);rw[hrec]at this;exact this,?_⟩
       have hRp:=hR'.putObj (r':={ rec .ready none with state:=.exhausted }) (show B.w.heap.size<=w.heap.size+1 by omega) hl
       rw[hrec]at hRp
       refine⟨.normal,qn e ms L s,h',trivial,hIend s h' hI,hRp.withDefers ⟨⟨w.heap.size,rfl,by omega,(World.putObj_heap_other (by omega)).trans hD,λd' hd'=>hR.defers.lt d' hd'⟩,hRp.defers⟩,λt ht=>?_,λt _=>rfl⟩
       exact zg7 (e':=qn e ms L s) (λt y hu=>by unfold qn;rw[hu]) (λt ht=>by
        unfold qn
        cases hu:Qk L s t with
        | some z=>
          exfalso
          obtain⟨q,hq,hqt⟩:=zcf hu
          exact ht (by rw[hms,<-hqt];have:=(hL q hq).2.1;rcases List.mem_append.1 this with h1 | h1<;>simp[h1])
        | none=>
          simp only
          have:Vw t ms=false:=by
           cases hm:Vw t ms with
           | false=>rfl
           | true=>exact absurd (Qo.1 hm) ht
          rw[this]
          simp only[cond_false]
          cases he:e t with
          | val v=>exact Wj.refl _
          | box cs=>exact Wj.refl _
          | lit cs n=>exact⟨(λhh=>by rcases hh with ⟨_,hh⟩ | ⟨_,hh⟩ | hh<;>cases hh),(λv hv=>by cases hv)⟩
          | mp m=>exact Wj.refl _
          | mr=>exact Wj.refl _
          | ref off=>exact⟨(λhh=>by rcases hh with ⟨_,hh⟩ | ⟨_,hh⟩ | hh<;>cases hh),(λv hv=>by cases hv)⟩
          | junk=>exact Wj.refl _) ht
theorem Rel.pub{e:Env}{h:Hp}{a:Act}{w:World}(hR:Rel C B e h a w){d:Nat}{cs:List Value}(hd:e d=.box cs){K:Addr->Hp->Prop}(hk:Yo cs K h) :
 ∃b h',K ⟨b,0,none⟩ h'/\Rel C B (e.alloc C.rt d (.val (.pointer (some ⟨b,0,none⟩)))) h' a w:=by
 obtain⟨g1,b,el,g2,g3,g4,g5⟩:=hR.hid d (by rw[hd];rfl)
 rw[hd]at g2 g3
 have hb:∀t,z2f (e.alloc C.rt d (.val (.pointer (some ⟨b,0,none⟩))) t)=true->t≠d/\e.alloc C.rt d (.val (.pointer (some ⟨b,0,none⟩))) t=e t:=λt ht=>by
  have hn:t≠d:=λhh=>by subst hh;rw[Env.alloc_same]at ht;cases ht
  refine⟨hn,Env.alloc_ne hn λo ho=>?_⟩
  unfold Env.alloc at ht
  rw[z5c hn]at ht
  simp only[cond_false,ho]at ht
  cases hr:Nat.beq (C.rt t) d<;>rw[hr]at ht<;>cases ht
 refine⟨b,_,hk b el g4,⟨?_,hR.sz,hR.defers,hR.fr,?_,?_,?_,?_,?_,?_⟩⟩
 . intro k c hc
   by_cases hkb:k=b
   . subst hkb
     rw[Hp.ins_same]at hc;cases hc
     exact g3
   . rw[Hp.ins_ne hkb]at hc;exact hR.sub k c hc
 . intro k h1 h2
   by_cases hkb:k=b
   . subst hkb
     rcases g5 with g5 | g5
     . exact g5
     . exact absurd h2 g5
   . rw[Hp.ins_ne hkb]at h1;exact hR.dom k h1 h2
 . intro t v ht
   by_cases hn:t=d
   . subst hn
     rw[Env.alloc_same]at ht;cases ht
     exact g2
   . exact hR.vals t v (Env.alloc_val hn ht (by intro hh;cases hh)).1
 . intro t ht
   obtain⟨hn,he⟩:=hb t ht
   rw[he]at ht |-
   obtain⟨k1,b',el',k2,k3,k4,k5⟩:=hR.hid t ht
   refine⟨k1,b',el',k2,k3,?_,k5⟩
   have hbb:b'≠b:=λhh=>by
    subst hh
    exact hn (hR.inj t d b' ht (by rw[hd];rfl) k2 (by rw[hd];exact g2))
   rw[Hp.ins_ne hbb];exact k4
 . intro t t' b' i1 i2 i3 i4
   obtain⟨_,e1⟩:=hb t i1
   obtain⟨_,e2⟩:=hb t' i2
   rw[e1]at i1 i3;rw[e2]at i2 i4
   exact hR.inj t t' b' i1 i2 i3 i4
 . intro t off ht
   have hn:t≠d:=λhh=>by subst hh;rw[Env.alloc_same]at ht;cases ht
   obtain⟨h1,h2⟩:=Env.alloc_val hn ht (by intro hh;cases hh)
   obtain⟨cs',b',k1,k2,k3⟩:=hR.refs t off h1
   refine⟨cs',b',?_,k2,k3⟩
   rw[Env.alloc_ne (h2 off rfl) (by intro o ho;rw[k1]at ho;cases ho)];exact k1
 . intro t ht
   have hn:t≠d:=λhh=>by subst hh;rw[Env.alloc_same]at ht;cases ht
   exact hR.mrs t (Env.alloc_val hn ht (by intro hh;cases hh)).1
theorem zox:∀{L:List Nat} {K:Env->Hp->Prop} {e:Env} {h:Hp} {a:Act} {w:World},Rel C B e h a w->Z94 C L K e h ->
 ∃e' h',K e' h'/\Rel C B e' h' a w/\∀t,t∉L->Wj (e t) (e' t)
 | [],K,e,h,a,w,hR,hk=>⟨e,h,hk,hR,λ_ _=>Wj.refl _⟩
 | d :: r,K,e,h,a,w,hR,hk=>by
   unfold Z94 at hk
   split at hk
   . rename_i cs hd
     obtain⟨b,h',hk2,hR2⟩:=hR.pub hd hk
     obtain⟨e2,h2,k1,k2,k3⟩:=zox hR2 hk2
     refine⟨e2,h2,k1,k2,λt ht=>?_⟩
     have hn:t≠d:=λhh=>ht (by rw[hh];exact List.mem_cons_self)
     refine Wj.trans ?_ (k3 t λhh=>ht (List.mem_cons_of_mem _ hh))
     refine⟨λhb=>?_,λv hv=>?_⟩
     . rcases hb with ⟨cs',hc⟩ | ⟨m,hc⟩ | hc
       . exact Env.alloc_ne hn λo ho=>by rw[hc]at ho;cases ho
       . exact Env.alloc_ne hn λo ho=>by rw[hc]at ho;cases ho
       . exact Env.alloc_ne hn λo ho=>by rw[hc]at ho;cases ho
     . rw[Env.alloc_ne hn λo ho=>by rw[hv]at ho;cases ho];exact hv
   . exact hk.elim
theorem zvy(hC:CfgOK C)(hBk:z1t C.P C.backs):∀(c:Code) (ro:Option Nat) (B:Base) (an:An) (K:Ex->Env->Hp->Prop) (e:Env) (h:Hp) (a:Act) (w:World),(ro=none\/Xb c=true)->B.nb<=B.w.heap.size->den C c an K e h->Rel C B e h a w ->
 c.wpIn (Ye ro) nn C.P (Out C B (Y7 C c) (z1g c) a e K) a w:=by
 intro c
 induction c with
 | skip=>intro ro B an K e h a w hro hmk hk hR;exact wpIn_skip ⟨.normal,e,h,trivial,(by cases an<;>exact hk),hR,λ_ _=>Wj.refl _,λ_ _=>rfl⟩
 | exit j=>intro ro B an K e h a w hro hmk hk hR;exact wpIn_exit ⟨.exit j,e,h,rfl,(by cases an<;>exact hk),hR,λ_ _=>Wj.refl _,λ_ _=>rfl⟩
 | ret=>intro ro B an K e h a w hro hmk hk hR;exact wpIn_ret ⟨.ret,e,h,trivial,(by cases an<;>exact hk),hR,λ_ _=>Wj.refl _,λ_ _=>rfl⟩
 | region id ops draw=>
   intro ro B an K e h a w hro hmk hk hR
   have hdst:∀(i:Nat) (o:Oper),ops[i]?=some o->∀d,o.dst=some d->d∈z1g (.region id ops draw):=λi o hi d hd=>by
    unfold z1g
    rw[List.mem_flatMap]
    exact⟨o,by have:=Array.mem_of_getElem? hi;simpa using this,by rw[hd];simp⟩
   have hms:∀(i:Nat) (o:Oper),ops[i]?=some o->∀d∈Yh C o,d∈Y7 C (.region id ops draw):=λi o hi d hd=>by
    unfold Y7
    rw[List.mem_flatMap]
    exact⟨o,by have:=Array.mem_of_getElem? hi;simpa using this,List.mem_append_left _ hd⟩
   have hQ:∀x a' w',zhj (z1g (.region id ops draw)) a (zgg C B (Y7 C (.region id ops draw)) e (K .normal)) x a' w'->Out C B (Y7 C (.region id ops draw)) (z1g (.region id ops draw)) a e K x a' w':=by
    rintro x a' w' ⟨⟨rfl,e',h',h1,h2,h3⟩,h4⟩
    exact⟨.normal,e',h',trivial,h1,h2,h3,h4 rfl⟩
   cases draw with
   | false=>
     have hk':Wm C ops (K .normal) (List.range ops.size) e h:=by cases an<;>exact hk
     exact Yn hQ (wpIn_region (zdq hdst (λ_ _=>rfl) (zh0 hC.tab hms (λ_ _ _ hh=>hh) hR hk')))
   | true=>
     have drawn:∀(order:List Nat) (K0:Env->Hp->Prop),zan C ops order=true->Wm C ops K0 order e h ->
      (Code.region id ops true).wpIn (Ye ro) nn C.P (zhj (z1g (.region id ops true)) a (zgg C B (Y7 C (.region id ops true)) e K0)) a w:=by
      intro order K0 hck hk
      unfold zan at hck
      simp only[Bool.and_eq_true]at hck
      obtain⟨⟨⟨⟨⟨⟨hm,hb⟩,hlen⟩,hnd⟩,hlt⟩,hall⟩,hp⟩:=hck
      have hback:∀(i:Nat) (o:Oper),ops[i]?=some o->∀e∈o.after.toList,Region.binds .any e=true->e.on<i:=λi o hi ed hed hbd=>by
       unfold zat at hb
       rw[List.all_eq_true]at hb
       have his:i<ops.size:=by
        rcases Nat.lt_or_ge i ops.size with h1 | h1
        . exact h1
        . rw[Array.getElem?_eq_none h1]at hi;cases hi
       have:=hb i (List.mem_range.2 his)
       rw[hi]at this
       simp only[List.all_eq_true]at this
       have:=this ed hed
       rw[hbd]at this
       simp only[Bool.not_true,Bool.false_or]at this
       unfold Nat.blt at this
       have:=Nat.le_of_ble_eq_true this
       omega
      have nd:∀{l:List Nat},zc6 l=true->l.Nodup:=by
       intro l
       induction l with
       | nil=>intro _;exact List.nodup_nil
       | cons x r ih=>
         intro hh
         simp only[zc6,Bool.and_eq_true]at hh
         refine List.nodup_cons.2 ⟨λhm=>?_,ih hh.2⟩
         rw[Qo.2 hm]at hh;simp at hh
      have hltN:∀i∈order,i<ops.size:=λi hi=>by
       have:=(List.all_eq_true.1 hlt) i hi
       unfold Nat.blt at this
       have:=Nat.le_of_ble_eq_true this
       omega
      replace hlen:order.length<=ops.size:=Nat.le_of_ble_eq_true hlen
      refine(wpIn_region_any hm (z94 hdst (λ_ _=>rfl) (zh1 hC hms (λ_ _ _ hh=>hh) hback ops.size order (Array.replicate ops.size false) e h a _ hlen (by simp) (nd hnd) (λi hi=>?_) hltN (λi o hi hl=>?_) hp
       (λ_ _=>Wj.refl _) hk hR.drew)))
      . have h1:(Array.replicate ops.size false).getD i false=false:=by
         rw[Array.getD_eq_getD_getElem?];simp[hi]
        have h2:=Qo.1 ((List.all_eq_true.1 hall) i (List.mem_range.2 hi))
        exact⟨λ_=>h2,λ_=>h1⟩
      . have h1:(Array.replicate ops.size false).getD i false=false:=by
         rw[Array.getD_eq_getD_getElem?]
         by_cases hi':i<ops.size<;>simp[hi']
        rw[h1]at hl;cases hl
     cases an with
     | draw order=>
       unfold den at hk
       split at hk
       . rename_i hck
         exact Yn hQ (drawn order _ hck hk)
       . exact hk.elim
     | drawP order pubs=>
       unfold den at hk
       split at hk
       . rename_i hck
         obtain⟨hc1,hc2⟩:=Bool.and_eq_true_iff.1 hck
         refine Yn ?_ (drawn order _ hc1 hk)
         rintro x a' w' ⟨⟨rfl,e',h',h1,h2,h3⟩,h4⟩
         obtain⟨e2,h5,k1,k2,k3⟩:=zox h2 h1
         refine⟨.normal,e2,h5,trivial,k1,k2,λt ht=>(h3 t ht).trans (k3 t λhm=>ht ?_),h4 rfl⟩
         exact Qo.1 ((List.all_eq_true.1 hc2) t hm)
       . exact hk.elim
     | drawC p b q as=>
       unfold den at hk
       split at hk
       . rename_i hck
         unfold zgq at hck
         simp only[Bool.and_eq_true]at hck
         obtain⟨⟨⟨⟨⟨⟨⟨⟨⟨⟨⟨hm,hb⟩,hlen⟩,hnd⟩,hlt⟩,hall⟩,hp⟩,hq⟩,hpb⟩,hcl⟩,hld⟩,hsome⟩:=hck
         obtain⟨ob,hob⟩:=Option.isSome_iff_exists.1 hsome
         have hback:∀(i:Nat) (o:Oper),ops[i]?=some o->∀e∈o.after.toList,Region.binds .any e=true->e.on<i:=λi o hi ed hed hbd=>by
          unfold zat at hb
          rw[List.all_eq_true]at hb
          have his:i<ops.size:=by
           rcases Nat.lt_or_ge i ops.size with h1 | h1
           . exact h1
           . rw[Array.getElem?_eq_none h1]at hi;cases hi
          have:=hb i (List.mem_range.2 his)
          rw[hi]at this
          simp only[List.all_eq_true]at this
          have:=this ed hed
          rw[hbd]at this
          simp only[Bool.not_true,Bool.false_or]at this
          unfold Nat.blt at this
          have:=Nat.le_of_ble_eq_true this
          omega
         have nd:∀{l:List Nat},zc6 l=true->l.Nodup:=by
          intro l
          induction l with
          | nil=>intro _;exact List.nodup_nil
          | cons x r ih=>
            intro hh
            simp only[zc6,Bool.and_eq_true]at hh
            refine List.nodup_cons.2 ⟨λhm=>?_,ih hh.2⟩
            rw[Qo.2 hm]at hh;simp at hh
         have hltN:∀i∈p++b :: q,i<ops.size:=λi hi=>by
          have:=(List.all_eq_true.1 hlt) i hi
          unfold Nat.blt at this
          have:=Nat.le_of_ble_eq_true this
          omega
         have hlen:(p++b :: q).length<=ops.size:=Nat.le_of_ble_eq_true hlen
         refine Yn hQ (wpIn_region_any hm (z94 hdst (λ_ _=>rfl) (zns hC hob (λa ha oa hoa=>?_) hms (λ_ _ _ hh=>hh) hback ops.size p (Array.replicate ops.size false) e h a _ hlen (by simp) (nd hnd) (λi hi=>?_) hltN (λi o hi hl=>?_) hp
          (List.all_eq_true.1 hq) (λx hx=>?_) (znj hcl) (λ_ _=>Wj.refl _) hk hR.drew)))
         . have:=(List.all_eq_true.1 hld) a ha
           rw[hoa]at this
           simp only at this
           cases hc:Wx C oa with
           | load=>rfl
           | _=>rw[hc]at this;cases this
         . have h1:(Array.replicate ops.size false).getD i false=false:=by
            rw[Array.getD_eq_getD_getElem?];simp[hi]
           have h2:=Qo.1 ((List.all_eq_true.1 hall) i (List.mem_range.2 hi))
           exact⟨λ_=>h2,λ_=>h1⟩
         . have h1:(Array.replicate ops.size false).getD i false=false:=by
            rw[Array.getD_eq_getD_getElem?]
            by_cases hi':i<ops.size<;>simp[hi']
           rw[h1]at hl;cases hl
         . have:=(List.all_eq_true.1 hpb) x hx
           rw[Bool.or_eq_true,Bool.and_eq_true]at this
           exact this
       . exact hk.elim
     | _=>exact hk.elim
 | seq x y ihx ihy=>
   intro ro B an K e h a w hro hmk hk hR
   have rx:ro=none\/Xb x=true:=hro.imp id λhh=>by unfold Xb at hh;exact(Bool.and_eq_true_iff.1 hh).1
   have ry:ro=none\/Xb y=true:=hro.imp id λhh=>by unfold Xb at hh;exact(Bool.and_eq_true_iff.1 hh).2
   have tail:∀(Kx:Ex->Env->Hp->Prop),x.wpIn (Ye ro) nn C.P (Out C B (Y7 C x) (z1g x) a e Kx) a w ->
    (∀e' h' a' w',Kx .normal e' h'->Rel C B e' h' a' w'->(∀t,t∉Y7 C x->Wj (e t) (e' t))->(∀t,t∉z1g x->a'.tmps[t]?=a.tmps[t]?)->y.wpIn (Ye ro) nn C.P (Out C B (Y7 C (.seq x y)) (z1g (.seq x y)) a e K) a' w') ->
    (∀ex e' h',ex≠.normal->Kx ex e' h'->K ex e' h')->(Code.seq x y).wpIn (Ye ro) nn C.P (Out C B (Y7 C (.seq x y)) (z1g (.seq x y)) a e K) a w:=by
    intro Kx hx hn ho
    refine wpIn_seq (Yn ?_ hx)
    rintro xx a' w' ⟨ex,e',h',hm,hK,hR',hkp,htk⟩
    cases xx with
    | normal=>
      cases ex<;>first | (exact hm.elim) | skip
      exact hn e' h' a' w' hK hR' hkp htk
    | _=>
      cases ex<;>first | (exact hm.elim) | skip
      all_goals exact⟨_,e',h',hm,ho _ _ _ (by simp) hK,hR',(λt ht=>hkp t λhh=>ht (List.mem_append_left _ hh)),λt ht=>htk t λhh=>ht (List.mem_append_left _ hh)⟩
   cases an with
   | seq a1 a2=>
     unfold den at hk
     refine tail _ (ihx ro B a1 _ e h a w rx hmk hk hR) ?_ ?_
     . intro e' h' a' w' hK hR' hkp htk
       refine Yn ?_ (ihy ro B a2 K e' h' a' w' ry hmk hK hR')
       rintro xx a'' w'' ⟨ex,e'',h'',hm,hK,hR'',hkp',htk'⟩
       exact⟨ex,e'',h'',hm,hK,hR'',(λt ht=>(hkp t λhh=>ht (List.mem_append_left _ hh)).trans (hkp' t λhh=>ht (List.mem_append_right _ hh))),
        λt ht=>(htk' t λhh=>ht (List.mem_append_right _ hh)).trans (htk t λhh=>ht (List.mem_append_left _ hh))⟩
     . intro ex e' h' hne hK
       cases ex<;>first | (exact absurd rfl hne) | exact hK
   | join L a1 a2=>
     unfold den at hk
     obtain⟨J,hJ,hx⟩:=hk
     refine tail _ (ihx ro B a1 _ e h a w rx hmk hx hR) ?_ ?_
     . intro e' h' a' w' hK hR' hkp htk
       obtain⟨s,hs,hJs⟩:=z5q hK
       refine Yn ?_ (ihy ro B a2 K _ h' a' w' ry hmk (hJ s h' hJs) (hR'.atMk hs hkp))
       rintro xx a'' w'' ⟨ex,e'',h'',hm,hK,hR'',hkp',htk'⟩
       exact⟨ex,e'',h'',hm,hK,hR'',(λt ht=>(zg7 hs hkp λhh=>ht (List.mem_append_left _ hh)).trans (hkp' t λhh=>ht (List.mem_append_right _ hh))),
        λt ht=>(htk' t λhh=>ht (List.mem_append_right _ hh)).trans (htk t λhh=>ht (List.mem_append_left _ hh))⟩
     . intro ex e' h' hne hK
       cases ex<;>first | (exact absurd rfl hne) | exact hK
   | _=>exact hk.elim
 | cond c x y ihx ihy=>
   intro ro B an K e h a w hro hmk hk hR
   cases an with
   | cond a1 a2=>
     unfold den at hk
     replace hk:=Z6 hR hk
     split at hk
     . rename_i t ht
       refine wpIn_cond ht ?_
       cases t with
       | true=>
         refine Yn ?_ (ihx ro B a1 K e h a w (hro.imp id λhh=>by unfold Xb at hh;exact(Bool.and_eq_true_iff.1 hh).1) hmk hk hR)
         rintro xx a' w' ⟨ex,e',h',hm,hK,hR',hkp,htk⟩
         exact⟨ex,e',h',hm,hK,hR',(λt ht=>hkp t λhh=>ht (List.mem_append_left _ hh)),λt ht=>htk t λhh=>ht (List.mem_append_left _ hh)⟩
       | false=>
         refine Yn ?_ (ihy ro B a2 K e h a w (hro.imp id λhh=>by unfold Xb at hh;exact(Bool.and_eq_true_iff.1 hh).2) hmk hk hR)
         rintro xx a' w' ⟨ex,e',h',hm,hK,hR',hkp,htk⟩
         exact⟨ex,e',h',hm,hK,hR',(λt ht=>hkp t λhh=>ht (List.mem_append_right _ hh)),λt ht=>htk t λhh=>ht (List.mem_append_right _ hh)⟩
     . exact hk.elim
   | _=>exact hk.elim
 | block id x ih=>
   intro ro B an K e h a w hro hmk hk hR
   cases an with
   | block a1=>
     unfold den at hk
     refine wpIn_block (Yn ?_ (ih ro B a1 _ e h a w (hro.imp (λhh=>hh) λhh=>hh) hmk hk hR))
     rintro xx a' w' ⟨ex,e',h',hm,hK,hR',hkp,htk⟩
     cases xx with
     | exit j=>
       cases ex<;>first | (exact hm.elim) | skip
       rename_i i
       have hij:i=j:=hm
       subst hij
       simp only[Exit.inBlock]
       by_cases hi:i=id
       . subst hi
         simp only[zgo]at hK
         rw[if_pos rfl]
         exact⟨.normal,e',h',trivial,hK,hR',hkp,htk⟩
       . simp only[z5c hi]at hK
         rw[if_neg hi]
         exact⟨.exit i,e',h',rfl,hK,hR',hkp,htk⟩
     | _=>
       cases ex<;>first | (exact hm.elim) | skip
       all_goals exact⟨_,e',h',hm,hK,hR',hkp,htk⟩
   | _=>exact hk.elim
 | loop x ih=>
   intro ro B an K e h a w hro hmk hk hR
   cases an with
   | loop L a1=>
     unfold den at hk
     obtain⟨s0,hs0,hl⟩:=z5q hk
     obtain⟨I,μ,hI0,hround⟩:=hl
     refine zy1 (σ:=z9f L×Hp) (λp a' w=>I p.1 p.2/\Rel C B (qn e (Y7 C x) L p.1) p.2 a' w/\(∀t,t∉Y7 C x->Wj (e t) (qn e (Y7 C x) L p.1 t))/\∀t,t∉z1g x->a'.tmps[t]?=a.tmps[t]?) (λp=>μ p.1 p.2)
      ?_ (s:=(s0,h)) ⟨hI0,hR.atMk hs0 (λ_ _=>Wj.refl _),(λt ht=>zg7 hs0 (λ_ _=>Wj.refl _) ht),λ_ _=>rfl⟩
     rintro⟨s,h1⟩ a' w' ⟨hI,hR',hkp0,htk0⟩
     refine Yn ?_ (ih ro B a1 _ _ h1 a' w' (hro.imp id λhh=>hh) hmk (hround s h1 hI) hR')
     rintro xx a'' w'' ⟨ex,e'',h'',hm,hK,hR'',hkp,htk⟩
     have htk2:∀t,t∉z1g x->a''.tmps[t]?=a.tmps[t]?:=λt ht=>(htk t ht).trans (htk0 t ht)
     have hkp2:∀t,t∉Y7 C x->Wj (e t) (e'' t):=λt ht=>(hkp0 t ht).trans (hkp t ht)
     cases xx with
     | normal=>
       cases ex<;>first | (exact hm.elim) | skip
       obtain⟨s',hs',hI',hlt⟩:=z5q hK
       exact⟨(s',h''),⟨hI',hR''.atMk hs' hkp2,(λt ht=>zg7 hs' hkp2 ht),htk2⟩,hlt⟩
     | _=>
       cases ex<;>first | (exact hm.elim) | skip
       all_goals exact⟨_,e'',h'',hm,hK,hR'',hkp2,htk2⟩
   | _=>exact hk.elim
 | rangeFunc g ps x y ihx ihy=>
   intro ro B an K e h a w hro hmk hk hR
   have hro':ro=none:=hro.resolve_right (by unfold Xb;decide)
   subst hro'
   obtain⟨pl⟩:=ps
   match pl,an,hk with
   | [p0,p1],.back L b1 b2,hk=>
     exact zqh hBk hmk (λnx B l an K e h a w hm hk hR=>ihx (some l) B an K e h a w (.inr nx) hm hk hR) (λny B l an K e h a w hm hk hR=>ihy (some l) B an K e h a w (.inr ny) hm hk hR) hk hR
 | _=>intro ro B an K e h a w hro hmk hk hR;cases an<;>exact hk.elim
def zmf(tmps:Array Value):ResultVar->Sem Value
 | .tmp t=>Pure.pure (tmps.getD t undef)
 | .cell ad t=>do loadVar t (<-asAddr (tmps.getD ad undef))
theorem Z51{rs:List ResultVar}{e:Env}{h:Hp}{a:Act}{w:World}(hR:Rel C B e h a w):∀{K:List Value->Prop},zsr C rs e K ->
 ∃vs,K vs/\(rs.mapM (zmf a.tmps)).run C.P w=.ok vs w:=by
 induction rs with
 | nil=>intro K hk;exact⟨[],hk,by simp⟩
 | cons r rs ih=>
   intro K hk
   cases r with
   | tmp t=>
     unfold zsr at hk
     split at hk
     . rename_i v hv
       obtain⟨vs,h1,h2⟩:=ih hk
       refine⟨v :: vs,h1,?_⟩
       have:a.tmps.getD t undef=v:=by rw[Array.getD_eq_getD_getElem?,hR.vals t v hv];rfl
       simp only[List.mapM_cons,Sem.run_bind,zmf,this,Sem.run_pure,Result.andThen_ok,h2]
     . exact hk.elim
   | cell t ty=>
     unfold zsr at hk
     split at hk
     . rename_i cs hb
       obtain⟨b,el,h3,h4⟩:∃b el,a.tmps[t]?=some (.pointer (some ⟨b,0,none⟩))/\w.heap[b]?=some (.cells cs.toArray el (0,0)):=by
        obtain⟨_,b,el,h1,h2,_,_⟩:=hR.hid t (by rw[hb];rfl)
        rw[hb]at h1 h2
        exact⟨b,el,h1,h2⟩
       obtain⟨v,hv,hrun⟩:=zc8 (P:=C.P) h4 hk
       obtain⟨vs,h1,h2⟩:=ih hv
       refine⟨v :: vs,h1,?_⟩
       have:a.tmps.getD t undef=.pointer (some ⟨b,0,none⟩):=by rw[Array.getD_eq_getD_getElem?,h3];rfl
       simp only[List.mapM_cons,Sem.run_bind,zmf,this,asAddr,Sem.run_pure,Result.andThen_ok,hrun,h2]
     . exact hk.elim
theorem Z3x(hC:CfgOK C)(hBk:z1t C.P C.backs){g:FuncId}{fn:Func}{c:Code}{an:An}(hf:C.P.funcs[g]?=some fn)(hb:fn.body=some c)(hn:fn.ntmps=C.n)
 {args:List Value} (ha:args.length<=C.n) {K:Value->Hp->Prop} {D:Hp} {w:World} (hs:Sub D w) (hk:zqz C fn c an args K D):Calls C.P g args.toArray w (z5w K D w):=by
 refine(callsIn_wide (n:=0)).1 (callsIn_of_wp_marks hf hb trivial ?_)
 have hR:Rel C ⟨D,w,w.heap.size⟩ (zs2 args) D { tmps:=args.toArray++Array.replicate (fn.ntmps-args.toArray.size) undef,defers:=[] } w:=by
  have hb:∀t,z2f (zs2 args t)=true->False:=λt ht=>by unfold zs2 at ht;split at ht<;>cases ht
  refine⟨hs,by simp[hn];omega,trivial,Fr.refl D w,λk h1 h2=>absurd h2 h1,λt v hv=>?_,λt ht=>(hb t ht).elim,λt t' b ht=>(hb t ht).elim,λt off ht=>?_,λt ht=>?_⟩
  . unfold zs2 at hv
    split at hv
    . rename_i u hu
      cases hv
      have hlt:t<args.length:=by
       rcases Nat.lt_or_ge t args.length with h1 | h1
       . exact h1
       . rw[List.getElem?_eq_none h1]at hu;cases hu
      simp only
      rw[Array.getElem?_append_left (by simpa using hlt)]
      simpa using hu
    . cases hv
  . unfold zs2 at ht;split at ht<;>cases ht
  . unfold zs2 at ht;split at ht<;>cases ht
 unfold zqz at hk
 refine Yn (ro:=none) ?_ (zvy hC hBk c none _ an _ _ D _ w (.inl rfl) (Nat.le_refl _) hk hR)
 rintro x a' w' ⟨ex,e',h',hm,hK,hR',_,_⟩
 have fin:∀(ds:List Deferred) (w1:World),Rel C ⟨D,w,w.heap.size⟩ e' h' { a' with defers:=ds } w1->zsr C fn.results.toList e' (λvs=>K (Z52 vs) h')->LeavesInM Fence.wide 0 C.P fn a'.tmps (z5w K D w) ds .returning w1:=by
  intro ds
  induction ds with
  | nil=>
    intro w1 hR1 hh
    obtain⟨vs,h1,h2⟩:=Z51 hR1 hh
    refine⟨Z52 vs,?_,Z52 vs,h',rfl,h1,hR1.sub,hR1.fr,hR1.dom⟩
    have hres:results fn a'.tmps=(do
     let vs <-fn.results.mapM (zmf a'.tmps)
     Pure.pure (if h:vs.size=1 then vs[0]else .tuple vs)):=rfl
    rw[hres,Sem.run_bind,Array.mapM_eq_mapM_toList,Sem.run_map,h2]
    simp only[Result.andThen_ok,Sem.run_pure]
    congr 1
    match vs with
    | []=>rfl
    | [v]=>rfl
    | u :: v :: r=>simp[Z52]
  | cons d ds ih=>
    intro w1 hR1 hh
    obtain⟨⟨r,hd,hr1,hr2,hr3⟩,hms⟩:=hR1.defers
    refine⟨by simp,.inl ⟨r,_,by rw[hd],run_takeDeferred hr2,ih _ ?_ hh⟩⟩
    have hne:∀(k:Nat) (o:Obj),w1.heap[k]?=some o->k≠r->(w1.putObj r (.deferred none)).heap[k]?=some o:=λk o hk hkr=>by
     rw[World.putObj_heap_other hkr];exact hk
    have hmarks:∀ds:List Deferred,(∀d'∈ds,d'≠d)->z4h w.heap.size w1 ds->z4h w.heap.size (w1.putObj r (.deferred none)) ds:=by
     intro ds
     induction ds with
     | nil=>intro _ _;trivial
     | cons d2 ds ih2=>
       rintro hnd ⟨⟨r2,g1,g2,g3,g4⟩,g5⟩
       refine⟨⟨r2,g1,g2,hne r2 _ g3 (λhx=>?_),g4⟩,ih2 (λd' hd'=>hnd d' (List.mem_cons_of_mem _ hd')) g5⟩
       exact hnd d2 List.mem_cons_self (by rw[g1,hd,hx])
    have hcell:∀(k:Nat) (c:Array Value) (el:TypeId) (f:Nat×Nat),w1.heap[k]?=some (.cells c el f)->(w1.putObj r (.deferred none)).heap[k]?=some (.cells c el f):=λk c el f hk=>
     hne k _ hk (λhx=>by rw[hx,hr2]at hk;cases hk)
    refine⟨λk b hb=>hcell k _ _ _ (hR1.sub k b hb),hR1.sz,hmarks ds hr3 hms,?_,hR1.dom,hR1.vals,λt ht=>?_,hR1.inj,hR1.refs,hR1.mrs⟩
    . obtain⟨x1,x2,x3,x4,x5,x6⟩:=hR1.fr
      refine⟨by rw[World.putObj_size];exact x1,λk hk hD=>?_,x3,x4,x5,x6⟩
      have hr1':w.heap.size<=r:=hr1
      have hk':k<w.heap.size:=hk
      rw[World.putObj_heap_other (by omega)];exact x2 k hk hD
    . obtain⟨g1,b,el,g2,g3,g4,g5⟩:=hR1.hid t ht
      exact⟨g1,b,el,g2,g3.mono λo hp hoo=>hne b o hoo (λhx=>by subst hx;rw[hr2]at hoo;cases hoo;exact hp),g4,g5⟩
 have hRd:Rel C ⟨D,w,w.heap.size⟩ e' h' { a' with defers:=a'.defers } w':=hR'
 cases x with
 | normal=>
   cases ex<;>first | (exact hm.elim) | skip
   exact fin a'.defers w' hRd hK
 | ret=>
   cases ex<;>first | (exact hm.elim) | skip
   exact fin a'.defers w' hRd hK
 | exit j=>
   cases ex<;>first | (exact hm.elim) | skip
   exact hK.elim
 | _=>cases ex<;>exact hm.elim
end
end Den
end

section
namespace Den
open Go
structure Ty(α:Type) where
 up:α->Value
 dn:Value->(α->Prop)->Prop
 snd:∀v K,dn v K->∃x,v=up x/\K x
 cmp:∀x K,dn (up x) K↔K x
structure ArgT(α:Type) where
 up:α->List Value
 dn:List Value->(α->Prop)->Prop
 snd:∀v K,dn v K->∃x,v=up x/\K x
 cmp:∀x K,dn (up x) K↔K x
def mkE{α ρ:Type}(A:ArgT α)(R:Ty ρ)(F:α->(ρ->Hp->Prop)->Hp->Prop):zl:=λargs K h=>
 A.dn args λa=>zc (F a) (λr=>K (R.up r)) h
def mkM{α ρ:Type}(A:ArgT α)(R:Ty ρ)(F:α->(ρ->Hp->Prop)->Hp->Prop):zl:=λargs K h=>
 A.dn args λa=>Y3 (F a) (λr=>K (R.up r)) h
structure Entry(P:Program)(g:Nat)(F:zl)(m:Bool):Prop where
 fn:Z7u P g F
 like:m=false->∀args,zgh (F args)
 mono:∀args K K' h,(∀v h,K v h->K' v h)->F args K h->F args K' h
def Tab(C:Cfg):List (Nat×zl)->Prop
 | []=>True
 | (g,F) :: r=>Entry C.P g F (Vw g C.mutL)/\Tab C r
theorem Tab.ok{C:Cfg}:∀{l:List (Nat×zl)},Tab C l->z96 C l
 | [],_=>trivial
 | (_,_) :: _,h=>⟨h.1.fn,h.1.like,Tab.ok h.2⟩
theorem Tab.mono{C:Cfg}:∀{l:List (Nat×zl)},Tab C l->∀g args K K' h,(∀v h,K v h->K' v h)->zbj g l args K h->zbj g l args K' h
 | [],_,_,_,_,_,_,_,hk=>hk
 | (g',F) :: r,ht,g,args,K,K',h,hkk,hk=>by
   unfold zbj at *
   by_cases hg:g=g'
   . subst hg;rw[zgo]at *;exact ht.1.mono args K K' h hkk hk
   . rw[z5c hg]at *;exact Tab.mono ht.2 g args K K' h hkk hk
theorem CfgOK.of{C:Cfg}(h:Tab C C.tab):CfgOK C:=⟨h.ok,h.mono⟩
section
variable {α ρ : Type} {A : ArgT α} {R : Ty ρ} {F : α → (ρ → Hp → Prop) → Hp → Prop} {P : Program} {g : Nat}
theorem zhb{K:Value->Hp->Prop}{D O:Hp}{Q:ρ->Hp->Prop}{w:World}(hdj:D.dj O)(hs:Sub (D.add O) w)
 (hq:∀v D',Q v D'->D'.dj O->(D'.add O).Fin->K (R.up v) (D'.add O)):∀e w',z5w (λv h=>R.dn v λr=>Q r h) D w e w'->z5w K (D.add O) w e w':=by
 rintro e w' ⟨v,D',rfl,hv,hs',hf,hd⟩
 obtain⟨r,rfl,hr⟩:=R.snd _ _ hv
 have hO:∀k b,O k=some b->D k=none/\w.heap[k]?=some (.cells b.cells.toArray b.elem b.fz)/\k<w.heap.size:=λk b hb=>by
  have h1:D k=none:=by
   rcases hdj k with h1 | h1
   . exact h1
   . rw[h1]at hb;cases hb
  have h2:(D.add O) k=some b:=by simp[Hp.add,h1,hb]
  exact⟨h1,hs k b h2,hs.lt h2⟩
 have hdj':D'.dj O:=λk=>by
  cases hb:O k with
  | none=>exact .inr rfl
  | some b=>
    obtain⟨h1,_,h3⟩:=hO k b hb
    left
    cases hk:D' k with
    | none=>rfl
    | some x=>have:=hd k (by simp[hk]) h1;omega
 suffices hsub:Sub (D'.add O) w' from by
  refine⟨R.up r,D'.add O,rfl,hq r D' hr hdj' hsub.fin,hsub,?_,λk h1 h2=>?_⟩
  . exact⟨hf.1,λk h1 h2=>hf.2.1 k h1 (Hp.add_none.1 h2).1,hf.2.2⟩
  . rw[Hp.add_none]at h2
    refine hd k (λhh=>h1 ?_) h2.1
    rw[Hp.add_none];exact⟨hh,h2.2⟩
 intro k b hk
 . cases hk':D' k with
   | some x=>
     have:(D'.add O) k=some x:=by simp[Hp.add,hk']
     rw[this]at hk;cases hk
     exact hs' k _ hk'
   | none=>
     have:(D'.add O) k=O k:=by simp[Hp.add,hk']
     rw[this]at hk
     obtain⟨h1,h2,h3⟩:=hO k b hk
     rw[hf.2.1 k h3 h1];exact h2
theorem Y8(hfn:∃fn,P.funcs[g]?=some fn/\fn.body.isNone=false/\(fn.name == "runtime.NumGoroutine")=false)
 (hb:∀a K D w,Sub D w->F a K D->Calls P g (A.up a).toArray w (z5w (λv h=>R.dn v λr=>K r h) D w)):Entry P g (mkE A R F) false where
 fn:=by
  refine⟨hfn,λargs K h w hs hk=>?_⟩
  obtain⟨a,rfl,D,O,Q,h1,rfl,h3,h4⟩:=A.snd _ _ hk
  exact(hb a Q D w (hs.mono (Hp.le_add D O)) h3).mono (zhb h1 hs λv D' hq hd hfin=>(h4 v D' hq).2 hd hfin)
 like:=λ_ args=>by
  by_cases hx:∃a,args=A.up a
  . obtain⟨a,rfl⟩:=hx
    exact .inl ⟨ρ,F a,R.up,λK h=>A.cmp a _⟩
  . refine .inr λK h hk=>hx ?_
    obtain⟨a,ha,_⟩:=A.snd _ _ hk
    exact⟨a,ha⟩
 mono:=λargs K K' h hkk hk=>by
  obtain⟨a,rfl,hc⟩:=A.snd _ _ hk
  exact(A.cmp a _).2 (z26 (λv h' hh _ _=>hkk _ _ hh) hc)
theorem z2g(hfn:∃fn,P.funcs[g]?=some fn/\fn.body.isNone=false/\(fn.name == "runtime.NumGoroutine")=false)
 (hb:∀a K D w,Sub D w->F a K D->Calls P g (A.up a).toArray w (z5w (λv h=>R.dn v λr=>K r h) D w)):Entry P g (mkM A R F) true where
 fn:=by
  refine⟨hfn,λargs K h w hs hk=>?_⟩
  obtain⟨a,rfl,D,O,Q,h1,rfl,h3,h4⟩:=A.snd _ _ hk
  exact(hb a Q D w (hs.mono (Hp.le_add D O)) h3).mono (zhb h1 hs λv D' hq hd _=>h4 v D' hq hd)
 like:=λhh=>by cases hh
 mono:=λargs K K' h hkk hk=>by
  obtain⟨a,rfl,hc⟩:=A.snd _ _ hk
  exact(A.cmp a _).2 (zqm (λv h' hh=>hkk _ _ hh) hc)
theorem z1u{C:Cfg}(hC:Tab C C.tab)(hBk:z1t C.P C.backs){fn:Func}{c:Code}{an:An}(hf:C.P.funcs[g]?=some fn)(hb:fn.body=some c)(hn:fn.ntmps=C.n)
 (ha:∀a,Nat.ble (A.up a).length C.n=true) (hF:∀a K D,zqz C fn c an (A.up a) (λv h=>R.dn v λr=>K r h) D=F a K D) :
 ∀a K D w,Sub D w->F a K D->Calls C.P g (A.up a).toArray w (z5w (λv h=>R.dn v λr=>K r h) D w):=λa K D w hs hk=>
 Z3x (CfgOK.of hC) hBk hf hb hn (Nat.le_of_ble_eq_true (ha a)) hs (by rw[hF];exact hk)
theorem Z3u{C:Cfg}(hC:Tab C C.tab)(hBk:z1t C.P C.backs){fn:Func}{c:Code}{an:An}(hf:C.P.funcs[g]?=some fn)(hb:fn.body=some c)(hn:fn.ntmps=C.n)
 (hname:(fn.name == "runtime.NumGoroutine")=false) (ha:∀a,Nat.ble (A.up a).length C.n=true)
 (hF:∀a K D,zqz C fn c an (A.up a) (λv h=>R.dn v λr=>K r h) D=F a K D):Entry C.P g (mkE A R F) false:=
 Y8 ⟨fn,hf,by rw[hb];rfl,hname⟩ (z1u hC hBk hf hb hn ha hF)
theorem zw5{C:Cfg}(hC:Tab C C.tab)(hBk:z1t C.P C.backs){fn:Func}{c:Code}{an:An}(hf:C.P.funcs[g]?=some fn)(hb:fn.body=some c)(hn:fn.ntmps=C.n)
 (hname:(fn.name == "runtime.NumGoroutine")=false) (ha:∀a,Nat.ble (A.up a).length C.n=true)
 (hF:∀a K D,zqz C fn c an (A.up a) (λv h=>R.dn v λr=>K r h) D=F a K D):Entry C.P g (mkM A R F) true:=
 z2g ⟨fn,hf,by rw[hb];rfl,hname⟩ (z1u hC hBk hf hb hn ha hF)
end
end Den
end

section
namespace Den
open Go
def Ty.leaf(l:Lf):Ty l.T where
 up:=l.up
 dn:=l.dn
 snd _ _ h:=Lf.dn_iff.1 h
 cmp x K:=⟨λh=>by
  obtain⟨y,h1,h2⟩:=Lf.dn_iff.1 h
  have:x=y:=by
   cases l with
   | int k=>injection h1
   | bool=>injection h1
   | str=>injection h1
   | ptr=>injection h1
   | val=>exact h1
   | sl=>injection h1 with h1 h3 h4;cases x;cases y;simp only at h1 h3 h4;subst h1 h3 h4;rfl
  exact this▸h2,λh=>Lf.dn_iff.2 ⟨x,rfl,h⟩⟩
theorem Lf.up_inj{l:Lf}{x y:l.T}(h:l.up x=l.up y):x=y:=
 ((Ty.leaf l).cmp x (λz=>z=y)).1 (Lf.dn_iff.2 ⟨y,h,rfl⟩)
theorem LT.up_inj:∀{ls:List Lf} {x y:LT ls},LT.up ls x=LT.up ls y->x=y
 | [],_,_,_=>rfl
 | _ :: _,x,y,h=>by
   injection h with h1 h2
   exact Prod.ext (Lf.up_inj h1) (LT.up_inj h2)
def Ty.agg{α:Type}(ls:List Lf)(f:α->LT ls)(g:LT ls->α)(h1:∀x,g (f x)=x)(h2:∀y,f (g y)=y):Ty α where
 up x:=.agg (LT.up ls (f x)).toArray
 dn v K:=match v with
  | .agg cs=>LT.dn ls cs.toList λy=>K (g y)
  | _=>False
 snd v K h:=by
  cases v<;>simp only at h<;>try exact h.elim
  obtain⟨y,h3,h4⟩:=LT.dn_iff.1 h
  exact⟨g y,by rw[h2,<-h3],h4⟩
 cmp x K:=⟨λh=>by
  obtain⟨y,h3,h4⟩:=LT.dn_iff.1 h
  rw[<-LT.up_inj h3,h1]at h4;exact h4,λh=>LT.dn_iff.2 ⟨f x,rfl,by rw[h1];exact h⟩⟩
def ArgT.nil:ArgT Unit where
 up _:=[]
 dn vs K:=match vs with | []=>K () | _=>False
 snd vs K h:=by cases vs<;>simp only at h;exact⟨(),rfl,h⟩
 cmp _ _:=Iff.rfl
def ArgT.cons{α β:Type}(T:Ty α)(A:ArgT β):ArgT (α×β) where
 up x:=T.up x.1 :: A.up x.2
 dn vs K:=match vs with | v :: r=>T.dn v λx=>A.dn r λy=>K (x,y) | _=>False
 snd vs K h:=by
  cases vs<;>simp only at h
  obtain⟨x,rfl,h1⟩:=T.snd _ _ h
  obtain⟨y,rfl,h2⟩:=A.snd _ _ h1
  exact⟨(x,y),rfl,h2⟩
 cmp x K:=by
  show T.dn (T.up x.1) _↔_
  rw[T.cmp,A.cmp]
def ArgT.fn{α:Type}(g:Nat)(A:ArgT α):ArgT α where
 up x:=.func (.func g) #[] #[] :: A.up x
 dn vs K:=match vs with
  | .func (.func g') ⟨[]⟩ ⟨[]⟩ :: r=>(match decide (g'=g)with | true=>A.dn r K | false=>False)
  | _=>False
 snd vs K h:=by
  split at h
  . split at h
    . rename_i hg
      obtain⟨y,rfl,h2⟩:=A.snd _ _ h
      rw[of_decide_eq_true hg]
      exact⟨y,rfl,h2⟩
    . exact h.elim
  . exact h.elim
 cmp x K:=by
  show(match decide (g=g)with | true=>A.dn (A.up x) K | false=>False)↔_
  rw[decide_eq_true (rfl:g=g)]
  exact A.cmp x K
def Ty.tup{α β:Type}(A:ArgT α)(f:β->α)(g:α->β)(h1:∀x,g (f x)=x)(h2:∀y,f (g y)=y):Ty β where
 up x:=.tuple (A.up (f x)).toArray
 dn v K:=match v with
  | .tuple vs=>A.dn vs.toList λy=>K (g y)
  | _=>False
 snd v K h:=by
  cases v<;>simp only at h<;>try exact h.elim
  obtain⟨y,h3,h4⟩:=A.snd _ _ h
  exact⟨g y,by rw[h2,<-h3],h4⟩
 cmp x K:=by
  show A.dn (A.up (f x)) _↔_
  rw[A.cmp,h1]
def zqn:Nat->Type
 | 0=>Unit
 | n+1=>Option Addr×zqn n
def zjr:(n:Nat)->zqn n->List Value
 | 0,_=>[]
 | n+1,x=>.pointer x.1 :: zjr n x.2
def zf7:(n:Nat)->List Value->(zqn n->Prop)->Prop
 | 0,[],K=>K ()
 | n+1,.pointer c :: r,K=>zf7 n r λx=>K (c,x)
 | _,_,_=>False
theorem zuc:∀{n:Nat} {l:List Value} {K:zqn n->Prop},zf7 n l K->∃x,l=zjr n x/\K x
 | 0,[],K,h=>⟨(),rfl,h⟩
 | n+1,.pointer c :: r,K,h=>by
   obtain⟨x,h1,h2⟩:=zuc (n:=n) (l:=r) h
   exact⟨(c,x),by rw[h1];rfl,h2⟩
 | 0,_ :: _,_,h=>by simp[zf7]at h
 | n+1,[],_,h=>by simp[zf7]at h
theorem zub:∀{n:Nat} {x:zqn n} {K:zqn n->Prop},zf7 n (zjr n x) K↔K x
 | 0,_,_=>Iff.rfl
 | n+1,x,K=>by
   show zf7 n (zjr n x.2) (λy=>K (x.1,y))↔_
   rw[zub]
   exact Iff.rfl
def ArgT.fnc{α:Type}(g n:Nat)(A:ArgT α):ArgT (zqn n×α) where
 up x:=.func (.func g) #[] (zjr n x.1).toArray :: A.up x.2
 dn vs K:=match vs with
  | .func (.func g') ⟨[]⟩ cs :: r=>(match decide (g'=g)with | true=>zf7 n cs.toList λc=>A.dn r λy=>K (c,y) | false=>False)
  | _=>False
 snd vs K h:=by
  split at h
  . split at h
    . rename_i hg
      obtain⟨c,h1,h2⟩:=zuc h
      obtain⟨y,rfl,h3⟩:=A.snd _ _ h2
      rw[of_decide_eq_true hg]
      exact⟨(c,y),by rw[<-h1],h3⟩
    . exact h.elim
  . exact h.elim
 cmp x K:=by
  show(match decide (g=g)with | true=>zf7 n (zjr n x.1).toArray.toList (λc=>A.dn (A.up x.2) λy=>K (c,y)) | false=>False)↔_
  rw[decide_eq_true (rfl:g=g)]
  simp only
  rw[zub,A.cmp]
def Zld(i g1:Nat)(e1 e2:zl):zl:=λargs=>
 match args[i]? with
 | some (.func (.func g) _ _)=>bif Nat.beq g g1 then e1 args else e2 args
 | _=>e2 args
def Ty.clo(g:Nat):Ty Addr where
 up a:=.func (.func g) #[] #[.pointer (some a)]
 dn v K:=match v with
  | .func (.func g') ⟨[]⟩ ⟨[.pointer (some a)]⟩=>(match decide (g'=g)with | true=>K a | false=>False)
  | _=>False
 snd v K h:=by
  split at h
  . split at h
    . rename_i hg
      rw[of_decide_eq_true hg]
      exact⟨_,rfl,h⟩
    . exact h.elim
  . exact h.elim
 cmp x K:=by
  show(match decide (g=g)with | true=>K x | false=>False)↔_
  rw[decide_eq_true (rfl:g=g)]
def Ty.unit:Ty Unit where
 up _:=.tuple #[]
 dn v K:=match v with | .tuple ⟨[]⟩=>K () | _=>False
 snd v K h:=by split at h;exact⟨(),rfl,h⟩;exact h.elim
 cmp _ _:=Iff.rfl
end Den
end

section
namespace Den
open Go
def zf:Sl:=⟨none,0,0⟩
def X6:ByteArray:=.empty
section
variable {α : Type} {G : (α → Hp → Prop) → Hp → Prop} {K : α → Hp → Prop} {h : Hp}
theorem zd(R:α->Hp->Prop)(H:∀K':α->Hp->Prop,(∀v h',h.le h'->R v h'->K' v h')->G K' h)(k:∀v h',h.le h'->R v h'->K v h'):zc G K h:=
 ⟨h,Hp.emp,λv h'=>h.le h'/\R v h',h.dj_emp,h.add_emp.symm,H _ (λv h' h1 h2=>⟨h1,h2⟩),
  λv D' hq=>⟨hq.1,λ_ _=>by rw[Hp.add_emp];exact k v D' hq.1 hq.2⟩⟩
theorem Zf(v:α)(H:∀K':α->Hp->Prop,K' v h->G K' h)(k:K v h):zc G K h:=
 ⟨h,Hp.emp,λv' h'=>v'=v/\h'=h,h.dj_emp,h.add_emp.symm,H _ ⟨rfl,rfl⟩,λv' D' hq=>by
  obtain⟨rfl,rfl⟩:=hq
  exact⟨Hp.le_refl _,λ_ _=>by rw[Hp.add_emp];exact k⟩⟩
theorem Qh(H:G K h):Y3 G K h:=
 ⟨h,Hp.emp,K,h.dj_emp,h.add_emp.symm,H,λv D' hq _=>by rw[Hp.add_emp];exact hq⟩
end
theorem zod{S:Type}{k:S->Hp->Prop}{body:(S->Hp->Prop)->Prop}(H:body k):z8 k body:=⟨k,λ_ _ h=>h,H⟩
theorem zk{S:Type}{k:S->Hp->Prop}{body:(S->Hp->Prop)->Prop}(J:S->Hp->Prop)(h1:∀s h,J s h->k s h)(h2:body J):z8 k body:=⟨J,h1,h2⟩
theorem yx{S:Type}{body:S->(S->Hp->Prop)->Hp->Prop}{s0:S}{h0:Hp}(I:S->Hp->Prop)(μ:S->Nat)
 (h1:I s0 h0) (h2:∀s h,I s h->body s (λs' h'=>I s' h'/\μ s'<μ s) h):zr body s0 h0:=⟨I,λs _=>μ s,h1,h2⟩
theorem y7{A B:Prop}{t:Bool}(ht:t=true)(ha:A):ifP t A B:=by subst ht;exact ha
theorem zt{A B:Prop}{t:Bool}(ht:t=false)(hb:B):ifP t A B:=by subst ht;exact hb
theorem ze{A B p:Prop}[Decidable p](ha:p->A)(hb:¬p->B):ifP (decide p) A B:=
 zp (λh=>ha (of_decide_eq_true h)) (λh=>hb (of_decide_eq_false h))
theorem zz{A B:Prop}{a b:Int}(ha:a=b->A)(hb:a≠b->B):ifP (a==b) A B:=
 zp (λh=>ha (by simpa using h)) (λh=>hb (by simpa using h))
theorem yk{A B:Prop}{a b:Int}(ha:a≠b->A)(hb:a=b->B):ifP (a != b) A B:=
 zp (λh=>ha (by simpa using h)) (λh=>hb (by simpa using h))
theorem w64{n:Int}(h:-9223372036854775808<=n/\n<=9223372036854775807):i64.wrap n=n:=by
 simp[IntKind.wrap,IntKind.signed,IntKind.bits]
 omega
theorem Zkn{n:Int}(h:0<=n/\n<=18446744073709551615):u64.wrap n=n:=by
 simp[IntKind.wrap,IntKind.signed,IntKind.bits]
 omega
theorem Zkm{n:Int}(h:0<=n/\n<=4294967295):u32.wrap n=n:=by
 simp[IntKind.wrap,IntKind.signed,IntKind.bits]
 omega
abbrev BS(s:ByteArray):List UInt8:=s.data.toList
theorem z3k(s:ByteArray):(BS s).length=s.size:=by simp[BS]
theorem z7m(s:ByteArray):s.toList=BS s:=ByteArray.toList_eq s
theorem zaf{s:ByteArray}{i:Int}{K:Int->Prop}{k:Nat}{c:UInt8}{r:List UInt8}(hd:(BS s).drop k=c :: r)(hi:i=k)(H:K (c.toNat:Int)):Qs s i K:=by
 subst hi
 refine⟨by omega,c,?_,H⟩
 have h1:(BS s)[k]?=some c:=by
  have:((BS s).drop k)[0]?=some c:=by rw[hd];rfl
  simpa using this
 have hk:k<s.size:=by
  rw[<-z3k]
  rcases Nat.lt_or_ge k (BS s).length with h2 | h2
  . exact h2
  . rw[List.getElem?_eq_none h2]at h1;cases h1
 have:((k:Int).toNat)=k:=rfl
 rw[this,getElem?_pos s k hk]
 rw[List.getElem?_eq_getElem (by rw[z3k];exact hk)]at h1
 simp only[Option.some.injEq]at h1 |-
 rw[<-h1]
 rfl
theorem zpv{s:ByteArray}{a b:Nat}:BS (s.extract a b)=((BS s).drop a).take (b-a):=by
 simp[BS,ByteArray.data_extract,Array.toList_extract,List.extract_eq_take_drop]
theorem Zv(a:Addr):a.add 0=a:=by cases a;rfl
theorem Wr(a:Addr)(i j:Nat):(a.add i).add j=a.add (i+j):=by
 unfold Addr.add
 by_cases hi:i=0
 . subst hi;simp
 . by_cases hj:j=0
   . subst hj;simp[hi]
   . have:i+j≠0:=by omega
     simp[hi,hj,Nat.add_assoc]
theorem Yg(a:Addr)(i:Nat):(a.add i).block=a.block:=by unfold Addr.add;split<;>rfl
theorem Xv(a:Addr)(i:Nat):(a.add i).off=a.off+i:=by
 unfold Addr.add;split
 . rename_i h;subst h;rfl
 . rfl
theorem V6{a:Addr}(hs:a.spot=none)(i:Nat):(a.add i).spot=none:=by unfold Addr.add;split<;>simp[hs]
def Rd(h:Hp)(size:Nat)(x:Sl)(cs:List Value):Prop:=x.len*size=cs.length/\Z0 h x.a cs.length=some cs
theorem Rd.le{h h':Hp}{size:Nat}{x:Sl}{cs:List Value}(hr:Rd h size x cs)(hl:h.le h'):Rd h' size x cs:=⟨hr.1,z6v hl hr.2⟩
theorem Rd.nil{h:Hp}{size:Nat}:Rd h size zf []:=⟨by simp[zf],rfl⟩
theorem z2d{h:Hp}{a:Addr}:∀{n:Nat} {l:List Value},Zw h a n=some l->l.length=n
 | 0,l,e=>by simp only[Zw,Option.some.injEq]at e;subst e;rfl
 | n+1,l,e=>by
   unfold Zw at e
   split at e
   . rename_i l1 h1
     split at e
     . simp only[Option.some.injEq]at e;subst e;simp[z2d h1]
     . cases e
   . cases e
theorem z2c{h:Hp}{a:Addr}:∀{n:Nat} {l:List Value},Zw h a n=some l->∀i v,l[i]?=some v->h.cell (a.add i)=some v
 | 0,l,e,i,v,hi=>by simp only[Zw,Option.some.injEq]at e;subst e;simp at hi
 | n+1,l,e,i,v,hi=>by
   unfold Zw at e
   split at e
   . rename_i l1 h1
     split at e
     . rename_i u hu
       simp only[Option.some.injEq]at e;subst e
       have hl:=z2d h1
       rcases Nat.lt_or_ge i n with h2 | h2
       . rw[List.getElem?_append_left (by omega)]at hi
         exact z2c h1 i v hi
       . rw[List.getElem?_append_right (by omega)]at hi
         have:i-l1.length=0:=by
          rcases Nat.eq_zero_or_pos (i-l1.length)with h3 | h3
          . exact h3
          . rw[List.getElem?_eq_none (by simp;omega)]at hi;cases hi
         rw[this]at hi
         simp only[List.getElem?_cons_zero,Option.some.injEq]at hi
         subst hi
         have:i=n:=by omega
         subst this;exact hu
     . cases e
   . cases e
theorem z7d{h:Hp}{a:Addr}{b:Blk}(hb:h a.block=some b)(hs:a.spot=none):∀{n:Nat},a.off+n<=b.cells.length->Zw h a n=some ((b.cells.drop a.off).take n)
 | 0,_=>by simp[Zw]
 | n+1,hn=>by
   unfold Zw
   rw[z7d hb hs (by omega)]
   have h1:h.cell (a.add n)=some (b.cells[a.off+n]'(by omega)):=by
    unfold Hp.cell
    simp only[Yg,Xv,V6 hs,hb]
    exact List.getElem?_eq_getElem (by omega)
   simp only[h1]
   rw[List.take_succ_eq_append_getElem (by simp;omega)]
   simp
theorem zlz{h:Hp}{size:Nat}{x:Sl}{cs:List Value}{i:Int}{K:Addr->Prop}(k:Nat)(hr:Rd h size x cs)(hi:i=k)(hk:k<x.len)(hsz:0<size)
 (H:∀a,(∀j v,cs[k*size+j]?=some v->h.cell (a.add j)=some v)->K a):zg x i size K:=by
 subst hi
 refine⟨by omega,by omega,?_⟩
 have hpos:0<cs.length:=by
  rw[<-hr.1]
  exact Nat.mul_pos (by omega) hsz
 cases ha:x.a with
 | none=>
   have:=hr.2
   rw[ha]at this
   simp only[Z0]at this
   split at this
   . omega
   . cases this
 | some a=>
   have h2:=hr.2
   rw[ha]at h2
   simp only[Z0]at h2
   refine H _ λj v hv=>?_
   rw[Wr]
   exact z2c h2 _ v hv
def Own(h0 h:Hp)(size:Nat)(x:Sl)(cs:List Value):Prop:=
 h0.le h/\x.len*size=cs.length/\x.len<=x.cap /\
 match x.a with
 | none=>x.cap=0
 | some a=>a.off=0/\a.spot=none/\h0 a.block=none/\∃b,h a.block=some b/\b.fz=(0,0)/\b.cells.length=x.cap*size/\b.cells.take cs.length=cs
theorem Own.nil{h0 h:Hp}{size:Nat}(hl:h0.le h):Own h0 h size zf []:=⟨hl,by simp[zf],Nat.le_refl _,rfl⟩
theorem Own.rd{h0 h:Hp}{size:Nat}{x:Sl}{cs:List Value}(ho:Own h0 h size x cs):Rd h size x cs:=by
 obtain⟨h1,h2,h3,h4⟩:=ho
 refine⟨h2,?_⟩
 cases ha:x.a with
 | none=>
   rw[ha]at h4
   simp only at h4
   have:cs=[]:=by
    have:x.len=0:=by omega
    rw[this]at h2
    cases cs with
    | nil=>rfl
    | cons a b=>simp at h2
   subst this;rfl
 | some a=>
   rw[ha]at h4
   obtain⟨g1,g2,g3,b,g4,g5,g6,g7⟩:=h4
   have hle:cs.length<=b.cells.length:=by rw[g6,<-h2];exact Nat.mul_le_mul_right _ h3
   simp only[Z0]
   rw[z7d g4 g2 (by omega),g1]
   simp[g7]
theorem Own.le{h0 h h':Hp}{size:Nat}{x:Sl}{cs:List Value}(ho:Own h0 h size x cs)(hl:h.le h'):Own h0 h' size x cs:=by
 obtain⟨h1,h2,h3,h4⟩:=ho
 refine⟨Hp.le_trans h1 hl,h2,h3,?_⟩
 cases ha:x.a with
 | none=>rw[ha]at h4;exact h4
 | some a=>
   rw[ha]at h4
   obtain⟨g1,g2,g3,b,g4,g5⟩:=h4
   exact⟨g1,g2,g3,b,hl _ _ g4,g5⟩
theorem Own.base{h0 h1 h:Hp}{size:Nat}{x:Sl}{cs:List Value}(ho:Own h1 h size x cs)(hl:h0.le h1):Own h0 h size x cs:=by
 obtain⟨g0,h2,h3,h4⟩:=ho
 refine⟨Hp.le_trans hl g0,h2,h3,?_⟩
 cases ha:x.a with
 | none=>rw[ha]at h4;exact h4
 | some a=>
   rw[ha]at h4
   obtain⟨g1,g2,g3,g4⟩:=h4
   refine⟨g1,g2,?_,g4⟩
   cases hk:h0 a.block with
   | none=>rfl
   | some b=>rw[hl _ _ hk]at g3;cases g3
theorem z43{h0 h:Hp}{size bytes n:Nat}{zero new cs:List Value}{x:Sl}{K:Sl->Hp->Prop}(ho:Own h0 h size x cs)(hn:new.length=n*size)(hz:zero.length=size)
 (hleaf:new.all Value.leaf=true) (hb:(x.len+n)*bytes<=140737488355328) (hb2:x.len+n<=140737488355328)
 (H:∀y h',Own h0 h' size y (cs++new)->y.len=x.len+n->K y h'):Y5 size bytes zero x n new K h:=by
 have hrd:=ho.rd
 obtain⟨h1,h2,h3,h4⟩:=ho
 refine⟨hb,hb2,λhfit=>?_,λhgrow=>?_⟩
 . cases ha:x.a with
   | none=>
     rw[ha]at h4
     simp only at h4
     have hn0:n=0:=by omega
     have hnew:new=[]:=by
      cases new with
      | nil=>rfl
      | cons a b=>rw[hn0]at hn;simp at hn
     subst hnew hn0
     simp only[stO]
     refine H _ _ ⟨h1,?_,?_,?_⟩ rfl
     . simpa using h2
     . show x.len+0<=x.cap;omega
     . show x.cap=0;exact h4
   | some a=>
     rw[ha]at h4
     obtain⟨g1,g2,g3,b,g4,g5,g6,g7⟩:=h4
     have e1:(x.len+n)*size=cs.length+new.length:=by rw[Nat.add_mul,h2,hn]
     have e2:cs.length+new.length<=b.cells.length:=by rw[g6,<-e1];exact Nat.mul_le_mul_right _ hfit
     simp only[stO]
     refine⟨b,by rw[Yg];exact g4,V6 g2 _,g5,?_,hleaf,?_⟩
     . rw[Xv];omega
     . rw[Yg,Xv]
       refine H _ _ ⟨?_,?_,hfit,?_⟩ rfl
       . intro k bk hk
         rw[Hp.ins_ne (λhh=>by subst hh;rw[g3]at hk;cases hk)]
         exact h1 k bk hk
       . show(x.len+n)*size=_;rw[List.length_append];exact e1
       . refine⟨g1,g2,g3,_,Hp.ins_same _ _ _,g5,?_,?_⟩
         . show(Zb b.cells (a.off+x.len*size) new).length=_
           unfold Zb
           simp only[List.length_append,List.length_take,List.length_drop]
           show _=x.cap*size
           rw[<-g6,g1,h2];omega
         . show(Zb b.cells (a.off+x.len*size) new).take _=_
           have hoff:a.off+x.len*size=cs.length:=by rw[g1,h2];omega
           unfold Zb
           rw[hoff,g7,List.append_assoc,List.length_append,List.take_append]
           simp only[Nat.add_sub_cancel_left]
           rw[List.take_of_length_le (by omega),List.take_append,List.take_of_length_le (Nat.le_refl _)]
           simp
 . refine⟨cs,?_,λbk e c hc hfr=>?_⟩
   . rw[h2];exact hrd.2
   . refine H _ _ ⟨Hp.le_trans h1 (Hp.le_ins hfr),?_,hc,?_⟩ rfl
     . show(x.len+n)*size=_;rw[List.length_append,Nat.add_mul,h2,hn]
     . refine⟨rfl,rfl,?_,_,Hp.ins_same _ _ _,rfl,?_,?_⟩
       . cases hk:h0 bk with
         | none=>rfl
         | some b=>have:=h1 _ _ hk;rw[hfr]at this;cases this
       . show(cs++new++ye (c-(x.len+n)) zero).length=c*size
         have hr:(ye (c-(x.len+n)) zero).length=(c-(x.len+n))*size:=by
          unfold ye
          simp[hz]
         rw[List.length_append,List.length_append,hr,hn,<-h2,<-Nat.add_mul,<-Nat.add_mul]
         congr 1;omega
       . show(cs++new++ye (c-(x.len+n)) zero).take _=cs++new
         rw[List.take_append_of_le_length (by simp)]
         exact List.take_of_length_le (Nat.le_refl _)
theorem z72{h:Hp}{size n:Nat}{cells:List Value}{K:Addr->Hp->Prop}(hn:cells.length=n*size)
 (H:∀b h',h b=none->Own h h' size ⟨some ⟨b,0,none⟩,n,n⟩ cells->K ⟨b,0,none⟩ h'):Yo cells K h:=by
 intro b e hb
 refine H b _ hb ⟨Hp.le_ins hb,hn.symm,Nat.le_refl _,rfl,rfl,hb,_,Hp.ins_same _ _ _,rfl,hn,List.take_of_length_le (Nat.le_refl _)⟩
theorem z35{n:Nat}{zero:List Value}:(ye n zero).length=n*zero.length:=by
 unfold ye;simp
theorem zse{h:Hp}{size bytes:Nat}{len cap:Int}{zero:List Value}{K:Sl->Hp->Prop}(l c:Nat)(hl:len=l)(hc:cap=c)(hlc:l<=c)(hb:bytes*c<=140737488355328)(hb2:c<=140737488355328)(hz:zero.length=size)
 (H:∀x h',x.len=l->x.cap=c->Own h h' size x (ye l zero)->K x h'):mkP len cap bytes zero K h:=by
 subst hl hc
 refine⟨by omega,by omega,(Int.natCast_mul bytes c)▸(Int.ofNat_le.2 hb),by omega,λb e hb=>?_⟩
 have e1:((c:Int).toNat)=c:=rfl
 have e2:((l:Int).toNat)=l:=rfl
 rw[e1,e2]
 refine H _ _ rfl rfl ⟨Hp.le_ins hb,by rw[z35,hz],hlc,rfl,rfl,hb,_,Hp.ins_same _ _ _,rfl,by rw[z35,hz],?_⟩
 show(ye c zero).take (ye l zero).length=ye l zero
 have:ye c zero=ye l zero++ye (c-l) zero:=by
  unfold ye
  rw[<-List.flatten_append,List.replicate_append_replicate]
  congr 2;omega
 rw[this,List.take_append_of_le_length (Nat.le_refl _),List.take_of_length_le (Nat.le_refl _)]
theorem Ya{cs vs:List Value}{off:Nat}(h:off+vs.length<=cs.length):(Zb cs off vs).length=cs.length:=by
 unfold Zb;simp;omega
theorem zad{cs vs bs:List Value}{off:Nat}(h:off+vs.length<=cs.length)(hb:bs.take cs.length=cs):(Zb bs off vs).take cs.length=Zb cs off vs:=by
 have e:bs=cs++bs.drop cs.length:=by conv=>lhs;rw[<-List.take_append_drop cs.length bs,hb]
 have e2:Zb bs off vs=Zb cs off vs++bs.drop cs.length:=by
  rw[e]
  unfold Zb
  rw[List.take_append_of_le_length (by omega),List.drop_append_of_le_length h]
  simp[List.append_assoc]
 rw[e2,List.take_append_of_le_length (by rw[Ya h];exact Nat.le_refl _),List.take_of_length_le (by rw[Ya h];exact Nat.le_refl _)]
theorem zt6{h0 h:Hp}{size:Nat}{x:Sl}{cs vs:List Value}{i:Int}{K:Hp->Prop}(k:Nat)(ho:Own h0 h size x cs)(hi:i=k)(hk:k<x.len)(hv:vs.length=size)(hsz:0<size)(hleaf:vs.all Value.leaf=true)
 (H:∀h',Own h0 h' size x (Zb cs (k*size) vs)->K h'):zg x i size λa=>stP a vs K h:=by
 subst hi
 obtain⟨h1,h2,h3,h4⟩:=ho
 refine⟨by omega,by omega,?_⟩
 cases ha:x.a with
 | none=>rw[ha]at h4;simp only at h4;omega
 | some a=>
   rw[ha]at h4
   obtain⟨g1,g2,g3,b,g4,g5,g6,g7⟩:=h4
   have e0:((k:Int).toNat)=k:=rfl
   have e1:k*size+size<=cs.length:=by
    rw[<-h2]
    have:=Nat.mul_le_mul_right size (show k+1<=x.len by omega)
    rw[Nat.add_mul]at this;omega
   have e2:cs.length<=b.cells.length:=by rw[g6,<-h2];exact Nat.mul_le_mul_right _ h3
   show yu (some a) _
   simp only[yu,e0]
   refine⟨b,by rw[Yg];exact g4,V6 g2 _,g5,by rw[Xv];omega,hleaf,?_⟩
   rw[Yg,Xv,g1,Nat.zero_add]
   refine H _ ⟨?_,?_,h3,?_⟩
   . intro kk bk hkk
     rw[Hp.ins_ne (λhh=>by subst hh;rw[g3]at hkk;cases hkk)]
     exact h1 kk bk hkk
   . rw[Ya (by omega)];exact h2
   . rw[ha]
     refine⟨g1,g2,g3,_,Hp.ins_same _ _ _,g5,?_,?_⟩
     . show(Zb b.cells (k*size) vs).length=_
       rw[Ya (by omega)];exact g6
     . show(Zb b.cells (k*size) vs).take _=_
       rw[Ya (by omega)]
       exact zad (by omega) g7
theorem z3x{cs:List Value}{k:Nat}{v:Value}:Zb cs k [v]=cs.take k++v :: cs.drop (k+1):=by
 unfold Zb;simp
theorem zi9{h:Hp}{x:Sl}{cs:List Value}{v:Value}{i:Int}{Ka:Addr->Prop}(k:Nat)(hr:Rd h 1 x cs)(hi:i=k)(hv:cs[k]?=some v)
 (H:∀a,h.cell a=some v->Ka a):zg x i 1 Ka:=by
 have hk:k<x.len:=by
  have h1:=hr.1
  rcases Nat.lt_or_ge k cs.length with h2 | h2
  . omega
  . rw[List.getElem?_eq_none h2]at hv;cases hv
 refine zlz k hr hi hk (by decide) λa ha=>H a ?_
 have:=ha 0 v (by rw[Nat.mul_one];exact hv)
 rwa [Zv]at this
end Den
end

section
namespace Den
open Go
open Go.ChangeShapes Go.WideShapes Go.ChangeAt Go.RowKit
theorem Z4o{D h':Hp}{w w':World}(hs:Sub D w)(hf:Fr D w w')(hs':Sub h' w')(hl:D.le h'):∀k,k<w.heap.size->w'.heap[k]?=w.heap[k]?:=λk hk=>by
 cases hD:D k with
 | none=>exact hf.2.1 k hk hD
 | some b=>rw[hs' k b (hl k b hD),hs k b hD]
theorem Z8r{w w':World}(h1:w'.os=w.os)(h2:w'.output=w.output)(h3:∀k,k<w.heap.size->w'.heap[k]?=w.heap[k]?)(may:MemPlace->Prop):w.keptBut w' may:=by
 refine⟨h1,h2,λi hi=>?_⟩
 rw[h3 i hi]
 exact(World.keptBut_refl w may).2.2 i hi
theorem Z3z{w w':World}(h3:∀k,k<w.heap.size->w'.heap[k]?=w.heap[k]?){a:Addr}(ha:a.block<w.heap.size):w'.frozen? a=w.frozen? a:=by
 unfold World.frozen?;rw[h3 _ ha]
theorem zl3{w w':World}(h3:∀k,k<w.heap.size->w'.heap[k]?=w.heap[k]?){a:Addr}(ha:a.block<w.heap.size):w'.cell? a=w.cell? a:=by
 unfold World.cell?;rw[h3 _ ha]
section
variable {H : Type} {enc : TypeId × Value → H} {P : Program}
theorem Z7q{f:Func}{s:ChangeSpec}{zu5 fresh handsOn again:Bool}{W W':World}{args:Array Value}{v:Value}{ds gs:List (DataW H)}{before pa pv:List MemPlace}
 (hW:DataW.Whole enc P f.params.toList s.vars zu5 W args.toList ds gs before)
 (hres:∀(b:Nat) (sp:Nat->Bool) (hd:Bool),DataW.TrodAll enc P W' b sp hd f.resultTypes.toList (v.resultList f.resultTypes.size) (s.fn H (ds++gs)).results [])
 (hargs:∀sp:Nat->Bool,(∀p∈before,sp p.block=true)->DataW.TrodAll enc P W' 0 sp true f.params.toList args.toList (s.fn H (ds++gs)).args pa)
 (hvars:∀sp:Nat->Bool,(∀p∈before,sp p.block=true)->DataW.TrodVars enc P W' sp s.vars (s.fn H (ds++gs)).vars pv)
 (hps:before=pa++pv) (hk:W.keptBut W' (·∈before)) (hfz:∀a,a.block<W.heap.size->W'.frozen? a=W.frozen? a)
 (hok:∀(j:Nat) (t:TypeId) (r:Value),f.resultTypes[j]?=some t->(v.resultList f.resultTypes.size)[j]?=some r->Value.okWide P W' .any 0 t r) :
 s.post enc P f zu5 fresh handsOn again W args v W':=by
 have hold:∀p∈before,(λb=>decide (b<W.heap.size)) p.block=true:=λp hp=>by simpa using hW.lt p hp
 have hlt:=hW.lt
 refine⟨ds,gs,before,[],pa,pv,hW,hres _ _ _,hargs _ hold,hvars _ hold,World.keptBut_mono (λp hp=>⟨hp,?_⟩) hk,λ_=>?_⟩
 . rw[hps,List.mem_append]at hp
   exact Or.inr hp
 . obtain⟨_,_,_,_,_,hz,hn⟩:=hW
   refine⟨hok,_,_,([]++pa)++pv,⟨[]++pa,pv,trodAll_append (hargs _ (λ_ _=>rfl)) (hres _ _ _),hvars _ (λ_ _=>rfl),rfl,?_,?_⟩,?_⟩
   . intro b off hp
     have hp':MemPlace.cell b off∈before:=by rw[hps];simpa using hp
     rw[hfz _ (hlt _ hp')]
     exact hz b off hp'
   . intro ha
     have:=hn ha
     rw[hps]at this
     simpa using this
   . intro p hp _
     rw[hps]
     simpa using hp
end
theorem Zir{α:Type}{A:ArgT α}{F:α->(Bool->Hp->Prop)->Hp->Prop}{P:Program}{g:Nat}(hE:Entry P g (mkE A (Ty.leaf .bool) F) false)(a:α)(D:Hp)(w:World)(hs:Sub D w)
 (hF:∀K:Bool->Hp->Prop,(∀h',D.le h'->K true h')->F a K D) :
 Calls P g (A.up a).toArray w λe w'=>e=.returned (.bool true)/\w'.os=w.os/\w'.output=w.output/\w.heap.size<=w'.heap.size/\∀k,k<w.heap.size->w'.heap[k]?=w.heap[k]?:=by
 refine(hE.fn.2 (A.up a) (λv h'=>v=.bool true/\D.le h') D w hs ((A.cmp a _).2 ?_)).mono ?_
 . exact zd (λv _=>v=true) (λK' hk=>hF _ λh' hl=>hk _ _ hl rfl) λv h' hl hv=>by subst hv;exact⟨rfl,hl⟩
 . rintro e w' ⟨v,h',rfl,⟨rfl,hl⟩,hs',hf,hd⟩
   exact⟨rfl,hf.2.2.2.1,hf.2.2.2.2.1,hf.1,Z4o hs hf hs' hl⟩
end Den
end

section
namespace Den
open Go
open Go.ChangeShapes Go.WideShapes Go.ChangeAt Go.RowKit
def hpW(w:World):Hp:=λk=>match w.heap[k]? with | some (.cells cs e fz)=>some ⟨cs.toList,e,fz⟩ | _=>none
theorem Zko(w:World):Sub (hpW w) w:=λk b hk=>by
 unfold hpW at hk
 split at hk
 . rename_i cs e fz h
   cases hk
   rw[h]
 . cases hk
theorem zcz(w:World)(a:Addr):(hpW w).cell a=w.cell? a:=by
 unfold Hp.cell hpW World.cell?
 cases hs:a.spot with
 | some x=>cases w.heap[a.block]? with
   | none=>rfl
   | some o=>cases o<;>simp
 | none=>cases w.heap[a.block]? with
   | none=>rfl
   | some o=>cases o<;>simp
theorem zwi{w:World}{a:Addr}:∀{cs:List Value},(∀i,i<cs.length->w.cell? (a.add i)=cs[i]?)->Zw (hpW w) a cs.length=some cs:=by
 suffices H:∀(n:Nat) (cs:List Value),n<=cs.length->(∀i,i<cs.length->w.cell? (a.add i)=cs[i]?)->Zw (hpW w) a n=some (cs.take n) from λ{cs} h=>by
  rw[H cs.length cs (Nat.le_refl _) h,List.take_length]
 intro n
 induction n with
 | zero=>intro cs _ _;rfl
 | succ n ih=>
   intro cs hn h
   unfold Zw
   rw[ih cs (by omega) h]
   simp only
   rw[zcz,h n (by omega),List.getElem?_eq_getElem (by omega)]
   simp only
   rw[List.take_add_one,List.getElem?_eq_getElem (by omega)]
   rfl
section
variable {H : Type} {enc : TypeId × Value → H} {P : Program} {w w' : World}
def zt1(P:Program):Bool:=(List.range P.types.size).all λt=>match P.underlying t with | some (.slice e)=>decide (0<P.cellsOf e) | _=>true
theorem Z5b(h:zt1 P=true){t e:TypeId}(ht:t<P.types.size)(hu:P.underlying t=some (.slice e)):0<P.cellsOf e:=by
 have:=List.all_eq_true.1 h t (List.mem_range.2 ht)
 rw[hu]at this
 simpa using this
theorem zms(hl:laidOutB P=true)(hm:mapsRowed P=true)(hz:zt1 P=true)(h3:∀k,k<w.heap.size->w'.heap[k]?=w.heap[k]?){sp:Nat->Bool} :
 ∀{ts:List TypeId} {vs:List Value} {ds:List (DataW H)} {ps:List MemPlace},(∀t∈ts,t<P.types.size)->(∀p∈ps,p.block<w.heap.size)->(∀p∈ps,sp p.block=true) ->
  DataW.TrodAll enc P w 0 (λ_=>true) true ts vs ds ps->DataW.TrodAll enc P w' 0 sp true ts vs ds ps
 | [],[],[],_,_,_,_,h=>h
 | t :: ts,v :: vs,d :: ds,_,ht,hp,hs,⟨p,q,⟨n,hn⟩,h2,e⟩=>by
   subst e
   refine⟨p,q,⟨n,?_⟩,zms hl hm hz h3 (λt h=>ht t (List.mem_cons_of_mem _ h)) (λx hx=>hp x (List.mem_append_right _ hx)) (λx hx=>hs x (List.mem_append_right _ hx)) h2,rfl⟩
   refine DataW.trod_stays (T:=λt=>t<P.types.size) (kids_rows hl hm) (λh h'=>Z5b hz h h') (by intro hh;cases hh) (ht t (by simp)) hn (λx hx=>?_) (λx hx=>hs x (List.mem_append_left _ hx))
   have hb:=hp x (List.mem_append_left _ hx)
   cases x with
   | cell b off=>exact zl3 h3 (a:=⟨b,off,none⟩) hb
   | map b=>exact h3 b hb
def Okt(enc:TypeId×Value->H)(P:Program)(w:World)(t:TypeId)(cs:List Value):Prop:=∃n x,DataW.trod enc P w 0 (λ_=>true) true n t cs=some x/\∀k∈x.1.weights P t,k<=reachBytes
theorem z98:∀{ts:List TypeId} {ds:List (DataW H)} {i:Nat} {t:TypeId} {d:DataW H},ts[i]?=some t->ds[i]?=some d->∀k∈d.weights P t,k∈DataW.weightsEach P ts ds
 | [],_,_,_,_,h,_,_,_=>by simp at h
 | _ :: _,[],_,_,_,_,h,_,_=>by simp at h
 | t :: ts,d :: ds,0,_,_,h1,h2,k,hk=>by
   simp only[List.getElem?_cons_zero,Option.some.injEq]at h1 h2
   subst h1 h2
   unfold DataW.weightsEach
   exact List.mem_append_left _ hk
 | t :: ts,d :: ds,i+1,_,_,h1,h2,k,hk=>by
   simp only[List.getElem?_cons_succ]at h1 h2
   unfold DataW.weightsEach
   exact List.mem_append_right _ (z98 h1 h2 k hk)
theorem z64{e:TypeId}:∀{ds:List (DataW H)} {d:DataW H},d∈ds->∀k∈d.weights P e,k∈DataW.weightsAll P e ds
 | [],_,h,_,_=>by simp at h
 | d :: ds,x,h,k,hk=>by
   unfold DataW.weightsAll
   rcases List.mem_cons.1 h with rfl | h
   . exact List.mem_append_left _ hk
   . exact List.mem_append_right _ (z64 h k hk)
theorem Okt.int{t:TypeId}{k:IntKind}{cs:List Value}(ht:P.underlying t=some (.int k))(h:Okt enc P w t cs):∃m:Int,cs=[.int k m]/\(Lit.int k m).wf=true:=by
 obtain⟨n,x,h,_⟩:=h
 obtain⟨m,hb,_,hw⟩:=DataW.trod_int ht h
 exact⟨m,hb,hw⟩
theorem Okt.items{t e:TypeId}{k:Nat}{cs:List Value}(ht:P.underlying t=some (.array k e))(h:Okt enc P w t cs) :
 cs.length=P.cellsOf t/\∀i,i<k->Okt enc P w e ((cs.drop (i*P.cellsOf e)).take (P.cellsOf e)):=by
 obtain⟨n,x,h,hw⟩:=h
 obtain⟨xs,m,_,ee,hl,hx,hf⟩:=DataW.trod_array ht h
 subst ee
 simp only[DataW.weights,ht]at hw
 refine⟨hl,λi hi=>⟨m,?_⟩⟩
 have h1:=hf i hi
 rw[List.getElem?_eq_getElem (by omega)]at h1
 exact⟨_,h1,λk hk=>hw k (z64 (List.mem_map.2 ⟨_,List.getElem_mem (by omega),rfl⟩) k hk)⟩
theorem zk5{css:List (List Value)}{k:Nat}(h:∀c∈css,c.length=k):css.flatten.length=css.length*k:=by
 induction css with
 | nil=>simp
 | cons c r ih=>rw[List.flatten_cons,List.length_append,ih (λx hx=>h x (by simp[hx])),h c (by simp),List.length_cons,Nat.add_mul];omega
theorem zwc{css:List (List Value)}{k:Nat}(h:∀c∈css,c.length=k):∀{i j:Nat},j<k->css.flatten[i*k+j]?=css[i]?.bind λc=>c[j]?:=by
 induction css with
 | nil=>intro i j _;simp
 | cons c r ih=>
   intro i j hj
   have hc:=h c (by simp)
   cases i with
   | zero=>rw[List.flatten_cons,List.getElem?_append_left (by omega)];simp
   | succ i=>
     rw[List.flatten_cons,List.getElem?_append_right (by rw[hc,Nat.add_mul];omega),hc,show(i+1)*k+j-k=i*k+j by rw[Nat.add_mul];omega,ih (λx hx=>h x (by simp[hx])) hj]
     simp
theorem Okt.slice{t e:TypeId}{cs:List Value}(ht:P.underlying t=some (.slice e))(h:Okt enc P w t cs) :
 ∃s:Sl,cs=[Lf.sl.up s]/\s.len<=s.cap/\s.len*P.bytesOf e<=reachBytes/\∃css:List (List Value),css.length=s.len/\(∀c∈css,c.length=P.cellsOf e/\Okt enc P w e c)/\Rd (hpW w) (P.cellsOf e) s css.flatten:=by
 obtain⟨n,x,h,hw⟩:=h
 rcases DataW.trod_slice ht h with ⟨rfl,_⟩ | ⟨a,len,cap,elems,rest,m,_,rfl,ex,_,hl,hm,hlen,hel,_,_⟩
 . exact⟨⟨none,0,0⟩,rfl,Nat.le_refl _,by simp,[],rfl,by simp,by simp,rfl⟩
 . subst ex
   simp only[DataW.weights,ht]at hw
   have hby:len*P.bytesOf e<=reachBytes:=by
    refine Nat.le_trans (Nat.mul_le_mul_right _ ?_) (hw _ (List.mem_cons_self ..))
    simp only[List.length_map,hlen]
    omega
   have each:∀i,i<len->∃c,w.cells? 0 (a.add (i*P.cellsOf e)) (P.cellsOf e)=some c/\Okt enc P w e c:=λi hi=>by
    have h1:=hel i hi
    rw[List.getElem?_eq_getElem (by omega),Option.bind_eq_some_iff]at h1
    obtain⟨c,hc,hd⟩:=h1
    exact⟨c,hc,m,_,hd,λk hk=>hw k (List.mem_cons_of_mem _ (List.mem_append_left _ (z64 (List.mem_map.2 ⟨_,List.getElem_mem (by omega),rfl⟩) k hk)))⟩
   have hall:∀k,k<=len->∃css:List (List Value),css.length=k/\∀i (hi:i<css.length),w.cells? 0 (a.add (i*P.cellsOf e)) (P.cellsOf e)=some css[i]/\Okt enc P w e css[i]:=by
    intro k
    induction k with
    | zero=>intro _;exact⟨[],rfl,λi hi=>by simp at hi⟩
    | succ k ih=>
      intro hk
      obtain⟨css,h1,h2⟩:=ih (by omega)
      obtain⟨c,hc,hd⟩:=each k (by omega)
      refine⟨css++[c],by simp[h1],λi hi=>?_⟩
      by_cases hik:i<css.length
      . rw[List.getElem_append_left hik];exact h2 i hik
      . have:i=k:=by simp at hi;omega
        subst this
        rw[List.getElem_append_right (by omega)]
        simpa [h1] using ⟨hc,hd⟩
   obtain⟨css,h1,h2⟩:=hall len (Nat.le_refl _)
   have hsz:∀c∈css,c.length=P.cellsOf e:=λc hc=>by
    obtain⟨i,hi,rfl⟩:=List.mem_iff_getElem.1 hc
    exact(World.cells?_some (h2 i hi).1).2.1
   refine⟨⟨some a,len,cap⟩,rfl,hl,hby,css,h1,λc hc=>⟨hsz c hc,?_⟩,?_,?_⟩
   . obtain⟨i,hi,rfl⟩:=List.mem_iff_getElem.1 hc
     exact(h2 i hi).2
   . rw[zk5 hsz,h1]
   . refine zwi λi hi=>?_
     rw[zk5 hsz]at hi
     have hk:0<P.cellsOf e:=by
      rcases Nat.eq_zero_or_pos (P.cellsOf e)with h0 | h0
      . rw[h0,Nat.mul_zero]at hi;omega
      . exact h0
     have hq:i/P.cellsOf e<css.length:=(Nat.div_lt_iff_lt_mul hk).2 hi
     have hr:i % P.cellsOf e<P.cellsOf e:=Nat.mod_lt _ hk
     have hi':i=i/P.cellsOf e*P.cellsOf e+i % P.cellsOf e:=by rw[Nat.mul_comm];exact(Nat.div_add_mod _ _).symm
     have h3:=(World.cells?_some (h2 _ hq).1).2.2 _ hr
     rw[Wr,<-hi']at h3
     have h4:css.flatten[i]?=css.flatten[i/P.cellsOf e*P.cellsOf e+i % P.cellsOf e]?:=congrArg (css.flatten[·]?) hi'
     rw[h3,h4,zwc hsz hr,List.getElem?_eq_getElem hq]
     rfl
theorem Zl0{ts:List TypeId}{ds:List (DataW H)}{t:TypeId}{v:Value}{d:DataW H}{ps:List MemPlace}(i:Nat)(ht:ts[i]?=some t)(hd:ds[i]?=some d)(h:DataW.Trod enc P w 0 (λ_=>true) true t v d ps)
 (hw:(DataW.weightsEach P ts ds).all (·<=reachBytes)=true):Okt enc P w t v.cells.toList:=by
 obtain⟨n,hn⟩:=h
 exact⟨n,_,hn,λk hk=>of_decide_eq_true (List.all_eq_true.1 hw k (z98 ht hd k hk))⟩
theorem Zlc{t e:TypeId}{r:Reach}{b:Nat}{v:Value}(ht:P.underlying t=some (.slice e))(hv:Value.okWide P w r b t v)(h:Okt enc P w t v.cells.toList) :
 ∃s:Sl,v=Lf.sl.up s/\v.cells.toList=[Lf.sl.up s]:=by
 obtain⟨s,hs,_⟩:=h.slice ht
 refine⟨s,?_,hs⟩
 unfold Value.okWide at hv
 rw[ht]at hv
 simp only at hv
 unfold Cell.okWide at hv
 rw[ht]at hv
 cases v<;>simp only[Cell.ok,ht]at hv
 simpa [Value.cells] using hs
end
end Den
end

section
set_option maxRecDepth 10000
namespace Den
open Go
structure TInt where
 neg:Bool
 mag:Sl
def qe:Ty TInt:=Ty.agg [.bool,.sl] (λx=>(x.neg,x.mag,())) (λy=>⟨y.1,y.2.1⟩) (λ_=>rfl) (λ_=>rfl)
structure TRat where
 num:TInt
 den:TInt
def Qt:Ty TRat:=Ty.agg [.bool,.sl,.bool,.sl] (λx=>(x.num.neg,x.num.mag,x.den.neg,x.den.mag,())) (λy=>⟨⟨y.1,y.2.1⟩,⟨y.2.2.1,y.2.2.2.1⟩⟩) (λ_=>rfl) (λ_=>rfl)
structure TInterval where
 low:TRat
 high:TRat
namespace F
def zv(m:Sl)(K:Sl->Hp->Prop)(h:Hp):Prop:=(zr (S:=Sl×Unit) (λs1 k2 h1=>(z8 (S:=Unit) (λs3 h2=>(slP s1.1 0 (i64.wrap ((s1.1.len:Int)-1)) 1 λc5=>(k2 (c5,()) h2))) (λk4=>(ifP (decide ((s1.1.len:Int)>0)) (zg s1.1 (i64.wrap ((s1.1.len:Int)-1)) 1 λa6=>(ldL (.int .u32) a6 (λx7=>(ifP (x7==0) (k4 () h1) (K s1.1 h1))) h1)) (K s1.1 h1))))) (m,()) h)
def Yw(n:Int)(K:Sl->Hp->Prop)(h:Hp):Prop:=(0<=(32:Int) /\ (Yo [.int .u32 (u32.wrap (n)),.int .u32 (u32.wrap ((n:Int).fdiv (2 ^ (min (32:Int).toNat u64.bits))))] (λp1 h1=>(zc (zv (⟨some p1,2,2⟩:Sl)) (λr2 h2=>(K r2 h2)) h1)) h))
def yp(neg:Bool)(m:Sl)(K:TInt->Hp->Prop)(h:Hp):Prop:=(zc (zv m) (λr1 h1=>(ifP ((r1.len:Int)==0) (K (⟨false,zf⟩:TInt) h1) (K (⟨neg,r1⟩:TInt) h1))) h)
def Wp(n:Int)(K:TInt->Hp->Prop)(h:Hp):Prop:=(z8 (S:=Int×Unit) (λs1 h1=>(zc (Yw s1.1) (λr3 h2=>(zc (yp (decide (n<0)) r3) (λr4 h3=>(K r4 h3)) h2)) h1)) (λk2=>(ifP (decide (n<0)) (k2 ((u64.wrap (0-(u64.wrap (n)))),()) h) (k2 ((u64.wrap (n)),()) h))))
def z10(K:TInt->Hp->Prop)(h:Hp):Prop:=(zc (Wp 1) (λr1 h1=>(K r1 h1)) h)
def Y9(n:Int)(K:TRat->Hp->Prop)(h:Hp):Prop:=(zc (Wp n) (λr1 h1=>(zc (z10) (λr2 h2=>(K (⟨r1,r2⟩:TRat) h2)) h1)) h)
def Wt(a:TInt)(K:Int->Hp->Prop)(h:Hp):Prop:=(zc (zv a.mag) (λr1 h1=>(ifP ((r1.len:Int)==0) (K 0 h1) (ifP a.neg (K (-1) h1) (K 1 h1)))) h)
def Qm(a:TRat)(K:Int->Hp->Prop)(h:Hp):Prop:=(zc (Wt a.num) (λr1 h1=>(K r1 h1)) h)
def z1k(a:Sl)(b:Sl)(K:Sl->Hp->Prop)(h:Hp):Prop:=(z8 (S:=Unit) (λs1 h1=>(mkP (i64.wrap ((a.len:Int)+(b.len:Int))) (i64.wrap ((a.len:Int)+(b.len:Int))) 4 [.int .u32 0] (λm3 h2=>(zr (S:=Int×Unit) (λs4 k5 h3=>(ifP (decide (s4.1<(a.len:Int))) (zg a s4.1 1 λa6=>(ldL (.int .u32) a6 (λx7=>(zr (S:=Int×Int×Unit) (λs8 k9 h4=>(ifP (decide (s8.2.1<(b.len:Int))) (zg b s8.2.1 1 λa10=>(ldL (.int .u32) a10 (λx11=>(zg m3 (i64.wrap (s4.1+s8.2.1)) 1 λa12=>(ldL (.int .u32) a12 (λx13=>(zg m3 (i64.wrap (s4.1+s8.2.1)) 1 λa14=>(stP a14 [.int .u32 (u32.wrap ((u64.wrap (s8.1+(u64.wrap ((u64.wrap ((u64.wrap (x7))*(u64.wrap (x11))))+(u64.wrap (x13))))))))] (λh5=>(0<=(32:Int) /\ (k9 (((u64.wrap (s8.1+(u64.wrap ((u64.wrap ((u64.wrap (x7))*(u64.wrap (x11))))+(u64.wrap (x13)))))):Int).fdiv (2 ^ (min (32:Int).toNat u64.bits)),(i64.wrap (s8.2.1+1)),()) h5))) h4))) h4))) h4)) (zg m3 (i64.wrap (s4.1+(b.len:Int))) 1 λa15=>(stP a15 [.int .u32 (u32.wrap (s8.1))] (λh6=>(k5 ((i64.wrap (s4.1+1)),()) h6)) h4)))) (0,0,()) h3)) h3)) (zc (zv m3) (λr16 h7=>(K r16 h7)) h3))) (0,()) h2)) h1)) (λk2=>(ifP ((a.len:Int)==0) (K zf h) (ifP ((b.len:Int)==0) (K zf h) (k2 () h)))))
def Qj(a:TInt)(b:TInt)(K:TInt->Hp->Prop)(h:Hp):Prop:=(zc (zv a.mag) (λr1 h1=>(zc (zv b.mag) (λr2 h2=>(zc (z1k r1 r2) (λr3 h3=>(zc (yp (!(a.neg==b.neg)) r3) (λr4 h4=>(K r4 h4)) h3)) h2)) h1)) h)
def z1f(x:Int)(K:Bool->Hp->Prop)(h:Hp):Prop:=(K (x != x) h)
def Qv(x:Int)(y:Int)(K:Int->Hp->Prop)(h:Hp):Prop:=(zc (z1f x) (λr1 h1=>(zc (z1f y) (λr2 h2=>(ifP r1 (ifP r2 (K 0 h2) (K (-1) h2)) (ifP r2 (K 1 h2) (ifP (decide (x<y)) (K (-1) h2) (ifP (decide (x>y)) (K 1 h2) (K 0 h2)))))) h1)) h)
def Vd(x:Int)(K:Bool->Hp->Prop)(h:Hp):Prop:=(K (x != x) h)
def Vn(x:Int)(y:Int)(K:Int->Hp->Prop)(h:Hp):Prop:=(zc (Vd x) (λr1 h1=>(zc (Vd y) (λr2 h2=>(ifP r1 (ifP r2 (K 0 h2) (K (-1) h2)) (ifP r2 (K 1 h2) (ifP (decide (x<y)) (K (-1) h2) (ifP (decide (x>y)) (K 1 h2) (K 0 h2)))))) h1)) h)
def Xq(a:Sl)(b:Sl)(K:Int->Hp->Prop)(h:Hp):Prop:=(ifP ((a.len:Int) != (b.len:Int)) (zc (Qv (a.len:Int) (b.len:Int)) (λr1 h1=>(K r1 h1)) h) (zr (S:=Int×Unit) (λs2 k3 h2=>(ifP (decide (s2.1>=0)) (zg a s2.1 1 λa4=>(ldL (.int .u32) a4 (λx5=>(zg b s2.1 1 λa6=>(ldL (.int .u32) a6 (λx7=>(ifP (x5 != x7) (zg a s2.1 1 λa8=>(ldL (.int .u32) a8 (λx9=>(zg b s2.1 1 λa10=>(ldL (.int .u32) a10 (λx11=>(zc (Vn x9 x11) (λr12 h3=>(K r12 h3)) h2)) h2))) h2)) (k3 ((i64.wrap (s2.1-1)),()) h2))) h2))) h2)) (K 0 h2))) ((i64.wrap ((a.len:Int)-1)),()) h))
def z4l(a:TInt)(b:TInt)(K:Int->Hp->Prop)(h:Hp):Prop:=(zc (Wt a) (λr1 h1=>(zc (Wt b) (λr2 h2=>(ifP (r1 != r2) (zc (Qv r1 r2) (λr3 h3=>(K r3 h3)) h2) (zc (zv a.mag) (λr4 h4=>(zc (zv b.mag) (λr5 h5=>(zc (Xq r4 r5) (λr6 h6=>(K (i64.wrap (r1*r6)) h6)) h5)) h4)) h2))) h1)) h)
def zdd(a:TRat)(b:TRat)(K:Int->Hp->Prop)(h:Hp):Prop:=(zc (Qm a) (λr1 h1=>(zc (Qm b) (λr2 h2=>(ifP (r1 != r2) (ifP (decide (r1<r2)) (K (-1) h2) (K 1 h2)) (zc (Qj a.num b.den) (λr3 h3=>(zc (Qj b.num a.den) (λr4 h4=>(zc (z4l r3 r4) (λr5 h5=>(K r5 h5)) h4)) h3)) h2))) h1)) h)
def z20(a:TInt)(K:Bool->Hp->Prop)(h:Hp):Prop:=(K ((a.mag.len:Int)==0) h)
def Zh(s:Sl)(K:Sl->Hp->Prop)(h:Hp):Prop:=(ifP s.a.isNone (K zf h) (Yo [] (λp1 h1=>(rdO s.a (s.len*1) (λvs2=>(Y5 1 4 [.int .u32 0] (⟨some p1,0,0⟩:Sl) s.len vs2 (λw3 h2=>(K w3 h2)) h1)) h1)) h))
def yt(s:Sl)(K:Addr->Hp->Prop)(h:Hp):Prop:=(Yo [.slice s.a s.len s.cap] (λp1 h1=>(K p1 h1)) h)
def Xi(m:Sl)(K:Int->Hp->Prop)(h:Hp):Prop:=(zc (yt m) (λr1 h1=>(zu6 (S:=(Int×Unit)×Unit) (.leaf (.int .u32)) r1 (λi2 v3 s4 k5 h2=>(0<=(32:Int) /\ (k5 ((Q6 .or .u64 (u64.wrap (s4.1.1*2 ^ (min (32:Int).toNat u64.bits))) (u64.wrap (v3)),()),()) h2))) ((0,()),()) (λs6 h3=>(K s6.1.1 h3)) h1)) h)
def Vr(a:Sl)(b:Int)(K:(Sl×Sl)->Hp->Prop)(h:Hp):Prop:=(mkP (a.len:Int) (a.len:Int) 4 [.int .u32 0] (λm1 h1=>(zr (S:=Int×Int×Unit) (λs2 k3 h2=>(ifP (decide (s2.2.1>=0)) (0<=(32:Int) /\ (zg a s2.2.1 1 λa4=>(ldL (.int .u32) a4 (λx5=>(((u64.wrap (b)):Int)≠0 /\ (zg m1 s2.2.1 1 λa6=>(stP a6 [.int .u32 (u32.wrap ((u64.wrap (((Q6 .or .u64 (u64.wrap (s2.1*2 ^ (min (32:Int).toNat u64.bits))) (u64.wrap (x5))):Int).tdiv (u64.wrap (b))))))] (λh3=>(((u64.wrap (b)):Int)≠0 /\ (k3 (((Q6 .or .u64 (u64.wrap (s2.1*2 ^ (min (32:Int).toNat u64.bits))) (u64.wrap (x5))):Int).tmod (u64.wrap (b)),(i64.wrap (s2.2.1-1)),()) h3))) h2)))) h2))) (zc (zv m1) (λr7 h4=>(zc (Yw s2.1) (λr8 h5=>(K (r7,r8) h5)) h4)) h2))) (0,(i64.wrap ((a.len:Int)-1)),()) h1)) h)
def z1y(x:Int)(K:Int->Hp->Prop)(h:Hp):Prop:=(z8 (S:=Int×Int×Unit) (λs1 h1=>(z8 (S:=Int×Int×Unit) (λs3 h2=>(Qs zL4 (u8.wrap (s3.1)) λc5=>(K (i64.wrap (s3.2.1+(i64.wrap (c5)))) h2))) (λk4=>(ifP (decide (s1.1>=256)) (0<=(8:Int) /\ (k4 ((s1.1:Int).fdiv (2 ^ (min (8:Int).toNat u32.bits)),(i64.wrap (s1.2.1+8)),()) h1)) (k4 (s1.1,s1.2.1,()) h1))))) (λk2=>(ifP (decide (x>=65536)) (0<=(16:Int) /\ (k2 ((x:Int).fdiv (2 ^ (min (16:Int).toNat u32.bits)),16,()) h)) (k2 (x,0,()) h))))
def Xa(x:Int)(K:Int->Hp->Prop)(h:Hp):Prop:=(zc (z1y x) (λr1 h1=>(K (i64.wrap (32-r1)) h1)) h)
def Xm(a:Sl)(n:Int)(K:Sl->Hp->Prop)(h:Hp):Prop:=(mkP (i64.wrap ((a.len:Int)+1)) (i64.wrap ((a.len:Int)+1)) 4 [.int .u32 0] (λm1 h1=>(zr (S:=Int×Unit) (λs2 k3 h2=>(ifP (decide (s2.1<(a.len:Int))) (zg a s2.1 1 λa4=>(ldL (.int .u32) a4 (λx5=>(0<=(n:Int) /\ (zg m1 s2.1 1 λa6=>(ldL (.int .u32) a6 (λx7=>(zg m1 s2.1 1 λa8=>(stP a8 [.int .u32 (Q6 .or .u32 x7 (u32.wrap ((u64.wrap ((u64.wrap (x5))*2 ^ (min (n:Int).toNat u64.bits))))))] (λh3=>(0<=(32:Int) /\ (zg m1 (i64.wrap (s2.1+1)) 1 λa9=>(stP a9 [.int .u32 (u32.wrap (((u64.wrap ((u64.wrap (x5))*2 ^ (min (n:Int).toNat u64.bits))):Int).fdiv (2 ^ (min (32:Int).toNat u64.bits))))] (λh4=>(k3 ((i64.wrap (s2.1+1)),()) h4)) h3)))) h2))) h2)))) h2)) (K m1 h2))) (0,()) h1)) h)
def z0s(u:Sl)(v:Sl)(digit:Int)(K:Bool->Hp->Prop)(h:Hp):Prop:=(zr (S:=Int×Int×Unit) (λs1 k2 h1=>(ifP (decide (s1.2.1<(v.len:Int))) (zg v s1.2.1 1 λa3=>(ldL (.int .u32) a3 (λx4=>(zg u s1.2.1 1 λa5=>(ldL (.int .u32) a5 (λx6=>(zg u s1.2.1 1 λa7=>(stP a7 [.int .u32 (u32.wrap ((u64.wrap ((u64.wrap (x6))-(u64.wrap ((u32.wrap ((u64.wrap ((u64.wrap ((u64.wrap (x4))*digit))+s1.1))))))))))] (λh2=>(0<=(32:Int) /\ (0<=(63:Int) /\ (k2 ((u64.wrap ((((u64.wrap ((u64.wrap ((u64.wrap (x4))*digit))+s1.1)):Int).fdiv (2 ^ (min (32:Int).toNat u64.bits)))+(((u64.wrap ((u64.wrap (x6))-(u64.wrap ((u32.wrap ((u64.wrap ((u64.wrap ((u64.wrap (x4))*digit))+s1.1)))))))):Int).fdiv (2 ^ (min (63:Int).toNat u64.bits))))),(i64.wrap (s1.2.1+1)),()) h2)))) h1))) h1))) h1)) (zg u (v.len:Int) 1 λa8=>(ldL (.int .u32) a8 (λx9=>(zg u (v.len:Int) 1 λa10=>(stP a10 [.int .u32 (u32.wrap ((u64.wrap ((u64.wrap (x9))-s1.1))))] (λh3=>(0<=(63:Int) /\ (K ((((u64.wrap ((u64.wrap (x9))-s1.1)):Int).fdiv (2 ^ (min (63:Int).toNat u64.bits)))==1) h3))) h1))) h1)))) (0,0,()) h)
def z1x(u:Sl)(v:Sl)(K:Unit->Hp->Prop)(h:Hp):Prop:=(zr (S:=Int×Int×Unit) (λs1 k2 h1=>(ifP (decide (s1.2.1<(v.len:Int))) (zg v s1.2.1 1 λa3=>(ldL (.int .u32) a3 (λx4=>(zg u s1.2.1 1 λa5=>(ldL (.int .u32) a5 (λx6=>(zg u s1.2.1 1 λa7=>(stP a7 [.int .u32 (u32.wrap ((u64.wrap (s1.1+(u64.wrap ((u64.wrap (x6))+(u64.wrap (x4))))))))] (λh2=>(0<=(32:Int) /\ (k2 (((u64.wrap (s1.1+(u64.wrap ((u64.wrap (x6))+(u64.wrap (x4)))))):Int).fdiv (2 ^ (min (32:Int).toNat u64.bits)),(i64.wrap (s1.2.1+1)),()) h2))) h1))) h1))) h1)) (zg u (v.len:Int) 1 λa8=>(ldL (.int .u32) a8 (λx9=>(zg u (v.len:Int) 1 λa10=>(stP a10 [.int .u32 (u32.wrap (x9+(u32.wrap (s1.1))))] (λh3=>(K () h3)) h1))) h1)))) (0,0,()) h)
def Vs(a:Sl)(n:Int)(K:Sl->Hp->Prop)(h:Hp):Prop:=(mkP (a.len:Int) (a.len:Int) 4 [.int .u32 0] (λm1 h1=>(zr (S:=Int×Unit) (λs2 k3 h2=>(ifP (decide (s2.1<(a.len:Int))) (z8 (S:=Unit) (λs4 h3=>(k3 ((i64.wrap (s2.1+1)),()) h3)) (λk5=>(zg a s2.1 1 λa6=>(ldL (.int .u32) a6 (λx7=>(0<=(n:Int) /\ (zg m1 s2.1 1 λa8=>(stP a8 [.int .u32 ((x7:Int).fdiv (2 ^ (min (n:Int).toNat u32.bits)))] (λh4=>(ifP (decide ((i64.wrap (s2.1+1))<(a.len:Int))) (zg m1 s2.1 1 λa9=>(ldL (.int .u32) a9 (λx10=>(zg a (i64.wrap (s2.1+1)) 1 λa11=>(ldL (.int .u32) a11 (λx12=>(0<=((i64.wrap (32-n)):Int) /\ (zg m1 s2.1 1 λa13=>(stP a13 [.int .u32 (Q6 .or .u32 x10 (u32.wrap ((u64.wrap ((u64.wrap (x12))*2 ^ (min ((i64.wrap (32-n)):Int).toNat u64.bits))))))] (λh5=>(k5 () h5)) h4)))) h4))) h4)) (k5 () h4))) h2)))) h2)))) (K m1 h2))) (0,()) h1)) h)
def X8(a:Sl)(b:Sl)(K:(Sl×Sl)->Hp->Prop)(h:Hp):Prop:=(zc (Xq a b) (λr1 h1=>(ifP (decide (r1<0)) (zc (Zh a) (λr2 h2=>(K (zf,r2) h2)) h1) (ifP (decide ((a.len:Int)<=2)) (zc (Xi a) (λr3 h3=>(zc (Xi b) (λr4 h4=>((r4:Int)≠0 /\ ((r4:Int)≠0 /\ (zc (Yw (u64.wrap ((r3:Int).tdiv r4))) (λr5 h5=>(zc (Yw ((r3:Int).tmod r4)) (λr6 h6=>(K (r5,r6) h6)) h5)) h4)))) h3)) h1) (ifP ((b.len:Int)==1) (zg b 0 1 λa7=>(ldL (.int .u32) a7 (λx8=>(zc (Vr a x8) (λr9 h7=>(K (r9.1,r9.2) h7)) h1)) h1)) (zg b (i64.wrap ((b.len:Int)-1)) 1 λa10=>(ldL (.int .u32) a10 (λx11=>(zc (Xa x11) (λr12 h8=>(zc (Xm a r12) (λr13 h9=>(zc (Xm b r12) (λr14 h10=>(zc (zv r14) (λr15 h11=>(mkP (i64.wrap ((r13.len:Int)-(r15.len:Int))) (i64.wrap ((r13.len:Int)-(r15.len:Int))) 4 [.int .u32 0] (λm16 h12=>(zg r15 (i64.wrap ((r15.len:Int)-1)) 1 λa17=>(ldL (.int .u32) a17 (λx18=>(zg r15 (i64.wrap ((r15.len:Int)-2)) 1 λa19=>(ldL (.int .u32) a19 (λx20=>(zr (S:=Int×Unit) (λs21 k22 h13=>(ifP (decide (s21.1>=0)) (zg r13 (i64.wrap (s21.1+(r15.len:Int))) 1 λa23=>(ldL (.int .u32) a23 (λx24=>(0<=(32:Int) /\ (zg r13 (i64.wrap ((i64.wrap (s21.1+(r15.len:Int)))-1)) 1 λa25=>(ldL (.int .u32) a25 (λx26=>(((u64.wrap (x18)):Int)≠0 /\ (((u64.wrap (x18)):Int)≠0 /\ (z8 (S:=Int×Unit) (λs27 h14=>(z8 (S:=Int×Unit) (λs29 h15=>(zg m16 s21.1 1 λa31=>(stP a31 [.int .u32 (u32.wrap (s29.1))] (λh16=>(k22 ((i64.wrap (s21.1-1)),()) h16)) h15))) (λk30=>(slP r13 s21.1 (i64.wrap ((i64.wrap (s21.1+(r15.len:Int)))+1)) 1 λc32=>(Y3 (z0s c32 r15 s27.1) (λr33 h17=>(ifP r33 (slP r13 s21.1 (i64.wrap ((i64.wrap (s21.1+(r15.len:Int)))+1)) 1 λc34=>(Y3 (z1x c34 r15) (λr35 h18=>(k30 ((u64.wrap (s27.1-1)),()) h18)) h17)) (k30 (s27.1,()) h17))) h14))))) (λk28=>(zr (S:=Int×Int×Unit) (λs36 k37 h19=>(z8 (S:=Unit) (λs38 h20=>(ifP (decide ((u64.wrap (s36.2.1+(u64.wrap (x18))))>=4294967296)) (k28 ((u64.wrap (s36.1-1)),()) h20) (k37 ((u64.wrap (s36.1-1)),(u64.wrap (s36.2.1+(u64.wrap (x18)))),()) h20))) (λk39=>(ifP (decide (s36.1>=4294967296)) (k39 () h19) (0<=(32:Int) /\ (zg r13 (i64.wrap ((i64.wrap (s21.1+(r15.len:Int)))-2)) 1 λa40=>(ldL (.int .u32) a40 (λx41=>(ifP (decide ((u64.wrap (s36.1*(u64.wrap (x20))))>(Q6 .or .u64 (u64.wrap (s36.2.1*2 ^ (min (32:Int).toNat u64.bits))) (u64.wrap (x41))))) (k39 () h19) (k28 (s36.1,()) h19))) h19))))))) ((u64.wrap (((Q6 .or .u64 (u64.wrap ((u64.wrap (x24))*2 ^ (min (32:Int).toNat u64.bits))) (u64.wrap (x26))):Int).tdiv (u64.wrap (x18)))),((Q6 .or .u64 (u64.wrap ((u64.wrap (x24))*2 ^ (min (32:Int).toNat u64.bits))) (u64.wrap (x26))):Int).tmod (u64.wrap (x18)),()) h13)))))) h13)))) h13)) (slP r13 0 (r15.len:Int) 1 λc42=>(zc (zv m16) (λr43 h21=>(zc (zv c42) (λr44 h22=>(zc (Vs r44 r12) (λr45 h23=>(zc (zv r45) (λr46 h24=>(K (r43,r46) h24)) h23)) h22)) h21)) h13)))) ((i64.wrap ((m16.len:Int)-1)),()) h12)) h12))) h12))) h11)) h10)) h9)) h8)) h1)) h1)))))) h)
def z2e(a:TInt)(b:TInt)(K:TInt->Hp->Prop)(h:Hp):Prop:=(zc (zv a.mag) (λr1 h1=>(zc (zv b.mag) (λr2 h2=>(z8 (S:=Sl×Sl×Unit) (λs3 h3=>(ifP ((s3.2.1.len:Int)==0) (zc (Zh s3.1) (λr5 h4=>(zc (yp false r5) (λr6 h5=>(K r6 h5)) h4)) h3) (zc (Xi s3.1) (λr7 h6=>(zc (Xi s3.2.1) (λr8 h7=>(zr (S:=Int×Int×Unit) (λs9 k10 h8=>(ifP (s9.2.1 != 0) ((s9.2.1:Int)≠0 /\ (k10 (s9.2.1,(s9.1:Int).tmod s9.2.1,()) h8)) (zc (Yw s9.1) (λr11 h9=>(zc (yp false r11) (λr12 h10=>(K r12 h10)) h9)) h8))) (r7,r8,()) h7)) h6)) h3))) (λk4=>(zr (S:=Sl×Sl×Unit) (λs13 k14 h11=>(z8 (S:=Unit) (λs15 h12=>(zc (X8 s13.1 s13.2.1) (λr17 h13=>(k14 (s13.2.1,r17.2,()) h13)) h12)) (λk16=>(ifP (decide ((s13.2.1.len:Int)>2)) (k16 () h11) (ifP (decide ((s13.1.len:Int)>2)) (ifP (decide ((s13.2.1.len:Int)>0)) (k16 () h11) (k4 (s13.1,s13.2.1,()) h11)) (k4 (s13.1,s13.2.1,()) h11)))))) (r1,r2,()) h2)))) h1)) h)
def Qp(a:TInt)(K:Bool->Hp->Prop)(h:Hp):Prop:=(ifP (!a.neg) (ifP ((a.mag.len:Int)==1) (zg a.mag 0 1 λa1=>(ldL (.int .u32) a1 (λx2=>(K (x2==1) h)) h)) (K false h)) (K false h))
def z0r(a:Sl)(b:Sl)(K:Sl->Hp->Prop)(h:Hp):Prop:=(z8 (S:=Sl×Sl×Unit) (λs1 h1=>(mkP 0 (i64.wrap ((s1.1.len:Int)+1)) 4 [.int .u32 0] (λm3 h2=>(zr (S:=Sl×Int×Int×Unit) (λs4 k5 h3=>(ifP (decide (s4.2.2.1<(s1.1.len:Int))) (zg s1.1 s4.2.2.1 1 λa6=>(ldL (.int .u32) a6 (λx7=>(z8 (S:=Int×Unit) (λs8 h4=>(Y5 1 4 [.int .u32 0] s4.1 1 [.int .u32 (u32.wrap (s8.1))] (λw10 h5=>(0<=(32:Int) /\ (k5 (w10,(s8.1:Int).fdiv (2 ^ (min (32:Int).toNat u64.bits)),(i64.wrap (s4.2.2.1+1)),()) h5))) h4)) (λk9=>(ifP (decide (s4.2.2.1<(s1.2.1.len:Int))) (zg s1.2.1 s4.2.2.1 1 λa11=>(ldL (.int .u32) a11 (λx12=>(k9 ((u64.wrap ((u64.wrap (s4.2.1+(u64.wrap (x7))))+(u64.wrap (x12)))),()) h3)) h3)) (k9 ((u64.wrap (s4.2.1+(u64.wrap (x7)))),()) h3))))) h3)) (ifP (decide (s4.2.1>0)) (Y5 1 4 [.int .u32 0] s4.1 1 [.int .u32 (u32.wrap (s4.2.1))] (λw13 h6=>(K w13 h6)) h3) (K s4.1 h3)))) (m3,0,0,()) h2)) h1)) (λk2=>(ifP (decide ((a.len:Int)<(b.len:Int))) (k2 (b,a,()) h) (k2 (a,b,()) h))))
def Wz(a:Sl)(b:Sl)(K:Sl->Hp->Prop)(h:Hp):Prop:=(mkP (a.len:Int) (a.len:Int) 4 [.int .u32 0] (λm1 h1=>(zr (S:=Int×Int×Unit) (λs2 k3 h2=>(ifP (decide (s2.2.1<(a.len:Int))) (zg a s2.2.1 1 λa4=>(ldL (.int .u32) a4 (λx5=>(z8 (S:=Int×Unit) (λs6 h3=>(zg m1 s2.2.1 1 λa8=>(stP a8 [.int .u32 (u32.wrap (s6.1))] (λh4=>(0<=(63:Int) /\ (k3 ((s6.1:Int).fdiv (2 ^ (min (63:Int).toNat u64.bits)),(i64.wrap (s2.2.1+1)),()) h4))) h3))) (λk7=>(ifP (decide (s2.2.1<(b.len:Int))) (zg b s2.2.1 1 λa9=>(ldL (.int .u32) a9 (λx10=>(k7 ((u64.wrap ((u64.wrap ((u64.wrap (x5))-s2.1))-(u64.wrap (x10)))),()) h2)) h2)) (k7 ((u64.wrap ((u64.wrap (x5))-s2.1)),()) h2))))) h2)) (zc (zv m1) (λr11 h5=>(K r11 h5)) h2))) (0,0,()) h1)) h)
def z2w(a:TInt)(b:TInt)(K:(TInt×TInt×Int)->Hp->Prop)(h:Hp):Prop:=(zc (zv b.mag) (λr1 h1=>(ifP ((r1.len:Int)==0) (K ((⟨false,zf⟩:TInt),(⟨false,zf⟩:TInt),6) h1) (zc (zv a.mag) (λr2 h2=>(zc (X8 r2 r1) (λr3 h3=>(z8 (S:=Sl×Sl×Unit) (λs4 h4=>(zc (yp (!(a.neg==b.neg)) s4.1) (λr6 h5=>(zc (yp b.neg s4.2.1) (λr7 h6=>(K (r6,r7,0) h6)) h5)) h4)) (λk5=>(ifP (!(a.neg==b.neg)) (ifP (decide ((r3.2.len:Int)>0)) (Yo [.int .u32 1] (λp8 h7=>(zc (z0r r3.1 (⟨some p8,1,1⟩:Sl)) (λr9 h8=>(zc (Wz r1 r3.2) (λr10 h9=>(k5 (r9,r10,()) h9)) h8)) h7)) h3) (k5 (r3.1,r3.2,()) h3)) (k5 (r3.1,r3.2,()) h3))))) h2)) h1))) h)
def z33(a:TInt)(b:TInt)(K:TInt->Hp->Prop)(h:Hp):Prop:=(zc (Qp b) (λr1 h1=>(ifP r1 (K a h1) (zc (z2w a b) (λr2 h2=>(K (⟨r2.1.neg,r2.1.mag⟩:TInt) h2)) h1))) h)
def z4m(a:TInt)(K:TInt->Hp->Prop)(h:Hp):Prop:=(zc (zv a.mag) (λr1 h1=>(zc (Zh r1) (λr2 h2=>(zc (yp (!a.neg) r2) (λr3 h3=>(K r3 h3)) h2)) h1)) h)
def Wq(num:TInt)(den:TInt)(K:TRat->Hp->Prop)(h:Hp):Prop:=(zc (z2e num den) (λr1 h1=>(z8 (S:=(Bool×Sl×Unit)×Unit) (λs2 h2=>(zc (z33 num (⟨s2.1.1,s2.1.2.1⟩:TInt)) (λr4 h3=>(zc (z33 den (⟨s2.1.1,s2.1.2.1⟩:TInt)) (λr5 h4=>(K (⟨r4,r5⟩:TRat) h4)) h3)) h2)) (λk3=>(ifP den.neg (zc (z4m r1) (λr6 h5=>(k3 ((r6.neg,r6.mag,()),()) h5)) h1) (k3 ((r1.neg,r1.mag,()),()) h1))))) h)
def z5k(a:TRat)(b:TRat)(K:(TRat×Int)->Hp->Prop)(h:Hp):Prop:=(zc (z20 b.num) (λr1 h1=>(ifP r1 (K ((⟨(⟨false,zf⟩:TInt),(⟨false,zf⟩:TInt)⟩:TRat),6) h1) (zc (Qj a.num b.den) (λr2 h2=>(zc (Qj a.den b.num) (λr3 h3=>(zc (Wq r2 r3) (λr4 h4=>(K (r4,0) h4)) h3)) h2)) h1))) h)
def z32(a:TRat)(b:TRat)(K:TRat->Hp->Prop)(h:Hp):Prop:=(z8 (S:=(Bool×Sl×Bool×Sl×Unit)×Unit) (λs1 h1=>(zc (Qj a.num b.num) (λr3 h2=>(zc (Qj a.den b.den) (λr4 h3=>(zc (Wq r3 r4) (λr5 h4=>(K r5 h4)) h3)) h2)) h1)) (λk2=>(zc (Qp a.den) (λr6 h5=>(ifP r6 (zc (Qp b.den) (λr7 h6=>(ifP r7 (zc (Qj a.num b.num) (λr8 h7=>(zc (z10) (λr9 h8=>(K (⟨r8,r9⟩:TRat) h8)) h7)) h6) (k2 ((false,zf,false,zf,()),()) h6))) h5) (k2 ((false,zf,false,zf,()),()) h5))) h)))
def z4k(a:TInt)(b:TInt)(K:TInt->Hp->Prop)(h:Hp):Prop:=(zc (zv a.mag) (λr1 h1=>(zc (zv b.mag) (λr2 h2=>(ifP (a.neg==b.neg) (zc (z0r r1 r2) (λr3 h3=>(zc (yp a.neg r3) (λr4 h4=>(K r4 h4)) h3)) h2) (zc (Xq r1 r2) (λr5 h5=>(ifP (decide (r5<0)) (zc (Wz r2 r1) (λr6 h6=>(zc (yp b.neg r6) (λr7 h7=>(K r7 h7)) h6)) h5) (zc (Wz r1 r2) (λr8 h8=>(zc (yp a.neg r8) (λr9 h9=>(K r9 h9)) h8)) h5))) h2))) h1)) h)
def z5j(a:TRat)(b:TRat)(K:TRat->Hp->Prop)(h:Hp):Prop:=(z8 (S:=(Bool×Sl×Bool×Sl×Unit)×Unit) (λs1 h1=>(zc (Qj a.num b.den) (λr3 h2=>(zc (Qj b.num a.den) (λr4 h3=>(zc (z4k r3 r4) (λr5 h4=>(zc (Qj a.den b.den) (λr6 h5=>(zc (Wq r5 r6) (λr7 h6=>(K r7 h6)) h5)) h4)) h3)) h2)) h1)) (λk2=>(zc (Qp a.den) (λr8 h7=>(ifP r8 (zc (Qp b.den) (λr9 h8=>(ifP r9 (zc (z4k a.num b.num) (λr10 h9=>(zc (z10) (λr11 h10=>(K (⟨r10,r11⟩:TRat) h10)) h9)) h8) (k2 ((false,zf,false,zf,()),()) h8))) h7) (k2 ((false,zf,false,zf,()),()) h7))) h)))
def z6d(m:Sl)(K:Sl->Hp->Prop)(h:Hp):Prop:=(zr (S:=Sl×Unit) (λs1 k2 h1=>(z8 (S:=Unit) (λs3 h2=>(slP s1.1 0 (i64.wrap ((s1.1.len:Int)-1)) 1 λc5=>(k2 (c5,()) h2))) (λk4=>(ifP (decide ((s1.1.len:Int)>0)) (zg s1.1 (i64.wrap ((s1.1.len:Int)-1)) 1 λa6=>(ldL (.int .u32) a6 (λx7=>(ifP (x7==0) (k4 () h1) (K s1.1 h1))) h1)) (K s1.1 h1))))) (m,()) h)
def Vy(neg:Bool)(m:Sl)(K:TInt->Hp->Prop)(h:Hp):Prop:=(zc (z6d m) (λr1 h1=>(ifP neg (K (⟨decide ((r1.len:Int)>0),r1⟩:TInt) h1) (K (⟨false,r1⟩:TInt) h1))) h)
def z2j(n:Int)(K:Sl->Hp->Prop)(h:Hp):Prop:=(0<=(32:Int) /\ (Yo [.int .u32 (u32.wrap (n)),.int .u32 (u32.wrap ((n:Int).fdiv (2 ^ (min (32:Int).toNat u64.bits))))] (λp1 h1=>(zc (z6d (⟨some p1,2,2⟩:Sl)) (λr2 h2=>(K r2 h2)) h1)) h))
def z1p(n:Int)(K:TInt->Hp->Prop)(h:Hp):Prop:=(ifP (decide (n<0)) (zc (z2j (u64.wrap (0-(u64.wrap (n))))) (λr1 h1=>(zc (Vy true r1) (λr2 h2=>(K r2 h2)) h1)) h) (zc (z2j (u64.wrap (n))) (λr3 h3=>(zc (Vy false r3) (λr4 h4=>(K r4 h4)) h3)) h))
def W7(n:Int)(K:TRat->Hp->Prop)(h:Hp):Prop:=(zc (z1p n) (λr1 h1=>(zc (z1p 1) (λr2 h2=>(K (⟨r1,r2⟩:TRat) h2)) h1)) h)
def z5l(a:TRat)(K:TRat->Hp->Prop)(h:Hp):Prop:=(zc (z4m a.num) (λr1 h1=>(K (⟨r1,a.den⟩:TRat) h1)) h)
def z1j(a:TInt)(K:Bool->Hp->Prop)(h:Hp):Prop:=(ifP ((a.mag.len:Int)==0) (ifP (!a.neg) (K true h) (ifP (decide ((a.mag.len:Int)>0)) (zg a.mag (i64.wrap ((a.mag.len:Int)-1)) 1 λa1=>(ldL (.int .u32) a1 (λx2=>(K (x2 != 0) h)) h)) (K false h))) (ifP (decide ((a.mag.len:Int)>0)) (zg a.mag (i64.wrap ((a.mag.len:Int)-1)) 1 λa3=>(ldL (.int .u32) a3 (λx4=>(K (x4 != 0) h)) h)) (K false h)))
def qv(a:TRat)(K:Bool->Hp->Prop)(h:Hp):Prop:=(zc (z1j a.num) (λr1 h1=>(ifP r1 (zc (z1j a.den) (λr2 h2=>(ifP r2 (zc (Wt a.den) (λr3 h3=>(ifP (decide (r3>0)) (zc (z2e a.num a.den) (λr4 h4=>(zc (Qp r4) (λr5 h5=>(K r5 h5)) h4)) h3) (K false h3))) h2) (K false h2))) h1) (K false h1))) h)
end F
end Den
end

section
set_option maxRecDepth 10000
namespace Den
open Go
namespace F
def z0c(c:Int)(K:Bool->Hp->Prop)(h:Hp):Prop:=(ifP (decide (c>=97)) (ifP (decide (c<=122)) (K true h) (ifP (decide (c>=65)) (K (decide (c<=90)) h) (K false h))) (ifP (decide (c>=65)) (K (decide (c<=90)) h) (K false h)))
def z1l(c:Int)(K:Bool->Hp->Prop)(h:Hp):Prop:=(ifP (decide (c>=48)) (K (decide (c<=57)) h) (K false h))
def z5g(c:Int)(K:Bool->Hp->Prop)(h:Hp):Prop:=(zc (z0c c) (λr1 h1=>(ifP r1 (K true h1) (zc (z1l c) (λr2 h2=>(ifP r2 (K true h2) (K (c==95) h2))) h1))) h)
def Xn(s:ByteArray)(K:Int->Hp->Prop)(h:Hp):Prop:=(zr (S:=Int×Unit) (λs1 k2 h1=>(z8 (S:=Unit) (λs3 h2=>(k2 ((i64.wrap (s1.1+1)),()) h2)) (λk4=>(ifP (decide (s1.1<((s:ByteArray).size:Int))) (Qs s s1.1 λc5=>(zc (z5g c5) (λr6 h3=>(ifP r6 (k4 () h3) (K s1.1 h3))) h1)) (K s1.1 h1))))) (0,()) h)
def z0t(s:ByteArray)(K:Bool->Hp->Prop)(h:Hp):Prop:=(ifP (!((s:ByteArray).toList==(X6:ByteArray).toList)) (ifP (decide (((s:ByteArray).size:Int)<=24)) (Qs s 0 λc1=>(zc (z0c c1) (λr2 h1=>(ifP r2 (zc (Xn s) (λr3 h2=>(K (r3==((s:ByteArray).size:Int)) h2)) h1) (K false h1))) h)) (K false h)) (K false h))
def Q2(b:(Option Addr))(K:Unit->Hp->Prop)(h:Hp):Prop:=∃n bl,b=some ⟨n,0,none⟩/\h n=some bl/\bl.elem=364/\bl.fz=(0,0)/\bl.cells.length=2 /\ ((bl.cells[0]?=some (.pointer none)/\K () (h.ins n { bl with cells:=bl.cells.set 0 (.pointer b) }))\/(bl.cells[0]?=some (.pointer b)/\K () h))
def z17(b:(Option Addr))(c:Int)(K:Value->Hp->Prop)(h:Hp):Prop:=(Y3 (Q2 b) (λr1 h1=>(yu b λp2=>(ldL (.sl) (p2.add 1) (λx3=>(zl0 5 1 1 [.int .u8 0] x3 1 [.int .u8 c] (λw4 h2=>(yu b λp5=>(stP (p5.add 1) [.slice w4.a w4.len w4.cap] (λh3=>(K (.nilIface) h3)) h2))) h1)) h1))) h)
def X1(b:(Option Addr))(K:ByteArray->Hp->Prop)(h:Hp):Prop:=∃n bl p,b=some ⟨n,0,none⟩/\h n=some bl/\bl.elem=364/\bl.fz=(0,0) /\ ((bl.cells=[p,.slice none 0 0]/\K X6 h) \/ (∃(g c:Nat) (l:List UInt8) (bg:Blk),l≠[]/\bl.cells=[p,.slice (some ⟨g,0,none⟩) l.length c]/\l.length<=c/\h g=some bg/\bg.elem=5/\l.length<=bg.cells.length/\l.length<=140737488355328 /\ (∀(j:Nat) (x:UInt8),l[j]?=some x->bg.cells[j]?=some (.int .u8 x.toNat))/\K ⟨l.toArray⟩ (λk=>if k=g then none else h k)))
def Zs(b:(Option Addr))(s:ByteArray)(K:(Int×Value)->Hp->Prop)(h:Hp):Prop:=(Y3 (Q2 b) (λr1 h1=>(yu b λp2=>(ldL (.sl) (p2.add 1) (λx3=>(zl0 5 1 1 [.int .u8 0] x3 ((s:ByteArray).size) (Vb s) (λw5 h2=>(yu b λp6=>(stP (p6.add 1) [.slice w5.a w5.len w5.cap] (λh3=>(K (((s:ByteArray).size:Int),.nilIface) h3)) h2))) h1)) h1))) h)
end F
end Den
end

section
set_option maxRecDepth 10000
namespace Den
open Go
structure TSketch where
 points:Sl
 circles:Sl
 segments:Sl
 arcs:Sl
 chains:Sl
 constraints:Sl
def z05:Ty TSketch:=Ty.agg [.sl,.sl,.sl,.sl,.sl,.sl] (λx=>(x.points,x.circles,x.segments,x.arcs,x.chains,x.constraints,())) (λy=>⟨y.1,y.2.1,y.2.2.1,y.2.2.2.1,y.2.2.2.2.1,y.2.2.2.2.2.1⟩) (λ_=>rfl) (λ_=>rfl)
structure TPoint where
 x:TRat
 y:TRat
def zpi:Ty TPoint:=Ty.agg [.bool,.sl,.bool,.sl,.bool,.sl,.bool,.sl] (λx=>(x.x.num.neg,x.x.num.mag,x.x.den.neg,x.x.den.mag,x.y.num.neg,x.y.num.mag,x.y.den.neg,x.y.den.mag,())) (λy=>⟨⟨⟨y.1,y.2.1⟩,⟨y.2.2.1,y.2.2.2.1⟩⟩,⟨⟨y.2.2.2.2.1,y.2.2.2.2.2.1⟩,⟨y.2.2.2.2.2.2.1,y.2.2.2.2.2.2.2.1⟩⟩⟩) (λ_=>rfl) (λ_=>rfl)
structure TRound where
 center:Int
 radius:TRat
def zpj:Ty TRound:=Ty.agg [.int .i64,.bool,.sl,.bool,.sl] (λx=>(x.center,x.radius.num.neg,x.radius.num.mag,x.radius.den.neg,x.radius.den.mag,())) (λy=>⟨y.1,⟨⟨y.2.1,y.2.2.1⟩,⟨y.2.2.2.1,y.2.2.2.2.1⟩⟩⟩) (λ_=>rfl) (λ_=>rfl)
structure TSegment where
 a:Int
 b:Int
def ziw:Ty TSegment:=Ty.agg [.int .i64,.int .i64] (λx=>(x.a,x.b,())) (λy=>⟨y.1,y.2.1⟩) (λ_=>rfl) (λ_=>rfl)
structure TArc where
 circle:Int
 a:Int
 b:Int
 cw:Bool
def zu0:Ty TArc:=Ty.agg [.int .i64,.int .i64,.int .i64,.bool] (λx=>(x.circle,x.a,x.b,x.cw,())) (λy=>⟨y.1,y.2.1,y.2.2.1,y.2.2.2.1⟩) (λ_=>rfl) (λ_=>rfl)
structure TPiece where
 arc:Bool
 index:Int
 back:Bool
def Z6u:Ty TPiece:=Ty.agg [.bool,.int .i64,.bool] (λx=>(x.arc,x.index,x.back,())) (λy=>⟨y.1,y.2.1,y.2.2.1⟩) (λ_=>rfl) (λ_=>rfl)
structure TConstraint where
 kind:Int
 points:Sl
 circles:Sl
 values:Sl
 side:Int
def Xd:Ty TConstraint:=Ty.agg [.int .i64,.sl,.sl,.sl,.int .i64] (λx=>(x.kind,x.points,x.circles,x.values,x.side,())) (λy=>⟨y.1,y.2.1,y.2.2.1,y.2.2.2.1,y.2.2.2.2.1⟩) (λ_=>rfl) (λ_=>rfl)
structure Tconstraint_Shape where
 points:Int
 circles:Int
 values:Int
 equations:Int
 side:Bool
 length:Bool
 positive:Bool
def zbd:Ty Tconstraint_Shape:=Ty.agg [.int .i64,.int .i64,.int .i64,.int .i64,.bool,.bool,.bool] (λx=>(x.points,x.circles,x.values,x.equations,x.side,x.length,x.positive,())) (λy=>⟨y.1,y.2.1,y.2.2.1,y.2.2.2.1,y.2.2.2.2.1,y.2.2.2.2.2.1,y.2.2.2.2.2.2.1⟩) (λ_=>rfl) (λ_=>rfl)
structure TExpr where
 op:Int
 value:TRat
 name:ByteArray
 args:Sl
def z93:Ty TExpr:=Ty.agg [.int .i64,.bool,.sl,.bool,.sl,.str,.sl] (λx=>(x.op,x.value.num.neg,x.value.num.mag,x.value.den.neg,x.value.den.mag,x.name,x.args,())) (λy=>⟨y.1,⟨⟨y.2.1,y.2.2.1⟩,⟨y.2.2.2.1,y.2.2.2.2.1⟩⟩,y.2.2.2.2.2.1,y.2.2.2.2.2.2.1⟩) (λ_=>rfl) (λ_=>rfl)
structure TPlan where
 steps:Sl
 checks:Sl
structure TStep where
 kind:Int
 target:Int
 uses:Sl
 branch:Int
structure TGraph where
 n:Int
 edges:Sl
def Xs:Ty TGraph:=Ty.agg [.int .i64,.sl] (λx=>(x.n,x.edges,())) (λy=>⟨y.1,y.2.1⟩) (λ_=>rfl) (λ_=>rfl)
structure A2_Int where
 c0:Int
 c1:Int
def z0k:Ty A2_Int:=Ty.agg [.int .i64,.int .i64] (λx=>(x.c0,x.c1,())) (λy=>⟨y.1,y.2.1⟩) (λ_=>rfl) (λ_=>rfl)
namespace F
def z3w(c:Sl)(K:Bool->Hp->Prop)(h:Hp):Prop:=(K (decide ((c.len:Int)>200)) h)
def yh(s:Sl)(K:Int->Hp->Prop)(h:Hp):Prop:=(zr (S:=Int×Unit) (λs1 k2 h1=>(ifP (decide (s1.1<(s.len:Int))) (zg s s1.1 1 λa3=>(ldL (.sl) a3 (λx4=>(zc (z3w x4) (λr5 h2=>(ifP r5 (K s1.1 h2) (k2 ((i64.wrap (s1.1+1)),()) h2))) h1)) h1)) (K (-1) h1))) (0,()) h)
def Z5(s:Sl)(K:Bool->Hp->Prop)(h:Hp):Prop:=(zc (yh s) (λr1 h1=>(K (decide (r1>=0)) h1)) h)
def z3a(s:TSketch)(K:Bool->Hp->Prop)(h:Hp):Prop:=(Yo [.int .i64 (s.points.len:Int),.int .i64 (s.circles.len:Int),.int .i64 (s.segments.len:Int),.int .i64 (s.arcs.len:Int),.int .i64 (s.chains.len:Int),.int .i64 (s.constraints.len:Int)] (λp1 h1=>(zr (S:=Int×Unit) (λs2 k3 h2=>(ifP (decide (s2.1<((⟨some p1,6,6⟩:Sl).len:Int))) (zg (⟨some p1,6,6⟩:Sl) s2.1 1 λa4=>(ldL (.int .i64) a4 (λx5=>(ifP (decide (x5>200)) (K true h2) (k3 ((i64.wrap (s2.1+1)),()) h2))) h2)) (zc (Z5 s.chains) (λr6 h3=>(K r6 h3)) h2))) (0,()) h1)) h)
def z6g(p:TPoint)(K:Bool->Hp->Prop)(h:Hp):Prop:=(zc (qv p.x) (λr1 h1=>(ifP r1 (zc (qv p.y) (λr2 h2=>(K r2 h2)) h1) (K false h1))) h)
def qb(x:TPoint)(v0:(Option Addr))(K:Bool->Hp->Prop)(h:Hp):Prop:=(yu v0 λp1=>(ldL (.val) p1 (λx2=>(x2=.func (.func 72) #[] #[] /\ (zc (z6g x) (λr3 h1=>(K (!r3) h1)) h))) h))
def Zj(s:Sl)(f1:(Option Addr×Unit))(K:Int->Hp->Prop)(h:Hp):Prop:=(zr (S:=Int×Unit) (λs1 k2 h1=>(ifP (decide (s1.1<(s.len:Int))) (zg s s1.1 8 λa3=>(ldL (.bool) (a3.add 0) (λx4_0=>(ldL (.sl) (a3.add 1) (λx4_1=>(ldL (.bool) (a3.add 2) (λx4_2=>(ldL (.sl) (a3.add 3) (λx4_3=>(ldL (.bool) (a3.add 4) (λx4_4=>(ldL (.sl) (a3.add 5) (λx4_5=>(ldL (.bool) (a3.add 6) (λx4_6=>(ldL (.sl) (a3.add 7) (λx4_7=>(zc (qb (⟨(⟨(⟨x4_0,x4_1⟩:TInt),(⟨x4_2,x4_3⟩:TInt)⟩:TRat),(⟨(⟨x4_4,x4_5⟩:TInt),(⟨x4_6,x4_7⟩:TInt)⟩:TRat)⟩:TPoint) f1.1) (λr5 h2=>(ifP r5 (K s1.1 h2) (k2 ((i64.wrap (s1.1+1)),()) h2))) h1)) h1)) h1)) h1)) h1)) h1)) h1)) h1)) h1)) (K (-1) h1))) (0,()) h)
def Zd(s:Sl)(f1:(Option Addr×Unit))(K:Bool->Hp->Prop)(h:Hp):Prop:=(zc (Zj s (f1.1,())) (λr1 h1=>(K (decide (r1>=0)) h1)) h)
def Yk(l:Sl)(K:Bool->Hp->Prop)(h:Hp):Prop:=(Yo [.func (.func 72) #[] #[]] (λp1 h1=>(zc (Zd l ((some p1),())) (λr2 h2=>(K (!r2) h2)) h1)) h)
def W8(n:Int)(i:Int)(K:Bool->Hp->Prop)(h:Hp):Prop:=(ifP (decide (i>=0)) (K (decide (i<n)) h) (K false h))
def z6h(c:TRound)(v0:(Option Addr))(K:Bool->Hp->Prop)(h:Hp):Prop:=(yu v0 λp1=>(ldL (.int .i64) p1 (λx2=>(zc (W8 x2 c.center) (λr3 h1=>(ifP r3 (zc (qv c.radius) (λr4 h2=>(ifP r4 (zc (Qm c.radius) (λr5 h3=>(K (decide (r5>0)) h3)) h2) (K false h2))) h1) (K false h1))) h)) h))
def qd(x:TRound)(v0:(Option Addr))(K:Bool->Hp->Prop)(h:Hp):Prop:=(yu v0 λp1=>(ldL (.val) p1 (λx2=>∃c3:Option Addr,(x2=.func (.func 75) #[] #[.pointer c3] /\ (zc (z6h x c3) (λr4 h1=>(K (!r4) h1)) h))) h))
def Zk(s:Sl)(f1:(Option Addr×Unit))(K:Int->Hp->Prop)(h:Hp):Prop:=(zr (S:=Int×Unit) (λs1 k2 h1=>(ifP (decide (s1.1<(s.len:Int))) (zg s s1.1 5 λa3=>(ldL (.int .i64) (a3.add 0) (λx4_0=>(ldL (.bool) (a3.add 1) (λx4_1=>(ldL (.sl) (a3.add 2) (λx4_2=>(ldL (.bool) (a3.add 3) (λx4_3=>(ldL (.sl) (a3.add 4) (λx4_4=>(zc (qd (⟨x4_0,(⟨(⟨x4_1,x4_2⟩:TInt),(⟨x4_3,x4_4⟩:TInt)⟩:TRat)⟩:TRound) f1.1) (λr5 h2=>(ifP r5 (K s1.1 h2) (k2 ((i64.wrap (s1.1+1)),()) h2))) h1)) h1)) h1)) h1)) h1)) h1)) (K (-1) h1))) (0,()) h)
def Ze(s:Sl)(f1:(Option Addr×Unit))(K:Bool->Hp->Prop)(h:Hp):Prop:=(zc (Zk s (f1.1,())) (λr1 h1=>(K (decide (r1>=0)) h1)) h)
def Yl(l:Sl)(f1:(Option Addr×Unit))(K:Bool->Hp->Prop)(h:Hp):Prop:=(Yo [.func (.func 75) #[] #[.pointer f1.1]] (λp1 h1=>(zc (Ze l ((some p1),())) (λr2 h2=>(K (!r2) h2)) h1)) h)
def z6i(g:TSegment)(v0:(Option Addr))(K:Bool->Hp->Prop)(h:Hp):Prop:=(yu v0 λp1=>(ldL (.int .i64) p1 (λx2=>(zc (W8 x2 g.a) (λr3 h1=>(ifP r3 (yu v0 λp4=>(ldL (.int .i64) p4 (λx5=>(zc (W8 x5 g.b) (λr6 h2=>(ifP r6 (K (g.a != g.b) h2) (K false h2))) h1)) h1)) (K false h1))) h)) h))
def Y1(x:TSegment)(v0:(Option Addr))(K:Bool->Hp->Prop)(h:Hp):Prop:=(yu v0 λp1=>(ldL (.val) p1 (λx2=>∃c3:Option Addr,(x2=.func (.func 79) #[] #[.pointer c3] /\ (zc (z6i x c3) (λr4 h1=>(K (!r4) h1)) h))) h))
def Za(s:Sl)(f1:(Option Addr×Unit))(K:Int->Hp->Prop)(h:Hp):Prop:=(zr (S:=Int×Unit) (λs1 k2 h1=>(ifP (decide (s1.1<(s.len:Int))) (zg s s1.1 2 λa3=>(ldL (.int .i64) (a3.add 0) (λx4_0=>(ldL (.int .i64) (a3.add 1) (λx4_1=>(zc (Y1 (⟨x4_0,x4_1⟩:TSegment) f1.1) (λr5 h2=>(ifP r5 (K s1.1 h2) (k2 ((i64.wrap (s1.1+1)),()) h2))) h1)) h1)) h1)) (K (-1) h1))) (0,()) h)
def z7(s:Sl)(f1:(Option Addr×Unit))(K:Bool->Hp->Prop)(h:Hp):Prop:=(zc (Za s (f1.1,())) (λr1 h1=>(K (decide (r1>=0)) h1)) h)
def Yb(l:Sl)(f1:(Option Addr×Unit))(K:Bool->Hp->Prop)(h:Hp):Prop:=(Yo [.func (.func 79) #[] #[.pointer f1.1]] (λp1 h1=>(zc (z7 l ((some p1),())) (λr2 h2=>(K (!r2) h2)) h1)) h)
def z21(s:TSketch)(a:TArc)(K:Bool->Hp->Prop)(h:Hp):Prop:=(z8 (S:=Unit) (λs1 h1=>(zg s.circles a.circle 5 λa3=>(ldL (.int .i64) (a3.add 0) (λx4=>(ifP (a.a != x4) (K (a.b != x4) h1) (K false h1))) h1))) (λk2=>(zc (W8 (s.circles.len:Int) a.circle) (λr5 h2=>(ifP (!r5) (K false h2) (zc (W8 (s.points.len:Int) a.a) (λr6 h3=>(ifP (!r6) (K false h3) (zc (W8 (s.points.len:Int) a.b) (λr7 h4=>(ifP (!r7) (K false h4) (k2 () h4))) h3))) h2))) h)))
def z6j(a:TArc)(v0:(Option Addr))(K:Bool->Hp->Prop)(h:Hp):Prop:=(yu v0 λp1=>(ldL (.sl) (p1.add 0) (λx2_0=>(ldL (.sl) (p1.add 1) (λx2_1=>(ldL (.sl) (p1.add 2) (λx2_2=>(ldL (.sl) (p1.add 3) (λx2_3=>(ldL (.sl) (p1.add 4) (λx2_4=>(ldL (.sl) (p1.add 5) (λx2_5=>(zc (z21 (⟨x2_0,x2_1,x2_2,x2_3,x2_4,x2_5⟩:TSketch) a) (λr3 h1=>(K r3 h1)) h)) h)) h)) h)) h)) h)) h))
def qw(x:TArc)(v0:(Option Addr))(K:Bool->Hp->Prop)(h:Hp):Prop:=(yu v0 λp1=>(ldL (.val) p1 (λx2=>∃c3:Option Addr,(x2=.func (.func 81) #[] #[.pointer c3] /\ (zc (z6j x c3) (λr4 h1=>(K (!r4) h1)) h))) h))
def Zo(s:Sl)(f1:(Option Addr×Unit))(K:Int->Hp->Prop)(h:Hp):Prop:=(zr (S:=Int×Unit) (λs1 k2 h1=>(ifP (decide (s1.1<(s.len:Int))) (zg s s1.1 4 λa3=>(ldL (.int .i64) (a3.add 0) (λx4_0=>(ldL (.int .i64) (a3.add 1) (λx4_1=>(ldL (.int .i64) (a3.add 2) (λx4_2=>(ldL (.bool) (a3.add 3) (λx4_3=>(zc (qw (⟨x4_0,x4_1,x4_2,x4_3⟩:TArc) f1.1) (λr5 h2=>(ifP r5 (K s1.1 h2) (k2 ((i64.wrap (s1.1+1)),()) h2))) h1)) h1)) h1)) h1)) h1)) (K (-1) h1))) (0,()) h)
def Zl(s:Sl)(f1:(Option Addr×Unit))(K:Bool->Hp->Prop)(h:Hp):Prop:=(zc (Zo s (f1.1,())) (λr1 h1=>(K (decide (r1>=0)) h1)) h)
def Yu(l:Sl)(f1:(Option Addr×Unit))(K:Bool->Hp->Prop)(h:Hp):Prop:=(Yo [.func (.func 81) #[] #[.pointer f1.1]] (λp1 h1=>(zc (Zl l ((some p1),())) (λr2 h2=>(K (!r2) h2)) h1)) h)
def z4t(s:TSketch)(p:TPiece)(K:(Int×Int)->Hp->Prop)(h:Hp):Prop:=(z8 (S:=Int×Int×Unit) (λs1 h1=>(ifP p.back (K (s1.2.1,s1.1) h1) (K (s1.1,s1.2.1) h1))) (λk2=>(ifP p.arc (zg s.arcs p.index 4 λa3=>(ldL (.int .i64) (a3.add 1) (λx4=>(zg s.arcs p.index 4 λa5=>(ldL (.int .i64) (a5.add 2) (λx6=>(k2 (x4,x6,()) h)) h))) h)) (zg s.segments p.index 2 λa7=>(ldL (.int .i64) (a7.add 0) (λx8=>(zg s.segments p.index 2 λa9=>(ldL (.int .i64) (a9.add 1) (λx10=>(k2 (x8,x10,()) h)) h))) h)))))
def z08(s:TSketch)(c:Sl)(K:Bool->Hp->Prop)(h:Hp):Prop:=(zr (S:=Int×Int×Unit) (λs1 k2 h1=>(ifP (decide (s1.2.1<(c.len:Int))) (z8 (S:=Int×Unit) (λs3 h2=>(k2 (s3.1,(i64.wrap (s1.2.1+1)),()) h2)) (λk4=>(zg c s1.2.1 3 λa5=>(ldL (.bool) (a5.add 0) (λx6_0=>(ldL (.int .i64) (a5.add 1) (λx6_1=>(ldL (.bool) (a5.add 2) (λx6_2=>(z8 (S:=Int×Unit) (λs7 h3=>(zc (W8 s7.1 x6_1) (λr9 h4=>(ifP (!r9) (K false h4) (zc (z4t s (⟨x6_0,x6_1,x6_2⟩:TPiece)) (λr10 h5=>(ifP (decide (s1.2.1>0)) (ifP (r10.1 != s1.1) (K false h5) (k4 (r10.2,()) h5)) (k4 (r10.2,()) h5))) h4))) h3)) (λk8=>(ifP x6_0 (k8 ((s.arcs.len:Int),()) h1) (k8 ((s.segments.len:Int),()) h1))))) h1)) h1)) h1)))) (K (decide ((c.len:Int)>0)) h1))) ((-1),0,()) h)
def z6k(c:Sl)(v0:(Option Addr))(K:Bool->Hp->Prop)(h:Hp):Prop:=(yu v0 λp1=>(ldL (.sl) (p1.add 0) (λx2_0=>(ldL (.sl) (p1.add 1) (λx2_1=>(ldL (.sl) (p1.add 2) (λx2_2=>(ldL (.sl) (p1.add 3) (λx2_3=>(ldL (.sl) (p1.add 4) (λx2_4=>(ldL (.sl) (p1.add 5) (λx2_5=>(zc (z08 (⟨x2_0,x2_1,x2_2,x2_3,x2_4,x2_5⟩:TSketch) c) (λr3 h1=>(K r3 h1)) h)) h)) h)) h)) h)) h)) h))
def qa(x:Sl)(v0:(Option Addr))(K:Bool->Hp->Prop)(h:Hp):Prop:=(yu v0 λp1=>(ldL (.val) p1 (λx2=>∃c3:Option Addr,(x2=.func (.func 84) #[] #[.pointer c3] /\ (zc (z6k x c3) (λr4 h1=>(K (!r4) h1)) h))) h))
def Zi(s:Sl)(f1:(Option Addr×Unit))(K:Int->Hp->Prop)(h:Hp):Prop:=(zr (S:=Int×Unit) (λs1 k2 h1=>(ifP (decide (s1.1<(s.len:Int))) (zg s s1.1 1 λa3=>(ldL (.sl) a3 (λx4=>(zc (qa x4 f1.1) (λr5 h2=>(ifP r5 (K s1.1 h2) (k2 ((i64.wrap (s1.1+1)),()) h2))) h1)) h1)) (K (-1) h1))) (0,()) h)
def Zc(s:Sl)(f1:(Option Addr×Unit))(K:Bool->Hp->Prop)(h:Hp):Prop:=(zc (Zi s (f1.1,())) (λr1 h1=>(K (decide (r1>=0)) h1)) h)
def Yj(l:Sl)(f1:(Option Addr×Unit))(K:Bool->Hp->Prop)(h:Hp):Prop:=(Yo [.func (.func 84) #[] #[.pointer f1.1]] (λp1 h1=>(zc (Zc l ((some p1),())) (λr2 h2=>(K (!r2) h2)) h1)) h)
def X4(kind:Int)(K:(Tconstraint_Shape×Bool)->Hp->Prop)(h:Hp):Prop:=(z8 (S:=(Int×Int×Int×Int×Bool×Bool×Bool×Unit)×Unit) (λs1 h1=>(zba kind 18 (ldL (.int .i64) ((((⟨0,0,none⟩:Addr).add ((kind:Int).toNat*8)).add 1).add 0) (λx3_0=>(ldL (.int .i64) ((((⟨0,0,none⟩:Addr).add ((kind:Int).toNat*8)).add 1).add 1) (λx3_1=>(ldL (.int .i64) ((((⟨0,0,none⟩:Addr).add ((kind:Int).toNat*8)).add 1).add 2) (λx3_2=>(ldL (.int .i64) ((((⟨0,0,none⟩:Addr).add ((kind:Int).toNat*8)).add 1).add 3) (λx3_3=>(ldL (.bool) ((((⟨0,0,none⟩:Addr).add ((kind:Int).toNat*8)).add 1).add 4) (λx3_4=>(ldL (.bool) ((((⟨0,0,none⟩:Addr).add ((kind:Int).toNat*8)).add 1).add 5) (λx3_5=>(ldL (.bool) ((((⟨0,0,none⟩:Addr).add ((kind:Int).toNat*8)).add 1).add 6) (λx3_6=>(K ((⟨x3_0,x3_1,x3_2,x3_3,x3_4,x3_5,x3_6⟩:Tconstraint_Shape),true) h1)) h1)) h1)) h1)) h1)) h1)) h1)) h1))) (λk2=>(ifP (decide (kind<1)) (K ((⟨0,0,0,0,false,false,false⟩:Tconstraint_Shape),false) h) (ifP (decide (kind>17)) (K ((⟨0,0,0,0,false,false,false⟩:Tconstraint_Shape),false) h) (k2 ((0,0,0,0,false,false,false,()),()) h)))))
def Vt(i:Int)(K:ByteArray->Hp->Prop)(h:Hp):Prop:=(ifP (decide (i<10)) (Yq zL6 i (i64.wrap (i+1)) λc1=>(K c1 h)) (Yq zL1 (i64.wrap (i*2)) (i64.wrap ((i64.wrap (i*2))+2)) λc2=>(K c2 h)))
def z1z(x:Int)(K:Int->Hp->Prop)(h:Hp):Prop:=(z8 (S:=Int×Int×Unit) (λs1 h1=>(z8 (S:=Int×Int×Unit) (λs3 h2=>(z8 (S:=Int×Int×Unit) (λs5 h3=>(Qs zL4 (u8.wrap (s5.1)) λc7=>(K (i64.wrap (s5.2.1+(i64.wrap (c7)))) h3))) (λk6=>(ifP (decide (s3.1>=256)) (0<=(8:Int) /\ (k6 ((s3.1:Int).fdiv (2 ^ (min (8:Int).toNat u64.bits)),(i64.wrap (s3.2.1+8)),()) h2)) (k6 (s3.1,s3.2.1,()) h2))))) (λk4=>(ifP (decide (s1.1>=65536)) (0<=(16:Int) /\ (k4 ((s1.1:Int).fdiv (2 ^ (min (16:Int).toNat u64.bits)),(i64.wrap (s1.2.1+16)),()) h1)) (k4 (s1.1,s1.2.1,()) h1))))) (λk2=>(ifP (decide (x>=4294967296)) (0<=(32:Int) /\ (k2 ((x:Int).fdiv (2 ^ (min (32:Int).toNat u64.bits)),32,()) h)) (k2 (x,0,()) h))))
def Wa(x:Int)(K:Int->Hp->Prop)(h:Hp):Prop:=(0<=(18:Int) /\ (K (((i64.wrap (x*78913)):Int).fdiv (2 ^ (min (18:Int).toNat i64.bits))) h))
def X9(b:Bool)(K:Int->Hp->Prop)(h:Hp):Prop:=(ifP b (K 1 h) (K 0 h))
def Qn(d:Int)(K:Int->Hp->Prop)(h:Hp):Prop:=(zc (z1z d) (λr1 h1=>(zc (Wa r1) (λr2 h2=>(zba r2 20 (ldL (.int .u64) ((⟨2,0,none⟩:Addr).add ((r2:Int).toNat*1)) (λx3=>(zc (X9 (decide (d>=x3))) (λr4 h3=>(K (i64.wrap (r2+r4)) h3)) h2)) h2))) h1)) h)
def qm(a:Sl)(u:Int)(K:Unit->Hp->Prop)(h:Hp):Prop:=(zr (S:=Int×Int×Unit) (λs1 k2 h1=>(ifP (decide (s1.2.1>=8)) ((100000000:Int)≠0 /\ ((100000000:Int)≠0 /\ ((10000:Int)≠0 /\ ((10000:Int)≠0 /\ ((100:Int)≠0 /\ ((100:Int)≠0 /\ ((100:Int)≠0 /\ ((100:Int)≠0 /\ (Qs zL1 (u32.wrap ((u32.wrap ((((((u32.wrap ((s1.1:Int).tmod 100000000)):Int).tmod 10000):Int).tmod 100)*2))+1)) λc3=>(Qs zL1 (u32.wrap ((((((u32.wrap ((s1.1:Int).tmod 100000000)):Int).tmod 10000):Int).tmod 100)*2)) λc4=>(zg a (i64.wrap (s1.2.1-1)) 1 λa5=>(stP a5 [.int .u8 c3] (λh2=>(zg a (i64.wrap (s1.2.1-2)) 1 λa6=>(stP a6 [.int .u8 c4] (λh3=>(Qs zL1 (u32.wrap ((u32.wrap ((u32.wrap (((((u32.wrap ((s1.1:Int).tmod 100000000)):Int).tmod 10000):Int).tdiv 100))*2))+1)) λc7=>(Qs zL1 (u32.wrap ((u32.wrap (((((u32.wrap ((s1.1:Int).tmod 100000000)):Int).tmod 10000):Int).tdiv 100))*2)) λc8=>(zg a (i64.wrap (s1.2.1-3)) 1 λa9=>(stP a9 [.int .u8 c7] (λh4=>(zg a (i64.wrap (s1.2.1-4)) 1 λa10=>(stP a10 [.int .u8 c8] (λh5=>(Qs zL1 (u32.wrap ((u32.wrap ((((u32.wrap (((u32.wrap ((s1.1:Int).tmod 100000000)):Int).tdiv 10000)):Int).tmod 100)*2))+1)) λc11=>(Qs zL1 (u32.wrap ((((u32.wrap (((u32.wrap ((s1.1:Int).tmod 100000000)):Int).tdiv 10000)):Int).tmod 100)*2)) λc12=>(zg a (i64.wrap (s1.2.1-5)) 1 λa13=>(stP a13 [.int .u8 c11] (λh6=>(zg a (i64.wrap (s1.2.1-6)) 1 λa14=>(stP a14 [.int .u8 c12] (λh7=>(Qs zL1 (u32.wrap ((u32.wrap ((u32.wrap (((u32.wrap (((u32.wrap ((s1.1:Int).tmod 100000000)):Int).tdiv 10000)):Int).tdiv 100))*2))+1)) λc15=>(Qs zL1 (u32.wrap ((u32.wrap (((u32.wrap (((u32.wrap ((s1.1:Int).tmod 100000000)):Int).tdiv 10000)):Int).tdiv 100))*2)) λc16=>(zg a (i64.wrap (s1.2.1-7)) 1 λa17=>(stP a17 [.int .u8 c15] (λh8=>(zg a (i64.wrap (s1.2.1-8)) 1 λa18=>(stP a18 [.int .u8 c16] (λh9=>(k2 ((u64.wrap ((s1.1:Int).tdiv 100000000)),(i64.wrap (s1.2.1-8)),()) h9)) h8))) h7))))) h6))) h5))))) h4))) h3))))) h2))) h1)))))))))))) (z8 (S:=Int×Int×Unit) (λs19 h10=>(z8 (S:=Int×Int×Unit) (λs21 h11=>(ifP (decide (s21.1>0)) (zg a 0 1 λa23=>(stP a23 [.int .u8 (u8.wrap ((u32.wrap (48+s21.2.1))))] (λh12=>(K () h12)) h11)) (K () h11))) (λk22=>(ifP (decide (s19.1>=2)) ((100:Int)≠0 /\ ((100:Int)≠0 /\ (Qs zL1 (u32.wrap ((u32.wrap (((s19.2.1:Int).tmod 100)*2))+1)) λc24=>(Qs zL1 (u32.wrap (((s19.2.1:Int).tmod 100)*2)) λc25=>(zg a (i64.wrap (s19.1-1)) 1 λa26=>(stP a26 [.int .u8 c24] (λh13=>(zg a (i64.wrap (s19.1-2)) 1 λa27=>(stP a27 [.int .u8 c25] (λh14=>(k22 ((i64.wrap (s19.1-2)),(u32.wrap ((s19.2.1:Int).tdiv 100)),()) h14)) h13))) h10)))))) (k22 (s19.1,s19.2.1,()) h10))))) (λk20=>(ifP (decide (s1.2.1>=4)) ((10000:Int)≠0 /\ ((10000:Int)≠0 /\ ((100:Int)≠0 /\ ((100:Int)≠0 /\ (Qs zL1 (u32.wrap ((u32.wrap ((((((u32.wrap (s1.1)):Int).tmod 10000):Int).tmod 100)*2))+1)) λc28=>(Qs zL1 (u32.wrap ((((((u32.wrap (s1.1)):Int).tmod 10000):Int).tmod 100)*2)) λc29=>(zg a (i64.wrap (s1.2.1-1)) 1 λa30=>(stP a30 [.int .u8 c28] (λh15=>(zg a (i64.wrap (s1.2.1-2)) 1 λa31=>(stP a31 [.int .u8 c29] (λh16=>(Qs zL1 (u32.wrap ((u32.wrap ((u32.wrap (((((u32.wrap (s1.1)):Int).tmod 10000):Int).tdiv 100))*2))+1)) λc32=>(Qs zL1 (u32.wrap ((u32.wrap (((((u32.wrap (s1.1)):Int).tmod 10000):Int).tdiv 100))*2)) λc33=>(zg a (i64.wrap (s1.2.1-3)) 1 λa34=>(stP a34 [.int .u8 c32] (λh17=>(zg a (i64.wrap (s1.2.1-4)) 1 λa35=>(stP a35 [.int .u8 c33] (λh18=>(k20 ((i64.wrap (s1.2.1-4)),(u32.wrap (((u32.wrap (s1.1)):Int).tdiv 10000)),()) h18)) h17))) h16))))) h15))) h1)))))))) (k20 (s1.2.1,(u32.wrap (s1.1)),()) h1)))))) (u,(a.len:Int),()) h)
def Xx(i:Int)(base:Int)(K:ByteArray->Hp->Prop)(h:Hp):Prop:=(ifP (base==10) (ifP (decide (i<100)) (zc (Vt (i64.wrap (i))) (λr1 h1=>(K r1 h1)) h) (Yo [.int .u8 0,.int .u8 0,.int .u8 0,.int .u8 0,.int .u8 0,.int .u8 0,.int .u8 0,.int .u8 0,.int .u8 0,.int .u8 0,.int .u8 0,.int .u8 0,.int .u8 0,.int .u8 0,.int .u8 0,.int .u8 0,.int .u8 0,.int .u8 0,.int .u8 0,.int .u8 0,.int .u8 0,.int .u8 0,.int .u8 0,.int .u8 0] (λp2 h2=>(zc (Qn i) (λr3 h3=>(slP (⟨some p2,24,24⟩:Sl) 0 r3 1 λc4=>(Y3 (qm c4 i) (λr5 h4=>(slP (⟨some p2,24,24⟩:Sl) 0 r3 1 λc6=>(Z6p c6 (λt7=>(K t7 h4)) h4))) h3))) h2)) h)) False)
def Wh(i:Int)(base:Int)(K:ByteArray->Hp->Prop)(h:Hp):Prop:=(zc (Xx i base) (λr1 h1=>(K r1 h1)) h)
def z4x(x:Int)(y:Int)(K:(Int×Int)->Hp->Prop)(h:Hp):Prop:=(0<=(32:Int) /\ (0<=(32:Int) /\ (0<=(32:Int) /\ (0<=(32:Int) /\ (0<=(32:Int) /\ (K ((u64.wrap ((u64.wrap ((u64.wrap (((x:Int).fdiv (2 ^ (min (32:Int).toNat u64.bits)))*((y:Int).fdiv (2 ^ (min (32:Int).toNat u64.bits)))))+(((u64.wrap ((u64.wrap (((x:Int).fdiv (2 ^ (min (32:Int).toNat u64.bits)))*(Q6 .and .u64 y 4294967295)))+(((u64.wrap ((Q6 .and .u64 x 4294967295)*(Q6 .and .u64 y 4294967295))):Int).fdiv (2 ^ (min (32:Int).toNat u64.bits))))):Int).fdiv (2 ^ (min (32:Int).toNat u64.bits)))))+(((u64.wrap ((Q6 .and .u64 (u64.wrap ((u64.wrap (((x:Int).fdiv (2 ^ (min (32:Int).toNat u64.bits)))*(Q6 .and .u64 y 4294967295)))+(((u64.wrap ((Q6 .and .u64 x 4294967295)*(Q6 .and .u64 y 4294967295))):Int).fdiv (2 ^ (min (32:Int).toNat u64.bits))))) 4294967295)+(u64.wrap ((Q6 .and .u64 x 4294967295)*((y:Int).fdiv (2 ^ (min (32:Int).toNat u64.bits))))))):Int).fdiv (2 ^ (min (32:Int).toNat u64.bits))))),(u64.wrap (x*y))) h))))))
def z4b(x:Int)(y:Int)(K:(Int×Int)->Hp->Prop)(h:Hp):Prop:=(zc (z4x x y) (λr1 h1=>(K (r1.1,r1.2) h1)) h)
def Q4(s:ByteArray)(prefix_:ByteArray)(K:Bool->Hp->Prop)(h:Hp):Prop:=(ifP (decide (((s:ByteArray).size:Int)>=((prefix_:ByteArray).size:Int))) (Yq s 0 ((prefix_:ByteArray).size:Int) λc1=>(K ((c1:ByteArray).toList==(prefix_:ByteArray).toList) h)) (K false h))
def zm(s:ByteArray)(prefix_:ByteArray)(K:Bool->Hp->Prop)(h:Hp):Prop:=(zc (Q4 s prefix_) (λr1 h1=>(K r1 h1)) h)
def Vg(s:ByteArray)(count:Int)(K:ByteArray->Hp->Prop)(h:Hp):Prop:=(ifP (count==0) (K X6 h) (ifP (count==1) (K s h) (z8 (S:=Unit) (λs1 h1=>(zc (z4b (u64.wrap (((s:ByteArray).size:Int))) (u64.wrap (count))) (λr3 h2=>(z8 (S:=Unit) (λs4 h3=>(ifP (((s:ByteArray).size:Int)==0) (K X6 h3) (z8 (S:=Unit) (λs6 h4=>(z8 (S:=Int×Unit) (λs8 h5=>(zx0 364 [.pointer none,.slice zf.a zf.len zf.cap] (λp10 h6=>False) h5)) (λk9=>(ifP (decide ((i64.wrap (r3.2))>8192)) ((((s:ByteArray).size:Int):Int)≠0 /\ (ifP ((i64.wrap ((i64.wrap ((8192:Int).tdiv ((s:ByteArray).size:Int)))*((s:ByteArray).size:Int)))==0) (k9 (((s:ByteArray).size:Int),()) h4) (k9 ((i64.wrap ((i64.wrap ((8192:Int).tdiv ((s:ByteArray).size:Int)))*((s:ByteArray).size:Int))),()) h4))) (k9 ((i64.wrap (r3.2)),()) h4))))) (λk7=>(Qs s 0 λc11=>(z8 (S:=Bool×Unit) (λs12 h7=>(ifP s12.1 (ifP (decide ((i64.wrap (r3.2))<=128)) (zc (zm zL7 s) (λr14 h8=>(ifP r14 (Yq zL7 0 (i64.wrap (r3.2)) λc15=>(K c15 h8)) (ifP (decide ((i64.wrap (r3.2))<=128)) (zc (zm zL5 s) (λr16 h9=>(ifP r16 (Yq zL5 0 (i64.wrap (r3.2)) λc17=>(K c17 h9)) (ifP (decide ((i64.wrap (r3.2))<=64)) (zc (zm zL3 s) (λr18 h10=>(ifP r18 (Yq zL3 0 (i64.wrap (r3.2)) λc19=>(K c19 h10)) (ifP (decide ((i64.wrap (r3.2))<=128)) (zc (zm zL2 s) (λr20 h11=>(ifP r20 (Yq zL2 0 (i64.wrap (r3.2)) λc21=>(K c21 h11)) (ifP (decide ((i64.wrap (r3.2))<=64)) (zc (zm zL0 s) (λr22 h12=>(ifP r22 (Yq zL0 0 (i64.wrap (r3.2)) λc23=>(K c23 h12)) (k7 () h12))) h11) (k7 () h11)))) h10) (ifP (decide ((i64.wrap (r3.2))<=64)) (zc (zm zL0 s) (λr24 h13=>(ifP r24 (Yq zL0 0 (i64.wrap (r3.2)) λc25=>(K c25 h13)) (k7 () h13))) h10) (k7 () h10))))) h9) (ifP (decide ((i64.wrap (r3.2))<=128)) (zc (zm zL2 s) (λr26 h14=>(ifP r26 (Yq zL2 0 (i64.wrap (r3.2)) λc27=>(K c27 h14)) (ifP (decide ((i64.wrap (r3.2))<=64)) (zc (zm zL0 s) (λr28 h15=>(ifP r28 (Yq zL0 0 (i64.wrap (r3.2)) λc29=>(K c29 h15)) (k7 () h15))) h14) (k7 () h14)))) h9) (ifP (decide ((i64.wrap (r3.2))<=64)) (zc (zm zL0 s) (λr30 h16=>(ifP r30 (Yq zL0 0 (i64.wrap (r3.2)) λc31=>(K c31 h16)) (k7 () h16))) h9) (k7 () h9)))))) h8) (ifP (decide ((i64.wrap (r3.2))<=64)) (zc (zm zL3 s) (λr32 h17=>(ifP r32 (Yq zL3 0 (i64.wrap (r3.2)) λc33=>(K c33 h17)) (ifP (decide ((i64.wrap (r3.2))<=128)) (zc (zm zL2 s) (λr34 h18=>(ifP r34 (Yq zL2 0 (i64.wrap (r3.2)) λc35=>(K c35 h18)) (ifP (decide ((i64.wrap (r3.2))<=64)) (zc (zm zL0 s) (λr36 h19=>(ifP r36 (Yq zL0 0 (i64.wrap (r3.2)) λc37=>(K c37 h19)) (k7 () h19))) h18) (k7 () h18)))) h17) (ifP (decide ((i64.wrap (r3.2))<=64)) (zc (zm zL0 s) (λr38 h20=>(ifP r38 (Yq zL0 0 (i64.wrap (r3.2)) λc39=>(K c39 h20)) (k7 () h20))) h17) (k7 () h17))))) h8) (ifP (decide ((i64.wrap (r3.2))<=128)) (zc (zm zL2 s) (λr40 h21=>(ifP r40 (Yq zL2 0 (i64.wrap (r3.2)) λc41=>(K c41 h21)) (ifP (decide ((i64.wrap (r3.2))<=64)) (zc (zm zL0 s) (λr42 h22=>(ifP r42 (Yq zL0 0 (i64.wrap (r3.2)) λc43=>(K c43 h22)) (k7 () h22))) h21) (k7 () h21)))) h8) (ifP (decide ((i64.wrap (r3.2))<=64)) (zc (zm zL0 s) (λr44 h23=>(ifP r44 (Yq zL0 0 (i64.wrap (r3.2)) λc45=>(K c45 h23)) (k7 () h23))) h8) (k7 () h8))))))) h7) (ifP (decide ((i64.wrap (r3.2))<=128)) (zc (zm zL5 s) (λr46 h24=>(ifP r46 (Yq zL5 0 (i64.wrap (r3.2)) λc47=>(K c47 h24)) (ifP (decide ((i64.wrap (r3.2))<=64)) (zc (zm zL3 s) (λr48 h25=>(ifP r48 (Yq zL3 0 (i64.wrap (r3.2)) λc49=>(K c49 h25)) (ifP (decide ((i64.wrap (r3.2))<=128)) (zc (zm zL2 s) (λr50 h26=>(ifP r50 (Yq zL2 0 (i64.wrap (r3.2)) λc51=>(K c51 h26)) (ifP (decide ((i64.wrap (r3.2))<=64)) (zc (zm zL0 s) (λr52 h27=>(ifP r52 (Yq zL0 0 (i64.wrap (r3.2)) λc53=>(K c53 h27)) (k7 () h27))) h26) (k7 () h26)))) h25) (ifP (decide ((i64.wrap (r3.2))<=64)) (zc (zm zL0 s) (λr54 h28=>(ifP r54 (Yq zL0 0 (i64.wrap (r3.2)) λc55=>(K c55 h28)) (k7 () h28))) h25) (k7 () h25))))) h24) (ifP (decide ((i64.wrap (r3.2))<=128)) (zc (zm zL2 s) (λr56 h29=>(ifP r56 (Yq zL2 0 (i64.wrap (r3.2)) λc57=>(K c57 h29)) (ifP (decide ((i64.wrap (r3.2))<=64)) (zc (zm zL0 s) (λr58 h30=>(ifP r58 (Yq zL0 0 (i64.wrap (r3.2)) λc59=>(K c59 h30)) (k7 () h30))) h29) (k7 () h29)))) h24) (ifP (decide ((i64.wrap (r3.2))<=64)) (zc (zm zL0 s) (λr60 h31=>(ifP r60 (Yq zL0 0 (i64.wrap (r3.2)) λc61=>(K c61 h31)) (k7 () h31))) h24) (k7 () h24)))))) h7) (ifP (decide ((i64.wrap (r3.2))<=64)) (zc (zm zL3 s) (λr62 h32=>(ifP r62 (Yq zL3 0 (i64.wrap (r3.2)) λc63=>(K c63 h32)) (ifP (decide ((i64.wrap (r3.2))<=128)) (zc (zm zL2 s) (λr64 h33=>(ifP r64 (Yq zL2 0 (i64.wrap (r3.2)) λc65=>(K c65 h33)) (ifP (decide ((i64.wrap (r3.2))<=64)) (zc (zm zL0 s) (λr66 h34=>(ifP r66 (Yq zL0 0 (i64.wrap (r3.2)) λc67=>(K c67 h34)) (k7 () h34))) h33) (k7 () h33)))) h32) (ifP (decide ((i64.wrap (r3.2))<=64)) (zc (zm zL0 s) (λr68 h35=>(ifP r68 (Yq zL0 0 (i64.wrap (r3.2)) λc69=>(K c69 h35)) (k7 () h35))) h32) (k7 () h32))))) h7) (ifP (decide ((i64.wrap (r3.2))<=128)) (zc (zm zL2 s) (λr70 h36=>(ifP r70 (Yq zL2 0 (i64.wrap (r3.2)) λc71=>(K c71 h36)) (ifP (decide ((i64.wrap (r3.2))<=64)) (zc (zm zL0 s) (λr72 h37=>(ifP r72 (Yq zL0 0 (i64.wrap (r3.2)) λc73=>(K c73 h37)) (k7 () h37))) h36) (k7 () h36)))) h7) (ifP (decide ((i64.wrap (r3.2))<=64)) (zc (zm zL0 s) (λr74 h38=>(ifP r74 (Yq zL0 0 (i64.wrap (r3.2)) λc75=>(K c75 h38)) (k7 () h38))) h7) (k7 () h7)))))) (k7 () h7))) (λk13=>(ifP (c11==32) (k13 ((c11==32),()) h3) (ifP (c11==45) (k13 ((c11==45),()) h3) (ifP (c11==48) (k13 ((c11==48),()) h3) (ifP (c11==61) (k13 ((c11==61),()) h3) (k13 ((c11==9),()) h3)))))))))))) (λk5=>(ifP (decide (r3.1>0)) False (ifP (decide (r3.2>9223372036854775807)) False (k5 () h2)))))) h1)) (λk2=>(ifP (decide (count<0)) False (k2 () h))))))
def z2x(a:TInt)(K:ByteArray->Hp->Prop)(h:Hp):Prop:=(zc (zv a.mag) (λr1 h1=>(zc (Zh r1) (λr2 h2=>(ifP ((r2.len:Int)==0) (K ⟨#[48]⟩ h2) (zr (S:=Sl×(Sl×Unit)×Unit) (λs3 k4 h3=>(ifP (decide ((s3.1.len:Int)>0)) (zr (S:=Int×Int×Unit) (λs5 k6 h4=>(ifP (decide (s5.2.1>=0)) (0<=(32:Int) /\ (zg s3.1 s5.2.1 1 λa7=>(ldL (.int .u32) a7 (λx8=>((1000000000:Int)≠0 /\ (zg s3.1 s5.2.1 1 λa9=>(stP a9 [.int .u32 (u32.wrap ((u64.wrap (((Q6 .or .u64 (u64.wrap (s5.1*2 ^ (min (32:Int).toNat u64.bits))) (u64.wrap (x8))):Int).tdiv 1000000000))))] (λh5=>((1000000000:Int)≠0 /\ (k6 (((Q6 .or .u64 (u64.wrap (s5.1*2 ^ (min (32:Int).toNat u64.bits))) (u64.wrap (x8))):Int).tmod 1000000000,(i64.wrap (s5.2.1-1)),()) h5))) h4)))) h4))) (zc (zv s3.1) (λr10 h6=>(Y5 1 4 [.int .u32 0] s3.2.1.1 1 [.int .u32 (u32.wrap (s5.1))] (λw11 h7=>(k4 (r10,(w11,()),()) h7)) h6)) h4))) (0,(i64.wrap ((s3.1.len:Int)-1)),()) h3) (zx0 364 [.pointer none,.slice zf.a zf.len zf.cap] (λp12 h8=>(z8 (S:=Unit) (λs13 h9=>(zc (yt s3.2.1.1) (λr15 h10=>(zu6 (S:=Unit) (.leaf (.int .u32)) r15 (λi16 v17 s18 k19 h11=>(zc (Wh (u64.wrap (v17)) 10) (λr21 h13=>(z8 (S:=Unit) (λs22 h14=>(Y3 (Zs (some p12) r21) (λr24 h15=>(k19 () h15)) h14)) (λk23=>(ifP (decide (i16<(i64.wrap ((s3.2.1.1.len:Int)-1)))) (zc (Vg ⟨#[48]⟩ (i64.wrap (9-((r21:ByteArray).size:Int)))) (λr25 h16=>(Y3 (Zs (some p12) r25) (λr26 h17=>(k23 () h17)) h16)) h13) (k23 () h13))))) h11)) () (λs20 h12=>(Y3 (X1 (some p12)) (λr27 h18=>(K r27 h18)) h12)) h10)) h9)) (λk14=>(ifP a.neg (Y3 (z17 (some p12) 45) (λr28 h19=>(k14 () h19)) h8) (k14 () h8))))) h3))) (r2,(zf,()),()) h2))) h1)) h)
def z1v(a:TRat)(K:(ByteArray×Bool)->Hp->Prop)(h:Hp):Prop:=(z8 (S:=Unit) (λs1 h1=>(zc (Y9 10) (λr3 h2=>(zc (Wp 1) (λr4 h3=>(zr (S:=(Bool×Sl×Bool×Sl×Unit)×Int×Unit) (λs5 k6 h4=>(ifP (decide (s5.2.1<40)) (zc (z4l (⟨s5.1.2.2.1,s5.1.2.2.2.1⟩:TInt) r4) (λr7 h5=>(ifP (r7 != 0) (zc (z32 (⟨(⟨s5.1.1,s5.1.2.1⟩:TInt),(⟨s5.1.2.2.1,s5.1.2.2.2.1⟩:TInt)⟩:TRat) r3) (λr8 h6=>(k6 ((r8.num.neg,r8.num.mag,r8.den.neg,r8.den.mag,()),(i64.wrap (s5.2.1+1)),()) h6)) h5) (zc (z2x (⟨s5.1.1,s5.1.2.1⟩:TInt)) (λr9 h7=>(z8 (S:=ByteArray×Unit) (λs10 h8=>(K (s10.1,decide (((s10.1:ByteArray).size:Int)<=40)) h8)) (λk11=>(ifP (decide (s5.2.1>0)) (z8 (S:=ByteArray×Unit) (λs12 h9=>(Yq s12.1 0 (i64.wrap (((s12.1:ByteArray).size:Int)-s5.2.1)) λc14=>((((c14:ByteArray).size+(⟨#[46]⟩:ByteArray).size:Nat):Int)<=9223372036854775807 /\ (Yq s12.1 (i64.wrap (((s12.1:ByteArray).size:Int)-s5.2.1)) ((s12.1:ByteArray).size:Int) λc15=>((((((c14:ByteArray)++(⟨#[46]⟩:ByteArray)):ByteArray).size+(c15:ByteArray).size:Nat):Int)<=9223372036854775807 /\ (k11 (((((c14:ByteArray)++(⟨#[46]⟩:ByteArray)):ByteArray)++(c15:ByteArray)),()) h9)))))) (λk13=>(ifP (decide ((i64.wrap ((i64.wrap (s5.2.1+1))-((r9:ByteArray).size:Int)))>0)) (zc (Vg ⟨#[48]⟩ (i64.wrap ((i64.wrap (s5.2.1+1))-((r9:ByteArray).size:Int)))) (λr16 h10=>((((r16:ByteArray).size+(r9:ByteArray).size:Nat):Int)<=9223372036854775807 /\ (k13 (((r16:ByteArray)++(r9:ByteArray)),()) h10))) h7) (k13 (r9,()) h7)))) (k11 (r9,()) h7))))) h5))) h4) (K (X6,false) h4))) ((a.num.neg,a.num.mag,a.den.neg,a.den.mag,()),0,()) h3)) h2)) h1)) (λk2=>(zc (qv a) (λr17 h11=>(ifP (!r17) (K (X6,false) h11) (zc (Qm a) (λr18 h12=>(ifP (decide (r18<0)) (K (X6,false) h12) (k2 () h12))) h11))) h)))
def z2t(a:TRat)(K:Bool->Hp->Prop)(h:Hp):Prop:=(ifP ((a.num.mag.len:Int)==0) (ifP ((a.den.mag.len:Int)==0) (ifP (!a.num.neg) (K (!a.den.neg) h) (K false h)) (K false h)) (K false h))
def z0q(Zle:TExpr->(Bool->Hp->Prop)->Hp->Prop)(x:TExpr)(K:Bool->Hp->Prop)(h:Hp):Prop:=(zc (Zle x) (λr1 h1=>(K (!r1) h1)) h)
def ym(Zle:TExpr->(Bool->Hp->Prop)->Hp->Prop)(s:Sl)(K:Int->Hp->Prop)(h:Hp):Prop:=(zr (S:=Int×Unit) (λs1 k2 h1=>(ifP (decide (s1.1<(s.len:Int))) (zg s s1.1 7 λa3=>(ldL (.int .i64) (a3.add 0) (λx4_0=>(ldL (.bool) (a3.add 1) (λx4_1=>(ldL (.sl) (a3.add 2) (λx4_2=>(ldL (.bool) (a3.add 3) (λx4_3=>(ldL (.sl) (a3.add 4) (λx4_4=>(ldL (.str) (a3.add 5) (λx4_5=>(ldL (.sl) (a3.add 6) (λx4_6=>(zc ((z0q Zle) (⟨x4_0,(⟨(⟨x4_1,x4_2⟩:TInt),(⟨x4_3,x4_4⟩:TInt)⟩:TRat),x4_5,x4_6⟩:TExpr)) (λr5 h2=>(ifP r5 (K s1.1 h2) (k2 ((i64.wrap (s1.1+1)),()) h2))) h1)) h1)) h1)) h1)) h1)) h1)) h1)) h1)) (K (-1) h1))) (0,()) h)
def Z7(Zle:TExpr->(Bool->Hp->Prop)->Hp->Prop)(s:Sl)(K:Bool->Hp->Prop)(h:Hp):Prop:=(zc ((ym Zle) s) (λr1 h1=>(K (decide (r1>=0)) h1)) h)
def Qa:Nat->TExpr->(Bool->Hp->Prop)->Hp->Prop
 | 0,_,_,_=>False
 | fuel+1,e,K,h=>(z8 (S:=Unit) (λs1 h1=>(ifP (e.op==1) (zc (z1v e.value) (λr3 h2=>(ifP r3.2 (ifP ((e.name:ByteArray).toList==(X6:ByteArray).toList) (K true h2) (zc (z0t e.name) (λr4 h3=>(K r4 h3)) h2)) (K false h2))) h1) (ifP (e.op==2) (zc (z2t e.value) (λr5 h4=>(ifP r5 (zc (z0t e.name) (λr6 h5=>(K r6 h5)) h4) (K false h4))) h1) (zc (z2t e.value) (λr7 h6=>(ifP r7 (ifP ((e.name:ByteArray).toList==(X6:ByteArray).toList) (zc ((Z7 (Qa fuel)) e.args) (λr8 h7=>(K (!r8) h7)) h6) (K false h6)) (K false h6))) h1)))) (λk2=>(ifP (decide (e.op<1)) (K false h) (ifP (decide (e.op>7)) (K false h) (zba e.op 8 (ldL (.int .i64) ((⟨1,0,none⟩:Addr).add ((e.op:Int).toNat*1)) (λx9=>(ifP ((e.args.len:Int) != x9) (K false h) (k2 () h))) h))))))
def z2s(e:TExpr)(K:Bool->Hp->Prop)(h:Hp):Prop:=∃fuel,Qa fuel e K h
def X7:Nat->TExpr->(Int->Hp->Prop)->Hp->Prop
 | 0,_,_,_=>False
 | fuel+1,e,K,h=>(zr (S:=Int×Int×Unit) (λs1 k2 h1=>(ifP (decide (s1.2.1<(e.args.len:Int))) (zg e.args s1.2.1 7 λa3=>(ldL (.int .i64) (a3.add 0) (λx4_0=>(ldL (.bool) (a3.add 1) (λx4_1=>(ldL (.sl) (a3.add 2) (λx4_2=>(ldL (.bool) (a3.add 3) (λx4_3=>(ldL (.sl) (a3.add 4) (λx4_4=>(ldL (.str) (a3.add 5) (λx4_5=>(ldL (.sl) (a3.add 6) (λx4_6=>(zc ((X7 fuel) (⟨x4_0,(⟨(⟨x4_1,x4_2⟩:TInt),(⟨x4_3,x4_4⟩:TInt)⟩:TRat),x4_5,x4_6⟩:TExpr)) (λr5 h2=>(k2 (zje s1.1 r5,(i64.wrap (s1.2.1+1)),()) h2)) h1)) h1)) h1)) h1)) h1)) h1)) h1)) h1)) (K (i64.wrap (s1.1+1)) h1))) (0,0,()) h)
def z48(e:TExpr)(K:Int->Hp->Prop)(h:Hp):Prop:=∃fuel,X7 fuel e K h
def z49(e:TExpr)(K:Int->Hp->Prop)(h:Hp):Prop:=(zc (z2s e) (λr1 h1=>(ifP (!r1) (K 1 h1) (zc (z48 e) (λr2 h2=>(ifP (decide (r2>40)) (K 3 h2) (K 0 h2))) h1))) h)
def Vo(e:TExpr)(K:Bool->Hp->Prop)(h:Hp):Prop:=(zc (z49 e) (λr1 h1=>(K (r1 != 0) h1)) h)
def yf(s:Sl)(K:Int->Hp->Prop)(h:Hp):Prop:=(zr (S:=Int×Unit) (λs1 k2 h1=>(ifP (decide (s1.1<(s.len:Int))) (zg s s1.1 7 λa3=>(ldL (.int .i64) (a3.add 0) (λx4_0=>(ldL (.bool) (a3.add 1) (λx4_1=>(ldL (.sl) (a3.add 2) (λx4_2=>(ldL (.bool) (a3.add 3) (λx4_3=>(ldL (.sl) (a3.add 4) (λx4_4=>(ldL (.str) (a3.add 5) (λx4_5=>(ldL (.sl) (a3.add 6) (λx4_6=>(zc (Vo (⟨x4_0,(⟨(⟨x4_1,x4_2⟩:TInt),(⟨x4_3,x4_4⟩:TInt)⟩:TRat),x4_5,x4_6⟩:TExpr)) (λr5 h2=>(ifP r5 (K s1.1 h2) (k2 ((i64.wrap (s1.1+1)),()) h2))) h1)) h1)) h1)) h1)) h1)) h1)) h1)) h1)) (K (-1) h1))) (0,()) h)
def Zn(s:Sl)(K:Bool->Hp->Prop)(h:Hp):Prop:=(zc (yf s) (λr1 h1=>(K (decide (r1>=0)) h1)) h)
def z0p(l:Sl)(K:Bool->Hp->Prop)(h:Hp):Prop:=(zg l 0 1 λa1=>(ldL (.int .i64) a1 (λx2=>(zg l 1 1 λa3=>(ldL (.int .i64) a3 (λx4=>(zg l 2 1 λa5=>(ldL (.int .i64) a5 (λx6=>(zg l 3 1 λa7=>(ldL (.int .i64) a7 (λx8=>(ifP (x2 != x4) (ifP (x6 != x8) (ifP (x2==x6) (ifP (!(x4==x8)) (ifP (x2==x8) (K (!(x4==x6)) h) (K (!false) h)) (K false h)) (ifP (x2==x8) (K (!(x4==x6)) h) (K (!false) h))) (K false h)) (K false h))) h))) h))) h))) h))
def Xl(s:Sl)(v:Int)(K:Int->Hp->Prop)(h:Hp):Prop:=(zr (S:=Int×Unit) (λs1 k2 h1=>(ifP (decide (s1.1<(s.len:Int))) (zg s s1.1 1 λa3=>(ldL (.int .i64) a3 (λx4=>(ifP (v==x4) (K s1.1 h1) (k2 ((i64.wrap (s1.1+1)),()) h1))) h1)) (K (-1) h1))) (0,()) h)
def Zz(s:Sl)(v:Int)(K:Bool->Hp->Prop)(h:Hp):Prop:=(zc (Xl s v) (λr1 h1=>(K (decide (r1>=0)) h1)) h)
def Xh(l:Sl)(K:Bool->Hp->Prop)(h:Hp):Prop:=(zr (S:=Int×Unit) (λs1 k2 h1=>(ifP (decide (s1.1<(l.len:Int))) (zg l s1.1 1 λa3=>(ldL (.int .i64) a3 (λx4=>(slP l 0 s1.1 1 λc5=>(zc (Zz c5 x4) (λr6 h2=>(ifP r6 (K false h2) (k2 ((i64.wrap (s1.1+1)),()) h2))) h1))) h1)) (K true h1))) (0,()) h)
def z18(i:Int)(v0:(Option Addr))(K:Bool->Hp->Prop)(h:Hp):Prop:=(ifP (decide (i<0)) (K true h) (yu v0 λp1=>(ldL (.int .i64) p1 (λx2=>(K (decide (i>=x2)) h)) h)))
def Yi(s:Sl)(f1:(Option Addr×Unit))(K:Int->Hp->Prop)(h:Hp):Prop:=(zr (S:=Int×Unit) (λs1 k2 h1=>(ifP (decide (s1.1<(s.len:Int))) (zg s s1.1 1 λa3=>(ldL (.int .i64) a3 (λx4=>(zc (z18 x4 f1.1) (λr5 h2=>(ifP r5 (K s1.1 h2) (k2 ((i64.wrap (s1.1+1)),()) h2))) h1)) h1)) (K (-1) h1))) (0,()) h)
def y8(s:Sl)(f1:(Option Addr×Unit))(K:Bool->Hp->Prop)(h:Hp):Prop:=(zc (Yi s (f1.1,())) (λr1 h1=>(K (decide (r1>=0)) h1)) h)
def Ws(l:Sl)(n:Int)(za0:Int)(K:Bool->Hp->Prop)(h:Hp):Prop:=(Yo [.int .i64 za0] (λp1 h1=>(ifP ((l.len:Int)==n) (zc (y8 l ((some p1),())) (λr2 h2=>(K (!r2) h2)) h1) (K false h1))) h)
def z0o(c:TConstraint)(points:Int)(circles:Int)(K:Bool->Hp->Prop)(h:Hp):Prop:=(zc (X4 c.kind) (λr1 h1=>(z8 (S:=Unit) (λs2 h2=>(zc (Zn c.values) (λr4 h3=>(ifP r4 (K false h3) (z8 (S:=Unit) (λs5 h4=>(z8 (S:=Bool×Unit) (λs7 h5=>(ifP s7.1 (zc (z0p c.points) (λr9 h6=>(K r9 h6)) h5) (zc (Xh c.points) (λr10 h7=>(ifP r10 (zc (Xh c.circles) (λr11 h8=>(K r11 h8)) h7) (K false h7))) h5))) (λk8=>(ifP (c.kind==5) (k8 ((c.kind==5),()) h4) (ifP (c.kind==6) (k8 ((c.kind==6),()) h4) (ifP (c.kind==7) (k8 ((c.kind==7),()) h4) (k8 ((c.kind==8),()) h4))))))) (λk6=>(ifP r1.1.side (ifP (c.side != 1) (ifP (c.side != (-1)) (K false h3) (ifP (!r1.1.side) (ifP (c.side != 0) (K false h3) (k6 () h3)) (k6 () h3))) (ifP (!r1.1.side) (ifP (c.side != 0) (K false h3) (k6 () h3)) (k6 () h3))) (ifP (!r1.1.side) (ifP (c.side != 0) (K false h3) (k6 () h3)) (k6 () h3))))))) h2)) (λk3=>(ifP (!r1.2) (K false h1) (zc (Ws c.points r1.1.points points) (λr12 h9=>(ifP (!r12) (K false h9) (zc (Ws c.circles r1.1.circles circles) (λr13 h10=>(ifP (!r13) (K false h10) (ifP ((c.values.len:Int) != r1.1.values) (K false h10) (k3 () h10)))) h9))) h1))))) h)
def z6l(c:TConstraint)(v0:(Option Addr))(v1:(Option Addr))(K:Bool->Hp->Prop)(h:Hp):Prop:=(yu v0 λp1=>(ldL (.int .i64) p1 (λx2=>(yu v1 λp3=>(ldL (.int .i64) p3 (λx4=>(zc (z0o c x2 x4) (λr5 h1=>(K r5 h1)) h)) h))) h))
def Yp(x:TConstraint)(v0:(Option Addr))(K:Bool->Hp->Prop)(h:Hp):Prop:=(yu v0 λp1=>(ldL (.val) p1 (λx2=>∃c3:Option Addr,∃c4:Option Addr,(x2=.func (.func 87) #[] #[.pointer c3,.pointer c4] /\ (zc (z6l x c3 c4) (λr5 h1=>(K (!r5) h1)) h))) h))
def zy(s:Sl)(f1:(Option Addr×Unit))(K:Int->Hp->Prop)(h:Hp):Prop:=(zr (S:=Int×Unit) (λs1 k2 h1=>(ifP (decide (s1.1<(s.len:Int))) (zg s s1.1 5 λa3=>(ldL (.int .i64) (a3.add 0) (λx4_0=>(ldL (.sl) (a3.add 1) (λx4_1=>(ldL (.sl) (a3.add 2) (λx4_2=>(ldL (.sl) (a3.add 3) (λx4_3=>(ldL (.int .i64) (a3.add 4) (λx4_4=>(zc (Yp (⟨x4_0,x4_1,x4_2,x4_3,x4_4⟩:TConstraint) f1.1) (λr5 h2=>(ifP r5 (K s1.1 h2) (k2 ((i64.wrap (s1.1+1)),()) h2))) h1)) h1)) h1)) h1)) h1)) h1)) (K (-1) h1))) (0,()) h)
def zx(s:Sl)(f1:(Option Addr×Unit))(K:Bool->Hp->Prop)(h:Hp):Prop:=(zc (zy s (f1.1,())) (λr1 h1=>(K (decide (r1>=0)) h1)) h)
def yr(l:Sl)(f1:(Option Addr×Option Addr×Unit))(K:Bool->Hp->Prop)(h:Hp):Prop:=(Yo [.func (.func 87) #[] #[.pointer f1.1,.pointer f1.2.1]] (λp1 h1=>(zc (zx l ((some p1),())) (λr2 h2=>(K (!r2) h2)) h1)) h)
def z12(s:TSketch)(K:Int->Hp->Prop)(h:Hp):Prop:=(Yo [.slice s.points.a s.points.len s.points.cap,.slice s.circles.a s.circles.len s.circles.cap,.slice s.segments.a s.segments.len s.segments.cap,.slice s.arcs.a s.arcs.len s.arcs.cap,.slice s.chains.a s.chains.len s.chains.cap,.slice s.constraints.a s.constraints.len s.constraints.cap] (λp1 h1=>(ldL (.sl) (p1.add 0) (λx2_0=>(ldL (.sl) (p1.add 1) (λx2_1=>(ldL (.sl) (p1.add 2) (λx2_2=>(ldL (.sl) (p1.add 3) (λx2_3=>(ldL (.sl) (p1.add 4) (λx2_4=>(ldL (.sl) (p1.add 5) (λx2_5=>(zc (z3a (⟨x2_0,x2_1,x2_2,x2_3,x2_4,x2_5⟩:TSketch)) (λr3 h2=>(ifP r3 (K 3 h2) (ldL (.sl) (p1.add 0) (λx4=>(ldL (.sl) (p1.add 1) (λx5=>(Yo [.int .i64 (x4.len:Int)] (λp6 h3=>(Yo [.int .i64 (x5.len:Int)] (λp7 h4=>(z8 (S:=Bool×Unit) (λs8 h5=>(ifP (!s8.1) (K 1 h5) (K 0 h5))) (λk9=>(ldL (.sl) (p1.add 0) (λx10=>(zc (Yk x10) (λr11 h6=>(ifP r11 (ldL (.sl) (p1.add 1) (λx12=>(zc (Yl x12 ((some p6),())) (λr13 h7=>(ifP r13 (ldL (.sl) (p1.add 2) (λx14=>(zc (Yb x14 ((some p6),())) (λr15 h8=>(ifP r15 (ldL (.sl) (p1.add 3) (λx16=>(zc (Yu x16 ((some p1),())) (λr17 h9=>(ifP r17 (ldL (.sl) (p1.add 4) (λx18=>(zc (Yj x18 ((some p1),())) (λr19 h10=>(ifP r19 (ldL (.sl) (p1.add 5) (λx20=>(zc (yr x20 ((some p6),(some p7),())) (λr21 h11=>(k9 (r21,()) h11)) h10)) h10) (k9 (false,()) h10))) h9)) h9) (k9 (false,()) h9))) h8)) h8) (k9 (false,()) h8))) h7)) h7) (k9 (false,()) h7))) h6)) h6) (k9 (false,()) h6))) h4)) h4)))) h3)) h2)) h2)) h2))) h1)) h1)) h1)) h1)) h1)) h1)) h1)) h)
def Xk(s1:Sl)(s2:Sl)(K:Bool->Hp->Prop)(h:Hp):Prop:=(ifP ((s1.len:Int) != (s2.len:Int)) (K false h) (zr (S:=Int×Unit) (λs3 k4 h1=>(ifP (decide (s3.1<(s1.len:Int))) (zg s1 s3.1 1 λa5=>(ldL (.int .i64) a5 (λx6=>(zg s2 s3.1 1 λa7=>(ldL (.int .i64) a7 (λx8=>(ifP (x6 != x8) (K false h1) (k4 ((i64.wrap (s3.1+1)),()) h1))) h1))) h1)) (K true h1))) (0,()) h))
def z0i(s1:Sl)(s2:Sl)(K:Bool->Hp->Prop)(h:Hp):Prop:=(ifP ((s1.len:Int) != (s2.len:Int)) (K false h) (zr (S:=Int×Unit) (λs3 k4 h1=>(ifP (decide (s3.1<(s1.len:Int))) (zg s1 s3.1 1 λa5=>(ldL (.int .u32) a5 (λx6=>(zg s2 s3.1 1 λa7=>(ldL (.int .u32) a7 (λx8=>(ifP (x6 != x8) (K false h1) (k4 ((i64.wrap (s3.1+1)),()) h1))) h1))) h1)) (K true h1))) (0,()) h))
def z3n(a:TInt)(b:TInt)(K:Bool->Hp->Prop)(h:Hp):Prop:=(ifP (a.neg==b.neg) (zc (z0i a.mag b.mag) (λr1 h1=>(K r1 h1)) h) (K false h))
def zbg(Zlf:Sl->Sl->(Bool->Hp->Prop)->Hp->Prop)(a:TExpr)(b:TExpr)(K:Bool->Hp->Prop)(h:Hp):Prop:=(ifP (a.op==b.op) (ifP ((a.name:ByteArray).toList==(b.name:ByteArray).toList) (zc (z3n a.value.num b.value.num) (λr1 h1=>(ifP r1 (zc (z3n a.value.den b.value.den) (λr2 h2=>(ifP r2 (zc (Zlf a.args b.args) (λr3 h3=>(K r3 h3)) h2) (K false h2))) h1) (K false h1))) h) (K false h)) (K false h))
def zn:Nat->Sl->Sl->(Bool->Hp->Prop)->Hp->Prop
 | 0,_,_,_,_=>False
 | fuel+1,s1,s2,K,h=>(ifP ((s1.len:Int) != (s2.len:Int)) (K false h) (zr (S:=Int×Unit) (λs3 k4 h1=>(ifP (decide (s3.1<(s1.len:Int))) (zg s1 s3.1 7 λa5=>(ldL (.int .i64) (a5.add 0) (λx6_0=>(ldL (.bool) (a5.add 1) (λx6_1=>(ldL (.sl) (a5.add 2) (λx6_2=>(ldL (.bool) (a5.add 3) (λx6_3=>(ldL (.sl) (a5.add 4) (λx6_4=>(ldL (.str) (a5.add 5) (λx6_5=>(ldL (.sl) (a5.add 6) (λx6_6=>(zg s2 s3.1 7 λa7=>(ldL (.int .i64) (a7.add 0) (λx8_0=>(ldL (.bool) (a7.add 1) (λx8_1=>(ldL (.sl) (a7.add 2) (λx8_2=>(ldL (.bool) (a7.add 3) (λx8_3=>(ldL (.sl) (a7.add 4) (λx8_4=>(ldL (.str) (a7.add 5) (λx8_5=>(ldL (.sl) (a7.add 6) (λx8_6=>(zc ((zbg (zn fuel)) (⟨x6_0,(⟨(⟨x6_1,x6_2⟩:TInt),(⟨x6_3,x6_4⟩:TInt)⟩:TRat),x6_5,x6_6⟩:TExpr) (⟨x8_0,(⟨(⟨x8_1,x8_2⟩:TInt),(⟨x8_3,x8_4⟩:TInt)⟩:TRat),x8_5,x8_6⟩:TExpr)) (λr9 h2=>(ifP (!r9) (K false h2) (k4 ((i64.wrap (s3.1+1)),()) h2))) h1)) h1)) h1)) h1)) h1)) h1)) h1)) h1))) h1)) h1)) h1)) h1)) h1)) h1)) h1)) (K true h1))) (0,()) h))
def Zr(s1:Sl)(s2:Sl)(K:Bool->Hp->Prop)(h:Hp):Prop:=∃fuel,zn fuel s1 s2 K h
def z0n(a:TConstraint)(b:TConstraint)(K:Bool->Hp->Prop)(h:Hp):Prop:=(ifP (a.kind==b.kind) (ifP (a.side==b.side) (zc (Xk a.points b.points) (λr1 h1=>(ifP r1 (zc (Xk a.circles b.circles) (λr2 h2=>(ifP r2 (zc (Zr a.values b.values) (λr3 h3=>(K r3 h3)) h2) (K false h2))) h1) (K false h1))) h) (K false h)) (K false h))
def z11(d:TConstraint)(v0:(Option Addr))(K:Bool->Hp->Prop)(h:Hp):Prop:=(yu v0 λp1=>(ldL (.int .i64) (p1.add 0) (λx2_0=>(ldL (.sl) (p1.add 1) (λx2_1=>(ldL (.sl) (p1.add 2) (λx2_2=>(ldL (.sl) (p1.add 3) (λx2_3=>(ldL (.int .i64) (p1.add 4) (λx2_4=>(zc (z0n (⟨x2_0,x2_1,x2_2,x2_3,x2_4⟩:TConstraint) d) (λr3 h1=>(K r3 h1)) h)) h)) h)) h)) h)) h))
def Zu(s:Sl)(f1:(Option Addr×Unit))(K:Int->Hp->Prop)(h:Hp):Prop:=(zr (S:=Int×Unit) (λs1 k2 h1=>(ifP (decide (s1.1<(s.len:Int))) (zg s s1.1 5 λa3=>(ldL (.int .i64) (a3.add 0) (λx4_0=>(ldL (.sl) (a3.add 1) (λx4_1=>(ldL (.sl) (a3.add 2) (λx4_2=>(ldL (.sl) (a3.add 3) (λx4_3=>(ldL (.int .i64) (a3.add 4) (λx4_4=>(zc (z11 (⟨x4_0,x4_1,x4_2,x4_3,x4_4⟩:TConstraint) f1.1) (λr5 h2=>(ifP r5 (K s1.1 h2) (k2 ((i64.wrap (s1.1+1)),()) h2))) h1)) h1)) h1)) h1)) h1)) h1)) (K (-1) h1))) (0,()) h)
def zo(s:Sl)(f1:(Option Addr×Unit))(K:Bool->Hp->Prop)(h:Hp):Prop:=(zc (Zu s (f1.1,())) (λr1 h1=>(K (decide (r1>=0)) h1)) h)
def z38(s:TSketch)(K:Sl->Hp->Prop)(h:Hp):Prop:=(zr (S:=Sl×Int×Unit) (λs1 k2 h1=>(ifP (decide (s1.2.1<(s.arcs.len:Int))) (zg s.arcs s1.2.1 4 λa3=>(ldL (.int .i64) (a3.add 0) (λx4_0=>(ldL (.int .i64) (a3.add 1) (λx4_1=>(ldL (.int .i64) (a3.add 2) (λx4_2=>(ldL (.bool) (a3.add 3) (λx4_3=>(Yo [.int .i64 x4_1,.int .i64 x4_2] (λp5 h2=>(zr (S:=Sl×Int×Unit) (λs6 k7 h3=>(ifP (decide (s6.2.1<((⟨some p5,2,2⟩:Sl).len:Int))) (z8 (S:=Sl×Unit) (λs8 h4=>(k7 (s8.1,(i64.wrap (s6.2.1+1)),()) h4)) (λk9=>(zg (⟨some p5,2,2⟩:Sl) s6.2.1 1 λa10=>(ldL (.int .i64) a10 (λx11=>(Yo [.int .i64 x11] (λp12 h5=>(Yo [.int .i64 x4_0] (λp13 h6=>(Yo [.int .i64 0,.slice zf.a zf.len zf.cap,.slice zf.a zf.len zf.cap,.slice zf.a zf.len zf.cap,.int .i64 0] (λp14 h7=>(stP p14 [.int .i64 13,.slice (⟨some p12,1,1⟩:Sl).a (⟨some p12,1,1⟩:Sl).len (⟨some p12,1,1⟩:Sl).cap,.slice (⟨some p13,1,1⟩:Sl).a (⟨some p13,1,1⟩:Sl).len (⟨some p13,1,1⟩:Sl).cap,.slice zf.a zf.len zf.cap,.int .i64 0] (λh8=>(zc (zo s.constraints ((some p14),())) (λr15 h9=>(ifP (!r15) (zc (zo s6.1 ((some p14),())) (λr16 h10=>(ifP (!r16) (ldL (.int .i64) (p14.add 0) (λx17_0=>(ldL (.sl) (p14.add 1) (λx17_1=>(ldL (.sl) (p14.add 2) (λx17_2=>(ldL (.sl) (p14.add 3) (λx17_3=>(ldL (.int .i64) (p14.add 4) (λx17_4=>(Y5 5 88 [.int .i64 0,.slice zf.a zf.len zf.cap,.slice zf.a zf.len zf.cap,.slice zf.a zf.len zf.cap,.int .i64 0] s6.1 1 [.int .i64 x17_0,.slice x17_1.a x17_1.len x17_1.cap,.slice x17_2.a x17_2.len x17_2.cap,.slice x17_3.a x17_3.len x17_3.cap,.int .i64 x17_4] (λw18 h11=>(k9 (w18,()) h11)) h10)) h10)) h10)) h10)) h10)) h10) (k9 (s6.1,()) h10))) h9) (k9 (s6.1,()) h9))) h8)) h7)) h6)) h5)) h3)) h3)))) (k2 (s6.1,(i64.wrap (s1.2.1+1)),()) h3))) (s1.1,0,()) h2)) h1)) h1)) h1)) h1)) h1)) (K s1.1 h1))) (zf,0,()) h)
def yo(s:Sl)(n:Int)(K:Sl->Hp->Prop)(h:Hp):Prop:=(z8 (S:=Unit) (λs1 h1=>(ifP (decide ((i64.wrap (n-(i64.wrap ((s.cap:Int)-(s.len:Int)))))>0)) (slP s 0 (s.cap:Int) 5 λc3=>(0<=((i64.wrap (n-(i64.wrap ((s.cap:Int)-(s.len:Int))))):Int) /\ (Y5 5 88 [.int .i64 0,.slice zf.a zf.len zf.cap,.slice zf.a zf.len zf.cap,.slice zf.a zf.len zf.cap,.int .i64 0] c3 (((i64.wrap (n-(i64.wrap ((s.cap:Int)-(s.len:Int))))):Int).toNat) (ye ((i64.wrap (n-(i64.wrap ((s.cap:Int)-(s.len:Int))))):Int).toNat [.int .i64 0,.slice zf.a zf.len zf.cap,.slice zf.a zf.len zf.cap,.slice zf.a zf.len zf.cap,.int .i64 0]) (λw4 h2=>(slP w4 0 (s.len:Int) 5 λc5=>(K c5 h2))) h1))) (K s h1))) (λk2=>(ifP (decide (n<0)) False (k2 () h))))
def yd(slices:Sl)(K:Sl->Hp->Prop)(h:Hp):Prop:=(zr (S:=Int×Int×Unit) (λs1 k2 h1=>(ifP (decide (s1.2.1<(slices.len:Int))) (z8 (S:=Int×Unit) (λs3 h2=>(k2 (s3.1,(i64.wrap (s1.2.1+1)),()) h2)) (λk4=>(zg slices s1.2.1 1 λa5=>(ldL (.sl) a5 (λx6=>(ifP (decide ((i64.wrap (s1.1+(x6.len:Int)))<0)) False (k4 ((i64.wrap (s1.1+(x6.len:Int))),()) h1))) h1)))) (zc (yo zf s1.1) (λr7 h3=>(zr (S:=Sl×Int×Unit) (λs8 k9 h4=>(ifP (decide (s8.2.1<(slices.len:Int))) (zg slices s8.2.1 1 λa10=>(ldL (.sl) a10 (λx11=>(rdO x11.a (x11.len*5) (λvs12=>(Y5 5 88 [.int .i64 0,.slice zf.a zf.len zf.cap,.slice zf.a zf.len zf.cap,.slice zf.a zf.len zf.cap,.int .i64 0] s8.1 x11.len vs12 (λw13 h5=>(k9 (w13,(i64.wrap (s8.2.1+1)),()) h5)) h4)) h4)) h4)) (K s8.1 h4))) (r7,0,()) h3)) h1))) (0,0,()) h)
def Wu(s:Sl)(K:Sl->Hp->Prop)(h:Hp):Prop:=(ifP s.a.isNone (K zf h) (Yo [] (λp1 h1=>(rdO s.a (s.len*1) (λvs2=>(Y5 1 8 [.int .i64 0] (⟨some p1,0,0⟩:Sl) s.len vs2 (λw3 h2=>(K w3 h2)) h1)) h1)) h))
def z07(s:TSketch)(K:(Option Addr)->Hp->Prop)(h:Hp):Prop:=(zc (z38 s) (λr1 h1=>(Yo [.slice s.constraints.a s.constraints.len s.constraints.cap,.slice r1.a r1.len r1.cap] (λp2 h2=>(zc (yd (⟨some p2,2,2⟩:Sl)) (λr3 h3=>(Yo [.slice s.points.a s.points.len s.points.cap,.slice s.circles.a s.circles.len s.circles.cap,.slice s.segments.a s.segments.len s.segments.cap,.slice s.arcs.a s.arcs.len s.arcs.cap,.slice s.chains.a s.chains.len s.chains.cap,.slice s.constraints.a s.constraints.len s.constraints.cap,.slice r3.a r3.len r3.cap,.slice zf.a zf.len zf.cap,.slice zf.a zf.len zf.cap] (λp4 h4=>(zr (S:=Int×Unit) (λs5 k6 h5=>(ifP (decide (s5.1<(s.circles.len:Int))) (zg s.circles s5.1 5 λa7=>(ldL (.int .i64) (a7.add 0) (λx8_0=>(ldL (.bool) (a7.add 1) (λx8_1=>(ldL (.sl) (a7.add 2) (λx8_2=>(ldL (.bool) (a7.add 3) (λx8_3=>(ldL (.sl) (a7.add 4) (λx8_4=>(ldL (.sl) (p4.add 8) (λx9=>(Y5 1 8 [.int .i64 0] x9 1 [.int .i64 x8_0] (λw10 h6=>(stP (p4.add 8) [.slice w10.a w10.len w10.cap] (λh7=>(k6 ((i64.wrap (s5.1+1)),()) h7)) h6)) h5)) h5)) h5)) h5)) h5)) h5)) h5)) (ldL (.sl) (p4.add 6) (λx11=>(zr (S:=Int×Unit) (λs12 k13 h8=>(ifP (decide (s12.1<(x11.len:Int))) (zg x11 s12.1 5 λa14=>(ldL (.int .i64) (a14.add 0) (λx15_0=>(ldL (.sl) (a14.add 1) (λx15_1=>(ldL (.sl) (a14.add 2) (λx15_2=>(ldL (.sl) (a14.add 3) (λx15_3=>(ldL (.int .i64) (a14.add 4) (λx15_4=>(zc (Wu x15_1) (λr16 h9=>(zr (S:=Sl×Int×Unit) (λs17 k18 h10=>(ifP (decide (s17.2.1<(x15_2.len:Int))) (z8 (S:=Sl×Unit) (λs19 h11=>(k18 (s19.1,(i64.wrap (s17.2.1+1)),()) h11)) (λk20=>(zg x15_2 s17.2.1 1 λa21=>(ldL (.int .i64) a21 (λx22=>(Y5 1 8 [.int .i64 0] s17.1 1 [.int .i64 (i64.wrap ((-1)-x22))] (λw23 h12=>(ifP (x15_0==13) (ldL (.sl) (p4.add 8) (λx24=>(zg x24 x22 1 λa25=>(ldL (.int .i64) a25 (λx26=>(Y5 1 8 [.int .i64 0] w23 1 [.int .i64 x26] (λw27 h13=>(k20 (w27,()) h13)) h12)) h12))) h12) (ifP (x15_0==16) (ldL (.sl) (p4.add 8) (λx28=>(zg x28 x22 1 λa29=>(ldL (.int .i64) a29 (λx30=>(Y5 1 8 [.int .i64 0] w23 1 [.int .i64 x30] (λw31 h14=>(k20 (w31,()) h14)) h12)) h12))) h12) (ifP (x15_0==17) (ldL (.sl) (p4.add 8) (λx32=>(zg x32 x22 1 λa33=>(ldL (.int .i64) a33 (λx34=>(Y5 1 8 [.int .i64 0] w23 1 [.int .i64 x34] (λw35 h15=>(k20 (w35,()) h15)) h12)) h12))) h12) (k20 (w23,()) h12))))) h10)) h10)))) (ldL (.sl) (p4.add 7) (λx36=>(Y5 1 24 [.slice zf.a zf.len zf.cap] x36 1 [.slice s17.1.a s17.1.len s17.1.cap] (λw37 h16=>(stP (p4.add 7) [.slice w37.a w37.len w37.cap] (λh17=>(k13 ((i64.wrap (s12.1+1)),()) h17)) h16)) h10)) h10))) (r16,0,()) h9)) h8)) h8)) h8)) h8)) h8)) h8)) (K (some p4) h8))) (0,()) h5)) h5))) (0,()) h4)) h3)) h2)) h1)) h)
def y_henneberg_peeler_all(p:(Option Addr))(K:Sl->Hp->Prop)(h:Hp):Prop:=(yu p λp1=>(ldL (.sl) ((p1.add 0).add 0) (λx2=>(zr (S:=Sl×Int×Unit) (λs3 k4 h1=>(ifP (decide (s3.2.1<(x2.len:Int))) (Y5 1 8 [.int .i64 0] s3.1 1 [.int .i64 s3.2.1] (λw5 h2=>(k4 (w5,(i64.wrap (s3.2.1+1)),()) h2)) h1) (yu p λp6=>(ldL (.sl) ((p6.add 0).add 1) (λx7=>(zr (S:=Sl×Int×Unit) (λs8 k9 h3=>(ifP (decide (s8.2.1<(x7.len:Int))) (Y5 1 8 [.int .i64 0] s8.1 1 [.int .i64 (i64.wrap ((-1)-s8.2.1))] (λw10 h4=>(k9 (w10,(i64.wrap (s8.2.1+1)),()) h4)) h3) (K s8.1 h3))) (s3.1,0,()) h1)) h1)))) (zf,0,()) h)) h))
def y_henneberg_peeler_remaining_1(x:Int)(v0:(Option Addr))(K:Bool->Hp->Prop)(h:Hp):Prop:=(yu v0 λp1=>(ldL (.sl) p1 (λx2=>(zc (Zz x2 x) (λr3 h1=>(K r3 h1)) h)) h))
def Z9(s:Sl)(f1:(Option Addr×Unit))(K:Int->Hp->Prop)(h:Hp):Prop:=(zr (S:=Int×Unit) (λs1 k2 h1=>(ifP (decide (s1.1<(s.len:Int))) (zg s s1.1 1 λa3=>(ldL (.int .i64) a3 (λx4=>(zc (y_henneberg_peeler_remaining_1 x4 f1.1) (λr5 h2=>(ifP r5 (K s1.1 h2) (k2 ((i64.wrap (s1.1+1)),()) h2))) h1)) h1)) (K (-1) h1))) (0,()) h)
def Z1(s:Sl)(f1:(Option Addr×Unit))(K:Bool->Hp->Prop)(h:Hp):Prop:=(zc (Z9 s (f1.1,())) (λr1 h1=>(K (decide (r1>=0)) h1)) h)
def y_henneberg_peeler_remaining(p:(Option Addr))(item:Int)(removed:Sl)(K:Sl->Hp->Prop)(h:Hp):Prop:=(Yo [.slice removed.a removed.len removed.cap] (λp1 h1=>(yu p λp2=>(ldL (.sl) (p2.add 7) (λx3=>(zr (S:=Sl×Int×Unit) (λs4 k5 h2=>(ifP (decide (s4.2.1<(x3.len:Int))) (z8 (S:=Sl×Unit) (λs6 h3=>(k5 (s6.1,(i64.wrap (s4.2.1+1)),()) h3)) (λk7=>(zg x3 s4.2.1 1 λa8=>(ldL (.sl) a8 (λx9=>(zc (Zz x9 item) (λr10 h4=>(ifP r10 (zc (Z1 x9 ((some p1),())) (λr11 h5=>(ifP (!r11) (Y5 1 8 [.int .i64 0] s4.1 1 [.int .i64 s4.2.1] (λw12 h6=>(k7 (w12,()) h6)) h5) (k7 (s4.1,()) h5))) h4) (k7 (s4.1,()) h4))) h2)) h2)))) (K s4.1 h2))) (zf,0,()) h1)) h1))) h)
def y_henneberg_peeler_equations(p:(Option Addr))(i:Int)(K:Int->Hp->Prop)(h:Hp):Prop:=(yu p λp1=>(ldL (.sl) (p1.add 6) (λx2=>(zg x2 i 5 λa3=>(ldL (.int .i64) (a3.add 0) (λx4=>(zc (X4 x4) (λr5 h1=>(K r5.1.equations h1)) h)) h))) h))
def y_henneberg_peeler_weight(p:(Option Addr))(l:Sl)(K:Int->Hp->Prop)(h:Hp):Prop:=(zr (S:=Int×Int×Unit) (λs1 k2 h1=>(ifP (decide (s1.2.1<(l.len:Int))) (zg l s1.2.1 1 λa3=>(ldL (.int .i64) a3 (λx4=>(zc (y_henneberg_peeler_equations p x4) (λr5 h2=>(k2 ((i64.wrap (s1.1+r5)),(i64.wrap (s1.2.1+1)),()) h2)) h1)) h1)) (K s1.1 h1))) (0,0,()) h)
def z6z(c:TConstraint)(centers:Sl)(circle:Int)(K:Bool->Hp->Prop)(h:Hp):Prop:=(zc (Xl c.circles circle) (λr1 h1=>(ifP (decide (r1<0)) (K false h1) (z8 (S:=Bool×Unit) (λs2 h2=>(ifP s2.1 (K true h2) (z8 (S:=Bool×Unit) (λs4 h3=>(ifP s4.1 (zg centers circle 1 λa6=>(ldL (.int .i64) a6 (λx7=>(zc (Zz c.points x7) (λr8 h4=>(K (!r8) h4)) h3)) h3)) (ifP (c.kind==17) (ifP (c.side==1) (zg c.circles 0 1 λa9=>(ldL (.int .i64) a9 (λx10=>(zg centers x10 1 λa11=>(ldL (.int .i64) a11 (λx12=>(zg c.circles 1 1 λa13=>(ldL (.int .i64) a13 (λx14=>(zg centers x14 1 λa15=>(ldL (.int .i64) a15 (λx16=>(K (x12 != x16) h3)) h3))) h3))) h3))) h3)) (K false h3)) (K false h3)))) (λk5=>(ifP (c.kind==13) (k5 ((c.kind==13),()) h2) (k5 ((c.kind==16),()) h2)))))) (λk3=>(ifP (c.kind==14) (k3 ((c.kind==14),()) h1) (k3 ((c.kind==15),()) h1)))))) h)
def y_henneberg_peeler_removable_1(i:Int)(v0:(Option Addr))(v1:(Option Addr))(K:Bool->Hp->Prop)(h:Hp):Prop:=(yu v0 λp1=>(ldL (.ptr) p1 (λx2=>(yu x2 λp3=>(ldL (.sl) (p3.add 6) (λx4=>(zg x4 i 5 λa5=>(ldL (.int .i64) (a5.add 0) (λx6_0=>(ldL (.sl) (a5.add 1) (λx6_1=>(ldL (.sl) (a5.add 2) (λx6_2=>(ldL (.sl) (a5.add 3) (λx6_3=>(ldL (.int .i64) (a5.add 4) (λx6_4=>(yu v0 λp7=>(ldL (.ptr) p7 (λx8=>(yu x8 λp9=>(ldL (.sl) (p9.add 8) (λx10=>(yu v1 λp11=>(ldL (.int .i64) p11 (λx12=>(zc (z6z (⟨x6_0,x6_1,x6_2,x6_3,x6_4⟩:TConstraint) x10 (i64.wrap ((-1)-x12))) (λr13 h1=>(K (!r13) h1)) h)) h))) h))) h))) h)) h)) h)) h)) h))) h))) h))
def yb(s:Sl)(f1:(Option Addr×Option Addr×Unit))(K:Int->Hp->Prop)(h:Hp):Prop:=(zr (S:=Int×Unit) (λs1 k2 h1=>(ifP (decide (s1.1<(s.len:Int))) (zg s s1.1 1 λa3=>(ldL (.int .i64) a3 (λx4=>(zc (y_henneberg_peeler_removable_1 x4 f1.1 f1.2.1) (λr5 h2=>(ifP r5 (K s1.1 h2) (k2 ((i64.wrap (s1.1+1)),()) h2))) h1)) h1)) (K (-1) h1))) (0,()) h)
def Z2(s:Sl)(f1:(Option Addr×Option Addr×Unit))(K:Bool->Hp->Prop)(h:Hp):Prop:=(zc (yb s (f1.1,f1.2.1,())) (λr1 h1=>(K (decide (r1>=0)) h1)) h)
def z5h(c:TConstraint)(target:Int)(K:Sl->Hp->Prop)(h:Hp):Prop:=(zr (S:=Sl×Int×Unit) (λs1 k2 h1=>(ifP (decide (s1.2.1<(c.points.len:Int))) (z8 (S:=Sl×Unit) (λs3 h2=>(k2 (s3.1,(i64.wrap (s1.2.1+1)),()) h2)) (λk4=>(zg c.points s1.2.1 1 λa5=>(ldL (.int .i64) a5 (λx6=>(ifP (x6==target) (Y5 1 8 [.int .i64 0] s1.1 1 [.int .i64 s1.2.1] (λw7 h3=>(k4 (w7,()) h3)) h1) (k4 (s1.1,()) h1))) h1)))) (K s1.1 h1))) (zf,0,()) h)
def Vu(i:Int)(v0:(Option Addr))(v1:(Option Addr))(v2:(Option Addr))(K:Bool->Hp->Prop)(h:Hp):Prop:=(yu v0 λp1=>(ldL (.sl) p1 (λx2=>(yu v1 λp3=>(ldL (.sl) (p3.add 2) (λx4=>(zg x4 i 1 λa5=>(ldL (.int .i64) a5 (λx6=>(zg x2 x6 1 λa7=>(ldL (.int .i64) a7 (λx8=>(yu v2 λp9=>(ldL (.int .i64) p9 (λx10=>(K (x8==x10) h)) h))) h))) h))) h))) h))
def z8j(c:TConstraint)(centers:Sl)(target:Int)(K:Int->Hp->Prop)(h:Hp):Prop:=(Yo [.int .i64 c.kind,.slice c.points.a c.points.len c.points.cap,.slice c.circles.a c.circles.len c.circles.cap,.slice c.values.a c.values.len c.values.cap,.int .i64 c.side] (λp1 h1=>(Yo [.slice centers.a centers.len centers.cap] (λp2 h2=>(Yo [.int .i64 target] (λp3 h3=>(ldL (.int .i64) (p1.add 0) (λx4_0=>(ldL (.sl) (p1.add 1) (λx4_1=>(ldL (.sl) (p1.add 2) (λx4_2=>(ldL (.sl) (p1.add 3) (λx4_3=>(ldL (.int .i64) (p1.add 4) (λx4_4=>(ldL (.int .i64) p3 (λx5=>(zc (z5h (⟨x4_0,x4_1,x4_2,x4_3,x4_4⟩:TConstraint) x5) (λr6 h4=>(ldL (.int .i64) (p1.add 0) (λx7=>(ifP (x7==13) (zc (Vu 0 (some p2) (some p1) (some p3)) (λr8 h5=>(ifP (!((decide ((r6.len:Int)>0))==r8)) (K 2 h5) (K 0 h5))) h4) (ifP (x7==16) (zc (Vu 0 (some p2) (some p1) (some p3)) (λr9 h6=>(ifP r9 (ifP ((r6.len:Int)==0) (K 1 h6) (K 0 h6)) (K 0 h6))) h4) (ifP (x7==17) (zc (Vu 0 (some p2) (some p1) (some p3)) (λr10 h7=>(zc (Vu 1 (some p2) (some p1) (some p3)) (λr11 h8=>(ifP (!(r10==r11)) (K 2 h8) (K 0 h8))) h7)) h4) (ifP ((r6.len:Int)==0) (K 0 h4) (ldL (.int .i64) (p1.add 0) (λx12=>(z8 (S:=Bool×Unit) (λs13 h9=>(ifP s13.1 (K 3 h9) (ifP (x12==2) (K 2 h9) (z8 (S:=Bool×Unit) (λs15 h10=>(ifP s15.1 (K 1 h10) (ifP (x12==4) (zg r6 0 1 λa17=>(ldL (.int .i64) a17 (λx18=>(ifP (x18==0) (K 1 h10) (K 0 h10))) h10)) (ifP (x12==10) (zg r6 0 1 λa19=>(ldL (.int .i64) a19 (λx20=>(ifP (decide (x20<2)) (K 3 h10) (K 0 h10))) h10)) (z8 (S:=Bool×Unit) (λs21 h11=>(ifP s21.1 (ifP ((r6.len:Int)==2) (K 2 h11) (K 1 h11)) (ifP (x12==8) (ifP ((r6.len:Int)==2) (K 1 h11) (K 2 h11)) (K 0 h11)))) (λk22=>(ifP (x12==5) (k22 ((x12==5),()) h10) (k22 ((x12==7),()) h10)))))))) (λk16=>(ifP (x12==3) (k16 ((x12==3),()) h9) (ifP (x12==6) (k16 ((x12==6),()) h9) (ifP (x12==11) (k16 ((x12==11),()) h9) (k16 ((x12==12),()) h9))))))))) (λk14=>(ifP (x12==1) (k14 ((x12==1),()) h4) (k14 ((x12==9),()) h4))))) h4)))))) h4)) h3)) h3)) h3)) h3)) h3)) h3)) h3)) h2)) h1)) h)
def y_henneberg_peeler_kind(p:(Option Addr))(i:Int)(point:Int)(K:Int->Hp->Prop)(h:Hp):Prop:=(yu p λp1=>(ldL (.sl) (p1.add 6) (λx2=>(zg x2 i 5 λa3=>(ldL (.int .i64) (a3.add 0) (λx4_0=>(ldL (.sl) (a3.add 1) (λx4_1=>(ldL (.sl) (a3.add 2) (λx4_2=>(ldL (.sl) (a3.add 3) (λx4_3=>(ldL (.int .i64) (a3.add 4) (λx4_4=>(yu p λp5=>(ldL (.sl) (p5.add 8) (λx6=>(zc (z8j (⟨x4_0,x4_1,x4_2,x4_3,x4_4⟩:TConstraint) x6 point) (λr7 h1=>(K r7 h1)) h)) h))) h)) h)) h)) h)) h))) h))
def y_henneberg_peeler_removable(p:(Option Addr))(item:Int)(removed:Sl)(K:Bool->Hp->Prop)(h:Hp):Prop:=(Yo [.pointer p] (λp1 h1=>(Yo [.int .i64 item] (λp2 h2=>(ldL (.int .i64) p2 (λx3=>(zc (Zz removed x3) (λr4 h3=>(ifP r4 (K false h3) (ldL (.ptr) p1 (λx5=>(ldL (.int .i64) p2 (λx6=>(zc (y_henneberg_peeler_remaining x5 x6 removed) (λr7 h4=>(ldL (.int .i64) p2 (λx8=>(ifP (decide (x8<0)) (ldL (.ptr) p1 (λx9=>(zc (y_henneberg_peeler_weight x9 r7) (λr10 h5=>(ifP (decide (r10<=1)) (zc (Z2 r7 ((some p1),(some p2),())) (λr11 h6=>(K (!r11) h6)) h5) (K false h5))) h4)) h4) (ldL (.ptr) p1 (λx12=>(zc (y_henneberg_peeler_weight x12 r7) (λr13 h7=>(ifP (decide (r13>2)) (K false h7) (zr (S:=Int×Unit) (λs14 k15 h8=>(ifP (decide (s14.1<(r7.len:Int))) (zg r7 s14.1 1 λa16=>(ldL (.int .i64) a16 (λx17=>(ldL (.ptr) p1 (λx18=>(ldL (.int .i64) p2 (λx19=>(zc (y_henneberg_peeler_kind x18 x17 x19) (λr20 h9=>(z8 (S:=Bool×Unit) (λs21 h10=>(z8 (S:=Bool×Unit) (λs23 h11=>(ifP (!s23.1) (K false h11) (k15 ((i64.wrap (s14.1+1)),()) h11))) (λk24=>(ldL (.ptr) p1 (λx25=>(zc (y_henneberg_peeler_equations x25 x17) (λr26 h12=>(ifP (r26==2) (k24 ((r20==3),()) h12) (k24 (s21.1,()) h12))) h10)) h10)))) (λk22=>(ifP (r20==1) (k22 (true,()) h9) (k22 ((r20==2),()) h9))))) h8)) h8)) h8)) h8)) (K true h8))) (0,()) h7))) h4)) h4))) h4)) h3)) h3)) h3))) h2)) h2)) h1)) h)
def y_henneberg_peeler_peel_1(item:Int)(v0:(Option Addr))(v1:(Option Addr))(K:Bool->Hp->Prop)(h:Hp):Prop:=(yu v0 λp1=>(ldL (.ptr) p1 (λx2=>(yu v1 λp3=>(ldL (.sl) p3 (λx4=>(zc (y_henneberg_peeler_removable x2 item x4) (λr5 h1=>(K r5 h1)) h)) h))) h))
def Zy(s:Sl)(f1:(Option Addr×Option Addr×Unit))(K:Int->Hp->Prop)(h:Hp):Prop:=(zr (S:=Int×Unit) (λs1 k2 h1=>(ifP (decide (s1.1<(s.len:Int))) (zg s s1.1 1 λa3=>(ldL (.int .i64) a3 (λx4=>(zc (y_henneberg_peeler_peel_1 x4 f1.1 f1.2.1) (λr5 h2=>(ifP r5 (K s1.1 h2) (k2 ((i64.wrap (s1.1+1)),()) h2))) h1)) h1)) (K (-1) h1))) (0,()) h)
def y_henneberg_peeler_peel_2(item:Int)(v0:(Option Addr))(K:Bool->Hp->Prop)(h:Hp):Prop:=(yu v0 λp1=>(ldL (.sl) p1 (λx2=>(zc (Zz x2 item) (λr3 h1=>(K r3 h1)) h)) h))
def yw(s:Sl)(f1:(Option Addr×Unit))(K:Int->Hp->Prop)(h:Hp):Prop:=(zr (S:=Int×Unit) (λs1 k2 h1=>(ifP (decide (s1.1<(s.len:Int))) (zg s s1.1 1 λa3=>(ldL (.int .i64) a3 (λx4=>(zc (y_henneberg_peeler_peel_2 x4 f1.1) (λr5 h2=>(ifP r5 (K s1.1 h2) (k2 ((i64.wrap (s1.1+1)),()) h2))) h1)) h1)) (K (-1) h1))) (0,()) h)
def Zx(s:Sl)(f1:(Option Addr×Unit))(K:Sl->Hp->Prop)(h:Hp):Prop:=(zc (yw s (f1.1,())) (λr1 h1=>(ifP (r1==(-1)) (K s h1) (zr (S:=Int×Int×Unit) (λs2 k3 h2=>(ifP (decide (s2.2.1<(s.len:Int))) (z8 (S:=Int×Unit) (λs4 h3=>(k3 (s4.1,(i64.wrap (s2.2.1+1)),()) h3)) (λk5=>(zg s s2.2.1 1 λa6=>(ldL (.int .i64) a6 (λx7=>(zc (y_henneberg_peeler_peel_2 x7 f1.1) (λr8 h4=>(ifP (!r8) (zg s s2.1 1 λa9=>(stP a9 [.int .i64 x7] (λh5=>(k5 ((i64.wrap (s2.1+1)),()) h5)) h4)) (k5 (s2.1,()) h4))) h2)) h2)))) (slP s s2.1 (s.len:Int) 1 λc10=>(zgt c10 [.int .i64 0] (λh6=>(slP s 0 s2.1 1 λc11=>(K c11 h6))) h2)))) (r1,(i64.wrap (r1+1)),()) h1))) h)
def y_henneberg_peeler_peel(p:(Option Addr))(K:(Sl×Sl)->Hp->Prop)(h:Hp):Prop:=(Yo [.pointer p] (λp1 h1=>(Yo [.slice zf.a zf.len zf.cap] (λp2 h2=>(zr (S:=(Option Addr)×Unit) (λs3 k4 h3=>(ldL (.ptr) p1 (λx5=>(zc (y_henneberg_peeler_all x5) (λr6 h4=>(zc (Zy r6 ((some p1),s3.1,())) (λr7 h5=>(ifP (decide (r7<0)) (ldL (.ptr) p1 (λx8=>(zc (y_henneberg_peeler_all x8) (λr9 h6=>(Y3 (Zx r9 (s3.1,())) (λr10 h7=>(yu s3.1 λp11=>(ldL (.sl) p11 (λx12=>(K (x12,r10) h7)) h7))) h6)) h5)) h5) (yu s3.1 λp13=>(ldL (.sl) p13 (λx14=>(ldL (.ptr) p1 (λx15=>(zc (y_henneberg_peeler_all x15) (λr16 h8=>(zg r16 r7 1 λa17=>(ldL (.int .i64) a17 (λx18=>(Y5 1 8 [.int .i64 0] x14 1 [.int .i64 x18] (λw19 h9=>(yu s3.1 λp20=>(stP p20 [.slice w19.a w19.len w19.cap] (λh10=>(k4 (s3.1,()) h10)) h9))) h8)) h8))) h5)) h5)) h5)))) h4)) h3)) h3)) ((some p2),()) h2)) h1)) h)
def z2v(s:TSketch)(K:(Sl×Sl)->Hp->Prop)(h:Hp):Prop:=(zc (z12 s) (λr1 h1=>(ifP (r1 != 0) (K (zf,zf) h1) (zc (z07 s) (λr2 h2=>(zc (y_henneberg_peeler_peel r2) (λr3 h3=>(K (r3.1,r3.2) h3)) h2)) h1))) h)
def z34:Nat->TExpr->(Int->Hp->Prop)->Hp->Prop
 | 0,_,_,_=>False
 | fuel+1,e,K,h=>(zr (S:=Int×Int×Unit) (λs1 k2 h1=>(ifP (decide (s1.2.1<(e.args.len:Int))) (zg e.args s1.2.1 7 λa3=>(ldL (.int .i64) (a3.add 0) (λx4_0=>(ldL (.bool) (a3.add 1) (λx4_1=>(ldL (.sl) (a3.add 2) (λx4_2=>(ldL (.bool) (a3.add 3) (λx4_3=>(ldL (.sl) (a3.add 4) (λx4_4=>(ldL (.str) (a3.add 5) (λx4_5=>(ldL (.sl) (a3.add 6) (λx4_6=>(zc ((z34 fuel) (⟨x4_0,(⟨(⟨x4_1,x4_2⟩:TInt),(⟨x4_3,x4_4⟩:TInt)⟩:TRat),x4_5,x4_6⟩:TExpr)) (λr5 h2=>(k2 (zje s1.1 r5,(i64.wrap (s1.2.1+1)),()) h2)) h1)) h1)) h1)) h1)) h1)) h1)) h1)) h1)) (K (i64.wrap (s1.1+1)) h1))) (0,0,()) h)
def Vp(s:TSketch)(K:Bool->Hp->Prop)(h:Hp):Prop:=(zc (z12 s) (λr1 h1=>(ifP (r1 != 0) (K false h1) (zc (z2v s) (λr2 h2=>(K ((r2.2.len:Int)==0) h2)) h1))) h)
def Wo(points:Int)(n:Int)(K:Bool->Hp->Prop)(h:Hp):Prop:=(ifP (decide (n>=0)) (K (decide (n<points)) h) (K false h))
def z8a(vals:Sl)(K:Int->Hp->Prop)(h:Hp):Prop:=(zr (S:=Int×Unit) (λs1 k2 h1=>(ifP (decide (s1.1<(vals.len:Int))) (zg vals s1.1 1 λa3=>(ldL (.int .i64) a3 (λx4=>(ifP (x4 != 0) (K x4 h1) (k2 ((i64.wrap (s1.1+1)),()) h1))) h1)) (K 0 h1))) (0,()) h)
def X3(a:A2_Int)(b:A2_Int)(K:Int->Hp->Prop)(h:Hp):Prop:=(zc (Qv a.c0 b.c0) (λr1 h1=>(zc (Qv a.c1 b.c1) (λr2 h2=>(Yo [.int .i64 r1,.int .i64 r2] (λp3 h3=>(zc (z8a (⟨some p3,2,2⟩:Sl)) (λr4 h4=>(K r4 h4)) h3)) h2)) h1)) h)
def Qw(g:TGraph)(K:Bool->Hp->Prop)(h:Hp):Prop:=(z8 (S:=Unit) (λs1 h1=>(zr (S:=Int×Unit) (λs3 k4 h2=>(ifP (decide (s3.1<(g.edges.len:Int))) (z8 (S:=Unit) (λs5 h3=>(k4 ((i64.wrap (s3.1+1)),()) h3)) (λk6=>(zg g.edges s3.1 2 λa7=>(ldL (.int .i64) (a7.add 0) (λx8_0=>(ldL (.int .i64) (a7.add 1) (λx8_1=>(zc (Wo g.n x8_0) (λr9 h4=>(ifP (!r9) (K false h4) (zc (Wo g.n x8_1) (λr10 h5=>(ifP (!r10) (K false h5) (ifP (decide (x8_0>=x8_1)) (K false h5) (ifP (decide (s3.1>0)) (zg g.edges (i64.wrap (s3.1-1)) 2 λa11=>(ldL (.int .i64) (a11.add 0) (λx12_0=>(ldL (.int .i64) (a11.add 1) (λx12_1=>(zc (X3 (⟨x12_0,x12_1⟩:A2_Int) (⟨x8_0,x8_1⟩:A2_Int)) (λr13 h6=>(ifP (decide (r13>=0)) (K false h6) (k6 () h6))) h5)) h5)) h5)) (k6 () h5))))) h4))) h2)) h2)) h2)))) (K true h2))) (0,()) h1)) (λk2=>(ifP (decide (g.n<0)) (K false h) (ifP (decide (g.n>60)) (K false h) (k2 () h)))))
def z8e(g:TGraph)(K:Sl->Hp->Prop)(h:Hp):Prop:=(zc (Qw g) (λr1 h1=>(ifP (!r1) (K zf h1) (mkP g.n g.n 1 [.bool false] (λm2 h2=>(zr (S:=Bool×Unit) (λs3 k4 h3=>(ifP s3.1 (mkP g.n g.n 8 [.int .i64 0] (λm5 h4=>(zr (S:=Int×Unit) (λs6 k7 h5=>(ifP (decide (s6.1<(g.edges.len:Int))) (z8 (S:=Unit) (λs8 h6=>(k7 ((i64.wrap (s6.1+1)),()) h6)) (λk9=>(zg g.edges s6.1 2 λa10=>(ldL (.int .i64) (a10.add 0) (λx11_0=>(ldL (.int .i64) (a10.add 1) (λx11_1=>(zg m2 x11_0 1 λa12=>(ldL (.bool) a12 (λx13=>(ifP (!x13) (zg m2 x11_1 1 λa14=>(ldL (.bool) a14 (λx15=>(ifP (!x15) (zg m5 x11_0 1 λa16=>(ldL (.int .i64) a16 (λx17=>(zg m5 x11_0 1 λa18=>(stP a18 [.int .i64 (i64.wrap (x17+1))] (λh7=>(zg m5 x11_1 1 λa19=>(ldL (.int .i64) a19 (λx20=>(zg m5 x11_1 1 λa21=>(stP a21 [.int .i64 (i64.wrap (x20+1))] (λh8=>(k9 () h8)) h7))) h7))) h5))) h5)) (k9 () h5))) h5)) (k9 () h5))) h5))) h5)) h5)))) (zr (S:=Bool×Int×Unit) (λs22 k23 h9=>(ifP (decide (s22.2.1<(m2.len:Int))) (z8 (S:=Bool×Unit) (λs24 h10=>(k23 (s24.1,(i64.wrap (s22.2.1+1)),()) h10)) (λk25=>(zg m2 s22.2.1 1 λa26=>(ldL (.bool) a26 (λx27=>(ifP (!x27) (zg m5 s22.2.1 1 λa28=>(ldL (.int .i64) a28 (λx29=>(ifP (decide (x29<=2)) (zg m2 s22.2.1 1 λa30=>(stP a30 [.bool true] (λh11=>(k25 (true,()) h11)) h9)) (k25 (s22.1,()) h9))) h9)) (k25 (s22.1,()) h9))) h9)))) (k4 (s22.1,()) h9))) (false,0,()) h5))) (0,()) h4)) h3) (zr (S:=Sl×Int×Unit) (λs31 k32 h12=>(ifP (decide (s31.2.1<(m2.len:Int))) (z8 (S:=Sl×Unit) (λs33 h13=>(k32 (s33.1,(i64.wrap (s31.2.1+1)),()) h13)) (λk34=>(zg m2 s31.2.1 1 λa35=>(ldL (.bool) a35 (λx36=>(ifP (!x36) (Y5 1 8 [.int .i64 0] s31.1 1 [.int .i64 s31.2.1] (λw37 h14=>(k34 (w37,()) h14)) h12) (k34 (s31.1,()) h12))) h12)))) (K s31.1 h12))) (zf,0,()) h3))) (true,()) h2)) h1))) h)
end F
end Den
end
