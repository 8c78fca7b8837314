/-
  Part 6 of the tools and contracts from which the statement is proved.
-/
import Derived.Test.YtijmjfcnjfnpgaaGreatDoorPartq5
import Derived.Test.YtijmjfcnjfnpgaaGreatDoorProg
import Derived.Laws.Externs
import Derived.RangeFuncBox
import Derived.RangeFuncLeaves
import Derived.Shelf.Abstract
import Derived.WalkKit
import Derived.OwnWalkIn
import Derived.TacticsInMore
import Derived.LoopNIn
import Derived.LoopIn
import Derived.Lib.Builder
import Derived.Lib.UnsafeStr
import Derived.ProofKit
set_option linter.all false
open Go.IntKind
section
namespace Den
open Go Iv Lx
def NQ(h:Hp)(B:Nat)(x:TNumber)(q:Rat):Prop:=x.radicands.len=0/\PL h B x.coefs [q]
theorem NQ.le{h h':Hp}{B:Nat}{x:TNumber}{q:Rat}(hx:NQ h B x q)(hl:h.le h'):NQ h' B x q:=⟨hx.1,hx.2.le hl⟩
theorem NQ.mono{h:Hp}{B C:Nat}{x:TNumber}{q:Rat}(hx:NQ h B x q)(hB:B<=C):NQ h C x q:=⟨hx.1,hx.2.mono hB⟩
def nc(x:TNumber):List Value:=[.slice x.radicands.a x.radicands.len x.radicands.cap,.slice x.coefs.a x.coefs.len x.coefs.cap]
def NQP(B:Nat)(h:Hp)(x:TNumber)(q:Rat):Prop:=NQ h B x q
theorem Xj(B:Nat):Rec nc 2 (NQP B):=⟨λ_=>rfl,by decide,λ_=>rfl,λhx hl=>hx.le hl⟩
theorem NR.lens{h:Hp}{x:TRat}{q:Rat}{k:Nat}(hx:NR h x q)(hq:BR k q):x.num.mag.len<=k/\x.den.mag.len<=k:=by
 have e1:=hx.1.len
 have e2:=hx.2.len
 exact⟨by rw[e1];exact Xp.2 hq.1,by rw[e2];exact Xp.2 hq.2⟩
section
variable {h : Hp} {B C k : Nat} {t u a b l : Sl} {x y : TRat} {p q : Rat} {X Y : TNumber} {Kb : Bool → Hp → Prop} {Ks : Sl → Hp → Prop} {KR : TRat → Hp → Prop} {KN : TNumber → Hp → Prop} {KE : TNumber × Int → Hp → Prop} {Ki : Int → Hp → Prop}
theorem zuv{K:Addr->Hp->Prop}(hx:NR h x q)(hq:BR B q)(H:∀A h',h.le h'->PL h' B ⟨some A,1,1⟩ [q]->K A h'):Yo [.bool x.num.neg,.slice x.num.mag.a x.num.mag.len x.num.mag.cap,.bool x.den.neg,.slice x.den.mag.a x.den.mag.len x.den.mag.cap] K h:=by
 refine zc4 (cells:=qc x) 4 1 rfl λA h' hl hr=>H A h' hl ⟨[x],hr,?_,Nat.le_refl _⟩
 refine⟨rfl,λk k1 k2=>?_⟩
 have:k=0:=by simp at k1;omega
 subst this
 exact⟨hx.le hl,hq⟩
theorem zcq(hx:NR h x q)(hq:BR B q)(hB:B<=1000000000000)(H:∀z h',h.le h'->NR h' z q->KR z h'):zc (F.z0f x) KR h:=by
 refine zd (λz h'=>NR h' z q) (λK' hk=>?_) λz h' hl hz=>H z h' hl hz
 unfold F.z0f
 have hl:=hx.lens hq
 refine z9g hx.1.1 (by rw[<-hx.1.len];omega) λy1 h1 ho1=>?_
 refine z9g (hx.2.1.le ho1.1) (by rw[<-hx.2.len];omega) λy2 h2 ho2=>hk _ _ (Hp.le_trans ho1.1 ho2.1) ?_
 exact⟨⟨ho1.rdW.le ho2.1,hx.1.2⟩,⟨ho2.rdW,hx.2.2⟩⟩
theorem zjf(hx:NR h x q)(hq:BR B q)(hB:B<=1000000000000)(H:∀z h',h.le h'->NQ h' B z q->KN z h'):zc (F.z30 x) KN h:=by
 refine zd (λz h'=>NQ h' B z q) (λK' hk=>?_) λz h' hl hz=>H z h' hl hz
 unfold F.z30
 refine zcq hx hq hB λz h1 hl1 hz=>?_
 exact zuv hz hq λA h2 hl2 hp=>hk _ _ (Hp.le_trans hl1 hl2) ⟨rfl,hp⟩
theorem zkw{n:Int}(h1:-9223372036854775808<=n)(h2:n<=9223372036854775807):BR 2 (n:Rat):=by
 refine⟨?_,?_⟩
 . rw[Rat.num_intCast];unfold Lt W;omega
 . rw[Rat.den_intCast];unfold Lt;decide
theorem z7f{n:Int}(h1:-9223372036854775808<=n)(h2:n<=9223372036854775807)(H:∀z h',h.le h'->NQ h' 2 z (n:Rat)->KN z h'):zc (F.We n) KN h:=by
 refine zd (λz h'=>NQ h' 2 z (n:Rat)) (λK' hk=>?_) λz h' hl hz=>H z h' hl hz
 unfold F.We
 refine z1o h1 h2 λz h3 hl3 hz=>?_
 exact zjf hz (zkw h1 h2) (by decide) λw h4 hl4 hw=>hk _ _ (Hp.le_trans hl3 hl4) hw
theorem zij{n:Int}(h1:-9223372036854775808<=n)(h2:n<=9223372036854775807)(H:∀z h',h.le h'->NQ h' 2 z (n:Rat)->KN z h'):zc (F.z1q n) KN h:=by
 refine zd (λz h'=>NQ h' 2 z (n:Rat)) (λK' hk=>?_) λz h' hl hz=>H z h' hl hz
 unfold F.z1q
 refine z37 h1 h2 λz h3 hl3 hz=>?_
 refine zd (λz h'=>NQ h' 2 z (n:Rat)) (λK2 hk2=>?_) λz h' hl hz=>hk _ _ (Hp.le_trans hl3 hl) hz
 unfold F.z7h
 exact zuv hz (zkw h1 h2) λA h4 hl4 hp=>hk2 _ _ hl4 ⟨rfl,hp⟩
theorem zf4(ht:t.len=0)(hu:u.len=0)(H:Kb true h):zc (F.z03 t u) Kb h:=by
 refine Zf _ (λK' hk=>?_) H
 unfold F.z03
 refine ze (λ_=>?_) (λhh=>absurd (by rw[ht,hu];exact Int.le_refl _) hh)
 rw[hu]
 refine⟨by omega,by omega,by omega,Zf _ (λK2 hk2=>?_) hk⟩
 unfold F.Zp
 refine yk (λhh=>absurd (by rw[hu];rfl) hh) (λ_=>?_)
 refine Y0 (n:=0) (by omega) (λ_ h'=>h'=h) rfl ?_
 rintro i h1 _ hh k _
 rw[hh]
 refine ze (λh2=>?_) (λ_=>hk2)
 exfalso
 have:(t.cut ((0:Int)).toNat ((0:Nat):Int).toNat 1).len=0:=rfl
 rw[this]at h2
 simp only at h2
 omega
theorem zp0(hp:PL h B l [q])(H:∀y h',h.le h'->PL h' B y [q]->Ks y h'):zc (F.Qc l) Ks h:=by
 refine zd (λy h'=>PL h' B y [q]) (λK' hk=>?_) λy h' hl hy=>H y h' hl hy
 unfold F.Qc
 have hll:=hp.len
 obtain⟨xs,h1,h2,h3⟩:=hp
 cases ha:l.a with
 | none=>
   have h4:=h1.2
   rw[ha]at h4
   simp only[Z0]at h4
   split at h4
   . rename_i h5
     have:=h1.1
     rw[h5,hll]at this
     simp at this
   . cases h4
 | some A=>
   refine zt rfl ?_
   refine(Bk.start (h:=h)).newF λbk h5 hb hD hB1=>?_
   have hxl:(xs.flatMap qc).length=l.len*4:=h1.1.symm
   refine⟨xs.flatMap qc,?_,?_⟩
   . have:=z6v hB1.le h1.2
     rw[hxl,ha]at this
     exact this
   . have ho:OS (z06 z73 bk []) 4 ⟨some ⟨bk,0,none⟩,0,0⟩ []:=OS.blk rfl
     have hl1:l.len=1:=hll
     refine ho.app hB1 (n:=l.len) hxl rfl ?_ ?_ ?_ λy f2 h6 hB2 ho2 _ _=>hk _ _ hB2.le ⟨xs,?_,h2.le hB2.le,ho2.2.1⟩
     . rw[List.all_flatMap];exact List.all_eq_true.2 λ_ _=>rfl
     . show(0+l.len)*64<=_;omega
     . show 0+l.len<=_;omega
     . rw[List.nil_append]at ho2
       exact ho2.rd hB2
theorem Z9a(ht:t.len=0):i64.wrap (1*2 ^ (min ((t.len:Int):Int).toNat i64.bits))=1:=by
 rw[ht]
 have e:min (((0:Nat):Int)).toNat i64.bits=0:=Nat.zero_min _
 rw[e];rfl
theorem Z4t(ht:t.len=0)(hp:PL h B a [q])(H:∀y h',h.le h'->PL h' B y [q]->Ks y h'):zc (F.z67 t a) Ks h:=by
 refine zd (λy h'=>PL h' B y [q]) (λK' hk=>?_) λy h' hl hy=>H y h' hl hy
 unfold F.z67
 refine zp0 hp λy h1 hl1 hy=>?_
 have hyl:=hy.len
 refine yx (λst h'=>st.1=y/\h'=h1) (λ_=>0) ⟨rfl,rfl⟩ ?_
 rintro⟨_,_⟩ h2 ⟨rfl,hh⟩
 rw[hh,Z9a ht]
 refine⟨by omega,ze (λh3=>?_) (λ_=>hk _ _ hl1 hy)⟩
 simp only at h3 hyl
 rw[hyl]at h3
 simp at h3
theorem zj7(hp:PL h B l [q])(hB:B<=1000000000000)(H:∀y h',h.le h'->PL h' B y [q]->Ks y h'):zc (F.V9 l) Ks h:=by
 refine zd (λy h'=>PL h' B y [q]) (λK' hk=>?_) λy h' hl hy=>H y h' hl hy
 unfold F.V9
 have hll:=hp.len
 have h1l:l.len=1:=hll
 have hbr:=hp.bound q (List.mem_cons_self ..)
 rw[h1l]
 refine(Bk.start (h:=h)).mkF 1 1 rfl rfl (Nat.le_refl _) (by omega) (by omega) λbm h1 hbm hDm hB1=>?_
 refine Y0 (n:=1) (by omega) (λi h'=>(i=0/\h'=h1)\/(0<i/\h.le h'/\PL h' B ⟨some ⟨bm,0,none⟩,1,1⟩ [q])) (.inl ⟨rfl,rfl⟩) ?_
 rintro i h2 hi hI k hk2
 refine ze (λh3=>?_) (λh3=>?_)
 . have hi0:i=0:=by simp only at h3;omega
   subst hi0
   rcases hI with ⟨_,hh⟩ | ⟨hh,_⟩
   . rw[hh]
     obtain⟨xs,g1,g2,g3⟩:=hp
     have hx0:0<xs.length:=by rw[g2.1];simp
     have hx:=g2.2 0 hx0 (by simp)
     simp only[List.getElem_cons_zero]at hx
     refine zia 0 (g1.le hB1.le) rfl hx0 ?_
     refine hB1.call (K1:=λz D'=>NR D' z q) (zcq hx.1 hbr hB λz h' _ hz=>hz) λz D3 h3' hl3 hB3 hz=>?_
     have ho:OS (z06 z73 bm (ye 1 [.bool false,.slice zf.a zf.len zf.cap,.bool false,.slice zf.a zf.len zf.cap])) 4 ⟨some ⟨bm,0,none⟩,1,1⟩ (ye 1 [.bool false,.slice zf.a zf.len zf.cap,.bool false,.slice zf.a zf.len zf.cap]):=OS.mk rfl (Nat.le_refl _)
     refine ho.st (vs:=qc z) 0 hB3 rfl (by show 0<1;omega) rfl (by decide) rfl λf4 h4 hB4 ho4 _=>hk2 _ (by omega) (.inr ⟨by omega,Hp.le_trans hl3 hB4.le,?_⟩)
     have e:Zb (ye 1 [.bool false,.slice zf.a zf.len zf.cap,.bool false,.slice zf.a zf.len zf.cap]) (0*4) (qc z)=[z].flatMap qc:=rfl
     rw[e]at ho4
     refine⟨[z],ho4.rd hB4,⟨rfl,λk k1 k2=>?_⟩,Nat.le_refl _⟩
     have:k=0:=by simp at k1;omega
     subst this
     exact⟨hz.le hB4.le,hbr⟩
   . omega
 . rcases hI with ⟨rfl,_⟩ | ⟨_,g1,g2⟩
   . simp only at h3;omega
   . exact hk _ _ g1 g2
theorem zfe(hx:NQ h B X q)(hB:B<=1000000000000)(H:∀z h',h.le h'->NQ h' B z q->KN z h'):zc (F.z1n X) KN h:=by
 refine zd (λz h'=>NQ h' B z q) (λK' hk=>?_) λz h' hl hz=>H z h' hl hz
 unfold F.z1n
 refine zj7 hx.2 hB λy h1 hl1 hy=>?_
 refine yx (λst h'=>st=((zf,y,()),0,())/\h'=h1) (λ_=>0) ⟨rfl,rfl⟩ ?_
 rintro st h2 ⟨rfl,hh⟩
 rw[hh]
 refine ze (λh3=>?_) (λ_=>hk _ _ hl1 ⟨rfl,hy⟩)
 exfalso
 simp only at h3
 rw[hx.1]at h3
 exact absurd h3 (by decide)
theorem zl9{qs:List Rat}{K:Sl×Int->Hp->Prop}(hl:LR nc 2 (NQP B) h l qs)(hlen:qs.length<=1000000)(H:K (zf,0) h):zc (F.z4c l) K h:=by
 refine Zf _ (λK' hk=>?_) H
 unfold F.z4c
 have hll:=hl.len (Xj B)
 refine Yt (n:=qs.length) (by omega) (λi s h'=>h'=h/\s=zf) ⟨rfl,rfl⟩ ?_
 rintro i s h1 hi ⟨hh,rfl⟩ k hk2
 rw[hh]
 refine ze (λh2=>?_) (λ_=>hk)
 have hi':i<qs.length:=by simp only at h2;omega
 refine zk (λs h'=>h'=h/\s.1=zf) (λs h' hs=>hk2 _ _ hi' hs) ?_
 refine hl.get (Xj B) i rfl hi' λa5 x hx hc=>⟨x.radicands,hc 0 _ rfl,x.coefs,hc 1 _ rfl,?_⟩
 exact zf4 rfl hx.1 (y7 rfl ⟨rfl,rfl⟩)
theorem zdu{qs:List Rat}{K:Sl×Int->Hp->Prop}(hl:LR nc 2 (NQP B) h l qs)(hlen:qs.length<=1000000)(hB:B<=1000000000000)(H:∀y D h',h.le D->LO nc 2 (NQP B) D h' y qs->K (y,0) h'):zc (F.z2h l) K h:=by
 refine zd (λr h'=>r.2=0/\∃D,h.le D/\LO nc 2 (NQP B) D h' r.1 qs) (λK' hk=>?_) λr h' hl hr=>?_
 . unfold F.z2h
   have hll:=hl.len (Xj B)
   refine zl9 hl hlen (yk (λhh=>absurd rfl hh) (λ_=>?_))
   refine Yt (n:=qs.length) (by omega) (λi s h'=>∃D,h.le D/\LO nc 2 (NQP B) D h' s (qs.take i)) ⟨h,Hp.le_refl _,by simpa using LO.nil⟩ ?_
   rintro i s h1 hi ⟨D,hD,ho⟩ k hk2
   refine ze (λh2=>?_) (λh2=>?_)
   . have hi':i<qs.length:=by simp only at h2;omega
     refine(hl.le (Xj B) hD).get2 (Xj B) ho.dle i rfl hi' λa4 x hx hc=>⟨x.radicands,hc 0 _ rfl,x.coefs,hc 1 _ rfl,?_⟩
     have hx:NQ D B x qs[i]:=hx
     obtain⟨J,hJ⟩:∃J:(Sl×Sl×Unit)×Unit->Hp->Prop,∀s' h',J s' h'↔∃D',h.le D'/\LO nc 2 (NQP B) D' h' s (qs.take i)/\NQ D' B ⟨s'.1.1,s'.1.2.1⟩ qs[i]:=⟨_,λ_ _=>Iff.rfl⟩
     refine zk J (λs' h' hs=>?_) ?_
     . obtain⟨D',q1,q2,q3⟩:=(hJ s' h').1 hs
       refine q2.call (Xj B) (K1:=λz D2=>NQ D2 B z qs[i]) (zfe q3 hB λz h'' _ hz=>hz) λz D2 h4 hl4 q5 q6=>?_
       have hsl:=q5.len (Xj B)
       refine q5.app (Xj B) (bytes:=48) (zero:=[.slice zf.a zf.len zf.cap,.slice zf.a zf.len zf.cap]) (x:=z) (b:=qs[i]) rfl (by rw[List.length_take];omega) (by rw[List.length_take];omega) q6 λw h5 hw=>hk2 _ _ hi' ⟨D2,Hp.le_trans q1 hl4,?_⟩
       rw[<-List.take_append_getElem hi'];exact hw
     . refine zf4 rfl hx.1 (y7 rfl ?_)
       refine ho.call (Xj B) (K1:=λy D2=>PL D2 B y [qs[i]]) (Z4t rfl hx.2 λy h'' _ hy=>hy) λy D2 h4 hl4 q5 q6=>?_
       exact(hJ _ _).2 ⟨D2,Hp.le_trans hD hl4,q5,rfl,q6⟩
   . have:i=qs.length:=by simp only at h2;omega
     subst this
     rw[List.take_length]at ho
     exact hk _ _ (Hp.le_trans hD ho.dle) ⟨rfl,D,hD,ho⟩
 . obtain⟨y,e⟩:=r
   obtain⟨h1,D,h2,h3⟩:=hr
   simp only at h1
   subst h1
   exact H y D h' h2 h3
theorem zd9(hp:PL h B l [q])(hB:B<=1000000000000)(H:∀h',h.le h'->Kb true h'):zc (F.z04 l 1) Kb h:=by
 refine zd (λb h'=>b=true) (λK' hk=>?_) λb h' hl hb=>by subst hb;exact H h' hl
 unfold F.z04
 have hll:l.len=1:=hp.len
 refine zz (λ_=>?_) (λhh=>absurd (by rw[hll];rfl) hh)
 refine zd (λb h'=>b=false) (λK2 hk2=>?_) λb h' hl hb=>by subst hb;exact hk _ _ hl rfl
 unfold F.yl
 refine zd (λr h'=>r=-1) (λK3 hk3=>?_) λr h' hl hr=>by subst hr;exact hk2 _ _ hl rfl
 unfold F.yz
 refine Y0 (n:=1) (by omega) (λi h'=>h.le h') (Hp.le_refl _) ?_
 intro i h1 hi hl1 k hk4
 refine ze (λh2=>?_) (λ_=>hk3 _ _ hl1 rfl)
 have hi0:i=0:=by simp only at h2;omega
 subst hi0
 refine(hp.le hl1).get 0 rfl (by simp) λx hx bx=>?_
 simp only[List.getElem_cons_zero]at hx bx
 refine zd (λb h'=>b=false) (λK5 hk5=>?_) λb h' hl hb=>by subst hb;exact zt rfl (hk4 _ (by omega) (Hp.le_trans hl1 hl))
 unfold F.z57
 have hlens:=hx.lens bx
 exact za5 (x:=x) hx.ar (by omega) (by omega) (λ_ h' hl _=>hk5 _ _ hl rfl) (λh' hl hn=>absurd ⟨q,hx⟩ hn)
theorem za6(ht:t.len=0)(H:Kb true h):zc (F.z00 t) Kb h:=by
 refine Zf _ (λK' hk=>?_) H
 unfold F.z00
 refine Y0 (n:=0) (by omega) (λi h'=>h'=h) rfl ?_
 rintro i h1 _ hh k _
 rw[hh]
 refine ze (λh2=>?_) (λ_=>hk)
 exfalso
 simp only at h2
 rw[ht]at h2
 omega
theorem z4g(ht:t.len=0)(hp:PL h B l [q])(hB:B<=1000000000000)(H:∀h',h.le h'->Kb true h'):zc (F.Wv t l) Kb h:=by
 refine zd (λb h'=>b=true) (λK' hk=>?_) λb h' hl hb=>by subst hb;exact H h' hl
 unfold F.Wv
 refine za6 ht (y7 rfl ⟨by omega,?_⟩)
 rw[Z9a ht]
 exact zd9 hp hB λh' hl=>hk _ _ hl rfl
theorem zcx(ht:t.len=0)(ha:PL h B a [p])(hb:PL h C b [q])(hB:B<=1000000000000)(hC:C<=1000000000000)(H:∀h',h.le h'->Kb true h'):zc (F.z14 t a b) Kb h:=by
 refine zd (λb h'=>b=true) (λK' hk=>?_) λb h' hl hb=>by subst hb;exact H h' hl
 unfold F.z14
 refine z4g ht ha hB λh1 hl1=>y7 rfl ⟨by omega,?_⟩
 rw[Z9a ht]
 exact zd9 (hb.le hl1) hC λh' hl=>hk _ _ (Hp.le_trans hl1 hl) rfl
end
end Den
end

section
namespace Den
open Go Iv Lx
abbrev zQ:List Value:=[.bool false,.slice zf.a zf.len zf.cap,.bool false,.slice zf.a zf.len zf.cap]
theorem zev(z:TRat):Zb (ye 1 zQ) (0*4) (qc z)=[z].flatMap qc:=rfl
section
variable {D h : Hp} {f : BM} {B C k : Nat} {t u a b l : Sl} {x y z : TRat} {p q : Rat} {X Y : TNumber} {Kb : Bool → Hp → Prop} {Ks : Sl → Hp → Prop} {KR : TRat → Hp → Prop} {KN : TNumber → Hp → Prop} {KE : TNumber × Int → Hp → Prop} {Ki : Int → Hp → Prop}
theorem PL.one(hx:NR h z q)(hq:BR B q)(hr:Rd h 4 l ([z].flatMap qc))(hc:l.len<=l.cap):PL h B l [q]:=by
 refine⟨[z],hr,⟨rfl,λk k1 k2=>?_⟩,hc⟩
 have:k=0:=by simp at k1;omega
 subst this
 exact⟨hx,hq⟩
theorem PL.hd(hp:PL h B l [q]):∃xs,RdQ h l xs/\∃hx:0<xs.length,NR h xs[0] q/\BR B q:=by
 obtain⟨xs,g1,g2,g3⟩:=hp
 have hx0:0<xs.length:=by rw[g2.1];simp
 have:=g2.2 0 hx0 (by simp)
 exact⟨xs,g1,hx0,this.1,this.2⟩
theorem zxw(ha:PL h B a [p])(hb:PL h C b [q])(hB:B<=400000000000)(hC:C<=400000000000)(H:∀y h',h.le h'->PL h' (B+C+1) y [p+q]->Ks y h'):zc (F.z2n a b) Ks h:=by
 refine zd (λy h'=>PL h' (B+C+1) y [p+q]) (λK' hk=>?_) λy h' hl hy=>H y h' hl hy
 unfold F.z2n
 have h1l:a.len=1:=ha.len
 obtain⟨xs,gx,hx0,hx,bx⟩:=ha.hd
 obtain⟨ys,gy,hy0,hy,bY⟩:=hb.hd
 rw[h1l]
 refine(Bk.start (h:=h)).mkF 1 1 rfl rfl (Nat.le_refl _) (by omega) (by omega) λbm h1 hbm hDm hB1=>?_
 refine Y0 (n:=1) (by omega) (λi h'=>(i=0/\h'=h1)\/(0<i/\h.le h'/\PL h' (B+C+1) ⟨some ⟨bm,0,none⟩,1,1⟩ [p+q])) (.inl ⟨rfl,rfl⟩) ?_
 rintro i h2 hi hI k hk2
 refine ze (λh3=>?_) (λh3=>?_)
 . have hi0:i=0:=by have:(i:Int)<((1:Nat):Int):=h3;omega
   subst hi0
   rcases hI with ⟨_,hh⟩ | ⟨hh,_⟩
   . rw[hh]
     refine zia 0 (gx.le hB1.le) rfl hx0 (zia 0 (gy.le hB1.le) rfl hy0 ?_)
     refine hB1.call (K1:=λz D'=>NR D' z (p+q)) (zx9 (x:=xs[0]) (y:=ys[0]) hx hy bx bY hB hC λz h' _ hz=>hz) λz D3 h3' hl3 hB3 hz=>?_
     have ho:OS (z06 z73 bm (ye 1 zQ)) 4 ⟨some ⟨bm,0,none⟩,1,1⟩ (ye 1 zQ):=OS.mk rfl (Nat.le_refl _)
     refine ho.st (vs:=qc z) 0 hB3 rfl (by show 0<1;omega) rfl (by decide) rfl λf4 h4 hB4 ho4 _=>hk2 _ (by omega) (.inr ⟨by omega,Hp.le_trans hl3 hB4.le,?_⟩)
     rw[zev]at ho4
     exact PL.one (hz.le hB4.le) (bx.add bY) (ho4.rd hB4) (Nat.le_refl _)
   . omega
 . rcases hI with ⟨rfl,_⟩ | ⟨_,g1,g2⟩
   . have:¬((0:Nat):Int)<((1:Nat):Int):=h3;omega
   . exact hk _ _ g1 g2
theorem zkq(ha:PL h B a [p])(hB:B<=400000000000)(H:∀y h',h.le h'->PL h' B y [-p]->Ks y h'):zc (F.z40 a) Ks h:=by
 refine zd (λy h'=>PL h' B y [-p]) (λK' hk=>?_) λy h' hl hy=>H y h' hl hy
 unfold F.z40
 have h1l:a.len=1:=ha.len
 obtain⟨xs,gx,hx0,hx,bx⟩:=ha.hd
 rw[h1l]
 refine(Bk.start (h:=h)).mkF 1 1 rfl rfl (Nat.le_refl _) (by omega) (by omega) λbm h1 hbm hDm hB1=>?_
 refine Y0 (n:=1) (by omega) (λi h'=>(i=0/\h'=h1)\/(0<i/\h.le h'/\PL h' B ⟨some ⟨bm,0,none⟩,1,1⟩ [-p])) (.inl ⟨rfl,rfl⟩) ?_
 rintro i h2 hi hI k hk2
 refine ze (λh3=>?_) (λh3=>?_)
 . have hi0:i=0:=by have:(i:Int)<((1:Nat):Int):=h3;omega
   subst hi0
   rcases hI with ⟨_,hh⟩ | ⟨hh,_⟩
   . rw[hh]
     refine zia 0 (gx.le hB1.le) rfl hx0 ?_
     refine hB1.call (K1:=λz D'=>NR D' z (-p)) (zxb (x:=xs[0]) hx bx (by omega) λz h' _ hz=>hz) λz D3 h3' hl3 hB3 hz=>?_
     have ho:OS (z06 z73 bm (ye 1 zQ)) 4 ⟨some ⟨bm,0,none⟩,1,1⟩ (ye 1 zQ):=OS.mk rfl (Nat.le_refl _)
     refine ho.st (vs:=qc z) 0 hB3 rfl (by show 0<1;omega) rfl (by decide) rfl λf4 h4 hB4 ho4 _=>hk2 _ (by omega) (.inr ⟨by omega,Hp.le_trans hl3 hB4.le,?_⟩)
     rw[zev]at ho4
     exact PL.one (hz.le hB4.le) bx.neg (ho4.rd hB4) (Nat.le_refl _)
   . omega
 . rcases hI with ⟨rfl,_⟩ | ⟨_,g1,g2⟩
   . have:¬((0:Nat):Int)<((1:Nat):Int):=h3;omega
   . exact hk _ _ g1 g2
theorem zxt(ht:t.len=0)(ha:PL h B a [p])(hb:PL h C b [q])(hB:B<=400000000000)(hC:C<=400000000000)(H:∀y h',h.le h'->PL h' (B+C) y [p*q]->Ks y h'):zc (F.z2m t a b) Ks h:=by
 refine zd (λy h'=>PL h' (B+C) y [p*q]) (λK' hk=>?_) λy h' hl hy=>H y h' hl hy
 unfold F.z2m
 refine zcx ht ha hb (by omega) (by omega) λh1 hl1=>zt rfl ?_
 refine zd (λy h'=>PL h' (B+C) y [p*q]) (λK2 hk2=>?_) λy h' hl hy=>hk _ _ (Hp.le_trans hl1 hl) hy
 unfold F.z2o
 refine⟨1,?_⟩
 unfold F.W9
 refine zk (λ_ _=>False) (λ_ _ hh=>hh.elim) ?_
 refine zz (λ_=>?_) (λhh=>absurd (by rw[ht];rfl) hh)
 refine(ha.le hl1).get 0 rfl (by simp) λx hx bx=>(hb.le hl1).get 0 rfl (by simp) λy hy bY=>?_
 simp only[List.getElem_cons_zero]at hx bx hy bY
 refine zkj (x:=x) (y:=y) hx hy bx bY hB hC λz h2 hl2 hz=>?_
 exact zuv hz (bx.mul bY) λA h3 hl3 hp=>hk2 _ _ (Hp.le_trans hl2 hl3) hp
theorem zxv(ht:t.len=0)(ha:PL h B a [p])(hb:PL h C b [q])(hB:B<=400000000000)(hC:C<=400000000000)(H:∀y h',h.le h'->PL h' (B+C+1) y [p-q]->Ks y h'):zc (F.z82 t a b) Ks h:=by
 refine zd (λy h'=>PL h' (B+C+1) y [p-q]) (λK' hk=>?_) λy h' hl hy=>H y h' hl hy
 unfold F.z82
 refine zcx ht ha hb (by omega) (by omega) λh1 hl1=>zt rfl ?_
 refine zkq (hb.le hl1) hC λy h2 hl2 hy=>?_
 refine zxw (ha.le (Hp.le_trans hl1 hl2)) hy hB hC λw h3 hl3 hw=>hk _ _ (Hp.le_trans hl1 (Hp.le_trans hl2 hl3)) ?_
 rw[Rat.sub_eq_add_neg];exact hw
theorem zcn(hx:NQ h B X p)(hy:NQ h B Y q)(hB:B<=400000000000)(H:∀z h',h.le h'->NQ h' (B+B) z (p*q)->KE (z,0) h'):zc (F.z65 X Y) KE h:=by
 refine zd (λz h'=>z.2=0/\NQ h' (B+B) z.1 (p*q)) (λK' hk=>?_) λz h' hl hz=>?_
 . unfold F.z65
   refine zd (λz h'=>z.2=0/\NQ h' (B+B) z.1 (p*q)) (λK2 hk2=>?_) λz h' hl hz=>hk _ _ hl hz
   unfold F.W5
   refine zc4 (cells:=[X,Y].flatMap nc) 2 2 rfl λA h1 hl1 hr=>?_
   have hlr:LR nc 2 (NQP B) h1 ⟨some A,2,2⟩ [p,q]:=by
    refine⟨[X,Y],hr,Nat.le_refl _,rfl,λk k1 k2=>?_⟩
    have:k<2:=k1
    rcases(by omega:k=0\/k=1)with rfl | rfl
    . exact hx.le hl1
    . exact hy.le hl1
   refine zdu hlr (by simp) (by omega) λy D h2 hD hlo=>?_
   have hle2:=Hp.le_trans hl1 (Hp.le_trans hD hlo.dle)
   have hy2:=hlo.lr (Xj B)
   refine yk (λhh=>absurd rfl hh) (λ_=>?_)
   refine hy2.get (Xj B) 0 rfl (by simp) λa3 U hU c3=>⟨U.radicands,c3 0 _ rfl,?_⟩
   refine hy2.get (Xj B) 0 rfl (by simp) λa5 V hV c5=>⟨V.coefs,c5 1 _ rfl,?_⟩
   refine hy2.get (Xj B) 1 rfl (by simp) λa7 Z hZ c7=>⟨Z.coefs,c7 1 _ rfl,?_⟩
   have hU:NQ h2 B U p:=hU
   have hV:NQ h2 B V p:=hV
   have hZ:NQ h2 B Z q:=hZ
   exact zxt hU.1 hV.2 hZ.2 hB hB λw h3 hl3 hw=>hk2 _ _ (Hp.le_trans hle2 hl3) ⟨rfl,hU.1,hw⟩
 . obtain⟨z,e⟩:=z
   obtain⟨h1,h2⟩:=hz
   simp only at h1
   subst h1
   exact H z h' hl h2
theorem zl8(hx:NQ h B X p)(hy:NQ h B Y q)(hB:B<=400000000000)(H:∀z h',h.le h'->NQ h' (B+B+1) z (p-q)->KE (z,0) h'):zc (F.z8o X Y) KE h:=by
 refine zd (λz h'=>z.2=0/\NQ h' (B+B+1) z.1 (p-q)) (λK' hk=>?_) λz h' hl hz=>?_
 . unfold F.z8o
   refine zd (λz h'=>z.2=0/\NQ h' (B+B+1) z.1 (p-q)) (λK2 hk2=>?_) λz h' hl hz=>hk _ _ hl hz
   unfold F.W6
   refine zc4 (cells:=[X,Y].flatMap nc) 2 2 rfl λA h1 hl1 hr=>?_
   have hlr:LR nc 2 (NQP B) h1 ⟨some A,2,2⟩ [p,q]:=by
    refine⟨[X,Y],hr,Nat.le_refl _,rfl,λk k1 k2=>?_⟩
    have:k<2:=k1
    rcases(by omega:k=0\/k=1)with rfl | rfl
    . exact hx.le hl1
    . exact hy.le hl1
   refine zdu hlr (by simp) (by omega) λy D h2 hD hlo=>?_
   have hle2:=Hp.le_trans hl1 (Hp.le_trans hD hlo.dle)
   have hy2:=hlo.lr (Xj B)
   refine yk (λhh=>absurd rfl hh) (λ_=>?_)
   refine hy2.get (Xj B) 0 rfl (by simp) λa3 U hU c3=>⟨U.radicands,c3 0 _ rfl,?_⟩
   refine hy2.get (Xj B) 0 rfl (by simp) λa5 V hV c5=>⟨V.coefs,c5 1 _ rfl,?_⟩
   refine hy2.get (Xj B) 1 rfl (by simp) λa7 Z hZ c7=>⟨Z.coefs,c7 1 _ rfl,?_⟩
   have hU:NQ h2 B U p:=hU
   have hV:NQ h2 B V p:=hV
   have hZ:NQ h2 B Z q:=hZ
   exact zxv hU.1 hV.2 hZ.2 hB hB λw h3 hl3 hw=>hk2 _ _ (Hp.le_trans hle2 hl3) ⟨rfl,hU.1,hw⟩
 . obtain⟨z,e⟩:=z
   obtain⟨h1,h2⟩:=hz
   simp only at h1
   subst h1
   exact H z h' hl h2
theorem zmr{c:Option Addr}(H:KN X h):zc (F.y_matrix_calc_take c X 0) KN h:=by
 refine Zf _ (λK' hk=>?_) H
 unfold F.y_matrix_calc_take
 exact zk (λ_ h'=>h'=h) (λ_ h' hh=>yk (λhn=>absurd rfl hn) (λ_=>by rw[hh];exact hk)) (yk (λhn=>absurd rfl hn) (λ_=>rfl))
theorem zjp{c:Option Addr}(hx:NQ h B X p)(hy:NQ h B Y q)(hB:B<=400000000000)(H:∀z h',h.le h'->NQ h' (B+B) z (p*q)->KN z h'):zc (F.y_matrix_calc_mul c X Y) KN h:=by
 refine zd (λz h'=>NQ h' (B+B) z (p*q)) (λK' hk=>?_) λz h' hl hz=>H z h' hl hz
 unfold F.y_matrix_calc_mul
 exact zcn hx hy hB λz h1 hl1 hz=>zmr (hk _ _ hl1 hz)
theorem zvp{c:Option Addr}(hx:NQ h B X p)(hy:NQ h B Y q)(hB:B<=400000000000)(H:∀z h',h.le h'->NQ h' (B+B+1) z (p-q)->KN z h'):zc (F.y_matrix_calc_sub c X Y) KN h:=by
 refine zd (λz h'=>NQ h' (B+B+1) z (p-q)) (λK' hk=>?_) λz h' hl hz=>H z h' hl hz
 unfold F.y_matrix_calc_sub
 exact zl8 hx hy hB λz h1 hl1 hz=>zmr (hk _ _ hl1 hz)
theorem Z8v(q:Rat):((1:Int):Rat)/q=q⁻¹:=by rw[Rat.div_def];exact Rat.one_mul _
theorem zvo{c:Option Addr}(hx:NQ h B X p)(hy:NQ h B Y q)(hB0:1<=B)(hB:B<=400000000000)(h0:q≠0)(H:∀z h',h.le h'->NQ h' (B+B) z (p/q)->KN z h'):zc (F.y_matrix_calc_div c X Y) KN h:=by
 refine zd (λz h'=>NQ h' (B+B) z (p/q)) (λK' hk=>?_) λz h' hl hz=>H z h' hl hz
 have hn0:q.num≠0:=λhh=>h0 (Rat.num_eq_zero.1 hh)
 unfold F.y_matrix_calc_div
 refine zd (λz h'=>z.2=0/\NQ h' (B+B) z.1 (p/q)) (λK2 hk2=>?_) λz h' hl hz=>?_
 . unfold F.zc7
   refine zd (λr h'=>r.2=0/\PL h' B r.1 [q⁻¹]) (λK3 hk3=>?_) λr h1 hl1 hr=>?_
   . unfold F.zex
     refine z4g hy.1 hy.2 (by omega) λh1 hl1=>zt rfl ?_
     refine zd (λr h'=>r.2=true/\PL h' B r.1 [q⁻¹]) (λK4 hk4=>?_) λr h2 hl2 hr=>?_
     . unfold F.z7j
       refine⟨1,?_⟩
       unfold F.Vh
       refine zz (λ_=>?_) (λhh=>absurd (by rw[hy.1];rfl) hh)
       refine(hy.2.le hl1).get 0 rfl (by simp) λx hx bx=>?_
       simp only[List.getElem_cons_zero]at hx bx
       refine z1o (by decide) (by decide) λo h2 hl2 ho=>?_
       refine zxa (y:=x) ho (hx.le hl2) Zbe bx (by decide) hB hn0 λz h3 hl3 hz=>?_
       rw[Z8v]at hz
       exact zuv hz (bx.inv hn0) λA h4 hl4 hp=>hk4 _ _ (Hp.le_trans hl2 (Hp.le_trans hl3 hl4)) ⟨rfl,hp⟩
     . rw[hr.1]
       exact zt rfl (hk3 _ _ (Hp.le_trans hl1 hl2) ⟨rfl,hr.2⟩)
   . obtain⟨r,e⟩:=r
     obtain⟨e1,e2⟩:=hr
     simp only at e1 e2
     subst e1
     refine yk (λhh=>absurd rfl hh) (λ_=>?_)
     have:p/q=p*q⁻¹:=Rat.div_def p q
     refine zcn (Y:=⟨Y.radicands,r⟩) (q:=q⁻¹) (hx.le hl1) ⟨hy.1,e2⟩ hB λz h2 hl2 hz=>hk2 _ _ (Hp.le_trans hl1 hl2) ⟨rfl,by rw[this];exact hz⟩
 . obtain⟨z,e⟩:=z
   obtain⟨e1,e2⟩:=hz
   simp only at e1 e2
   subst e1
   exact zmr (hk _ _ hl e2)
theorem zxu(hx:NQ h B X p)(hB:B<=400000000000)(H:∀z h',h.le h'->NQ h' B z (-p)->KN z h'):zc (F.z8n X) KN h:=by
 refine zd (λz h'=>NQ h' B z (-p)) (λK' hk=>?_) λz h' hl hz=>H z h' hl hz
 unfold F.z8n
 refine zfe hx (by omega) λz h1 hl1 hz=>?_
 refine zd (λy h'=>PL h' B y [-p]) (λK2 hk2=>?_) λy h2 hl2 hy=>hk _ _ (Hp.le_trans hl1 hl2) ⟨hz.1,hy⟩
 unfold F.zey
 refine z4g hz.1 hz.2 (by omega) λh2 hl2=>zt rfl ?_
 exact zkq (hz.2.le hl2) hB λy h3 hl3 hy=>hk2 _ _ (Hp.le_trans hl2 hl3) hy
theorem zpn(H:∀y h',Own h h' 4 y (ye 1 zQ)\/(∃z,Own h h' 4 y ([z].flatMap qc))->Ks y h'):zc (F.z2p 1) Ks h:=by
 refine zd (λy h'=>∃z,Own h h' 4 y ([z].flatMap qc)) (λK' hk=>?_) λy h' _ hy=>H y h' (.inr hy)
 unfold F.z2p
 refine(Bk.start (h:=h)).mkF 1 1 rfl rfl (Nat.le_refl _) (by omega) (by omega) λbm h1 hbm hDm hB1=>?_
 refine Y0 (n:=1) (by omega) (λi h'=>(i=0/\h'=h1)\/(0<i/\∃z,Own h h' 4 ⟨some ⟨bm,0,none⟩,1,1⟩ ([z].flatMap qc))) (.inl ⟨rfl,rfl⟩) ?_
 rintro i h2 hi hI k hk2
 refine ze (λh3=>?_) (λh3=>?_)
 . have hi0:i=0:=by have:(i:Int)<((1:Nat):Int):=h3;omega
   subst hi0
   rcases hI with ⟨_,hh⟩ | ⟨hh,_⟩
   . rw[hh]
     refine z1o (by decide) (by decide) λz h3' hl3 hz=>?_
     have hB3:=hB1.mono hl3
     have ho:OS (z06 z73 bm (ye 1 zQ)) 4 ⟨some ⟨bm,0,none⟩,1,1⟩ (ye 1 zQ):=OS.mk rfl (Nat.le_refl _)
     refine ho.st (vs:=qc z) 0 hB3 rfl (by show 0<1;omega) rfl (by decide) rfl λf4 h4 hB4 ho4 _=>hk2 _ (by omega) (.inr ⟨by omega,z,?_⟩)
     rw[zev]at ho4
     exact ho4.own hB4
   . omega
 . rcases hI with ⟨rfl,_⟩ | ⟨_,z,g2⟩
   . have:¬((0:Nat):Int)<((1:Nat):Int):=h3;omega
   . exact hk _ _ g2.1 ⟨z,g2⟩
theorem zvm(ht:t.len=0)(H:∀h',h.le h'->Kb true h'):zc (F.zb6 t) Kb h:=by
 refine zd (λb h'=>b=true) (λK' hk=>?_) λb h' hl hb=>by subst hb;exact H h' hl
 unfold F.zb6
 refine z1o (by decide) (by decide) λo h1 hl1 ho=>?_
 have bo:=zkw (n:=0) (by decide) (by decide)
 refine zd (λy h'=>PL h' 2 y [((0:Int):Rat)]) (λK2 hk2=>?_) λy h2 hl2 hy=>?_
 . unfold F.z4e
   refine zk (λ_ h'=>h1.le h') ?_ ?_
   . rintro _ h2 hl2
     rw[Z9a ht]
     refine⟨by omega,zpn λy h3 hy=>?_⟩
     have fin:∀cs,cs.length=4->Own h2 h3 4 y cs->zg y 0 4 λa4=>stP a4 (qc o) (λh3=>K2 y h3) h3:=λcs hcs hO=>by
      obtain⟨f3,hB3,hos⟩:=hO.bk
      have hyl:y.len=1:=by have:=hO.2.1;rw[hcs]at this;omega
      refine hos.st (vs:=qc o) 0 hB3 rfl (by omega) rfl (by decide) rfl λf4 h4 hB4 ho4 _=>hk2 _ _ (Hp.le_trans hl2 hB4.le) ?_
      have e:Zb cs (0*4) (qc o)=[o].flatMap qc:=by
       unfold Zb
       rw[Nat.zero_mul,List.take_zero,List.nil_append,Nat.zero_add,zsp,List.drop_of_length_le (by omega)];rfl
      rw[e]at ho4
      exact PL.one ((ho.le hl2).le hB4.le) bo (ho4.rd hB4) ho4.2.1
     rcases hy with hy | ⟨z,hy⟩
     . exact fin _ rfl hy
     . exact fin _ rfl hy
   . refine za6 ht (zt rfl ?_)
     have hlens:=ho.lens bo
     exact za5 ho.ar (by omega) (by omega) (λ_ h' hl _=>zt rfl hl) (λh' hl hn=>absurd ⟨_,ho⟩ hn)
 . refine z4g ht hy (by decide) λh3 hl3=>zt rfl ?_
   have hle:=Hp.le_trans hl1 (Hp.le_trans hl2 hl3)
   refine Y0 (n:=0) (by omega) (λi h'=>h'=h3) rfl ?_
   rintro i h4 _ hh k _
   rw[hh]
   refine ze (λh5=>?_) (λ_=>hk _ _ hle rfl)
   exfalso
   simp only at h5
   rw[ht]at h5
   omega
theorem zc3(hx:NQ h B X p)(hB:B<=400000000000)(H:∀h',h.le h'->Ki p.num.sign h'):zc (F.z2i X) Ki h:=by
 refine zd (λr h'=>r=p.num.sign) (λK' hk=>?_) λr h' hl hr=>by subst hr;exact H h' hl
 unfold F.z2i
 refine zd (λr h'=>r=p.num.sign) (λK2 hk2=>?_) λr h' hl hr=>hk _ _ hl hr
 unfold F.zes
 refine Xy λp1 h1 hl1 c1=>?_
 refine zd (λb h'=>b=true) (λK3 hk3=>?_) λb h2 hl2 hb=>?_
 . unfold F.zet
   refine Y0 (n:=1) (by omega) (λi h'=>h1.le h') (Hp.le_refl _) ?_
   intro i h2 hi hl2 k hk4
   refine ze (λh3=>?_) (λ_=>?_)
   . have hi0:i=0:=by have:(i:Int)<((1:Nat):Int):=h3;omega
     subst hi0
     refine⟨by omega,h3,?_⟩
     show yu (some p1) _
     simp only[yu]
     have e0:(((0:Nat):Int).toNat*1)=0:=rfl
     rw[e0,Zv]
     refine⟨X.coefs,Hp.cell_le hl2 c1,?_⟩
     refine z4g hx.1 (hx.2.le (Hp.le_trans hl1 hl2)) (by omega) λh4 hl4=>zt rfl (hk4 _ (by omega) (Hp.le_trans hl2 hl4))
   . exact zvm hx.1 λh' hl=>hk3 _ _ (Hp.le_trans hl2 hl) rfl
 . subst hb
   refine zt rfl ?_
   have hle:=Hp.le_trans hl1 hl2
   refine zd (λr h'=>r=p.num.sign) (λK3 hk3=>?_) λr h' hl hr=>hk2 _ _ (Hp.le_trans hle hl) hr
   unfold F.z8y
   refine⟨1,?_⟩
   unfold F.Vm
   refine zz (λ_=>?_) (λhh=>absurd (by rw[hx.1];rfl) hh)
   refine(hx.2.le hle).get 0 rfl (by simp) λx hx bx=>?_
   simp only[List.getElem_cons_zero]at hx bx
   exact zi7 (x:=x) hx bx (by omega) (hk3 _ _ (Hp.le_refl _) rfl)
end
end Den
end

section
namespace Den
open Go Iv Lx
def z9d(bl o c:Nat):Sl:=⟨some ⟨bl,o,none⟩,c,c⟩
structure MX(D:Hp)(f:BM)(B:Nat->Nat->Nat)(m:Sl)(r c bo bl:Nat)(σ:Nat->Nat)(M:Nat->Nat->Rat):Prop where
 em:m=⟨some ⟨bo,0,none⟩,r,r⟩
 ne:bo≠bl
 out:f bo=some ((List.range r).map λi=>slV (z9d bl (σ i*c*2) c))
 lt:∀i,i<r->σ i<r
 inj:∀i j,i<r->j<r->σ i=σ j->i=j
 cells:∃cs,f bl=some cs/\r*c*2<=cs.length/\∀i j,i<r->j<c->∃x,NQ D (B i j) x (M i j)/\cs[σ i*c*2+j*2]?=some (.slice x.radicands.a x.radicands.len x.radicands.cap)/\cs[σ i*c*2+j*2+1]?=some (.slice x.coefs.a x.coefs.len x.coefs.cap)
theorem z6m{cs vs:List Value}{o i:Nat}(h:o+vs.length<=cs.length):(Zb cs o vs)[i]?=if o<=i/\i<o+vs.length then vs[i-o]? else cs[i]?:=by
 unfold Zb
 by_cases h1:i<o
 . rw[if_neg (by omega),List.append_assoc,List.getElem?_append_left (by simp;omega),List.getElem?_take,if_pos h1]
 . by_cases h2:i<o+vs.length
   . rw[if_pos ⟨by omega,h2⟩,List.append_assoc,List.getElem?_append_right (by simp;omega),List.getElem?_append_left (by simp;omega)]
     congr 1;simp;omega
   . rw[if_neg (by omega),List.getElem?_append_right (by simp;omega),List.getElem?_drop]
     congr 1;simp;omega
theorem Zdl{r c a j:Nat}(ha:a<r)(hj:j<c):a*c*2+j*2+2<=r*c*2:=by
 have h1:(a+1)*c<=r*c:=Nat.mul_le_mul_right _ ha
 rw[Nat.add_mul]at h1
 omega
theorem Z97{a b c j l:Nat}(hj:j<c)(hl:l<c)(h:a*c*2+j*2=b*c*2+l*2):a=b/\j=l:=by
 have h1:a*c+j=b*c+l:=by omega
 rcases Nat.lt_trichotomy a b with h2 | h2 | h2
 . have:(a+1)*c<=b*c:=Nat.mul_le_mul_right _ h2
   rw[Nat.add_mul]at this;omega
 . subst h2;exact⟨rfl,by omega⟩
 . have:(b+1)*c<=a*c:=Nat.mul_le_mul_right _ h2
   rw[Nat.add_mul]at this;omega
section
variable {D h D' : Hp} {f f' : BM} {B B' : Nat → Nat → Nat} {m : Sl} {r c bo bl : Nat} {σ : Nat → Nat} {M M' : Nat → Nat → Rat}
theorem MX.weak(mx:MX D f B m r c bo bl σ M)(hB:∀i j,i<r->j<c->B i j<=B' i j)(hM:∀i j,i<r->j<c->M i j=M' i j):MX D f B' m r c bo bl σ M':=by
 obtain⟨h1,h2,h3,h4,h5,cs,h6,h7,h8⟩:=mx
 refine⟨h1,h2,h3,h4,h5,cs,h6,h7,λi j hi hj=>?_⟩
 obtain⟨x,g1,g2⟩:=h8 i j hi hj
 exact⟨x,by rw[<-hM i j hi hj];exact g1.mono (hB i j hi hj),g2⟩
theorem MX.mono(mx:MX D f B m r c bo bl σ M)(hl:D.le D'):MX D' f B m r c bo bl σ M:=by
 obtain⟨h1,h2,h3,h4,h5,cs,h6,h7,h8⟩:=mx
 refine⟨h1,h2,h3,h4,h5,cs,h6,h7,λi j hi hj=>?_⟩
 obtain⟨x,g1,g2⟩:=h8 i j hi hj
 exact⟨x,g1.le hl,g2⟩
theorem MX.other(mx:MX D f B m r c bo bl σ M)(h1:f' bo=f bo)(h2:f' bl=f bl):MX D f' B m r c bo bl σ M:=by
 obtain⟨k1,k2,k3,k4,k5,cs,k6,k7,k8⟩:=mx
 exact⟨k1,k2,by rw[h1];exact k3,k4,k5,cs,by rw[h2];exact k6,k7,k8⟩
theorem MX.ino(mx:MX D f B m r c bo bl σ M):f bo≠none:=by rw[mx.out];simp
theorem MX.inl(mx:MX D f B m r c bo bl σ M):f bl≠none:=by obtain⟨cs,h,_⟩:=mx.cells;rw[h];simp
theorem MX.row(mx:MX D f B m r c bo bl σ M)(hB:Bk D h f){z:Int}(i:Nat)(hz:z=i)(hi:i<r){K:Sl->Prop}(H:K (z9d bl (σ i*c*2) c)):zg m z 1 λa=>ldL (.sl) a K h:=by
 subst hz
 rw[mx.em]
 refine zee hi ?_
 refine hB.ld (l:=.sl) (x:=z9d bl (σ i*c*2) c) mx.out ?_ H
 rw[List.getElem?_map,List.getElem?_range hi];rfl
theorem MX.get(mx:MX D f B m r c bo bl σ M)(hB:Bk D h f){z:Int}(i j:Nat)(hz:z=j)(hi:i<r)(hj:j<c){K:Addr->Prop}
 (H:∀a (x:TNumber),NQ D (B i j) x (M i j)->h.cell (a.add 0)=some (.slice x.radicands.a x.radicands.len x.radicands.cap)->h.cell (a.add 1)=some (.slice x.coefs.a x.coefs.len x.coefs.cap)->K a):zg (z9d bl (σ i*c*2) c) z 2 K:=by
 subst hz
 obtain⟨cs,h6,h7,h8⟩:=mx.cells
 obtain⟨x,g1,g2,g3⟩:=h8 i j hi hj
 refine zhf hj (H _ x g1 ?_ ?_)
 . rw[z0l,Nat.add_zero];exact hB.cell h6 g2
 . rw[z0l];exact hB.cell h6 g3
def zu2{α:Type}(M:Nat->Nat->α)(i j:Nat)(v:α):Nat->Nat->α:=λa b=>if a=i/\b=j then v else M a b
theorem MX.set(mx:MX D f B m r c bo bl σ M)(hB:Bk D h f){z:Int}(i j:Nat)(hz:z=j)(hi:i<r)(hj:j<c){K:Hp->Prop}{y:TNumber}{b:Nat}{q:Rat}(hy:NQ D b y q)
 (H:∀f' h',Bk D h' f'->MX D f' (zu2 B i j b) m r c bo bl σ (zu2 M i j q)->(∀k,k≠bl->f' k=f k)->K h'):zg (z9d bl (σ i*c*2) c) z 2 λa=>stP a (nc y) K h:=by
 subst hz
 obtain⟨k1,k2,k3,k4,k5,cs,h6,h7,h8⟩:=mx
 have hlt:=Zdl (k4 i hi) hj
 have hlen:σ i*c*2+j*2+(nc y).length<=cs.length:=by show _+2<=_;omega
 refine zhf hj (hB.st h6 hlen rfl λh' hB'=>H _ h' hB' ⟨k1,k2,by rw[Qu k2];exact k3,k4,k5,_,Z3,by rw[Ya hlen];exact h7,λa l ha hl=>?_⟩ λk hk=>Qu hk)
 unfold zu2
 rw[z6m hlen,z6m hlen]
 by_cases hal:a=i/\l=j
 . obtain⟨rfl,rfl⟩:=hal
   rw[if_pos ⟨rfl,rfl⟩,if_pos ⟨rfl,rfl⟩]
   refine⟨y,hy,?_,?_⟩
   . rw[if_pos ⟨Nat.le_refl _,by show _<_+2;omega⟩,Nat.sub_self];rfl
   . rw[if_pos ⟨by omega,by show _<_+2;omega⟩,Nat.add_sub_cancel_left];rfl
 . rw[if_neg hal,if_neg hal]
   have hne:σ a*c*2+l*2≠σ i*c*2+j*2:=λhh=>by
    obtain⟨e1,e2⟩:=Z97 hl hj hh
    exact hal ⟨k5 a i ha hi e1,e2⟩
   obtain⟨x,g1,g2,g3⟩:=h8 a l ha hl
   refine⟨x,g1,?_,?_⟩
   . rw[if_neg (by show ¬(_/\_<_+2);omega)];exact g2
   . rw[if_neg (by show ¬(_/\_<_+2);omega)];exact g3
def zag(a b i:Nat):Nat:=if i=a then b else if i=b then a else i
theorem zdh{a b i r:Nat}(ha:a<r)(hb:b<r)(hi:i<r):zag a b i<r:=by
 unfold zag
 split
 . exact hb
 . split
   . exact ha
   . exact hi
theorem zxq{a b i j:Nat}(h:zag a b i=zag a b j):i=j:=by
 unfold zag at h
 split at h<;>split at h<;>(try split at h)<;>(try split at h)<;>omega
theorem MX.swap(mx:MX D f B m r c bo bl σ M)(hB:Bk D h f){z w:Int}(k i:Nat)(hz:z=k)(hw:w=i)(hk:k<r)(hi:i<r){K:Hp->Prop}
 (H:∀f' h',Bk D h' f'->MX D f' (λa j=>B (zag k i a) j) m r c bo bl (λa=>σ (zag k i a)) (Tq.swapM M k i)->(∀b,b≠bo->f' b=f b)->K h') :
 zg m z 1 λa=>stP a [slV (z9d bl (σ i*c*2) c)] (λh1=>zg m w 1 λa=>stP a [slV (z9d bl (σ k*c*2) c)] K h1) h:=by
 subst hz hw
 obtain⟨k1,k2,k3,k4,k5,cs,h6,h7,h8⟩:=mx
 rw[k1]
 have hl1:((List.range r).map λi=>slV (z9d bl (σ i*c*2) c)).length=r:=by simp
 refine zee hk (hB.st k3 (by rw[hl1];exact hk) rfl λh1 hB1=>zee hi (hB1.st Z3 (by rw[Ya (by rw[hl1];exact hk),hl1];exact hi) rfl λh2 hB2=>?_))
 rw[zf0]at hB2
 refine H _ h2 hB2 ⟨k1,k2,?_,λa ha=>k4 _ (zdh hk hi ha),λa b ha hb hh=>zxq (k5 _ _ (zdh hk hi ha) (zdh hk hi hb) hh),cs,by rw[Qu (λhh=>k2 hh.symm)];exact h6,h7,λa j ha hj=>?_⟩ λb hb=>Qu hb
 . rw[Z3]
   congr 1
   refine List.ext_getElem? λa=>?_
   have hs:∀{o:Nat} {vs:List Value},o+1<=r->vs.length=1->(Zb ((List.range r).map λi=>slV (z9d bl (σ i*c*2) c)) o vs).length=r:=λho hv=>by rw[Ya (by rw[hl1,hv];exact ho),hl1]
   rw[z6m (by rw[hs hk rfl];exact hi),z6m (by rw[hl1];exact hk)]
   simp only[List.getElem?_map,List.length_singleton]
   rcases Nat.lt_or_ge a r with ha | ha
   . rw[List.getElem?_range ha,Option.map_some,Option.map_some]
     unfold zag
     by_cases e1:a=i
     . subst e1
       rw[if_pos ⟨Nat.le_refl _,by omega⟩,Nat.sub_self]
       by_cases e2:a=k
       . subst e2;rw[if_pos rfl];rfl
       . rw[if_neg e2,if_pos rfl];rfl
     . rw[if_neg (by omega)]
       by_cases e2:a=k
       . subst e2
         rw[if_pos ⟨Nat.le_refl _,by omega⟩,Nat.sub_self,if_pos rfl];rfl
       . rw[if_neg (by omega),if_neg e2,if_neg e1]
   . rw[if_neg (by omega),if_neg (by omega),List.getElem?_eq_none (by simpa using ha)];rfl
 . obtain⟨x,g1,g2⟩:=h8 (zag k i a) j (zdh hk hi ha) hj
   have e:Tq.swapM M k i a j=M (zag k i a) j:=by
    unfold Tq.swapM zag
    split
    . rfl
    . split<;>rfl
   exact⟨x,by rw[e];exact g1,g2⟩
end
end Den
end

section
namespace Den
open Go Iv Lx
theorem Z50{q:Rat}:(q.num.sign≠0)↔q≠0:=by
 constructor
 . intro h hh
   subst hh;exact h rfl
 . intro h hh
   exact h (Rat.num_eq_zero.1 (Int.sign_eq_zero_iff_zero.1 hh))
section
variable {D h : Hp} {f : BM} {B : Nat → Nat → Nat} {m : Sl} {r c bo bl : Nat} {σ : Nat → Nat} {M : Nat → Nat → Rat} {L : Nat}
theorem zs1(mx:MX D f B m r c bo bl σ M)(hB:Bk D h f){p9:Addr}{k i:Nat}(hp:h.cell p9=some (.int .i64 (k:Int)))(hi:i<r)(hk:k<c)(hb:B i k<=400000000000){Kb:Bool->Hp->Prop}
 (H:∀h',h.le h'->Kb (decide (M i k≠0)) h'):zc (F.Vv (z9d bl (σ i*c*2) c) (some p9)) Kb h:=by
 refine zd (λb h'=>b=decide (M i k≠0)) (λK' hk'=>?_) λb h' hl hb=>by rw[hb];exact H h' hl
 unfold F.Vv
 show yu (some p9) _
 simp only[yu]
 refine⟨(k:Int),hp,mx.get hB i k rfl hi hk λa x hx c0 c1=>⟨x.radicands,c0,x.coefs,c1,?_⟩⟩
 refine zc3 (X:=⟨x.radicands,x.coefs⟩) (hx.le hB.le) hb λh1 hl1=>hk' _ _ hl1 ?_
 by_cases h0:M i k=0
 . rw[h0];rfl
 . have:=(Z50 (q:=M i k)).2 h0
   simp only[ne_eq,h0,not_false_iff,decide_true,bne_iff_ne,this]
theorem zwj(mx:MX D f B m r c bo bl σ M)(hB:Bk D h f){p9:Addr}{k:Nat}(hp:h.cell p9=some (.int .i64 (k:Int)))(hkr:k<r)(hk:k<c)(hr:r<=1000000)(hb:∀i,i<r->B i k<=400000000000)(hex:∃i,k<=i/\i<r/\M i k≠0){Ki:Int->Hp->Prop}
 (H:∀t h',h.le h'->k+t<r->M (k+t) k≠0->Ki (t:Int) h'):zc (F.Zm (m.cut k r 1) ((some p9),())) Ki h:=by
 refine zd (λz h'=>∃t:Nat,z=(t:Int)/\k+t<r/\M (k+t) k≠0) (λK' hk'=>?_) λz h' hl hz=>by obtain⟨t,rfl,h1,h2⟩:=hz;exact H t h' hl h1 h2
 unfold F.Zm
 have hlen:(m.cut k r 1).len=r-k:=rfl
 have hcut:m.cut k r 1=⟨some ⟨bo,k*1,none⟩,r-k,r-k⟩:=by
  rw[mx.em]
  unfold Sl.cut
  rw[if_neg (by show ¬r=k;omega)]
  show(⟨some ((⟨bo,0,none⟩:Addr).add (k*1)),r-k,r-k⟩:Sl)=_
  rw[z0l,Nat.zero_add]
 refine Y0 (n:=r-k) (by omega) (λi h'=>h.le h'/\∀j,j<i->M (k+j) k=0) ⟨Hp.le_refl _,λj hj=>by omega⟩ ?_
 rintro i h1 hi ⟨hl1,hz⟩ kk hkk
 refine ze (λh2=>?_) (λh2=>?_)
 . have hi':i<r-k:=by rw[hlen]at h2;simp only at h2;omega
   have hB1:=hB.mono hl1
   rw[hcut]
   refine zhf hi' ?_
   refine hB1.ld (l:=.sl) (x:=z9d bl (σ (k+i)*c*2) c) mx.out ?_ ?_
   . rw[List.getElem?_map,List.getElem?_range (by omega),Nat.mul_one,Nat.mul_one];rfl
   . refine zs1 mx hB1 (Hp.cell_le hl1 hp) (by omega) hk (hb _ (by omega)) λh3 hl3=>?_
     refine ze (λh4=>hk' _ _ (Hp.le_trans hl1 hl3) ⟨i,rfl,by omega,h4⟩) (λh4=>hkk _ hi' ⟨Hp.le_trans hl1 hl3,λj hj=>?_⟩)
     by_cases hji:j=i
     . subst hji;exact Classical.byContradiction h4
     . exact hz j (by omega)
 . exfalso
   obtain⟨i',g1,g2,g3⟩:=hex
   have:i=r-k:=by rw[hlen]at h2;simp only at h2;omega
   have:=hz (i'-k) (by omega)
   rw[show k+(i'-k)=i' by omega]at this
   exact g3 this
theorem zmn(mx:MX D f B m r c bo bl σ M)(hB:Bk D h f){cc:Option Addr}{X:TNumber}{p:Rat}{k i:Nat}(hX:NQ D L X p)(hi:i<r)(hkr:k<r)(hik:i≠k)(hkc:k<=c)(hcc:c<=1000000)(hL1:1<=L)(hL:L<=100000000000)
 (hbi:∀j,j<c->B i j<=L) (hbk:∀j,j<c->B k j<=L) {K:Unit->Hp->Prop}
 (H:∀D' f' h',D.le D'->Bk D' h' f'->MX D' f' (λa j=>if a=i/\k<=j then 5*L else B a j) m r c bo bl σ (λa j=>if a=i/\k<=j then M i j-p*M k j else M a j)->(∀b,b≠bl->f' b=f b)->K () h'):F.y_matrix_calc_subtract cc (z9d bl (σ i*c*2) c) (z9d bl (σ k*c*2) c) X (k:Int) K h:=by
 unfold F.y_matrix_calc_subtract
 have hlen:(z9d bl (σ k*c*2) c).len=c:=rfl
 refine z7t (n:=c) (m:=k) rfl (by omega) (λs h'=>∃D' f',D.le D'/\Bk D' h' f'/\MX D' f' (λa j=>if a=i/\k<=j/\j<s then 5*L else B a j) m r c bo bl σ (λa j=>if a=i/\k<=j/\j<s then M i j-p*M k j else M a j)/\∀b,b≠bl->f' b=f b)
  ⟨D,f,Hp.le_refl _,hB,mx.weak (λa j _ _=>by rw[if_neg (by omega)];exact Nat.le_refl _) (λa j _ _=>by rw[if_neg (by omega)]),λ_ _=>rfl⟩ ?_
 rintro s h1 hs ⟨D1,f1,hD1,hB1,mx1,hf1⟩ kk hkk
 refine ze (λh2=>?_) (λh2=>?_)
 . have hs':s<c:=by rw[hlen]at h2;simp only at h2;omega
   obtain⟨J,hJ⟩:∃J:Unit->Hp->Prop,∀u h',J u h'↔∃D' f',D.le D'/\Bk D' h' f'/\MX D' f' (λa j=>if a=i/\k<=j/\j<s+1 then 5*L else B a j) m r c bo bl σ (λa j=>if a=i/\k<=j/\j<s+1 then M i j-p*M k j else M a j)/\∀b,b≠bl->f' b=f b:=⟨_,λ_ _=>Iff.rfl⟩
   refine zk J (λu h' hu=>hkk _ hs' ((hJ u h').1 hu)) ?_
   refine mx1.get hB1 k s rfl hkr hs' λa5 x hx c0 c1=>⟨x.radicands,c0,x.coefs,c1,?_⟩
   simp only[if_neg (show ¬(k=i/\k<=s/\s<s)by omega)]at hx
   have hx2:=hx.mono (hbk s hs')
   refine hB1.call (K1:=λz D'=>z=(M k s).num.sign) (zc3 (X:=⟨x.radicands,x.coefs⟩) hx2 (by omega) λ_ _=>rfl) λz D3 h3 hl3 hB3 hz=>?_
   subst hz
   have mx3:=mx1.mono hl3
   refine yk (λhn=>?_) (λh0=>?_)
   . refine mx3.get hB3 i s rfl hi hs' λa8 y hy d0 d1=>⟨y.radicands,d0,y.coefs,d1,?_⟩
     have hy:NQ D3 (if i=i/\k<=s/\s<s then 5*L else B i s) y (if i=i/\k<=s/\s<s then M i s-p*M k s else M i s):=hy
     rw[if_neg (show ¬(i=i/\k<=s/\s<s)by omega),if_neg (show ¬(i=i/\k<=s/\s<s)by omega)]at hy
     have hy2:=hy.mono (show B i s<=L+L by have:=hbi s hs';omega)
     refine mx3.get hB3 k s rfl hkr hs' λa10 w hw e0 e1=>⟨w.radicands,e0,w.coefs,e1,?_⟩
     simp only[if_neg (show ¬(k=i/\k<=s/\s<s)by omega)]at hw
     refine hB3.call (K1:=λz D'=>NQ D' (L+L) z (p*M k s)) (zjp (Y:=⟨w.radicands,w.coefs⟩) (hX.le (Hp.le_trans hD1 hl3)) (hw.mono (hbk s hs')) (by omega) λz h' _ hz=>hz) λz D4 h4 hl4 hB4 hz=>?_
     refine hB4.call (K1:=λz D'=>NQ D' (L+L+(L+L)+1) z (M i s-p*M k s)) (zvp (X:=⟨y.radicands,y.coefs⟩) (hy2.le hl4) hz (by omega) λz h' _ hz=>hz) λv D5 h5 hl5 hB5 hv=>?_
     refine(mx3.mono (Hp.le_trans hl4 hl5)).set hB5 i s rfl hi hs' (hv.mono (show _<=5*L by omega)) λf6 h6 hB6 mx6 hf6=>(hJ _ _).2 ⟨D5,f6,Hp.le_trans hD1 (Hp.le_trans hl3 (Hp.le_trans hl4 hl5)),hB6,mx6.weak (λa j _ _=>?_) (λa j _ _=>?_),λb hb=>(hf6 b hb).trans (hf1 b hb)⟩
     . unfold zu2
       by_cases e:a=i/\j=s
       . rw[if_pos e,if_pos (by omega)];exact Nat.le_refl _
       . rw[if_neg e]
         show(if a=i/\k<=j/\j<s then 5*L else B a j)<=(if a=i/\k<=j/\j<s+1 then 5*L else B a j)
         by_cases e2:a=i/\k<=j/\j<s
         . rw[if_pos e2,if_pos (by omega)];exact Nat.le_refl _
         . rw[if_neg e2,if_neg (by omega)];exact Nat.le_refl _
     . unfold zu2
       by_cases e:a=i/\j=s
       . rw[if_pos e,if_pos (by omega),e.2]
       . rw[if_neg e]
         show(if a=i/\k<=j/\j<s then M i j-p*M k j else M a j)=(if a=i/\k<=j/\j<s+1 then M i j-p*M k j else M a j)
         by_cases e2:a=i/\k<=j/\j<s
         . rw[if_pos e2,if_pos (by omega)]
         . rw[if_neg e2,if_neg (by omega)]
   . have h00:M k s=0:=Rat.num_eq_zero.1 (Int.sign_eq_zero_iff_zero.1 h0)
     refine(hJ _ _).2 ⟨D3,f1,Hp.le_trans hD1 hl3,hB3,mx3.weak (λa j _ _=>?_) (λa j _ _=>?_),hf1⟩
     . show(if a=i/\k<=j/\j<s then 5*L else B a j)<=(if a=i/\k<=j/\j<s+1 then 5*L else B a j)
       by_cases e2:a=i/\k<=j/\j<s
       . rw[if_pos e2,if_pos (by omega)];exact Nat.le_refl _
       . rw[if_neg e2]
         by_cases e3:a=i/\k<=j/\j<s+1
         . rw[if_pos e3,e3.1]
           rename_i hj
           have:=hbi j hj;omega
         . rw[if_neg e3];exact Nat.le_refl _
     . show(if a=i/\k<=j/\j<s then M i j-p*M k j else M a j)=(if a=i/\k<=j/\j<s+1 then M i j-p*M k j else M a j)
       by_cases e2:a=i/\k<=j/\j<s
       . rw[if_pos e2,if_pos (by omega)]
       . rw[if_neg e2]
         by_cases e3:a=i/\k<=j/\j<s+1
         . have:j=s:=by omega
           rw[if_pos e3,e3.1,this,h00,Rat.mul_zero]
           grind
         . rw[if_neg e3]
 . have hsc:c<=s:=by rw[hlen]at h2;simp only at h2;omega
   exact H D1 f1 h1 hD1 hB1 (mx1.weak (λa j _ hj=>by
    show(if a=i/\k<=j/\j<s then 5*L else B a j)<=(if a=i/\k<=j then 5*L else B a j)
    by_cases e:a=i/\k<=j
    . rw[if_pos ⟨e.1,e.2,by omega⟩,if_pos e];exact Nat.le_refl _
    . rw[if_neg (λhh=>e ⟨hh.1,hh.2.1⟩),if_neg e];exact Nat.le_refl _) (λa j _ hj=>by
    show(if a=i/\k<=j/\j<s then M i j-p*M k j else M a j)=(if a=i/\k<=j then M i j-p*M k j else M a j)
    by_cases e:a=i/\k<=j
    . rw[if_pos ⟨e.1,e.2,by omega⟩,if_pos e]
    . rw[if_neg (λhh=>e ⟨hh.1,hh.2.1⟩),if_neg e])) hf1
end
end Den
end

section
namespace Den
open Go Iv Lx
def Bq(k:Nat):Nat:=2*10 ^ k
theorem zu4(k:Nat):Bq (k+1)=10*Bq k:=by unfold Bq;rw[Nat.pow_succ];omega
theorem Zis{k:Nat}(h:k<=10):1<=Bq k/\Bq k<=20000000000:=by
 unfold Bq
 have h1:10 ^ k<=10 ^ 10:=Nat.pow_le_pow_right (by decide) h
 have h2:0<10 ^ k:=Nat.pow_pos (by decide)
 have h3:(10:Nat) ^ 10=10000000000:=by decide
 omega
section
variable {h : Hp} {m m0 : Sl} {r c bo bl : Nat} {A : Nat → Nat → Rat}
def StE(D0:Hp)(m:Sl)(r c bo bl:Nat)(A:Nat->Nat->Rat)(k:Nat)(st:Sl×Sl×Sl×Sl×Unit)(h:Hp):Prop:=
 st.1=m/\∃D f σ M d cs,D0.le D/\Bk D h f/\MX D f (λ_ _=>Bq k) m r c bo bl σ M/\Tq.EI A r c k M/\OS f 1 st.2.1 cs/\cs.length=k/\¬inB st.2.1 bo/\¬inB st.2.1 bl/\NQ D (Bq k) ⟨st.2.2.1,st.2.2.2.1⟩ d
theorem zh6{Kr:Tmatrix_reduced×Int->Hp->Prop}(hA:Tq.Indep A r c)(hr:r<=1000)(hc:c<=11)
 (Hj:∀K':Sl×Int->Hp->Prop,(∀y D f bo bl h',h.le D->Bk D h' f->MX D f (λ_ _=>2) y r c bo bl (λi=>i) A->K' (y,0) h')->zc (F.z1m m0) K' h)
 (Hc:∀(h1:Hp) (K':Int->Hp->Prop),h.le h1->(∀h',h1.le h'->K' (c:Int) h')->zc (F.Wc m0) K' h1)
 (H:∀x h',h.le h'->x.pivots.len=c->Kr (x,0) h'):zc (F.z0v m0) Kr h:=by
 refine zd (λx h'=>x.2=0/\x.1.pivots.len=c) (λK' hk=>?_) λx h' hl hx=>by obtain⟨x,e⟩:=x;obtain⟨h1,h2⟩:=hx;simp only at h1 h2;subst h1;exact H x h' hl h2
 unfold F.z0v
 refine Hj _ λm D1 f1 bo bl h1 hD1 hB1 mx1=>?_
 refine yk (λhh=>absurd rfl hh) (λ_=>?_)
 refine hB1.newD λb2 D2 h2 _ hD2 hc2 hB2=>?_
 refine hB2.call (K1:=λz D'=>NQ D' 2 z ((1:Int):Rat)) (z7f (by decide) (by decide) λz h' _ hz=>hz) λz D3 h3 hD3 hB3 hz=>?_
 refine hB3.call (K1:=λz D'=>z=(c:Int)) (Hc _ _ (Hp.le_trans hD1 (Hp.le_trans hD2 hD3)) λ_ _=>rfl) λcz D4 h4 hD4 hB4 hcz=>?_
 subst hcz
 have hp2:D4.cell ⟨b2,0,none⟩=some (.int .i64 0):=Hp.cell_le (Hp.le_trans hD3 hD4) (hc2 0 _ rfl)
 have hrl:m.len=r:=by rw[mx1.em]
 have hhD4:h.le D4:=Hp.le_trans hD1 (Hp.le_trans hD2 (Hp.le_trans hD3 hD4))
 have nin:∀b,¬inB zf b:=λb hh=>by obtain⟨_,h5,_⟩:=hh;cases h5
 refine Yt (n:=c) (by omega) (StE D4 m r c bo bl A) ⟨rfl,D4,f1,_,A,_,[],Hp.le_refl _,hB4,mx1.mono (Hp.le_trans hD2 (Hp.le_trans hD3 hD4)),Tq.EI.start,OS.nil,rfl,nin _,nin _,hz.le hD4⟩ ?_
 rintro k ⟨m,piv,dr,dc,_⟩ h5 hkc ⟨rfl,D5,f5,σ,M,d,cs,hD5,hB5,mx5,ei,ho5,hcs,no,nl,hd⟩ kk hkk
 simp only at mx5 ho5 no nl hd hrl
 have hpl:piv.len=k:=by have:=ho5.1;rw[hcs,Nat.mul_one]at this;exact this
 refine ze (λh6=>?_) (λh6=>?_)
 . have hk:k<c:=by simp only at h6;omega
   obtain⟨hb1,hb2⟩:=Zis (k:=k) (by omega)
   refine zk (λs h'=>StE D4 m r c bo bl A (k+1) s.1 h') (λs h' hs=>hkk _ _ hk hs) ?_
   refine hB5.newF λb9 h7 hf9 hd9 hB7=>?_
   refine hB7.st Z3 (by show 1<=1;omega) rfl λh8 hB8=>?_
   rw[zf0]at hB8
   have e9:Zb [Value.int .i64 0] 0 [Value.int .i64 (k:Int)]=[Value.int .i64 (k:Int)]:=rfl
   rw[e9]at hB8
   have n1:bo≠b9:=λhh=>mx5.ino (by rw[hh];exact hf9)
   have n2:bl≠b9:=λhh=>mx5.inl (by rw[hh];exact hf9)
   obtain⟨f8,hf8⟩:∃f8,f8=z06 f5 b9 [Value.int .i64 (k:Int)]:=⟨_,rfl⟩
   rw[<-hf8]at hB8
   have h98:f8 b9=some [Value.int .i64 (k:Int)]:=by rw[hf8];exact Z3
   have mx8:MX D5 f8 (λ_ _=>Bq k) m r c bo bl σ M:=mx5.other (by rw[hf8,Qu n1]) (by rw[hf8,Qu n2])
   have ho8:OS f8 1 piv cs:=ho5.congr λb hb=>by rw[hf8,Qu λhh=>ho5.there hb (by rw[hh];exact hf9)]
   obtain⟨i0,hi0,hi0r,hi0n⟩:=ei.pivot hA hk
   have hkr:k<r:=by omega
   simp only[hpl,hrl]
   refine⟨by omega,by omega,?_,?_⟩
   . rw[mx8.em];exact Int.le_refl _
   have er:((r:Int)).toNat=r:=rfl
   have ek:((k:Int)).toNat=k:=rfl
   rw[er,ek]
   refine zwj mx8 hB8 (hB8.cell h98 rfl) hkr hk (by omega) (λ_ _=>by omega) ⟨i0,hi0,hi0r,hi0n⟩ λt h9 hl9 htr htn=>?_
   have hB9:=hB8.mono hl9
   refine ze (λhh=>absurd hh (by omega)) (λ_=>?_)
   obtain⟨J,hJ⟩:∃J:(Sl×Sl×Sl×Sl×Unit)×Unit->Hp->Prop,∀s h',J s h'↔s.1.1=m/\s.1.2.1=piv/\∃D' f' σ' d',D4.le D'/\Bk D' h' f'/\MX D' f' (λ_ _=>Bq k) m r c bo bl σ' (Tq.swapM M k (k+t))/\(∀b,b≠bo->b≠bl->f' b=f8 b)/\NQ D' (Bq k) ⟨s.1.2.2.1,s.1.2.2.2.1⟩ d':=⟨_,λ_ _=>Iff.rfl⟩
   refine zk J (λs h' hs=>?_) ?_
   . obtain⟨⟨m',pv',dr',dc',_⟩,_⟩:=s
     obtain⟨hm',hpv',D11,f11,σ',d',hD11,hB11,mx11,hf11,hd11⟩:=(hJ _ _).1 hs
     have hm':m'=m:=hm'
     have hpv':pv'=piv:=hpv'
     subst hm' hpv'
     have hd11:NQ D11 (Bq k) ⟨dr',dc'⟩ d':=hd11
     obtain⟨N,hN⟩:∃N,N=Tq.swapM M k (k+t):=⟨_,rfl⟩
     rw[<-hN]at mx11
     have eiN:Tq.EI A r c k N:=by rw[hN];exact ei.swap (by omega) htr
     have hNk:N k k=M (k+t) k:=by rw[hN];simp only[Tq.swapM,if_true]
     have hN0:N k k≠0:=by rw[hNk];exact htn
     have h119:f11 b9=some [Value.int .i64 (k:Int)]:=by rw[hf11 b9 (λhh=>n1 hh.symm) (λhh=>n2 hh.symm)];exact h98
     have kz:∀j,j<k->N k j=0:=λj hj=>by rw[eiN.unit k hkr j hj,if_neg (by omega)]
     refine mx11.row hB11 k rfl hkr ⟨(k:Int),hB11.cell h119 rfl,?_⟩
     refine mx11.get hB11 k k rfl hkr hk λa17 x18 hx18 c0 c1=>⟨x18.radicands,c0,x18.coefs,c1,?_⟩
     have hx18:NQ D11 (Bq k) x18 (N k k):=hx18
     refine hB11.call (K1:=λz D'=>NQ D' (Bq k+Bq k) z (d'*N k k)) (zjp (Y:=⟨x18.radicands,x18.coefs⟩) hd11 hx18 (by omega) λz h' _ hz=>hz) λr19 D12 h12 hD12 hB12 h19=>?_
     refine⟨(k:Int),hB12.cell h119 rfl,?_⟩
     have mx12:=mx11.mono hD12
     refine z7t (n:=c) (m:=k) rfl (by omega) (λs h'=>k<=s/\∃D' f',D12.le D'/\Bk D' h' f'/\MX D' f' (λa j=>if a=k/\k<=j/\j<s then Bq k+Bq k else Bq k) m' r c bo bl σ' (λa j=>if a=k/\k<=j/\j<s then N a j/N k k else N a j)/\∀b,b≠bl->f' b=f11 b)
      ⟨Nat.le_refl _,D12,f11,Hp.le_refl _,hB12,mx12.weak (λa j _ _=>by rw[if_neg (by omega)];exact Nat.le_refl _) (λa j _ _=>by rw[if_neg (by omega)]),λ_ _=>rfl⟩ ?_
     rintro s h13 hks ⟨_,D13,f13,hD13,hB13,mx13,hf13⟩ k22 hk22
     refine mx13.row hB13 k rfl hkr ?_
     have hrl2:(z9d bl (σ' k*c*2) c).len=c:=rfl
     refine ze (λh14=>?_) (λh14=>?_)
     . have hs':s<c:=by rw[hrl2]at h14;simp only at h14;omega
       refine mx13.row hB13 k rfl hkr ?_
       refine mx13.row hB13 k rfl hkr ?_
       refine mx13.get hB13 k s rfl hkr hs' λa29 x hx e0 e1=>⟨x.radicands,e0,x.coefs,e1,?_⟩
       have hx:NQ D13 (if k=k/\k<=s/\s<s then Bq k+Bq k else Bq k) x (if k=k/\k<=s/\s<s then N k s/N k k else N k s):=hx
       rw[if_neg (by omega),if_neg (by omega)]at hx
       refine hB13.call (K1:=λz D'=>NQ D' (Bq k+Bq k) z (N k s/N k k)) (zvo (X:=⟨x.radicands,x.coefs⟩) (Y:=⟨x18.radicands,x18.coefs⟩) hx (hx18.le (Hp.le_trans hD12 hD13)) hb1 (by omega) hN0 λz h' _ hz=>hz) λz D14 h15 hD14 hB14 hz=>?_
       refine(mx13.mono hD14).set hB14 k s rfl hkr hs' hz λf15 h16 hB15 mx15 hf15=>hk22 _ hs' ⟨by omega,D14,f15,Hp.le_trans hD13 hD14,hB15,mx15.weak (λa j _ _=>?_) (λa j _ _=>?_),λb hb=>(hf15 b hb).trans (hf13 b hb)⟩
       . unfold zu2
         by_cases e:a=k/\j=s
         . rw[if_pos e,if_pos (by omega)];exact Nat.le_refl _
         . rw[if_neg e]
           show(if a=k/\k<=j/\j<s then Bq k+Bq k else Bq k)<=(if a=k/\k<=j/\j<s+1 then Bq k+Bq k else Bq k)
           by_cases e2:a=k/\k<=j/\j<s
           . rw[if_pos e2,if_pos (by omega)];exact Nat.le_refl _
           . rw[if_neg e2,if_neg (by omega)];exact Nat.le_refl _
       . unfold zu2
         by_cases e:a=k/\j=s
         . rw[if_pos e,if_pos (by omega),e.1,e.2]
         . rw[if_neg e]
           show(if a=k/\k<=j/\j<s then N a j/N k k else N a j)=(if a=k/\k<=j/\j<s+1 then N a j/N k k else N a j)
           by_cases e2:a=k/\k<=j/\j<s
           . rw[if_pos e2,if_pos (by omega)]
           . rw[if_neg e2,if_neg (by omega)]
     . have hsc:c<=s:=by rw[hrl2]at h14;simp only at h14;omega
       obtain⟨Q,hQ⟩:∃Q,Q=Tq.scaleM N k (N k k):=⟨_,rfl⟩
       have mx14:MX D13 f13 (λ_ _=>Bq k+Bq k) m' r c bo bl σ' Q:=mx13.weak (λa j _ _=>by
        show(if a=k/\k<=j/\j<s then Bq k+Bq k else Bq k)<=_
        split<;>omega) (λa j _ hj=>by
        show(if a=k/\k<=j/\j<s then N a j/N k k else N a j)=_
        rw[hQ]
        unfold Tq.scaleM
        by_cases e:a=k
        . subst e
          rw[if_pos rfl]
          by_cases e2:a<=j
          . rw[if_pos ⟨rfl,e2,by omega⟩]
          . rw[if_neg (λhh=>e2 hh.2.1),kz j (by omega),Rat.div_def,Rat.zero_mul]
        . rw[if_neg (λhh=>e hh.1),if_neg e])
       have kq:∀j,j<k->Q k j=0:=λj hj=>by
        rw[hQ];unfold Tq.scaleM
        rw[if_pos rfl,kz j hj,Rat.div_def,Rat.zero_mul]
       have eiE:Tq.EI A r c (k+1) (Tq.elimM Q k k):=by
        rw[hQ,hNk,hN]
        exact ei.step (by omega) htr htn
       obtain⟨P,hP⟩:∃P,P=Tq.elimM Q k k:=⟨_,rfl⟩
       rw[<-hP]at eiE
       refine Y0 (n:=r) (by omega) (λi h'=>∃D' f',D13.le D'/\Bk D' h' f'/\MX D' f' (λa j=>if a<i/\a≠k then 5*(Bq k+Bq k)else Bq k+Bq k) m' r c bo bl σ' (λa j=>if a<i then P a j else Q a j)/\∀b,b≠bl->f' b=f11 b)
        ⟨D13,f13,Hp.le_refl _,hB13,mx14.weak (λa j _ _=>by rw[if_neg (by omega)];exact Nat.le_refl _) (λa j _ _=>by rw[if_neg (by omega)]),hf13⟩ ?_
       rintro i h15 hir ⟨D15,f15,hD15,hB15,mx15,hf15⟩ k34 hk34
       have h159:f15 b9=some [Value.int .i64 (k:Int)]:=by rw[hf15 b9 (λhh=>n2 hh.symm)];exact h119
       refine ze (λh16=>?_) (λh16=>?_)
       . have hir':i<r:=by simp only at h16;omega
         obtain⟨J2,hJ2⟩:∃J2:Unit->Hp->Prop,∀u h',J2 u h'↔∃D' f',D13.le D'/\Bk D' h' f'/\MX D' f' (λa j=>if a<i+1/\a≠k then 5*(Bq k+Bq k)else Bq k+Bq k) m' r c bo bl σ' (λa j=>if a<i+1 then P a j else Q a j)/\∀b,b≠bl->f' b=f11 b:=⟨_,λ_ _=>Iff.rfl⟩
         refine zk J2 (λu h' hu=>hk34 _ hir' ((hJ2 u h').1 hu)) ?_
         have same:∀{D' h'},Bk D' h' f15->D15.le D'->(∀j,j<c->P i j=Q i j)->J2 () h':=λhB' hD' hPQ=>(hJ2 _ _).2 ⟨_,f15,Hp.le_trans hD15 hD',hB',(mx15.mono hD').weak (λa j _ _=>by
          show(if a<i/\a≠k then 5*(Bq k+Bq k)else Bq k+Bq k)<=(if a<i+1/\a≠k then 5*(Bq k+Bq k)else Bq k+Bq k)
          by_cases e:a<i/\a≠k
          . rw[if_pos e,if_pos ⟨by omega,e.2⟩];exact Nat.le_refl _
          . rw[if_neg e];split<;>omega) (λa j _ hj=>by
          show(if a<i then P a j else Q a j)=(if a<i+1 then P a j else Q a j)
          by_cases e:a<i
          . rw[if_pos e,if_pos (by omega)]
          . rw[if_neg e]
            by_cases e2:a=i
            . subst e2
              rw[if_pos (by omega),hPQ j hj]
            . rw[if_neg (by omega)]),hf15⟩
         refine mx15.row hB15 i rfl hir' ⟨(k:Int),hB15.cell h159 rfl,?_⟩
         refine mx15.get hB15 i k rfl hir' hk λa40 x41 hx41 e0 e1=>⟨x41.radicands,e0,x41.coefs,e1,?_⟩
         have hx41:NQ D15 (if i<i/\i≠k then 5*(Bq k+Bq k)else Bq k+Bq k) x41 (if i<i then P i k else Q i k):=hx41
         rw[if_neg (by omega),if_neg (by omega)]at hx41
         refine yk (λhik=>?_) (λhik=>same hB15 (Hp.le_refl _) λj _=>?_)
         . have hik':i≠k:=λhh=>hik (by simp only;rw[hh])
           refine hB15.call (K1:=λz D'=>z=(Q i k).num.sign) (zc3 (X:=⟨x41.radicands,x41.coefs⟩) hx41 (by omega) λ_ _=>rfl) λz D16 h17 hD16 hB16 hz=>?_
           subst hz
           refine yk (λhn=>?_) (λh0=>same hB16 hD16 λj _=>?_)
           . have mx16:=mx15.mono hD16
             refine mx16.row hB16 k rfl hkr ⟨(k:Int),hB16.cell h159 rfl,Qh ?_⟩
             refine zmn (X:=⟨x41.radicands,x41.coefs⟩) (L:=Bq k+Bq k) mx16 hB16 (hx41.le hD16) hir' hkr hik' (by omega) (by omega) (by omega) (by omega) (λj _=>?_) (λj _=>?_) λD17 f17 h18 hD17 hB17 mx17 hf17=>(hJ2 _ _).2 ⟨D17,f17,Hp.le_trans hD15 (Hp.le_trans hD16 hD17),hB17,mx17.weak (λa j _ _=>?_) (λa j _ hj=>?_),λb hb=>(hf17 b hb).trans (hf15 b hb)⟩
             . rw[if_neg (by omega)];exact Nat.le_refl _
             . rw[if_neg (by omega)];exact Nat.le_refl _
             . show(if a=i/\k<=j then 5*(Bq k+Bq k)else if a<i/\a≠k then 5*(Bq k+Bq k)else Bq k+Bq k)<=(if a<i+1/\a≠k then 5*(Bq k+Bq k)else Bq k+Bq k)
               by_cases e:a=i/\k<=j
               . rw[if_pos e,if_pos ⟨by omega,by rw[e.1];exact hik'⟩];exact Nat.le_refl _
               . rw[if_neg e]
                 by_cases e2:a<i/\a≠k
                 . rw[if_pos e2,if_pos ⟨by omega,e2.2⟩];exact Nat.le_refl _
                 . rw[if_neg e2];split<;>omega
             . show(if a=i/\k<=j then (if i<i then P i j else Q i j)-Q i k*(if k<i then P k j else Q k j)else if a<i then P a j else Q a j)=(if a<i+1 then P a j else Q a j)
               have pk:(if k<i then P k j else Q k j)=Q k j:=by
                split
                . rw[hP];unfold Tq.elimM;rw[if_pos rfl]
                . rfl
               rw[pk,if_neg (show ¬i<i by omega)]
               have pij:P i j=Q i j-Q i k*Q k j:=by rw[hP];unfold Tq.elimM;rw[if_neg hik']
               by_cases e:a=i
               . subst e
                 rw[if_pos (show a<a+1 by omega),pij]
                 by_cases e2:k<=j
                 . rw[if_pos ⟨rfl,e2⟩]
                 . rw[if_neg (λhh=>e2 hh.2),if_neg (by omega),kq j (by omega),Rat.mul_zero];grind
               . rw[if_neg (λhh=>e hh.1)]
                 by_cases e2:a<i
                 . rw[if_pos e2,if_pos (by omega)]
                 . rw[if_neg e2,if_neg (by omega)]
           . have h00:Q i k=0:=Rat.num_eq_zero.1 (Int.sign_eq_zero_iff_zero.1 h0)
             rw[hP];unfold Tq.elimM;rw[if_neg hik',h00,Rat.zero_mul];grind
         . have hik':i=k:=by simp only at hik;omega
           rw[hP];unfold Tq.elimM;rw[if_pos hik',hik']
       . have hri:i=r:=by simp only at h16;omega
         subst hri
         refine⟨(k:Int),hB15.cell h159 rfl,?_⟩
         have ho15:OS f15 1 pv' cs:=ho8.congr λb hb=>by
          have e1:b≠bl:=λhh=>nl (hh▸hb)
          have e2:b≠bo:=λhh=>no (hh▸hb)
          rw[hf15 b e1,hf11 b e2 e1]
         refine ho15.app hB15 (n:=1) rfl rfl rfl (by rw[hpl];omega) (by rw[hpl];omega) λy f16 h17 hB16 ho16 hfr hin=>?_
         have hob:=mx15.ino
         have hlb:=mx15.inl
         refine⟨rfl,D15,f16,σ',P,_,_,Hp.le_trans hD11 (Hp.le_trans hD12 (Hp.le_trans hD13 hD15)),hB16,(mx15.other (hfr bo no hob) (hfr bl nl hlb)).weak (λa j _ _=>?_) (λa j ha _=>if_pos ha),eiE,ho16,by rw[List.length_append,hcs];rfl,λhh=>?_,λhh=>?_,(h19.le (Hp.le_trans hD13 hD15)).mono (by rw[zu4];omega)⟩
         . show(if a<i/\a≠k then 5*(Bq k+Bq k)else Bq k+Bq k)<=Bq (k+1)
           rw[zu4];split<;>omega
         . rcases hin bo hh with h18 | h18
           . exact no h18
           . exact hob h18.1
         . rcases hin bl hh with h18 | h18
           . exact nl h18
           . exact hlb h18.1
   . refine ze (λh10=>?_) (λh10=>?_)
     . have ew:i64.wrap ((k:Int)+(t:Int))=((k+t:Nat):Int):=by rw[w64 (by omega)];omega
       rw[ew]
       refine mx8.row hB9 (k+t) rfl htr ?_
       refine mx8.row hB9 k rfl hkr ?_
       refine mx8.swap hB9 k (k+t) rfl rfl hkr htr λf10 h11 hB11 mx11 hf11=>?_
       refine hB11.call (K1:=λz D'=>NQ D' (Bq k) z (-d)) (zxu hd (by omega) λz h' _ hz=>hz) λz D12 h12 hD12 hB12 hz=>?_
       exact(hJ _ _).2 ⟨rfl,rfl,D12,f10,_,-d,Hp.le_trans hD5 hD12,hB12,mx11.mono hD12,λb hb _=>hf11 b hb,hz⟩
     . have ht0:t=0:=by omega
       subst ht0
       refine(hJ _ _).2 ⟨rfl,rfl,D5,f8,σ,d,hD5,hB9,mx8.weak (λ_ _ _ _=>Nat.le_refl _) (λi j _ _=>?_),λ_ _ _=>rfl,hd⟩
       unfold Tq.swapM
       rw[Nat.add_zero]
       by_cases e:i=k
       . rw[if_pos e,e]
       . rw[if_neg e,if_neg e]
 . have:k=c:=by simp only at h6;omega
   subst this
   have hle:=Hp.le_trans hD5 hB5.le
   have e0:(⟨b2,0,none⟩:Addr).add 0=⟨b2,0,none⟩:=Zv _
   rw[e0]
   refine⟨0,Hp.cell_le hle hp2,yk (λhh=>absurd rfl hh) λ_=>hk _ _ (Hp.le_trans hhD4 hle) ⟨rfl,hpl⟩⟩
end
end Den
end

section
namespace Den
open Go Iv Lx
def sc(s:Sl):List Value:=[slV s]
def RwF(B c:Nat)(M:Nat->Nat->Rat)(h:Hp)(s:Sl)(i:Nat):Prop:=LR nc 2 (NQP B) h s ((List.range c).map (M i))
theorem zsx(B c:Nat)(M:Nat->Nat->Rat):Rec sc 1 (RwF B c M):=⟨λ_=>rfl,by decide,λ_=>rfl,λhx hl=>hx.le (Xj B) hl⟩
def MF(h:Hp)(m:Sl)(r c B:Nat)(M:Nat->Nat->Rat):Prop:=LR sc 1 (RwF B c M) h m (List.range r)
theorem z5s{n i:Nat}(h:i<(List.range n).length):(List.range n)[i]=i:=List.getElem_range h
section
variable {h D : Hp} {m : Sl} {r c B : Nat} {M : Nat → Nat → Rat} {Ki : Int → Hp → Prop} {Kb : Bool → Hp → Prop} {Ks : Sl → Hp → Prop}
theorem MF.le{h':Hp}(hm:MF h m r c B M)(hl:h.le h'):MF h' m r c B M:=LR.le (zsx B c M) hm hl
theorem MF.len(hm:MF h m r c B M):m.len=r:=by have:=LR.len (zsx B c M) hm;rwa [List.length_range]at this
theorem RwF.len{s:Sl}{i:Nat}(hs:RwF B c M h s i):s.len=c:=by have:=LR.len (Xj B) hs;simpa using this
theorem MF.row(hm:MF D m r c B M)(hl:D.le h){z:Int}(i:Nat)(hz:z=i)(hi:i<r){K:Sl->Prop}(H:∀s,RwF B c M D s i->K s):zg m z 1 λa=>ldL (.sl) a K h:=by
 have hi':i<(List.range r).length:=by rw[List.length_range];exact hi
 refine LR.get2 (zsx B c M) hm hl i hz hi' λa s hs ha=>⟨s,?_,H s ?_⟩
 . have:=ha 0 _ rfl;rw[Zv]at this;exact this
 . rw[z5s]at hs;exact hs
theorem RwF.get{s:Sl}{i:Nat}(hs:RwF B c M D s i)(hl:D.le h){z:Int}(j:Nat)(hz:z=j)(hj:j<c){K:Sl->Sl->Prop}(H:∀x:TNumber,NQ D B x (M i j)->K x.radicands x.coefs) :
 zg s z 2 λa=>ldL (.sl) (a.add 0) (λx=>ldL (.sl) (a.add 1) (λy=>K x y) h) h:=by
 have hj':j<((List.range c).map (M i)).length:=by simp;exact hj
 refine LR.get2 (Xj B) hs hl j hz hj' λa x hx ha=>⟨x.radicands,ha 0 _ rfl,x.coefs,ha 1 _ rfl,H x ?_⟩
 have:NQ D B x ((List.range c).map (M i))[j]:=hx
 rw[List.getElem_map,z5s]at this;exact this
theorem z8b(hm:MF D m r c B M)(hl:D.le h)(hr:0<r)(H:Ki (c:Int) h):zc (F.Wc m) Ki h:=by
 refine Zf _ (λK' hk=>?_) H
 unfold F.Wc
 refine zz (λhh=>absurd hh (by rw[hm.len];omega)) (λ_=>?_)
 refine hm.row hl 0 rfl hr λs hs=>?_
 rw[hs.len];exact hk
theorem zfp(hm:MF h m r c B M)(hr:0<r)(hrr:r<=1000000)(H:∀h',h.le h'->Kb true h'):zc (F.z2y m) Kb h:=by
 refine zd (λb h'=>b=true) (λK' hk=>?_) λb h' hl hb=>by subst hb;exact H h' hl
 unfold F.z2y
 refine Xy λp1 h1 hl1 c1=>⟨m,c1,?_⟩
 have hm1:=hm.le hl1
 refine zd (λb h'=>b=false) (λK2 hk2=>?_) λb h' hl hb=>by subst hb;exact hk _ _ (Hp.le_trans hl1 hl) rfl
 unfold F.Z4
 refine zd (λz h'=>z=-1) (λK3 hk3=>?_) λz h' hl hz=>by subst hz;exact hk2 _ _ hl rfl
 unfold F.yg
 have hml:=hm.len
 refine Y0 (n:=r) (by omega) (λi h'=>h1.le h') (Hp.le_refl _) ?_
 intro i h2 hi hl2 kk hkk
 refine ze (λh3=>?_) (λ_=>hk3 _ _ hl2 rfl)
 have hi':i<r:=by rw[hml]at h3;simp only at h3;omega
 refine hm1.row hl2 i rfl hi' λs hs=>?_
 refine zd (λb h'=>b=false) (λK5 hk5=>?_) λb h' hl hb=>by subst hb;exact zt rfl (hkk _ hi' (Hp.le_trans hl2 hl))
 unfold F.z63
 show yu (some p1) _
 simp only[yu]
 refine⟨m,Hp.cell_le hl2 c1,z8b hm1 hl2 hr ?_⟩
 rw[hs.len]
 exact hk5 _ _ (Hp.le_refl _) (by simp)
structure GR(f:BM)(n bo:Nat)(ss:List Sl)(C:Nat->List Value):Prop where
 slen:ss.length=n
 out:f bo=some (ss.map slV)
 row:∀v,v<n->OS f 2 (ss.getD v zf) (C v)
 apt:∀v,v<n->¬inB (ss.getD v zf) bo
 apt2:∀u v,u<n->v<n->u≠v->∀b,inB (ss.getD u zf) b->¬inB (ss.getD v zf) b
theorem GR.setRow{f f2:BM}{n bo v:Nat}{ss:List Sl}{C:Nat->List Value}{y:Sl}{l:List Value}(pg:GR f n bo ss C)(hv:v<n)(hfr:∀b,f b≠none->¬inB (ss.getD v zf) b->f2 b=f b)(hy:OS f2 2 y l)(hin:∀b,inB y b->inB (ss.getD v zf) b\/f b=none) :
 GR (z06 f2 bo ((ss.set v y).map slV)) n bo (ss.set v y) (λu=>if u=v then l else C u):=by
 have hsl:=pg.slen
 have ho:f bo≠none:=by rw[pg.out];simp
 have ya:¬inB y bo:=λhh=>by
  rcases hin bo hh with h1 | h1
  . exact pg.apt v hv h1
  . exact ho h1
 have gs:∀u,u≠v->(ss.set v y).getD u zf=ss.getD u zf:=λu hu=>Qi (λhh=>hu hh.symm)
 have gv:(ss.set v y).getD v zf=y:=X2 (by omega)
 refine⟨by rw[List.length_set];exact hsl,Z3,λu hu=>?_,λu hu=>?_,λu w hu hw huw b=>?_⟩
 . by_cases huv:u=v
   . subst huv
     rw[gv,if_pos rfl]
     exact hy.upd ya
   . rw[gs u huv,if_neg huv]
     refine OS.upd ((pg.row u hu).congr λb hb=>hfr b ((pg.row u hu).there hb) (pg.apt2 u v hu hv huv b hb)) (pg.apt u hu)
 . by_cases huv:u=v
   . subst huv;rw[gv];exact ya
   . rw[gs u huv];exact pg.apt u hu
 . by_cases h1:u=v
   . subst h1
     rw[gv,gs w (λhh=>huw hh.symm)]
     intro hb hw2
     rcases hin b hb with h2 | h2
     . exact pg.apt2 u w hu hw huw b h2 hw2
     . exact(pg.row w hw).there hw2 h2
   . by_cases h2:w=v
     . subst h2
       rw[gs u huw,gv]
       intro hb hw2
       rcases hin b hw2 with h3 | h3
       . exact pg.apt2 u w hu hw huw b hb h3
       . exact(pg.row u hu).there hb h3
     . rw[gs u h1,gs w h2];exact pg.apt2 u w hu hw huw b
theorem zuk(l:List Sl):l.flatMap sc=l.map slV:=by
 induction l with
 | nil=>rfl
 | cons a l ih=>rw[List.flatMap_cons,List.map_cons,ih];rfl
theorem GR.mf{f:BM}{n bo:Nat}{ss:List Sl}{X:Nat->List TNumber}(pg:GR f n bo ss λv=>(X v).flatMap nc)(hB:Bk D h f)(hX:∀v,v<n->(X v).length=c/\∀j (hj:j<(X v).length),NQ D B (X v)[j] (M v j)):MF h ⟨some ⟨bo,0,none⟩,n,n⟩ n c B M:=by
 have hsl:=pg.slen
 have hos:OS f 1 ⟨some ⟨bo,0,none⟩,n,n⟩ (ss.map slV):=⟨by rw[List.length_map,hsl,Nat.mul_one],Nat.le_refl _,rfl,rfl,_,pg.out,by rw[List.length_map,hsl,Nat.mul_one],List.take_length⟩
 refine⟨ss,by rw[zuk];exact hos.rd hB,Nat.le_refl _,by rw[List.length_range,hsl],λk k1 k2=>?_⟩
 rw[z5s]
 have hk:k<n:=by omega
 have e:ss.getD k zf=ss[k]:=by rw[List.getD_eq_getElem?_getD,List.getElem?_eq_getElem k1];rfl
 have hr:=pg.row k hk
 rw[e]at hr
 obtain⟨x1,x2⟩:=hX k hk
 refine⟨X k,hr.rd hB,hr.2.1,by simp[x1],λj j1 j2=>?_⟩
 rw[List.getElem_map,z5s]
 exact(x2 j j1).le hB.le
def TrI(D:Hp)(r c B bo:Nat)(M:Nat->Nat->Rat)(k i:Nat)(h:Hp):Prop:=
 ∃(f:BM) (ss:List Sl) (X:Nat->List TNumber),Bk D h f/\GR f c bo ss (λv=>(X v).flatMap nc)/\∀v,v<c->(X v).length=(if v<k then r else if v=k then i else 0)/\∀j (hj:j<(X v).length),NQ D B (X v)[j] (M j v)
theorem ziv(hm:MF h m r c B M)(hr:0<r)(hrr:r<=1000)(hc:c<=1000)(H:∀y h',h.le h'->MF h' y c r B (λi j=>M j i)->Ks y h'):zc (F.z0u m) Ks h:=by
 refine zd (λy h'=>MF h' y c r B (λi j=>M j i)) (λK' hk=>?_) λy h' hl hy=>H y h' hl hy
 unfold F.z0u
 refine zfp hm hr (by omega) λh1 hl1=>zt rfl ?_
 have hm1:=hm.le hl1
 have hml:=hm.len
 refine z8b hm1 (Hp.le_refl _) hr ?_
 refine(Bk.start (h:=h1)).mkF c c rfl rfl (Nat.le_refl _) (by omega) (by omega) λbo h2 hbo hDo hB2=>?_
 have gn:∀v,(List.replicate c zf).getD v zf=zf:=λv=>by
  rw[List.getD_eq_getElem?_getD,List.getElem?_replicate];split<;>rfl
 have nin:∀b,¬inB zf b:=λb hh=>by obtain⟨_,h5,_⟩:=hh;cases h5
 have r2:ye c [Value.slice zf.a zf.len zf.cap]=(List.replicate c zf).map slV:=by unfold ye slV;simp
 have gr2:GR (z06 z73 bo (ye c [Value.slice zf.a zf.len zf.cap])) c bo (List.replicate c zf) (λv=>(([]:List TNumber)).flatMap nc):=
  ⟨by simp,by rw[Z3,r2],λv hv=>by rw[gn];exact OS.nil,λv hv=>by rw[gn];exact nin _,λu v hu hv huv b hb=>by rw[gn]at hb;exact absurd hb (nin _)⟩
 refine Y0 (n:=c) (by omega) (λk h'=>TrI h1 r c B bo M k 0 h') ⟨_,_,λ_=>[],hB2,gr2,λv _=>⟨by rw[if_neg (by omega)];split<;>rfl,λj hj=>by simp at hj⟩⟩ ?_
 intro k h3 hkc hI3 kk hkk
 refine ze (λh4=>?_) (λh4=>?_)
 . have hk':k<c:=by simp only at h4;omega
   refine Y0 (n:=r) (by omega) (λi h'=>TrI h1 r c B bo M k i h') hI3 ?_
   intro i h5 hir hI5 k7 hk7
   obtain⟨f5,ss5,X5,hB5,gr5,hX5⟩:=hI5
   rw[hml]
   refine ze (λh6=>?_) (λh6=>?_)
   . have hi':i<r:=by simp only at h6;omega
     refine hm1.row hB5.le i rfl hi' λx9 hx9=>?_
     have hsl:=gr5.slen
     refine zee hk' (hB5.ld (l:=.sl) (x:=ss5.getD k zf) gr5.out (zul (by omega)) ?_)
     refine hx9.get hB5.le k rfl hk' λx hx=>?_
     obtain⟨l1,l2⟩:=hX5 k hk'
     rw[if_neg (by omega),if_pos rfl]at l1
     have hrow:=gr5.row k hk'
     have hrl:(ss5.getD k zf).len=i:=by
      have:=hrow.1
      rw[Y4 (c:=nc) (n:=2) (λ_=>rfl),l1]at this
      exact Nat.eq_of_mul_eq_mul_right (by decide) this
     refine hrow.app hB5 (n:=1) (new:=nc x) rfl rfl rfl (by rw[hrl];omega) (by rw[hrl];omega) λy f6 h7 hB6 hy hfr hin=>?_
     have ho6:f6 bo=some (ss5.map slV):=by rw[hfr bo (gr5.apt k hk') (by rw[gr5.out];simp)];exact gr5.out
     refine zee hk' (hB6.st ho6 (by show k+1<=_;rw[List.length_map];omega) rfl λh8 hB8=>hk7 _ hi' ?_)
     have es:Zb (ss5.map slV) k [.slice y.a y.len y.cap]=(ss5.set k y).map slV:=z2b (c:=slV) (by omega)
     rw[es]at hB8
     have fin:∀X:Nat->List TNumber,X=(λv=>if v=k then X5 k++[x]else X5 v)->GR (z06 f6 bo ((ss5.set k y).map slV)) c bo (ss5.set k y) (λv=>(X v).flatMap nc)->(∀v,v<c->(X v).length=(if v<k then r else if v=k then i+1 else 0)/\∀j (hj:j<(X v).length),NQ h1 B (X v)[j] (M j v))->TrI h1 r c B bo M k (i+1) h8:=λX _ g1 g2=>⟨_,_,X,hB8,g1,g2⟩
     refine fin _ rfl ?_ λv hv=>?_
     . have:=gr5.setRow hk' (λb g1 g2=>hfr b g2 g1) hy λb hb=>(hin b hb).imp id And.left
       refine⟨this.slen,this.out,λv hv=>?_,this.apt,this.apt2⟩
       have h9:=this.row v hv
       by_cases e:v=k
       . subst e
         simp only[if_true]at h9 |-
         rw[List.flatMap_append]
         simpa using h9
       . simp only[if_neg e]at h9 |-;exact h9
     . by_cases e:v=k
       . subst e
         simp only[if_true,if_neg (Nat.lt_irrefl _)]
         refine⟨by rw[List.length_append,l1];rfl,λj hj=>?_⟩
         rcases Nat.lt_or_ge j (X5 v).length with h10 | h10
         . rw[List.getElem_append_left h10];exact l2 j h10
         . have:j=(X5 v).length:=by simp at hj;omega
           subst this
           rw[List.getElem_append_right (Nat.le_refl _)]
           simp only[Nat.sub_self,List.getElem_cons_zero]
           rw[l1];exact hx
       . simp only[if_neg e]
         have:=hX5 v hv
         rw[if_neg e]at this
         exact this
   . have:i=r:=by simp only at h6;omega
     subst this
     refine hkk _ hk' ⟨f5,ss5,X5,hB5,gr5,λv hv=>⟨?_,(hX5 v hv).2⟩⟩
     rw[(hX5 v hv).1]
     by_cases e:v<k
     . rw[if_pos e,if_pos (by omega)]
     . rw[if_neg e]
       by_cases e2:v=k
       . rw[if_pos e2,if_pos (by omega)]
       . rw[if_neg e2,if_neg (by omega)];split<;>rfl
 . have:k=c:=by simp only at h4;omega
   subst this
   obtain⟨f5,ss5,X5,hB5,gr5,hX5⟩:=hI3
   refine hk _ _ (Hp.le_trans hl1 hB5.le) (gr5.mf (M:=λi j=>M j i) hB5 λv hv=>⟨?_,(hX5 v hv).2⟩)
   rw[(hX5 v hv).1,if_pos hv]
end
end Den
end

section
namespace Den
open Go Iv Lx
def zgm(r c:Nat)(M:Nat->Nat->Rat):List Rat:=(List.range r).flatMap λi=>(List.range c).map (M i)
theorem ze0{r c:Nat}{M:Nat->Nat->Rat}:zgm (r+1) c M=zgm r c M++(List.range c).map (M r):=by
 unfold zgm;rw[List.range_succ,List.flatMap_append];simp
theorem z1c{r c:Nat}{M:Nat->Nat->Rat}:(zgm r c M).length=r*c:=by
 induction r with
 | zero=>simp[zgm]
 | succ r ih=>rw[ze0,List.length_append,ih,List.length_map,List.length_range,Nat.add_mul,Nat.one_mul]
theorem zam{r c i j:Nat}(hi:i<r)(hj:j<c):i*c+j<r*c:=by
 have h1:(i+1)*c<=r*c:=Nat.mul_le_mul_right _ hi
 rw[Nat.add_mul]at h1
 omega
theorem zy5{r c:Nat}{M:Nat->Nat->Rat}{i j:Nat}(hi:i<r)(hj:j<c):(zgm r c M)[i*c+j]?=some (M i j):=by
 induction r with
 | zero=>omega
 | succ r ih=>
   rw[ze0]
   by_cases h:i<r
   . rw[List.getElem?_append_left (by rw[z1c];exact zam h hj)];exact ih h
   . have:i=r:=by omega
     subst this
     rw[List.getElem?_append_right (by rw[z1c];omega),z1c,Nat.add_sub_cancel_left,List.getElem?_map,List.getElem?_range hj];rfl
section
variable {h D : Hp} {m : Sl} {r c B : Nat} {M : Nat → Nat → Rat} {Ki : Int → Hp → Prop} {Kb : Bool → Hp → Prop} {Ks : Sl → Hp → Prop}
theorem zwf{n:Nat}(hn:0<n)(hn2:n<=1000000)(H:∀y h',LO nc 2 (NQP B) h h' y []->Ks y h'):zc (F.Yv zf (n:Int)) Ks h:=by
 refine zd (λy h'=>LO nc 2 (NQP B) h h' y []) (λK' hk=>?_) λy h' _ hy=>H y h' hy
 unfold F.Yv
 refine zk (λ_ h'=>h'=h) (λ_ h1 hh=>?_) (ze (λhh=>absurd hh (by omega)) λ_=>rfl)
 subst hh
 have e1:i64.wrap ((zf.cap:Int)-(zf.len:Int))=0:=rfl
 rw[e1]
 have e2:i64.wrap ((n:Int)-0)=n:=by rw[w64 (by omega)];omega
 rw[e2]
 refine ze (λ_=>?_) (λhh=>absurd hh (by omega))
 refine⟨Int.le_refl _,Int.le_refl _,Int.le_refl _,by omega,?_⟩
 have e3:zf.cut ((0:Int)).toNat ((zf.cap:Int)).toNat 2=zf:=rfl
 rw[e3]
 have e4:((n:Int)).toNat=n:=rfl
 rw[e4]
 have hz:(ye n [Value.slice zf.a zf.len zf.cap,.slice zf.a zf.len zf.cap]).length=n*2:=by rw[z35];rfl
 refine(OS.nil (f:=z73) (size:=2)).app Bk.start (n:=n) hz rfl ?_ ?_ ?_ λy f1 h2 hB2 ho2 _ _=>?_
 . unfold ye
   rw[List.all_flatten,List.all_replicate]
   simp[Value.leaf]
 . show(0+n)*48<=_;omega
 . show 0+n<=_;omega
 . have h3:=ho2.2.1
   refine⟨by omega,by show(0:Int)<=((zf.len:Nat):Int);omega,by show((zf.len:Nat):Int)<=(y.cap:Int);show((0:Nat):Int)<=_;omega,hk _ _ hB2.le ⟨[],?_,rfl,λk k1 _=>by simp at k1⟩⟩
   have:=(ho2.cut (n:=0) (Nat.zero_le _)).own hB2
   rw[Nat.zero_mul,List.take_zero]at this
   exact this
theorem znm(hm:MF h m r c B M)(hr:0<r)(hrr:r<=1000)(hc0:0<c)(hc:c<=1000)(H:∀y h',LO nc 2 (NQP B) h h' y (zgm r c M)->Ks y h'):zc (F.Ym m) Ks h:=by
 refine zd (λy h'=>LO nc 2 (NQP B) h h' y (zgm r c M)) (λK' hk=>?_) λy h' _ hy=>H y h' hy
 unfold F.Ym
 have hml:=hm.len
 have hrc:r*c<=1000*1000:=Nat.mul_le_mul hrr hc
 refine Yt (n:=r) (by omega) (λi s h'=>s=((i*c:Nat):Int)/\h'=h) ⟨by rw[Nat.zero_mul];rfl,rfl⟩ ?_
 rintro i s h1 hir ⟨rfl,hh⟩ kk hkk
 rw[hh,hml]
 refine ze (λh2=>?_) (λh2=>?_)
 . have hi':i<r:=by simp only at h2;omega
   refine zk (λs h'=>s.1=(((i+1)*c:Nat):Int)/\h'=h) (λs h' hs=>hkk _ _ hi' hs) ?_
   refine hm.row (Hp.le_refl _) i rfl hi' λx hx=>?_
   rw[hx.len]
   have h3:(i+1)*c<=r*c:=Nat.mul_le_mul_right _ hi'
   rw[Nat.add_mul,Nat.one_mul]at h3 |-
   have e:i64.wrap (((i*c:Nat):Int)+(c:Int))=((i*c+c:Nat):Int):=by rw[w64 (by omega)];omega
   simp only[e]
   exact ze (λhh=>absurd hh (by omega)) λ_=>⟨trivial,trivial⟩
 . have:i=r:=by simp only at h2;omega
   subst this
   have hpos:0<i*c:=Nat.mul_pos hr hc0
   refine zwf (B:=B) hpos (by omega) λy h3 hy=>?_
   refine Yt (n:=i) (by omega) (λj s h'=>LO nc 2 (NQP B) h h' s (zgm j c M)) (by simpa [zgm] using hy) ?_
   intro j s h4 hj ho4 k9 hk9
   refine ze (λh5=>?_) (λh5=>?_)
   . have hj':j<i:=by simp only at h5;omega
     refine hm.row ho4.dle j rfl hj' λx hx=>?_
     have h6:j*c<=i*c:=Nat.mul_le_mul_right _ hj
     refine ho4.appAll (Xj B) hx rfl ?_ ?_ λw h7 hw=>hk9 _ _ hj' (by rw[ze0];exact hw)
     . rw[z1c,List.length_map,List.length_range];omega
     . rw[z1c,List.length_map,List.length_range];omega
   . have:j=i:=by simp only at h5;omega
     subst this
     exact hk _ _ ho4.dle ho4
theorem zoe(hm:MF h m r c 2 M)(hr:0<r)(hrr:r<=1000)(hc0:0<c)(hc:c<=1000){K:Sl×Int->Hp->Prop}
 (H:∀y D f bo bl h',h.le D->Bk D h' f->MX D f (λ_ _=>2) y r c bo bl (λi=>i) M->K (y,0) h'):zc (F.z1m m) K h:=by
 refine zd (λy h'=>y.2=0/\∃D f bo bl,h.le D/\Bk D h' f/\MX D f (λ_ _=>2) y.1 r c bo bl (λi=>i) M) (λK' hk=>?_) λy h' _ hy=>by
  obtain⟨y,e⟩:=y
  obtain⟨h1,D,f,bo,bl,h2,h3,h4⟩:=hy
  simp only at h1 h4
  subst h1
  exact H y D f bo bl h' h2 h3 h4
 unfold F.z1m
 have hml:=hm.len
 have hrc:r*c<=1000*1000:=Nat.mul_le_mul hrr hc
 have hpos:0<r*c:=Nat.mul_pos hr hc0
 refine znm hm hr hrr hc0 hc λl h1 hl=>?_
 refine zdu (B:=2) (hl.lr (Xj 2)) (by rw[z1c];omega) (by omega) λy D h2 hD ho=>?_
 refine yk (λhh=>absurd rfl hh) (λ_=>?_)
 obtain⟨xs,ho1,hxl,hxs⟩:=ho
 have hhD:=Hp.le_trans hl.dle hD
 rw[z1c]at hxl
 obtain⟨f2,hB2,hos⟩:=ho1.bk
 obtain⟨s1,s2,s3⟩:=hos
 have hfl:(xs.flatMap nc).length=r*c*2:=by rw[Y4 (c:=nc) (n:=2) (λ_=>rfl),hxl]
 have hyl:y.len=r*c:=by rw[hfl]at s1;exact Nat.eq_of_mul_eq_mul_right (by decide) s1
 cases hya:y.a with
 | none=>rw[hya]at s3;simp only at s3;omega
 | some a=>
   rw[hya]at s3
   obtain⟨g1,g2,bs,g3,g4,g5⟩:=s3
   obtain⟨bl,hbl⟩:∃bl,bl=a.block:=⟨_,rfl⟩
   have ea:a=⟨bl,0,none⟩:=by cases a;simp only at g1 g2 hbl;rw[g1,g2,hbl]
   rw[<-hbl]at g3
   rw[hml]
   refine hB2.mkF r r rfl rfl (Nat.le_refl _) (by omega) (by omega) λbo h3 hbo hDo hB3=>?_
   have hne:bo≠bl:=λhh=>by rw[hh,g3]at hbo;cases hbo
   have r2:ye r [Value.slice zf.a zf.len zf.cap]=(List.range r).map λi=>slV (if i<0 then z9d bl (i*c*2) c else zf):=by
    unfold ye
    simp only[Nat.not_lt_zero,if_false,slV]
    rw[List.map_const',List.length_range];simp
   have hcs:bs.length=y.cap*2:=g4
   obtain⟨I,hI⟩:∃I:Nat->Sl->Hp->Prop,∀i s h',I i s h'↔s.len=(r-i)*c/\(i<r->s=⟨some ⟨bl,i*c*2,none⟩,(r-i)*c,y.cap-i*c⟩)/\∃f',Bk D h' f'/\f' bo=some ((List.range r).map λj=>slV (if j<i then z9d bl (j*c*2) c else zf))/\f' bl=some bs:=⟨_,λ_ _ _=>Iff.rfl⟩
   refine Yt (n:=r) (by omega) I ((hI _ _ _).2 ⟨hyl,λ_=>?_,_,hB3,by rw[Z3,r2],by rw[Qu (λhh=>hne hh.symm)];exact g3⟩) ?_
   . have:y=⟨y.a,y.len,y.cap⟩:=rfl
     rw[this,hya,ea,hyl,Nat.zero_mul,Nat.sub_zero,Nat.sub_zero]
   . intro i s h4 hir hI4 kk hkk
     obtain⟨t1,t2,f4,hB4,t3,t4⟩:=(hI _ _ _).1 hI4
     refine ze (λh5=>?_) (λh5=>?_)
     . have hi':i<r:=by simp only at h5;omega
       have es:=t2 hi'
       have hic:(i+1)*c<=r*c:=Nat.mul_le_mul_right _ hi'
       rw[Nat.add_mul,Nat.one_mul]at hic
       have hri:(r-i)*c=(r-(i+1))*c+c:=by
        have:r-i=(r-(i+1))+1:=by omega
        rw[this,Nat.add_mul,Nat.one_mul]
       refine hm.row (Hp.le_trans hhD hB4.le) i rfl hi' λx hx=>?_
       simp only[hx.len,es]
       refine⟨by omega,by omega,by omega,by show(c:Int)<=((y.cap-i*c:Nat):Int);omega,?_⟩
       refine⟨by omega,by show(c:Int)<=(((r-i)*c:Nat):Int);omega,by show(((r-i)*c:Nat):Int)<=((y.cap-i*c:Nat):Int);have:i*c+(r-i)*c=r*c:=by { rw[<-Nat.add_mul];congr 1;omega };omega,?_⟩
       refine zee hi' (hB4.st t3 (by show i+1<=_;simp;omega) rfl λh6 hB6=>hkk _ _ hi' ((hI _ _ _).2 ⟨?_,λhi2=>?_,_,hB6,?_,by rw[Qu (λhh=>hne hh.symm)];exact t4⟩))
       . show(r-i)*c-c=_;omega
       . show(⟨if y.cap-i*c=c then _ else (some (⟨bl,i*c*2,none⟩:Addr)).map (·.add (c*2)),(r-i)*c-c,y.cap-i*c-c⟩:Sl)=_
         have hic2:(i+2)*c<=r*c:=Nat.mul_le_mul_right _ hi2
         rw[Nat.add_mul]at hic2
         rw[if_neg (by omega)]
         show(⟨some ((⟨bl,i*c*2,none⟩:Addr).add (c*2)),_,_⟩:Sl)=_
         rw[z0l]
         have e1:i*c*2+c*2=(i+1)*c*2:=by rw[Nat.add_mul i,Nat.one_mul,Nat.add_mul]
         have e2:(r-i)*c-c=(r-(i+1))*c:=by omega
         have e3:y.cap-i*c-c=y.cap-(i+1)*c:=by rw[Nat.add_mul,Nat.one_mul];omega
         rw[e1,e2,e3]
       . rw[Z3]
         congr 1
         have ecut:((Sl.cut ⟨some ⟨bl,i*c*2,none⟩,(r-i)*c,((c:Int)).toNat⟩ ((0:Int)).toNat ((c:Int)).toNat 2):Sl)=z9d bl (i*c*2) c:=by
          show(⟨if c=0 then _ else (some (⟨bl,i*c*2,none⟩:Addr)).map (·.add (0*2)),c-0,c-0⟩:Sl)=_
          rw[if_neg (by omega)]
          show(⟨some ((⟨bl,i*c*2,none⟩:Addr).add (0*2)),_,_⟩:Sl)=_
          rw[z0l];rfl
         rw[ecut]
         refine List.ext_getElem? λa=>?_
         rw[z6m (by show i+1<=_;simp;omega)]
         simp only[List.getElem?_map]
         rcases Nat.lt_or_ge a r with ha | ha
         . rw[List.getElem?_range ha,Option.map_some,Option.map_some]
           by_cases e:a=i
           . subst e
             rw[if_pos ⟨Nat.le_refl _,by show a<a+1;omega⟩,if_pos (by omega),Nat.sub_self];rfl
           . rw[if_neg (by show ¬(i<=a/\a<i+1);omega)]
             by_cases e2:a<i
             . rw[if_pos e2,if_pos (by omega)]
             . rw[if_neg e2,if_neg (by omega)]
         . rw[if_neg (by show ¬(i<=a/\a<i+1);omega),List.getElem?_eq_none (by simpa using ha)];rfl
     . have:i=r:=by simp only at h5;omega
       subst this
       refine hk _ _ (Hp.le_trans hhD hB4.le) ⟨rfl,D,f4,bo,bl,hhD,hB4,rfl,hne,?_,λ_ h=>h,λ_ _ _ _ hh=>hh,bs,t4,?_,λa j ha hj=>?_⟩
       . rw[t3]
         congr 1
         refine List.map_congr_left λa ha=>?_
         rw[if_pos (List.mem_range.1 ha)]
       . rw[hcs];omega
       . have hk1:a*c+j<xs.length:=by rw[hxl];exact zam ha hj
         have e0:∀t,t<2->bs[a*c*2+j*2+t]?=(nc xs[a*c+j])[t]?:=λt ht=>by
          rw[<-z9r (c:=nc) (n:=2) (λ_=>rfl) hk1 ht,<-g5,List.getElem?_take,if_pos (by rw[hfl];have:=zam ha hj;omega)]
          congr 1;rw[Nat.add_mul]
         refine⟨xs[a*c+j],?_,e0 0 (by decide),e0 1 (by decide)⟩
         have h6:=hxs (a*c+j) hk1 (by rw[z1c];exact zam ha hj)
         have h7:(zgm i c M)[a*c+j]'(by rw[z1c];exact zam ha hj)=M a j:=by
          have:=zy5 (M:=M) ha hj
          rw[List.getElem?_eq_getElem (by rw[z1c];exact zam ha hj)]at this
          exact Option.some.inj this
         rw[h7]at h6;exact h6
theorem zkk(hm:MF h m c r 2 (λj i=>M i j))(hA:Tq.Indep M r c)(hr:0<r)(hrr:r<=1000)(hc0:0<c)(hc:c<=11){K:Sl×Int->Hp->Prop}(H:∀y h',h.le h'->y.len=c->K (y,0) h'):zc (F.z4n m) K h:=by
 refine zd (λy h'=>y.2=0/\y.1.len=c) (λK' hk=>?_) λy h' hl hy=>by
  obtain⟨y,e⟩:=y
  obtain⟨h1,h2⟩:=hy
  simp only at h1 h2
  subst h1
  exact H y h' hl h2
 unfold F.z4n
 refine zfp hm hc0 (by omega) λh1 hl1=>zt rfl ?_
 refine ziv (hm.le hl1) hc0 (by omega) (by omega) λy h2 hl2 hy=>?_
 refine zh6 hA hrr hc (λK2 hK2=>zoe hy hr hrr hc0 (by omega) hK2) (λh3 K2 hl3 hK2=>z8b hy hl3 hr (hK2 _ (Hp.le_refl _))) λx h3 hl3 hx=>hk _ _ (Hp.le_trans hl1 (Hp.le_trans hl2 hl3)) ⟨rfl,hx⟩
end
end Den
end

section
namespace Den
open Go Iv Lx
section
variable {D h E : Hp} {f : BM} {size : Nat} {x y : Sl} {cs : List Value}
theorem Bk.take(hB:Bk D h f)(hE:E.le D)(ho:Own E D size y cs):∃D' f',E.le D'/\Bk D' h f'/\OS f' size y cs/\∀b,f b≠none->f' b=f b/\¬inB y b:=by
 obtain⟨h1,h2,h3,h4⟩:=ho
 cases ha:y.a with
 | none=>
   rw[ha]at h4
   refine⟨D,f,hE,hB,⟨h2,h3,by rw[ha];exact h4⟩,λb _=>⟨rfl,λhh=>?_⟩⟩
   obtain⟨_,h5,_⟩:=hh
   rw[ha]at h5;cases h5
 | some a=>
   rw[ha]at h4
   obtain⟨g1,g2,g3,b,g4,g5,g6,g7⟩:=h4
   have hfb:f a.block=none:=by
    cases hf:f a.block with
    | none=>rfl
    | some ds=>have:=(hB.own _ _ hf).1;rw[g4]at this;cases this
   refine⟨D.del a.block,z06 f a.block b.cells,λk B hk=>?_,⟨λk B hk=>?_,λk ds hk=>?_⟩,⟨h2,h3,?_⟩,λk hk=>⟨Qu λhh=>hk (hh▸hfb),λhh=>?_⟩⟩
   . unfold Hp.del
     rw[if_neg (λhh=>by rw[hh,g3]at hk;cases hk)];exact hE k B hk
   . unfold Hp.del at hk
     split at hk
     . cases hk
     . exact hB.le k B hk
   . by_cases hka:k=a.block
     . subst hka
       rw[Z3]at hk;cases hk
       refine⟨by unfold Hp.del;rw[if_pos rfl],b.elem,?_⟩
       rw[hB.le _ _ g4,<-g5]
     . rw[Qu hka]at hk
       obtain⟨k1,e,k2⟩:=hB.own k ds hk
       exact⟨by unfold Hp.del;rw[if_neg hka];exact k1,e,k2⟩
   . rw[ha]
     exact⟨g1,g2,b.cells,Z3,g6,g7⟩
   . obtain⟨x,h5,h6⟩:=hh
     rw[ha]at h5;cases h5
     exact hk (h6▸hfb)
theorem Bk.give(hB:Bk D h f)(ho:OS f size y cs):∃D' f',D.le D'/\Bk D' h f'/\Rd D' size y cs/\∀b,¬inB y b->f' b=f b:=by
 have how:=ho.own hB
 obtain⟨h1,h2,h3,h4⟩:=how
 cases ha:y.a with
 | none=>
   rw[ha]at h4
   have:cs=[]:=by
    have:y.len=0:=by omega
    rw[this,Nat.zero_mul]at h2
    exact List.length_eq_zero_iff.1 h2.symm
   subst this
   refine⟨D,f,Hp.le_refl _,hB,⟨h2,by rw[ha];rfl⟩,λ_ _=>rfl⟩
 | some a=>
   rw[ha]at h4
   obtain⟨g1,g2,g3,b,g4,g5,g6,g7⟩:=h4
   have hle:D.le (D.ins a.block b):=Hp.le_ins g3
   have how2:Own D (D.ins a.block b) size y cs:=⟨hle,h2,h3,by rw[ha];exact⟨g1,g2,g3,b,Hp.ins_same _ _ _,g5,g6,g7⟩⟩
   refine⟨D.ins a.block b,λk=>if k=a.block then none else f k,hle,⟨λk B hk=>?_,λk ds hk=>?_⟩,how2.rd,λk hk=>if_neg λhh=>hk ⟨a,ha,hh.symm⟩⟩
   . by_cases hka:k=a.block
     . subst hka
       rw[Hp.ins_same]at hk;cases hk;exact g4
     . rw[Hp.ins_ne hka]at hk;exact hB.le k B hk
   . by_cases hka:k=a.block
     . simp only[if_pos hka]at hk;cases hk
     . simp only[if_neg hka]at hk
       rw[Hp.ins_ne hka];exact hB.own k ds hk
end
theorem zfu{α:Type}{c:α->List Value}{n k:Nat}(hc:∀x,(c x).length=n){xs:List α}{x:α}(hk:k<xs.length):Zb (xs.flatMap c) (k*n) (c x)=(xs.set k x).flatMap c:=by
 unfold Zb
 have e:k*n+(c x).length=(k+1)*n:=by rw[hc,Nat.add_mul,Nat.one_mul]
 rw[e,zha hc,zec hc,List.set_eq_take_append_cons_drop,if_pos hk,List.flatMap_append,List.flatMap_cons,List.append_assoc]
section
variable {h D : Hp} {Ks : Sl → Hp → Prop}
theorem zu1{n:Nat}(hn:n<=1000000)(H:∀y D h',h.le D->LO nc 2 (NQP 2) D h' y (List.replicate n ((0:Int):Rat))->Ks y h'):zc (F.z8t (n:Int) (-1)) Ks h:=by
 refine zd (λy h'=>∃D,h.le D/\LO nc 2 (NQP 2) D h' y (List.replicate n ((0:Int):Rat))) (λK' hk=>?_) λy h' _ hy=>by obtain⟨D,h1,h2⟩:=hy;exact H y D h' h1 h2
 unfold F.z8t
 refine Yt (n:=n) (by omega) (λi s h'=>∃D,h.le D/\LO nc 2 (NQP 2) D h' s (List.replicate i ((0:Int):Rat))) ⟨h,Hp.le_refl _,LO.nil⟩ ?_
 rintro i s h1 hi ⟨D,hD,ho⟩ kk hkk
 refine ze (λh2=>?_) (λh2=>?_)
 . have hi':i<n:=by simp only at h2;omega
   refine ho.call (Xj 2) (K1:=λz D'=>NQ D' 2 z ((0:Int):Rat)) (zij (by decide) (by decide) λz h' _ hz=>hz) λz D3 h3 hD3 ho3 hz=>?_
   obtain⟨J,hJ⟩:∃J:(Sl×Sl×Unit)×Unit->Hp->Prop,∀s' h',J s' h'↔s'=((z.radicands,z.coefs,()),())/\h'=h3:=⟨_,λ_ _=>Iff.rfl⟩
   refine zk J (λs' h' hs=>?_) ?_
   . obtain⟨rfl,rfl⟩:=(hJ _ _).1 hs
     refine ho3.app (Xj 2) (bytes:=48) (zero:=[.slice zf.a zf.len zf.cap,.slice zf.a zf.len zf.cap]) (x:=z) (b:=((0:Int):Rat)) rfl (by rw[List.length_replicate];omega) (by rw[List.length_replicate];omega) hz λw h5 hw=>hkk _ _ hi' ⟨D3,Hp.le_trans hD hD3,?_⟩
     rw[List.replicate_succ'];exact hw
   . exact zz (λhh=>absurd hh (by simp only;omega)) λ_=>(hJ _ _).2 ⟨rfl,rfl⟩
 . have:i=n:=by simp only at h2;omega
   subst this
   exact hk _ _ (Hp.le_trans hD ho.dle) ⟨D,hD,ho⟩
def zcu(p:Int×Int):List Value:=[.int .i8 p.1,.int .i8 p.2]
def AT(h:Hp)(l:Sl)(ps:List (Int×Int)):Prop:=Rd h 2 l (ps.flatMap zcu)/\∀p∈ps,-128<=p.1/\p.1<=127/\-128<=p.2/\p.2<=127
theorem AT.le{h':Hp}{l:Sl}{ps:List (Int×Int)}(ha:AT h l ps)(hl:h.le h'):AT h' l ps:=⟨ha.1.le hl,ha.2⟩
theorem AT.len{l:Sl}{ps:List (Int×Int)}(ha:AT h l ps):l.len=ps.length:=by
 have:=ha.1.1
 rw[Y4 (c:=zcu) (n:=2) (λ_=>rfl)]at this
 exact Nat.eq_of_mul_eq_mul_right (by decide) this
def cp(t:Nat)(p:Int×Int):Int:=if t=0 then p.1 else p.2
def Zdg(t:Nat)(ps:List (Int×Int))(v:Int):Rat:=((cp t (ps.getD v.toNat (0,0)):Int):Rat)
theorem zwd{E ps:List (Int×Int)}{i j:Nat}:Tq.frameM E (z9c ps) (zbb ps) i j=Tq.coef (Zdg (i % 2) ps) (E.getD j (0,0)) ((i/2:Nat):Int):=by
 unfold Tq.frameM
 rcases(by omega:i % 2=0\/i % 2=1)with h | h
 . rw[if_pos h,h];rfl
 . rw[if_neg (by omega),h];rfl
theorem Zc1{t:Nat}{p:Int×Int}(h:-128<=p.1/\p.1<=127/\-128<=p.2/\p.2<=127):-128<=cp t p/\cp t p<=127:=by unfold cp;split<;>omega
theorem AT.get{l:Sl}{ps:List (Int×Int)}(ha:AT h l ps){z w:Int}(v t:Nat)(hz:z=v)(hw:w=t)(hv:v<ps.length)(ht:t<2){K:Int->Prop}(H:-128<=cp t (ps.getD v (0,0))->cp t (ps.getD v (0,0))<=127->K (cp t (ps.getD v (0,0)))) :
 zg l z 2 λa=>zba w 2 (ldL (.int .i8) (a.add (w.toNat*1)) K h):=by
 subst hz hw
 have e:ps.getD v (0,0)=ps[v]:=by rw[List.getD_eq_getElem?_getD,List.getElem?_eq_getElem hv];rfl
 have hr:=Zc1 (t:=t) (ha.2 _ (List.getElem_mem hv))
 rw[e]at H
 refine zde (c:=zcu) (n:=2) (λ_=>rfl) (by decide) ha.1 v rfl hv λa hc=>?_
 unfold zba
 rw[decide_eq_true (show 0<=(t:Int)/\(t:Int)<(2:Nat)by omega)]
 refine⟨cp t ps[v],?_,H hr.1 hr.2⟩
 rw[show((t:Int)).toNat*1=t from Nat.mul_one t]
 refine hc t _ ht ?_
 rcases(by omega:t=0\/t=1)with rfl | rfl<;>rfl
def zxj(n:Nat)(E ps:List (Int×Int))(j t i:Nat):Rat:=if i % 2<t then Tq.frameM E (z9c ps) (zbb ps) i j else ((0:Int):Rat)
theorem zxk{n a b j t i:Nat}{E ps:List (Int×Int)}(hj:j<E.length)(ha:E[j].1=(a:Int))(hb:E[j].2=(b:Int))(hab:a≠b)(ht:t<2) :
 zxj n E ps j (t+1) i=if i=2*b+t then ((-(cp t (ps.getD a (0,0))-cp t (ps.getD b (0,0))):Int):Rat)else if i=2*a+t then ((cp t (ps.getD a (0,0))-cp t (ps.getD b (0,0)):Int):Rat)else zxj n E ps j t i:=by
 have eE:E.getD j (0,0)=E[j]:=by rw[List.getD_eq_getElem?_getD,List.getElem?_eq_getElem hj];rfl
 have pa:Zdg t ps (a:Int)=((cp t (ps.getD a (0,0)):Int):Rat):=rfl
 have pb:Zdg t ps (b:Int)=((cp t (ps.getD b (0,0)):Int):Rat):=rfl
 unfold zxj
 rw[zwd,eE]
 unfold Tq.coef
 rw[ha,hb]
 by_cases h1:i=2*b+t
 . rw[if_pos h1,if_pos (by omega)]
   have e1:i % 2=t:=by omega
   have e2:i/2=b:=by omega
   rw[e1,e2,if_neg (by omega),if_pos rfl,pa,pb,<-Rat.intCast_sub]
   congr 1;omega
 . rw[if_neg h1]
   by_cases h2:i=2*a+t
   . rw[if_pos h2,if_pos (by omega)]
     have e1:i % 2=t:=by omega
     have e2:i/2=a:=by omega
     rw[e1,e2,if_pos rfl,pa,pb,<-Rat.intCast_sub]
   . rw[if_neg h2]
     by_cases h3:i % 2=t
     . rw[if_pos (by omega),if_neg (by omega),if_neg (by omega),if_neg (by omega)];rfl
     . by_cases h4:i % 2<t
       . rw[if_pos (by omega),if_pos h4]
       . rw[if_neg (by omega),if_neg h4]
theorem z9s{G:TGraph}{es ps:List (Int×Int)}{at_:Sl}{n:Nat}(hl:LR a2c 2 A2P h G.edges es)(hn:G.n=(n:Int))(hn2:n<=60)(hlen:es.length<=3600)(hE:∀e∈es,0<=e.1/\e.1<n/\0<=e.2/\e.2<n/\e.1≠e.2)(hat:AT h at_ ps)(hps:ps.length=n)
 (H:∀y h',h.le h'->MF h' y es.length (2*n) 2 (λj i=>Tq.frameM es (z9c ps) (zbb ps) i j)->Ks y h'):zc (F.z1r G at_) Ks h:=by
 refine zd (λy h'=>MF h' y es.length (2*n) 2 (λj i=>Tq.frameM es (z9c ps) (zbb ps) i j)) (λK' hk=>?_) λy h' hl hy=>H y h' hl hy
 unfold F.z1r
 have hll:=hl.len y9
 obtain⟨Mt,hMt⟩:∃Mt:Nat->Nat->Rat,Mt=λj i=>Tq.frameM es (z9c ps) (zbb ps) i j:=⟨_,rfl⟩
 rw[<-hMt]at hk
 refine Yt (n:=es.length) (by omega) (λj s h'=>∃D f,h.le D/\Bk D h' f/\∃ss:List Sl,OS f 1 s (ss.map slV)/\ss.length=j/\∀k (hk:k<ss.length),RwF 2 (2*n) Mt D ss[k] k) ⟨h,z73,Hp.le_refl _,Bk.start,[],OS.nil,rfl,λk hk=>by simp at hk⟩ ?_
 rintro j s h1 hj ⟨D1,f1,hD1,hB1,ss,hos,hss,hrw⟩ kk hkk
 refine ze (λh2=>?_) (λh2=>?_)
 . have hj':j<es.length:=by simp only at h2;omega
   refine(hl.le y9 (Hp.le_trans hD1 hB1.le)).get y9 j rfl hj' λa3 e he hc=>⟨_,hc 0 _ rfl,_,hc 1 _ rfl,?_⟩
   obtain⟨q1,q2,q3,q4,q5⟩:=hE _ (List.getElem_mem hj')
   obtain⟨x1,x2⟩:=he
   rw[x1,x2]
   obtain⟨a,ha⟩:∃a:Nat,es[j].1=(a:Int):=⟨es[j].1.toNat,by omega⟩
   obtain⟨b,hb⟩:∃b:Nat,es[j].2=(b:Int):=⟨es[j].2.toNat,by omega⟩
   have han:a<n:=by omega
   have hbn:b<n:=by omega
   have hab:a≠b:=by omega
   simp only[ha,hb]
   have e2n:i64.wrap (2*G.n)=((2*n:Nat):Int):=by rw[hn,w64 (by omega)];omega
   rw[e2n]
   refine hB1.call (K1:=λy D'=>∃E,D1.le E/\LO nc 2 (NQP 2) E D' y (List.replicate (2*n) ((0:Int):Rat))) (zu1 (by omega) λy E h' hE hy=>⟨E,hE,hy⟩) λy D2 h3 hD2 hB2 hy=>?_
   obtain⟨E,hE1,X0,hX0,hX0l,hX0q⟩:=hy
   obtain⟨D3,f3,hD3,hB3,hy3,hf3⟩:=hB2.take hX0.1 hX0
   have hos3:OS f3 1 s (ss.map slV):=hos.congr λb hb=>(hf3 b (hos.there hb)).1
   have apt3:∀b,inB s b->¬inB y b:=λb hb=>(hf3 b (hos.there hb)).2
   have hX0l2:X0.length=2*n:=by rw[hX0l,List.length_replicate]
   refine Y0 (n:=2) (by omega) (λt h'=>∃D f,D3.le D/\Bk D h' f/\∃X:List TNumber,OS f 2 y (X.flatMap nc)/\X.length=2*n/\(∀i (hi:i<X.length),NQ D 2 X[i] (zxj n es ps j t i))/\∀b,¬inB y b->f b=f3 b) ⟨D3,f3,Hp.le_refl _,hB3,X0,hy3,hX0l2,λi hi=>?_,λ_ _=>rfl⟩ ?_
   . have h4:=hX0q i hi (by rw[List.length_replicate];omega)
     rw[List.getElem_replicate]at h4
     unfold zxj
     rw[if_neg (by omega)]
     have h5:NQ E 2 X0[i] ((0:Int):Rat):=h4
     exact h5.le hD3
   . rintro t h4 ht2 ⟨D4,f4,hD4,hB4,X,hyX,hXl,hXq,hf4⟩ k7 hk7
     have hle4:h.le h4:=Hp.le_trans hD1 (Hp.le_trans hE1 (Hp.le_trans hD3 (Hp.le_trans hD4 hB4.le)))
     refine ze (λh5=>?_) (λh5=>?_)
     . have ht:t<2:=by simp only at h5;omega
       refine(hat.le hle4).get a t rfl rfl (by omega) ht λra1 ra2=>?_
       refine(hat.le hle4).get b t rfl rfl (by omega) ht λrb1 rb2=>?_
       obtain⟨za,hza⟩:∃za,za=cp t (ps.getD a (0,0)):=⟨_,rfl⟩
       obtain⟨zb,hzb⟩:∃zb,zb=cp t (ps.getD b (0,0)):=⟨_,rfl⟩
       rw[<-hza]at ra1 ra2
       rw[<-hzb]at rb1 rb2
       rw[<-hza,<-hzb]
       have w1:i64.wrap za=za:=w64 (by omega)
       have w2:i64.wrap zb=zb:=w64 (by omega)
       have w3:i64.wrap (za-zb)=za-zb:=w64 (by omega)
       have w4:i64.wrap (0-(za-zb))=-(za-zb):=by rw[w64 (by omega)];omega
       have wa:i64.wrap (2*(a:Int))=2*(a:Int):=w64 (by omega)
       have wb:i64.wrap (2*(b:Int))=2*(b:Int):=w64 (by omega)
       have wc:i64.wrap (2*(a:Int)+(t:Int))=((2*a+t:Nat):Int):=by rw[w64 (by omega)];omega
       have wd:i64.wrap (2*(b:Int)+(t:Int))=((2*b+t:Nat):Int):=by rw[w64 (by omega)];omega
       simp only[w1,w2,w3,w4,wa,wb,wc,wd]
       refine hB4.call (K1:=λz D'=>NQ D' 2 z (((za-zb):Int):Rat)) (z7f (by omega) (by omega) λz h' _ hz=>hz) λr12 D5 h6 hD5 hB5 h12=>?_
       refine hB5.call (K1:=λz D'=>NQ D' 2 z (((-(za-zb)):Int):Rat)) (z7f (by omega) (by omega) λz h' _ hz=>hz) λr13 D6 h7 hD6 hB6 h13=>?_
       have hyl:y.len=2*n:=by
        have:=hyX.1
        rw[Y4 (c:=nc) (n:=2) (λ_=>rfl),hXl]at this
        exact Nat.eq_of_mul_eq_mul_right (by decide) this
       refine hyX.st (vs:=nc r12) (2*a+t) hB6 rfl (by omega) rfl (by decide) rfl λf7 h8 hB7 ho7 hf7=>?_
       rw[zfu (c:=nc) (n:=2) (λ_=>rfl) (by omega)]at ho7
       refine ho7.st (vs:=nc r13) (2*b+t) hB7 rfl (by omega) rfl (by decide) rfl λf8 h9 hB8 ho8 hf8=>hk7 _ ht ⟨D6,f8,Hp.le_trans hD4 (Hp.le_trans hD5 hD6),hB8,(X.set (2*a+t) r12).set (2*b+t) r13,?_,by simp[hXl],λi hi=>?_,λb hb=>by rw[hf8 b hb,hf7 b hb,hf4 b hb]⟩
       . rw[zfu (c:=nc) (n:=2) (λ_=>rfl) (by simp;omega)]at ho8
         exact ho8
       . rw[zxk hj' ha hb hab ht,<-hza,<-hzb,List.getElem_set]
         by_cases e1:i=2*b+t
         . rw[if_pos e1,if_pos e1.symm];exact h13
         . rw[if_neg e1,if_neg (λhh=>e1 hh.symm),List.getElem_set]
           by_cases e2:i=2*a+t
           . rw[if_pos e2,if_pos e2.symm];exact h12.le hD6
           . rw[if_neg e2,if_neg (λhh=>e2 hh.symm)]
             exact(hXq i (by simpa using hi)).le (Hp.le_trans hD5 hD6)
     . have ht:t=2:=by simp only at h5;omega
       subst ht
       obtain⟨D5,f5,hD5,hB5,hr5,hf5⟩:=hB4.give hyX
       have hos5:OS f5 1 s (ss.map slV):=hos3.congr λb hb=>by rw[hf5 b (apt3 b hb),hf4 b (apt3 b hb)]
       have hsl:s.len=j:=by have:=hos5.1;rw[List.length_map,hss,Nat.mul_one]at this;exact this
       have hcap:=hyX.2.1
       have hDD:D1.le D5:=Hp.le_trans hE1 (Hp.le_trans hD3 (Hp.le_trans hD4 hD5))
       refine hos5.app hB5 (n:=1) (new:=[slV y]) rfl rfl rfl (by omega) (by omega) λw f6 h6 hB6 ho6 _ _=>hkk _ _ hj' ⟨D5,f6,Hp.le_trans hD1 hDD,hB6,ss++[y],by rw[List.map_append];exact ho6,by rw[List.length_append,hss];rfl,λk k1=>?_⟩
       rcases Nat.lt_or_ge k ss.length with h8 | h8
       . rw[List.getElem_append_left h8]
         exact(hrw k h8).le (Xj 2) hDD
       . have:k=ss.length:=by simp at k1;omega
         subst this
         rw[List.getElem_append_right (Nat.le_refl _)]
         simp only[Nat.sub_self,List.getElem_cons_zero]
         refine⟨X,hr5,hcap,by simp[hXl],λi i1 i2=>?_⟩
         rw[List.getElem_map,z5s]
         have h9:=(hXq i i1).le hD5
         unfold zxj at h9
         rw[if_pos (by omega)]at h9
         rw[hss,hMt];exact h9
 . have:j=es.length:=by simp only at h2;omega
   subst this
   have hsl:s.len=ss.length:=by have:=hos.1;rw[List.length_map,Nat.mul_one]at this;exact this
   refine hk _ _ (Hp.le_trans hD1 hB1.le) ⟨ss,by rw[zuk];exact hos.rd hB1,hos.2.1,by rw[List.length_range];exact hss,λk k1 k2=>?_⟩
   rw[z5s]
   exact(hrw k k1).le (Xj 2) hB1.le
end
end Den
end

section
namespace Den
open Go Iv Lx
theorem zxn{xs:List (Int×Int)}(hn:xs.Nodup):(z6t xs).Perm xs/\(z6t xs).Pairwise z1d:=by
 have hp2:(z6t xs).Perm xs:=List.mergeSort_perm _ _
 have hnd:(z6t xs).Nodup:=hp2.nodup_iff.2 hn
 have hs:=List.pairwise_mergeSort (le:=λx y:Int×Int=>!(decide (z1e y x<0))) (λa b c h1 h2=>by
  simp only[Bool.not_eq_true',decide_eq_false_iff_not,zaq]at h1 h2 |-
  unfold z1d at *
  omega) (λa b=>by
  simp only[Bool.or_eq_true,Bool.not_eq_true',decide_eq_false_iff_not,zaq]
  unfold z1d
  omega) xs
 refine⟨hp2,?_⟩
 have hs2:(z6t xs).Pairwise λa b=>(!(decide (z1e b a<0)))=true:=hs
 refine List.Pairwise.imp₂ (λa b h1 h2=>?_) hs2 hnd
 simp only[Bool.not_eq_true',decide_eq_false_iff_not,zaq]at h1
 unfold z1d at *
 rcases Int.lt_trichotomy a.1 b.1 with h3 | h3 | h3
 . exact .inl h3
 . rcases Int.lt_trichotomy a.2 b.2 with h4 | h4 | h4
   . exact .inr ⟨h3,h4⟩
   . exact absurd (Prod.ext h3 h4) h2
   . exact absurd (.inr ⟨h3.symm,h4⟩) h1
 . exact absurd (.inl h3) h1
section
variable {h : Hp} {es : List (Int × Int)} {Kb : Bool → Hp → Prop} {Ks : Sl → Hp → Prop}
theorem zaw{n i:Int}(h1:0<=i)(h2:i<n)(H:Kb true h):zc (F.Wo n i) Kb h:=by
 refine Zf _ (λK' hk=>?_) H
 unfold F.Wo
 refine ze (λ_=>?_) (λhh=>absurd h1 hh)
 rw[decide_eq_true h2];exact hk
theorem zj5{x:Sl}(hx:EL h x es)(hs:es.Pairwise z1d)(hlen:es.length<=1000000)(H:Ks x h):Y3 (F.Qr x) Ks h:=by
 refine Qh ?_
 unfold F.Qr
 have hxl:=hx.len
 refine ze (λ_=>H) (λh1=>?_)
 refine z7t (n:=es.length) (m:=1) rfl (by omega) (λi h'=>h'=h) rfl ?_
 rintro i h2 hi hh k hk
 rw[hh]
 refine ze (λh3=>?_) (λh3=>H)
 have hi':i<es.length:=by simp only at h3;omega
 have e1:i64.wrap ((i:Int)-1)=((i-1:Nat):Int):=by rw[w64 (by omega)];omega
 simp only[e1]
 refine hx.lr.get y9 i rfl hi' λa5 x hx5 hc=>⟨_,hc 0 _ rfl,_,hc 1 _ rfl,?_⟩
 refine hx.lr.get y9 (i-1) rfl (by omega) λa7 y hy hc7=>⟨_,hc7 0 _ rfl,_,hc7 1 _ rfl,?_⟩
 have hb:=List.pairwise_iff_getElem.1 hs (i-1) i (by omega) hi' (by omega)
 refine zt ?_ (hk _ hi' rfl)
 rw[hx5.1,hx5.2,hy.1,hy.2]
 unfold z1d at hb
 rcases hb with hb | hb
 . have hne:es[i].1≠es[i-1].1:=by omega
   simp[hne]
 . have hne:es[i].2≠es[i-1].2:=by omega
   simp[hne]
theorem zwq{n:Nat}{l:Sl}{K:TGraph×Int->Hp->Prop}(hl:EL h l es)(hE:∀e∈es,0<=e.1/\e.1<e.2/\e.2<n)(hnd:es.Nodup)(hn:n<=60)(hlen:es.length<=1000000)
 (H:∀s h',h.le h'->EL h' s (z6t es)->GV (n:Int) (z6t es)->K (⟨(n:Int),s⟩,0) h'):zc (F.z8h (n:Int) l) K h:=by
 obtain⟨hp,hpw⟩:=zxn hnd
 have hgv:GV (n:Int) (z6t es):=⟨by omega,λe he=>by have:=hE e (hp.mem_iff.1 he);omega,λj hj=>List.pairwise_iff_getElem.1 hpw j (j+1) (by omega) hj (by omega)⟩
 refine zd (λr h'=>∃s,r=(⟨(n:Int),s⟩,0)/\EL h' s (z6t es)) (λK' hk=>?_) λr h' hl hr=>by obtain⟨s,rfl,hs⟩:=hr;exact H s h' hl hs hgv
 unfold F.z8h
 have hll:=hl.len
 refine zk (λs h'=>h'=h) (λs h1 hh=>?_) ?_
 . subst hh
   refine zoj (n:=es.length) (by omega) (λi a b h'=>b.1=(n:Int)/\∃f,Bk h1 h' f/\OS f 2 b.2.1 ((es.take i).flatMap Q8)) ⟨rfl,z73,Bk.start,OS.nil⟩ ?_
   rintro i a ⟨bn,s,_⟩ h2 hi ⟨rfl,f,hB,ho⟩ kk hkk
   refine ze (λh3=>?_) (λh3=>?_)
   . have hi':i<es.length:=by simp only at h3;omega
     refine(hl.le hB.le).lr.get y9 i rfl hi' λa5 x hx hc=>⟨_,hc 0 _ rfl,_,hc 1 _ rfl,?_⟩
     obtain⟨e1,e2,e3⟩:=hE _ (List.getElem_mem hi')
     rw[hx.1,hx.2]
     refine zk (λ_ h'=>h'=h2) (λs' h' hs=>?_) ?_
     . rw[hs]
       refine Zf (⟨es[i].1,es[i].2⟩:A2_Int) (λK2 hk2=>?_) ?_
       . unfold F.z5z
         have m1:zws es[i].1 es[i].2=es[i].1:=by unfold zws;rw[if_neg (by omega)]
         have m2:zje es[i].1 es[i].2=es[i].2:=by unfold zje;rw[if_pos (by omega)]
         rw[m1,m2];exact hk2
       . have hsl:s.len=i:=by
          have:=ho.1
          rw[Y4 z0b,List.length_take,Nat.min_eq_left (by omega)]at this
          exact Nat.eq_of_mul_eq_mul_right (by decide) this
         refine ho.app hB (n:=1) (new:=Q8 es[i]) rfl rfl rfl (by show(s.len+1)*16<=_;omega) (by show s.len+1<=_;omega) λw f4 h4 hB4 ho4 _ _=>hkk _ _ _ hi' ⟨rfl,f4,hB4,?_⟩
         rw[<-List.take_append_getElem hi',List.flatMap_append]
         have e5:[es[i]].flatMap Q8=Q8 es[i]:=rfl
         rw[e5];exact ho4
     . refine zaw e1 (by show es[i].1<(n:Int);omega) (zt rfl ?_)
       refine zaw (by omega) (by show es[i].2<(n:Int);omega) (zt rfl ?_)
       exact zz (λhh=>absurd hh (by omega)) λ_=>rfl
   . have:i=es.length:=by simp only at h3;omega
     subst this
     rw[List.take_length]at ho
     refine Qh ?_
     unfold F.Ys
     refine ziq (by decide) z0b hp.length_eq (λ_=>rfl) ho hB (by omega) λf4 h4 hB4 ho4=>?_
     have hs4:EL h4 s (z6t es):=⟨ho4.rd hB4,ho4.2.1⟩
     refine zj5 hs4 hpw (by rw[hp.length_eq];exact hlen) (hk _ _ hB4.le ⟨s,rfl,hs4⟩)
 . refine ze (λhh=>absurd hh (by omega)) λ_=>?_
   exact ze (λhh=>absurd hh (by omega)) λ_=>rfl
theorem zhe{G:TGraph}{n a b:Nat}{K:TGraph×Int->Hp->Prop}(hl:EL h G.edges es)(hG:G.n=(n:Int))(hv:GV (n:Int) es)(hn:n<60)(ha:a<n)(hb:b<n)(hab:a≠b)
 (H:∀s es' h',h.le h'->EL h' s es'->GV ((n+1:Nat):Int) es'->es'.Perm (es++[((a:Int),(n:Int)),((b:Int),(n:Int))])->K (⟨((n+1:Nat):Int),s⟩,0) h'):zc (F.z1w G (a:Int) (b:Int) (-1)) K h:=by
 refine zd (λr h'=>∃s es',r=(⟨((n+1:Nat):Int),s⟩,0)/\EL h' s es'/\GV ((n+1:Nat):Int) es'/\es'.Perm (es++[((a:Int),(n:Int)),((b:Int),(n:Int))])) (λK' hk=>?_) λr h' hl hr=>by obtain⟨s,es',rfl,h1,h2,h3⟩:=hr;exact H s es' h' hl h1 h2 h3
 unfold F.z1w
 have hcap:=hv.cap
 refine Xy λp1 h1 hl1 c1=>Xy λp2 h2 hl2 c2=>?_
 have c1':=Hp.cell_le hl2 c1
 have hle2:=Hp.le_trans hl1 hl2
 refine zk (λ_ h'=>h2.le h') (λ_ h3 hl3=>?_) ?_
 . refine⟨(a:Int),Hp.cell_le hl3 c1',(b:Int),Hp.cell_le hl3 c2,?_⟩
   have hle3:=Hp.le_trans hle2 hl3
   refine zfa (hl.le hle3) (by omega) λy h4 ho4=>?_
   obtain⟨f4,hB4,hoy⟩:=ho4.bk
   have hyl:y.len=es.length:=by
    have:=hoy.1
    rw[Y4 z0b]at this
    exact Nat.eq_of_mul_eq_mul_right (by decide) this
   have e16:(y.len+2)*16<=140737488355328:=by omega
   simp only[hG]
   refine hoy.app hB4 (n:=2) (new:=[((a:Int),(n:Int)),((b:Int),(n:Int))].flatMap Q8) rfl rfl rfl e16 (by omega) λw f5 h5 hB5 how _ _=>?_
   rw[<-List.flatMap_append]at how
   refine zk (λs h'=>s.2.1=w/\h'=h5) (λs h' hs=>?_) (ze (λhh=>absurd hh (by decide)) λ_=>⟨rfl,rfl⟩)
   obtain⟨⟨q1,q2,q3⟩,s9,_⟩:=s
   obtain⟨hs1,hs2⟩:=hs
   have hs1:s9=w:=hs1
   subst hs1
   rw[hs2]
   refine zz (λhh=>absurd hh (by omega)) λ_=>?_
   have ew:i64.wrap ((n:Int)+1)=((n+1:Nat):Int):=by rw[w64 (by omega)];omega
   rw[ew]
   have hr:=hv.2.1
   refine zwq (es:=es++[((a:Int),(n:Int)),((b:Int),(n:Int))]) ⟨how.rd hB5,how.2.1⟩ (λe he=>?_) ?_ (by omega) (by simp;omega) λs h6 hl6 hs6 hg6=>hk _ _ (Hp.le_trans hle3 (Hp.le_trans hB5.le hl6)) ⟨s,_,rfl,hs6,hg6,List.mergeSort_perm _ _⟩
   . rcases List.mem_append.1 he with he | he
     . have:=hr e he;omega
     . simp only[List.mem_cons,List.not_mem_nil,or_false]at he
       rcases he with rfl | rfl<;>(simp only;omega)
   . refine List.nodup_append.2 ⟨hv.nodup,?_,λe he e' he' hee=>?_⟩
     . refine List.nodup_cons.2 ⟨λhh=>?_,List.nodup_cons.2 ⟨List.not_mem_nil,List.nodup_nil⟩⟩
       have:=congrArg Prod.fst (List.mem_singleton.1 hh)
       simp only at this;omega
     . have h7:=hr e he
       rw[hee]at h7
       simp only[List.mem_cons,List.not_mem_nil,or_false]at he'
       rcases he' with rfl | rfl<;>(simp only at h7;omega)
 . refine Vk (hl.le hle2).lr (by omega) λbb h3 hl3 hbb=>?_
   rw[hbb.2 (by rw[hG];exact hv)]
   refine zt rfl ⟨(a:Int),Hp.cell_le hl3 c1',zaw (by omega) (by rw[hG];omega) (zt rfl ⟨(b:Int),Hp.cell_le hl3 c2,zaw (by omega) (by rw[hG];omega) (zt rfl ⟨(a:Int),Hp.cell_le hl3 c1',(b:Int),Hp.cell_le hl3 c2,zz (λhh=>absurd hh (by omega)) λ_=>hl3⟩)⟩)⟩
end
end Den
end

section
namespace Den
open Go Iv Lx
def z24(e:Int×Int)(x:TRat):PCon:=⟨2,[e.1,e.2],[],[.mk 1 x (some ((5:Int):Rat)) X6 []],0⟩
def ptF(p:Int×Int):Option Rat×Option Rat:=(some ((p.1:Int):Rat),some ((p.2:Int):Rat))
def FSk(es ps:List (Int×Int))(S:PSk):Prop:=S.pts=ps.map ptF/\S.cir=[]/\S.seg=[]/\S.arc=[]/\S.chn=[]/\∃xs:List TRat,xs.length=es.length/\(∀x∈xs,x.num.mag.len<=2/\x.den.mag.len<=2)/\S.con=(List.range es.length).map λi=>z24 (es.getD i (0,0)) (xs.getD i ⟨⟨false,zf⟩,⟨false,zf⟩⟩)
section
variable {h : Hp}
theorem zq2{x:TRat}{n:Int}(h1:-9223372036854775808<=n)(h2:n<=9223372036854775807)(hx:NR h x (n:Rat)):OR h x (some (n:Rat))/\x.num.mag.len<=2/\x.den.mag.len<=2:=by
 have hl:=hx.lens (zkw h1 h2)
 exact⟨⟨hx.ar,by omega,by omega,λq=>⟨λhq=>by rw[hx.inj hq],λhq=>by cases hq;exact hx⟩⟩,hl⟩
theorem zed{G:TGraph}{es ps:List (Int×Int)}{at_:Sl}{n:Nat}{K:TSketch->Hp->Prop}(hl:LR a2c 2 A2P h G.edges es)(hn:G.n=(n:Int))(hn2:n<=60)(hlen:es.length<=3600)(hat:AT h at_ ps)(hps:ps.length=n)
 (H:∀s S h',h.le h'->SK h' s S->FSk es ps S->K s h'):zc (F.z23 G at_) K h:=by
 refine zd (λs h'=>∃S,SK h' s S/\FSk es ps S) (λK' hk=>?_) λs h' hl hs=>by obtain⟨S,h1,h2⟩:=hs;exact H s S h' hl h1 h2
 unfold F.z23
 have hll:=hl.len y9
 refine Yt (n:=n) (by omega) (λi s h'=>s.2=(zf,zf,zf,zf,zf,())/\∃D,h.le D/\LO ptc 8 PTT D h' s.1 ((ps.take i).map ptF)) ⟨rfl,h,Hp.le_refl _,LO.nil⟩ ?_
 rintro i ⟨s,sr⟩ h1 hi ⟨rfl,D,hD,ho⟩ kk hkk
 simp only[hn]
 refine ze (λh2=>?_) (λh2=>?_)
 . have hi':i<n:=by have h2:(i:Int)<(n:Int):=h2;omega
   have hip:i<ps.length:=by omega
   have hr:=hat.2 _ (List.getElem_mem hip)
   have hal:=hat.le (Hp.le_trans hD ho.dle)
   refine zde (c:=zcu) (n:=2) (λ_=>rfl) (by decide) hal.1 i rfl hip λa3 hc3=>⟨ps[i].1,hc3 0 _ (by decide) rfl,?_⟩
   refine zde (c:=zcu) (n:=2) (λ_=>rfl) (by decide) hal.1 i rfl hip λa5 hc5=>⟨ps[i].2,hc5 1 _ (by decide) rfl,?_⟩
   have w1:i64.wrap ps[i].1=ps[i].1:=w64 (by omega)
   have w2:i64.wrap ps[i].2=ps[i].2:=w64 (by omega)
   simp only[w1,w2]
   refine ho.call z3r (K1:=λz D'=>NR D' z ((ps[i].1:Int):Rat)) (z37 (by omega) (by omega) λz h' _ hz=>hz) λz D3 h3 hD3 ho3 hz=>?_
   refine ho3.call z3r (K1:=λz D'=>NR D' z ((ps[i].2:Int):Rat)) (z37 (by omega) (by omega) λz h' _ hz=>hz) λw D4 h4 hD4 ho4 hw=>?_
   have hlt:((ps.take i).map ptF).length=i:=by rw[List.length_map,List.length_take,Nat.min_eq_left (by omega)]
   refine ho4.app z3r (bytes:=128) (zero:=[.bool false,.slice zf.a zf.len zf.cap,.bool false,.slice zf.a zf.len zf.cap,.bool false,.slice zf.a zf.len zf.cap,.bool false,.slice zf.a zf.len zf.cap]) (x:=⟨z,w⟩) (b:=ptF ps[i]) rfl (by rw[hlt];omega) (by rw[hlt];omega) ⟨(zq2 (by omega) (by omega) (hz.le hD4)).1,(zq2 (by omega) (by omega) hw).1⟩ λy h5 hy=>hkk (y,zf,zf,zf,zf,zf,()) _ hi' ⟨rfl,D4,Hp.le_trans hD (Hp.le_trans hD3 hD4),?_⟩
   rw[<-List.take_append_getElem hip,List.map_append];exact hy
 . have:i=n:=by have h2:¬(i:Int)<(n:Int):=h2;omega
   subst this
   rw[List.take_of_length_le (by omega)]at ho
   have hp1:=ho.lr z3r
   have hhl:=Hp.le_trans hD ho.dle
   obtain⟨cf,hcf⟩:∃cf:List TRat->Nat->PCon,cf=λxs k=>z24 (es.getD k (0,0)) (xs.getD k ⟨⟨false,zf⟩,⟨false,zf⟩⟩):=⟨_,rfl⟩
   refine Yt (n:=es.length) (by omega) (λj t h'=>(t.1=s/\t.2.1=zf/\t.2.2.1=zf/\t.2.2.2.1=zf/\t.2.2.2.2.1=zf)/\∃D xs,h1.le D/\xs.length=j/\(∀x∈xs,x.num.mag.len<=2/\x.den.mag.len<=2)/\LO cc 5 CO D h' t.2.2.2.2.2.1 ((List.range j).map (cf xs))) ⟨⟨rfl,rfl,rfl,rfl,rfl⟩,h1,[],Hp.le_refl _,rfl,λx hx=>by simp at hx,LO.nil⟩ ?_
   rintro j ⟨s,t1,t2,t3,t4,t,_⟩ h3 hj ⟨⟨rfl,rfl,rfl,rfl,rfl⟩,D2,xs,hD2,hxl,hxs,ho2⟩ k11 hk11
   simp only at ho2
   have hle3:=Hp.le_trans hhl (Hp.le_trans hD2 ho2.dle)
   refine ze (λh4=>?_) (λh4=>?_)
   . have hj':j<es.length:=by simp only at h4;omega
     refine(hl.le y9 hle3).get y9 j rfl hj' λa12 e he hc=>⟨_,hc 0 _ rfl,_,hc 1 _ rfl,?_⟩
     rw[he.1,he.2]
     refine ho2.call Yx (K1:=λz D'=>NR D' z ((5:Int):Rat)) (z37 (by decide) (by decide) λz h' _ hz=>hz) λz D5 h5 hD5 ho5 hz=>?_
     refine ho5.newb Yx λa6 D6 h6 hD6 _ ho6 hc6=>?_
     refine ho6.newb Yx λa7 D7 h7 hD7 _ ho7 hc7=>?_
     obtain⟨hor,hzl⟩:=zq2 (by decide) (by decide) (hz.le (Hp.le_trans hD6 hD7))
     have hIL:IL D7 ⟨some a6,2,2⟩ [es[j].1,es[j].2]:=⟨(z0g hc6 rfl).le hD7,Nat.le_refl _⟩
     have hEX:LR ec 7 EX D7 ⟨some a7,1,1⟩ [PEx.mk 1 z (some ((5:Int):Rat)) X6 []]:=by
      refine⟨[⟨1,z,X6,zf⟩],z0g hc7 rfl,Nat.le_refl _,rfl,λk k1 k2=>?_⟩
      have:k=0:=by simp at k1;omega
      subst this
      exact EX.mk (⟨1,z,X6,zf⟩:TExpr) (some ((5:Int):Rat)) [] [] hor Rd.nil (Nat.le_refl _) rfl λk k1 _=>by simp at k1
     have hgj:es.getD j (0,0)=es[j]:=by rw[List.getD_eq_getElem?_getD,List.getElem?_eq_getElem hj'];rfl
     refine ho7.app Yx (bytes:=88) (zero:=[.int .i64 0,.slice zf.a zf.len zf.cap,.slice zf.a zf.len zf.cap,.slice zf.a zf.len zf.cap,.int .i64 0]) (x:=⟨2,⟨some a6,2,2⟩,zf,⟨some a7,1,1⟩,0⟩) (b:=z24 es[j] z) rfl (by rw[List.length_map,List.length_range];omega) (by rw[List.length_map,List.length_range];omega) ⟨rfl,hIL,IL.nil,hEX,rfl⟩ λy h8 hy=>hk11 (s,zf,zf,zf,zf,y,()) _ hj' ⟨⟨rfl,rfl,rfl,rfl,rfl⟩,D7,xs++[z],Hp.le_trans hD2 (Hp.le_trans hD5 (Hp.le_trans hD6 hD7)),by rw[List.length_append,hxl];rfl,λx hx=>?_,?_⟩
     . rcases List.mem_append.1 hx with hx | hx
       . exact hxs x hx
       . rw[List.mem_singleton.1 hx];exact hzl
     . have e1:(List.range (j+1)).map (cf (xs++[z]))=(List.range j).map (cf xs)++[z24 es[j] z]:=by
        rw[List.range_succ,List.map_append]
        congr 1
        . refine List.map_congr_left λk hk=>?_
          have hk:=List.mem_range.1 hk
          rw[hcf]
          simp only
          rw[List.getD_eq_getElem?_getD (l:=xs++[z]),List.getElem?_append_left (by omega),<-List.getD_eq_getElem?_getD]
        . rw[hcf]
          simp only[List.map_cons,List.map_nil]
          rw[hgj,List.getD_eq_getElem?_getD,List.getElem?_append_right (by omega),hxl,Nat.sub_self];rfl
       rw[e1];exact hy
   . have:j=es.length:=by simp only at h4;omega
     subst this
     refine hk _ _ hle3 ⟨⟨ps.map ptF,[],[],[],[],(List.range es.length).map (cf xs)⟩,⟨(hp1.le z3r (Hp.le_trans hD2 ho2.dle)),LR.nil,LR.nil,LR.nil,LR.nil,ho2.lr Yx⟩,rfl,rfl,rfl,rfl,rfl,xs,hxl,hxs,by rw[hcf]⟩
end
end Den
end

section
namespace Den
open Go Iv Lx
def z6q:List (Int×Int):=[(0,1),(0,2),(1,2),(1,3),(2,3)]
def Zc7:List (Int×Int):=[(0,0),(2,0),(1,2),(3,2)]
theorem Zc8:HI 4 z6q Zc7:=by
 have h2:HI 2 [(0,1)] [(0,0),(2,0)]:=by
  refine⟨Nat.le_refl _,⟨by omega,λe he=>?_,λj hj=>?_⟩,rfl,Xu.bar,Tq.Free.bar (.inl ?_),rfl⟩
  . rw[List.mem_singleton.1 he];simp
  . simp at hj
  . unfold z9c;simp
 have g3:GV ((2+1:Nat):Int) [(0,1),(0,2),(1,2)]:=by
  refine⟨by omega,λe he=>?_,λj hj=>?_⟩
  . simp only[List.mem_cons,List.not_mem_nil,or_false]at he
    rcases he with rfl | rfl | rfl<;>simp
  . have:j=0\/j=1:=by simp at hj;omega
    rcases this with rfl | rfl<;>simp[z1d]
 have h3:HI 3 [(0,1),(0,2),(1,2)] [(0,0),(2,0),(1,2)]:=h2.step (a:=0) (b:=1) (x:=(1,2)) (by omega) (by omega) (by omega) (List.Perm.refl _) g3 (by decide)
 have g4:GV ((3+1:Nat):Int) z6q:=by
  refine⟨by omega,λe he=>?_,λj hj=>?_⟩
  . simp only[z6q,List.mem_cons,List.not_mem_nil,or_false]at he
    rcases he with rfl | rfl | rfl | rfl | rfl<;>simp
  . have:j=0\/j=1\/j=2\/j=3:=by simp[z6q]at hj;omega
    rcases this with rfl | rfl | rfl | rfl<;>simp[z1d,z6q]
 exact h3.step (a:=1) (b:=2) (x:=(3,2)) (by omega) (by omega) (by omega) (List.Perm.refl _) g4 (by decide)
theorem zo2{us:List PTr}{i j k:Nat}{x y z x0 y0 z0:Int}(hF:First us i j k x y z)(h0:z7u (us.getD 0 (.leaf 0 0)) (us.getD 1 (.leaf 0 0)) (us.getD 2 (.leaf 0 0))=some (x0,y0,z0)):i=0/\j=1/\k=2/\x=x0/\y=y0/\z=z0:=by
 have hij:=hF.ij
 have hjk:=hF.jk
 have hlt:=hF.lt
 by_cases h:i=0/\j=1/\k=2
 . obtain⟨rfl,rfl,rfl⟩:=h
   have:=hF.can
   rw[h0]at this
   cases this
   exact⟨rfl,rfl,rfl,rfl,rfl,rfl⟩
 . have:=hF.first 0 1 2 (by omega) (by omega) (by omega) (by omega)
   rw[h0]at this;cases this
theorem zmd{es:List (Int×Int)}{l:List Int}(hl:l.Pairwise (·<·))(hm:∀v,v∈l↔∃e∈es,v=e.1\/v=e.2):z2a es=l:=
 zl1 (R:=(·<·)) (λa=>Int.lt_irrefl a) (λa b h1 h2=>absurd (Int.lt_trans h1 h2) (Int.lt_irrefl _)) zgb hl λv=>by rw[zb1,hm]
theorem Zkx{a b v:Int}{e:Int×Int}(h1:e.1=a)(h2:e.2=b):v∈[a,b]↔∃x∈[e],v=x.1\/v=x.2:=by
 subst h1 h2
 simp
def zjz:PTr:=.node 1 0 2 (.leaf 0 1) (.leaf 0 2) (.leaf 1 2)
def zug:PTr:=.node 2 1 3 zjz (.leaf 1 3) (.leaf 2 3)
theorem zi6{a b:Int}(h:a<b):z2a (PTr.leaf a b).bars=[a,b]:=zmd (by simp[h]) λv=>Zkx rfl rfl
theorem Zdh:z2a zjz.bars=[0,1,2]:=zmd (by decide) λv=>by
 have e:zjz.bars=[(0,1),(0,2),(1,2)]:=rfl
 rw[e]
 simp only[List.mem_cons,List.not_mem_nil,or_false,exists_eq_or_imp,exists_eq_left]
 omega
theorem Zdi:z2a zug.bars=[0,1,2,3]:=zmd (by decide) λv=>by
 have e:zug.bars=[(0,1),(0,2),(1,2),(1,3),(2,3)]:=rfl
 rw[e]
 simp only[List.mem_cons,List.not_mem_nil,or_false,exists_eq_or_imp,exists_eq_left]
 omega
theorem zyx:z7u (.leaf 0 1) (.leaf 0 2) (.leaf 1 2)=some (0,2,1):=by
 unfold z7u
 rw[zi6 (by decide),zi6 (by decide),zi6 (by decide)];decide
theorem zyy:z7u zjz (.leaf 1 3) (.leaf 2 3)=some (1,3,2):=by
 unfold z7u
 rw[zi6 (by decide),zi6 (by decide),Zdh];decide
theorem zw0{ts:List PTr}(h:Reach (z6q.map lfE) ts):ts=z6q.map lfE\/ts=[zjz,.leaf 1 3,.leaf 2 3]\/ts=[zug]:=by
 generalize hs:z6q.map lfE=s at h
 induction h with
 | refl=>exact .inl rfl
 | step i j k x y z _ hF ih=>
   subst hs
   rcases ih with rfl | rfl | rfl
   . obtain⟨rfl,rfl,rfl,rfl,rfl,rfl⟩:=zo2 hF zyx
     exact .inr (.inl rfl)
   . obtain⟨rfl,rfl,rfl,rfl,rfl,rfl⟩:=zo2 hF zyy
     exact .inr (.inr rfl)
   . have:=hF.ij
     have:=hF.jk
     have:=hF.lt
     simp at this;omega
theorem Zc9{ts:List PTr}(h:Reach (z6q.map lfE) ts)(hn:Z8u ts):∃t,ts=[t]/\((z2a t.bars).length:Int)=4:=by
 rcases zw0 h with rfl | rfl | rfl
 . have:=hn 0 1 2 (by decide) (by decide) (by decide)
   have e:z7u (.leaf 0 1) (.leaf 0 2) (.leaf 1 2)=none:=this
   rw[zyx]at e;cases e
 . have:=hn 0 1 2 (by decide) (by decide) (by decide)
   have e:z7u zjz (.leaf 1 3) (.leaf 2 3)=none:=this
   rw[zyy]at e;cases e
 . exact⟨zug,rfl,by rw[Zdi];rfl⟩
theorem zyw{T:List Int}(h:IsCore 4 z6q T):T=[]:=by
 have hm:=λi (hi:i∈T)=>h.mem hi
 have hd:=h.deg
 have key:∀i∈T,(V8 z6q T i)<=(V8 z6q [0,1,2,3] i):=λi hi=>ze6 λx hx=>by
  have:=hm x hx
  simp only[List.mem_cons,List.not_mem_nil,or_false];omega
 have n0:(0:Int)∉T:=λhi=>by
  have h1:=hd 0 hi
  have h2:=key 0 hi
  have h3:V8 z6q [0,1,2,3] 0=2:=by decide
  omega
 have n3:(3:Int)∉T:=λhi=>by
  have h1:=hd 3 hi
  have h2:=key 3 hi
  have h3:V8 z6q [0,1,2,3] 3=2:=by decide
  omega
 have key2:∀i∈T,(V8 z6q T i)<=(V8 z6q [1,2] i):=λi hi=>ze6 λx hx=>by
  have:=hm x hx
  have:x≠0:=λhh=>n0 (hh▸hx)
  have:x≠3:=λhh=>n3 (hh▸hx)
  simp only[List.mem_cons,List.not_mem_nil,or_false];omega
 have no:∀i,i∉T:=λi hi=>by
  have h4:=hm i hi
  have h1:=hd i hi
  have h2:=key2 i hi
  have h5:i=1\/i=2:=by
   have:i≠0:=λhh=>n0 (hh▸hi)
   have:i≠3:=λhh=>n3 (hh▸hi)
   omega
  have h6:V8 z6q [1,2] 1=1:=by decide
  have h7:V8 z6q [1,2] 2=1:=by decide
  rcases h5 with rfl | rfl<;>omega
 exact List.eq_nil_iff_forall_not_mem.2 no
def zxp(c:PCon):PCon:={ c with vals:=[] }
theorem zv8{L:List PCon}{i:Nat}:(L.map zxp).getD i dC=zxp (L.getD i dC):=by
 rw[List.getD_eq_getElem?_getD,List.getD_eq_getElem?_getD,List.getElem?_map]
 cases L[i]?<;>rfl
theorem Z9j{L:List PCon}{cs R:List Int}{item:Int}:ze3 (L.map zxp) cs R item=ze3 L cs R item:=by
 have e1:(L.map zxp).map (λc=>W0 c cs)=L.map λc=>W0 c cs:=by rw[List.map_map];rfl
 have e2:∀l,wtL (L.map zxp) l=wtL L l:=λl=>by
  unfold wtL
  congr 1
  refine List.map_congr_left λi _=>?_
  rw[zv8];rfl
 have e3:zj4 (L.map zxp) cs R item↔zj4 L cs R item:=by
  unfold zj4
  rw[e1,e2]
  refine and_congr Iff.rfl (and_congr Iff.rfl (forall_congr' λi=>forall_congr' λ_=>?_))
  rw[zv8];exact Iff.rfl
 unfold ze3
 exact decide_eq_decide.2 e3
theorem Z8g:zfd (some ((5:Int):Rat))=true:=by
 have h:zja 40 0 ((5:Int):Rat)=true:=by
  show(if ((5:Int):Rat).den=1 then decide (siz 0 (dgt ((5:Int):Rat).num.natAbs)<=40)else zja 39 (0+1) (((5:Int):Rat)*((10:Int):Rat)))=true
  rw[Rat.den_intCast,if_pos rfl,Rat.num_intCast];decide +kernel
 unfold zfd
 simp only[h,Rat.num_intCast];decide
theorem Zbp{e:Int×Int}{x:TRat}{n:Int}(h:0<=e.1/\e.1<n/\0<=e.2/\e.2<n/\e.1≠e.2)(hx:x.num.mag.len<=2/\x.den.mag.len<=2):VC (z24 e x) n 0/\sC (z24 e x):=by
 have hE:vE (.mk 1 x (some ((5:Int):Rat)) X6 [])=true:=by
  have hd:dep (.mk 1 x (some ((5:Int):Rat)) X6 [])=1:=rfl
  have hf:zjb []=true:=rfl
  unfold vE fmd shp
  rw[Z8g,if_pos rfl,hd,hf]
  decide
 refine⟨⟨by show(1:Int)<=2/\(2:Int)<=17;omega,⟨rfl,λv hv=>?_⟩,⟨rfl,λv hv=>absurd hv List.not_mem_nil⟩,rfl,λv hv=>?_,?_,?_⟩,by show 2<=10;omega,by show 0<=10;omega,by show 1<=10;omega,λv hv=>?_⟩
 . have hv:v∈[e.1,e.2]:=hv
   simp only[List.mem_cons,List.not_mem_nil,or_false]at hv
   omega
 . have hv:v∈[PEx.mk 1 x (some ((5:Int):Rat)) X6 []]:=hv
   rw[List.mem_singleton.1 hv];exact hE
 . rw[if_neg (by show ¬(shK 2).2.2.2.2=true;decide)];rfl
 . rw[if_neg (by show ¬z58 2;decide)]
   refine⟨?_,List.nodup_nil⟩
   show [e.1,e.2].Nodup
   simp[h.2.2.2.2]
 . have hv:v∈[PEx.mk 1 x (some ((5:Int):Rat)) X6 []]:=hv
   rw[List.mem_singleton.1 hv]
   refine⟨⟨by show 0<=4;omega,by show X6.size<=40;decide,by omega,by omega,trivial⟩,?_⟩
   show 0+1<=61;omega
theorem Zca{S:PSk}(h:FSk z6q Zc7 S):sSk S/\VS S/\zue S=[]:=by
 obtain⟨p,ci,sg,ar,ch,co⟩:=S
 obtain⟨h1,h2,h3,h4,h5,xs,hx1,hx2,h6⟩:=h
 simp only at h1 h2 h3 h4 h5 h6
 subst h2 h3 h4 h5
 obtain⟨y,hy⟩:∃y:Nat->TRat,y=λi=>xs.getD i ⟨⟨false,zf⟩,⟨false,zf⟩⟩:=⟨_,rfl⟩
 have hyl:∀i,(y i).num.mag.len<=2/\(y i).den.mag.len<=2:=λi=>by
  rw[hy]
  simp only
  rw[List.getD_eq_getElem?_getD]
  rcases Nat.lt_or_ge i xs.length with hi | hi
  . rw[List.getElem?_eq_getElem hi];exact hx2 _ (List.getElem_mem hi)
  . rw[List.getElem?_eq_none hi];exact⟨Nat.zero_le _,Nat.zero_le _⟩
 have e6:co=[z24 (0,1) (y 0),z24 (0,2) (y 1),z24 (1,2) (y 2),z24 (1,3) (y 3),z24 (2,3) (y 4)]:=by rw[h6,hy];rfl
 have e1:p=[ptF (0,0),ptF (2,0),ptF (1,2),ptF (3,2)]:=h1
 subst e6 e1
 have hc:∀c∈[z24 (0,1) (y 0),z24 (0,2) (y 1),z24 (1,2) (y 2),z24 (1,3) (y 3),z24 (2,3) (y 4)],VC c 4 0/\sC c:=λc hc=>by
  simp only[List.mem_cons,List.not_mem_nil,or_false]at hc
  rcases hc with rfl | rfl | rfl | rfl | rfl<;>exact Zbp (by simp) (hyl _)
 refine⟨⟨by simp,by simp,by simp,by simp,by simp,by simp,by simp,λc h=>(hc c h).2⟩,⟨λp hp=>?_,by simp,by simp,by simp,by simp,λc h=>(hc c h).1⟩,?_⟩
 . simp only[List.mem_cons,List.not_mem_nil,or_false]at hp
   rcases hp with rfl | rfl | rfl | rfl<;>exact⟨rfl,rfl⟩
 . have ec:∀R,ze3 [z24 (0,1) (y 0),z24 (0,2) (y 1),z24 (1,2) (y 2),z24 (1,3) (y 3),z24 (2,3) (y 4)] [] R=ze3 [⟨2,[0,1],[],[],0⟩,⟨2,[0,2],[],[],0⟩,⟨2,[1,2],[],[],0⟩,⟨2,[1,3],[],[],0⟩,⟨2,[2,3],[],[],0⟩] [] R:=λR=>by
    funext item
    exact(Z9j (L:=[z24 (0,1) (y 0),z24 (0,2) (y 1),z24 (1,2) (y 2),z24 (1,3) (y 3),z24 (2,3) (y 4)]) (cs:=[]) (R:=R) (item:=item)).symm
   show Vl (zj2 4 0) (Zay (ze3 [z24 (0,1) (y 0),z24 (0,2) (y 1),z24 (1,2) (y 2),z24 (1,3) (y 3),z24 (2,3) (y 4)] []) (zj2 4 0))=[]
   rw[funext ec]
   decide +kernel
end Den
end

section
namespace Den
open Go Iv Lx
def bc(b:Bool):Value:=.bool b
theorem zd5{α:Type}{f:α->Value}:∀ys:List α,ys.map f=ys.flatMap λz=>[f z]
 | []=>rfl
 | a :: r=>by rw[List.map_cons,List.flatMap_cons,zd5 r];rfl
def gl(gn:List Bool):List Int:=((List.range gn.length).filter λi=>!(gn.getD i true)).map λi:Nat=>(i:Int)
theorem zek{gn:List Bool}{x:Int}:x∈gl gn↔∃i:Nat,x=i/\∃h:i<gn.length,gn[i]=false:=by
 unfold gl
 rw[List.mem_map]
 constructor
 . rintro⟨i,hi,rfl⟩
   rw[List.mem_filter,List.mem_range]at hi
   refine⟨i,rfl,hi.1,?_⟩
   have:=hi.2
   rw[Q9 hi.1]at this
   simpa using this
 . rintro⟨i,rfl,hi,hg⟩
   refine⟨i,List.mem_filter.2 ⟨List.mem_range.2 hi,?_⟩,rfl⟩
   rw[Q9 hi,hg];rfl
theorem z0d{gn:List Bool}{i:Nat}(hi:i<gn.length):(i:Int)∈gl gn↔gn[i]=false:=by
 rw[zek]
 constructor
 . rintro⟨j,hj,h1,h2⟩
   have:j=i:=by omega
   subst this;exact h2
 . intro h;exact⟨i,rfl,hi,h⟩
theorem Zd3{gn:List Bool}{N:Nat}(hN:gn.length=N):gl gn=(zbc N).filter λx=>decide (x∈gl gn):=by
 conv=>lhs;unfold gl
 unfold zbc
 rw[List.filter_map,hN]
 congr 1
 refine List.filter_congr λi hi=>?_
 have hi':i<gn.length:=by rw[hN];exact List.mem_range.1 hi
 rw[Bool.eq_iff_iff,Function.comp_apply,decide_eq_true_iff,z0d hi',Q9 hi']
 simp
def zb9(gn:List Bool):Nat:=gn.countP λb=>!b
theorem zyk{gn:List Bool}:∀{i:Nat} (hi:i<gn.length),gn[i]=false->zb9 (gn.set i true)+1=zb9 gn:=by
 induction gn with
 | nil=>intro i hi;simp at hi
 | cons a r ih=>
   intro i hi hg
   cases i with
   | zero=>
     simp only[List.getElem_cons_zero]at hg
     subst hg
     simp[zb9]
   | succ i=>
     have:=ih (i:=i) (by simpa using hi) (by simpa using hg)
     unfold zb9 at this |-
     simp only[List.set_cons_succ,List.countP_cons]
     omega
section
variable {h D : Hp} {g : TGraph} {es : List (Int × Int)} {l m : Sl} {gn : List Bool} {ds : List Int} {Kb : Bool → Hp → Prop} {Ki : Int → Hp → Prop} {Ks : Sl → Hp → Prop}
def OB(D h:Hp)(l:Sl)(gn:List Bool):Prop:=Own D h 1 l (gn.map bc)
theorem OB.len(ho:OB D h l gn):l.len=gn.length:=by have:=ho.2.1;simp at this;omega
theorem OB.get{i:Int}{K:Bool->Prop}(ho:OB D h l gn)(k:Nat)(hi:i=k)(hk:k<gn.length)(H:K gn[k]):zg l i 1 λa=>ldL .bool a K h:=by
 have hr:Rd h 1 l (gn.flatMap λz=>[bc z]):=by rw[<-zd5];exact ho.rd
 refine zde (c:=λz:Bool=>[bc z]) (n:=1) (λ_=>rfl) (by decide) hr k hi hk λa ha=>?_
 have:=ha 0 _ (by decide) rfl
 rw[Zv]at this
 exact⟨_,this,H⟩
theorem OB.set{i:Int}{v:Bool}{K:Hp->Prop}(k:Nat)(ho:OB D h l gn)(hi:i=k)(hk:k<gn.length)(H:∀h',OB D h' l (gn.set k v)->(∀j,(∀a,l.a=some a->j≠a.block)->h' j=h j)->K h'):zg l i 1 λa=>stP a [.bool v] K h:=by
 unfold OB at ho
 rw[zd5]at ho
 refine zv3 (c:=λz:Bool=>[bc z]) (n:=1) (λ_=>rfl) (by decide) k ho hi hk rfl λh' h1 h2=>H h' ?_ h2
 unfold OB
 rw[zd5];exact h1
theorem zif{α:Type}{f:α->Value}{x:α}:∀n,ye n [f x]=(List.replicate n x).map f
 | 0=>rfl
 | n+1=>by
   have:=zif (f:=f) (x:=x) n
   unfold ye at this |-
   rw[List.replicate_succ,List.flatten_cons,this,List.replicate_succ,List.map_cons]
   rfl
theorem Z8w{h':Hp}{n1 n2:Nat}{cs1 cs2:List Value}(h1:Own D h n1 l cs1)(h2:Own h h' n2 m cs2):Apt l m:=λa b ha hb hh=>by
 have h3:=Z4r h2 hb
 obtain⟨_,_,_,g4⟩:=h1
 rw[ha]at g4
 obtain⟨_,_,_,x,g5,_⟩:=g4
 rw[<-hh,g5]at h3;cases h3
def z6p(es:List (Int×Int))(T:List Int)(N:Nat):List Int:=(List.range N).map λi:Nat=>((V8 es T (i:Int):Nat):Int)
theorem zcr{es:List (Int×Int)}{T:List Int}{N i:Nat}(hi:i<N):(z6p es T N)[i]?=some ((V8 es T (i:Int):Nat):Int):=by
 unfold z6p
 rw[List.getElem?_map,List.getElem?_range hi]
 rfl
theorem Ve{es:List (Int×Int)}{T:List Int}{N:Nat}:(z6p es T N).length=N:=by simp[z6p]
theorem zys{es:List (Int×Int)}{T:List Int}{N:Nat}{e:Int×Int}(hn:¬(e.1∈T/\e.2∈T)):z6p (es++[e]) T N=z6p es T N:=by
 unfold z6p
 refine List.map_congr_left λi _=>?_
 rw[zjw,if_neg (λhh=>hn ⟨hh.1,hh.2.1⟩)]
 rfl
theorem Z89{es:List (Int×Int)}{T:List Int}{N a b:Nat}(ha:a<N)(hb:b<N)(hab:a≠b)(hT:(a:Int)∈T/\(b:Int)∈T) :
 ((z6p es T N).set a (((V8 es T (a:Int):Nat):Int)+1)).set b (((V8 es T (b:Int):Nat):Int)+1)=z6p (es++[((a:Int),(b:Int))]) T N:=by
 refine List.ext_getElem? λi=>?_
 rcases Nat.lt_or_ge i N with h1 | h1
 . rw[zcr h1,zjw]
   simp only[hT.1,hT.2,true_and]
   rw[List.getElem?_set]
   by_cases hib:b=i
   . subst hib
     rw[if_pos rfl,if_pos (by simp[Ve];exact h1),if_pos (.inr rfl)]
     rfl
   . rw[if_neg hib,List.getElem?_set]
     by_cases hia:a=i
     . subst hia
       rw[if_pos rfl,if_pos (by simp[Ve];exact h1),if_pos (.inl rfl)]
       rfl
     . rw[if_neg hia,zcr h1,if_neg (by omega)]
       rfl
 . rw[List.getElem?_eq_none (by simp[Ve];exact h1),List.getElem?_eq_none (by rw[Ve];exact h1)]
theorem zpy(hg:LR a2c 2 A2P h g.edges es)(hlen:es.length<=1000000)(H0:∀h',h.le h'->¬GV g.n es->Ks zf h')(H:∀y T h',h.le h'->GV g.n es->IL h' y T->IsCore g.n.toNat es T->Ks y h'):zc (F.z8e g) Ks h:=by
 refine zd (λy h'=>(¬GV g.n es/\y=zf)\/(GV g.n es/\∃T,IL h' y T/\IsCore g.n.toNat es T)) (λK' hk=>?_) λy h' hl hb=>by
  rcases hb with ⟨h1,rfl⟩ | ⟨h1,T,h2,h3⟩
  . exact H0 h' hl h1
  . exact H y T h' hl h1 h2 h3
 unfold F.z8e
 refine Vk hg (by omega) λb h1 hl1 hb=>?_
 refine zp (λh2=>hk _ _ hl1 (.inl ⟨λhv=>(by rw[hb.2 hv]at h2;cases h2),rfl⟩)) (λh2=>?_)
 have hv:=hb.1 (by simpa using h2)
 obtain⟨N,hN⟩:∃N:Nat,g.n=N:=⟨g.n.toNat,by have:=hv.1.1;omega⟩
 have hN60:N<=60:=by have:=hv.1.2;omega
 rw[hN,show((N:Nat):Int).toNat=N from rfl]at hk
 rw[hN]at hv
 rw[hN]
 have hgl:=hg.len y9
 have hes:=hv.2.1
 refine zse (size:=1) N N rfl rfl (Nat.le_refl _) (by omega) (by omega) rfl λm2 h3 hm2 _ ho3=>?_
 have ho3:OB h1 h3 m2 (List.replicate N false):=by unfold OB;rw[<-zif];exact ho3
 refine zd3 (λf st h'=>∃gn:List Bool,OB h1 h' m2 gn/\gn.length=N/\(∀C:List Int,(∀x∈C,0<=x/\x<N)->(∀x∈C,3<=V8 es C x)->∀x∈C,x∈gl gn) /\
  (st.1=false->∀x∈gl gn,3<=V8 es (gl gn) x)/\zb9 gn*2+(if st.1=true then 1 else 0)<=f) (n0:=zb9 (List.replicate N false)*2+1)
  ⟨_,ho3,by simp,λC hC _ x hx=>?_,λhh=>(by cases hh),by simp⟩ ?_
 . obtain⟨c1,c2⟩:=hC x hx
   obtain⟨i,rfl⟩:∃i:Nat,x=i:=⟨x.toNat,by omega⟩
   rw[z0d (by simp;omega)]
   simp
 rintro f ⟨ch,_⟩ h4 ⟨gn,ho,hgn,hgr,hst,hf⟩ K2 hK2
 simp only at hst hf
 have hle4:=Hp.le_trans hl1 ho.1
 have hml:=ho.len
 refine zp (λh5=>?_) (λh5=>?_)
 . 
  simp only at h5
  rw[if_pos h5]at hf
  refine zse (size:=1) N N rfl rfl (Nat.le_refl _) (by omega) (by omega) rfl λm5 h6 hm5 _ ho6=>?_
  have ho6:OI h4 h6 m5 (z6p [] (gl gn) N):=by
   have e:z6p [] (gl gn) N=List.replicate N 0:=by
    unfold z6p
    refine List.ext_getElem (by simp) λi h1 h2=>?_
    simp[V8]
   unfold OI
   rw[e,<-zif];exact ho6
  refine Y0 (n:=es.length) (by omega) (λi h'=>OI h4 h' m5 (z6p (es.take i) (gl gn) N)) (by simpa using ho6) ?_
  intro q h7 hq ho7 k hk2
  have hle7:=Hp.le_trans hle4 ho7.dle
  have hob7:OB h1 h7 m2 gn:=Own.le ho ho7.dle
  refine ze (λh8=>?_) (λh8=>?_)
  . have hq':q<es.length:=by simp only at h8;omega
    have heq:=hes _ (List.getElem_mem hq')
    obtain⟨a,ha⟩:∃a:Nat,es[q].1=a:=⟨es[q].1.toNat,by omega⟩
    obtain⟨b,hb'⟩:∃b:Nat,es[q].2=b:=⟨es[q].2.toNat,by omega⟩
    have haN:a<N:=by omega
    have hbN:b<N:=by omega
    have hst:es.take (q+1)=es.take q++[es[q]]:=(List.take_append_getElem hq').symm
    refine zk (λ_ h'=>OI h4 h' m5 (z6p (es.take (q+1)) (gl gn) N)) (λ_ h' hh=>hk2 _ hq' hh) ?_
    refine(hg.le y9 hle7).get y9 q rfl hq' λa10 x hxx hcx=>⟨_,hcx 0 _ rfl,_,hcx 1 _ rfl,?_⟩
    obtain⟨x1,x2⟩:=hxx
    rw[x1,x2,ha,hb']
    have same:¬(es[q].1∈gl gn/\es[q].2∈gl gn)->OI h4 h7 m5 (z6p (es.take (q+1)) (gl gn) N):=λhn=>by rw[hst,zys hn];exact ho7
    refine hob7.get a rfl (by omega) ?_
    refine zp (λh9=>?_) (λh9=>same λhh=>?_)
    . refine hob7.get b rfl (by omega) ?_
      refine zp (λh10=>?_) (λh10=>same λhh=>?_)
      . have hT:(a:Int)∈gl gn/\(b:Int)∈gl gn:=⟨(z0d (by omega)).2 (by simpa using h9),(z0d (by omega)).2 (by simpa using h10)⟩
        have hdl:∀i,V8 (es.take q) (gl gn) i<=es.length:=λi=>Nat.le_trans Z88 (by rw[List.length_take];omega)
        have hga:∀{i:Nat} (hi:i<N) (hh:i<(z6p (es.take q) (gl gn) N).length),(z6p (es.take q) (gl gn) N)[i]=((V8 (es.take q) (gl gn) (i:Int):Nat):Int):=λhi hh=>by
         have:=zcr (es:=es.take q) (T:=gl gn) hi
         rw[List.getElem?_eq_getElem hh]at this
         exact Option.some.inj this
        refine ho7.il.get a rfl (by rw[Ve];exact haN) ?_
        rw[hga haN (by rw[Ve];exact haN)]
        have d1:=hdl (a:Int)
        have d2:=hdl (b:Int)
        rw[w64 (by omega)]
        refine ho7.set a rfl (by rw[Ve];exact haN) λh11 ho11=>?_
        refine ho11.il.get b rfl (by rw[List.length_set,Ve];exact hbN) ?_
        have hab:a≠b:=by omega
        rw[List.getElem_set_ne hab,hga hbN (by rw[Ve];exact hbN),w64 (by omega)]
        refine ho11.set b rfl (by rw[List.length_set,Ve];exact hbN) λh12 ho12=>?_
        show OI _ _ _ _
        rw[hst]
        have he2:es[q]=((a:Int),(b:Int)):=Prod.ext ha hb'
        rw[he2,<-Z89 haN hbN hab hT]
        exact ho12
      . rw[hb',z0d (by omega)]at hh
        rw[hh.2]at h10;cases h10
    . rw[ha,z0d (by omega)]at hh
      rw[hh.1]at h9;cases h9
  . have:q=es.length:=by simp only at h8;omega
    subst this
    rw[List.take_length]at ho7
    have hap:Apt m2 m5:=Z8w ho ho7
    have hod:OI h1 h7 m5 (z6p es (gl gn) N):=OI.base ho7 ho.1
    have hml7:=hob7.len
    refine yx (λst h'=>∃(i:Nat) (gn':List Bool),st.2.1=(i:Int)/\i<=N/\OB h1 h' m2 gn'/\OI h1 h' m5 (z6p es (gl gn) N)/\gn'.length=N /\
     (∀j (hj:j<N),i<=j->gn'.getD j true=gn.getD j true)/\(∀j (hj:j<N),gn'.getD j true=true->gn.getD j true=true\/V8 es (gl gn) (j:Int)<=2)/\(∀j (hj:j<N),gn.getD j true=true->gn'.getD j true=true) /\
     (∀j (hj:j<N),j<i->gn'.getD j true=false->3<=V8 es (gl gn) (j:Int))/\(st.1=false->gn'=gn)/\(st.1=true->zb9 gn'<zb9 gn)/\zb9 gn'<=zb9 gn) (λst=>(N-st.2.1).toNat)
     ⟨0,gn,rfl,by omega,hob7,hod,hgn,λj hj _=>rfl,λj hj hh=>.inl hh,λj hj hh=>hh,λj hj hji=>by omega,λ_=>rfl,λhh=>(by cases hh),Nat.le_refl _⟩ ?_
    clear hob7 hod ho7 hk2
    rintro⟨c9,i9,_⟩ h9 ⟨i,gn',hi9,hi,hob,hod,hgn',r1,r2,r3,r4,r5,r6,r7⟩
    simp only at hi9
    subst hi9
    have hobl:=hob.len
    refine ze (λh10=>?_) (λh10=>?_)
    . have hi':i<N:=by simp only at h10;omega
      have hcur:=r1 i hi' (Nat.le_refl _)
      rw[Q9 (by omega)]at hcur
      refine zk (λs h'=>∃gn'':List Bool,OB h1 h' m2 gn''/\OI h1 h' m5 (z6p es (gl gn) N)/\gn''.length=N /\
       (∀j (hj:j<N),i+1<=j->gn''.getD j true=gn.getD j true)/\(∀j (hj:j<N),gn''.getD j true=true->gn.getD j true=true\/V8 es (gl gn) (j:Int)<=2)/\(∀j (hj:j<N),gn.getD j true=true->gn''.getD j true=true) /\
       (∀j (hj:j<N),j<i+1->gn''.getD j true=false->3<=V8 es (gl gn) (j:Int))/\(s.1=false->gn''=gn)/\(s.1=true->zb9 gn''<zb9 gn)/\zb9 gn''<=zb9 gn) ?_ ?_
      . rintro⟨c,_⟩ h11 ⟨gn'',q1,q2,q3,q4,q5,q6,q7,q8,q9,q10⟩
        exact⟨⟨i+1,gn'',by(try simp only);rw[w64 (by omega)];rfl,by omega,q1,q2,q3,q4,q5,q6,q7,q8,q9,q10⟩,by(try simp only);rw[w64 (by omega)];omega⟩
      . refine hob.get i rfl (by omega) ?_
        have hd3:∀j (hj:j<N),j<i+1->gn'.getD j true=false->(j=i->3<=V8 es (gl gn) (i:Int))->3<=V8 es (gl gn) (j:Int):=λj hj hji hh hc=>by
         rcases Nat.lt_or_ge j i with h1 | h1
         . exact r4 j hj h1 hh
         . have:j=i:=by omega
           subst this;exact hc rfl
        refine zp (λh11=>?_) (λh11=>⟨gn',hob,hod,hgn',λj hj hij=>r1 j hj (by omega),r2,r3,λj hj hji hh=>hd3 j hj hji hh λe=>?_,r5,r6,r7⟩)
        . refine hod.il.get i rfl (by rw[Ve];exact hi') ?_
          have hgi:(z6p es (gl gn) N)[i]'(by rw[Ve];exact hi')=((V8 es (gl gn) (i:Int):Nat):Int):=by
           have:=zcr (es:=es) (T:=gl gn) hi'
           rw[List.getElem?_eq_getElem (by rw[Ve];exact hi')]at this
           exact Option.some.inj this
          rw[hgi]
          have hfal:gn'[i]'(by omega)=false:=by simpa using h11
          refine ze (λh12=>?_) (λh12=>⟨gn',hob,hod,hgn',λj hj hij=>r1 j hj (by omega),r2,r3,λj hj hji hh=>hd3 j hj hji hh λe=>by have h12:¬((V8 es (gl gn) (i:Int):Nat):Int)<=2:=h12;omega,r5,r6,r7⟩)
          have h12:((V8 es (gl gn) (i:Int):Nat):Int)<=2:=h12
          refine hob.set i rfl (by omega) λh13 hob13 hs13=>?_
          have hod13:OI h1 h13 m5 (z6p es (gl gn) N):=Z4s hod hap hob13.1 hs13
          have hcs:=zyk (gn:=gn') (i:=i) (by omega) hfal
          have gd:∀j,(gn'.set i true).getD j true=if j=i then true else gn'.getD j true:=λj=>by
           rw[List.getD_eq_getElem?_getD,List.getElem?_set]
           by_cases hji:i=j
           . subst hji
             rw[if_pos rfl,if_pos (by omega),if_pos rfl]
             rfl
           . rw[if_neg hji,if_neg (λh=>hji h.symm),List.getD_eq_getElem?_getD]
          refine⟨gn'.set i true,hob13,hod13,by simpa using hgn',λj hj hij=>?_,λj hj hh=>?_,λj hj hh=>?_,λj hj hji hh=>?_,λhh=>(by cases hh),λ_=>by omega,by omega⟩
          . rw[gd,if_neg (by omega)];exact r1 j hj (by omega)
          . rw[gd]at hh
            split at hh
            . rename_i e;subst e;exact .inr (by omega)
            . exact r2 j hj hh
          . rw[gd]
            split
            . rfl
            . exact r3 j hj hh
          . rw[gd]at hh
            split at hh
            . cases hh
            . exact hd3 j hj hji hh λe=>by rename_i e2;exact absurd e e2
        . subst e
          have hh2:gn'[j]'(by omega)=false:=by rw[Q9 (by omega)]at hh;exact hh
          rw[hh2]at h11;cases h11
    . have hiN:i=N:=by simp only at h10;omega
      subst hiN
      have sub:∀x,x∈gl gn'->x∈gl gn:=λx hx=>by
       obtain⟨j,rfl,hj,hg2⟩:=zek.1 hx
       rw[z0d (by omega)]
       cases hgj:gn[j]'(by omega)with
       | false=>rfl
       | true=>
         have:=r3 j (by omega) (by rw[Q9 (by omega)];exact hgj)
         rw[Q9 (by omega),hg2]at this;cases this
      have hgr':∀C:List Int,(∀x∈C,0<=x/\x<i)->(∀x∈C,3<=V8 es C x)->∀x∈C,x∈gl gn':=λC hC hC3 x hx=>by
       have hx2:=hgr C hC hC3 x hx
       obtain⟨j,rfl,hj,hg2⟩:=zek.1 hx2
       rw[z0d (by omega)]
       cases hgj:gn'[j]'(by omega)with
       | false=>rfl
       | true=>
         rcases r2 j (by omega) (by rw[Q9 (by omega)];exact hgj)with h1 | h1
         . rw[Q9 (by omega),hg2]at h1;cases h1
         . exact absurd hx (zwe hC3 (hgr C hC hC3) h1)
      cases hc:c9 with
      | false=>
        have e:=r5 hc
        subst e
        refine hK2 (zb9 gn'*2) _ _ (by omega) ⟨gn',hob,hgn,hgr',λ_ x hx=>?_,by simp⟩
        obtain⟨j,rfl,hj,hg2⟩:=zek.1 hx
        exact r4 j (by omega) (by omega) (by rw[Q9 (by omega)];exact hg2)
      | true=>
        have e:=r6 hc
        exact hK2 (zb9 gn'*2+1) _ _ (by omega) ⟨gn',hob,hgn',hgr',λhh=>(by cases hh),by simp⟩
 . simp only at h5
   have hdeg:=hst h5
   refine Yt (n:=N) (by omega) (λi y h'=>OI h4 h' y ((gl gn).filter λx=>decide (x<i))) (by
    have e:(gl gn).filter (λx=>decide (x<((0:Nat):Int)))=[]:=by
     rw[List.filter_eq_nil_iff]
     intro x hx
     obtain⟨j,rfl,_⟩:=zek.1 hx
     simp
    rw[e];exact OI.nil) ?_
   intro i y h6 hi ho6 k hk2
   have hob6:OB h1 h6 m2 gn:=Own.le ho ho6.dle
   have hob6l:=hob6.len
   refine ze (λh7=>?_) (λh7=>?_)
   . have hi':i<N:=by simp only at h7;omega
     have hstep:(gl gn).filter (λx=>decide (x<((i+1:Nat):Int)))=(gl gn).filter (λx=>decide (x<(i:Int)))++(if gn[i]'(by omega)=false then [(i:Int)]else []):=by
      have key:∀n:Nat,(gl gn).filter (λx=>decide (x<(n:Int)))=((List.range gn.length).filter λj=>!(gn.getD j true)&&decide (j<n)).map λj:Nat=>(j:Int):=λn=>by
       unfold gl
       rw[List.filter_map,List.filter_filter]
       congr 1
       refine List.filter_congr λj _=>?_
       simp only[Function.comp_apply]
       rw[Bool.and_comm]
       congr 1
       simp
      have key2:∀n:Nat,n<=gn.length->(List.range gn.length).filter (λj=>!(gn.getD j true)&&decide (j<n))=(List.range n).filter λj=>!(gn.getD j true):=λn hn=>by
       have e1:(List.range gn.length).filter (λj=>!(gn.getD j true)&&decide (j<n))=((List.range gn.length).filter λj=>decide (j<n)).filter λj=>!(gn.getD j true):=by rw[List.filter_filter]
       have e2:(List.range gn.length).filter (λj=>decide (j<n))=List.range n:=by
        obtain⟨d,hd⟩:∃d,gn.length=n+d:=⟨gn.length-n,by omega⟩
        rw[hd,List.range_add,List.filter_append]
        have f1:(List.range n).filter (λj=>decide (j<n))=List.range n:=by
         rw[List.filter_eq_self];intro j hj;exact decide_eq_true (List.mem_range.1 hj)
        have f2:((List.range d).map (n+·)).filter (λj=>decide (j<n))=[]:=by
         rw[List.filter_eq_nil_iff];intro j hj
         obtain⟨q,_,rfl⟩:=List.mem_map.1 hj
         simp
        rw[f1,f2,List.append_nil]
       rw[e1,e2]
      rw[key,key,key2 _ (by omega),key2 _ (by omega),List.range_succ,List.filter_append,List.map_append]
      congr 1
      have hgi:gn.getD i true=gn[i]'(by omega):=Q9 (by omega)
      rw[zs4,hgi]
      cases hg2:gn[i]'(by omega)<;>rfl
     have hfl:((gl gn).filter λx=>decide (x<(i:Int))).length<=60:=by
      refine Nat.le_trans (List.length_filter_le _ _) ?_
      unfold gl
      rw[List.length_map]
      refine Nat.le_trans (List.length_filter_le _ _) ?_
      rw[List.length_range];omega
     refine zk (λs h'=>OI h4 h' s.1 ((gl gn).filter λx=>decide (x<((i+1:Nat):Int)))) (λs h' hs=>hk2 _ _ hi' hs) ?_
     refine hob6.get i rfl (by omega) ?_
     refine zp (λh8=>?_) (λh8=>?_)
     . refine ho6.app (by omega) λw h9 ho9=>?_
       show OI _ _ _ _
       rw[hstep,if_pos (by simpa using h8)];exact ho9
     . show OI _ _ _ _
       rw[hstep,if_neg (by simpa using h8),List.append_nil];exact ho6
   . have:i=N:=by simp only at h7;omega
     subst this
     have e:(gl gn).filter (λx=>decide (x<(i:Int)))=gl gn:=by
      rw[List.filter_eq_self]
      intro x hx
      obtain⟨j,rfl,hj,_⟩:=zek.1 hx
      exact decide_eq_true (by omega)
     rw[e]at ho6
     exact hk _ _ (Hp.le_trans hle4 ho6.dle) (.inr ⟨hv,gl gn,ho6.il,Zd3 hgn,hdeg,hgr⟩)
end
end Den
end

section
namespace Den
open Go Iv Lx
section
variable {h : Hp} {Kb : Bool → Hp → Prop}
theorem zyv{K:TGraph->Hp->Prop}(H:∀s h',h.le h'->LR a2c 2 A2P h' s z6q->K ⟨4,s⟩ h'):zc F.z13 K h:=by
 refine zd (λg h'=>∃s,g=⟨4,s⟩/\LR a2c 2 A2P h' s z6q) (λK' hk=>?_) λg h' hl hg=>by obtain⟨s,rfl,hs⟩:=hg;exact H s h' hl hs
 unfold F.z13
 refine zc4 2 5 rfl λp1 h1 hl1 hr=>hk _ _ hl1 ⟨_,rfl,EL.lr ⟨?_,Nat.le_refl _⟩⟩
 exact hr
theorem zxc{n:Int}{es:List (Int×Int)}{t:PTr}(hr:Reach (es.map lfE) [t]):t.right/\t.bars.Perm es:=by
 obtain⟨h1,h2⟩:=hr.keep
 refine⟨h1 t (List.mem_cons_self ..),?_⟩
 have e:[t].flatMap PTr.bars=t.bars:=by simp
 rwa [e]at h2
theorem zgn(ht:GT h)(H:∀h',h.le h'->Kb true h'):zc F.z2l Kb h:=by
 refine zd (λb h'=>b=true) (λK' hk=>?_) λb h' hl hb=>by subst hb;exact H h' hl
 unfold F.z2l
 have hh:=Zc8
 have hgv:GV 4 z6q:=hh.gv
 have hok:=GV.okE (m:=4) hgv
 refine zyv λs h1 hl1 hs1=>?_
 refine zc4 2 4 rfl λp2 h2 hl2 hr2=>?_
 have hat:AT h2 ⟨some p2,4,4⟩ Zc7:=⟨hr2,by decide⟩
 have hs2:=hs1.le y9 hl2
 refine z9s (G:=⟨4,s⟩) (n:=4) hs2 rfl (by decide) (by decide) hok hat rfl λy h3 hl3 hy=>?_
 refine zkk hy hh.indep (by decide) (by decide) (by decide) (by decide) λy2 h4 hl4 hy2=>?_
 have hs4:=hs2.le y9 (Hp.le_trans hl3 hl4)
 refine zql (G:=⟨4,s⟩) hs4 hgv (by show(4:Int)<=12;omega) (λX h5 t hl5 hX hre hpt=>?_) (λX e h5 ts hl5 he hre hn hne=>?_)
 . have hs5:=hs4.le y9 hl5
   obtain⟨tr,tp⟩:=zxc (n:=4) hre
   refine zz (λ_=>?_) (λhh=>absurd rfl hh)
   refine zz (λ_=>?_) (λhh=>absurd (by simp only;rw[hy2];rfl) hh)
   refine zih (G:=⟨4,s⟩) hs5 hgv hh.sp rfl λh6 hl6=>y7 rfl ?_
   refine zz (λ_=>?_) (λhh=>absurd rfl hh)
   refine zpc (G:=⟨4,s⟩) (t:=t) (hs5.le y9 hl6) hgv (by show(4:Int)<=12;omega) (hX.le hl6) tr tp hpt λh7 hl7=>y7 rfl ?_
   have hle7:h2.le h7:=Hp.le_trans hl3 (Hp.le_trans hl4 (Hp.le_trans hl5 (Hp.le_trans hl6 hl7)))
   refine zed (G:=⟨4,s⟩) (n:=4) (hs2.le y9 hle7) rfl (by decide) (by decide) (hat.le hle7) rfl λsk S h8 hl8 hsk hfs=>?_
   obtain⟨k1,k2,k3⟩:=Zca hfs
   have hle8:=Hp.le_trans (Hp.le_trans hl1 hl2) (Hp.le_trans hle7 hl8)
   refine zbp hsk k1 (ht.le hle8) λb h9 hl9 hb=>?_
   rw[hb.2 ⟨k2,k3⟩]
   refine y7 rfl ?_
   refine zpy (g:=⟨4,s⟩) (hs2.le y9 (Hp.le_trans hle7 (Hp.le_trans hl8 hl9))) (by decide) (λh10 hl10 hng=>absurd hgv hng) λy T h10 hl10 _ hT hc=>hk _ _ (Hp.le_trans hle8 (Hp.le_trans hl9 hl10)) ?_
   have e:=zyw hc
   subst e
   have:=hT.len
   rw[this];rfl
 . obtain⟨t,rfl,h6⟩:=Zc9 hre hn
   exact absurd h6 (hne t rfl)
end
end Den
end

section
namespace Den
open Go Iv Lx
section
variable {h : Hp} {es : List (Int × Int)} {g : TGraph} {K : Bool → Hp → Prop}
end
end Den
end

section
namespace Den
open Go Iv Lx
def zw4(p:Int×Int×Int×Int):List Value:=[.int .i8 p.1,.int .i8 p.2.1,.int .i8 p.2.2.1,.int .i8 p.2.2.2]
def ST(h:Hp)(l:Sl)(ps:List (Int×Int×Int×Int)):Prop:=Rd h 4 l (ps.flatMap zw4)
theorem u8w(x:Int):∃c:Nat,i64.wrap (u8.wrap x)=(c:Int)/\c<=255:=by
 have h:0<=u8.wrap x/\u8.wrap x<=255:=by
  simp[IntKind.wrap,IntKind.signed,IntKind.bits];omega
 refine⟨(u8.wrap x).toNat,?_,by omega⟩
 rw[w64 (by omega)];omega
theorem zit(a b:Nat):((a:Int)).tmod (b:Int)=((a % b:Nat):Int):=(Int.ofNat_tmod a b).symm
theorem Z4q{n a m:Nat}(ha:a<n)(hm:m+1<n):(a+1+m) % n<n/\a≠(a+1+m) % n:=by
 refine⟨Nat.mod_lt _ (by omega),?_⟩
 rcases Nat.lt_or_ge (a+1+m) n with h | h
 . rw[Nat.mod_eq_of_lt h];omega
 . rw[Nat.mod_eq_sub_mod h,Nat.mod_eq_of_lt (by omega)];omega
theorem Z6o(x:Int):-49<=x.tmod 50/\x.tmod 50<=49:=by
 have:=Int.tmod_lt_of_pos x (show(0:Int)<50 by decide)
 have h2:=Int.lt_tmod_of_pos x (show(0:Int)<50 by decide)
 omega
section
variable {h : Hp} {K : Bool → Hp → Prop}
theorem AT.x{l:Sl}{ps:List (Int×Int)}(ha:AT h l ps)(v:Nat)(hv:v<ps.length){K:Int->Prop}(H:K (ps.getD v (0,0)).1):zg l (v:Int) 2 λa=>ldL (.int .i8) (a.add 0) K h:=by
 have e:ps.getD v (0,0)=ps[v]:=by rw[List.getD_eq_getElem?_getD,List.getElem?_eq_getElem hv];rfl
 rw[e]at H
 exact zde (c:=zcu) (n:=2) (λ_=>rfl) (by decide) ha.1 v rfl hv λa hc=>⟨_,hc 0 _ (by decide) rfl,H⟩
theorem AT.y{l:Sl}{ps:List (Int×Int)}(ha:AT h l ps)(v:Nat)(hv:v<ps.length){K:Int->Prop}(H:K (ps.getD v (0,0)).2):zg l (v:Int) 2 λa=>ldL (.int .i8) (a.add 1) K h:=by
 have e:ps.getD v (0,0)=ps[v]:=by rw[List.getD_eq_getElem?_getD,List.getElem?_eq_getElem hv];rfl
 rw[e]at H
 exact zde (c:=zcu) (n:=2) (λ_=>rfl) (by decide) ha.1 v rfl hv λa hc=>⟨_,hc 1 _ (by decide) rfl,H⟩
theorem AT.rng{l:Sl}{ps:List (Int×Int)}(ha:AT h l ps)(v:Nat)(hv:v<ps.length):(-128<=(ps.getD v (0,0)).1/\(ps.getD v (0,0)).1<=127)/\-128<=(ps.getD v (0,0)).2/\(ps.getD v (0,0)).2<=127:=by
 have e:ps.getD v (0,0)=ps[v]:=by rw[List.getD_eq_getElem?_getD,List.getElem?_eq_getElem hv];rfl
 rw[e]
 have:=ha.2 _ (List.getElem_mem hv)
 omega
theorem zut{a b:Int}(ha:-1000<=a/\a<=1000)(hb:-1000<=b/\b<=1000):-1000000<=a*b/\a*b<=1000000:=by
 have h1:0<=(1000-a)*(1000+b):=Int.mul_nonneg (by omega) (by omega)
 have h2:0<=(1000+a)*(1000-b):=Int.mul_nonneg (by omega) (by omega)
 have h3:0<=(1000-a)*(1000-b):=Int.mul_nonneg (by omega) (by omega)
 have h4:0<=(1000+a)*(1000+b):=Int.mul_nonneg (by omega) (by omega)
 rw[Int.sub_mul,Int.mul_add,Int.mul_add]at h1
 rw[Int.add_mul,Int.mul_sub,Int.mul_sub]at h2
 rw[Int.sub_mul,Int.mul_sub,Int.mul_sub]at h3
 rw[Int.add_mul,Int.mul_add,Int.mul_add]at h4
 omega
theorem zwn{steps:Sl}{sts:List (Int×Int×Int×Int)}(hst:ST h steps sts)(ht:GT h)(hk:∀h',h.le h'->K true h'):F.z3z steps K h:=by
 have hsl:steps.len=sts.length:=by
  have:=hst.1
  rw[Y4 (c:=zw4) (n:=4) (λ_=>rfl)]at this
  exact Nat.eq_of_mul_eq_mul_right (by decide) this
 unfold F.z3z
 refine zk (λ_ h'=>h.le h'/\sts.length<=5) ?_ ?_
 . rintro _ h1 ⟨hl1,h5⟩
   refine(Bk.start (h:=h1)).newD λb3 D2 h2 _ hl2 hc3 hB2=>?_
   refine hB2.newF λb4 h3 hb4 hd4 hB3=>?_
   have hE0:EL D2 ⟨some ⟨b3,0,none⟩,1,1⟩ [(0,1)]:=⟨z0g (λi v hv=>by rw[z0l,Nat.zero_add];exact hc3 i v hv) rfl,Nat.le_refl _⟩
   have ho0:OS (z06 z73 b4 ([(0,0),(3,1)].flatMap zcu)) 2 ⟨some ⟨b4,0,none⟩,2,2⟩ ([(0,0),(3,1)].flatMap zcu):=OS.blk rfl
   refine zoj (n:=sts.length) (by omega) (λi g at_ h'=>∃(n:Nat) (es ps:List (Int×Int)) (D:Hp) (f:BM),g.1=(n:Int)/\n<=2+i/\h1.le D/\Bk D h' f/\EL D g.2.1 es/\OS f 2 at_ (ps.flatMap zcu)/\(∀p∈ps,-128<=p.1/\p.1<=127/\-128<=p.2/\p.2<=127)/\HI n es ps)
    ⟨2,_,_,D2,_,rfl,Nat.le_refl _,hl2,hB3,hE0,ho0,by decide,HI.start⟩ ?_
   rintro i ⟨gn,ge,_⟩ at_ h4 hi ⟨n,es,ps,D,f,rfl,hni,hD,hB,hE,ho,hr,hH⟩ kk hkk
   have hn2:=hH.n2
   have hpl:=hH.alen
   have hat:AT h4 at_ ps:=⟨ho.rd hB,hr⟩
   have hle4:h.le h4:=Hp.le_trans hl1 (Hp.le_trans hD hB.le)
   refine ze (λh6=>?_) (λh6=>?_)
   . have hi':i<sts.length:=by simp only at h6;omega
     refine zk (λs h'=>∃(n:Nat) (es ps:List (Int×Int)) (D:Hp) (f:BM),s.1.1=(n:Int)/\n<=2+(i+1)/\h1.le D/\Bk D h' f/\EL D s.1.2.1 es/\OS f 2 s.2.1 (ps.flatMap zcu)/\(∀p∈ps,-128<=p.1/\p.1<=127/\-128<=p.2/\p.2<=127)/\HI n es ps) (λs h' hs=>hkk _ _ _ hi' hs) ?_
     refine zde (c:=zw4) (n:=4) (λ_=>rfl) (by decide) (hst.le hle4) i rfl hi' λa9 hc=>⟨_,hc 0 _ (by decide) rfl,_,hc 1 _ (by decide) rfl,_,hc 2 _ (by decide) rfl,_,hc 3 _ (by decide) rfl,?_⟩
     obtain⟨q0,hq0⟩:∃q,q=sts[i].1:=⟨_,rfl⟩
     obtain⟨q1,hq1⟩:∃q,q=sts[i].2.1:=⟨_,rfl⟩
     obtain⟨q2,hq2⟩:∃q,q=sts[i].2.2.1:=⟨_,rfl⟩
     obtain⟨q3,hq3⟩:∃q,q=sts[i].2.2.2:=⟨_,rfl⟩
     rw[<-hq0,<-hq1,<-hq2,<-hq3]
     obtain⟨c0,w0,b0⟩:=u8w q0
     obtain⟨c1,w1,b1⟩:=u8w q1
     have wn:i64.wrap ((n:Int)-1)=((n-1:Nat):Int):=by rw[w64 (by omega)];omega
     obtain⟨a,ha⟩:∃a,a=c0 % n:=⟨_,rfl⟩
     obtain⟨m,hm⟩:∃m,m=c1 % (n-1):=⟨_,rfl⟩
     have han:a<n:=by rw[ha];exact Nat.mod_lt _ (by omega)
     have hmn:m+1<n:=by have:m<n-1:=by { rw[hm];exact Nat.mod_lt _ (by omega) };omega
     obtain⟨hbn,hab⟩:=Z4q han hmn
     obtain⟨b,hb⟩:∃b,b=(a+1+m) % n:=⟨_,rfl⟩
     rw[<-hb]at hbn hab
     have t0:((c0:Int)).tmod (n:Int)=(a:Int):=by rw[zit,ha]
     have t1:((c1:Int)).tmod ((n-1:Nat):Int)=(m:Int):=by rw[zit,hm]
     have wa:i64.wrap ((a:Int)+1)=((a+1:Nat):Int):=by rw[w64 (by omega)];omega
     have ws:i64.wrap (((a+1:Nat):Int)+(m:Int))=((a+1+m:Nat):Int):=by rw[w64 (by omega)];omega
     have tb:(((a+1+m:Nat):Int)).tmod (n:Int)=(b:Int):=by rw[zit,hb]
     simp only[w0,w1,wn,t0,t1,wa,ws,tb]
     refine⟨by omega,by omega,by omega,by decide,by decide,?_⟩
     refine hat.x b (by omega) (hat.x a (by omega) (hat.y a (by omega) (hat.y b (by omega) (hat.y a (by omega) (hat.x a (by omega) ?_)))))
     have ra:=hat.rng a (by omega)
     have rb:=hat.rng b (by omega)
     obtain⟨pa,hpa⟩:∃pa,pa=ps.getD a (0,0):=⟨_,rfl⟩
     obtain⟨pb,hpb⟩:∃pb,pb=ps.getD b (0,0):=⟨_,rfl⟩
     rw[<-hpa]at ra
     rw[<-hpb]at rb
     rw[<-hpa,<-hpb]
     have r2:=Z6o q2
     have r3:=Z6o q3
     obtain⟨x,hx⟩:∃x,x=q2.tmod 50:=⟨_,rfl⟩
     obtain⟨y,hy⟩:∃y,y=q3.tmod 50:=⟨_,rfl⟩
     rw[<-hx]at r2
     rw[<-hy]at r3
     rw[<-hx,<-hy]
     have v1:i64.wrap pa.1=pa.1:=w64 (by omega)
     have v2:i64.wrap pa.2=pa.2:=w64 (by omega)
     have v3:i64.wrap pb.1=pb.1:=w64 (by omega)
     have v4:i64.wrap pb.2=pb.2:=w64 (by omega)
     have v5:i64.wrap x=x:=w64 (by omega)
     have v6:i64.wrap y=y:=w64 (by omega)
     have v7:i64.wrap (pb.1-pa.1)=pb.1-pa.1:=w64 (by omega)
     have v8:i64.wrap (y-pa.2)=y-pa.2:=w64 (by omega)
     have v9:i64.wrap (pb.2-pa.2)=pb.2-pa.2:=w64 (by omega)
     have v10:i64.wrap (x-pa.1)=x-pa.1:=w64 (by omega)
     have m1:=zut (a:=pb.1-pa.1) (b:=y-pa.2) (by omega) (by omega)
     have m2:=zut (a:=pb.2-pa.2) (b:=x-pa.1) (by omega) (by omega)
     have v11:i64.wrap ((pb.1-pa.1)*(y-pa.2))=(pb.1-pa.1)*(y-pa.2):=w64 (by omega)
     have v12:i64.wrap ((pb.2-pa.2)*(x-pa.1))=(pb.2-pa.2)*(x-pa.1):=w64 (by omega)
     have v13:i64.wrap ((pb.1-pa.1)*(y-pa.2)-(pb.2-pa.2)*(x-pa.1))=(pb.1-pa.1)*(y-pa.2)-(pb.2-pa.2)*(x-pa.1):=w64 (by omega)
     simp only[v1,v2,v3,v4,v5,v6,v7,v8,v9,v10,v11,v12,v13]
     refine zz (λ_=>⟨n,es,ps,D,f,rfl,by omega,hD,hB,hE,ho,hr,hH⟩) (λhne=>?_)
     refine hB.call (K1:=λv D'=>∃s es',v=(⟨((n+1:Nat):Int),s⟩,0)/\EL D' s es'/\GV ((n+1:Nat):Int) es'/\es'.Perm (es++[((a:Int),(n:Int)),((b:Int),(n:Int))])) (zhe (G:=⟨(n:Int),ge⟩) hE rfl hH.gv (by omega) han hbn hab λs es' h' _ g1 g2 g3=>⟨s,es',rfl,g1,g2,g3⟩) λv D7 h7 hD7 hB7 hv=>?_
     obtain⟨s,es',rfl,g1,g2,g3⟩:=hv
     refine yk (λhh=>absurd rfl hh) (λ_=>?_)
     have hal:=hat.len
     refine ho.app hB7 (n:=1) (new:=zcu (x,y)) rfl rfl rfl (by show(at_.len+1)*2<=_;omega) (by show at_.len+1<=_;omega) λw f8 h8 hB8 ho8 _ _=>⟨n+1,es',ps++[(x,y)],D7,f8,rfl,by omega,Hp.le_trans hD hD7,hB8,g1,?_,λp hp=>?_,hH.step han hbn hab g3 g2 ?_⟩
     . rw[List.flatMap_append]
       have e:[(x,y)].flatMap zcu=zcu (x,y):=rfl
       rw[e];exact ho8
     . rcases List.mem_append.1 hp with hp | hp
       . exact hr p hp
       . rw[List.mem_singleton.1 hp];simp only;omega
     . rw[<-hpa,<-hpb];exact hne
   . have hsp:=hH.sp
     have hgv:=hH.gv
     have hE4:=(hE.le hB.le).lr
     have hlen:=hH.len
     have hel:ge.len=es.length:=hE.len
     refine z9s (G:=⟨(n:Int),ge⟩) (n:=n) hE4 rfl (by omega) (by omega) hgv.okE hat hpl λy h7 hl7 hy=>?_
     refine zkk hy hH.indep (by omega) (by omega) (by omega) (by omega) λy2 h8 hl8 hy2=>?_
     have w1:i64.wrap (2*(n:Int))=2*(n:Int):=w64 (by omega)
     have w2:i64.wrap (2*(n:Int)-3)=2*(n:Int)-3:=w64 (by omega)
     simp only[w1,w2,hy2,hel]
     refine zz (λ_=>?_) (λhh=>absurd rfl hh)
     refine zz (λ_=>?_) (λhh=>absurd (by omega) hh)
     refine zz (λ_=>?_) (λhh=>absurd (by omega) hh)
     have hE8:=hE4.le y9 (Hp.le_trans hl7 hl8)
     refine zih (G:=⟨(n:Int),ge⟩) hE8 hgv hsp (by show(es.length:Int)+3=2*(n:Int);omega) λh9 hl9=>y7 rfl ?_
     refine zib (G:=⟨(n:Int),ge⟩) (hE8.le y9 hl9) hgv hsp λh10 hl10=>?_
     exact hk _ (Hp.le_trans hle4 (Hp.le_trans hl7 (Hp.le_trans hl8 (Hp.le_trans hl9 hl10))))
 . refine zgn ht λh1 hl1=>zt rfl ?_
   refine ze (λh2=>zgn (ht.le hl1) λh3 hl3=>hk _ (Hp.le_trans hl1 hl3)) (λh2=>⟨hl1,by omega⟩)
end
end Den
end

section
namespace Den
open Go Iv Lx Go.Proofs
open Go.ChangeShapes Go.WideShapes Go.ChangeAt Go.RowKit
section
variable {H : Type} {enc : TypeId × Value → H} {w : World} {cs : List Value}
theorem Ziy:Tryz.prog.cellsOf 59=4:=by kernel_rfl
theorem Zkq:Tryz.prog.cellsOf 28=1:=by kernel_rfl
set_option maxRecDepth 10000 in
theorem Zdd(h:Okt enc Tryz.prog w 59 cs):∃b:Int×Int×Int×Int,cs=zw4 b:=by
 obtain⟨hl,hf⟩:=h.items Tryz.underlying59
 rw[Ziy]at hl
 have h0:=hf 0 (by decide)
 have h1:=hf 1 (by decide)
 have h2:=hf 2 (by decide)
 have h3:=hf 3 (by decide)
 rw[Zkq]at h0 h1 h2 h3
 obtain⟨a,e0,_⟩:=h0.int Tryz.underlying28
 obtain⟨b,e1,_⟩:=h1.int Tryz.underlying28
 obtain⟨c,e2,_⟩:=h2.int Tryz.underlying28
 obtain⟨d,e3,_⟩:=h3.int Tryz.underlying28
 have e0':(cs.drop 0).take 1=[Value.int .i8 a]:=by simpa using e0
 have e1':(cs.drop 1).take 1=[Value.int .i8 b]:=by simpa using e1
 have e2':(cs.drop 2).take 1=[Value.int .i8 c]:=by simpa using e2
 have e3':(cs.drop 3).take 1=[Value.int .i8 d]:=by simpa using e3
 exact⟨(a,b,c,d),Wb e0' (Wb e1' (Wb e2' (Wb e3' (zjs hl))))⟩
theorem Zar:∀{css:List (List Value)},(∀c∈css,∃b:Int×Int×Int×Int,c=zw4 b)->∃l:List (Int×Int×Int×Int),css.flatten=l.flatMap zw4
 | [],_=>⟨[],rfl⟩
 | c :: r,h=>by
   obtain⟨l,h1⟩:=Zar (css:=r) λx hx=>h x (List.mem_cons_of_mem _ hx)
   obtain⟨b,rfl⟩:=h c (by simp)
   exact⟨b :: l,by rw[List.flatten_cons,h1,List.flatMap_cons]⟩
theorem Zkz{s:Sl}(h:Okt enc Tryz.prog w 57 [Lf.sl.up s]):(∃T,ST (hpW w) s T)/\True:=by
 obtain⟨s',hs,h1,h2,css,h3,h4,h5⟩:=h.slice Tryz.underlying57
 have e:s=s':=by
  simp only[List.cons.injEq,and_true]at hs
  exact Lf.up_inj hs
 subst e
 obtain⟨l,g1⟩:=Zar λc hc=>Zdd (h4 c hc).2
 rw[Ziy,g1]at h5
 exact⟨⟨l,h5⟩,trivial⟩
end
end Den
end

noncomputable section
namespace Den
open Go
namespace STy
abbrev i:STy:=.leaf (.int .i64)
abbrev s:STy:=.leaf .sl
abbrev b:STy:=.leaf .bool
end STy
abbrev t2{α β:Type}(a:Ty α)(b:Ty β):Ty (α×β):=Ty.tup (.cons a (.cons b .nil)) (λx=>(x.1,x.2,())) (λy=>(y.1,y.2.1)) (λ_=>rfl) (λ_=>rfl)
abbrev t3{α β γ:Type}(a:Ty α)(b:Ty β)(c:Ty γ):Ty (α×β×γ):=Ty.tup (.cons a (.cons b (.cons c .nil))) (λx=>(x.1,x.2.1,x.2.2,())) (λy=>(y.1,y.2.1,y.2.2.1)) (λ_=>rfl) (λ_=>rfl)
namespace An
abbrev l:An:=.leaf
abbrev q(a:An):An:=.seq .leaf a
abbrev w:An:=.seq .leaf .leaf
abbrev s(a b:An):An:=.seq a b
abbrev c(a b:An):An:=.cond a b
abbrev b(a:An):An:=.block a
end An
abbrev az:ArgT Unit:=ArgT.nil
abbrev ac{α β:Type}(t:Ty α)(r:ArgT β):ArgT (α×β):=ArgT.cons t r
abbrev ai{β:Type}(r:ArgT β):ArgT (Int×β):=ArgT.cons (Ty.leaf (.int .i64)) r
abbrev asl{β:Type}(r:ArgT β):ArgT (Sl×β):=ArgT.cons (Ty.leaf .sl) r
abbrev ap{β:Type}(r:ArgT β):ArgT (Option Addr×β):=ArgT.cons (Ty.leaf .ptr) r
abbrev tb:Ty Bool:=Ty.leaf .bool
abbrev ti:Ty Int:=Ty.leaf (.int .i64)
abbrev ts:Ty Sl:=Ty.leaf .sl
abbrev tu:Ty Unit:=Ty.unit
abbrev cg(P:Program)(n:Nat)(tab:List (Nat×zl))(mutL:List Nat:=[])(rtL:List (Nat×Nat):=[])(locL:List Nat:=[]):Cfg:={ P:=P,n:=n,tab:=tab,mutL:=mutL,rtL:=rtL,locL:=locL }
def bd(fn:Func):Code:=match fn.body with | some c=>c | none=>.skip
section
variable {α ρ : Type} {A : ArgT α} {R : Ty ρ} {F : α → (ρ → Hp → Prop) → Hp → Prop} {g : Nat} {fn : Func}
theorem eo(C:Cfg)(an:An)(hf:C.P.funcs[g]?=some fn)(hC:Tab C C.tab)(hBk:z1t C.P C.backs:=by exact trivial)
 (hb:fn.body=some (bd fn):=by exact rfl) (hn:fn.ntmps=C.n:=by exact rfl) (hname:(fn.name == "runtime.NumGoroutine")=false:=by decide) (ha:∀a,Nat.ble (A.up a).length C.n=true:=by exact λ_=>rfl)
 (hF:∀a K D,zqz C fn (bd fn) an (A.up a) (λv h=>R.dn v λr=>K r h) D=F a K D:=by intro a K D;kernel_rfl):Entry C.P g (mkE A R F) false:=Z3u hC hBk hf hb hn hname ha hF
theorem eoM(C:Cfg)(an:An)(hf:C.P.funcs[g]?=some fn)(hC:Tab C C.tab)(hBk:z1t C.P C.backs:=by exact trivial)
 (hb:fn.body=some (bd fn):=by exact rfl) (hn:fn.ntmps=C.n:=by exact rfl) (hname:(fn.name == "runtime.NumGoroutine")=false:=by decide) (ha:∀a,Nat.ble (A.up a).length C.n=true:=by exact λ_=>rfl)
 (hF:∀a K D,zqz C fn (bd fn) an (A.up a) (λv h=>R.dn v λr=>K r h) D=F a K D:=by intro a K D;kernel_rfl):Entry C.P g (mkM A R F) true:=zw5 hC hBk hf hb hn hname ha hF
end
end Den
end

noncomputable section
set_option maxRecDepth 100000
namespace Den
open Go Go.Proofs.Tryz
noncomputable section
abbrev EnP(g:Nat)(F:zl)(m:Bool):Prop:=Entry prog g F m
noncomputable abbrev cgP(n:Nat)(tab:List (Nat×zl))(mutL:List Nat:=[])(rtL:List (Nat×Nat):=[])(locL:List Nat:=[]):Cfg:=cg prog n tab mutL rtL locL
end
def Zcx:zl:=mkE (asl az) ts λa=>F.z6d a.1
theorem Zjg:EnP 136 Zcx false:=eo (cgP 21 []) (.q (.s (.b (.loop [(0,.s)] (.join [] (.q (.c .l .l)) (.b .l)))) .w)) func136 trivial
def Zj6:zl:=mkE (ac (Ty.leaf (.int .u64)) az) ts λa=>F.z2j a.1
theorem Zl6:EnP 135 Zj6 false:=eo (cgP 10 [(136,Zcx)]) (.q .w) func135 ⟨Zjg,trivial⟩
def Zj7:zl:=mkE (ac tb (asl az)) qe λa=>F.Vy a.1 a.2.1
theorem Zl7:EnP 134 Zj7 false:=eo (cgP 15 [(136,Zcx)] [] [] [4]) (.q (.q .w)) func134 ⟨Zjg,trivial⟩
def Zj8:zl:=mkE (ai az) qe λa=>F.z1p a.1
theorem Zl8:EnP 60 Zj8 false:=eo (cgP 14 [(135,Zj6),(134,Zj7)] [] [] [2]) (.q (.s (.q (.c .w .l)) .w)) func60 ⟨Zl6,Zl7,trivial⟩
def Zcz:zl:=mkE (ai az) Qt λa=>F.W7 a.1
theorem Zjh:EnP 28 Zcz false:=eo (cgP 7 [(60,Zj8)] [] [] [2]) (.q .w) func28 ⟨Zl8,trivial⟩
def z6y:zl:=mkE (ac Xs (asl az)) z05 λa=>F.z23 a.1 a.2.1
theorem zdi:EnP 9 z6y false:=eo (cgP 60 [(28,Zcz)] [] [(10,2),(15,5),(34,5),(36,2),(45,5),(47,8),(49,8),(57,5)] [2,4,5,8,9,32,55]) (.q (.q (.s (.q (.b (.loop [(5,.box [.sl,.sl,.sl,.sl,.sl,.sl]),(12,.i)] (.q (.s (.c .l .l) (.s (.b (.q (.draw [0,1,2,3,4,5,6,7,9,10,11,12,13,14,8,15,16,17,18,19,20]))) .l)))))) (.s (.q (.b (.loop [(5,.box [.sl,.sl,.sl,.sl,.sl,.sl]),(39,.i)] (.q (.s (.c .l .l) (.s (.b (.q .w)) .l)))))) .w)))) func9 ⟨Zjh,trivial⟩
end Den
end

section
namespace Den
open Go Go.RowKit Go.Shelf
open Go.Proofs
attribute [local go_sem] Oper.semAt_some
set_option maxRecDepth 100000 in
set_option maxHeartbeats 2000000 in
theorem zya:zpw Tryz.prog 316 (.leaf (.int .u32)):=by
 refine⟨enters_of Tryz.func316 (by kernel_rfl) rfl,?_⟩
 rintro l ab ⟨xa,xl,xc⟩ J w hxl h0 hbox hround
 simp only at hxl h0 hbox hround
 have hb0:=hbox _ _ h0
 refine callsIn_of_wp Tryz.func316 rfl trivial ?_ rfl
 simp only[Tryz.ntmps316,List.size_toArray,List.length_cons,List.length_nil,Nat.reduceAdd,Nat.reduceSub,Array.replicate_succ,Array.replicate_zero,List.push_toArray,List.append_toArray,List.nil_append,List.cons_append]
 gi_wp2
 gi_loopw [3] (λi wr=>∃k:Nat,k<=xl/\i=.int .i64 ((k:Int)-1)/\J k wr) (λi _=>(RowKit.intOf i+1).toNat)
 case atStart=>exact⟨xl,Nat.le_refl _,rfl,h0⟩
 case round=>
  obtain⟨k,hk,rfl,hJ⟩:=hrel
  have hbx:=hbox _ _ hJ
  cases k with
  | zero=>
    gi_wp2
    go_end0
    exact⟨⟨_,rfl⟩,hJ⟩
  | succ j=>
    obtain⟨ad,v,hxa,hcells,f,tmps1,asg,body,hy,hR⟩:=hround j wr (by omega) hJ
    subst hxa
    have hc0:wr.cell? (ad.add j)=some (.int .u32 v):=by
     have:=hcells 0 (.int .u32 v) rfl
     simpa [STy.size] using this
    have hkj:(((j+1:Nat):Int)-1)=(j:Int):=by omega
    rw[hkj]
    simp only[STy.val,Lf.up]at hy
    gi_wp2
    refine⟨rfl,hR.mono ?_⟩
    rintro e W3 ⟨rfl,hJ3⟩
    gi_wp2
    go_roundw
    case rel=>exact⟨j,by omega,by simp,hJ3⟩
    case measure=>simp[RowKit.intOf]
end Den
end

noncomputable section
set_option maxRecDepth 100000
namespace Den
open Go Go.Proofs.Tryz
def Z9t:zl:=mkE (asl az) tb λa=>F.z3w a.1
theorem Zji:EnP 143 Z9t false:=eo (cgP 6 []) (.q .w) func143 trivial
def Z9u:zl:=mkE (asl (ArgT.fn 143 az)) ti λa=>F.yh a.1
theorem Zjj:EnP 208 Z9u false:=eo (cgP 19 [(143,Z9t)]) (.q (.s (.q (.b (.loop [(8,.i)] (.q (.s (.c .l .l) (.s (.b (.q (.q (.c .w .l)))) .l)))))) .w)) func208 ⟨Zji,trivial⟩
def Z9v:zl:=mkE (asl (ArgT.fn 143 az)) tb λa=>F.Z5 a.1
theorem Zjk:EnP 142 Z9v false:=eo (cgP 9 [(208,Z9u)]) (.q .w) func142 ⟨Zjj,trivial⟩
def Z9w:zl:=mkE (ac z05 az) tb λa=>F.z3a a.1
theorem Zjl:EnP 70 Z9w false:=eo (cgP 35 [(142,Z9v)] [] [(5,1),(8,1),(11,1),(14,1),(17,1),(20,1),(32,1)] [1]) (.q (.s (.q (.b (.loop [(25,.i)] (.q (.s (.c .l .l) (.s (.b (.q (.q (.c .w .l)))) .l)))))) .w)) func70 ⟨Zjk,trivial⟩
def Z9x:zl:=mkE (ac qe az) tb λa=>F.z1j a.1
theorem Zjm:EnP 146 Z9x false:=eo (cgP 27 [] [] [(4,1),(10,1),(18,1)] [1]) (.q (.q .w)) func146 trivial
def z5y:zl:=mkE (asl az) ts λa=>F.zv a.1
theorem z78:EnP 210 z5y false:=eo (cgP 21 []) (.q (.s (.b (.loop [(0,.s)] (.join [] (.q (.c .l .l)) (.b .l)))) .w)) func210 trivial
def zuh:zl:=mkE (ac qe az) ti λa=>F.Wt a.1
theorem Z6j:EnP 147 zuh false:=eo (cgP 12 [(210,z5y)] [] [(4,1),(10,1)] [1]) (.q (.s (.b (.q (.c .w (.q (.c .w .l))))) .w)) func147 ⟨z78,trivial⟩
def zk0:zl:=mkE (asl az) ts λa=>F.Zh a.1
theorem zpd:EnP 213 zk0 false:=eo (cgP 8 []) (.q (.s (.q (.c .w .l)) .w)) func213 trivial
def zh5:zl:=mkE (ac tb (asl az)) qe λa=>F.yp a.1 a.2.1
theorem zkp:EnP 212 zh5 false:=eo (cgP 14 [(210,z5y)] [] [] [4]) (.q (.q (.s (.q (.c .w .l)) .w))) func212 ⟨z78,trivial⟩
def Z3q:zl:=mkE (asl az) (Ty.clo 316) λa=>F.yt a.1
theorem Zb1:EnP 279 Z3q false:=eo (cgP 4 []) (.q .w) func279 trivial
def Z3r:zl:=mkE (asl az) (Ty.leaf (.int .u64)) λa=>F.Xi a.1
theorem Zb2:EnP 214 Z3r false:=eo { P:=prog,n:=16,tab:=[(279,Z3q)],locL:=[3],backs:=[(316,(.leaf (.int .u32)))] } (.q (.q (.s (.q (.b (.back [(3,.box [.int .u64])] .l (.b .l)))) .w))) func214 ⟨Zb1,trivial⟩ ⟨zya,trivial⟩
def znt:zl:=mkE (ac (Ty.leaf (.int .u64)) az) ts λa=>F.Yw a.1
theorem zv9:EnP 215 znt false:=eo (cgP 10 [(210,z5y)]) (.q .w) func215 ⟨z78,trivial⟩
def Z9y:zl:=mkE (ai az) tb λa=>F.z1f a.1
theorem Zjn:EnP 224 Z9y false:=eo (cgP 6 []) (.q .w) func224 trivial
def znu:zl:=mkE (ai (ai az)) ti λa=>F.Qv a.1 a.2.1
theorem zva:EnP 169 znu false:=eo (cgP 20 [(224,Z9y)]) (.q (.q (.q (.s (.q (.c (.s (.q (.c .w .l)) .w) .l)) (.s (.q (.c .w .l)) (.s (.q (.c .w .l)) (.s (.q (.c .w .l)) .w))))))) func169 ⟨Zjn,trivial⟩
def Z9z:zl:=mkE (ac (Ty.leaf (.int .u32)) az) tb λa=>F.Vd a.1
theorem Zjo:EnP 348 Z9z false:=eo (cgP 6 []) (.q .w) func348 trivial
def Za0:zl:=mkE (ac (Ty.leaf (.int .u32)) (ac (Ty.leaf (.int .u32)) az)) ti λa=>F.Vn a.1 a.2.1
theorem Zjp:EnP 315 Za0 false:=eo (cgP 20 [(348,Z9z)]) (.q (.q (.q (.s (.q (.c (.s (.q (.c .w .l)) .w) .l)) (.s (.q (.c .w .l)) (.s (.q (.c .w .l)) (.s (.q (.c .w .l)) .w))))))) func315 ⟨Zjo,trivial⟩
def zui:zl:=mkE (asl (asl az)) ti λa=>F.Xq a.1 a.2.1
theorem Z6k:EnP 272 zui false:=eo (cgP 41 [(169,znu),(315,Za0)]) (.q (.s (.q (.c .w .l)) (.s (.q (.b (.loop [(5,.i)] (.s (.q (.c .l .l)) (.s (.b (.s (.draw [0,1,2,3,4,5,6,7,8]) (.c (.s (.draw [0,1,2,3,4,5,6,7,8,9]) .l) .l))) .l))))) .w))) func272 ⟨zva,Zjp,trivial⟩
def Za1:zl:=mkE (asl (ac (Ty.leaf (.int .u32)) az)) (t2 ts ts) λa=>F.Vr a.1 a.2.1
theorem Zjq:EnP 273 Za1 false:=eo (cgP 43 [(210,z5y),(215,znt)]) (.q (.q (.q (.s (.q (.b (.loop [(7,.leaf (.int .u64)),(8,.i)] (.s (.q (.c .l .l)) (.s (.b (.q .w)) .l))))) .w)))) func273 ⟨z78,zv9,trivial⟩
def Za2:zl:=mkE (ac (Ty.leaf (.int .u32)) az) ti λa=>F.z1y a.1
theorem Zjr:EnP 243 Za2 false:=eo (cgP 19 []) (.q (.join [(0,.leaf (.int .u32)),(2,.i)] (.q (.c .w .l)) (.join [(0,.leaf (.int .u32)),(2,.i)] (.q (.c .w .l)) .w))) func243 trivial
def Za3:zl:=mkE (ac (Ty.leaf (.int .u32)) az) ti λa=>F.Xa a.1
theorem Zjs:EnP 274 Za3 false:=eo (cgP 6 [(243,Za2)]) (.q .w) func274 ⟨Zjr,trivial⟩
def Za4:zl:=mkE (asl (ai az)) ts λa=>F.Xm a.1 a.2.1
theorem Zjt:EnP 275 Za4 false:=eo (cgP 41 []) (.q (.q (.s (.q (.b (.loop [(15,.i)] (.q (.s (.c .l .l) (.s (.b (.q (.q .w))) .l)))))) .w))) func275 trivial
def Za5:zl:=mkM (asl (asl (ac (Ty.leaf (.int .u64)) az))) tb λa=>F.z0s a.1 a.2.1 a.2.2.1
theorem Zju:EnP 276 Za5 true:=eoM (cgP 63 []) (.q (.q (.s (.q (.b (.loop [(7,.leaf (.int .u64)),(15,.i)] (.q (.s (.c .l .l) (.s (.b (.q (.q (.q .w)))) .l)))))) (.q (.q .w))))) func276 trivial
def Za6:zl:=mkM (asl (asl az)) tu λa=>F.z1x a.1 a.2.1
theorem Zjv:EnP 277 Za6 true:=eoM (cgP 41 []) (.q (.s (.q (.b (.loop [(4,.leaf (.int .u64)),(9,.i)] (.q (.s (.c .l .l) (.s (.b (.q (.q .w))) .l)))))) .l)) func277 trivial
def Za7:zl:=mkE (asl (ai az)) ts λa=>F.Vs a.1 a.2.1
theorem Zjw:EnP 278 Za7 false:=eo (cgP 47 []) (.q (.q (.s (.q (.b (.loop [(13,.i)] (.q (.s (.c .l .l) (.join [] (.b (.q (.q (.q (.c (.draw [0,1,2,3,4,5,6,7,8,9,10,11,12,13,14,15,16]) .l))))) .l)))))) .w))) func278 trivial
def Z3s:zl:=mkE (asl (asl az)) (t2 ts ts) λa=>F.X8 a.1 a.2.1
theorem Zb3:EnP 211 Z3s false:=eo (cgP 177 [(272,zui),(213,zk0),(214,Z3r),(215,znt),(273,Za1),(274,Za3),(275,Za4),(210,z5y),(276,Za5),(277,Za6),(278,Za7)] [276,277]) (.q (.s (.b (.q (.c .w (.q (.c (.q (.s (.draw [0,1,2,4,5,6,3,7,8,9]) .l)) (.q (.c .w .l))))))) (.q (.q (.q (.q (.s (.draw [0,1,2,3,4,5,6,7,8,9,10,11,12,13]) (.s (.q (.b (.loop [(15,.i)] (.s (.q (.c .l .l)) (.s (.b (.s (.draw [0,1,2,3,4,5,6,7,8,9,10,11,12,13,14,15,16,17]) (.s (.draw [0,1,2,3,4,5,6,7]) (.join [(17,.leaf (.int .u64))] (.b (.loop [(17,.leaf (.int .u64)),(18,.leaf (.int .u64))] (.join [] (.q (.c .l .l)) (.b (.q (.q (.q (.c .l .l)))))))) (.join [(17,.leaf (.int .u64))] (.q (.c .w .l)) .l))))) .l))))) (.s (.draw [0,2,3,4,6,1,5,7,8,9,10]) .l))))))))) func211 ⟨Z6k,zpd,Zb2,zv9,Zjq,Zjs,Zjt,z78,Zju,Zjv,Zjw,trivial⟩
def Z3t:zl:=mkE (ac qe (ac qe az)) qe λa=>F.z2e a.1 a.2.1
theorem Zb4:EnP 149 Z3t false:=eo (cgP 57 [(210,z5y),(213,zk0),(212,zh5),(214,Z3r),(215,znt),(211,Z3s)] [] [(11,2),(14,3)] [2,3,4]) (.q (.s (.draw [0,1,3,4,2,5,6,7]) (.join [(5,.s),(6,.s)] (.b (.loop [(5,.s),(6,.s)] (.join [] (.q (.c .l .l)) (.b .w)))) (.s (.q (.c .w .l)) (.q (.s (.b (.loop [(9,.leaf (.int .u64)),(10,.leaf (.int .u64))] (.s (.q (.c .l .l)) (.b (.draw [0,1,2,3,4,5]))))) .w)))))) func149 ⟨z78,zpd,zkp,Zb2,zv9,Zb3,trivial⟩
def znv:zl:=mkE (ac qe az) tb λa=>F.Qp a.1
theorem zvb:EnP 148 znv false:=eo (cgP 19 [] [] [(3,1),(7,1),(13,1)] [1]) (.q .w) func148 trivial
def zk1:zl:=mkE (ac Qt az) tb λa=>F.qv a.1
theorem zpe:EnP 73 zk1 false:=eo (cgP 25 [(146,Z9x),(147,zuh),(149,Z3t),(148,znv)] [] [(3,1),(7,1),(12,1),(18,1),(20,1)] [1]) (.q .w) func73 ⟨Zjm,Z6j,Zb4,zvb,trivial⟩
end Den
end

noncomputable section
set_option maxRecDepth 100000
namespace Den
open Go Go.Proofs.Tryz
def Za8:zl:=mkE (ac zpi az) tb λa=>F.z6g a.1
theorem Zjx:EnP 72 Za8 false:=eo (cgP 11 [(73,zk1)] [] [(3,1),(7,1)] [1]) (.q .w) func72 ⟨zpe,trivial⟩
def Za9:zl:=mkE (ac zpi (ap az)) tb λa=>F.qb a.1 a.2.1
theorem Zjy:EnP 145 Za9 false:=eo { P:=prog,n:=8,tab:=[(72,Za8)],locL:=[2],fnL:=[(4,72,0)] } (.q .w) func145 ⟨Zjx,trivial⟩
def Zaa:zl:=mkE (asl (ArgT.fnc 145 1 az)) ti λa=>F.Zj a.1 a.2.1
theorem Zjz:EnP 209 Zaa false:=eo (cgP 19 [(145,Za9)]) (.q (.s (.q (.b (.loop [(8,.i)] (.q (.s (.c .l .l) (.s (.b (.q (.q (.c .w .l)))) .l)))))) .w)) func209 ⟨Zjy,trivial⟩
def Zab:zl:=mkE (asl (ArgT.fnc 145 1 az)) tb λa=>F.Zd a.1 a.2.1
theorem Zk0:EnP 144 Zab false:=eo (cgP 9 [(209,Zaa)]) (.q .w) func144 ⟨Zjz,trivial⟩
def Zac:zl:=mkE (asl (ArgT.fn 72 az)) tb λa=>F.Yk a.1
theorem Zk1:EnP 71 Zac false:=eo (cgP 9 [(144,Zab)]) (.q .w) func71 ⟨Zk0,trivial⟩
def znw:zl:=mkE (ai (ai az)) tb λa=>F.W8 a.1 a.2.1
theorem zvc:EnP 76 znw false:=eo (cgP 12 []) (.q .w) func76 trivial
def zk2:zl:=mkE (ac Qt az) ti λa=>F.Qm a.1
theorem zpf:EnP 77 zk2 false:=eo (cgP 6 [(147,zuh)] [] [(3,1)] [1]) (.q .w) func77 ⟨Z6j,trivial⟩
def Zad:zl:=mkE (ac zpj (ap az)) tb λa=>F.z6h a.1 a.2.1
theorem Zk2:EnP 75 Zad false:=eo (cgP 19 [(76,znw),(73,zk1),(77,zk2)] [] [(5,2),(9,2),(14,2)] [2]) (.q .w) func75 ⟨zvc,zpe,zpf,trivial⟩
def Zae:zl:=mkE (ac zpj (ap az)) tb λa=>F.qd a.1 a.2.1
theorem Zk3:EnP 151 Zae false:=eo { P:=prog,n:=8,tab:=[(75,Zad)],locL:=[2],fnL:=[(4,75,1)] } (.q .w) func151 ⟨Zk2,trivial⟩
def Zaf:zl:=mkE (asl (ArgT.fnc 151 1 az)) ti λa=>F.Zk a.1 a.2.1
theorem Zk4:EnP 216 Zaf false:=eo (cgP 19 [(151,Zae)]) (.q (.s (.q (.b (.loop [(8,.i)] (.q (.s (.c .l .l) (.s (.b (.q (.q (.c .w .l)))) .l)))))) .w)) func216 ⟨Zk3,trivial⟩
def Zag:zl:=mkE (asl (ArgT.fnc 151 1 az)) tb λa=>F.Ze a.1 a.2.1
theorem Zk5:EnP 150 Zag false:=eo (cgP 9 [(216,Zaf)]) (.q .w) func150 ⟨Zk4,trivial⟩
def Zah:zl:=mkE (asl (ArgT.fnc 75 1 az)) tb λa=>F.Yl a.1 a.2.1
theorem Zk6:EnP 74 Zah false:=eo (cgP 9 [(150,Zag)]) (.q .w) func74 ⟨Zk5,trivial⟩
def Zai:zl:=mkE (ac ziw (ap az)) tb λa=>F.z6i a.1 a.2.1
theorem Zk7:EnP 79 Zai false:=eo (cgP 21 [(76,znw)] [] [(5,2),(10,2),(15,2),(17,2)] [2]) (.q .w) func79 ⟨zvc,trivial⟩
def Zaj:zl:=mkE (ac ziw (ap az)) tb λa=>F.Y1 a.1 a.2.1
theorem Zk8:EnP 153 Zaj false:=eo { P:=prog,n:=8,tab:=[(79,Zai)],locL:=[2],fnL:=[(4,79,1)] } (.q .w) func153 ⟨Zk7,trivial⟩
def Zak:zl:=mkE (asl (ArgT.fnc 153 1 az)) ti λa=>F.Za a.1 a.2.1
theorem Zk9:EnP 217 Zak false:=eo (cgP 19 [(153,Zaj)]) (.q (.s (.q (.b (.loop [(8,.i)] (.q (.s (.c .l .l) (.s (.b (.q (.q (.c .w .l)))) .l)))))) .w)) func217 ⟨Zk8,trivial⟩
def Zal:zl:=mkE (asl (ArgT.fnc 153 1 az)) tb λa=>F.z7 a.1 a.2.1
theorem Zka:EnP 152 Zal false:=eo (cgP 9 [(217,Zak)]) (.q .w) func152 ⟨Zk9,trivial⟩
def Zam:zl:=mkE (asl (ArgT.fnc 79 1 az)) tb λa=>F.Yb a.1 a.2.1
theorem Zkb:EnP 78 Zam false:=eo (cgP 9 [(152,Zal)]) (.q .w) func78 ⟨Zka,trivial⟩
def Zan:zl:=mkE (ac z05 (ac zu0 az)) tb λa=>F.z21 a.1 a.2.1
theorem Zkc:EnP 82 Zan false:=eo (cgP 48 [(76,znw)] [] [(6,2),(9,3),(14,2),(17,3),(23,2),(26,3),(31,2),(33,3),(38,3),(43,3)] [2,3]) (.q (.join [] (.q (.c .w .l)) (.q .w))) func82 ⟨zvc,trivial⟩
def Zao:zl:=mkE (ac zu0 (ap az)) tb λa=>F.z6j a.1 a.2.1
theorem Zkd:EnP 81 Zao false:=eo (cgP 7 [(82,Zan)] [] [] [2]) (.q .w) func81 ⟨Zkc,trivial⟩
def Zap:zl:=mkE (ac zu0 (ap az)) tb λa=>F.qw a.1 a.2.1
theorem Zke:EnP 155 Zap false:=eo { P:=prog,n:=8,tab:=[(81,Zao)],locL:=[2],fnL:=[(4,81,1)] } (.q .w) func155 ⟨Zkd,trivial⟩
def Zaq:zl:=mkE (asl (ArgT.fnc 155 1 az)) ti λa=>F.Zo a.1 a.2.1
theorem Zkf:EnP 218 Zaq false:=eo (cgP 19 [(155,Zap)]) (.q (.s (.q (.b (.loop [(8,.i)] (.q (.s (.c .l .l) (.s (.b (.q (.q (.c .w .l)))) .l)))))) .w)) func218 ⟨Zke,trivial⟩
def zz0:zl:=mkE (asl (ArgT.fnc 155 1 az)) tb λa=>F.Zl a.1 a.2.1
theorem Zdu:EnP 154 zz0 false:=eo (cgP 9 [(218,Zaq)]) (.q .w) func154 ⟨Zkf,trivial⟩
def zz1:zl:=mkE (asl (ArgT.fnc 81 1 az)) tb λa=>F.Yu a.1 a.2.1
theorem Zdv:EnP 80 zz1 false:=eo (cgP 9 [(154,zz0)]) (.q .w) func80 ⟨Zdu,trivial⟩
def zz2:zl:=mkE (ac z05 (ac Z6u az)) (t2 ti ti) λa=>F.z4t a.1 a.2.1
theorem Zdw:EnP 157 zz2 false:=eo (cgP 44 [] [] [(8,3),(10,2),(12,3),(17,2),(19,3),(24,2),(26,3),(31,2),(33,3),(38,3)] [2,3]) (.q (.q (.join [(6,.i),(7,.i)] (.q (.c (.draw [0,1,2,3,4,5,6,7,8,9,10,11,12,13,14,15]) (.draw [0,1,2,3,4,5,6,7,8,9,10,11,12,13,14,15]))) (.s (.q (.c .w .l)) .w)))) func157 trivial
def zz3:zl:=mkE (ac z05 (asl az)) tb λa=>F.z08 a.1 a.2.1
theorem Zdx:EnP 85 zz3 false:=eo (cgP 49 [(76,znw),(157,zz2)] [] [(18,2),(21,7),(23,2),(27,7)] [2,7]) (.q (.q (.s (.q (.b (.loop [(5,.i),(13,.i)] (.q (.s (.c .l .l) (.join [(5,.i)] (.b (.q (.q (.join [(8,.i)] (.q (.c .l .l)) (.s (.q (.c .w .l)) (.q (.s (.q (.c .w .l)) .l))))))) .l)))))) .w))) func85 ⟨zvc,Zdw,trivial⟩
def zz4:zl:=mkE (asl (ap az)) tb λa=>F.z6k a.1 a.2.1
theorem Zdy:EnP 84 zz4 false:=eo (cgP 7 [(85,zz3)]) (.q .w) func84 ⟨Zdx,trivial⟩
def zz5:zl:=mkE (asl (ap az)) tb λa=>F.qa a.1 a.2.1
theorem Zdz:EnP 156 zz5 false:=eo { P:=prog,n:=8,tab:=[(84,zz4)],fnL:=[(4,84,1)] } (.q .w) func156 ⟨Zdy,trivial⟩
def zz6:zl:=mkE (asl (ArgT.fnc 156 1 az)) ti λa=>F.Zi a.1 a.2.1
theorem Ze0:EnP 208 zz6 false:=eo (cgP 19 [(156,zz5)]) (.q (.s (.q (.b (.loop [(8,.i)] (.q (.s (.c .l .l) (.s (.b (.q (.q (.c .w .l)))) .l)))))) .w)) func208 ⟨Zdz,trivial⟩
def zz7:zl:=mkE (asl (ArgT.fnc 156 1 az)) tb λa=>F.Zc a.1 a.2.1
theorem Ze1:EnP 142 zz7 false:=eo (cgP 9 [(208,zz6)]) (.q .w) func142 ⟨Ze0,trivial⟩
def zz8:zl:=mkE (asl (ArgT.fnc 84 1 az)) tb λa=>F.Yj a.1 a.2.1
theorem Ze2:EnP 83 zz8 false:=eo (cgP 9 [(142,zz7)]) (.q .w) func83 ⟨Ze1,trivial⟩
def zr0:zl:=mkE (ai az) (t2 zbd tb) λa=>F.X4 a.1
theorem Z5j:EnP 160 zr0 false:=eo (cgP 15 [] [] [] [2]) (.q (.join [(2,.box [.int .i64,.int .i64,.int .i64,.int .i64,.bool,.bool,.bool])] (.q (.c .w .l)) .w)) func160 trivial
def zlg:zl:=mkE (ai az) qe λa=>F.Wp a.1
theorem ztc:EnP 197 zlg false:=eo (cgP 15 [(215,znt),(212,zh5)] [] [] [2]) (.q (.q (.join [(3,.leaf (.int .u64))] (.q (.c .l .l)) .w))) func197 ⟨zv9,zkp,trivial⟩
def zlh:zl:=mkE az qe λa=>F.z10
theorem ztd:EnP 198 zlh false:=eo (cgP 2 [(197,zlg)] [] [] [0]) (.q .w) func198 ⟨ztc,trivial⟩
def zby:zl:=mkE (ai az) Qt λa=>F.Y9 a.1
theorem zew:EnP 133 zby false:=eo (cgP 7 [(197,zlg),(198,zlh)] [] [] [2]) (.q .w) func133 ⟨ztc,ztd,trivial⟩
def zr1:zl:=mkE (ac qe (ac qe az)) ti λa=>F.z4l a.1 a.2.1
theorem Z5k:EnP 317 zr1 false:=eo (cgP 26 [(147,zuh),(169,znu),(210,z5y),(272,zui)] [] [(18,2),(21,3)] [2,3]) (.q (.s (.draw [0,2,1,3,4,5]) (.s (.q (.c .w .l)) (.s (.draw [0,1,2,4,5,3,6,7,8,9]) .l)))) func317 ⟨Z6j,zva,z78,Z6k,trivial⟩
def zz9:zl:=mkE (asl (asl az)) ts λa=>F.z1k a.1 a.2.1
theorem Ze3:EnP 365 zz9 false:=eo (cgP 75 [(210,z5y)]) (.q (.join [] (.q (.c .w .l)) (.q (.s (.q (.b (.loop [(27,.i)] (.q (.s (.c .l .l) (.s (.b (.q (.q (.s (.q (.b (.loop [(8,.leaf (.int .u64)),(34,.i)] (.q (.s (.c .l .l) (.s (.b (.q (.q .w))) .l)))))) .l)))) .l)))))) .w)))) func365 ⟨z78,trivial⟩
def zh2:zl:=mkE (ac qe (ac qe az)) qe λa=>F.Qj a.1 a.2.1
theorem zmo:EnP 349 zh2 false:=eo (cgP 18 [(210,z5y),(365,zz9),(212,zh5)] [] [(5,2),(7,3),(10,2),(13,3)] [2,3,4]) (.q (.s (.draw [0,1,2,3,4,5,6,8,9,7,10,11,12,13]) .l)) func349 ⟨z78,Ze3,zkp,trivial⟩
def zr2:zl:=mkE (asl (asl az)) ts λa=>F.z0r a.1 a.2.1
theorem Z5l:EnP 390 zr2 false:=eo (cgP 58 [] [] [] [45,55]) (.q (.join [(0,.s),(1,.s)] (.q (.c .l .l)) (.q (.q (.s (.q (.b (.loop [(5,.s),(6,.leaf (.int .u64)),(22,.i)] (.q (.s (.c .l .l) (.s (.b (.q (.q (.join [(6,.leaf (.int .u64))] (.q (.c .l .l)) .w)))) .l)))))) (.s (.q (.c .l .l)) .w)))))) func390 trivial
def zr3:zl:=mkE (asl (asl az)) ts λa=>F.Wz a.1 a.2.1
theorem Z5m:EnP 391 zr3 false:=eo (cgP 45 [(210,z5y)]) (.q (.q (.q (.s (.q (.b (.loop [(6,.leaf (.int .u64)),(15,.i)] (.q (.s (.c .l .l) (.s (.b (.q (.q (.join [(9,.leaf (.int .u64))] (.q (.c .l .l)) .w)))) .l)))))) .w)))) func391 ⟨z78,trivial⟩
def zza:zl:=mkE (ac qe (ac qe az)) (t3 qe qe ti) λa=>F.z2w a.1 a.2.1
theorem Ze4:EnP 380 zza false:=eo (cgP 53 [(210,z5y),(211,Z3s),(212,zh5),(390,zr2),(391,zr3)] [] [(10,3),(19,2),(26,2),(28,3),(42,2),(44,3),(49,3)] [2,3,4,5]) (.q (.q (.s (.q (.c .w .l)) (.q (.join [(8,.s),(9,.s)] (.q (.c .w .l)) (.s (.draw [0,1,2,3,4,5,7,8,9,6,10,11,12,13]) .l)))))) func380 ⟨z78,Zb3,zkp,Z5l,Z5m,trivial⟩
end Den
end

noncomputable section
set_option maxRecDepth 100000
namespace Den
open Go Go.Proofs.Tryz
def zzb:zl:=mkE (ac qe (ac qe az)) qe λa=>F.z33 a.1 a.2.1
theorem Ze5:EnP 366 zzb false:=eo (cgP 19 [(148,znv),(380,zza)] [] [] [2,3,4,5,6]) (.q (.s (.q (.c .w .l)) (.q .w))) func366 ⟨zvb,Ze4,trivial⟩
def zr4:zl:=mkE (ac qe az) qe λa=>F.z4m a.1
theorem Z5n:EnP 339 zr4 false:=eo (cgP 11 [(210,z5y),(213,zk0),(212,zh5)] [] [(3,1),(6,1)] [1,2]) (.q (.s (.draw [0,1,2,3,4,5,6,7,8]) .l)) func339 ⟨z78,zpd,zkp,trivial⟩
def zli:zl:=mkE (ac qe (ac qe az)) Qt λa=>F.Wq a.1 a.2.1
theorem zte:EnP 350 zli false:=eo (cgP 20 [(149,Z3t),(366,zzb),(339,zr4)] [] [(9,3)] [2,3,4,5]) (.q (.q (.join [(5,.box [.bool,.sl])] (.q (.c .l .l)) (.s (.draw [0,1,3,4,2,5,6,7]) .l)))) func350 ⟨Zb4,Ze5,Z5n,trivial⟩
def zr5:zl:=mkE (ac Qt (ac Qt az)) Qt λa=>F.z32 a.1 a.2.1
theorem Z5o:EnP 318 zr5 false:=eo (cgP 31 [(349,zh2),(350,zli),(148,znv),(198,zlh)] [] [(5,2),(9,3),(13,2),(15,3),(20,2),(22,3),(25,2),(27,3)] [2,3,4]) (.q (.join [(4,.box [.bool,.sl,.bool,.sl])] (.q (.c .w .l)) (.s (.draw [0,1,2,3,5,6,7,8,4,9,10,11]) .l))) func318 ⟨zmo,zte,zvb,ztd,trivial⟩
def zzc:zl:=mkE (ai az) (Ty.leaf .str) λa=>F.Vt a.1
theorem Ze6:EnP 382 zzc false:=eo (cgP 15 []) (.q (.s (.q (.c .w .l)) .w)) func382 trivial
def zzd:zl:=mkE (ac (Ty.leaf (.int .u64)) az) ti λa=>F.z1z a.1
theorem Ze7:EnP 244 zzd false:=eo (cgP 25 []) (.q (.join [(0,.leaf (.int .u64)),(2,.i)] (.q (.c .w .l)) (.join [(0,.leaf (.int .u64)),(2,.i)] (.q (.c .w .l)) (.join [(0,.leaf (.int .u64)),(2,.i)] (.q (.c .w .l)) .w)))) func244 trivial
def zze:zl:=mkE (ai az) ti λa=>F.Wa a.1
theorem Ze8:EnP 394 zze false:=eo (cgP 6 []) (.q .w) func394 trivial
def zzf:zl:=mkE (ac tb az) ti λa=>F.X9 a.1
theorem Ze9:EnP 395 zzf false:=eo (cgP 4 []) (.q (.s (.q (.c .w .l)) .w)) func395 trivial
def zzg:zl:=mkE (ac (Ty.leaf (.int .u64)) az) ti λa=>F.Qn a.1
theorem Zea:EnP 383 zzg false:=eo (cgP 15 [(244,zzd),(394,zze),(395,zzf)]) (.q (.q .w)) func383 ⟨Ze7,Ze8,Ze9,trivial⟩
def zzh:zl:=mkM (asl (ac (Ty.leaf (.int .u64)) az)) tu λa=>F.qm a.1 a.2.1
theorem Zeb:EnP 384 zzh true:=eoM (cgP 167 []) (.q (.s (.b (.loop [(1,.leaf (.int .u64)),(4,.i)] (.s (.q (.c .l .l)) (.b (.q (.q (.q (.q (.q (.s (.draw [0,1,2,3,4,5,6,7,8,9,10,11,12,13,14]) (.s (.draw [0,1,2,3,4,5,6,7,8,9,10,11,12,13,14]) (.s (.draw [0,1,2,3,4,5,6,7,8,9,10,11,12,13,14]) (.s (.draw [0,1,2,3,4,5,6,7,8,9,10,11,12,13,14]) .l))))))))))))) (.q (.join [(4,.i),(12,.leaf (.int .u32))] (.q (.c (.q (.q (.q (.s (.draw [0,1,2,3,4,5,6,7,8,9,10,11,12,13,14]) (.s (.draw [0,1,2,3,4,5,6,7,8,9,10,11,12,13,14]) .l))))) .l)) (.join [(4,.i),(12,.leaf (.int .u32))] (.q (.c (.q (.q (.s (.draw [0,1,2,3,4,5,6,7,8,9,10,11,12,13,14]) .l))) .l)) (.q (.c .l .l))))))) func384 trivial
def zzi:zl:=mkE (ac (Ty.leaf (.int .u64)) (ai az)) (Ty.leaf .str) λa=>F.Xx a.1 a.2.1
theorem Zec:EnP 368 zzi false:=eo (cgP 32 [(382,zzc),(383,zzg),(384,zzh)] [384]) (.q (.s (.q (.c (.s (.q (.c .w .l)) (.q (.q (.q .w)))) .l)) (.q .w))) func368 ⟨Ze6,Zea,Zeb,trivial⟩
def zzj:zl:=mkE (ac (Ty.leaf (.int .u64)) (ai az)) (Ty.leaf .str) λa=>F.Wh a.1 a.2.1
theorem Zed:EnP 352 zzj false:=eo (cgP 8 [(368,zzi)]) (.q .w) func352 ⟨Zec,trivial⟩
def z5b:ArgT ((Option Addr)×Unit):=(ap az)
def Xt:Ty Unit:=tu
def Xw:zl:=mkM z5b Xt (λa=>F.Q2 a.1)
set_option maxHeartbeats 1000000 in
set_option maxRecDepth 100000 in
theorem z52(b:Nat)(w:World)(h0:w.cell? ⟨b,0,none⟩=some (.pointer (some ⟨b,0,none⟩))) :
 Calls Go.Proofs.Tryz.prog 367 #[.pointer (some ⟨b,0,none⟩)] w λe w'=>e=.returned (.tuple #[])/\w'=w:=by
 obtain⟨j,hj,_⟩:=Option.map_eq_some_iff.1 (show(Go.Proofs.Tryz.prog.info? 364).map (·.size)=some 2 by kernel_rfl)
 go_enter Go.Proofs.Tryz.func367,Go.Proofs.Tryz.ntmps367
 go_wp2
 rw[Lib.run_neq_ptr_same w _ Go.Proofs.Tryz.underlying362 hj]
 go_wp2
 go_end0
 exact⟨rfl,rfl⟩
set_option maxHeartbeats 1000000 in
set_option maxRecDepth 100000 in
theorem z4z(b:Nat)(w:World)(h0:w.cell? ⟨b,0,none⟩=some (.pointer none))(hsh:w.shape? b=some (364,2))(hfz:w.frozen? ⟨b,0,none⟩=false) :
 Calls Go.Proofs.Tryz.prog 367 #[.pointer (some ⟨b,0,none⟩)] w λe w'=>e=.returned (.tuple #[])/\w'=w.setCell ⟨b,0,none⟩ (.pointer (some ⟨b,0,none⟩)):=by
 obtain⟨j,hj,hjs⟩:=Option.map_eq_some_iff.1 (show(Go.Proofs.Tryz.prog.info? 364).map (·.size)=some 2 by kernel_rfl)
 have hli:liesAt Go.Proofs.Tryz.prog Go.Proofs.Tryz.prog.depth 364 (2/Go.Proofs.Tryz.prog.cellsOf 364) 0 364 1=true:=by kernel_rfl
 go_enter Go.Proofs.Tryz.func367,Go.Proofs.Tryz.ntmps367
 go_wp2
 rw[Lib.run_to_unsafe w ⟨b,0,none⟩ Go.Proofs.Tryz.underlying362 Go.Proofs.Tryz.underlying388 hj (by rw[hjs];decide) hsh (Nat.zero_lt_succ 1)]
 simp only[Result.andThen]
 rw[Oper.upon_value]
 go_wp2
 rw[run_callFunc_extern Go.Proofs.Tryz.func381 (by kernel_rfl) (by kernel_rfl) (by kernel_rfl) (e:=Extern.AbiNoEscape.same) (by kernel_rfl)]
 rw[Lib.run_noEscape]
 simp only[Result.andThen]
 rw[Oper.upon_value]
 go_wp2
 rw[Lib.run_from_unsafe w ⟨b,0,none⟩ Go.Proofs.Tryz.underlying388 Go.Proofs.Tryz.underlying362 hj hsh hli]
 simp only[Result.andThen]
 rw[Oper.upon_value]
 go_wp2
 go_end0
 exact⟨rfl,rfl⟩
theorem z09:Entry Go.Proofs.Tryz.prog 367 Xw true:=
 z2g ⟨_,Go.Proofs.Tryz.func367,rfl,by decide⟩ (λa K D w hs hk=>by
  obtain⟨p,u⟩:=a
  obtain⟨b,bl,hp,hb,he,hf,hl,hc⟩:=hk
  simp only at hp
  subst hp
  have hw:=hs _ _ hb
  have hlt:=Xg hw
  rw[he,hf]at hw
  rcases hc with ⟨h0,hK⟩ | ⟨h0,hK⟩
  . have c0:w.cell? ⟨b,0,none⟩=some (.pointer none):=by unfold World.cell?;simp only[hw];simp[h0]
    refine(z4z b w c0 (by simp[World.shape?,hw,hl]) (by unfold World.frozen?;simp only[hw];simp)).mono ?_
    rintro e w' ⟨rfl,rfl⟩
    refine⟨_,_,rfl,(Xt.cmp _ _).2 hK,?_,?_,?_⟩
    . intro k c hk
      rw[zaa hw]
      by_cases hkb:k=b
      . subst hkb
        rw[Hp.ins_same]at hk;cases hk
        rw[z2k hlt]
        simp[he,hf]
      . rw[Hp.ins_ne hkb]at hk;rw[z3v hkb];exact hs k c hk
    . rw[zaa hw]
      refine⟨by rw[z4s];exact Nat.le_refl _,λk hk1 hk2=>?_,rfl,rfl,rfl,Nat.le_refl _⟩
      exact z3v λhh=>by rw[hh,hb]at hk2;cases hk2
    . intro k hk1 hk2
      have hkb:k≠b:=λhh=>by rw[hh,hb]at hk2;cases hk2
      rw[Hp.ins_ne hkb]at hk1;exact absurd hk2 hk1
  . have c0:w.cell? ⟨b,0,none⟩=some (.pointer (some ⟨b,0,none⟩)):=by unfold World.cell?;simp only[hw];simp[h0]
    refine(z52 b w c0).mono ?_
    rintro e w' ⟨rfl,rfl⟩
    exact⟨_,D,rfl,(Xt.cmp _ _).2 hK,hs,Fr.refl _ _,λk h1 h2=>absurd h2 h1⟩)
def zzk:zl:=mkM (ap (ac (Ty.leaf .str) az)) (t2 ti (Ty.leaf .val)) λa=>F.Zs a.1 a.2.1
theorem Zee:EnP 353 zzk true:=eoM { P:=prog,n:=19,tab:=[(367,Xw)],mutL:=[367],tyL:=[5] } (.q (.q (.q .w))) func353 ⟨z09,trivial⟩
def zzl:zl:=mkE (ac (Ty.leaf (.int .u64)) (ac (Ty.leaf (.int .u64)) az)) (Ty.tup (.cons (Ty.leaf (.int .u64)) (.cons (Ty.leaf (.int .u64)) .nil)) (λx=>(x.1,x.2,())) (λy=>(y.1,y.2.1)) (λ_=>rfl) (λ_=>rfl)) λa=>F.z4x a.1 a.2.1
theorem Zef:EnP 370 zzl false:=eo (cgP 51 []) (.q (.q (.q (.q (.q (.q (.q (.q (.q (.q (.q .w))))))))))) func370 trivial
def zzm:zl:=mkE (ac (Ty.leaf (.int .u64)) (ac (Ty.leaf (.int .u64)) az)) (Ty.tup (.cons (Ty.leaf (.int .u64)) (.cons (Ty.leaf (.int .u64)) .nil)) (λx=>(x.1,x.2,())) (λy=>(y.1,y.2.1)) (λ_=>rfl) (λ_=>rfl)) λa=>F.z4b a.1 a.2.1
theorem Zeg:EnP 355 zzm false:=eo (cgP 30 [(370,zzl)]) (.q (.s (.c (.q .w) .l) (.q .w))) func355 ⟨Zef,trivial⟩
def zzn:zl:=mkE (ac (Ty.leaf .str) (ac (Ty.leaf .str) az)) tb λa=>F.Q4 a.1 a.2.1
theorem Zeh:EnP 371 zzn false:=eo (cgP 18 []) (.q .w) func371 trivial
def zzo:zl:=mkE (ac (Ty.leaf .str) (ac (Ty.leaf .str) az)) tb λa=>F.zm a.1 a.2.1
theorem Zei:EnP 356 zzo false:=eo (cgP 8 [(371,zzn)]) (.q .w) func356 ⟨Zeh,trivial⟩
def zr6:zl:=mkE (ac (Ty.leaf .str) (ai az)) (Ty.leaf .str) λa=>F.Vg a.1 a.2.1
theorem Z5p:EnP 320 zr6 false:=eo { P:=prog,n:=125,tab:=[(355,zzm),(356,zzo)],tyL:=[364] } (.q (.s (.q (.b (.q (.c .w (.q (.c .w .l)))))) (.join [] (.q (.c .l .l)) (.q (.join [] (.q (.c .l .l)) (.q (.s (.q (.c .w .l)) (.join [] (.q (.b (.join [(43,.b)] (.q (.c .l (.q (.c .l (.q (.c .l (.q (.c .l .l)))))))) (.c (.b (.q (.c .w (.q (.c .w (.q (.c .w (.q (.c .w (.q (.c .w .l))))))))))) .l)))) (.q (.join [(8,.i)] (.q (.c (.q (.q (.c .l .l))) .l)) (.q (.q (.q (.s (.b (.loop [] (.s (.q (.c .l .l)) (.b .w)))) .w)))))))))))))) func320 ⟨Zeg,Zei,trivial⟩
def z7c:ArgT ((Option Addr)×Unit):=(ap az)
def Ww:Ty ByteArray:=(Ty.leaf .str)
def z1h:zl:=mkM z7c Ww (λa=>F.X1 a.1)
set_option maxHeartbeats 2000000 in
set_option maxRecDepth 100000 in
theorem z6r(b:Nat)(p:Value)(w:World)(hbk:w.heap[b]?=some (.cells #[p,.slice none 0 0] 364 (0,0))) :
 Calls Go.Proofs.Tryz.prog 354 #[.pointer (some ⟨b,0,none⟩)] w λe w'=>e=.returned (.string ⟨#[]⟩)/\w'=w.drew:=by
 have hUS:∀(W:World) (q:Option Addr),(Builtin.unsafeString_ #[380,3] 9 #[.pointer q,.int .i64 0]).run Go.Proofs.Tryz.prog W=.ok (.string .empty) W:=λW q=>Lib.run_unsafeString_none W _ _ _ q
 have c1:w.drew.cell? ⟨b,1,none⟩=some (.slice none 0 0):=by
  have:w.drew.heap[b]?=some (.cells #[p,.slice none 0 0] 364 (0,0)):=hbk
  rw[Lib.cell_of_heap this];rfl
 have hSD:(Builtin.unsafeSliceData_ #[359] 380 #[.slice none 0 0]).run Go.Proofs.Tryz.prog w.drew=.ok (.pointer none) w.drew:=rfl
 go_enter Go.Proofs.Tryz.func354,Go.Proofs.Tryz.ntmps354
 go_wp2
 go_region
 all_goals (go_wp2;go_ret;exact⟨rfl,rfl⟩)
set_option maxHeartbeats 2000000 in
set_option maxRecDepth 100000 in
theorem z6s(b g cap cells:Nat)(p:Value)(l:List UInt8)(w:World)(h0:l≠[])(hbk:w.heap[b]?=some (.cells #[p,.slice (some ⟨g,0,none⟩) l.length cap] 364 (0,0)))(hc:l.length<=cap)(hsh:w.shape? g=some (5,cells))(hn:l.length<=cells)(h63:l.length<=140737488355328)
 (hcell:∀j x,l[j]?=some x->w.cell? ((⟨g,0,none⟩:Addr).add j)=some (.int .u8 x.toNat)) :
 Calls Go.Proofs.Tryz.prog 354 #[.pointer (some ⟨b,0,none⟩)] w λe w'=>e=.returned (.string ⟨l.toArray⟩)/\w'=w.drew.freeze ⟨g,0,none⟩ l.length:=by
 have hl0:l.length≠0:=by simpa using h0
 have c1:w.drew.cell? ⟨b,1,none⟩=some (.slice (some ⟨g,0,none⟩) l.length cap):=by
  have:w.drew.heap[b]?=some (.cells #[p,.slice (some ⟨g,0,none⟩) l.length cap] 364 (0,0)):=hbk
  rw[Lib.cell_of_heap this];rfl
 have hSD:(Builtin.unsafeSliceData_ #[359] 380 #[.slice (some ⟨g,0,none⟩) l.length cap]).run Go.Proofs.Tryz.prog w.drew=.ok (.pointer (some ⟨g,0,none⟩)) w.drew:=
  Lib.run_unsafeSliceData_row _ _ _ _ _ _ (by omega)
 have hUS:(Builtin.unsafeString_ #[380,3] 9 #[.pointer (some ⟨g,0,none⟩),.int .i64 l.length]).run Go.Proofs.Tryz.prog w.drew=.ok (.string ⟨l.toArray⟩) (w.drew.freeze ⟨g,0,none⟩ l.length):=
  Lib.run_unsafeString_row w.drew 380 3 9 5 Go.Proofs.Tryz.underlying380 (by kernel_rfl) g cells hsh l h0 hn (by omega) hcell
 go_enter Go.Proofs.Tryz.func354,Go.Proofs.Tryz.ntmps354
 go_wp2
 go_region
 all_goals (go_wp2;go_ret;exact⟨rfl,rfl⟩)
theorem z7i:Entry Go.Proofs.Tryz.prog 354 z1h true:=
 z2g ⟨_,Go.Proofs.Tryz.func354,rfl,by decide⟩ (λa K D w hs hk=>by
  obtain⟨q,u⟩:=a
  obtain⟨b,bl,p,hp,hb,he,hf,hc⟩:=hk
  simp only at hp
  subst hp
  have hw:=hs _ _ hb
  rw[he,hf]at hw
  rcases hc with ⟨hcs,hK⟩ | ⟨g,c,l,bg,h0,hcs,hlc,hg,hge,hlg,h63,hall,hK⟩
  . rw[hcs]at hw
    refine(z6r b p w hw).mono ?_
    rintro e w' ⟨rfl,rfl⟩
    exact⟨_,D,rfl,(Ww.cmp _ _).2 hK,hs,zct D w,λk h1 h2=>absurd h2 h1⟩
  . rw[hcs]at hw
    have hwg:=hs _ _ hg
    rw[hge]at hwg
    have hltg:=Xg hwg
    refine(z6s b g c bg.cells.length p l w h0 hw hlc (by simp[World.shape?,hwg]) hlg h63 (λj x hj=>?_)).mono ?_
    . rw[z1b,Nat.zero_add]
      unfold World.cell?
      simp only[hwg]
      simp[hall j x hj]
    . rintro e w' ⟨rfl,rfl⟩
      have hsz:(w.drew.freeze ⟨g,0,none⟩ l.length).heap.size=w.heap.size:=by
       unfold World.freeze
       split
       . rfl
       . simp only[Array.size_modify]
         rfl
      have hne:∀k,k≠g->(w.drew.freeze ⟨g,0,none⟩ l.length).heap[k]?=w.heap[k]?:=λk hk=>by
       unfold World.freeze
       split
       . rfl
       . simp only[Array.getElem?_modify]
         rw[if_neg (λhh=>hk hh.symm)]
         rfl
      refine⟨_,_,rfl,(Ww.cmp _ _).2 hK,?_,?_,?_⟩
      . intro k cb hk
        by_cases hkg:k=g
        . simp[hkg]at hk
        . simp only[if_neg hkg]at hk
          rw[hne k hkg];exact hs k cb hk
      . refine⟨Nat.le_of_eq hsz.symm,λk hk1 hk2=>?_,?_,?_,?_,?_⟩
        . exact hne k λhh=>by rw[hh,hg]at hk2;cases hk2
        . unfold World.freeze;split<;>rfl
        . unfold World.freeze;split<;>rfl
        . unfold World.freeze;split<;>rfl
        . unfold World.freeze;split<;>exact Nat.le_succ _
      . intro k hk1 hk2
        by_cases hkg:k=g
        . simp[hkg]at hk1
        . simp only[if_neg hkg]at hk1;exact absurd hk2 hk1)
def zzp:zl:=mkM (ap (ac (Ty.leaf (.int .u8)) az)) (Ty.leaf .val) λa=>F.z17 a.1 a.2.1
theorem Zej:EnP 351 zzp true:=eoM { P:=prog,n:=17,tab:=[(367,Xw)],mutL:=[367],locL:=[13],tyL:=[5] } (.q (.q (.q .w))) func351 ⟨z09,trivial⟩
def zzq:zl:=mkE (ac qe az) (Ty.leaf .str) λa=>F.z2x a.1
theorem Zek:EnP 319 zzq false:=eo { P:=prog,n:=74,tab:=[(210,z5y),(213,zk0),(279,Z3q),(352,zzj),(353,zzk),(320,zr6),(354,z1h),(351,zzp)],mutL:=[353,354,351],rtL:=[(11,1),(51,1)],locL:=[1,4,49],backs:=[(316,(.leaf (.int .u32)))],tyL:=[364] } (.q (.q (.s (.q (.c .w .l)) (.q (.s (.b (.loop [(3,.s),(4,.box [.sl])] (.s (.q (.c .l .l)) (.b (.q (.s (.q (.b (.loop [(5,.leaf (.int .u64)),(6,.i)] (.s (.q (.c .l .l)) (.s (.b (.q .w)) .l))))) .w)))))) (.q (.join [] (.q (.c .l .l)) (.s (.q (.b (.back [] .w (.b (.q (.join [] (.q (.c .l .l)) .l)))))) .w)))))))) func319 ⟨z78,zpd,Zb1,Zed,Zee,Z5p,z7i,Zej,trivial⟩ ⟨zya,trivial⟩
def zzr:zl:=mkE (ac Qt az) (t2 (Ty.leaf .str) tb) λa=>F.z1v a.1
theorem Zel:EnP 280 zzr false:=eo (cgP 65 [(133,zby),(197,zlg),(317,zr1),(318,zr5),(319,zzq),(320,zr6),(73,zk1),(77,zk2)] [] [(23,1),(31,1)] [1,4,5]) (.q (.join [] (.q (.c .w .l)) (.q (.q (.s (.q (.b (.loop [(1,.box [.bool,.sl,.bool,.sl]),(6,.i)] (.s (.q (.c .l .l)) (.s (.b (.s (.q (.c .w .l)) (.q (.join [(7,.leaf (.str))] (.q (.c (.join [(7,.leaf (.str))] (.q (.q (.c .l .l))) (.draw [0,1,2,3,4,5,6,7,8,9,10,11,12,13,14])) .l)) .w)))) .l))))) .w))))) func280 ⟨zew,ztc,Z5k,Z5o,Zek,Z5p,zpe,zpf,trivial⟩
def zr7:zl:=mkE (ac (Ty.leaf (.int .u8)) az) tb λa=>F.z0c a.1
theorem Z5q:EnP 321 zr7 false:=eo (cgP 17 []) (.q .w) func321 trivial
def zzs:zl:=mkE (ac (Ty.leaf (.int .u8)) az) tb λa=>F.z1l a.1
theorem Zem:EnP 359 zzs false:=eo (cgP 9 []) (.q .w) func359 trivial
def zzt:zl:=mkE (ac (Ty.leaf (.int .u8)) az) tb λa=>F.z5g a.1
theorem Zen:EnP 323 zzt false:=eo (cgP 13 [(321,zr7),(359,zzs)]) (.q .w) func323 ⟨Z5q,Zem,trivial⟩
def zzu:zl:=mkE (ac (Ty.leaf .str) (ArgT.fn 323 az)) ti λa=>F.Xn a.1
theorem Zeo:EnP 322 zzu false:=eo (cgP 20 [(323,zzt)]) (.q (.q (.s (.b (.loop [(5,.i)] (.join [] (.q (.c .l .l)) (.b .l)))) .w))) func322 ⟨Zen,trivial⟩
def zzv:zl:=mkE (ac (Ty.leaf .str) az) tb λa=>F.z0t a.1
theorem Zep:EnP 281 zzv false:=eo (cgP 22 [(321,zr7),(322,zzu)]) (.q .w) func281 ⟨Z5q,Zeo,trivial⟩
def zzw:zl:=mkE (ac Qt az) tb λa=>F.z2t a.1
theorem Zeq:EnP 282 zzw false:=eo (cgP 27 [] [] [(3,1),(4,1),(9,1),(10,1),(16,1),(17,1),(22,1),(23,1)] [1]) (.q .w) func282 trivial
def zds:ArgT (TExpr×Unit):=(ac z93 az)
def zdv:Ty Bool:=tb
def Zb7:ArgT (TExpr×Unit):=(ac z93 az)
def Zbh:Ty Bool:=tb
def zzx(Zle:TExpr->(Bool->Hp->Prop)->Hp->Prop):zl:=mkE Zb7 Zbh λa=>F.z0q Zle a.1
theorem Zer(Zle:TExpr->(Bool->Hp->Prop)->Hp->Prop)(Zlh:EnP 222 (mkE zds zdv (λa=>Zle a.1)) false):EnP 283 (zzx Zle) false:=eo (cgP 6 [(222,mkE zds zdv (λa=>Zle a.1))] [] [] [1]) (.q .w) func283 ⟨Zlh,trivial⟩
def Zb8:ArgT (Sl×Unit):=(asl (ArgT.fn 283 az))
def Zbi:Ty Int:=ti
def zzy(Zle:TExpr->(Bool->Hp->Prop)->Hp->Prop):zl:=mkE Zb8 Zbi λa=>F.ym Zle a.1
theorem Zes(Zle:TExpr->(Bool->Hp->Prop)->Hp->Prop)(Zlh:EnP 222 (mkE zds zdv (λa=>Zle a.1)) false):EnP 221 (zzy Zle) false:=eo (cgP 19 [(283,(zzx Zle))]) (.q (.s (.q (.b (.loop [(8,.i)] (.q (.s (.c .l .l) (.s (.b (.q (.q (.c .w .l)))) .l)))))) .w)) func221 ⟨(Zer Zle Zlh),trivial⟩
def Zb9:ArgT (Sl×Unit):=(asl (ArgT.fn 283 az))
def Zbj:Ty Bool:=tb
def zzz(Zle:TExpr->(Bool->Hp->Prop)->Hp->Prop):zl:=mkE Zb9 Zbj λa=>F.Z7 Zle a.1
theorem Zet(Zle:TExpr->(Bool->Hp->Prop)->Hp->Prop)(Zlh:EnP 222 (mkE zds zdv (λa=>Zle a.1)) false):EnP 162 (zzz Zle) false:=eo (cgP 9 [(221,(zzy Zle))]) (.q .w) func162 ⟨(Zes Zle Zlh),trivial⟩
def Z00:zl:=mkE zds zdv λa=>F.z2s a.1
def Zbr(n:Nat):Cfg:=(cgP 68 [(280,zzr),(281,zzv),(282,zzw),(162,(zzz (F.Qa n)))] [] [(5,1),(9,1),(14,1),(17,1),(23,1),(28,1),(35,1),(39,1),(46,1),(50,1),(54,1),(58,1),(63,1)] [1])
theorem Z6x:∃fn,prog.funcs[222]?=some fn/\fn.body.isNone=false/\(fn.name == "runtime.NumGoroutine")=false:=⟨_,func222,rfl,by decide⟩
set_option maxHeartbeats 4000000 in
theorem Z78:∀n a K D w,Sub D w->F.Qa n a.1 K D->Calls prog 222 (zds.up a).toArray w (z5w (λv h=>zdv.dn v λr=>K r h) D w)
 | 0,_,_,_,_,_,h=>h.elim
 | n+1,a,K,D,w,hs,h=>z1u (C:=Zbr n) (F:=λa=>F.Qa (n+1) a.1) (fn:=f222) (c:=bd f222) (an:=(.seq .leaf (.join [] (.seq (.draw [0,1,2,3,4,5,6,7,8,9,10,11,12,13,14,15,16,17]) (.cond (.seq .leaf .leaf) .leaf)) (.seq (.seq .leaf (.block (.seq .leaf (.cond (.seq .leaf (.seq .leaf .leaf)) (.seq .leaf (.cond (.seq .leaf .leaf) .leaf)))))) (.seq .leaf .leaf))))) ⟨Zel,Zep,Zeq,(Zet (F.Qa n) (Y8 Z6x (Z78 n))),trivial⟩ trivial func222 rfl rfl (λ_=>rfl) (by intro a K D;kernel_rfl) a K D w hs h
theorem Zeu:EnP 222 Z00 false:=Y8 Z6x (λa K D w hs h=>h.elim λm h=>Z78 m a K D w hs h)
def zpo:ArgT (TExpr×Unit):=(ac z93 az)
def zq4:Ty Int:=ti
def Z01:zl:=mkE zpo zq4 λa=>F.z48 a.1
def Zbs(n:Nat):Cfg:=(cgP 20 [(223,mkE zpo zq4 (λa=>F.X7 n a.1))] [] [(6,1)] [1,5])
theorem Z6y:∃fn,prog.funcs[223]?=some fn/\fn.body.isNone=false/\(fn.name == "runtime.NumGoroutine")=false:=⟨_,func223,rfl,by decide⟩
set_option maxHeartbeats 4000000 in
theorem Z79:∀n a K D w,Sub D w->F.X7 n a.1 K D->Calls prog 223 (zpo.up a).toArray w (z5w (λv h=>zq4.dn v λr=>K r h) D w)
 | 0,_,_,_,_,_,h=>h.elim
 | n+1,a,K,D,w,hs,h=>z1u (C:=Zbs n) (F:=λa=>F.X7 (n+1) a.1) (fn:=f223) (c:=bd f223) (an:=(.seq .leaf (.seq .leaf (.seq (.seq .leaf (.block (.loop [(3,.i),(9,.i)] (.seq .leaf (.seq (.cond .leaf .leaf) (.seq (.block (.seq .leaf .leaf)) .leaf)))))) (.seq .leaf .leaf))))) ⟨(Y8 Z6y (Z79 n)),trivial⟩ trivial func223 rfl rfl (λ_=>rfl) (by intro a K D;kernel_rfl) a K D w hs h
theorem Zev:EnP 223 Z01 false:=Y8 Z6y (λa K D w hs h=>h.elim λm h=>Z79 m a K D w hs h)
def Z02:zl:=mkE (ac z93 az) ti λa=>F.z49 a.1
theorem Zew:EnP 164 Z02 false:=eo (cgP 11 [(222,Z00),(223,Z01)] [] [] [1]) (.q (.s (.b (.q (.c .w (.q (.c .w .l))))) .w)) func164 ⟨Zeu,Zev,trivial⟩
def Z03:zl:=mkE (ac z93 az) tb λa=>F.Vo a.1
theorem Zex:EnP 163 Z03 false:=eo (cgP 6 [(164,Z02)] [] [] [1]) (.q .w) func163 ⟨Zew,trivial⟩
def Z04:zl:=mkE (asl (ArgT.fn 163 az)) ti λa=>F.yf a.1
theorem Zey:EnP 221 Z04 false:=eo (cgP 19 [(163,Z03)]) (.q (.s (.q (.b (.loop [(8,.i)] (.q (.s (.c .l .l) (.s (.b (.q (.q (.c .w .l)))) .l)))))) .w)) func221 ⟨Zex,trivial⟩
def Z05:zl:=mkE (asl (ArgT.fn 163 az)) tb λa=>F.Zn a.1
theorem Zez:EnP 162 Z05 false:=eo (cgP 9 [(221,Z04)]) (.q .w) func162 ⟨Zey,trivial⟩
def Z06:zl:=mkE (asl az) tb λa=>F.z0p a.1
theorem Zf0:EnP 165 Z06 false:=eo (cgP 49 []) (.q (.s (.draw [0,1,2,3,4,5,6,7,8,9,10,11,12,13,14,15]) .w)) func165 trivial
def zr8:zl:=mkE (asl (ai az)) ti λa=>F.Xl a.1 a.2.1
theorem Z5r:EnP 104 zr8 false:=eo (cgP 19 []) (.q (.s (.q (.b (.loop [(8,.i)] (.q (.s (.c .l .l) (.s (.b (.q (.q (.c .w .l)))) .l)))))) .w)) func104 trivial
end Den
end

noncomputable section
set_option maxRecDepth 100000
namespace Den
open Go Go.Proofs.Tryz
def z9m:zl:=mkE (asl (ai az)) tb λa=>F.Zz a.1 a.2.1
theorem zcd:EnP 40 z9m false:=eo (cgP 9 [(104,zr8)]) (.q .w) func40 ⟨Z5r,trivial⟩
def Z07:zl:=mkE (asl az) tb λa=>F.Xh a.1
theorem Zf1:EnP 166 Z07 false:=eo (cgP 18 [(40,z9m)]) (.q (.s (.q (.b (.loop [(7,.i)] (.q (.s (.c .l .l) (.s (.b (.q (.q (.c .w .l)))) .l)))))) .w)) func166 ⟨zcd,trivial⟩
def Z08:zl:=mkE (ai (ap az)) tb λa=>F.z18 a.1 a.2.1
theorem Zf2:EnP 220 Z08 false:=eo (cgP 11 []) (.q .w) func220 trivial
def Z09:zl:=mkE (asl (ArgT.fnc 220 1 az)) ti λa=>F.Yi a.1 a.2.1
theorem Zf3:EnP 98 Z09 false:=eo (cgP 19 [(220,Z08)]) (.q (.s (.q (.b (.loop [(8,.i)] (.q (.s (.c .l .l) (.s (.b (.q (.q (.c .w .l)))) .l)))))) .w)) func98 ⟨Zf2,trivial⟩
def Z0a:zl:=mkE (asl (ArgT.fnc 220 1 az)) tb λa=>F.y8 a.1 a.2.1
theorem Zf4:EnP 92 Z0a false:=eo (cgP 9 [(98,Z09)]) (.q .w) func92 ⟨Zf3,trivial⟩
def Z0b:zl:=mkE (asl (ai (ai az))) tb λa=>F.Ws a.1 a.2.1 a.2.2.1
theorem Zf5:EnP 161 Z0b false:=eo (cgP 17 [(92,Z0a)]) (.q .w) func161 ⟨Zf4,trivial⟩
def Z0c:zl:=mkE (ac Xd (ai (ai az))) tb λa=>F.z0o a.1 a.2.1 a.2.2.1
theorem Zf6:EnP 88 Z0c false:=eo (cgP 86 [(160,zr0),(162,Z05),(165,Z06),(166,Z07),(161,Z0b)] [] [(10,3),(18,3),(20,7),(27,3),(29,7),(36,3),(39,7),(43,3),(46,7),(49,3),(54,3),(59,7),(63,3),(68,3),(75,3),(78,3),(82,3)] [3,7]) (.q (.q (.join [] (.q (.c .w .l)) (.s (.q (.c .w .l)) (.join [] (.q (.c .w .l)) (.s (.q (.b (.join [(70,.b)] (.q (.c .l (.q (.c .l (.q (.c .l .l)))))) (.c .w .l)))) .w)))))) func88 ⟨Z5j,Zez,Zf0,Zf1,Zf5,trivial⟩
def Z0d:zl:=mkE (ac Xd (ap (ap az))) tb λa=>F.z6l a.1 a.2.1 a.2.2.1
theorem Zf7:EnP 87 Z0d false:=eo (cgP 9 [(88,Z0c)] [] [] [3]) (.q .w) func87 ⟨Zf6,trivial⟩
def Z0e:zl:=mkE (ac Xd (ap az)) tb λa=>F.Yp a.1 a.2.1
theorem Zf8:EnP 159 Z0e false:=eo { P:=prog,n:=8,tab:=[(87,Z0d)],locL:=[2],fnL:=[(4,87,2)] } (.q .w) func159 ⟨Zf7,trivial⟩
def Z0f:zl:=mkE (asl (ArgT.fnc 159 1 az)) ti λa=>F.zy a.1 a.2.1
theorem Zf9:EnP 219 Z0f false:=eo (cgP 19 [(159,Z0e)]) (.q (.s (.q (.b (.loop [(8,.i)] (.q (.s (.c .l .l) (.s (.b (.q (.q (.c .w .l)))) .l)))))) .w)) func219 ⟨Zf8,trivial⟩
def Z0g:zl:=mkE (asl (ArgT.fnc 159 1 az)) tb λa=>F.zx a.1 a.2.1
theorem Zfa:EnP 158 Z0g false:=eo (cgP 9 [(219,Z0f)]) (.q .w) func158 ⟨Zf9,trivial⟩
def Z0h:zl:=mkE (asl (ArgT.fnc 87 2 az)) tb λa=>F.yr a.1 a.2.1
theorem Zfb:EnP 86 Z0h false:=eo (cgP 9 [(158,Z0g)]) (.q .w) func86 ⟨Zfa,trivial⟩
def zr9:zl:=mkE (ac z05 az) ti λa=>F.z12 a.1
theorem Z5s:EnP 35 zr9 false:=eo (cgP 49 [(70,Z9w),(71,Zac),(74,Zah),(78,Zam),(80,zz1),(83,zz8),(86,Z0h)] [] [] [3,4]) (.q (.s (.q (.c .w .l)) (.s (.drawP [0,1,2,3,4,5,6,7,8,9] [3,4]) (.join [(5,.b)] .l (.s (.q (.c .w .l)) .w))))) func35 ⟨Zjl,Zk1,Zk6,Zkb,Zdv,Ze2,Zfb,trivial⟩
def Z0i:zl:=mkE (asl (asl az)) tb λa=>F.Xk a.1 a.2.1
theorem Zfc:EnP 225 Z0i false:=eo (cgP 26 []) (.q (.s (.q (.c .w .l)) (.s (.q (.b (.loop [(13,.i)] (.q (.s (.c .l .l) (.s (.b (.q (.s (.draw [0,1,2,3,4,5,6,7,8]) (.c .w .l)))) .l)))))) .w))) func225 trivial
def Z0j:zl:=mkE (asl (asl az)) tb λa=>F.z0i a.1 a.2.1
theorem Zfd:EnP 324 Z0j false:=eo (cgP 26 []) (.q (.s (.q (.c .w .l)) (.s (.q (.b (.loop [(13,.i)] (.q (.s (.c .l .l) (.s (.b (.q (.s (.draw [0,1,2,3,4,5,6,7,8]) (.c .w .l)))) .l)))))) .w))) func324 trivial
def Z0k:zl:=mkE (ac qe (ac qe az)) tb λa=>F.z3n a.1 a.2.1
theorem Zfe:EnP 284 Z0k false:=eo (cgP 17 [(324,Z0j)] [] [(5,2),(7,3),(11,2),(13,3)] [2,3]) (.q .w) func284 ⟨Zfd,trivial⟩
def zkv:ArgT (Sl×Sl×Unit):=(asl (asl (ArgT.fn 227 az)))
def zkz:Ty Bool:=tb
def Zba:ArgT (TExpr×TExpr×Unit):=(ac z93 (ac z93 az))
def Zbk:Ty Bool:=tb
def Z0l(Zlf:Sl->Sl->(Bool->Hp->Prop)->Hp->Prop):zl:=mkE Zba Zbk λa=>F.zbg Zlf a.1 a.2.1
theorem Zff(Zlf:Sl->Sl->(Bool->Hp->Prop)->Hp->Prop)(Zli:EnP 226 (mkE zkv zkz (λa=>Zlf a.1 a.2.1)) false):EnP 227 (Z0l Zlf) false:=eo (cgP 42 [(284,Z0k),(226,mkE zkv zkz (λa=>Zlf a.1 a.2.1))] [] [(5,2),(7,3),(11,2),(13,3),(18,2),(19,2),(21,3),(22,3),(27,2),(28,2),(30,3),(31,3),(36,2),(38,3)] [2,3]) (.q .w) func227 ⟨Zfe,Zli,trivial⟩
def Z0m:zl:=mkE zkv zkz λa=>F.Zr a.1 a.2.1
def Zbt(n:Nat):Cfg:=(cgP 32 [(227,(Z0l (F.zn n)))] [] [] [8,9])
theorem Z6z:∃fn,prog.funcs[226]?=some fn/\fn.body.isNone=false/\(fn.name == "runtime.NumGoroutine")=false:=⟨_,func226,rfl,by decide⟩
set_option maxHeartbeats 4000000 in
theorem Z7a:∀n a K D w,Sub D w->F.zn n a.1 a.2.1 K D->Calls prog 226 (zkv.up a).toArray w (z5w (λv h=>zkz.dn v λr=>K r h) D w)
 | 0,_,_,_,_,_,h=>h.elim
 | n+1,a,K,D,w,hs,h=>z1u (C:=Zbt n) (F:=λa=>F.zn (n+1) a.1 a.2.1) (fn:=f226) (c:=bd f226) (an:=(.seq .leaf (.seq (.seq .leaf (.cond (.seq .leaf .leaf) .leaf)) (.seq (.seq .leaf (.block (.loop [(17,.i)] (.seq .leaf (.seq (.cond .leaf .leaf) (.seq (.block (.seq .leaf (.seq .leaf (.seq .leaf (.cond (.seq .leaf .leaf) .leaf))))) .leaf)))))) (.seq .leaf .leaf))))) ⟨(Zff (F.zn n) (Y8 Z6z (Z7a n))),trivial⟩ trivial func226 rfl rfl (λ_=>rfl) (by intro a K D;kernel_rfl) a K D w hs h
theorem Zfg:EnP 226 Z0m false:=Y8 Z6z (λa K D w hs h=>h.elim λm h=>Z7a m a K D w hs h)
def Z0n:zl:=mkE (ac Xd (ac Xd az)) tb λa=>F.z0n a.1 a.2.1
theorem Zfh:EnP 172 Z0n false:=eo (cgP 38 [(225,Z0i),(226,Z0m)] [] [(5,2),(7,3),(11,2),(13,3),(18,2),(20,3),(25,2),(27,3),(32,2),(34,3)] [2,3]) (.q .w) func172 ⟨Zfc,Zfg,trivial⟩
def Z0o:zl:=mkE (ac Xd (ap az)) tb λa=>F.z11 a.1 a.2.1
theorem Zfi:EnP 171 Z0o false:=eo (cgP 7 [(172,Z0n)] [] [] [2]) (.q .w) func171 ⟨Zfh,trivial⟩
def Z0p:zl:=mkE (asl (ArgT.fnc 171 1 az)) ti λa=>F.Zu a.1 a.2.1
theorem Zfj:EnP 219 Z0p false:=eo (cgP 19 [(171,Z0o)]) (.q (.s (.q (.b (.loop [(8,.i)] (.q (.s (.c .l .l) (.s (.b (.q (.q (.c .w .l)))) .l)))))) .w)) func219 ⟨Zfi,trivial⟩
def Z0q:zl:=mkE (asl (ArgT.fnc 171 1 az)) tb λa=>F.zo a.1 a.2.1
theorem Zfk:EnP 158 Z0q false:=eo (cgP 9 [(219,Z0p)]) (.q .w) func158 ⟨Zfj,trivial⟩
def Z0r:zl:=mkE (ac z05 az) ts λa=>F.z38 a.1
theorem Zfl:EnP 96 Z0r false:=eo (cgP 52 [(158,Z0q)] [] [(10,1),(17,5),(19,5),(29,5),(34,1)] [1,5,47]) (.q (.q (.s (.q (.b (.loop [(3,.s),(13,.i)] (.q (.s (.c .l .l) (.s (.b (.q (.q (.b (.loop [(3,.s),(23,.i)] (.q (.s (.c .l .l) (.join [(3,.s)] (.b (.q (.q (.q (.q (.c .l .l)))))) .l)))))))) .l)))))) .w))) func96 ⟨Zfk,trivial⟩
def Z0s:zl:=mkE (asl (ai az)) ts λa=>F.yo a.1 a.2.1
theorem Zfm:EnP 170 Z0s false:=eo (cgP 27 []) (.q (.join [] (.q (.c .l .l)) (.s (.q (.q (.c .l .l))) .w))) func170 trivial
def Z0t:zl:=mkE (asl az) ts λa=>F.yd a.1
theorem Zfn:EnP 95 Z0t false:=eo (cgP 36 [(170,Z0s)]) (.q (.q (.s (.q (.b (.loop [(3,.i),(11,.i)] (.q (.s (.c .l .l) (.join [(3,.i)] (.b (.q (.q (.q (.c .l .l))))) .l)))))) (.q (.s (.q (.b (.loop [(6,.s),(27,.i)] (.q (.s (.c .l .l) (.s (.b .w) .l)))))) .w))))) func95 ⟨Zfm,trivial⟩
def Z0u:zl:=mkE (asl az) ts λa=>F.Wu a.1
theorem Zfo:EnP 97 Z0u false:=eo (cgP 8 []) (.q (.s (.q (.c .w .l)) .w)) func97 trivial
def Z0v:zl:=mkE (ac z05 az) (Ty.leaf .ptr) λa=>F.z07 a.1
theorem Zfp:EnP 38 Z0v false:=eo (cgP 99 [(96,Z0r),(95,Z0t),(97,Z0u)] [] [(12,1),(20,1),(32,5),(48,7),(51,7),(63,7),(67,7),(72,7)] [1,5,7,34,61,84,93]) (.q (.s (.draw [0,1,2,3,4,5,6,7,8,9]) (.s (.q (.b (.loop [(23,.i)] (.q (.s (.c .l .l) (.s (.b (.q (.draw [0,1,2,3,4,5,6,7,8,9,10,11]))) .l)))))) (.s (.q (.b (.loop [(44,.i)] (.q (.s (.c .l .l) (.s (.b (.q (.q (.s (.q (.b (.loop [(8,.s),(54,.i)] (.q (.s (.c .l .l) (.join [(8,.s)] (.b (.q (.q (.q (.c .l .l))))) .l)))))) .l)))) .l)))))) .w)))) func38 ⟨Zfl,Zfn,Zfo,trivial⟩
def Z0w:zl:=mkE (ap az) ts λa=>F.y_henneberg_peeler_all a.1
theorem Zfq:EnP 99 Z0w false:=eo (cgP 36 [] [] [] [17,32]) (.q (.q (.s (.q (.b (.loop [(3,.s),(12,.i)] (.q (.s (.c .l .l) (.s (.b .w) .l)))))) (.s (.q (.b (.loop [(3,.s),(26,.i)] (.q (.s (.c .l .l) (.s (.b .w) .l)))))) .w)))) func99 trivial
def Z0x:zl:=mkE (ai (ap az)) tb λa=>F.y_henneberg_peeler_remaining_1 a.1 a.2.1
theorem Zfr:EnP 228 Z0x false:=eo (cgP 7 [(40,z9m)]) (.q .w) func228 ⟨zcd,trivial⟩
def Z0y:zl:=mkE (asl (ArgT.fnc 228 1 az)) ti λa=>F.Z9 a.1 a.2.1
theorem Zfs:EnP 98 Z0y false:=eo (cgP 19 [(228,Z0x)]) (.q (.s (.q (.b (.loop [(8,.i)] (.q (.s (.c .l .l) (.s (.b (.q (.q (.c .w .l)))) .l)))))) .w)) func98 ⟨Zfr,trivial⟩
def Z0z:zl:=mkE (asl (ArgT.fnc 228 1 az)) tb λa=>F.Z1 a.1 a.2.1
theorem Zft:EnP 92 Z0z false:=eo (cgP 9 [(98,Z0y)]) (.q .w) func92 ⟨Zfs,trivial⟩
def Z10:zl:=mkE (ap (ai (asl az))) ts λa=>F.y_henneberg_peeler_remaining a.1 a.2.1 a.2.2.1
theorem Zfu:EnP 173 Z10 false:=eo (cgP 35 [(40,z9m),(92,Z0z)] [] [] [31]) (.q (.q (.s (.q (.b (.loop [(7,.s),(15,.i)] (.q (.s (.c .l .l) (.join [(7,.s)] (.b (.q (.q (.c .l .l)))) .l)))))) .w))) func173 ⟨zcd,Zft,trivial⟩
def zra:zl:=mkE (ap (ai az)) ti λa=>F.y_henneberg_peeler_equations a.1 a.2.1
theorem Z5t:EnP 178 zra false:=eo (cgP 21 [(160,zr0)] [] [(19,5)] [5]) (.q (.q .w)) func178 ⟨Z5j,trivial⟩
def Z11:zl:=mkE (ap (asl az)) ti λa=>F.y_henneberg_peeler_weight a.1 a.2.1
theorem Zfv:EnP 174 Z11 false:=eo (cgP 21 [(178,zra)]) (.q (.q (.s (.q (.b (.loop [(5,.i),(10,.i)] (.q (.s (.c .l .l) (.s (.b .w) .l)))))) .w))) func174 ⟨Z5t,trivial⟩
def Z12:zl:=mkE (ac Xd (asl (ai az))) tb λa=>F.z6z a.1 a.2.1 a.2.2.1
theorem Zfw:EnP 176 Z12 false:=eo (cgP 52 [(104,zr8),(40,z9m)] [] [(8,3),(14,3),(22,3),(32,3),(37,3),(44,3)] [3]) (.q (.q (.s (.q (.c .w .l)) (.s (.q (.b (.join [(16,.b)] (.q (.c .l .l)) (.c .w (.join [(19,.b)] (.q (.c .l .l)) (.c (.s (.draw [0,1,2,3,4,5,6,7,8]) .l) (.q (.c (.s (.draw [0,1,2,3,4,5,6,7,8,9,10,11,12,13,14,15,16,17,18,19,20]) .l) .l)))))))) .w)))) func176 ⟨Z5r,zcd,trivial⟩
def Z13:zl:=mkE (ai (ap (ap az))) tb λa=>F.y_henneberg_peeler_removable_1 a.1 a.2.1 a.2.2.1
theorem Zfx:EnP 175 Z13 false:=eo (cgP 20 [(176,Z12)]) (.q (.s (.draw [0,1,2,3,4,5,6,7,8,9,10,11,12,13,14,15]) .l)) func175 ⟨Zfw,trivial⟩
def Z14:zl:=mkE (asl (ArgT.fnc 175 2 az)) ti λa=>F.yb a.1 a.2.1
theorem Zfy:EnP 98 Z14 false:=eo (cgP 19 [(175,Z13)]) (.q (.s (.q (.b (.loop [(8,.i)] (.q (.s (.c .l .l) (.s (.b (.q (.q (.c .w .l)))) .l)))))) .w)) func98 ⟨Zfx,trivial⟩
def Z15:zl:=mkE (asl (ArgT.fnc 175 2 az)) tb λa=>F.Z2 a.1 a.2.1
theorem Zfz:EnP 92 Z15 false:=eo (cgP 9 [(98,Z14)]) (.q .w) func92 ⟨Zfy,trivial⟩
def Z16:zl:=mkE (ac Xd (ai az)) ts λa=>F.z5h a.1 a.2.1
theorem Zg0:EnP 285 Z16 false:=eo (cgP 25 [] [] [(8,2)] [2,21]) (.q (.q (.s (.q (.b (.loop [(5,.s),(11,.i)] (.q (.s (.c .l .l) (.join [(5,.s)] (.b (.q (.q (.c .l .l)))) .l)))))) .w))) func285 trivial
def Z17:zl:=mkE (ai (ap (ap (ap az)))) tb λa=>F.Vu a.1 a.2.1 a.2.2.1 a.2.2.2.1
theorem Zg1:EnP 286 Z17 false:=eo (cgP 16 []) (.q (.s (.draw [0,1,2,3,4,5,6,7,8,9,10]) .l)) func286 trivial
end Den
end

noncomputable section
set_option maxRecDepth 100000
namespace Den
open Go Go.Proofs.Tryz
def Z18:zl:=mkE (ac Xd (asl (ai az))) ti λa=>F.z8j a.1 a.2.1 a.2.2.1
theorem Zg2:EnP 229 Z18 false:=eo (cgP 77 [(285,Z16),(286,Z17)]) (.q (.q (.q (.s (.q (.b (.q (.c (.s (.q (.c .w .l)) .w) (.q (.c (.s (.q (.c .w .l)) .w) (.q (.c (.s (.q (.c .w .l)) .w) .l)))))))) (.s (.q (.c .w .l)) (.s (.q (.b (.join [(44,.b)] (.q (.c .l .l)) (.c .w (.q (.c .w (.join [(49,.b)] (.q (.c .l (.q (.c .l (.q (.c .l .l)))))) (.c .w (.q (.c (.q (.c .w .l)) (.q (.c (.q (.c .w .l)) (.join [(66,.b)] (.q (.c .l .l)) (.c (.s (.q (.c .w .l)) .w) (.q (.c (.s (.q (.c .w .l)) .w) .l)))))))))))))))) .w)))))) func229 ⟨Zg0,Zg1,trivial⟩
def Z19:zl:=mkE (ap (ai (ai az))) ti λa=>F.y_henneberg_peeler_kind a.1 a.2.1 a.2.2.1
theorem Zg3:EnP 177 Z19 false:=eo (cgP 20 [(229,Z18)]) (.q (.s (.draw [0,1,2,3,4,5,6,7,8,9,10,11,12,13]) .l)) func177 ⟨Zg2,trivial⟩
def Z1a:zl:=mkE (ap (ai (asl az))) tb λa=>F.y_henneberg_peeler_removable a.1 a.2.1 a.2.2.1
theorem Zg4:EnP 101 Z1a false:=eo (cgP 60 [(40,z9m),(173,Z10),(174,Z11),(92,Z15),(177,Z19),(178,zra)]) (.q (.s (.q (.c .w .l)) (.q (.s (.q (.c .w .l)) (.s (.q (.c .w .l)) (.s (.q (.b (.loop [(37,.i)] (.q (.s (.c .l .l) (.s (.b (.q (.q (.join [(11,.b)] .l (.join [(11,.b)] (.q (.c .l .l)) (.q (.c .w .l))))))) .l)))))) .w)))))) func101 ⟨zcd,Zfu,Zfv,Zfz,Zg3,Z5t,trivial⟩
def Z1b:zl:=mkE (ai (ap (ap az))) tb λa=>F.y_henneberg_peeler_peel_1 a.1 a.2.1 a.2.2.1
theorem Zg5:EnP 100 Z1b false:=eo (cgP 9 [(101,Z1a)]) (.q .w) func100 ⟨Zg4,trivial⟩
def Z1c:zl:=mkE (asl (ArgT.fnc 100 2 az)) ti λa=>F.Zy a.1 a.2.1
theorem Zg6:EnP 98 Z1c false:=eo (cgP 19 [(100,Z1b)]) (.q (.s (.q (.b (.loop [(8,.i)] (.q (.s (.c .l .l) (.s (.b (.q (.q (.c .w .l)))) .l)))))) .w)) func98 ⟨Zg5,trivial⟩
def zrb:zl:=mkE (ai (ap az)) tb λa=>F.y_henneberg_peeler_peel_2 a.1 a.2.1
theorem Z5u:EnP 103 zrb false:=eo (cgP 7 [(40,z9m)]) (.q .w) func103 ⟨zcd,trivial⟩
def Z1d:zl:=mkE (asl (ArgT.fnc 103 1 az)) ti λa=>F.yw a.1 a.2.1
theorem Zg7:EnP 98 Z1d false:=eo (cgP 19 [(103,zrb)]) (.q (.s (.q (.b (.loop [(8,.i)] (.q (.s (.c .l .l) (.s (.b (.q (.q (.c .w .l)))) .l)))))) .w)) func98 ⟨Z5u,trivial⟩
def Z1e:zl:=mkM (asl (ArgT.fnc 103 1 az)) ts λa=>F.Zx a.1 a.2.1
theorem Zg8:EnP 102 Z1e true:=eoM (cgP 42 [(98,Z1d),(103,zrb)]) (.q (.q (.s (.q (.c .w .l)) (.s (.q (.b (.loop [(5,.i),(6,.i)] (.s (.q (.c .l .l)) (.join [(5,.i)] (.b (.q (.q (.c .w .l)))) .l))))) (.q .w))))) func102 ⟨Zg7,Z5u,trivial⟩
def Z1f:zl:=mkE (ap az) (t2 ts ts) λa=>F.y_henneberg_peeler_peel a.1
theorem Zg9:EnP 39 Z1f false:=eo (cgP 27 [(99,Z0w),(98,Z1c),(102,Z1e)] [102] [] [19]) (.q (.q (.s (.b (.loop [(4,.leaf (.ptr))] (.b (.q (.s (.q (.c .l .l)) (.draw [0,1,3,2,4,5,6,7,8])))))) (.q .w)))) func39 ⟨Zfq,Zg6,Zg8,trivial⟩
def Z1g:zl:=mkE (ac z05 az) (t2 ts ts) λa=>F.z2v a.1
theorem Zga:EnP 13 Z1g false:=eo (cgP 12 [(35,zr9),(38,Z0v),(39,Z1f)] [] [] [1]) (.q (.s (.q (.c .w .l)) .w)) func13 ⟨Z5s,Zfp,Zg9,trivial⟩
def zlj:zl:=mkE (ai (ai az)) tb λa=>F.Wo a.1 a.2.1
theorem ztf:EnP 49 zlj false:=eo (cgP 12 []) (.q .w) func49 trivial
def Z1h:zl:=mkE (asl az) ti λa=>F.z8a a.1
theorem Zgb:EnP 168 Z1h false:=eo (cgP 18 []) (.q (.q (.s (.q (.b (.loop [(8,.i)] (.q (.s (.c .l .l) (.s (.b (.q (.q (.c .w .l)))) .l)))))) .w))) func168 trivial
def zrc:zl:=mkE (ac z0k (ac z0k az)) ti λa=>F.X3 a.1 a.2.1
theorem ztg:EnP 94 zrc false:=eo (cgP 17 [(169,znu),(168,Z1h)] [] [(5,2),(7,3),(10,2),(12,3)] [2,3]) (.q (.s (.draw [0,1,2,3,5,6,7,8,4,9,10,11,12]) .l)) func94 ⟨zva,Zgb,trivial⟩
def z7e:zl:=mkE (ac Xs az) tb λa=>F.Qw a.1
theorem z91:EnP 37 z7e false:=eo (cgP 58 [(49,zlj),(94,zrc)] [] [(5,1),(9,1),(13,1),(21,1),(23,4),(28,1),(30,4),(36,4),(38,4),(46,1)] [1,4]) (.q (.join [] (.q (.c .w .l)) (.s (.q (.b (.loop [(16,.i)] (.q (.s (.c .l .l) (.join [] (.b (.q (.s (.draw [0,1,2,3,4,5,6,7,8,9,10,11,12,13,14,15,16,17,18,19,20,21,22,23,24,25,26,27,28,29,30,31,32,33,34,35]) (.c .w .l)))) .l)))))) .w))) func37 ⟨ztf,ztg,trivial⟩
def Z1i:zl:=mkE (ac Xs az) ts λa=>F.z8e a.1
theorem Zgc:EnP 12 Z1i false:=eo (cgP 94 [(37,z7e)] [] [(14,1),(18,1),(21,1),(29,7),(36,7),(43,7),(50,7)] [1,7,90]) (.q (.s (.q (.c .w .l)) (.q (.s (.q (.b (.loop [(4,.b)] (.s (.q (.c .l .l)) (.b (.q (.q (.s (.q (.b (.loop [(24,.i)] (.q (.s (.c .l .l) (.join [] (.b (.q (.q (.c .w .l)))) .l)))))) (.q (.b (.loop [(4,.b),(59,.i)] (.q (.s (.c .l .l) (.join [(4,.b)] (.b (.q (.q (.c .l .l)))) .l)))))))))))))) (.q (.s (.q (.b (.loop [(9,.s),(80,.i)] (.q (.s (.c .l .l) (.join [(9,.s)] (.b (.q (.q (.c .l .l)))) .l)))))) .w)))))) func12 ⟨z91,trivial⟩
def Z1j:zl:=mkE (ac z05 az) tb λa=>F.Vp a.1
theorem Zgd:EnP 16 Z1j false:=eo (cgP 16 [(35,zr9),(13,Z1g)] [] [] [1]) (.q (.s (.q (.c .w .l)) (.q .w))) func16 ⟨Z5s,Zga,trivial⟩
def Z1k:zl:=mkE (ai az) (Ty.leaf .ptr) λa=>F.z5i a.1
theorem Zge:EnP 105 Z1k false:=eo (cgP 7 []) (.q .w) func105 trivial
def zrd:zl:=mkE (ap (ai az)) ti λa=>F.y_pebble_game_free a.1 a.2.1
theorem Z5v:EnP 230 zrd false:=eo (cgP 14 []) (.q .w) func230 trivial
def Z1l:zl:=mkM (asl (ai (ai az))) ts λa=>F.qt a.1 a.2.1 a.2.2.1
theorem Zgf:EnP 287 Z1l true:=eoM (cgP 33 []) (.q (.q (.s (.q (.c .w .l)) (.q (.s (.draw [0,1,2,3,4,5,6,7]) (.q .w)))))) func287 trivial
def zpp:ArgT ((Option Addr)×Int×Sl×Unit):=(ap (ai (asl az)))
def zq5:Ty Bool:=tb
def Z1m:zl:=mkM zpp zq5 λa=>F.y_pebble_game_fetch a.1 a.2.1 a.2.2.1
def Zbu(n:Nat):Cfg:=(cgP 73 [(230,zrd),(287,Z1l),(231,mkM zpp zq5 (λa=>F.y_pebble_game_fetch_ n a.1 a.2.1 a.2.2.1))] [287,231] [] [69])
theorem Z70:∃fn,prog.funcs[231]?=some fn/\fn.body.isNone=false/\(fn.name == "runtime.NumGoroutine")=false:=⟨_,func231,rfl,by decide⟩
set_option maxHeartbeats 4000000 in
theorem Z7b:∀n a K D w,Sub D w->F.y_pebble_game_fetch_ n a.1 a.2.1 a.2.2.1 K D->Calls prog 231 (zpp.up a).toArray w (z5w (λv h=>zq5.dn v λr=>K r h) D w)
 | 0,_,_,_,_,_,h=>h.elim
 | n+1,a,K,D,w,hs,h=>z1u (C:=Zbu n) (F:=λa=>F.y_pebble_game_fetch_ (n+1) a.1 a.2.1 a.2.2.1) (fn:=f231) (c:=bd f231) (an:=(.seq .leaf (.seq .leaf (.seq (.seq .leaf (.block (.loop [(20,.i)] (.seq .leaf (.seq (.cond .leaf .leaf) (.join [] (.block (.seq .leaf (.seq (.seq .leaf (.cond .leaf .leaf)) (.seq .leaf (.cond (.seq (.drawC [0,1,2,3,4,5,6,7,8,9,10,11,12,13,14] 15 [16,17] [3]) (.seq (.drawC [0,1,2,3,4,5,6,7,8,9,10,11,12,13] 14 [15,16] [3]) (.seq .leaf .leaf))) .leaf))))) .leaf)))))) (.seq .leaf .leaf))))) ⟨Z5v,Zgf,(z2g Z70 (Z7b n)),trivial⟩ trivial func231 rfl rfl (λ_=>rfl) (by intro a K D;kernel_rfl) a K D w hs h
theorem Zgg:EnP 231 Z1m true:=z2g Z70 (λa K D w hs h=>h.elim λm h=>Z7b m a K D w hs h)
def Z1n:zl:=mkM (ap (ai (ai az))) ti λa=>F.y_pebble_game_gather a.1 a.2.1 a.2.2.1
theorem Zgh:EnP 179 Z1n true:=eoM (cgP 51 [(230,zrd),(231,Z1m)] [231] [(23,8),(34,8),(38,8)] [8]) (.q (.s (.q (.b (.loop [(18,.i)] (.q (.s (.c .l .l) (.join [] (.b (.q (.b (.loop [] (.s (.q (.c .l .l)) (.b (.q (.q (.q (.c .l .l)))))))))) .l)))))) .w)) func179 ⟨Z5v,Zgg,trivial⟩
def Z1o:zl:=mkM (ap (ai (ai az))) tb λa=>F.y_pebble_game_accept a.1 a.2.1 a.2.2.1
theorem Zgi:EnP 106 Z1o true:=eoM (cgP 28 [(179,Z1n)] [179] [] [25]) (.q (.s (.q (.c .w .l)) (.s (.drawC [0,1,2,3,4,5,6,7,8,9,10,11,12,13] 14 [15,16] [3]) .w))) func106 ⟨Zgh,trivial⟩
def zre:zl:=mkE (ai (asl az)) (t2 ts (Ty.leaf .ptr)) λa=>F.z4p a.1 a.2.1
theorem Z5w:EnP 41 zre false:=eo (cgP 32 [(105,Z1k),(106,Z1o)] [106] [(20,9),(22,9)] [9,27]) (.q (.q (.q (.s (.q (.b (.loop [(7,.s),(14,.i)] (.q (.s (.c .l .l) (.join [(7,.s)] (.b (.q (.q (.c .l .l)))) .l)))))) .w)))) func41 ⟨Zge,Zgi,trivial⟩
def zrf:zl:=mkE (ac Xs az) ts λa=>F.Wf a.1
theorem Z5x:EnP 17 zrf false:=eo (cgP 17 [(37,z7e),(41,zre)] [] [(9,1),(11,1)] [1]) (.q (.s (.q (.c .w .l)) (.q .w))) func17 ⟨z91,Z5w,trivial⟩
def z5x:zl:=mkE az Xs λa=>F.z13
theorem zcc:EnP 26 z5x false:=eo (cgP 8 [] [] [] [0]) (.q .w) func26 trivial
def Z1p:zl:=mkE (ac Qt az) Zq λa=>F.z7h a.1
theorem Zgj:EnP 195 Z1p false:=eo (cgP 6 [] [] [] [1,2]) (.q .w) func195 trivial
def Z1q:zl:=mkE (ai az) Zq λa=>F.z1q a.1
theorem Zgk:EnP 131 Z1q false:=eo (cgP 6 [(28,Zcz),(195,Z1p)] [] [] [2]) (.q .w) func131 ⟨Zjh,Zgj,trivial⟩
def Z1r:zl:=mkE (ai (ai az)) ts λa=>F.z8t a.1 a.2.1
theorem Zgl:EnP 58 Z1r false:=eo (cgP 23 [(131,Z1q)] [] [] [7,20]) (.q (.q (.s (.q (.b (.loop [(5,.s),(6,.i)] (.s (.q (.c .l .l)) (.s (.b (.q (.join [(7,.box [.sl,.sl])] (.q (.c .l .l)) .l))) .l))))) .w))) func58 ⟨Zgk,trivial⟩
def zrg:zl:=mkE (ac Qt az) Qt λa=>F.z0f a.1
theorem Z5y:EnP 196 zrg false:=eo (cgP 16 [(213,zk0)] [] [(3,1),(4,1),(7,1),(8,1),(11,1),(12,1),(13,1),(14,1)] [1,2]) (.q (.s (.draw [0,1,2,4,5,6,3,8,9,7,10,11,12,13]) .w)) func196 ⟨zpd,trivial⟩
end Den
end

noncomputable section
set_option maxRecDepth 100000
namespace Den
open Go Go.Proofs.Tryz
def Z1s:zl:=mkE (ac Qt az) Zq λa=>F.z30 a.1
theorem Zgm:EnP 132 Z1s false:=eo (cgP 7 [(196,zrg)] [] [] [1,2]) (.q .w) func132 ⟨Z5y,trivial⟩
def zlk:zl:=mkE (ai az) Zq λa=>F.We a.1
theorem zth:EnP 59 zlk false:=eo (cgP 6 [(133,zby),(132,Z1s)] [] [] [2]) (.q .w) func59 ⟨zew,Zgm,trivial⟩
def z4v:zl:=mkE (ac Xs (asl az)) ts λa=>F.z1r a.1 a.2.1
theorem z9a:EnP 25 z4v false:=eo (cgP 68 [(58,Z1r),(59,zlk)] [] [(11,2),(18,2),(26,7),(34,7),(43,7),(49,7)] [2,7,64]) (.q (.q (.s (.q (.b (.loop [(5,.s),(14,.i)] (.q (.s (.c .l .l) (.s (.b (.q (.q (.s (.q (.b (.loop [(22,.i)] (.q (.s (.c .l .l) (.s (.b (.q (.s (.draw [0,1,2,3,4,5,6,7,8,9,10,11,12,13,14,15,16,17]) (.draw [0,1,2,3,4,5,6,7,8,9,10,11,12,14,15,13,16,17,18,19,20])))) .l)))))) .l)))) .l)))))) .w))) func25 ⟨Zgl,zth,trivial⟩
def zll:zl:=mkE (asl az) ti λa=>F.Wc a.1
theorem zti:EnP 122 zll false:=eo (cgP 10 []) (.q (.s (.q (.c .w .l)) .w)) func122 trivial
def Z1t:zl:=mkE (asl (ap az)) tb λa=>F.z63 a.1 a.2.1
theorem Zgn:EnP 121 Z1t false:=eo (cgP 9 [(122,zll)]) (.q .w) func121 ⟨zti,trivial⟩
def Z1u:zl:=mkE (asl (ArgT.fnc 121 1 az)) ti λa=>F.yg a.1 a.2.1
theorem Zgo:EnP 124 Z1u false:=eo (cgP 19 [(121,Z1t)]) (.q (.s (.q (.b (.loop [(8,.i)] (.q (.s (.c .l .l) (.s (.b (.q (.q (.c .w .l)))) .l)))))) .w)) func124 ⟨Zgn,trivial⟩
def Z1v:zl:=mkE (asl (ArgT.fnc 121 1 az)) tb λa=>F.Z4 a.1 a.2.1
theorem Zgp:EnP 120 Z1v false:=eo (cgP 9 [(124,Z1u)]) (.q .w) func120 ⟨Zgo,trivial⟩
def zrh:zl:=mkE (asl az) tb λa=>F.z2y a.1
theorem Z5z:EnP 55 zrh false:=eo (cgP 7 [(120,Z1v)]) (.q .w) func55 ⟨Zgp,trivial⟩
def Z1w:zl:=mkE (asl az) ts λa=>F.z0u a.1
theorem Zgq:EnP 57 Z1w false:=eo (cgP 40 [(55,zrh),(122,zll)] [] [] [34]) (.q (.s (.q (.c .w .l)) (.q (.s (.q (.b (.loop [(15,.i)] (.q (.s (.c .l .l) (.s (.b (.q (.q (.b (.loop [(20,.i)] (.q (.s (.c .l .l) (.s (.b (.q (.draw [0,1,2,3,4,5,6,7,8,9,10,11,12,13]))) .l)))))))) .l)))))) .w)))) func57 ⟨Z5z,zti,trivial⟩
def Z1x:zl:=mkE (asl (ai az)) ts λa=>F.Yv a.1 a.2.1
theorem Zgr:EnP 259 Z1x false:=eo (cgP 27 []) (.q (.join [] (.q (.c .l .l)) (.s (.q (.q (.c .l .l))) .w))) func259 trivial
def Z1y:zl:=mkE (asl az) ts λa=>F.Ym a.1
theorem Zgs:EnP 187 Z1y false:=eo (cgP 36 [(259,Z1x)]) (.q (.q (.s (.q (.b (.loop [(3,.i),(11,.i)] (.q (.s (.c .l .l) (.join [(3,.i)] (.b (.q (.q (.q (.c .l .l))))) .l)))))) (.q (.s (.q (.b (.loop [(6,.s),(27,.i)] (.q (.s (.c .l .l) (.s (.b .w) .l)))))) .w))))) func187 ⟨Zgr,trivial⟩
def Z1z:zl:=mkE (ac Qt (ac Qt az)) ti λa=>F.zdd a.1 a.2.1
theorem Zgt:EnP 329 Z1z false:=eo (cgP 28 [(77,zk2),(349,zh2),(317,zr1)] [] [(17,2),(19,3),(22,3),(24,2)] [2,3]) (.q (.s (.s (.draw [0,2,1,3,4,5]) (.q (.c (.s (.q (.c .w .l)) .w) .l))) (.s (.draw [0,1,2,3,5,6,7,8,4,9,10,11]) .l))) func329 ⟨zpf,zmo,Z5k,trivial⟩
def Z20:zl:=mkE (ac Qt (ac Qt az)) tb λa=>F.z4o a.1 a.2.1
theorem Zgu:EnP 328 Z20 false:=eo (cgP 9 [(329,Z1z)] [] [] [2,3]) (.q .w) func328 ⟨Zgt,trivial⟩
def Z21:zl:=mkE (asl (asl (ArgT.fn 328 az))) tb λa=>F.yi a.1 a.2.1
theorem Zgv:EnP 327 Z21 false:=eo (cgP 32 [(328,Z20)] [] [] [8,9]) (.q (.s (.q (.c .w .l)) (.s (.q (.b (.loop [(17,.i)] (.q (.s (.c .l .l) (.s (.b (.q (.q (.q (.c .w .l))))) .l)))))) .w))) func327 ⟨Zgu,trivial⟩
def Z22:zl:=mkE (asl (asl az)) tb λa=>F.z68 a.1 a.2.1
theorem Zgw:EnP 297 Z22 false:=eo (cgP 8 [(327,Z21)]) (.q .w) func297 ⟨Zgv,trivial⟩
def Z23:zl:=mkE (asl (asl (ArgT.fn 297 az))) tb λa=>F.Zp a.1 a.2.1
theorem Zgx:EnP 296 Z23 false:=eo (cgP 32 [(297,Z22)]) (.q (.s (.q (.c .w .l)) (.s (.q (.b (.loop [(17,.i)] (.q (.s (.c .l .l) (.s (.b (.q (.q (.q (.c .w .l))))) .l)))))) .w))) func296 ⟨Zgw,trivial⟩
def zri:zl:=mkE (asl (asl az)) tb λa=>F.z03 a.1 a.2.1
theorem Z60:EnP 255 zri false:=eo (cgP 18 [(296,Z23)]) (.q .w) func255 ⟨Zgx,trivial⟩
def zrj:zl:=mkE (ai az) ts λa=>F.z2p a.1
theorem Z61:EnP 334 zrj false:=eo (cgP 18 [(133,zby)]) (.q (.q (.s (.q (.b (.loop [(9,.i)] (.q (.s (.c .l .l) (.s (.b .w) .l)))))) .w))) func334 ⟨zew,trivial⟩
def Z24:zl:=mkE (ac Qt az) tb λa=>F.z57 a.1
theorem Zgy:EnP 338 Z24 false:=eo (cgP 6 [(73,zk1)] [] [] [1]) (.q .w) func338 ⟨zpe,trivial⟩
def Z25:zl:=mkE (asl (ArgT.fn 338 az)) ti λa=>F.yz a.1
theorem Zgz:EnP 361 Z25 false:=eo (cgP 19 [(338,Z24)]) (.q (.s (.q (.b (.loop [(8,.i)] (.q (.s (.c .l .l) (.s (.b (.q (.q (.c .w .l)))) .l)))))) .w)) func361 ⟨Zgy,trivial⟩
def Z26:zl:=mkE (asl (ArgT.fn 338 az)) tb λa=>F.yl a.1
theorem Zh0:EnP 335 Z26 false:=eo (cgP 9 [(361,Z25)]) (.q .w) func335 ⟨Zgz,trivial⟩
def zlm:zl:=mkE (asl (ai az)) tb λa=>F.z04 a.1 a.2.1
theorem ztj:EnP 306 zlm false:=eo (cgP 14 [(335,Z26)]) (.q .w) func306 ⟨Zh0,trivial⟩
def zrk:zl:=mkE (asl az) tb λa=>F.z00 a.1
theorem Z62:EnP 305 zrk false:=eo (cgP 18 [(306,zlm)]) (.q (.s (.q (.b (.loop [(7,.i)] (.q (.s (.c .l .l) (.s (.b (.q (.q (.c .w .l)))) .l)))))) .w)) func305 ⟨ztj,trivial⟩
def zrl:zl:=mkE (asl (ac Qt az)) ts λa=>F.z4e a.1 a.2.1
theorem Z63:EnP 300 zrl false:=eo (cgP 22 [(334,zrj),(305,zrk),(73,zk1)] [] [] [3]) (.q (.join [] (.q (.c .w .l)) (.q (.q .w)))) func300 ⟨Z61,Z62,zpe,trivial⟩
def Z27:zl:=mkE (ac Qt az) tb λa=>F.zdk a.1
theorem Zh1:EnP 336 Z27 false:=eo (cgP 6 [(77,zk2)] [] [] [1]) (.q .w) func336 ⟨zpf,trivial⟩
def Z28:zl:=mkE (asl (ArgT.fn 336 az)) ti λa=>F.Qd a.1
theorem Zh2:EnP 361 Z28 false:=eo (cgP 19 [(336,Z27)]) (.q (.s (.q (.b (.loop [(8,.i)] (.q (.s (.c .l .l) (.s (.b (.q (.q (.c .w .l)))) .l)))))) .w)) func361 ⟨Zh1,trivial⟩
def Z29:zl:=mkE (asl (ArgT.fn 336 az)) tb λa=>F.qk a.1
theorem Zh3:EnP 335 Z29 false:=eo (cgP 9 [(361,Z28)]) (.q .w) func335 ⟨Zh2,trivial⟩
def zrm:zl:=mkE (asl az) tb λa=>F.z92 a.1
theorem Z64:EnP 301 zrm false:=eo (cgP 6 [(335,Z29)]) (.q .w) func301 ⟨Zh3,trivial⟩
def Z2a:zl:=mkE (asl az) ts λa=>F.Qc a.1
theorem Zh4:EnP 298 Z2a false:=eo (cgP 8 []) (.q (.s (.q (.c .w .l)) .w)) func298 trivial
def zrn:zl:=mkE (asl (asl az)) ts λa=>F.z67 a.1 a.2.1
theorem Z65:EnP 256 zrn false:=eo (cgP 19 [(298,Z2a),(133,zby)] [] [] [16]) (.q (.q (.s (.b (.loop [(5,.s)] (.s (.q (.c .l .l)) (.b .l)))) .w))) func256 ⟨Zh4,zew,trivial⟩
def zea:zl:=mkE (asl (asl az)) tb λa=>F.Wv a.1 a.2.1
theorem zis:EnP 263 zea false:=eo (cgP 14 [(305,zrk),(306,zlm)]) (.q .w) func263 ⟨Z62,ztj,trivial⟩
def zln:zl:=mkE (asl (asl (asl az))) tb λa=>F.z14 a.1 a.2.1 a.2.2.1
theorem ztk:EnP 308 zln false:=eo (cgP 17 [(263,zea),(306,zlm)]) (.q .w) func308 ⟨zis,ztj,trivial⟩
def zlo:zl:=mkE (asl az) (t2 ts ts) λa=>F.z7a a.1
theorem ztl:EnP 340 zlo false:=eo (cgP 15 []) (.q (.s (.draw [0,1,2,3,4,5,6,7,8,9,10,11,12]) .l)) func340 trivial
def zlp:zl:=mkE (asl az) (t2 ts ts) λa=>F.z3c a.1
theorem ztm:EnP 341 zlp false:=eo (cgP 14 []) (.q (.s (.draw [0,1,2,3,4,5,6,7,8,9,10,11]) .l)) func341 trivial
def Z2b:zl:=mkE (ac qe (ac qe az)) qe λa=>F.z4k a.1 a.2.1
theorem Zh5:EnP 377 Z2b false:=eo (cgP 40 [(210,z5y),(390,zr2),(212,zh5),(272,zui),(391,zr3)] [] [(7,2),(10,3),(13,2),(15,3),(18,2),(28,3),(34,2)] [2,3,4]) (.q (.s (.draw [0,1,3,4,2,5,6,7]) (.s (.q (.c (.s (.draw [0,1,2,3,4,5,6]) .l) .l)) (.s (.q (.c (.s (.draw [0,1,2,3,4,5,6]) .l) .l)) (.s (.draw [0,1,2,3,4,5,6]) .l))))) func377 ⟨z78,Z5l,zkp,Z6k,Z5m,trivial⟩
def Z2c:zl:=mkE (ac Qt (ac Qt az)) Qt λa=>F.z5j a.1 a.2.1
theorem Zh6:EnP 362 Z2c false:=eo (cgP 39 [(349,zh2),(377,Z2b),(350,zli),(148,znv),(198,zlh)] [] [(6,2),(10,3),(14,2),(16,3),(21,2),(23,3),(26,3),(28,2),(33,2),(35,3)] [2,3,4,5]) (.q (.join [(4,.box [.bool,.sl,.bool,.sl])] (.q (.c .w .l)) (.s (.draw [0,1,2,3,5,6,7,8,11,4,9,10,12]) (.s (.draw [0,1,2,3,4,5,6,7]) .l)))) func362 ⟨zmo,Zh5,zte,zvb,ztd,trivial⟩
def zh3:zl:=mkE (asl (asl az)) ts λa=>F.z2n a.1 a.2.1
theorem zmp:EnP 337 zh3 false:=eo (cgP 29 [(362,Z2c)]) (.q (.q (.s (.q (.b (.loop [(12,.i)] (.q (.s (.c .l .l) (.s (.b (.q (.draw [0,1,2,3,4,5,6,7,8,9,10,11,12]))) .l)))))) .w))) func337 ⟨Zh6,trivial⟩
def zpq:ArgT (Sl×Sl×Sl×Unit):=(asl (asl (asl az)))
def zq6:Ty Sl:=ts
def zlq:zl:=mkE zpq zq6 λa=>F.z2o a.1 a.2.1 a.2.2.1
def Zbv(n:Nat):Cfg:=(cgP 74 [(340,zlo),(341,zlp),(309,mkE zpq zq6 (λa=>F.W9 n a.1 a.2.1 a.2.2.1)),(337,zh3),(318,zr5),(301,zrm),(334,zrj)])
theorem Z71:∃fn,prog.funcs[309]?=some fn/\fn.body.isNone=false/\(fn.name == "runtime.NumGoroutine")=false:=⟨_,func309,rfl,by decide⟩
set_option maxHeartbeats 4000000 in
theorem Z7c:∀n a K D w,Sub D w->F.W9 n a.1 a.2.1 a.2.2.1 K D->Calls prog 309 (zpq.up a).toArray w (z5w (λv h=>zq6.dn v λr=>K r h) D w)
 | 0,_,_,_,_,_,h=>h.elim
 | n+1,a,K,D,w,hs,h=>z1u (C:=Zbv n) (F:=λa=>F.W9 (n+1) a.1 a.2.1 a.2.2.1) (fn:=f309) (c:=bd f309) (an:=(.seq .leaf (.join [] (.block (.seq .leaf (.cond (.seq (.draw [0,1,2,3,4,5,6,7,8]) .leaf) (.seq .leaf (.cond (.seq .leaf .leaf) .leaf))))) (.seq .leaf (.seq .leaf (.seq .leaf (.seq .leaf (.seq .leaf .leaf)))))))) ⟨ztl,ztm,(Y8 Z71 (Z7c n)),zmp,Z5o,Z64,Z61,trivial⟩ trivial func309 rfl rfl (λ_=>rfl) (by intro a K D;kernel_rfl) a K D w hs h
theorem ztn:EnP 309 zlq false:=Y8 Z71 (λa K D w hs h=>h.elim λm h=>Z7c m a K D w hs h)
def zlr:zl:=mkE (asl (asl (asl az))) ts λa=>F.z2m a.1 a.2.1 a.2.2.1
theorem zto:EnP 266 zlr false:=eo (cgP 16 [(308,zln),(309,zlq)]) (.q (.s (.q (.c .w .l)) .w)) func266 ⟨ztk,ztn,trivial⟩
def Z2d:zl:=mkE (asl (asl (asl az))) ts λa=>F.zkr a.1 a.2.1 a.2.2.1
theorem Zh7:EnP 302 Z2d false:=eo (cgP 15 [(308,zln),(337,zh3)]) (.q (.s (.q (.c .w .l)) .w)) func302 ⟨ztk,zmp,trivial⟩
end Den
end
