/-
  Part 7 of the tools and contracts from which the statement is proved.
-/
import Derived.Test.YtijmjfcnjfnpgaaGreatDoorPartp6
set_option linter.all false
open Go.IntKind
section
namespace Den
open Go Iv Lx
abbrev zQ:List Value:=[.bool false,.slice zf.a zf.len zf.cap,.bool false,.slice zf.a zf.len zf.cap]
theorem zem(z:TRat):z8 (Z6 1 zQ) (0*4) (qc z)=[z].flatMap qc:=rfl
section
variable {D h : Hp} {f : BM} {B C k : Nat} {t u a b l : Sl} {x y z : TRat} {p q : Rat} {X Y : TNumber} {Kb : Bool → Hp → Prop} {Ks : Sl → Hp → Prop} {KR : TRat → Hp → Prop} {KN : TNumber → Hp → Prop} {KE : TNumber × Int → Hp → Prop} {Ki : Int → Hp → Prop}
theorem PL.one(hx:NR h z q)(hq:BR B q)(hr:Rd h 4 l ([z].flatMap qc))(hc:l.len<=l.cap):PL h B l [q]:=by
 refine⟨[z],hr,⟨rfl,λk k1 k2=>?_⟩,hc⟩
 have:k=0:=by simp at k1;omega
 subst this
 exact⟨hx,hq⟩
theorem PL.hd(hp:PL h B l [q]):∃xs,RdQ h l xs/\∃hx:0<xs.length,NR h xs[0] q/\BR B q:=by
 obtain⟨xs,g1,g2,g3⟩:=hp
 have hx0:0<xs.length:=by rw[g2.1];simp
 have:=g2.2 0 hx0 (by simp)
 exact⟨xs,g1,hx0,this.1,this.2⟩
theorem zxq(ha:PL h B a [p])(hb:PL h C b [q])(hB:B<=400000000000)(hC:C<=400000000000)(H:∀y h',h.le h'->PL h' (B+C+1) y [p+q]->Ks y h'):zc (F.z2d a b) Ks h:=by
 refine zd (λy h'=>PL h' (B+C+1) y [p+q]) (λK' hk=>?_) λy h' hl hy=>H y h' hl hy
 unfold F.z2d
 have h1l:a.len=1:=ha.len
 obtain⟨xs,gx,hx0,hx,bx⟩:=ha.hd
 obtain⟨ys,gy,hy0,hy,bY⟩:=hb.hd
 rw[h1l]
 refine(Bk.start (h:=h)).mkF 1 1 rfl rfl (Nat.le_refl _) (by omega) (by omega) λbm h1 hbm hDm hB1=>?_
 refine Yr (n:=1) (by omega) (λi h'=>(i=0/\h'=h1)\/(0<i/\h.le h'/\PL h' (B+C+1) ⟨some ⟨bm,0,none⟩,1,1⟩ [p+q])) (.inl ⟨rfl,rfl⟩) ?_
 rintro i h2 hi hI k hk2
 refine ze (λh3=>?_) (λh3=>?_)
 . have hi0:i=0:=by have:(i:Int)<((1:Nat):Int):=h3;omega
   subst hi0
   rcases hI with ⟨_,hh⟩ | ⟨hh,_⟩
   . rw[hh]
     refine zi4 0 (gx.le hB1.le) rfl hx0 (zi4 0 (gy.le hB1.le) rfl hy0 ?_)
     refine hB1.call (K1:=λz D'=>NR D' z (p+q)) (zx5 (x:=xs[0]) (y:=ys[0]) hx hy bx bY hB hC λz h' _ hz=>hz) λz D3 h3' hl3 hB3 hz=>?_
     have ho:OS (Wd z6x bm (Z6 1 zQ)) 4 ⟨some ⟨bm,0,none⟩,1,1⟩ (Z6 1 zQ):=OS.mk rfl (Nat.le_refl _)
     refine ho.st (vs:=qc z) 0 hB3 rfl (by show 0<1;omega) rfl (by decide) rfl λf4 h4 hB4 ho4 _=>hk2 _ (by omega) (.inr ⟨by omega,Hp.le_trans hl3 hB4.le,?_⟩)
     rw[zem]at ho4
     exact PL.one (hz.le hB4.le) (bx.add bY) (ho4.rd hB4) (Nat.le_refl _)
   . omega
 . rcases hI with ⟨rfl,_⟩ | ⟨_,g1,g2⟩
   . have:¬((0:Nat):Int)<((1:Nat):Int):=h3;omega
   . exact hk _ _ g1 g2
theorem zkj(ha:PL h B a [p])(hB:B<=400000000000)(H:∀y h',h.le h'->PL h' B y [-p]->Ks y h'):zc (F.z3o a) Ks h:=by
 refine zd (λy h'=>PL h' B y [-p]) (λK' hk=>?_) λy h' hl hy=>H y h' hl hy
 unfold F.z3o
 have h1l:a.len=1:=ha.len
 obtain⟨xs,gx,hx0,hx,bx⟩:=ha.hd
 rw[h1l]
 refine(Bk.start (h:=h)).mkF 1 1 rfl rfl (Nat.le_refl _) (by omega) (by omega) λbm h1 hbm hDm hB1=>?_
 refine Yr (n:=1) (by omega) (λi h'=>(i=0/\h'=h1)\/(0<i/\h.le h'/\PL h' B ⟨some ⟨bm,0,none⟩,1,1⟩ [-p])) (.inl ⟨rfl,rfl⟩) ?_
 rintro i h2 hi hI k hk2
 refine ze (λh3=>?_) (λh3=>?_)
 . have hi0:i=0:=by have:(i:Int)<((1:Nat):Int):=h3;omega
   subst hi0
   rcases hI with ⟨_,hh⟩ | ⟨hh,_⟩
   . rw[hh]
     refine zi4 0 (gx.le hB1.le) rfl hx0 ?_
     refine hB1.call (K1:=λz D'=>NR D' z (-p)) (zx7 (x:=xs[0]) hx bx (by omega) λz h' _ hz=>hz) λz D3 h3' hl3 hB3 hz=>?_
     have ho:OS (Wd z6x bm (Z6 1 zQ)) 4 ⟨some ⟨bm,0,none⟩,1,1⟩ (Z6 1 zQ):=OS.mk rfl (Nat.le_refl _)
     refine ho.st (vs:=qc z) 0 hB3 rfl (by show 0<1;omega) rfl (by decide) rfl λf4 h4 hB4 ho4 _=>hk2 _ (by omega) (.inr ⟨by omega,Hp.le_trans hl3 hB4.le,?_⟩)
     rw[zem]at ho4
     exact PL.one (hz.le hB4.le) bx.neg (ho4.rd hB4) (Nat.le_refl _)
   . omega
 . rcases hI with ⟨rfl,_⟩ | ⟨_,g1,g2⟩
   . have:¬((0:Nat):Int)<((1:Nat):Int):=h3;omega
   . exact hk _ _ g1 g2
theorem zxn(ht:t.len=0)(ha:PL h B a [p])(hb:PL h C b [q])(hB:B<=400000000000)(hC:C<=400000000000)(H:∀y h',h.le h'->PL h' (B+C) y [p*q]->Ks y h'):zc (F.z2c t a b) Ks h:=by
 refine zd (λy h'=>PL h' (B+C) y [p*q]) (λK' hk=>?_) λy h' hl hy=>H y h' hl hy
 unfold F.z2c
 refine zcr ht ha hb (by omega) (by omega) λh1 hl1=>zt rfl ?_
 refine zd (λy h'=>PL h' (B+C) y [p*q]) (λK2 hk2=>?_) λy h' hl hy=>hk _ _ (Hp.le_trans hl1 hl) hy
 unfold F.z2e
 refine⟨1,?_⟩
 unfold F.W4
 refine zk (λ_ _=>False) (λ_ _ hh=>hh.elim) ?_
 refine Za (λ_=>?_) (λhh=>absurd (by rw[ht];rfl) hh)
 refine(ha.le hl1).get 0 rfl (by simp) λx hx bx=>(hb.le hl1).get 0 rfl (by simp) λy hy bY=>?_
 simp only[List.getElem_cons_zero]at hx bx hy bY
 refine zka (x:=x) (y:=y) hx hy bx bY hB hC λz h2 hl2 hz=>?_
 exact zuu hz (bx.mul bY) λA h3 hl3 hp=>hk2 _ _ (Hp.le_trans hl2 hl3) hp
theorem zxp(ht:t.len=0)(ha:PL h B a [p])(hb:PL h C b [q])(hB:B<=400000000000)(hC:C<=400000000000)(H:∀y h',h.le h'->PL h' (B+C+1) y [p-q]->Ks y h'):zc (F.z7w t a b) Ks h:=by
 refine zd (λy h'=>PL h' (B+C+1) y [p-q]) (λK' hk=>?_) λy h' hl hy=>H y h' hl hy
 unfold F.z7w
 refine zcr ht ha hb (by omega) (by omega) λh1 hl1=>zt rfl ?_
 refine zkj (hb.le hl1) hC λy h2 hl2 hy=>?_
 refine zxq (ha.le (Hp.le_trans hl1 hl2)) hy hB hC λw h3 hl3 hw=>hk _ _ (Hp.le_trans hl1 (Hp.le_trans hl2 hl3)) ?_
 rw[Rat.sub_eq_add_neg];exact hw
theorem zcg(hx:NQ h B X p)(hy:NQ h B Y q)(hB:B<=400000000000)(H:∀z h',h.le h'->NQ h' (B+B) z (p*q)->KE (z,0) h'):zc (F.z60 X Y) KE h:=by
 refine zd (λz h'=>z.2=0/\NQ h' (B+B) z.1 (p*q)) (λK' hk=>?_) λz h' hl hz=>?_
 . unfold F.z60
   refine zd (λz h'=>z.2=0/\NQ h' (B+B) z.1 (p*q)) (λK2 hk2=>?_) λz h' hl hz=>hk _ _ hl hz
   unfold F.Wx
   refine zbx (cells:=[X,Y].flatMap nc) 2 2 rfl λA h1 hl1 hr=>?_
   have hlr:LR nc 2 (NQP B) h1 ⟨some A,2,2⟩ [p,q]:=by
    refine⟨[X,Y],hr,Nat.le_refl _,rfl,λk k1 k2=>?_⟩
    have:k<2:=k1
    rcases(by omega:k=0\/k=1)with rfl | rfl
    . exact hx.le hl1
    . exact hy.le hl1
   refine zdl hlr (by simp) (by omega) λy D h2 hD hlo=>?_
   have hle2:=Hp.le_trans hl1 (Hp.le_trans hD hlo.dle)
   have hy2:=hlo.lr (Xf B)
   refine yt (λhh=>absurd rfl hh) (λ_=>?_)
   refine hy2.get (Xf B) 0 rfl (by simp) λa3 U hU c3=>⟨U.radicands,c3 0 _ rfl,?_⟩
   refine hy2.get (Xf B) 0 rfl (by simp) λa5 V hV c5=>⟨V.coefs,c5 1 _ rfl,?_⟩
   refine hy2.get (Xf B) 1 rfl (by simp) λa7 Z hZ c7=>⟨Z.coefs,c7 1 _ rfl,?_⟩
   have hU:NQ h2 B U p:=hU
   have hV:NQ h2 B V p:=hV
   have hZ:NQ h2 B Z q:=hZ
   exact zxn hU.1 hV.2 hZ.2 hB hB λw h3 hl3 hw=>hk2 _ _ (Hp.le_trans hle2 hl3) ⟨rfl,hU.1,hw⟩
 . obtain⟨z,e⟩:=z
   obtain⟨h1,h2⟩:=hz
   simp only at h1
   subst h1
   exact H z h' hl h2
theorem zl5(hx:NQ h B X p)(hy:NQ h B Y q)(hB:B<=400000000000)(H:∀z h',h.le h'->NQ h' (B+B+1) z (p-q)->KE (z,0) h'):zc (F.z8g X Y) KE h:=by
 refine zd (λz h'=>z.2=0/\NQ h' (B+B+1) z.1 (p-q)) (λK' hk=>?_) λz h' hl hz=>?_
 . unfold F.z8g
   refine zd (λz h'=>z.2=0/\NQ h' (B+B+1) z.1 (p-q)) (λK2 hk2=>?_) λz h' hl hz=>hk _ _ hl hz
   unfold F.Wy
   refine zbx (cells:=[X,Y].flatMap nc) 2 2 rfl λA h1 hl1 hr=>?_
   have hlr:LR nc 2 (NQP B) h1 ⟨some A,2,2⟩ [p,q]:=by
    refine⟨[X,Y],hr,Nat.le_refl _,rfl,λk k1 k2=>?_⟩
    have:k<2:=k1
    rcases(by omega:k=0\/k=1)with rfl | rfl
    . exact hx.le hl1
    . exact hy.le hl1
   refine zdl hlr (by simp) (by omega) λy D h2 hD hlo=>?_
   have hle2:=Hp.le_trans hl1 (Hp.le_trans hD hlo.dle)
   have hy2:=hlo.lr (Xf B)
   refine yt (λhh=>absurd rfl hh) (λ_=>?_)
   refine hy2.get (Xf B) 0 rfl (by simp) λa3 U hU c3=>⟨U.radicands,c3 0 _ rfl,?_⟩
   refine hy2.get (Xf B) 0 rfl (by simp) λa5 V hV c5=>⟨V.coefs,c5 1 _ rfl,?_⟩
   refine hy2.get (Xf B) 1 rfl (by simp) λa7 Z hZ c7=>⟨Z.coefs,c7 1 _ rfl,?_⟩
   have hU:NQ h2 B U p:=hU
   have hV:NQ h2 B V p:=hV
   have hZ:NQ h2 B Z q:=hZ
   exact zxp hU.1 hV.2 hZ.2 hB hB λw h3 hl3 hw=>hk2 _ _ (Hp.le_trans hle2 hl3) ⟨rfl,hU.1,hw⟩
 . obtain⟨z,e⟩:=z
   obtain⟨h1,h2⟩:=hz
   simp only at h1
   subst h1
   exact H z h' hl h2
theorem zmo{c:Option Addr}(H:KN X h):zc (F.y_matrix_calc_take c X 0) KN h:=by
 refine Zk _ (λK' hk=>?_) H
 unfold F.y_matrix_calc_take
 exact zk (λ_ h'=>h'=h) (λ_ h' hh=>yt (λhn=>absurd rfl hn) (λ_=>by rw[hh];exact hk)) (yt (λhn=>absurd rfl hn) (λ_=>rfl))
theorem zji{c:Option Addr}(hx:NQ h B X p)(hy:NQ h B Y q)(hB:B<=400000000000)(H:∀z h',h.le h'->NQ h' (B+B) z (p*q)->KN z h'):zc (F.y_matrix_calc_mul c X Y) KN h:=by
 refine zd (λz h'=>NQ h' (B+B) z (p*q)) (λK' hk=>?_) λz h' hl hz=>H z h' hl hz
 unfold F.y_matrix_calc_mul
 exact zcg hx hy hB λz h1 hl1 hz=>zmo (hk _ _ hl1 hz)
theorem zvo{c:Option Addr}(hx:NQ h B X p)(hy:NQ h B Y q)(hB:B<=400000000000)(H:∀z h',h.le h'->NQ h' (B+B+1) z (p-q)->KN z h'):zc (F.y_matrix_calc_sub c X Y) KN h:=by
 refine zd (λz h'=>NQ h' (B+B+1) z (p-q)) (λK' hk=>?_) λz h' hl hz=>H z h' hl hz
 unfold F.y_matrix_calc_sub
 exact zl5 hx hy hB λz h1 hl1 hz=>zmo (hk _ _ hl1 hz)
theorem Z8u(q:Rat):((1:Int):Rat)/q=q⁻¹:=by rw[Rat.div_def];exact Rat.one_mul _
theorem zvn{c:Option Addr}(hx:NQ h B X p)(hy:NQ h B Y q)(hB0:1<=B)(hB:B<=400000000000)(h0:q≠0)(H:∀z h',h.le h'->NQ h' (B+B) z (p/q)->KN z h'):zc (F.y_matrix_calc_div c X Y) KN h:=by
 refine zd (λz h'=>NQ h' (B+B) z (p/q)) (λK' hk=>?_) λz h' hl hz=>H z h' hl hz
 have hn0:q.num≠0:=λhh=>h0 (Rat.num_eq_zero.1 hh)
 unfold F.y_matrix_calc_div
 refine zd (λz h'=>z.2=0/\NQ h' (B+B) z.1 (p/q)) (λK2 hk2=>?_) λz h' hl hz=>?_
 . unfold F.zc0
   refine zd (λr h'=>r.2=0/\PL h' B r.1 [q⁻¹]) (λK3 hk3=>?_) λr h1 hl1 hr=>?_
   . unfold F.zeo
     refine z44 hy.1 hy.2 (by omega) λh1 hl1=>zt rfl ?_
     refine zd (λr h'=>r.2=true/\PL h' B r.1 [q⁻¹]) (λK4 hk4=>?_) λr h2 hl2 hr=>?_
     . unfold F.z7e
       refine⟨1,?_⟩
       unfold F.Vc
       refine Za (λ_=>?_) (λhh=>absurd (by rw[hy.1];rfl) hh)
       refine(hy.2.le hl1).get 0 rfl (by simp) λx hx bx=>?_
       simp only[List.getElem_cons_zero]at hx bx
       refine z1j (by decide) (by decide) λo h2 hl2 ho=>?_
       refine zx6 (y:=x) ho (hx.le hl2) Zba bx (by decide) hB hn0 λz h3 hl3 hz=>?_
       rw[Z8u]at hz
       exact zuu hz (bx.inv hn0) λA h4 hl4 hp=>hk4 _ _ (Hp.le_trans hl2 (Hp.le_trans hl3 hl4)) ⟨rfl,hp⟩
     . rw[hr.1]
       exact zt rfl (hk3 _ _ (Hp.le_trans hl1 hl2) ⟨rfl,hr.2⟩)
   . obtain⟨r,e⟩:=r
     obtain⟨e1,e2⟩:=hr
     simp only at e1 e2
     subst e1
     refine yt (λhh=>absurd rfl hh) (λ_=>?_)
     have:p/q=p*q⁻¹:=Rat.div_def p q
     refine zcg (Y:=⟨Y.radicands,r⟩) (q:=q⁻¹) (hx.le hl1) ⟨hy.1,e2⟩ hB λz h2 hl2 hz=>hk2 _ _ (Hp.le_trans hl1 hl2) ⟨rfl,by rw[this];exact hz⟩
 . obtain⟨z,e⟩:=z
   obtain⟨e1,e2⟩:=hz
   simp only at e1 e2
   subst e1
   exact zmo (hk _ _ hl e2)
theorem zxo(hx:NQ h B X p)(hB:B<=400000000000)(H:∀z h',h.le h'->NQ h' B z (-p)->KN z h'):zc (F.z8f X) KN h:=by
 refine zd (λz h'=>NQ h' B z (-p)) (λK' hk=>?_) λz h' hl hz=>H z h' hl hz
 unfold F.z8f
 refine zf5 hx (by omega) λz h1 hl1 hz=>?_
 refine zd (λy h'=>PL h' B y [-p]) (λK2 hk2=>?_) λy h2 hl2 hy=>hk _ _ (Hp.le_trans hl1 hl2) ⟨hz.1,hy⟩
 unfold F.zep
 refine z44 hz.1 hz.2 (by omega) λh2 hl2=>zt rfl ?_
 exact zkj (hz.2.le hl2) hB λy h3 hl3 hy=>hk2 _ _ (Hp.le_trans hl2 hl3) hy
theorem zpm(H:∀y h',Own h h' 4 y (Z6 1 zQ)\/(∃z,Own h h' 4 y ([z].flatMap qc))->Ks y h'):zc (F.z2f 1) Ks h:=by
 refine zd (λy h'=>∃z,Own h h' 4 y ([z].flatMap qc)) (λK' hk=>?_) λy h' _ hy=>H y h' (.inr hy)
 unfold F.z2f
 refine(Bk.start (h:=h)).mkF 1 1 rfl rfl (Nat.le_refl _) (by omega) (by omega) λbm h1 hbm hDm hB1=>?_
 refine Yr (n:=1) (by omega) (λi h'=>(i=0/\h'=h1)\/(0<i/\∃z,Own h h' 4 ⟨some ⟨bm,0,none⟩,1,1⟩ ([z].flatMap qc))) (.inl ⟨rfl,rfl⟩) ?_
 rintro i h2 hi hI k hk2
 refine ze (λh3=>?_) (λh3=>?_)
 . have hi0:i=0:=by have:(i:Int)<((1:Nat):Int):=h3;omega
   subst hi0
   rcases hI with ⟨_,hh⟩ | ⟨hh,_⟩
   . rw[hh]
     refine z1j (by decide) (by decide) λz h3' hl3 hz=>?_
     have hB3:=hB1.mono hl3
     have ho:OS (Wd z6x bm (Z6 1 zQ)) 4 ⟨some ⟨bm,0,none⟩,1,1⟩ (Z6 1 zQ):=OS.mk rfl (Nat.le_refl _)
     refine ho.st (vs:=qc z) 0 hB3 rfl (by show 0<1;omega) rfl (by decide) rfl λf4 h4 hB4 ho4 _=>hk2 _ (by omega) (.inr ⟨by omega,z,?_⟩)
     rw[zem]at ho4
     exact ho4.own hB4
   . omega
 . rcases hI with ⟨rfl,_⟩ | ⟨_,z,g2⟩
   . have:¬((0:Nat):Int)<((1:Nat):Int):=h3;omega
   . exact hk _ _ g2.1 ⟨z,g2⟩
theorem zvl(ht:t.len=0)(H:∀h',h.le h'->Kb true h'):zc (F.zaz t) Kb h:=by
 refine zd (λb h'=>b=true) (λK' hk=>?_) λb h' hl hb=>by subst hb;exact H h' hl
 unfold F.zaz
 refine z1j (by decide) (by decide) λo h1 hl1 ho=>?_
 have bo:=zkp (n:=0) (by decide) (by decide)
 refine zd (λy h'=>PL h' 2 y [((0:Int):Rat)]) (λK2 hk2=>?_) λy h2 hl2 hy=>?_
 . unfold F.z42
   refine zk (λ_ h'=>h1.le h') ?_ ?_
   . rintro _ h2 hl2
     rw[Z99 ht]
     refine⟨by omega,zpm λy h3 hy=>?_⟩
     have fin:∀cs,cs.length=4->Own h2 h3 4 y cs->zg y 0 4 λa4=>stP a4 (qc o) (λh3=>K2 y h3) h3:=λcs hcs hO=>by
      obtain⟨f3,hB3,hos⟩:=hO.bk
      have hyl:y.len=1:=by have:=hO.2.1;rw[hcs]at this;omega
      refine hos.st (vs:=qc o) 0 hB3 rfl (by omega) rfl (by decide) rfl λf4 h4 hB4 ho4 _=>hk2 _ _ (Hp.le_trans hl2 hB4.le) ?_
      have e:z8 cs (0*4) (qc o)=[o].flatMap qc:=by
       unfold z8
       rw[Nat.zero_mul,List.take_zero,List.nil_append,Nat.zero_add,zsr,List.drop_of_length_le (by omega)];rfl
      rw[e]at ho4
      exact PL.one ((ho.le hl2).le hB4.le) bo (ho4.rd hB4) ho4.2.1
     rcases hy with hy | ⟨z,hy⟩
     . exact fin _ rfl hy
     . exact fin _ rfl hy
   . refine z9x ht (zt rfl ?_)
     have hlens:=ho.lens bo
     exact z9w ho.ar (by omega) (by omega) (λ_ h' hl _=>zt rfl hl) (λh' hl hn=>absurd ⟨_,ho⟩ hn)
 . refine z44 ht hy (by decide) λh3 hl3=>zt rfl ?_
   have hle:=Hp.le_trans hl1 (Hp.le_trans hl2 hl3)
   refine Yr (n:=0) (by omega) (λi h'=>h'=h3) rfl ?_
   rintro i h4 _ hh k _
   rw[hh]
   refine ze (λh5=>?_) (λ_=>hk _ _ hle rfl)
   exfalso
   simp only at h5
   rw[ht]at h5
   omega
theorem zbw(hx:NQ h B X p)(hB:B<=400000000000)(H:∀h',h.le h'->Ki p.num.sign h'):zc (F.z29 X) Ki h:=by
 refine zd (λr h'=>r=p.num.sign) (λK' hk=>?_) λr h' hl hr=>by subst hr;exact H h' hl
 unfold F.z29
 refine zd (λr h'=>r=p.num.sign) (λK2 hk2=>?_) λr h' hl hr=>hk _ _ hl hr
 unfold F.zej
 refine Wo λp1 h1 hl1 c1=>?_
 refine zd (λb h'=>b=true) (λK3 hk3=>?_) λb h2 hl2 hb=>?_
 . unfold F.zek
   refine Yr (n:=1) (by omega) (λi h'=>h1.le h') (Hp.le_refl _) ?_
   intro i h2 hi hl2 k hk4
   refine ze (λh3=>?_) (λ_=>?_)
   . have hi0:i=0:=by have:(i:Int)<((1:Nat):Int):=h3;omega
     subst hi0
     refine⟨by omega,h3,?_⟩
     show ym (some p1) _
     simp only[ym]
     have e0:(((0:Nat):Int).toNat*1)=0:=rfl
     rw[e0,Zq]
     refine⟨X.coefs,Hp.cell_le hl2 c1,?_⟩
     refine z44 hx.1 (hx.2.le (Hp.le_trans hl1 hl2)) (by omega) λh4 hl4=>zt rfl (hk4 _ (by omega) (Hp.le_trans hl2 hl4))
   . exact zvl hx.1 λh' hl=>hk3 _ _ (Hp.le_trans hl2 hl) rfl
 . subst hb
   refine zt rfl ?_
   have hle:=Hp.le_trans hl1 hl2
   refine zd (λr h'=>r=p.num.sign) (λK3 hk3=>?_) λr h' hl hr=>hk2 _ _ (Hp.le_trans hle hl) hr
   unfold F.z8q
   refine⟨1,?_⟩
   unfold F.Vf
   refine Za (λ_=>?_) (λhh=>absurd (by rw[hx.1];rfl) hh)
   refine(hx.2.le hle).get 0 rfl (by simp) λx hx bx=>?_
   simp only[List.getElem_cons_zero]at hx bx
   exact zi1 (x:=x) hx bx (by omega) (hk3 _ _ (Hp.le_refl _) rfl)
end
end Den
end

section
namespace Den
open Go Iv Lx
def z92(bl o c:Nat):Sl:=⟨some ⟨bl,o,none⟩,c,c⟩
structure MX(D:Hp)(f:BM)(B:Nat->Nat->Nat)(m:Sl)(r c bo bl:Nat)(σ:Nat->Nat)(M:Nat->Nat->Rat):Prop where
 em:m=⟨some ⟨bo,0,none⟩,r,r⟩
 ne:bo≠bl
 out:f bo=some ((List.range r).map λi=>slV (z92 bl (σ i*c*2) c))
 lt:∀i,i<r->σ i<r
 inj:∀i j,i<r->j<r->σ i=σ j->i=j
 cells:∃cs,f bl=some cs/\r*c*2<=cs.length/\∀i j,i<r->j<c->∃x,NQ D (B i j) x (M i j)/\cs[σ i*c*2+j*2]?=some (.slice x.radicands.a x.radicands.len x.radicands.cap)/\cs[σ i*c*2+j*2+1]?=some (.slice x.coefs.a x.coefs.len x.coefs.cap)
theorem z6h{cs vs:List Value}{o i:Nat}(h:o+vs.length<=cs.length):(z8 cs o vs)[i]?=if o<=i/\i<o+vs.length then vs[i-o]? else cs[i]?:=by
 unfold z8
 by_cases h1:i<o
 . rw[if_neg (by omega),List.append_assoc,List.getElem?_append_left (by simp;omega),List.getElem?_take,if_pos h1]
 . by_cases h2:i<o+vs.length
   . rw[if_pos ⟨by omega,h2⟩,List.append_assoc,List.getElem?_append_right (by simp;omega),List.getElem?_append_left (by simp;omega)]
     congr 1;simp;omega
   . rw[if_neg (by omega),List.getElem?_append_right (by simp;omega),List.getElem?_drop]
     congr 1;simp;omega
theorem Zdj{r c a j:Nat}(ha:a<r)(hj:j<c):a*c*2+j*2+2<=r*c*2:=by
 have h1:(a+1)*c<=r*c:=Nat.mul_le_mul_right _ ha
 rw[Nat.add_mul]at h1
 omega
theorem Z96{a b c j l:Nat}(hj:j<c)(hl:l<c)(h:a*c*2+j*2=b*c*2+l*2):a=b/\j=l:=by
 have h1:a*c+j=b*c+l:=by omega
 rcases Nat.lt_trichotomy a b with h2 | h2 | h2
 . have:(a+1)*c<=b*c:=Nat.mul_le_mul_right _ h2
   rw[Nat.add_mul]at this;omega
 . subst h2;exact⟨rfl,by omega⟩
 . have:(b+1)*c<=a*c:=Nat.mul_le_mul_right _ h2
   rw[Nat.add_mul]at this;omega
section
variable {D h D' : Hp} {f f' : BM} {B B' : Nat → Nat → Nat} {m : Sl} {r c bo bl : Nat} {σ : Nat → Nat} {M M' : Nat → Nat → Rat}
theorem MX.weak(mx:MX D f B m r c bo bl σ M)(hB:∀i j,i<r->j<c->B i j<=B' i j)(hM:∀i j,i<r->j<c->M i j=M' i j):MX D f B' m r c bo bl σ M':=by
 obtain⟨h1,h2,h3,h4,h5,cs,h6,h7,h8⟩:=mx
 refine⟨h1,h2,h3,h4,h5,cs,h6,h7,λi j hi hj=>?_⟩
 obtain⟨x,g1,g2⟩:=h8 i j hi hj
 exact⟨x,by rw[<-hM i j hi hj];exact g1.mono (hB i j hi hj),g2⟩
theorem MX.mono(mx:MX D f B m r c bo bl σ M)(hl:D.le D'):MX D' f B m r c bo bl σ M:=by
 obtain⟨h1,h2,h3,h4,h5,cs,h6,h7,h8⟩:=mx
 refine⟨h1,h2,h3,h4,h5,cs,h6,h7,λi j hi hj=>?_⟩
 obtain⟨x,g1,g2⟩:=h8 i j hi hj
 exact⟨x,g1.le hl,g2⟩
theorem MX.other(mx:MX D f B m r c bo bl σ M)(h1:f' bo=f bo)(h2:f' bl=f bl):MX D f' B m r c bo bl σ M:=by
 obtain⟨k1,k2,k3,k4,k5,cs,k6,k7,k8⟩:=mx
 exact⟨k1,k2,by rw[h1];exact k3,k4,k5,cs,by rw[h2];exact k6,k7,k8⟩
theorem MX.ino(mx:MX D f B m r c bo bl σ M):f bo≠none:=by rw[mx.out];simp
theorem MX.inl(mx:MX D f B m r c bo bl σ M):f bl≠none:=by obtain⟨cs,h,_⟩:=mx.cells;rw[h];simp
theorem MX.row(mx:MX D f B m r c bo bl σ M)(hB:Bk D h f){z:Int}(i:Nat)(hz:z=i)(hi:i<r){K:Sl->Prop}(H:K (z92 bl (σ i*c*2) c)):zg m z 1 λa=>ldL (.sl) a K h:=by
 subst hz
 rw[mx.em]
 refine z79 hi ?_
 refine hB.ld (l:=.sl) (x:=z92 bl (σ i*c*2) c) mx.out ?_ H
 rw[List.getElem?_map,List.getElem?_range hi];rfl
theorem MX.get(mx:MX D f B m r c bo bl σ M)(hB:Bk D h f){z:Int}(i j:Nat)(hz:z=j)(hi:i<r)(hj:j<c){K:Addr->Prop}
 (H:∀a (x:TNumber),NQ D (B i j) x (M i j)->h.cell (a.add 0)=some (.slice x.radicands.a x.radicands.len x.radicands.cap)->h.cell (a.add 1)=some (.slice x.coefs.a x.coefs.len x.coefs.cap)->K a):zg (z92 bl (σ i*c*2) c) z 2 K:=by
 subst hz
 obtain⟨cs,h6,h7,h8⟩:=mx.cells
 obtain⟨x,g1,g2,g3⟩:=h8 i j hi hj
 refine zh9 hj (H _ x g1 ?_ ?_)
 . rw[Vg,Nat.add_zero];exact hB.cell h6 g2
 . rw[Vg];exact hB.cell h6 g3
def zu2{α:Type}(M:Nat->Nat->α)(i j:Nat)(v:α):Nat->Nat->α:=λa b=>if a=i/\b=j then v else M a b
theorem MX.set(mx:MX D f B m r c bo bl σ M)(hB:Bk D h f){z:Int}(i j:Nat)(hz:z=j)(hi:i<r)(hj:j<c){K:Hp->Prop}{y:TNumber}{b:Nat}{q:Rat}(hy:NQ D b y q)
 (H:∀f' h',Bk D h' f'->MX D f' (zu2 B i j b) m r c bo bl σ (zu2 M i j q)->(∀k,k≠bl->f' k=f k)->K h'):zg (z92 bl (σ i*c*2) c) z 2 λa=>stP a (nc y) K h:=by
 subst hz
 obtain⟨k1,k2,k3,k4,k5,cs,h6,h7,h8⟩:=mx
 have hlt:=Zdj (k4 i hi) hj
 have hlen:σ i*c*2+j*2+(nc y).length<=cs.length:=by show _+2<=_;omega
 refine zh9 hj (hB.st h6 hlen rfl λh' hB'=>H _ h' hB' ⟨k1,k2,by rw[Y0 k2];exact k3,k4,k5,_,Zn,by rw[Yb hlen];exact h7,λa l ha hl=>?_⟩ λk hk=>Y0 hk)
 unfold zu2
 rw[z6h hlen,z6h hlen]
 by_cases hal:a=i/\l=j
 . obtain⟨rfl,rfl⟩:=hal
   rw[if_pos ⟨rfl,rfl⟩,if_pos ⟨rfl,rfl⟩]
   refine⟨y,hy,?_,?_⟩
   . rw[if_pos ⟨Nat.le_refl _,by show _<_+2;omega⟩,Nat.sub_self];rfl
   . rw[if_pos ⟨by omega,by show _<_+2;omega⟩,Nat.add_sub_cancel_left];rfl
 . rw[if_neg hal,if_neg hal]
   have hne:σ a*c*2+l*2≠σ i*c*2+j*2:=λhh=>by
    obtain⟨e1,e2⟩:=Z96 hl hj hh
    exact hal ⟨k5 a i ha hi e1,e2⟩
   obtain⟨x,g1,g2,g3⟩:=h8 a l ha hl
   refine⟨x,g1,?_,?_⟩
   . rw[if_neg (by show ¬(_/\_<_+2);omega)];exact g2
   . rw[if_neg (by show ¬(_/\_<_+2);omega)];exact g3
def za7(a b i:Nat):Nat:=if i=a then b else if i=b then a else i
theorem zd9{a b i r:Nat}(ha:a<r)(hb:b<r)(hi:i<r):za7 a b i<r:=by
 unfold za7
 split
 . exact hb
 . split
   . exact ha
   . exact hi
theorem zxk{a b i j:Nat}(h:za7 a b i=za7 a b j):i=j:=by
 unfold za7 at h
 split at h<;>split at h<;>(try split at h)<;>(try split at h)<;>omega
theorem MX.swap(mx:MX D f B m r c bo bl σ M)(hB:Bk D h f){z w:Int}(k i:Nat)(hz:z=k)(hw:w=i)(hk:k<r)(hi:i<r){K:Hp->Prop}
 (H:∀f' h',Bk D h' f'->MX D f' (λa j=>B (za7 k i a) j) m r c bo bl (λa=>σ (za7 k i a)) (Tq.swapM M k i)->(∀b,b≠bo->f' b=f b)->K h') :
 zg m z 1 λa=>stP a [slV (z92 bl (σ i*c*2) c)] (λh1=>zg m w 1 λa=>stP a [slV (z92 bl (σ k*c*2) c)] K h1) h:=by
 subst hz hw
 obtain⟨k1,k2,k3,k4,k5,cs,h6,h7,h8⟩:=mx
 rw[k1]
 have hl1:((List.range r).map λi=>slV (z92 bl (σ i*c*2) c)).length=r:=by simp
 refine z79 hk (hB.st k3 (by rw[hl1];exact hk) rfl λh1 hB1=>z79 hi (hB1.st Zn (by rw[Yb (by rw[hl1];exact hk),hl1];exact hi) rfl λh2 hB2=>?_))
 rw[zer]at hB2
 refine H _ h2 hB2 ⟨k1,k2,?_,λa ha=>k4 _ (zd9 hk hi ha),λa b ha hb hh=>zxk (k5 _ _ (zd9 hk hi ha) (zd9 hk hi hb) hh),cs,by rw[Y0 (λhh=>k2 hh.symm)];exact h6,h7,λa j ha hj=>?_⟩ λb hb=>Y0 hb
 . rw[Zn]
   congr 1
   refine List.ext_getElem? λa=>?_
   have hs:∀{o:Nat} {vs:List Value},o+1<=r->vs.length=1->(z8 ((List.range r).map λi=>slV (z92 bl (σ i*c*2) c)) o vs).length=r:=λho hv=>by rw[Yb (by rw[hl1,hv];exact ho),hl1]
   rw[z6h (by rw[hs hk rfl];exact hi),z6h (by rw[hl1];exact hk)]
   simp only[List.getElem?_map,List.length_singleton]
   rcases Nat.lt_or_ge a r with ha | ha
   . rw[List.getElem?_range ha,Option.map_some,Option.map_some]
     unfold za7
     by_cases e1:a=i
     . subst e1
       rw[if_pos ⟨Nat.le_refl _,by omega⟩,Nat.sub_self]
       by_cases e2:a=k
       . subst e2;rw[if_pos rfl];rfl
       . rw[if_neg e2,if_pos rfl];rfl
     . rw[if_neg (by omega)]
       by_cases e2:a=k
       . subst e2
         rw[if_pos ⟨Nat.le_refl _,by omega⟩,Nat.sub_self,if_pos rfl];rfl
       . rw[if_neg (by omega),if_neg e2,if_neg e1]
   . rw[if_neg (by omega),if_neg (by omega),List.getElem?_eq_none (by simpa using ha)];rfl
 . obtain⟨x,g1,g2⟩:=h8 (za7 k i a) j (zd9 hk hi ha) hj
   have e:Tq.swapM M k i a j=M (za7 k i a) j:=by
    unfold Tq.swapM za7
    split
    . rfl
    . split<;>rfl
   exact⟨x,by rw[e];exact g1,g2⟩
end
end Den
end

section
namespace Den
open Go Iv Lx
theorem Z4x{q:Rat}:(q.num.sign≠0)↔q≠0:=by
 constructor
 . intro h hh
   subst hh;exact h rfl
 . intro h hh
   exact h (Rat.num_eq_zero.1 (Int.sign_eq_zero_iff_zero.1 hh))
section
variable {D h : Hp} {f : BM} {B : Nat → Nat → Nat} {m : Sl} {r c bo bl : Nat} {σ : Nat → Nat} {M : Nat → Nat → Rat} {L : Nat}
theorem zs2(mx:MX D f B m r c bo bl σ M)(hB:Bk D h f){p9:Addr}{k i:Nat}(hp:h.cell p9=some (.int .i64 (k:Int)))(hi:i<r)(hk:k<c)(hb:B i k<=400000000000){Kb:Bool->Hp->Prop}
 (H:∀h',h.le h'->Kb (decide (M i k≠0)) h'):zc (F.Vp (z92 bl (σ i*c*2) c) (some p9)) Kb h:=by
 refine zd (λb h'=>b=decide (M i k≠0)) (λK' hk'=>?_) λb h' hl hb=>by rw[hb];exact H h' hl
 unfold F.Vp
 show ym (some p9) _
 simp only[ym]
 refine⟨(k:Int),hp,mx.get hB i k rfl hi hk λa x hx c0 c1=>⟨x.radicands,c0,x.coefs,c1,?_⟩⟩
 refine zbw (X:=⟨x.radicands,x.coefs⟩) (hx.le hB.le) hb λh1 hl1=>hk' _ _ hl1 ?_
 by_cases h0:M i k=0
 . rw[h0];rfl
 . have:=(Z4x (q:=M i k)).2 h0
   simp only[ne_eq,h0,not_false_iff,decide_true,bne_iff_ne,this]
theorem zwi(mx:MX D f B m r c bo bl σ M)(hB:Bk D h f){p9:Addr}{k:Nat}(hp:h.cell p9=some (.int .i64 (k:Int)))(hkr:k<r)(hk:k<c)(hr:r<=1000000)(hb:∀i,i<r->B i k<=400000000000)(hex:∃i,k<=i/\i<r/\M i k≠0){Ki:Int->Hp->Prop}
 (H:∀t h',h.le h'->k+t<r->M (k+t) k≠0->Ki (t:Int) h'):zc (F.Zm (m.cut k r 1) ((some p9),())) Ki h:=by
 refine zd (λz h'=>∃t:Nat,z=(t:Int)/\k+t<r/\M (k+t) k≠0) (λK' hk'=>?_) λz h' hl hz=>by obtain⟨t,rfl,h1,h2⟩:=hz;exact H t h' hl h1 h2
 unfold F.Zm
 have hlen:(m.cut k r 1).len=r-k:=rfl
 have hcut:m.cut k r 1=⟨some ⟨bo,k*1,none⟩,r-k,r-k⟩:=by
  rw[mx.em]
  unfold Sl.cut
  rw[if_neg (by show ¬r=k;omega)]
  show(⟨some ((⟨bo,0,none⟩:Addr).add (k*1)),r-k,r-k⟩:Sl)=_
  rw[Vg,Nat.zero_add]
 refine Yr (n:=r-k) (by omega) (λi h'=>h.le h'/\∀j,j<i->M (k+j) k=0) ⟨Hp.le_refl _,λj hj=>by omega⟩ ?_
 rintro i h1 hi ⟨hl1,hz⟩ kk hkk
 refine ze (λh2=>?_) (λh2=>?_)
 . have hi':i<r-k:=by rw[hlen]at h2;simp only at h2;omega
   have hB1:=hB.mono hl1
   rw[hcut]
   refine zh9 hi' ?_
   refine hB1.ld (l:=.sl) (x:=z92 bl (σ (k+i)*c*2) c) mx.out ?_ ?_
   . rw[List.getElem?_map,List.getElem?_range (by omega),Nat.mul_one,Nat.mul_one];rfl
   . refine zs2 mx hB1 (Hp.cell_le hl1 hp) (by omega) hk (hb _ (by omega)) λh3 hl3=>?_
     refine ze (λh4=>hk' _ _ (Hp.le_trans hl1 hl3) ⟨i,rfl,by omega,h4⟩) (λh4=>hkk _ hi' ⟨Hp.le_trans hl1 hl3,λj hj=>?_⟩)
     by_cases hji:j=i
     . subst hji;exact Classical.byContradiction h4
     . exact hz j (by omega)
 . exfalso
   obtain⟨i',g1,g2,g3⟩:=hex
   have:i=r-k:=by rw[hlen]at h2;simp only at h2;omega
   have:=hz (i'-k) (by omega)
   rw[show k+(i'-k)=i' by omega]at this
   exact g3 this
theorem zmk(mx:MX D f B m r c bo bl σ M)(hB:Bk D h f){cc:Option Addr}{X:TNumber}{p:Rat}{k i:Nat}(hX:NQ D L X p)(hi:i<r)(hkr:k<r)(hik:i≠k)(hkc:k<=c)(hcc:c<=1000000)(hL1:1<=L)(hL:L<=100000000000)
 (hbi:∀j,j<c->B i j<=L) (hbk:∀j,j<c->B k j<=L) {K:Unit->Hp->Prop}
 (H:∀D' f' h',D.le D'->Bk D' h' f'->MX D' f' (λa j=>if a=i/\k<=j then 5*L else B a j) m r c bo bl σ (λa j=>if a=i/\k<=j then M i j-p*M k j else M a j)->(∀b,b≠bl->f' b=f b)->K () h'):F.y_matrix_calc_subtract cc (z92 bl (σ i*c*2) c) (z92 bl (σ k*c*2) c) X (k:Int) K h:=by
 unfold F.y_matrix_calc_subtract
 have hlen:(z92 bl (σ k*c*2) c).len=c:=rfl
 refine zap (n:=c) (m:=k) rfl (by omega) (λs h'=>∃D' f',D.le D'/\Bk D' h' f'/\MX D' f' (λa j=>if a=i/\k<=j/\j<s then 5*L else B a j) m r c bo bl σ (λa j=>if a=i/\k<=j/\j<s then M i j-p*M k j else M a j)/\∀b,b≠bl->f' b=f b)
  ⟨D,f,Hp.le_refl _,hB,mx.weak (λa j _ _=>by rw[if_neg (by omega)];exact Nat.le_refl _) (λa j _ _=>by rw[if_neg (by omega)]),λ_ _=>rfl⟩ ?_
 rintro s h1 hs ⟨D1,f1,hD1,hB1,mx1,hf1⟩ kk hkk
 refine ze (λh2=>?_) (λh2=>?_)
 . have hs':s<c:=by rw[hlen]at h2;simp only at h2;omega
   obtain⟨J,hJ⟩:∃J:Unit->Hp->Prop,∀u h',J u h'↔∃D' f',D.le D'/\Bk D' h' f'/\MX D' f' (λa j=>if a=i/\k<=j/\j<s+1 then 5*L else B a j) m r c bo bl σ (λa j=>if a=i/\k<=j/\j<s+1 then M i j-p*M k j else M a j)/\∀b,b≠bl->f' b=f b:=⟨_,λ_ _=>Iff.rfl⟩
   refine zk J (λu h' hu=>hkk _ hs' ((hJ u h').1 hu)) ?_
   refine mx1.get hB1 k s rfl hkr hs' λa5 x hx c0 c1=>⟨x.radicands,c0,x.coefs,c1,?_⟩
   simp only[if_neg (show ¬(k=i/\k<=s/\s<s)by omega)]at hx
   have hx2:=hx.mono (hbk s hs')
   refine hB1.call (K1:=λz D'=>z=(M k s).num.sign) (zbw (X:=⟨x.radicands,x.coefs⟩) hx2 (by omega) λ_ _=>rfl) λz D3 h3 hl3 hB3 hz=>?_
   subst hz
   have mx3:=mx1.mono hl3
   refine yt (λhn=>?_) (λh0=>?_)
   . refine mx3.get hB3 i s rfl hi hs' λa8 y hy d0 d1=>⟨y.radicands,d0,y.coefs,d1,?_⟩
     have hy:NQ D3 (if i=i/\k<=s/\s<s then 5*L else B i s) y (if i=i/\k<=s/\s<s then M i s-p*M k s else M i s):=hy
     rw[if_neg (show ¬(i=i/\k<=s/\s<s)by omega),if_neg (show ¬(i=i/\k<=s/\s<s)by omega)]at hy
     have hy2:=hy.mono (show B i s<=L+L by have:=hbi s hs';omega)
     refine mx3.get hB3 k s rfl hkr hs' λa10 w hw e0 e1=>⟨w.radicands,e0,w.coefs,e1,?_⟩
     simp only[if_neg (show ¬(k=i/\k<=s/\s<s)by omega)]at hw
     refine hB3.call (K1:=λz D'=>NQ D' (L+L) z (p*M k s)) (zji (Y:=⟨w.radicands,w.coefs⟩) (hX.le (Hp.le_trans hD1 hl3)) (hw.mono (hbk s hs')) (by omega) λz h' _ hz=>hz) λz D4 h4 hl4 hB4 hz=>?_
     refine hB4.call (K1:=λz D'=>NQ D' (L+L+(L+L)+1) z (M i s-p*M k s)) (zvo (X:=⟨y.radicands,y.coefs⟩) (hy2.le hl4) hz (by omega) λz h' _ hz=>hz) λv D5 h5 hl5 hB5 hv=>?_
     refine(mx3.mono (Hp.le_trans hl4 hl5)).set hB5 i s rfl hi hs' (hv.mono (show _<=5*L by omega)) λf6 h6 hB6 mx6 hf6=>(hJ _ _).2 ⟨D5,f6,Hp.le_trans hD1 (Hp.le_trans hl3 (Hp.le_trans hl4 hl5)),hB6,mx6.weak (λa j _ _=>?_) (λa j _ _=>?_),λb hb=>(hf6 b hb).trans (hf1 b hb)⟩
     . unfold zu2
       by_cases e:a=i/\j=s
       . rw[if_pos e,if_pos (by omega)];exact Nat.le_refl _
       . rw[if_neg e]
         show(if a=i/\k<=j/\j<s then 5*L else B a j)<=(if a=i/\k<=j/\j<s+1 then 5*L else B a j)
         by_cases e2:a=i/\k<=j/\j<s
         . rw[if_pos e2,if_pos (by omega)];exact Nat.le_refl _
         . rw[if_neg e2,if_neg (by omega)];exact Nat.le_refl _
     . unfold zu2
       by_cases e:a=i/\j=s
       . rw[if_pos e,if_pos (by omega),e.2]
       . rw[if_neg e]
         show(if a=i/\k<=j/\j<s then M i j-p*M k j else M a j)=(if a=i/\k<=j/\j<s+1 then M i j-p*M k j else M a j)
         by_cases e2:a=i/\k<=j/\j<s
         . rw[if_pos e2,if_pos (by omega)]
         . rw[if_neg e2,if_neg (by omega)]
   . have h00:M k s=0:=Rat.num_eq_zero.1 (Int.sign_eq_zero_iff_zero.1 h0)
     refine(hJ _ _).2 ⟨D3,f1,Hp.le_trans hD1 hl3,hB3,mx3.weak (λa j _ _=>?_) (λa j _ _=>?_),hf1⟩
     . show(if a=i/\k<=j/\j<s then 5*L else B a j)<=(if a=i/\k<=j/\j<s+1 then 5*L else B a j)
       by_cases e2:a=i/\k<=j/\j<s
       . rw[if_pos e2,if_pos (by omega)];exact Nat.le_refl _
       . rw[if_neg e2]
         by_cases e3:a=i/\k<=j/\j<s+1
         . rw[if_pos e3,e3.1]
           rename_i hj
           have:=hbi j hj;omega
         . rw[if_neg e3];exact Nat.le_refl _
     . show(if a=i/\k<=j/\j<s then M i j-p*M k j else M a j)=(if a=i/\k<=j/\j<s+1 then M i j-p*M k j else M a j)
       by_cases e2:a=i/\k<=j/\j<s
       . rw[if_pos e2,if_pos (by omega)]
       . rw[if_neg e2]
         by_cases e3:a=i/\k<=j/\j<s+1
         . have:j=s:=by omega
           rw[if_pos e3,e3.1,this,h00,Rat.mul_zero]
           grind
         . rw[if_neg e3]
 . have hsc:c<=s:=by rw[hlen]at h2;simp only at h2;omega
   exact H D1 f1 h1 hD1 hB1 (mx1.weak (λa j _ hj=>by
    show(if a=i/\k<=j/\j<s then 5*L else B a j)<=(if a=i/\k<=j then 5*L else B a j)
    by_cases e:a=i/\k<=j
    . rw[if_pos ⟨e.1,e.2,by omega⟩,if_pos e];exact Nat.le_refl _
    . rw[if_neg (λhh=>e ⟨hh.1,hh.2.1⟩),if_neg e];exact Nat.le_refl _) (λa j _ hj=>by
    show(if a=i/\k<=j/\j<s then M i j-p*M k j else M a j)=(if a=i/\k<=j then M i j-p*M k j else M a j)
    by_cases e:a=i/\k<=j
    . rw[if_pos ⟨e.1,e.2,by omega⟩,if_pos e]
    . rw[if_neg (λhh=>e ⟨hh.1,hh.2.1⟩),if_neg e])) hf1
end
end Den
end

section
namespace Den
open Go Iv Lx
def Bq(k:Nat):Nat:=2*10 ^ k
theorem zu4(k:Nat):Bq (k+1)=10*Bq k:=by unfold Bq;rw[Nat.pow_succ];omega
theorem Zir{k:Nat}(h:k<=10):1<=Bq k/\Bq k<=20000000000:=by
 unfold Bq
 have h1:10 ^ k<=10 ^ 10:=Nat.pow_le_pow_right (by decide) h
 have h2:0<10 ^ k:=Nat.pow_pos (by decide)
 have h3:(10:Nat) ^ 10=10000000000:=by decide
 omega
section
variable {h : Hp} {m m0 : Sl} {r c bo bl : Nat} {A : Nat → Nat → Rat}
def StE(D0:Hp)(m:Sl)(r c bo bl:Nat)(A:Nat->Nat->Rat)(k:Nat)(st:Sl×Sl×Sl×Sl×Unit)(h:Hp):Prop:=
 st.1=m/\∃D f σ M d cs,D0.le D/\Bk D h f/\MX D f (λ_ _=>Bq k) m r c bo bl σ M/\Tq.EI A r c k M/\OS f 1 st.2.1 cs/\cs.length=k/\¬inB st.2.1 bo/\¬inB st.2.1 bl/\NQ D (Bq k) ⟨st.2.2.1,st.2.2.2.1⟩ d
theorem zgy{Kr:Tmatrix_reduced×Int->Hp->Prop}(hA:Tq.Indep A r c)(hr:r<=1000)(hc:c<=11)
 (Hj:∀K':Sl×Int->Hp->Prop,(∀y D f bo bl h',h.le D->Bk D h' f->MX D f (λ_ _=>2) y r c bo bl (λi=>i) A->K' (y,0) h')->zc (F.z1g m0) K' h)
 (Hc:∀(h1:Hp) (K':Int->Hp->Prop),h.le h1->(∀h',h1.le h'->K' (c:Int) h')->zc (F.X6 m0) K' h1)
 (H:∀x h',h.le h'->x.pivots.len=c->Kr (x,0) h'):zc (F.z0q m0) Kr h:=by
 refine zd (λx h'=>x.2=0/\x.1.pivots.len=c) (λK' hk=>?_) λx h' hl hx=>by obtain⟨x,e⟩:=x;obtain⟨h1,h2⟩:=hx;simp only at h1 h2;subst h1;exact H x h' hl h2
 unfold F.z0q
 refine Hj _ λm D1 f1 bo bl h1 hD1 hB1 mx1=>?_
 refine yt (λhh=>absurd rfl hh) (λ_=>?_)
 refine hB1.newD λb2 D2 h2 _ hD2 hc2 hB2=>?_
 refine hB2.call (K1:=λz D'=>NQ D' 2 z ((1:Int):Rat)) (z7a (by decide) (by decide) λz h' _ hz=>hz) λz D3 h3 hD3 hB3 hz=>?_
 refine hB3.call (K1:=λz D'=>z=(c:Int)) (Hc _ _ (Hp.le_trans hD1 (Hp.le_trans hD2 hD3)) λ_ _=>rfl) λcz D4 h4 hD4 hB4 hcz=>?_
 subst hcz
 have hp2:D4.cell ⟨b2,0,none⟩=some (.int .i64 0):=Hp.cell_le (Hp.le_trans hD3 hD4) (hc2 0 _ rfl)
 have hrl:m.len=r:=by rw[mx1.em]
 have hhD4:h.le D4:=Hp.le_trans hD1 (Hp.le_trans hD2 (Hp.le_trans hD3 hD4))
 have nin:∀b,¬inB zf b:=λb hh=>by obtain⟨_,h5,_⟩:=hh;cases h5
 refine Yq (n:=c) (by omega) (StE D4 m r c bo bl A) ⟨rfl,D4,f1,_,A,_,[],Hp.le_refl _,hB4,mx1.mono (Hp.le_trans hD2 (Hp.le_trans hD3 hD4)),Tq.EI.start,OS.nil,rfl,nin _,nin _,hz.le hD4⟩ ?_
 rintro k ⟨m,piv,dr,dc,_⟩ h5 hkc ⟨rfl,D5,f5,σ,M,d,cs,hD5,hB5,mx5,ei,ho5,hcs,no,nl,hd⟩ kk hkk
 simp only at mx5 ho5 no nl hd hrl
 have hpl:piv.len=k:=by have:=ho5.1;rw[hcs,Nat.mul_one]at this;exact this
 refine ze (λh6=>?_) (λh6=>?_)
 . have hk:k<c:=by simp only at h6;omega
   obtain⟨hb1,hb2⟩:=Zir (k:=k) (by omega)
   refine zk (λs h'=>StE D4 m r c bo bl A (k+1) s.1 h') (λs h' hs=>hkk _ _ hk hs) ?_
   refine hB5.newF λb9 h7 hf9 hd9 hB7=>?_
   refine hB7.st Zn (by show 1<=1;omega) rfl λh8 hB8=>?_
   rw[zer]at hB8
   have e9:z8 [Value.int .i64 0] 0 [Value.int .i64 (k:Int)]=[Value.int .i64 (k:Int)]:=rfl
   rw[e9]at hB8
   have n1:bo≠b9:=λhh=>mx5.ino (by rw[hh];exact hf9)
   have n2:bl≠b9:=λhh=>mx5.inl (by rw[hh];exact hf9)
   obtain⟨f8,hf8⟩:∃f8,f8=Wd f5 b9 [Value.int .i64 (k:Int)]:=⟨_,rfl⟩
   rw[<-hf8]at hB8
   have h98:f8 b9=some [Value.int .i64 (k:Int)]:=by rw[hf8];exact Zn
   have mx8:MX D5 f8 (λ_ _=>Bq k) m r c bo bl σ M:=mx5.other (by rw[hf8,Y0 n1]) (by rw[hf8,Y0 n2])
   have ho8:OS f8 1 piv cs:=ho5.congr λb hb=>by rw[hf8,Y0 λhh=>ho5.there hb (by rw[hh];exact hf9)]
   obtain⟨i0,hi0,hi0r,hi0n⟩:=ei.pivot hA hk
   have hkr:k<r:=by omega
   simp only[hpl,hrl]
   refine⟨by omega,by omega,?_,?_⟩
   . rw[mx8.em];exact Int.le_refl _
   have er:((r:Int)).toNat=r:=rfl
   have ek:((k:Int)).toNat=k:=rfl
   rw[er,ek]
   refine zwi mx8 hB8 (hB8.cell h98 rfl) hkr hk (by omega) (λ_ _=>by omega) ⟨i0,hi0,hi0r,hi0n⟩ λt h9 hl9 htr htn=>?_
   have hB9:=hB8.mono hl9
   refine ze (λhh=>absurd hh (by omega)) (λ_=>?_)
   obtain⟨J,hJ⟩:∃J:(Sl×Sl×Sl×Sl×Unit)×Unit->Hp->Prop,∀s h',J s h'↔s.1.1=m/\s.1.2.1=piv/\∃D' f' σ' d',D4.le D'/\Bk D' h' f'/\MX D' f' (λ_ _=>Bq k) m r c bo bl σ' (Tq.swapM M k (k+t))/\(∀b,b≠bo->b≠bl->f' b=f8 b)/\NQ D' (Bq k) ⟨s.1.2.2.1,s.1.2.2.2.1⟩ d':=⟨_,λ_ _=>Iff.rfl⟩
   refine zk J (λs h' hs=>?_) ?_
   . obtain⟨⟨m',pv',dr',dc',_⟩,_⟩:=s
     obtain⟨hm',hpv',D11,f11,σ',d',hD11,hB11,mx11,hf11,hd11⟩:=(hJ _ _).1 hs
     have hm':m'=m:=hm'
     have hpv':pv'=piv:=hpv'
     subst hm' hpv'
     have hd11:NQ D11 (Bq k) ⟨dr',dc'⟩ d':=hd11
     obtain⟨N,hN⟩:∃N,N=Tq.swapM M k (k+t):=⟨_,rfl⟩
     rw[<-hN]at mx11
     have eiN:Tq.EI A r c k N:=by rw[hN];exact ei.swap (by omega) htr
     have hNk:N k k=M (k+t) k:=by rw[hN];simp only[Tq.swapM,if_true]
     have hN0:N k k≠0:=by rw[hNk];exact htn
     have h119:f11 b9=some [Value.int .i64 (k:Int)]:=by rw[hf11 b9 (λhh=>n1 hh.symm) (λhh=>n2 hh.symm)];exact h98
     have kz:∀j,j<k->N k j=0:=λj hj=>by rw[eiN.unit k hkr j hj,if_neg (by omega)]
     refine mx11.row hB11 k rfl hkr ⟨(k:Int),hB11.cell h119 rfl,?_⟩
     refine mx11.get hB11 k k rfl hkr hk λa17 x18 hx18 c0 c1=>⟨x18.radicands,c0,x18.coefs,c1,?_⟩
     have hx18:NQ D11 (Bq k) x18 (N k k):=hx18
     refine hB11.call (K1:=λz D'=>NQ D' (Bq k+Bq k) z (d'*N k k)) (zji (Y:=⟨x18.radicands,x18.coefs⟩) hd11 hx18 (by omega) λz h' _ hz=>hz) λr19 D12 h12 hD12 hB12 h19=>?_
     refine⟨(k:Int),hB12.cell h119 rfl,?_⟩
     have mx12:=mx11.mono hD12
     refine zap (n:=c) (m:=k) rfl (by omega) (λs h'=>k<=s/\∃D' f',D12.le D'/\Bk D' h' f'/\MX D' f' (λa j=>if a=k/\k<=j/\j<s then Bq k+Bq k else Bq k) m' r c bo bl σ' (λa j=>if a=k/\k<=j/\j<s then N a j/N k k else N a j)/\∀b,b≠bl->f' b=f11 b)
      ⟨Nat.le_refl _,D12,f11,Hp.le_refl _,hB12,mx12.weak (λa j _ _=>by rw[if_neg (by omega)];exact Nat.le_refl _) (λa j _ _=>by rw[if_neg (by omega)]),λ_ _=>rfl⟩ ?_
     rintro s h13 hks ⟨_,D13,f13,hD13,hB13,mx13,hf13⟩ k22 hk22
     refine mx13.row hB13 k rfl hkr ?_
     have hrl2:(z92 bl (σ' k*c*2) c).len=c:=rfl
     refine ze (λh14=>?_) (λh14=>?_)
     . have hs':s<c:=by rw[hrl2]at h14;simp only at h14;omega
       refine mx13.row hB13 k rfl hkr ?_
       refine mx13.row hB13 k rfl hkr ?_
       refine mx13.get hB13 k s rfl hkr hs' λa29 x hx e0 e1=>⟨x.radicands,e0,x.coefs,e1,?_⟩
       have hx:NQ D13 (if k=k/\k<=s/\s<s then Bq k+Bq k else Bq k) x (if k=k/\k<=s/\s<s then N k s/N k k else N k s):=hx
       rw[if_neg (by omega),if_neg (by omega)]at hx
       refine hB13.call (K1:=λz D'=>NQ D' (Bq k+Bq k) z (N k s/N k k)) (zvn (X:=⟨x.radicands,x.coefs⟩) (Y:=⟨x18.radicands,x18.coefs⟩) hx (hx18.le (Hp.le_trans hD12 hD13)) hb1 (by omega) hN0 λz h' _ hz=>hz) λz D14 h15 hD14 hB14 hz=>?_
       refine(mx13.mono hD14).set hB14 k s rfl hkr hs' hz λf15 h16 hB15 mx15 hf15=>hk22 _ hs' ⟨by omega,D14,f15,Hp.le_trans hD13 hD14,hB15,mx15.weak (λa j _ _=>?_) (λa j _ _=>?_),λb hb=>(hf15 b hb).trans (hf13 b hb)⟩
       . unfold zu2
         by_cases e:a=k/\j=s
         . rw[if_pos e,if_pos (by omega)];exact Nat.le_refl _
         . rw[if_neg e]
           show(if a=k/\k<=j/\j<s then Bq k+Bq k else Bq k)<=(if a=k/\k<=j/\j<s+1 then Bq k+Bq k else Bq k)
           by_cases e2:a=k/\k<=j/\j<s
           . rw[if_pos e2,if_pos (by omega)];exact Nat.le_refl _
           . rw[if_neg e2,if_neg (by omega)];exact Nat.le_refl _
       . unfold zu2
         by_cases e:a=k/\j=s
         . rw[if_pos e,if_pos (by omega),e.1,e.2]
         . rw[if_neg e]
           show(if a=k/\k<=j/\j<s then N a j/N k k else N a j)=(if a=k/\k<=j/\j<s+1 then N a j/N k k else N a j)
           by_cases e2:a=k/\k<=j/\j<s
           . rw[if_pos e2,if_pos (by omega)]
           . rw[if_neg e2,if_neg (by omega)]
     . have hsc:c<=s:=by rw[hrl2]at h14;simp only at h14;omega
       obtain⟨Q,hQ⟩:∃Q,Q=Tq.scaleM N k (N k k):=⟨_,rfl⟩
       have mx14:MX D13 f13 (λ_ _=>Bq k+Bq k) m' r c bo bl σ' Q:=mx13.weak (λa j _ _=>by
        show(if a=k/\k<=j/\j<s then Bq k+Bq k else Bq k)<=_
        split<;>omega) (λa j _ hj=>by
        show(if a=k/\k<=j/\j<s then N a j/N k k else N a j)=_
        rw[hQ]
        unfold Tq.scaleM
        by_cases e:a=k
        . subst e
          rw[if_pos rfl]
          by_cases e2:a<=j
          . rw[if_pos ⟨rfl,e2,by omega⟩]
          . rw[if_neg (λhh=>e2 hh.2.1),kz j (by omega),Rat.div_def,Rat.zero_mul]
        . rw[if_neg (λhh=>e hh.1),if_neg e])
       have kq:∀j,j<k->Q k j=0:=λj hj=>by
        rw[hQ];unfold Tq.scaleM
        rw[if_pos rfl,kz j hj,Rat.div_def,Rat.zero_mul]
       have eiE:Tq.EI A r c (k+1) (Tq.elimM Q k k):=by
        rw[hQ,hNk,hN]
        exact ei.step (by omega) htr htn
       obtain⟨P,hP⟩:∃P,P=Tq.elimM Q k k:=⟨_,rfl⟩
       rw[<-hP]at eiE
       refine Yr (n:=r) (by omega) (λi h'=>∃D' f',D13.le D'/\Bk D' h' f'/\MX D' f' (λa j=>if a<i/\a≠k then 5*(Bq k+Bq k)else Bq k+Bq k) m' r c bo bl σ' (λa j=>if a<i then P a j else Q a j)/\∀b,b≠bl->f' b=f11 b)
        ⟨D13,f13,Hp.le_refl _,hB13,mx14.weak (λa j _ _=>by rw[if_neg (by omega)];exact Nat.le_refl _) (λa j _ _=>by rw[if_neg (by omega)]),hf13⟩ ?_
       rintro i h15 hir ⟨D15,f15,hD15,hB15,mx15,hf15⟩ k34 hk34
       have h159:f15 b9=some [Value.int .i64 (k:Int)]:=by rw[hf15 b9 (λhh=>n2 hh.symm)];exact h119
       refine ze (λh16=>?_) (λh16=>?_)
       . have hir':i<r:=by simp only at h16;omega
         obtain⟨J2,hJ2⟩:∃J2:Unit->Hp->Prop,∀u h',J2 u h'↔∃D' f',D13.le D'/\Bk D' h' f'/\MX D' f' (λa j=>if a<i+1/\a≠k then 5*(Bq k+Bq k)else Bq k+Bq k) m' r c bo bl σ' (λa j=>if a<i+1 then P a j else Q a j)/\∀b,b≠bl->f' b=f11 b:=⟨_,λ_ _=>Iff.rfl⟩
         refine zk J2 (λu h' hu=>hk34 _ hir' ((hJ2 u h').1 hu)) ?_
         have same:∀{D' h'},Bk D' h' f15->D15.le D'->(∀j,j<c->P i j=Q i j)->J2 () h':=λhB' hD' hPQ=>(hJ2 _ _).2 ⟨_,f15,Hp.le_trans hD15 hD',hB',(mx15.mono hD').weak (λa j _ _=>by
          show(if a<i/\a≠k then 5*(Bq k+Bq k)else Bq k+Bq k)<=(if a<i+1/\a≠k then 5*(Bq k+Bq k)else Bq k+Bq k)
          by_cases e:a<i/\a≠k
          . rw[if_pos e,if_pos ⟨by omega,e.2⟩];exact Nat.le_refl _
          . rw[if_neg e];split<;>omega) (λa j _ hj=>by
          show(if a<i then P a j else Q a j)=(if a<i+1 then P a j else Q a j)
          by_cases e:a<i
          . rw[if_pos e,if_pos (by omega)]
          . rw[if_neg e]
            by_cases e2:a=i
            . subst e2
              rw[if_pos (by omega),hPQ j hj]
            . rw[if_neg (by omega)]),hf15⟩
         refine mx15.row hB15 i rfl hir' ⟨(k:Int),hB15.cell h159 rfl,?_⟩
         refine mx15.get hB15 i k rfl hir' hk λa40 x41 hx41 e0 e1=>⟨x41.radicands,e0,x41.coefs,e1,?_⟩
         have hx41:NQ D15 (if i<i/\i≠k then 5*(Bq k+Bq k)else Bq k+Bq k) x41 (if i<i then P i k else Q i k):=hx41
         rw[if_neg (by omega),if_neg (by omega)]at hx41
         refine yt (λhik=>?_) (λhik=>same hB15 (Hp.le_refl _) λj _=>?_)
         . have hik':i≠k:=λhh=>hik (by simp only;rw[hh])
           refine hB15.call (K1:=λz D'=>z=(Q i k).num.sign) (zbw (X:=⟨x41.radicands,x41.coefs⟩) hx41 (by omega) λ_ _=>rfl) λz D16 h17 hD16 hB16 hz=>?_
           subst hz
           refine yt (λhn=>?_) (λh0=>same hB16 hD16 λj _=>?_)
           . have mx16:=mx15.mono hD16
             refine mx16.row hB16 k rfl hkr ⟨(k:Int),hB16.cell h159 rfl,Qe ?_⟩
             refine zmk (X:=⟨x41.radicands,x41.coefs⟩) (L:=Bq k+Bq k) mx16 hB16 (hx41.le hD16) hir' hkr hik' (by omega) (by omega) (by omega) (by omega) (λj _=>?_) (λj _=>?_) λD17 f17 h18 hD17 hB17 mx17 hf17=>(hJ2 _ _).2 ⟨D17,f17,Hp.le_trans hD15 (Hp.le_trans hD16 hD17),hB17,mx17.weak (λa j _ _=>?_) (λa j _ hj=>?_),λb hb=>(hf17 b hb).trans (hf15 b hb)⟩
             . rw[if_neg (by omega)];exact Nat.le_refl _
             . rw[if_neg (by omega)];exact Nat.le_refl _
             . show(if a=i/\k<=j then 5*(Bq k+Bq k)else if a<i/\a≠k then 5*(Bq k+Bq k)else Bq k+Bq k)<=(if a<i+1/\a≠k then 5*(Bq k+Bq k)else Bq k+Bq k)
               by_cases e:a=i/\k<=j
               . rw[if_pos e,if_pos ⟨by omega,by rw[e.1];exact hik'⟩];exact Nat.le_refl _
               . rw[if_neg e]
                 by_cases e2:a<i/\a≠k
                 . rw[if_pos e2,if_pos ⟨by omega,e2.2⟩];exact Nat.le_refl _
                 . rw[if_neg e2];split<;>omega
             . show(if a=i/\k<=j then (if i<i then P i j else Q i j)-Q i k*(if k<i then P k j else Q k j)else if a<i then P a j else Q a j)=(if a<i+1 then P a j else Q a j)
               have pk:(if k<i then P k j else Q k j)=Q k j:=by
                split
                . rw[hP];unfold Tq.elimM;rw[if_pos rfl]
                . rfl
               rw[pk,if_neg (show ¬i<i by omega)]
               have pij:P i j=Q i j-Q i k*Q k j:=by rw[hP];unfold Tq.elimM;rw[if_neg hik']
               by_cases e:a=i
               . subst e
                 rw[if_pos (show a<a+1 by omega),pij]
                 by_cases e2:k<=j
                 . rw[if_pos ⟨rfl,e2⟩]
                 . rw[if_neg (λhh=>e2 hh.2),if_neg (by omega),kq j (by omega),Rat.mul_zero];grind
               . rw[if_neg (λhh=>e hh.1)]
                 by_cases e2:a<i
                 . rw[if_pos e2,if_pos (by omega)]
                 . rw[if_neg e2,if_neg (by omega)]
           . have h00:Q i k=0:=Rat.num_eq_zero.1 (Int.sign_eq_zero_iff_zero.1 h0)
             rw[hP];unfold Tq.elimM;rw[if_neg hik',h00,Rat.zero_mul];grind
         . have hik':i=k:=by simp only at hik;omega
           rw[hP];unfold Tq.elimM;rw[if_pos hik',hik']
       . have hri:i=r:=by simp only at h16;omega
         subst hri
         refine⟨(k:Int),hB15.cell h159 rfl,?_⟩
         have ho15:OS f15 1 pv' cs:=ho8.congr λb hb=>by
          have e1:b≠bl:=λhh=>nl (hh▸hb)
          have e2:b≠bo:=λhh=>no (hh▸hb)
          rw[hf15 b e1,hf11 b e2 e1]
         refine ho15.app hB15 (n:=1) rfl rfl rfl (by rw[hpl];omega) (by rw[hpl];omega) λy f16 h17 hB16 ho16 hfr hin=>?_
         have hob:=mx15.ino
         have hlb:=mx15.inl
         refine⟨rfl,D15,f16,σ',P,_,_,Hp.le_trans hD11 (Hp.le_trans hD12 (Hp.le_trans hD13 hD15)),hB16,(mx15.other (hfr bo no hob) (hfr bl nl hlb)).weak (λa j _ _=>?_) (λa j ha _=>if_pos ha),eiE,ho16,by rw[List.length_append,hcs];rfl,λhh=>?_,λhh=>?_,(h19.le (Hp.le_trans hD13 hD15)).mono (by rw[zu4];omega)⟩
         . show(if a<i/\a≠k then 5*(Bq k+Bq k)else Bq k+Bq k)<=Bq (k+1)
           rw[zu4];split<;>omega
         . rcases hin bo hh with h18 | h18
           . exact no h18
           . exact hob h18.1
         . rcases hin bl hh with h18 | h18
           . exact nl h18
           . exact hlb h18.1
   . refine ze (λh10=>?_) (λh10=>?_)
     . have ew:i64.wrap ((k:Int)+(t:Int))=((k+t:Nat):Int):=by rw[w64 (by omega)];omega
       rw[ew]
       refine mx8.row hB9 (k+t) rfl htr ?_
       refine mx8.row hB9 k rfl hkr ?_
       refine mx8.swap hB9 k (k+t) rfl rfl hkr htr λf10 h11 hB11 mx11 hf11=>?_
       refine hB11.call (K1:=λz D'=>NQ D' (Bq k) z (-d)) (zxo hd (by omega) λz h' _ hz=>hz) λz D12 h12 hD12 hB12 hz=>?_
       exact(hJ _ _).2 ⟨rfl,rfl,D12,f10,_,-d,Hp.le_trans hD5 hD12,hB12,mx11.mono hD12,λb hb _=>hf11 b hb,hz⟩
     . have ht0:t=0:=by omega
       subst ht0
       refine(hJ _ _).2 ⟨rfl,rfl,D5,f8,σ,d,hD5,hB9,mx8.weak (λ_ _ _ _=>Nat.le_refl _) (λi j _ _=>?_),λ_ _ _=>rfl,hd⟩
       unfold Tq.swapM
       rw[Nat.add_zero]
       by_cases e:i=k
       . rw[if_pos e,e]
       . rw[if_neg e,if_neg e]
 . have:k=c:=by simp only at h6;omega
   subst this
   have hle:=Hp.le_trans hD5 hB5.le
   have e0:(⟨b2,0,none⟩:Addr).add 0=⟨b2,0,none⟩:=Zq _
   rw[e0]
   refine⟨0,Hp.cell_le hle hp2,yt (λhh=>absurd rfl hh) λ_=>hk _ _ (Hp.le_trans hhD4 hle) ⟨rfl,hpl⟩⟩
end
end Den
end

section
namespace Den
open Go Iv Lx
def sc(s:Sl):List Value:=[slV s]
def RwF(B c:Nat)(M:Nat->Nat->Rat)(h:Hp)(s:Sl)(i:Nat):Prop:=LR nc 2 (NQP B) h s ((List.range c).map (M i))
theorem zsz(B c:Nat)(M:Nat->Nat->Rat):Rec sc 1 (RwF B c M):=⟨λ_=>rfl,by decide,λ_=>rfl,λhx hl=>hx.le (Xf B) hl⟩
def MF(h:Hp)(m:Sl)(r c B:Nat)(M:Nat->Nat->Rat):Prop:=LR sc 1 (RwF B c M) h m (List.range r)
theorem z5o{n i:Nat}(h:i<(List.range n).length):(List.range n)[i]=i:=List.getElem_range h
section
variable {h D : Hp} {m : Sl} {r c B : Nat} {M : Nat → Nat → Rat} {Ki : Int → Hp → Prop} {Kb : Bool → Hp → Prop} {Ks : Sl → Hp → Prop}
theorem MF.le{h':Hp}(hm:MF h m r c B M)(hl:h.le h'):MF h' m r c B M:=LR.le (zsz B c M) hm hl
theorem MF.len(hm:MF h m r c B M):m.len=r:=by have:=LR.len (zsz B c M) hm;rwa [List.length_range]at this
theorem RwF.len{s:Sl}{i:Nat}(hs:RwF B c M h s i):s.len=c:=by have:=LR.len (Xf B) hs;simpa using this
theorem MF.row(hm:MF D m r c B M)(hl:D.le h){z:Int}(i:Nat)(hz:z=i)(hi:i<r){K:Sl->Prop}(H:∀s,RwF B c M D s i->K s):zg m z 1 λa=>ldL (.sl) a K h:=by
 have hi':i<(List.range r).length:=by rw[List.length_range];exact hi
 refine LR.get2 (zsz B c M) hm hl i hz hi' λa s hs ha=>⟨s,?_,H s ?_⟩
 . have:=ha 0 _ rfl;rw[Zq]at this;exact this
 . rw[z5o]at hs;exact hs
theorem RwF.get{s:Sl}{i:Nat}(hs:RwF B c M D s i)(hl:D.le h){z:Int}(j:Nat)(hz:z=j)(hj:j<c){K:Sl->Sl->Prop}(H:∀x:TNumber,NQ D B x (M i j)->K x.radicands x.coefs) :
 zg s z 2 λa=>ldL (.sl) (a.add 0) (λx=>ldL (.sl) (a.add 1) (λy=>K x y) h) h:=by
 have hj':j<((List.range c).map (M i)).length:=by simp;exact hj
 refine LR.get2 (Xf B) hs hl j hz hj' λa x hx ha=>⟨x.radicands,ha 0 _ rfl,x.coefs,ha 1 _ rfl,H x ?_⟩
 have:NQ D B x ((List.range c).map (M i))[j]:=hx
 rw[List.getElem_map,z5o]at this;exact this
theorem z84(hm:MF D m r c B M)(hl:D.le h)(hr:0<r)(H:Ki (c:Int) h):zc (F.X6 m) Ki h:=by
 refine Zk _ (λK' hk=>?_) H
 unfold F.X6
 refine Za (λhh=>absurd hh (by rw[hm.len];omega)) (λ_=>?_)
 refine hm.row hl 0 rfl hr λs hs=>?_
 rw[hs.len];exact hk
theorem zfg(hm:MF h m r c B M)(hr:0<r)(hrr:r<=1000000)(H:∀h',h.le h'->Kb true h'):zc (F.z2n m) Kb h:=by
 refine zd (λb h'=>b=true) (λK' hk=>?_) λb h' hl hb=>by subst hb;exact H h' hl
 unfold F.z2n
 refine Wo λp1 h1 hl1 c1=>⟨m,c1,?_⟩
 have hm1:=hm.le hl1
 refine zd (λb h'=>b=false) (λK2 hk2=>?_) λb h' hl hb=>by subst hb;exact hk _ _ (Hp.le_trans hl1 hl) rfl
 unfold F.Z7
 refine zd (λz h'=>z=-1) (λK3 hk3=>?_) λz h' hl hz=>by subst hz;exact hk2 _ _ hl rfl
 unfold F.yj
 have hml:=hm.len
 refine Yr (n:=r) (by omega) (λi h'=>h1.le h') (Hp.le_refl _) ?_
 intro i h2 hi hl2 kk hkk
 refine ze (λh3=>?_) (λ_=>hk3 _ _ hl2 rfl)
 have hi':i<r:=by rw[hml]at h3;simp only at h3;omega
 refine hm1.row hl2 i rfl hi' λs hs=>?_
 refine zd (λb h'=>b=false) (λK5 hk5=>?_) λb h' hl hb=>by subst hb;exact zt rfl (hkk _ hi' (Hp.le_trans hl2 hl))
 unfold F.z5y
 show ym (some p1) _
 simp only[ym]
 refine⟨m,Hp.cell_le hl2 c1,z84 hm1 hl2 hr ?_⟩
 rw[hs.len]
 exact hk5 _ _ (Hp.le_refl _) (by simp)
structure GR(f:BM)(n bo:Nat)(ss:List Sl)(C:Nat->List Value):Prop where
 slen:ss.length=n
 out:f bo=some (ss.map slV)
 row:∀v,v<n->OS f 2 (ss.getD v zf) (C v)
 apt:∀v,v<n->¬inB (ss.getD v zf) bo
 apt2:∀u v,u<n->v<n->u≠v->∀b,inB (ss.getD u zf) b->¬inB (ss.getD v zf) b
theorem GR.setRow{f f2:BM}{n bo v:Nat}{ss:List Sl}{C:Nat->List Value}{y:Sl}{l:List Value}(pg:GR f n bo ss C)(hv:v<n)(hfr:∀b,f b≠none->¬inB (ss.getD v zf) b->f2 b=f b)(hy:OS f2 2 y l)(hin:∀b,inB y b->inB (ss.getD v zf) b\/f b=none) :
 GR (Wd f2 bo ((ss.set v y).map slV)) n bo (ss.set v y) (λu=>if u=v then l else C u):=by
 have hsl:=pg.slen
 have ho:f bo≠none:=by rw[pg.out];simp
 have ya:¬inB y bo:=λhh=>by
  rcases hin bo hh with h1 | h1
  . exact pg.apt v hv h1
  . exact ho h1
 have gs:∀u,u≠v->(ss.set v y).getD u zf=ss.getD u zf:=λu hu=>Yf (λhh=>hu hh.symm)
 have gv:(ss.set v y).getD v zf=y:=Qg (by omega)
 refine⟨by rw[List.length_set];exact hsl,Zn,λu hu=>?_,λu hu=>?_,λu w hu hw huw b=>?_⟩
 . by_cases huv:u=v
   . subst huv
     rw[gv,if_pos rfl]
     exact hy.upd ya
   . rw[gs u huv,if_neg huv]
     refine OS.upd ((pg.row u hu).congr λb hb=>hfr b ((pg.row u hu).there hb) (pg.apt2 u v hu hv huv b hb)) (pg.apt u hu)
 . by_cases huv:u=v
   . subst huv;rw[gv];exact ya
   . rw[gs u huv];exact pg.apt u hu
 . by_cases h1:u=v
   . subst h1
     rw[gv,gs w (λhh=>huw hh.symm)]
     intro hb hw2
     rcases hin b hb with h2 | h2
     . exact pg.apt2 u w hu hw huw b h2 hw2
     . exact(pg.row w hw).there hw2 h2
   . by_cases h2:w=v
     . subst h2
       rw[gs u huw,gv]
       intro hb hw2
       rcases hin b hw2 with h3 | h3
       . exact pg.apt2 u w hu hw huw b hb h3
       . exact(pg.row u hu).there hb h3
     . rw[gs u h1,gs w h2];exact pg.apt2 u w hu hw huw b
theorem zul(l:List Sl):l.flatMap sc=l.map slV:=by
 induction l with
 | nil=>rfl
 | cons a l ih=>rw[List.flatMap_cons,List.map_cons,ih];rfl
theorem GR.mf{f:BM}{n bo:Nat}{ss:List Sl}{X:Nat->List TNumber}(pg:GR f n bo ss λv=>(X v).flatMap nc)(hB:Bk D h f)(hX:∀v,v<n->(X v).length=c/\∀j (hj:j<(X v).length),NQ D B (X v)[j] (M v j)):MF h ⟨some ⟨bo,0,none⟩,n,n⟩ n c B M:=by
 have hsl:=pg.slen
 have hos:OS f 1 ⟨some ⟨bo,0,none⟩,n,n⟩ (ss.map slV):=⟨by rw[List.length_map,hsl,Nat.mul_one],Nat.le_refl _,rfl,rfl,_,pg.out,by rw[List.length_map,hsl,Nat.mul_one],List.take_length⟩
 refine⟨ss,by rw[zul];exact hos.rd hB,Nat.le_refl _,by rw[List.length_range,hsl],λk k1 k2=>?_⟩
 rw[z5o]
 have hk:k<n:=by omega
 have e:ss.getD k zf=ss[k]:=by rw[List.getD_eq_getElem?_getD,List.getElem?_eq_getElem k1];rfl
 have hr:=pg.row k hk
 rw[e]at hr
 obtain⟨x1,x2⟩:=hX k hk
 refine⟨X k,hr.rd hB,hr.2.1,by simp[x1],λj j1 j2=>?_⟩
 rw[List.getElem_map,z5o]
 exact(x2 j j1).le hB.le
def TrI(D:Hp)(r c B bo:Nat)(M:Nat->Nat->Rat)(k i:Nat)(h:Hp):Prop:=
 ∃(f:BM) (ss:List Sl) (X:Nat->List TNumber),Bk D h f/\GR f c bo ss (λv=>(X v).flatMap nc)/\∀v,v<c->(X v).length=(if v<k then r else if v=k then i else 0)/\∀j (hj:j<(X v).length),NQ D B (X v)[j] (M j v)
theorem zio(hm:MF h m r c B M)(hr:0<r)(hrr:r<=1000)(hc:c<=1000)(H:∀y h',h.le h'->MF h' y c r B (λi j=>M j i)->Ks y h'):zc (F.z0p m) Ks h:=by
 refine zd (λy h'=>MF h' y c r B (λi j=>M j i)) (λK' hk=>?_) λy h' hl hy=>H y h' hl hy
 unfold F.z0p
 refine zfg hm hr (by omega) λh1 hl1=>zt rfl ?_
 have hm1:=hm.le hl1
 have hml:=hm.len
 refine z84 hm1 (Hp.le_refl _) hr ?_
 refine(Bk.start (h:=h1)).mkF c c rfl rfl (Nat.le_refl _) (by omega) (by omega) λbo h2 hbo hDo hB2=>?_
 have gn:∀v,(List.replicate c zf).getD v zf=zf:=λv=>by
  rw[List.getD_eq_getElem?_getD,List.getElem?_replicate];split<;>rfl
 have nin:∀b,¬inB zf b:=λb hh=>by obtain⟨_,h5,_⟩:=hh;cases h5
 have r2:Z6 c [Value.slice zf.a zf.len zf.cap]=(List.replicate c zf).map slV:=by unfold Z6 slV;simp
 have gr2:GR (Wd z6x bo (Z6 c [Value.slice zf.a zf.len zf.cap])) c bo (List.replicate c zf) (λv=>(([]:List TNumber)).flatMap nc):=
  ⟨by simp,by rw[Zn,r2],λv hv=>by rw[gn];exact OS.nil,λv hv=>by rw[gn];exact nin _,λu v hu hv huv b hb=>by rw[gn]at hb;exact absurd hb (nin _)⟩
 refine Yr (n:=c) (by omega) (λk h'=>TrI h1 r c B bo M k 0 h') ⟨_,_,λ_=>[],hB2,gr2,λv _=>⟨by rw[if_neg (by omega)];split<;>rfl,λj hj=>by simp at hj⟩⟩ ?_
 intro k h3 hkc hI3 kk hkk
 refine ze (λh4=>?_) (λh4=>?_)
 . have hk':k<c:=by simp only at h4;omega
   refine Yr (n:=r) (by omega) (λi h'=>TrI h1 r c B bo M k i h') hI3 ?_
   intro i h5 hir hI5 k7 hk7
   obtain⟨f5,ss5,X5,hB5,gr5,hX5⟩:=hI5
   rw[hml]
   refine ze (λh6=>?_) (λh6=>?_)
   . have hi':i<r:=by simp only at h6;omega
     refine hm1.row hB5.le i rfl hi' λx9 hx9=>?_
     have hsl:=gr5.slen
     refine z79 hk' (hB5.ld (l:=.sl) (x:=ss5.getD k zf) gr5.out (zfz (by omega)) ?_)
     refine hx9.get hB5.le k rfl hk' λx hx=>?_
     obtain⟨l1,l2⟩:=hX5 k hk'
     rw[if_neg (by omega),if_pos rfl]at l1
     have hrow:=gr5.row k hk'
     have hrl:(ss5.getD k zf).len=i:=by
      have:=hrow.1
      rw[Qf (c:=nc) (n:=2) (λ_=>rfl),l1]at this
      exact Nat.eq_of_mul_eq_mul_right (by decide) this
     refine hrow.app hB5 (n:=1) (new:=nc x) rfl rfl rfl (by rw[hrl];omega) (by rw[hrl];omega) λy f6 h7 hB6 hy hfr hin=>?_
     have ho6:f6 bo=some (ss5.map slV):=by rw[hfr bo (gr5.apt k hk') (by rw[gr5.out];simp)];exact gr5.out
     refine z79 hk' (hB6.st ho6 (by show k+1<=_;rw[List.length_map];omega) rfl λh8 hB8=>hk7 _ hi' ?_)
     have es:z8 (ss5.map slV) k [.slice y.a y.len y.cap]=(ss5.set k y).map slV:=Wa (c:=slV) (by omega)
     rw[es]at hB8
     have fin:∀X:Nat->List TNumber,X=(λv=>if v=k then X5 k++[x]else X5 v)->GR (Wd f6 bo ((ss5.set k y).map slV)) c bo (ss5.set k y) (λv=>(X v).flatMap nc)->(∀v,v<c->(X v).length=(if v<k then r else if v=k then i+1 else 0)/\∀j (hj:j<(X v).length),NQ h1 B (X v)[j] (M j v))->TrI h1 r c B bo M k (i+1) h8:=λX _ g1 g2=>⟨_,_,X,hB8,g1,g2⟩
     refine fin _ rfl ?_ λv hv=>?_
     . have:=gr5.setRow hk' (λb g1 g2=>hfr b g2 g1) hy λb hb=>(hin b hb).imp id And.left
       refine⟨this.slen,this.out,λv hv=>?_,this.apt,this.apt2⟩
       have h9:=this.row v hv
       by_cases e:v=k
       . subst e
         simp only[if_true]at h9 |-
         rw[List.flatMap_append]
         simpa using h9
       . simp only[if_neg e]at h9 |-;exact h9
     . by_cases e:v=k
       . subst e
         simp only[if_true,if_neg (Nat.lt_irrefl _)]
         refine⟨by rw[List.length_append,l1];rfl,λj hj=>?_⟩
         rcases Nat.lt_or_ge j (X5 v).length with h10 | h10
         . rw[List.getElem_append_left h10];exact l2 j h10
         . have:j=(X5 v).length:=by simp at hj;omega
           subst this
           rw[List.getElem_append_right (Nat.le_refl _)]
           simp only[Nat.sub_self,List.getElem_cons_zero]
           rw[l1];exact hx
       . simp only[if_neg e]
         have:=hX5 v hv
         rw[if_neg e]at this
         exact this
   . have:i=r:=by simp only at h6;omega
     subst this
     refine hkk _ hk' ⟨f5,ss5,X5,hB5,gr5,λv hv=>⟨?_,(hX5 v hv).2⟩⟩
     rw[(hX5 v hv).1]
     by_cases e:v<k
     . rw[if_pos e,if_pos (by omega)]
     . rw[if_neg e]
       by_cases e2:v=k
       . rw[if_pos e2,if_pos (by omega)]
       . rw[if_neg e2,if_neg (by omega)];split<;>rfl
 . have:k=c:=by simp only at h4;omega
   subst this
   obtain⟨f5,ss5,X5,hB5,gr5,hX5⟩:=hI3
   refine hk _ _ (Hp.le_trans hl1 hB5.le) (gr5.mf (M:=λi j=>M j i) hB5 λv hv=>⟨?_,(hX5 v hv).2⟩)
   rw[(hX5 v hv).1,if_pos hv]
end
end Den
end

section
namespace Den
open Go Iv Lx
def zgf(r c:Nat)(M:Nat->Nat->Rat):List Rat:=(List.range r).flatMap λi=>(List.range c).map (M i)
theorem zdr{r c:Nat}{M:Nat->Nat->Rat}:zgf (r+1) c M=zgf r c M++(List.range c).map (M r):=by
 unfold zgf;rw[List.range_succ,List.flatMap_append];simp
theorem z18{r c:Nat}{M:Nat->Nat->Rat}:(zgf r c M).length=r*c:=by
 induction r with
 | zero=>simp[zgf]
 | succ r ih=>rw[zdr,List.length_append,ih,List.length_map,List.length_range,Nat.add_mul,Nat.one_mul]
theorem zag{r c i j:Nat}(hi:i<r)(hj:j<c):i*c+j<r*c:=by
 have h1:(i+1)*c<=r*c:=Nat.mul_le_mul_right _ hi
 rw[Nat.add_mul]at h1
 omega
theorem zy0{r c:Nat}{M:Nat->Nat->Rat}{i j:Nat}(hi:i<r)(hj:j<c):(zgf r c M)[i*c+j]?=some (M i j):=by
 induction r with
 | zero=>omega
 | succ r ih=>
   rw[zdr]
   by_cases h:i<r
   . rw[List.getElem?_append_left (by rw[z18];exact zag h hj)];exact ih h
   . have:i=r:=by omega
     subst this
     rw[List.getElem?_append_right (by rw[z18];omega),z18,Nat.add_sub_cancel_left,List.getElem?_map,List.getElem?_range hj];rfl
section
variable {h D : Hp} {m : Sl} {r c B : Nat} {M : Nat → Nat → Rat} {Ki : Int → Hp → Prop} {Kb : Bool → Hp → Prop} {Ks : Sl → Hp → Prop}
theorem zwe{n:Nat}(hn:0<n)(hn2:n<=1000000)(H:∀y h',LO nc 2 (NQP B) h h' y []->Ks y h'):zc (F.Yw zf (n:Int)) Ks h:=by
 refine zd (λy h'=>LO nc 2 (NQP B) h h' y []) (λK' hk=>?_) λy h' _ hy=>H y h' hy
 unfold F.Yw
 refine zk (λ_ h'=>h'=h) (λ_ h1 hh=>?_) (ze (λhh=>absurd hh (by omega)) λ_=>rfl)
 subst hh
 have e1:i64.wrap ((zf.cap:Int)-(zf.len:Int))=0:=rfl
 rw[e1]
 have e2:i64.wrap ((n:Int)-0)=n:=by rw[w64 (by omega)];omega
 rw[e2]
 refine ze (λ_=>?_) (λhh=>absurd hh (by omega))
 refine⟨Int.le_refl _,Int.le_refl _,Int.le_refl _,by omega,?_⟩
 have e3:zf.cut ((0:Int)).toNat ((zf.cap:Int)).toNat 2=zf:=rfl
 rw[e3]
 have e4:((n:Int)).toNat=n:=rfl
 rw[e4]
 have hz:(Z6 n [Value.slice zf.a zf.len zf.cap,.slice zf.a zf.len zf.cap]).length=n*2:=by rw[z2v];rfl
 refine(OS.nil (f:=z6x) (size:=2)).app Bk.start (n:=n) hz rfl ?_ ?_ ?_ λy f1 h2 hB2 ho2 _ _=>?_
 . unfold Z6
   rw[List.all_flatten,List.all_replicate]
   simp[Value.leaf]
 . show(0+n)*48<=_;omega
 . show 0+n<=_;omega
 . have h3:=ho2.2.1
   refine⟨by omega,by show(0:Int)<=((zf.len:Nat):Int);omega,by show((zf.len:Nat):Int)<=(y.cap:Int);show((0:Nat):Int)<=_;omega,hk _ _ hB2.le ⟨[],?_,rfl,λk k1 _=>by simp at k1⟩⟩
   have:=(ho2.cut (n:=0) (Nat.zero_le _)).own hB2
   rw[Nat.zero_mul,List.take_zero]at this
   exact this
theorem znk(hm:MF h m r c B M)(hr:0<r)(hrr:r<=1000)(hc0:0<c)(hc:c<=1000)(H:∀y h',LO nc 2 (NQP B) h h' y (zgf r c M)->Ks y h'):zc (F.Yo m) Ks h:=by
 refine zd (λy h'=>LO nc 2 (NQP B) h h' y (zgf r c M)) (λK' hk=>?_) λy h' _ hy=>H y h' hy
 unfold F.Yo
 have hml:=hm.len
 have hrc:r*c<=1000*1000:=Nat.mul_le_mul hrr hc
 refine Yq (n:=r) (by omega) (λi s h'=>s=((i*c:Nat):Int)/\h'=h) ⟨by rw[Nat.zero_mul];rfl,rfl⟩ ?_
 rintro i s h1 hir ⟨rfl,hh⟩ kk hkk
 rw[hh,hml]
 refine ze (λh2=>?_) (λh2=>?_)
 . have hi':i<r:=by simp only at h2;omega
   refine zk (λs h'=>s.1=(((i+1)*c:Nat):Int)/\h'=h) (λs h' hs=>hkk _ _ hi' hs) ?_
   refine hm.row (Hp.le_refl _) i rfl hi' λx hx=>?_
   rw[hx.len]
   have h3:(i+1)*c<=r*c:=Nat.mul_le_mul_right _ hi'
   rw[Nat.add_mul,Nat.one_mul]at h3 |-
   have e:i64.wrap (((i*c:Nat):Int)+(c:Int))=((i*c+c:Nat):Int):=by rw[w64 (by omega)];omega
   simp only[e]
   exact ze (λhh=>absurd hh (by omega)) λ_=>⟨trivial,trivial⟩
 . have:i=r:=by simp only at h2;omega
   subst this
   have hpos:0<i*c:=Nat.mul_pos hr hc0
   refine zwe (B:=B) hpos (by omega) λy h3 hy=>?_
   refine Yq (n:=i) (by omega) (λj s h'=>LO nc 2 (NQP B) h h' s (zgf j c M)) (by simpa [zgf] using hy) ?_
   intro j s h4 hj ho4 k9 hk9
   refine ze (λh5=>?_) (λh5=>?_)
   . have hj':j<i:=by simp only at h5;omega
     refine hm.row ho4.dle j rfl hj' λx hx=>?_
     have h6:j*c<=i*c:=Nat.mul_le_mul_right _ hj
     refine ho4.appAll (Xf B) hx rfl ?_ ?_ λw h7 hw=>hk9 _ _ hj' (by rw[zdr];exact hw)
     . rw[z18,List.length_map,List.length_range];omega
     . rw[z18,List.length_map,List.length_range];omega
   . have:j=i:=by simp only at h5;omega
     subst this
     exact hk _ _ ho4.dle ho4
theorem zoc(hm:MF h m r c 2 M)(hr:0<r)(hrr:r<=1000)(hc0:0<c)(hc:c<=1000){K:Sl×Int->Hp->Prop}
 (H:∀y D f bo bl h',h.le D->Bk D h' f->MX D f (λ_ _=>2) y r c bo bl (λi=>i) M->K (y,0) h'):zc (F.z1g m) K h:=by
 refine zd (λy h'=>y.2=0/\∃D f bo bl,h.le D/\Bk D h' f/\MX D f (λ_ _=>2) y.1 r c bo bl (λi=>i) M) (λK' hk=>?_) λy h' _ hy=>by
  obtain⟨y,e⟩:=y
  obtain⟨h1,D,f,bo,bl,h2,h3,h4⟩:=hy
  simp only at h1 h4
  subst h1
  exact H y D f bo bl h' h2 h3 h4
 unfold F.z1g
 have hml:=hm.len
 have hrc:r*c<=1000*1000:=Nat.mul_le_mul hrr hc
 have hpos:0<r*c:=Nat.mul_pos hr hc0
 refine znk hm hr hrr hc0 hc λl h1 hl=>?_
 refine zdl (B:=2) (hl.lr (Xf 2)) (by rw[z18];omega) (by omega) λy D h2 hD ho=>?_
 refine yt (λhh=>absurd rfl hh) (λ_=>?_)
 obtain⟨xs,ho1,hxl,hxs⟩:=ho
 have hhD:=Hp.le_trans hl.dle hD
 rw[z18]at hxl
 obtain⟨f2,hB2,hos⟩:=ho1.bk
 obtain⟨s1,s2,s3⟩:=hos
 have hfl:(xs.flatMap nc).length=r*c*2:=by rw[Qf (c:=nc) (n:=2) (λ_=>rfl),hxl]
 have hyl:y.len=r*c:=by rw[hfl]at s1;exact Nat.eq_of_mul_eq_mul_right (by decide) s1
 cases hya:y.a with
 | none=>rw[hya]at s3;simp only at s3;omega
 | some a=>
   rw[hya]at s3
   obtain⟨g1,g2,bs,g3,g4,g5⟩:=s3
   obtain⟨bl,hbl⟩:∃bl,bl=a.block:=⟨_,rfl⟩
   have ea:a=⟨bl,0,none⟩:=by cases a;simp only at g1 g2 hbl;rw[g1,g2,hbl]
   rw[<-hbl]at g3
   rw[hml]
   refine hB2.mkF r r rfl rfl (Nat.le_refl _) (by omega) (by omega) λbo h3 hbo hDo hB3=>?_
   have hne:bo≠bl:=λhh=>by rw[hh,g3]at hbo;cases hbo
   have r2:Z6 r [Value.slice zf.a zf.len zf.cap]=(List.range r).map λi=>slV (if i<0 then z92 bl (i*c*2) c else zf):=by
    unfold Z6
    simp only[Nat.not_lt_zero,if_false,slV]
    rw[List.map_const',List.length_range];simp
   have hcs:bs.length=y.cap*2:=g4
   obtain⟨I,hI⟩:∃I:Nat->Sl->Hp->Prop,∀i s h',I i s h'↔s.len=(r-i)*c/\(i<r->s=⟨some ⟨bl,i*c*2,none⟩,(r-i)*c,y.cap-i*c⟩)/\∃f',Bk D h' f'/\f' bo=some ((List.range r).map λj=>slV (if j<i then z92 bl (j*c*2) c else zf))/\f' bl=some bs:=⟨_,λ_ _ _=>Iff.rfl⟩
   refine Yq (n:=r) (by omega) I ((hI _ _ _).2 ⟨hyl,λ_=>?_,_,hB3,by rw[Zn,r2],by rw[Y0 (λhh=>hne hh.symm)];exact g3⟩) ?_
   . have:y=⟨y.a,y.len,y.cap⟩:=rfl
     rw[this,hya,ea,hyl,Nat.zero_mul,Nat.sub_zero,Nat.sub_zero]
   . intro i s h4 hir hI4 kk hkk
     obtain⟨t1,t2,f4,hB4,t3,t4⟩:=(hI _ _ _).1 hI4
     refine ze (λh5=>?_) (λh5=>?_)
     . have hi':i<r:=by simp only at h5;omega
       have es:=t2 hi'
       have hic:(i+1)*c<=r*c:=Nat.mul_le_mul_right _ hi'
       rw[Nat.add_mul,Nat.one_mul]at hic
       have hri:(r-i)*c=(r-(i+1))*c+c:=by
        have:r-i=(r-(i+1))+1:=by omega
        rw[this,Nat.add_mul,Nat.one_mul]
       refine hm.row (Hp.le_trans hhD hB4.le) i rfl hi' λx hx=>?_
       simp only[hx.len,es]
       refine⟨by omega,by omega,by omega,by show(c:Int)<=((y.cap-i*c:Nat):Int);omega,?_⟩
       refine⟨by omega,by show(c:Int)<=(((r-i)*c:Nat):Int);omega,by show(((r-i)*c:Nat):Int)<=((y.cap-i*c:Nat):Int);have:i*c+(r-i)*c=r*c:=by { rw[<-Nat.add_mul];congr 1;omega };omega,?_⟩
       refine z79 hi' (hB4.st t3 (by show i+1<=_;simp;omega) rfl λh6 hB6=>hkk _ _ hi' ((hI _ _ _).2 ⟨?_,λhi2=>?_,_,hB6,?_,by rw[Y0 (λhh=>hne hh.symm)];exact t4⟩))
       . show(r-i)*c-c=_;omega
       . show(⟨if y.cap-i*c=c then _ else (some (⟨bl,i*c*2,none⟩:Addr)).map (·.add (c*2)),(r-i)*c-c,y.cap-i*c-c⟩:Sl)=_
         have hic2:(i+2)*c<=r*c:=Nat.mul_le_mul_right _ hi2
         rw[Nat.add_mul]at hic2
         rw[if_neg (by omega)]
         show(⟨some ((⟨bl,i*c*2,none⟩:Addr).add (c*2)),_,_⟩:Sl)=_
         rw[Vg]
         have e1:i*c*2+c*2=(i+1)*c*2:=by rw[Nat.add_mul i,Nat.one_mul,Nat.add_mul]
         have e2:(r-i)*c-c=(r-(i+1))*c:=by omega
         have e3:y.cap-i*c-c=y.cap-(i+1)*c:=by rw[Nat.add_mul,Nat.one_mul];omega
         rw[e1,e2,e3]
       . rw[Zn]
         congr 1
         have ecut:((Sl.cut ⟨some ⟨bl,i*c*2,none⟩,(r-i)*c,((c:Int)).toNat⟩ ((0:Int)).toNat ((c:Int)).toNat 2):Sl)=z92 bl (i*c*2) c:=by
          show(⟨if c=0 then _ else (some (⟨bl,i*c*2,none⟩:Addr)).map (·.add (0*2)),c-0,c-0⟩:Sl)=_
          rw[if_neg (by omega)]
          show(⟨some ((⟨bl,i*c*2,none⟩:Addr).add (0*2)),_,_⟩:Sl)=_
          rw[Vg];rfl
         rw[ecut]
         refine List.ext_getElem? λa=>?_
         rw[z6h (by show i+1<=_;simp;omega)]
         simp only[List.getElem?_map]
         rcases Nat.lt_or_ge a r with ha | ha
         . rw[List.getElem?_range ha,Option.map_some,Option.map_some]
           by_cases e:a=i
           . subst e
             rw[if_pos ⟨Nat.le_refl _,by show a<a+1;omega⟩,if_pos (by omega),Nat.sub_self];rfl
           . rw[if_neg (by show ¬(i<=a/\a<i+1);omega)]
             by_cases e2:a<i
             . rw[if_pos e2,if_pos (by omega)]
             . rw[if_neg e2,if_neg (by omega)]
         . rw[if_neg (by show ¬(i<=a/\a<i+1);omega),List.getElem?_eq_none (by simpa using ha)];rfl
     . have:i=r:=by simp only at h5;omega
       subst this
       refine hk _ _ (Hp.le_trans hhD hB4.le) ⟨rfl,D,f4,bo,bl,hhD,hB4,rfl,hne,?_,λ_ h=>h,λ_ _ _ _ hh=>hh,bs,t4,?_,λa j ha hj=>?_⟩
       . rw[t3]
         congr 1
         refine List.map_congr_left λa ha=>?_
         rw[if_pos (List.mem_range.1 ha)]
       . rw[hcs];omega
       . have hk1:a*c+j<xs.length:=by rw[hxl];exact zag ha hj
         have e0:∀t,t<2->bs[a*c*2+j*2+t]?=(nc xs[a*c+j])[t]?:=λt ht=>by
          rw[<-z9g (c:=nc) (n:=2) (λ_=>rfl) hk1 ht,<-g5,List.getElem?_take,if_pos (by rw[hfl];have:=zag ha hj;omega)]
          congr 1;rw[Nat.add_mul]
         refine⟨xs[a*c+j],?_,e0 0 (by decide),e0 1 (by decide)⟩
         have h6:=hxs (a*c+j) hk1 (by rw[z18];exact zag ha hj)
         have h7:(zgf i c M)[a*c+j]'(by rw[z18];exact zag ha hj)=M a j:=by
          have:=zy0 (M:=M) ha hj
          rw[List.getElem?_eq_getElem (by rw[z18];exact zag ha hj)]at this
          exact Option.some.inj this
         rw[h7]at h6;exact h6
theorem zxf(hm:MF h m c r 2 (λj i=>M i j))(hA:Tq.Indep M r c)(hr:0<r)(hrr:r<=1000)(hc0:0<c)(hc:c<=11){K:Sl×Int->Hp->Prop}(H:∀y h',h.le h'->y.len=c->K (y,0) h'):zc (F.z6u m) K h:=by
 refine zd (λy h'=>y.2=0/\y.1.len=c) (λK' hk=>?_) λy h' hl hy=>by
  obtain⟨y,e⟩:=y
  obtain⟨h1,h2⟩:=hy
  simp only at h1 h2
  subst h1
  exact H y h' hl h2
 unfold F.z6u
 refine zfg hm hc0 (by omega) λh1 hl1=>zt rfl ?_
 refine zio (hm.le hl1) hc0 (by omega) (by omega) λy h2 hl2 hy=>?_
 refine zgy hA hrr hc (λK2 hK2=>zoc hy hr hrr hc0 (by omega) hK2) (λh3 K2 hl3 hK2=>z84 hy hl3 hr (hK2 _ (Hp.le_refl _))) λx h3 hl3 hx=>hk _ _ (Hp.le_trans hl1 (Hp.le_trans hl2 hl3)) ⟨rfl,hx⟩
end
end Den
end

section
namespace Den
open Go Iv Lx
section
variable {D h E : Hp} {f : BM} {size : Nat} {x y : Sl} {cs : List Value}
theorem Bk.take(hB:Bk D h f)(hE:E.le D)(ho:Own E D size y cs):∃D' f',E.le D'/\Bk D' h f'/\OS f' size y cs/\∀b,f b≠none->f' b=f b/\¬inB y b:=by
 obtain⟨h1,h2,h3,h4⟩:=ho
 cases ha:y.a with
 | none=>
   rw[ha]at h4
   refine⟨D,f,hE,hB,⟨h2,h3,by rw[ha];exact h4⟩,λb _=>⟨rfl,λhh=>?_⟩⟩
   obtain⟨_,h5,_⟩:=hh
   rw[ha]at h5;cases h5
 | some a=>
   rw[ha]at h4
   obtain⟨g1,g2,g3,b,g4,g5,g6,g7⟩:=h4
   have hfb:f a.block=none:=by
    cases hf:f a.block with
    | none=>rfl
    | some ds=>have:=(hB.own _ _ hf).1;rw[g4]at this;cases this
   refine⟨D.del a.block,Wd f a.block b.cells,λk B hk=>?_,⟨λk B hk=>?_,λk ds hk=>?_⟩,⟨h2,h3,?_⟩,λk hk=>⟨Y0 λhh=>hk (hh▸hfb),λhh=>?_⟩⟩
   . unfold Hp.del
     rw[if_neg (λhh=>by rw[hh,g3]at hk;cases hk)];exact hE k B hk
   . unfold Hp.del at hk
     split at hk
     . cases hk
     . exact hB.le k B hk
   . by_cases hka:k=a.block
     . subst hka
       rw[Zn]at hk;cases hk
       refine⟨by unfold Hp.del;rw[if_pos rfl],b.elem,?_⟩
       rw[hB.le _ _ g4,<-g5]
     . rw[Y0 hka]at hk
       obtain⟨k1,e,k2⟩:=hB.own k ds hk
       exact⟨by unfold Hp.del;rw[if_neg hka];exact k1,e,k2⟩
   . rw[ha]
     exact⟨g1,g2,b.cells,Zn,g6,g7⟩
   . obtain⟨x,h5,h6⟩:=hh
     rw[ha]at h5;cases h5
     exact hk (h6▸hfb)
theorem Bk.give(hB:Bk D h f)(ho:OS f size y cs):∃D' f',D.le D'/\Bk D' h f'/\Rd D' size y cs/\∀b,¬inB y b->f' b=f b:=by
 have how:=ho.own hB
 obtain⟨h1,h2,h3,h4⟩:=how
 cases ha:y.a with
 | none=>
   rw[ha]at h4
   have:cs=[]:=by
    have:y.len=0:=by omega
    rw[this,Nat.zero_mul]at h2
    exact List.length_eq_zero_iff.1 h2.symm
   subst this
   refine⟨D,f,Hp.le_refl _,hB,⟨h2,by rw[ha];rfl⟩,λ_ _=>rfl⟩
 | some a=>
   rw[ha]at h4
   obtain⟨g1,g2,g3,b,g4,g5,g6,g7⟩:=h4
   have hle:D.le (D.ins a.block b):=Hp.le_ins g3
   have how2:Own D (D.ins a.block b) size y cs:=⟨hle,h2,h3,by rw[ha];exact⟨g1,g2,g3,b,Hp.ins_same _ _ _,g5,g6,g7⟩⟩
   refine⟨D.ins a.block b,λk=>if k=a.block then none else f k,hle,⟨λk B hk=>?_,λk ds hk=>?_⟩,how2.rd,λk hk=>if_neg λhh=>hk ⟨a,ha,hh.symm⟩⟩
   . by_cases hka:k=a.block
     . subst hka
       rw[Hp.ins_same]at hk;cases hk;exact g4
     . rw[Hp.ins_ne hka]at hk;exact hB.le k B hk
   . by_cases hka:k=a.block
     . simp only[if_pos hka]at hk;cases hk
     . simp only[if_neg hka]at hk
       rw[Hp.ins_ne hka];exact hB.own k ds hk
end
theorem zfl{α:Type}{c:α->List Value}{n k:Nat}(hc:∀x,(c x).length=n){xs:List α}{x:α}(hk:k<xs.length):z8 (xs.flatMap c) (k*n) (c x)=(xs.set k x).flatMap c:=by
 unfold z8
 have e:k*n+(c x).length=(k+1)*n:=by rw[hc,Nat.add_mul,Nat.one_mul]
 rw[e,zh4 hc,ze3 hc,List.set_eq_take_append_cons_drop,if_pos hk,List.flatMap_append,List.flatMap_cons,List.append_assoc]
section
variable {h D : Hp} {Ks : Sl → Hp → Prop}
theorem zu1{n:Nat}(hn:n<=1000000)(H:∀y D h',h.le D->LO nc 2 (NQP 2) D h' y (List.replicate n ((0:Int):Rat))->Ks y h'):zc (F.z8l (n:Int) (-1)) Ks h:=by
 refine zd (λy h'=>∃D,h.le D/\LO nc 2 (NQP 2) D h' y (List.replicate n ((0:Int):Rat))) (λK' hk=>?_) λy h' _ hy=>by obtain⟨D,h1,h2⟩:=hy;exact H y D h' h1 h2
 unfold F.z8l
 refine Yq (n:=n) (by omega) (λi s h'=>∃D,h.le D/\LO nc 2 (NQP 2) D h' s (List.replicate i ((0:Int):Rat))) ⟨h,Hp.le_refl _,LO.nil⟩ ?_
 rintro i s h1 hi ⟨D,hD,ho⟩ kk hkk
 refine ze (λh2=>?_) (λh2=>?_)
 . have hi':i<n:=by simp only at h2;omega
   refine ho.call (Xf 2) (K1:=λz D'=>NQ D' 2 z ((0:Int):Rat)) (zid (by decide) (by decide) λz h' _ hz=>hz) λz D3 h3 hD3 ho3 hz=>?_
   obtain⟨J,hJ⟩:∃J:(Sl×Sl×Unit)×Unit->Hp->Prop,∀s' h',J s' h'↔s'=((z.radicands,z.coefs,()),())/\h'=h3:=⟨_,λ_ _=>Iff.rfl⟩
   refine zk J (λs' h' hs=>?_) ?_
   . obtain⟨rfl,rfl⟩:=(hJ _ _).1 hs
     refine ho3.app (Xf 2) (bytes:=48) (zero:=[.slice zf.a zf.len zf.cap,.slice zf.a zf.len zf.cap]) (x:=z) (b:=((0:Int):Rat)) rfl (by rw[List.length_replicate];omega) (by rw[List.length_replicate];omega) hz λw h5 hw=>hkk _ _ hi' ⟨D3,Hp.le_trans hD hD3,?_⟩
     rw[List.replicate_succ'];exact hw
   . exact Za (λhh=>absurd hh (by simp only;omega)) λ_=>(hJ _ _).2 ⟨rfl,rfl⟩
 . have:i=n:=by simp only at h2;omega
   subst this
   exact hk _ _ (Hp.le_trans hD ho.dle) ⟨D,hD,ho⟩
def Z8b(p:Int×Int):List Value:=[.int .i8 p.1,.int .i8 p.2]
def AT(h:Hp)(l:Sl)(ps:List (Int×Int)):Prop:=Rd h 2 l (ps.flatMap Z8b)/\∀p∈ps,-128<=p.1/\p.1<=127/\-128<=p.2/\p.2<=127
theorem AT.le{h':Hp}{l:Sl}{ps:List (Int×Int)}(ha:AT h l ps)(hl:h.le h'):AT h' l ps:=⟨ha.1.le hl,ha.2⟩
def cp(t:Nat)(p:Int×Int):Int:=if t=0 then p.1 else p.2
def Zde(t:Nat)(ps:List (Int×Int))(v:Int):Rat:=((cp t (ps.getD v.toNat (0,0)):Int):Rat)
theorem zwc{E ps:List (Int×Int)}{i j:Nat}:Tq.frameM E (z9r ps) (zb3 ps) i j=Tq.coef (Zde (i % 2) ps) (E.getD j (0,0)) ((i/2:Nat):Int):=by
 unfold Tq.frameM
 rcases(by omega:i % 2=0\/i % 2=1)with h | h
 . rw[if_pos h,h];rfl
 . rw[if_neg (by omega),h];rfl
theorem Zby{t:Nat}{p:Int×Int}(h:-128<=p.1/\p.1<=127/\-128<=p.2/\p.2<=127):-128<=cp t p/\cp t p<=127:=by unfold cp;split<;>omega
theorem AT.get{l:Sl}{ps:List (Int×Int)}(ha:AT h l ps){z w:Int}(v t:Nat)(hz:z=v)(hw:w=t)(hv:v<ps.length)(ht:t<2){K:Int->Prop}(H:-128<=cp t (ps.getD v (0,0))->cp t (ps.getD v (0,0))<=127->K (cp t (ps.getD v (0,0)))) :
 zg l z 2 λa=>z9k w 2 (ldL (.int .i8) (a.add (w.toNat*1)) K h):=by
 subst hz hw
 have e:ps.getD v (0,0)=ps[v]:=by rw[List.getD_eq_getElem?_getD,List.getElem?_eq_getElem hv];rfl
 have hr:=Zby (t:=t) (ha.2 _ (List.getElem_mem hv))
 rw[e]at H
 refine zkb (c:=Z8b) (n:=2) (λ_=>rfl) (by decide) ha.1 v rfl hv λa hc=>?_
 unfold z9k
 rw[decide_eq_true (show 0<=(t:Int)/\(t:Int)<(2:Nat)by omega)]
 refine⟨cp t ps[v],?_,H hr.1 hr.2⟩
 rw[show((t:Int)).toNat*1=t from Nat.mul_one t]
 refine hc t _ ht ?_
 rcases(by omega:t=0\/t=1)with rfl | rfl<;>rfl
def zxd(n:Nat)(E ps:List (Int×Int))(j t i:Nat):Rat:=if i % 2<t then Tq.frameM E (z9r ps) (zb3 ps) i j else ((0:Int):Rat)
theorem zxe{n a b j t i:Nat}{E ps:List (Int×Int)}(hj:j<E.length)(ha:E[j].1=(a:Int))(hb:E[j].2=(b:Int))(hab:a≠b)(ht:t<2) :
 zxd n E ps j (t+1) i=if i=2*b+t then ((-(cp t (ps.getD a (0,0))-cp t (ps.getD b (0,0))):Int):Rat)else if i=2*a+t then ((cp t (ps.getD a (0,0))-cp t (ps.getD b (0,0)):Int):Rat)else zxd n E ps j t i:=by
 have eE:E.getD j (0,0)=E[j]:=by rw[List.getD_eq_getElem?_getD,List.getElem?_eq_getElem hj];rfl
 have pa:Zde t ps (a:Int)=((cp t (ps.getD a (0,0)):Int):Rat):=rfl
 have pb:Zde t ps (b:Int)=((cp t (ps.getD b (0,0)):Int):Rat):=rfl
 unfold zxd
 rw[zwc,eE]
 unfold Tq.coef
 rw[ha,hb]
 by_cases h1:i=2*b+t
 . rw[if_pos h1,if_pos (by omega)]
   have e1:i % 2=t:=by omega
   have e2:i/2=b:=by omega
   rw[e1,e2,if_neg (by omega),if_pos rfl,pa,pb,<-Rat.intCast_sub]
   congr 1;omega
 . rw[if_neg h1]
   by_cases h2:i=2*a+t
   . rw[if_pos h2,if_pos (by omega)]
     have e1:i % 2=t:=by omega
     have e2:i/2=a:=by omega
     rw[e1,e2,if_pos rfl,pa,pb,<-Rat.intCast_sub]
   . rw[if_neg h2]
     by_cases h3:i % 2=t
     . rw[if_pos (by omega),if_neg (by omega),if_neg (by omega),if_neg (by omega)];rfl
     . by_cases h4:i % 2<t
       . rw[if_pos (by omega),if_pos h4]
       . rw[if_neg (by omega),if_neg h4]
theorem zh5{G:TGraph}{es ps:List (Int×Int)}{at_:Sl}{n:Nat}(hl:LR a2c 2 A2P h G.edges es)(hn:G.n=(n:Int))(hn2:n<=60)(hlen:es.length<=3600)(hE:∀e∈es,0<=e.1/\e.1<n/\0<=e.2/\e.2<n/\e.1≠e.2)(hat:AT h at_ ps)(hps:ps.length=n)
 (H:∀y h',h.le h'->MF h' y es.length (2*n) 2 (λj i=>Tq.frameM es (z9r ps) (zb3 ps) i j)->Ks y h'):zc (F.z41 G at_) Ks h:=by
 refine zd (λy h'=>MF h' y es.length (2*n) 2 (λj i=>Tq.frameM es (z9r ps) (zb3 ps) i j)) (λK' hk=>?_) λy h' hl hy=>H y h' hl hy
 unfold F.z41
 have hll:=hl.len Zy
 obtain⟨Mt,hMt⟩:∃Mt:Nat->Nat->Rat,Mt=λj i=>Tq.frameM es (z9r ps) (zb3 ps) i j:=⟨_,rfl⟩
 rw[<-hMt]at hk
 refine Yq (n:=es.length) (by omega) (λj s h'=>∃D f,h.le D/\Bk D h' f/\∃ss:List Sl,OS f 1 s (ss.map slV)/\ss.length=j/\∀k (hk:k<ss.length),RwF 2 (2*n) Mt D ss[k] k) ⟨h,z6x,Hp.le_refl _,Bk.start,[],OS.nil,rfl,λk hk=>by simp at hk⟩ ?_
 rintro j s h1 hj ⟨D1,f1,hD1,hB1,ss,hos,hss,hrw⟩ kk hkk
 refine ze (λh2=>?_) (λh2=>?_)
 . have hj':j<es.length:=by simp only at h2;omega
   refine(hl.le Zy (Hp.le_trans hD1 hB1.le)).get Zy j rfl hj' λa3 e he hc=>⟨_,hc 0 _ rfl,_,hc 1 _ rfl,?_⟩
   obtain⟨q1,q2,q3,q4,q5⟩:=hE _ (List.getElem_mem hj')
   obtain⟨x1,x2⟩:=he
   rw[x1,x2]
   obtain⟨a,ha⟩:∃a:Nat,es[j].1=(a:Int):=⟨es[j].1.toNat,by omega⟩
   obtain⟨b,hb⟩:∃b:Nat,es[j].2=(b:Int):=⟨es[j].2.toNat,by omega⟩
   have han:a<n:=by omega
   have hbn:b<n:=by omega
   have hab:a≠b:=by omega
   simp only[ha,hb]
   have e2n:i64.wrap (2*G.n)=((2*n:Nat):Int):=by rw[hn,w64 (by omega)];omega
   rw[e2n]
   refine hB1.call (K1:=λy D'=>∃E,D1.le E/\LO nc 2 (NQP 2) E D' y (List.replicate (2*n) ((0:Int):Rat))) (zu1 (by omega) λy E h' hE hy=>⟨E,hE,hy⟩) λy D2 h3 hD2 hB2 hy=>?_
   obtain⟨E,hE1,X0,hX0,hX0l,hX0q⟩:=hy
   obtain⟨D3,f3,hD3,hB3,hy3,hf3⟩:=hB2.take hX0.1 hX0
   have hos3:OS f3 1 s (ss.map slV):=hos.congr λb hb=>(hf3 b (hos.there hb)).1
   have apt3:∀b,inB s b->¬inB y b:=λb hb=>(hf3 b (hos.there hb)).2
   have hX0l2:X0.length=2*n:=by rw[hX0l,List.length_replicate]
   refine Yr (n:=2) (by omega) (λt h'=>∃D f,D3.le D/\Bk D h' f/\∃X:List TNumber,OS f 2 y (X.flatMap nc)/\X.length=2*n/\(∀i (hi:i<X.length),NQ D 2 X[i] (zxd n es ps j t i))/\∀b,¬inB y b->f b=f3 b) ⟨D3,f3,Hp.le_refl _,hB3,X0,hy3,hX0l2,λi hi=>?_,λ_ _=>rfl⟩ ?_
   . have h4:=hX0q i hi (by rw[List.length_replicate];omega)
     rw[List.getElem_replicate]at h4
     unfold zxd
     rw[if_neg (by omega)]
     have h5:NQ E 2 X0[i] ((0:Int):Rat):=h4
     exact h5.le hD3
   . rintro t h4 ht2 ⟨D4,f4,hD4,hB4,X,hyX,hXl,hXq,hf4⟩ k7 hk7
     have hle4:h.le h4:=Hp.le_trans hD1 (Hp.le_trans hE1 (Hp.le_trans hD3 (Hp.le_trans hD4 hB4.le)))
     refine ze (λh5=>?_) (λh5=>?_)
     . have ht:t<2:=by simp only at h5;omega
       refine(hat.le hle4).get a t rfl rfl (by omega) ht λra1 ra2=>?_
       refine(hat.le hle4).get b t rfl rfl (by omega) ht λrb1 rb2=>?_
       obtain⟨za,hza⟩:∃za,za=cp t (ps.getD a (0,0)):=⟨_,rfl⟩
       obtain⟨zb,hzb⟩:∃zb,zb=cp t (ps.getD b (0,0)):=⟨_,rfl⟩
       rw[<-hza]at ra1 ra2
       rw[<-hzb]at rb1 rb2
       rw[<-hza,<-hzb]
       have w1:i64.wrap za=za:=w64 (by omega)
       have w2:i64.wrap zb=zb:=w64 (by omega)
       have w3:i64.wrap (za-zb)=za-zb:=w64 (by omega)
       have w4:i64.wrap (0-(za-zb))=-(za-zb):=by rw[w64 (by omega)];omega
       have wa:i64.wrap (2*(a:Int))=2*(a:Int):=w64 (by omega)
       have wb:i64.wrap (2*(b:Int))=2*(b:Int):=w64 (by omega)
       have wc:i64.wrap (2*(a:Int)+(t:Int))=((2*a+t:Nat):Int):=by rw[w64 (by omega)];omega
       have wd:i64.wrap (2*(b:Int)+(t:Int))=((2*b+t:Nat):Int):=by rw[w64 (by omega)];omega
       simp only[w1,w2,w3,w4,wa,wb,wc,wd]
       refine hB4.call (K1:=λz D'=>NQ D' 2 z (((za-zb):Int):Rat)) (z7a (by omega) (by omega) λz h' _ hz=>hz) λr12 D5 h6 hD5 hB5 h12=>?_
       refine hB5.call (K1:=λz D'=>NQ D' 2 z (((-(za-zb)):Int):Rat)) (z7a (by omega) (by omega) λz h' _ hz=>hz) λr13 D6 h7 hD6 hB6 h13=>?_
       have hyl:y.len=2*n:=by
        have:=hyX.1
        rw[Qf (c:=nc) (n:=2) (λ_=>rfl),hXl]at this
        exact Nat.eq_of_mul_eq_mul_right (by decide) this
       refine hyX.st (vs:=nc r12) (2*a+t) hB6 rfl (by omega) rfl (by decide) rfl λf7 h8 hB7 ho7 hf7=>?_
       rw[zfl (c:=nc) (n:=2) (λ_=>rfl) (by omega)]at ho7
       refine ho7.st (vs:=nc r13) (2*b+t) hB7 rfl (by omega) rfl (by decide) rfl λf8 h9 hB8 ho8 hf8=>hk7 _ ht ⟨D6,f8,Hp.le_trans hD4 (Hp.le_trans hD5 hD6),hB8,(X.set (2*a+t) r12).set (2*b+t) r13,?_,by simp[hXl],λi hi=>?_,λb hb=>by rw[hf8 b hb,hf7 b hb,hf4 b hb]⟩
       . rw[zfl (c:=nc) (n:=2) (λ_=>rfl) (by simp;omega)]at ho8
         exact ho8
       . rw[zxe hj' ha hb hab ht,<-hza,<-hzb,List.getElem_set]
         by_cases e1:i=2*b+t
         . rw[if_pos e1,if_pos e1.symm];exact h13
         . rw[if_neg e1,if_neg (λhh=>e1 hh.symm),List.getElem_set]
           by_cases e2:i=2*a+t
           . rw[if_pos e2,if_pos e2.symm];exact h12.le hD6
           . rw[if_neg e2,if_neg (λhh=>e2 hh.symm)]
             exact(hXq i (by simpa using hi)).le (Hp.le_trans hD5 hD6)
     . have ht:t=2:=by simp only at h5;omega
       subst ht
       obtain⟨D5,f5,hD5,hB5,hr5,hf5⟩:=hB4.give hyX
       have hos5:OS f5 1 s (ss.map slV):=hos3.congr λb hb=>by rw[hf5 b (apt3 b hb),hf4 b (apt3 b hb)]
       have hsl:s.len=j:=by have:=hos5.1;rw[List.length_map,hss,Nat.mul_one]at this;exact this
       have hcap:=hyX.2.1
       have hDD:D1.le D5:=Hp.le_trans hE1 (Hp.le_trans hD3 (Hp.le_trans hD4 hD5))
       refine hos5.app hB5 (n:=1) (new:=[slV y]) rfl rfl rfl (by omega) (by omega) λw f6 h6 hB6 ho6 _ _=>hkk _ _ hj' ⟨D5,f6,Hp.le_trans hD1 hDD,hB6,ss++[y],by rw[List.map_append];exact ho6,by rw[List.length_append,hss];rfl,λk k1=>?_⟩
       rcases Nat.lt_or_ge k ss.length with h8 | h8
       . rw[List.getElem_append_left h8]
         exact(hrw k h8).le (Xf 2) hDD
       . have:k=ss.length:=by simp at k1;omega
         subst this
         rw[List.getElem_append_right (Nat.le_refl _)]
         simp only[Nat.sub_self,List.getElem_cons_zero]
         refine⟨X,hr5,hcap,by simp[hXl],λi i1 i2=>?_⟩
         rw[List.getElem_map,z5o]
         have h9:=(hXq i i1).le hD5
         unfold zxd at h9
         rw[if_pos (by omega)]at h9
         rw[hss,hMt];exact h9
 . have:j=es.length:=by simp only at h2;omega
   subst this
   have hsl:s.len=ss.length:=by have:=hos.1;rw[List.length_map,Nat.mul_one]at this;exact this
   refine hk _ _ (Hp.le_trans hD1 hB1.le) ⟨ss,by rw[zul];exact hos.rd hB1,hos.2.1,by rw[List.length_range];exact hss,λk k1 k2=>?_⟩
   rw[z5o]
   exact(hrw k k1).le (Xf 2) hB1.le
end
end Den
end

section
namespace Den
open Go Iv Lx
section
variable {h : Hp} {es : List (Int × Int)} {Kb : Bool → Hp → Prop} {Ks : Sl → Hp → Prop}
end
end Den
end

section
namespace Den
open Go Iv Lx
def z1v(e:Int×Int)(x:TRat):PCon:=⟨2,[e.1,e.2],[],[.mk 1 x (some ((5:Int):Rat)) Xx []],0⟩
def ptF(p:Int×Int):Option Rat×Option Rat:=(some ((p.1:Int):Rat),some ((p.2:Int):Rat))
def FSk(es ps:List (Int×Int))(S:PSk):Prop:=S.pts=ps.map ptF/\S.cir=[]/\S.seg=[]/\S.arc=[]/\S.chn=[]/\∃xs:List TRat,xs.length=es.length/\(∀x∈xs,x.num.mag.len<=2/\x.den.mag.len<=2)/\S.con=(List.range es.length).map λi=>z1v (es.getD i (0,0)) (xs.getD i ⟨⟨false,zf⟩,⟨false,zf⟩⟩)
section
variable {h : Hp}
theorem zq2{x:TRat}{n:Int}(h1:-9223372036854775808<=n)(h2:n<=9223372036854775807)(hx:NR h x (n:Rat)):OR h x (some (n:Rat))/\x.num.mag.len<=2/\x.den.mag.len<=2:=by
 have hl:=hx.lens (zkp h1 h2)
 exact⟨⟨hx.ar,by omega,by omega,λq=>⟨λhq=>by rw[hx.inj hq],λhq=>by cases hq;exact hx⟩⟩,hl⟩
theorem ze4{G:TGraph}{es ps:List (Int×Int)}{at_:Sl}{n:Nat}{K:TSketch->Hp->Prop}(hl:LR a2c 2 A2P h G.edges es)(hn:G.n=(n:Int))(hn2:n<=60)(hlen:es.length<=3600)(hat:AT h at_ ps)(hps:ps.length=n)
 (H:∀s S h',h.le h'->SK h' s S->FSk es ps S->K s h'):zc (F.z1u G at_) K h:=by
 refine zd (λs h'=>∃S,SK h' s S/\FSk es ps S) (λK' hk=>?_) λs h' hl hs=>by obtain⟨S,h1,h2⟩:=hs;exact H s S h' hl h1 h2
 unfold F.z1u
 have hll:=hl.len Zy
 refine Yq (n:=n) (by omega) (λi s h'=>s.2=(zf,zf,zf,zf,zf,())/\∃D,h.le D/\LO ptc 8 PTT D h' s.1 ((ps.take i).map ptF)) ⟨rfl,h,Hp.le_refl _,LO.nil⟩ ?_
 rintro i ⟨s,sr⟩ h1 hi ⟨rfl,D,hD,ho⟩ kk hkk
 simp only[hn]
 refine ze (λh2=>?_) (λh2=>?_)
 . have hi':i<n:=by have h2:(i:Int)<(n:Int):=h2;omega
   have hip:i<ps.length:=by omega
   have hr:=hat.2 _ (List.getElem_mem hip)
   have hal:=hat.le (Hp.le_trans hD ho.dle)
   refine zkb (c:=Z8b) (n:=2) (λ_=>rfl) (by decide) hal.1 i rfl hip λa3 hc3=>⟨ps[i].1,hc3 0 _ (by decide) rfl,?_⟩
   refine zkb (c:=Z8b) (n:=2) (λ_=>rfl) (by decide) hal.1 i rfl hip λa5 hc5=>⟨ps[i].2,hc5 1 _ (by decide) rfl,?_⟩
   have w1:i64.wrap ps[i].1=ps[i].1:=w64 (by omega)
   have w2:i64.wrap ps[i].2=ps[i].2:=w64 (by omega)
   simp only[w1,w2]
   refine ho.call z3g (K1:=λz D'=>NR D' z ((ps[i].1:Int):Rat)) (z2x (by omega) (by omega) λz h' _ hz=>hz) λz D3 h3 hD3 ho3 hz=>?_
   refine ho3.call z3g (K1:=λz D'=>NR D' z ((ps[i].2:Int):Rat)) (z2x (by omega) (by omega) λz h' _ hz=>hz) λw D4 h4 hD4 ho4 hw=>?_
   have hlt:((ps.take i).map ptF).length=i:=by rw[List.length_map,List.length_take,Nat.min_eq_left (by omega)]
   refine ho4.app z3g (bytes:=128) (zero:=[.bool false,.slice zf.a zf.len zf.cap,.bool false,.slice zf.a zf.len zf.cap,.bool false,.slice zf.a zf.len zf.cap,.bool false,.slice zf.a zf.len zf.cap]) (x:=⟨z,w⟩) (b:=ptF ps[i]) rfl (by rw[hlt];omega) (by rw[hlt];omega) ⟨(zq2 (by omega) (by omega) (hz.le hD4)).1,(zq2 (by omega) (by omega) hw).1⟩ λy h5 hy=>hkk (y,zf,zf,zf,zf,zf,()) _ hi' ⟨rfl,D4,Hp.le_trans hD (Hp.le_trans hD3 hD4),?_⟩
   rw[<-List.take_append_getElem hip,List.map_append];exact hy
 . have:i=n:=by have h2:¬(i:Int)<(n:Int):=h2;omega
   subst this
   rw[List.take_of_length_le (by omega)]at ho
   have hp1:=ho.lr z3g
   have hhl:=Hp.le_trans hD ho.dle
   obtain⟨cf,hcf⟩:∃cf:List TRat->Nat->PCon,cf=λxs k=>z1v (es.getD k (0,0)) (xs.getD k ⟨⟨false,zf⟩,⟨false,zf⟩⟩):=⟨_,rfl⟩
   refine Yq (n:=es.length) (by omega) (λj t h'=>(t.1=s/\t.2.1=zf/\t.2.2.1=zf/\t.2.2.2.1=zf/\t.2.2.2.2.1=zf)/\∃D xs,h1.le D/\xs.length=j/\(∀x∈xs,x.num.mag.len<=2/\x.den.mag.len<=2)/\LO cc 5 CO D h' t.2.2.2.2.2.1 ((List.range j).map (cf xs))) ⟨⟨rfl,rfl,rfl,rfl,rfl⟩,h1,[],Hp.le_refl _,rfl,λx hx=>by simp at hx,LO.nil⟩ ?_
   rintro j ⟨s,t1,t2,t3,t4,t,_⟩ h3 hj ⟨⟨rfl,rfl,rfl,rfl,rfl⟩,D2,xs,hD2,hxl,hxs,ho2⟩ k11 hk11
   simp only at ho2
   have hle3:=Hp.le_trans hhl (Hp.le_trans hD2 ho2.dle)
   refine ze (λh4=>?_) (λh4=>?_)
   . have hj':j<es.length:=by simp only at h4;omega
     refine(hl.le Zy hle3).get Zy j rfl hj' λa12 e he hc=>⟨_,hc 0 _ rfl,_,hc 1 _ rfl,?_⟩
     rw[he.1,he.2]
     refine ho2.call Yy (K1:=λz D'=>NR D' z ((5:Int):Rat)) (z2x (by decide) (by decide) λz h' _ hz=>hz) λz D5 h5 hD5 ho5 hz=>?_
     refine ho5.newb Yy λa6 D6 h6 hD6 _ ho6 hc6=>?_
     refine ho6.newb Yy λa7 D7 h7 hD7 _ ho7 hc7=>?_
     obtain⟨hor,hzl⟩:=zq2 (by decide) (by decide) (hz.le (Hp.le_trans hD6 hD7))
     have hIL:IL D7 ⟨some a6,2,2⟩ [es[j].1,es[j].2]:=⟨(z2t hc6 rfl).le hD7,Nat.le_refl _⟩
     have hEX:LR ec 7 EX D7 ⟨some a7,1,1⟩ [PEx.mk 1 z (some ((5:Int):Rat)) Xx []]:=by
      refine⟨[⟨1,z,Xx,zf⟩],z2t hc7 rfl,Nat.le_refl _,rfl,λk k1 k2=>?_⟩
      have:k=0:=by simp at k1;omega
      subst this
      exact EX.mk (⟨1,z,Xx,zf⟩:TExpr) (some ((5:Int):Rat)) [] [] hor Rd.nil (Nat.le_refl _) rfl λk k1 _=>by simp at k1
     have hgj:es.getD j (0,0)=es[j]:=by rw[List.getD_eq_getElem?_getD,List.getElem?_eq_getElem hj'];rfl
     refine ho7.app Yy (bytes:=88) (zero:=[.int .i64 0,.slice zf.a zf.len zf.cap,.slice zf.a zf.len zf.cap,.slice zf.a zf.len zf.cap,.int .i64 0]) (x:=⟨2,⟨some a6,2,2⟩,zf,⟨some a7,1,1⟩,0⟩) (b:=z1v es[j] z) rfl (by rw[List.length_map,List.length_range];omega) (by rw[List.length_map,List.length_range];omega) ⟨rfl,hIL,IL.nil,hEX,rfl⟩ λy h8 hy=>hk11 (s,zf,zf,zf,zf,y,()) _ hj' ⟨⟨rfl,rfl,rfl,rfl,rfl⟩,D7,xs++[z],Hp.le_trans hD2 (Hp.le_trans hD5 (Hp.le_trans hD6 hD7)),by rw[List.length_append,hxl];rfl,λx hx=>?_,?_⟩
     . rcases List.mem_append.1 hx with hx | hx
       . exact hxs x hx
       . rw[List.mem_singleton.1 hx];exact hzl
     . have e1:(List.range (j+1)).map (cf (xs++[z]))=(List.range j).map (cf xs)++[z1v es[j] z]:=by
        rw[List.range_succ,List.map_append]
        congr 1
        . refine List.map_congr_left λk hk=>?_
          have hk:=List.mem_range.1 hk
          rw[hcf]
          simp only
          rw[List.getD_eq_getElem?_getD (l:=xs++[z]),List.getElem?_append_left (by omega),<-List.getD_eq_getElem?_getD]
        . rw[hcf]
          simp only[List.map_cons,List.map_nil]
          rw[hgj,List.getD_eq_getElem?_getD,List.getElem?_append_right (by omega),hxl,Nat.sub_self];rfl
       rw[e1];exact hy
   . have:j=es.length:=by simp only at h4;omega
     subst this
     refine hk _ _ hle3 ⟨⟨ps.map ptF,[],[],[],[],(List.range es.length).map (cf xs)⟩,⟨(hp1.le z3g (Hp.le_trans hD2 ho2.dle)),LR.nil,LR.nil,LR.nil,LR.nil,ho2.lr Yy⟩,rfl,rfl,rfl,rfl,rfl,xs,hxl,hxs,by rw[hcf]⟩
end
end Den
end

section
namespace Den
open Go Iv Lx
def z6l:List (Int×Int):=[(0,1),(0,2),(1,2),(1,3),(2,3)]
def Zc4:List (Int×Int):=[(0,0),(2,0),(1,2),(3,2)]
theorem Zc5:HI 4 z6l Zc4:=by
 have h2:HI 2 [(0,1)] [(0,0),(2,0)]:=by
  refine⟨Nat.le_refl _,⟨by omega,λe he=>?_,λj hj=>?_⟩,rfl,Qk.bar,Tq.Free.bar (.inl ?_),rfl⟩
  . rw[List.mem_singleton.1 he];simp
  . simp at hj
  . unfold z9r;simp
 have g3:GV ((2+1:Nat):Int) [(0,1),(0,2),(1,2)]:=by
  refine⟨by omega,λe he=>?_,λj hj=>?_⟩
  . simp only[List.mem_cons,List.not_mem_nil,or_false]at he
    rcases he with rfl | rfl | rfl<;>simp
  . have:j=0\/j=1:=by simp at hj;omega
    rcases this with rfl | rfl<;>simp[z1w]
 have h3:HI 3 [(0,1),(0,2),(1,2)] [(0,0),(2,0),(1,2)]:=h2.step (a:=0) (b:=1) (x:=(1,2)) (by omega) (by omega) (by omega) (List.Perm.refl _) g3 (by decide)
 have g4:GV ((3+1:Nat):Int) z6l:=by
  refine⟨by omega,λe he=>?_,λj hj=>?_⟩
  . simp only[z6l,List.mem_cons,List.not_mem_nil,or_false]at he
    rcases he with rfl | rfl | rfl | rfl | rfl<;>simp
  . have:j=0\/j=1\/j=2\/j=3:=by simp[z6l]at hj;omega
    rcases this with rfl | rfl | rfl | rfl<;>simp[z1w,z6l]
 exact h3.step (a:=1) (b:=2) (x:=(3,2)) (by omega) (by omega) (by omega) (List.Perm.refl _) g4 (by decide)
theorem zo0{us:List PTr}{i j k:Nat}{x y z x0 y0 z0:Int}(hF:First us i j k x y z)(h0:z7o (us.getD 0 (.leaf 0 0)) (us.getD 1 (.leaf 0 0)) (us.getD 2 (.leaf 0 0))=some (x0,y0,z0)):i=0/\j=1/\k=2/\x=x0/\y=y0/\z=z0:=by
 have hij:=hF.ij
 have hjk:=hF.jk
 have hlt:=hF.lt
 by_cases h:i=0/\j=1/\k=2
 . obtain⟨rfl,rfl,rfl⟩:=h
   have:=hF.can
   rw[h0]at this
   cases this
   exact⟨rfl,rfl,rfl,rfl,rfl,rfl⟩
 . have:=hF.first 0 1 2 (by omega) (by omega) (by omega) (by omega)
   rw[h0]at this;cases this
theorem zma{es:List (Int×Int)}{l:List Int}(hl:l.Pairwise (·<·))(hm:∀v,v∈l↔∃e∈es,v=e.1\/v=e.2):z1i es=l:=
 zku (R:=(·<·)) (λa=>Int.lt_irrefl a) (λa b h1 h2=>absurd (Int.lt_trans h1 h2) (Int.lt_irrefl _)) zd6 hl λv=>by rw[zat,hm]
theorem Zkw{a b v:Int}{e:Int×Int}(h1:e.1=a)(h2:e.2=b):v∈[a,b]↔∃x∈[e],v=x.1\/v=x.2:=by
 subst h1 h2
 simp
def zjr:PTr:=.node 1 0 2 (.leaf 0 1) (.leaf 0 2) (.leaf 1 2)
def zuh:PTr:=.node 2 1 3 zjr (.leaf 1 3) (.leaf 2 3)
theorem zi0{a b:Int}(h:a<b):z1i (PTr.leaf a b).bars=[a,b]:=zma (by simp[h]) λv=>Zkw rfl rfl
theorem Zdf:z1i zjr.bars=[0,1,2]:=zma (by decide) λv=>by
 have e:zjr.bars=[(0,1),(0,2),(1,2)]:=rfl
 rw[e]
 simp only[List.mem_cons,List.not_mem_nil,or_false,exists_eq_or_imp,exists_eq_left]
 omega
theorem Zdg:z1i zuh.bars=[0,1,2,3]:=zma (by decide) λv=>by
 have e:zuh.bars=[(0,1),(0,2),(1,2),(1,3),(2,3)]:=rfl
 rw[e]
 simp only[List.mem_cons,List.not_mem_nil,or_false,exists_eq_or_imp,exists_eq_left]
 omega
theorem zys:z7o (.leaf 0 1) (.leaf 0 2) (.leaf 1 2)=some (0,2,1):=by
 unfold z7o
 rw[zi0 (by decide),zi0 (by decide),zi0 (by decide)];decide
theorem zyt:z7o zjr (.leaf 1 3) (.leaf 2 3)=some (1,3,2):=by
 unfold z7o
 rw[zi0 (by decide),zi0 (by decide),Zdf];decide
theorem zw0{ts:List PTr}(h:Reach (z6l.map lfE) ts):ts=z6l.map lfE\/ts=[zjr,.leaf 1 3,.leaf 2 3]\/ts=[zuh]:=by
 generalize hs:z6l.map lfE=s at h
 induction h with
 | refl=>exact .inl rfl
 | step i j k x y z _ hF ih=>
   subst hs
   rcases ih with rfl | rfl | rfl
   . obtain⟨rfl,rfl,rfl,rfl,rfl,rfl⟩:=zo0 hF zys
     exact .inr (.inl rfl)
   . obtain⟨rfl,rfl,rfl,rfl,rfl,rfl⟩:=zo0 hF zyt
     exact .inr (.inr rfl)
   . have:=hF.ij
     have:=hF.jk
     have:=hF.lt
     simp at this;omega
theorem Zc6{ts:List PTr}(h:Reach (z6l.map lfE) ts)(hn:Z8t ts):∃t,ts=[t]/\((z1i t.bars).length:Int)=4:=by
 rcases zw0 h with rfl | rfl | rfl
 . have:=hn 0 1 2 (by decide) (by decide) (by decide)
   have e:z7o (.leaf 0 1) (.leaf 0 2) (.leaf 1 2)=none:=this
   rw[zys]at e;cases e
 . have:=hn 0 1 2 (by decide) (by decide) (by decide)
   have e:z7o zjr (.leaf 1 3) (.leaf 2 3)=none:=this
   rw[zyt]at e;cases e
 . exact⟨zuh,rfl,by rw[Zdg];rfl⟩
theorem zyr{T:List Int}(h:IsCore 4 z6l T):T=[]:=by
 have hm:=λi (hi:i∈T)=>h.mem hi
 have hd:=h.deg
 have key:∀i∈T,(V3 z6l T i)<=(V3 z6l [0,1,2,3] i):=λi hi=>zdx λx hx=>by
  have:=hm x hx
  simp only[List.mem_cons,List.not_mem_nil,or_false];omega
 have n0:(0:Int)∉T:=λhi=>by
  have h1:=hd 0 hi
  have h2:=key 0 hi
  have h3:V3 z6l [0,1,2,3] 0=2:=by decide
  omega
 have n3:(3:Int)∉T:=λhi=>by
  have h1:=hd 3 hi
  have h2:=key 3 hi
  have h3:V3 z6l [0,1,2,3] 3=2:=by decide
  omega
 have key2:∀i∈T,(V3 z6l T i)<=(V3 z6l [1,2] i):=λi hi=>zdx λx hx=>by
  have:=hm x hx
  have:x≠0:=λhh=>n0 (hh▸hx)
  have:x≠3:=λhh=>n3 (hh▸hx)
  simp only[List.mem_cons,List.not_mem_nil,or_false];omega
 have no:∀i,i∉T:=λi hi=>by
  have h4:=hm i hi
  have h1:=hd i hi
  have h2:=key2 i hi
  have h5:i=1\/i=2:=by
   have:i≠0:=λhh=>n0 (hh▸hi)
   have:i≠3:=λhh=>n3 (hh▸hi)
   omega
  have h6:V3 z6l [1,2] 1=1:=by decide
  have h7:V3 z6l [1,2] 2=1:=by decide
  rcases h5 with rfl | rfl<;>omega
 exact List.eq_nil_iff_forall_not_mem.2 no
def zxj(c:PCon):PCon:={ c with vals:=[] }
theorem zv7{L:List PCon}{i:Nat}:(L.map zxj).getD i dC=zxj (L.getD i dC):=by
 rw[List.getD_eq_getElem?_getD,List.getD_eq_getElem?_getD,List.getElem?_map]
 cases L[i]?<;>rfl
theorem Z9i{L:List PCon}{cs R:List Int}{item:Int}:zdt (L.map zxj) cs R item=zdt L cs R item:=by
 have e1:(L.map zxj).map (λc=>Wv c cs)=L.map λc=>Wv c cs:=by rw[List.map_map];rfl
 have e2:∀l,wtL (L.map zxj) l=wtL L l:=λl=>by
  unfold wtL
  congr 1
  refine List.map_congr_left λi _=>?_
  rw[zv7];rfl
 have e3:ziy (L.map zxj) cs R item↔ziy L cs R item:=by
  unfold ziy
  rw[e1,e2]
  refine and_congr Iff.rfl (and_congr Iff.rfl (forall_congr' λi=>forall_congr' λ_=>?_))
  rw[zv7];exact Iff.rfl
 unfold zdt
 exact decide_eq_decide.2 e3
theorem Z8f:zf4 (some ((5:Int):Rat))=true:=by
 have h:zj3 40 0 ((5:Int):Rat)=true:=by
  show(if ((5:Int):Rat).den=1 then decide (siz 0 (dgt ((5:Int):Rat).num.natAbs)<=40)else zj3 39 (0+1) (((5:Int):Rat)*((10:Int):Rat)))=true
  rw[Rat.den_intCast,if_pos rfl,Rat.num_intCast];decide +kernel
 unfold zf4
 simp only[h,Rat.num_intCast];decide
theorem Zbl{e:Int×Int}{x:TRat}{n:Int}(h:0<=e.1/\e.1<n/\0<=e.2/\e.2<n/\e.1≠e.2)(hx:x.num.mag.len<=2/\x.den.mag.len<=2):VC (z1v e x) n 0/\sC (z1v e x):=by
 have hE:vE (.mk 1 x (some ((5:Int):Rat)) Xx [])=true:=by
  have hd:dep (.mk 1 x (some ((5:Int):Rat)) Xx [])=1:=rfl
  have hf:zj4 []=true:=rfl
  unfold vE fmd shp
  rw[Z8f,if_pos rfl,hd,hf]
  decide
 refine⟨⟨by show(1:Int)<=2/\(2:Int)<=17;omega,⟨rfl,λv hv=>?_⟩,⟨rfl,λv hv=>absurd hv List.not_mem_nil⟩,rfl,λv hv=>?_,?_,?_⟩,by show 2<=10;omega,by show 0<=10;omega,by show 1<=10;omega,λv hv=>?_⟩
 . have hv:v∈[e.1,e.2]:=hv
   simp only[List.mem_cons,List.not_mem_nil,or_false]at hv
   omega
 . have hv:v∈[PEx.mk 1 x (some ((5:Int):Rat)) Xx []]:=hv
   rw[List.mem_singleton.1 hv];exact hE
 . rw[if_neg (by show ¬(shK 2).2.2.2.2=true;decide)];rfl
 . rw[if_neg (by show ¬z4w 2;decide)]
   refine⟨?_,List.nodup_nil⟩
   show [e.1,e.2].Nodup
   simp[h.2.2.2.2]
 . have hv:v∈[PEx.mk 1 x (some ((5:Int):Rat)) Xx []]:=hv
   rw[List.mem_singleton.1 hv]
   refine⟨⟨by show 0<=4;omega,by show Xx.size<=40;decide,by omega,by omega,trivial⟩,?_⟩
   show 0+1<=61;omega
theorem Zc7{S:PSk}(h:FSk z6l Zc4 S):sSk S/\VS S/\zuf S=[]:=by
 obtain⟨p,ci,sg,ar,ch,co⟩:=S
 obtain⟨h1,h2,h3,h4,h5,xs,hx1,hx2,h6⟩:=h
 simp only at h1 h2 h3 h4 h5 h6
 subst h2 h3 h4 h5
 obtain⟨y,hy⟩:∃y:Nat->TRat,y=λi=>xs.getD i ⟨⟨false,zf⟩,⟨false,zf⟩⟩:=⟨_,rfl⟩
 have hyl:∀i,(y i).num.mag.len<=2/\(y i).den.mag.len<=2:=λi=>by
  rw[hy]
  simp only
  rw[List.getD_eq_getElem?_getD]
  rcases Nat.lt_or_ge i xs.length with hi | hi
  . rw[List.getElem?_eq_getElem hi];exact hx2 _ (List.getElem_mem hi)
  . rw[List.getElem?_eq_none hi];exact⟨Nat.zero_le _,Nat.zero_le _⟩
 have e6:co=[z1v (0,1) (y 0),z1v (0,2) (y 1),z1v (1,2) (y 2),z1v (1,3) (y 3),z1v (2,3) (y 4)]:=by rw[h6,hy];rfl
 have e1:p=[ptF (0,0),ptF (2,0),ptF (1,2),ptF (3,2)]:=h1
 subst e6 e1
 have hc:∀c∈[z1v (0,1) (y 0),z1v (0,2) (y 1),z1v (1,2) (y 2),z1v (1,3) (y 3),z1v (2,3) (y 4)],VC c 4 0/\sC c:=λc hc=>by
  simp only[List.mem_cons,List.not_mem_nil,or_false]at hc
  rcases hc with rfl | rfl | rfl | rfl | rfl<;>exact Zbl (by simp) (hyl _)
 refine⟨⟨by simp,by simp,by simp,by simp,by simp,by simp,by simp,λc h=>(hc c h).2⟩,⟨λp hp=>?_,by simp,by simp,by simp,by simp,λc h=>(hc c h).1⟩,?_⟩
 . simp only[List.mem_cons,List.not_mem_nil,or_false]at hp
   rcases hp with rfl | rfl | rfl | rfl<;>exact⟨rfl,rfl⟩
 . have ec:∀R,zdt [z1v (0,1) (y 0),z1v (0,2) (y 1),z1v (1,2) (y 2),z1v (1,3) (y 3),z1v (2,3) (y 4)] [] R=zdt [⟨2,[0,1],[],[],0⟩,⟨2,[0,2],[],[],0⟩,⟨2,[1,2],[],[],0⟩,⟨2,[1,3],[],[],0⟩,⟨2,[2,3],[],[],0⟩] [] R:=λR=>by
    funext item
    exact(Z9i (L:=[z1v (0,1) (y 0),z1v (0,2) (y 1),z1v (1,2) (y 2),z1v (1,3) (y 3),z1v (2,3) (y 4)]) (cs:=[]) (R:=R) (item:=item)).symm
   show Ve (ziw 4 0) (Zav (zdt [z1v (0,1) (y 0),z1v (0,2) (y 1),z1v (1,2) (y 2),z1v (1,3) (y 3),z1v (2,3) (y 4)] []) (ziw 4 0))=[]
   rw[funext ec]
   decide +kernel
end Den
end

section
namespace Den
open Go Iv Lx
def bc(b:Bool):Value:=.bool b
theorem zcy{α:Type}{f:α->Value}:∀ys:List α,ys.map f=ys.flatMap λz=>[f z]
 | []=>rfl
 | a :: r=>by rw[List.map_cons,List.flatMap_cons,zcy r];rfl
def gl(gn:List Bool):List Int:=((List.range gn.length).filter λi=>!(gn.getD i true)).map λi:Nat=>(i:Int)
theorem zea{gn:List Bool}{x:Int}:x∈gl gn↔∃i:Nat,x=i/\∃h:i<gn.length,gn[i]=false:=by
 unfold gl
 rw[List.mem_map]
 constructor
 . rintro⟨i,hi,rfl⟩
   rw[List.mem_filter,List.mem_range]at hi
   refine⟨i,rfl,hi.1,?_⟩
   have:=hi.2
   rw[Q4 hi.1]at this
   simpa using this
 . rintro⟨i,rfl,hi,hg⟩
   refine⟨i,List.mem_filter.2 ⟨List.mem_range.2 hi,?_⟩,rfl⟩
   rw[Q4 hi,hg];rfl
theorem z08{gn:List Bool}{i:Nat}(hi:i<gn.length):(i:Int)∈gl gn↔gn[i]=false:=by
 rw[zea]
 constructor
 . rintro⟨j,hj,h1,h2⟩
   have:j=i:=by omega
   subst this;exact h2
 . intro h;exact⟨i,rfl,hi,h⟩
theorem Zd0{gn:List Bool}{N:Nat}(hN:gn.length=N):gl gn=(zb4 N).filter λx=>decide (x∈gl gn):=by
 conv=>lhs;unfold gl
 unfold zb4
 rw[List.filter_map,hN]
 congr 1
 refine List.filter_congr λi hi=>?_
 have hi':i<gn.length:=by rw[hN];exact List.mem_range.1 hi
 rw[Bool.eq_iff_iff,Function.comp_apply,decide_eq_true_iff,z08 hi',Q4 hi']
 simp
def zb2(gn:List Bool):Nat:=gn.countP λb=>!b
theorem zyg{gn:List Bool}:∀{i:Nat} (hi:i<gn.length),gn[i]=false->zb2 (gn.set i true)+1=zb2 gn:=by
 induction gn with
 | nil=>intro i hi;simp at hi
 | cons a r ih=>
   intro i hi hg
   cases i with
   | zero=>
     simp only[List.getElem_cons_zero]at hg
     subst hg
     simp[zb2]
   | succ i=>
     have:=ih (i:=i) (by simpa using hi) (by simpa using hg)
     unfold zb2 at this |-
     simp only[List.set_cons_succ,List.countP_cons]
     omega
section
variable {h D : Hp} {g : TGraph} {es : List (Int × Int)} {l m : Sl} {gn : List Bool} {ds : List Int} {Kb : Bool → Hp → Prop} {Ki : Int → Hp → Prop} {Ks : Sl → Hp → Prop}
def OB(D h:Hp)(l:Sl)(gn:List Bool):Prop:=Own D h 1 l (gn.map bc)
theorem OB.len(ho:OB D h l gn):l.len=gn.length:=by have:=ho.2.1;simp at this;omega
theorem OB.get{i:Int}{K:Bool->Prop}(ho:OB D h l gn)(k:Nat)(hi:i=k)(hk:k<gn.length)(H:K gn[k]):zg l i 1 λa=>ldL .bool a K h:=by
 have hr:Rd h 1 l (gn.flatMap λz=>[bc z]):=by rw[<-zcy];exact ho.rd
 refine zkb (c:=λz:Bool=>[bc z]) (n:=1) (λ_=>rfl) (by decide) hr k hi hk λa ha=>?_
 have:=ha 0 _ (by decide) rfl
 rw[Zq]at this
 exact⟨_,this,H⟩
theorem OB.set{i:Int}{v:Bool}{K:Hp->Prop}(k:Nat)(ho:OB D h l gn)(hi:i=k)(hk:k<gn.length)(H:∀h',OB D h' l (gn.set k v)->(∀j,(∀a,l.a=some a->j≠a.block)->h' j=h j)->K h'):zg l i 1 λa=>stP a [.bool v] K h:=by
 unfold OB at ho
 rw[zcy]at ho
 refine zv2 (c:=λz:Bool=>[bc z]) (n:=1) (λ_=>rfl) (by decide) k ho hi hk rfl λh' h1 h2=>H h' ?_ h2
 unfold OB
 rw[zcy];exact h1
theorem zi9{α:Type}{f:α->Value}{x:α}:∀n,Z6 n [f x]=(List.replicate n x).map f
 | 0=>rfl
 | n+1=>by
   have:=zi9 (f:=f) (x:=x) n
   unfold Z6 at this |-
   rw[List.replicate_succ,List.flatten_cons,this,List.replicate_succ,List.map_cons]
   rfl
theorem Z8v{h':Hp}{n1 n2:Nat}{cs1 cs2:List Value}(h1:Own D h n1 l cs1)(h2:Own h h' n2 m cs2):Apt l m:=λa b ha hb hh=>by
 have h3:=Z4o h2 hb
 obtain⟨_,_,_,g4⟩:=h1
 rw[ha]at g4
 obtain⟨_,_,_,x,g5,_⟩:=g4
 rw[<-hh,g5]at h3;cases h3
def z6k(es:List (Int×Int))(T:List Int)(N:Nat):List Int:=(List.range N).map λi:Nat=>((V3 es T (i:Int):Nat):Int)
theorem zck{es:List (Int×Int)}{T:List Int}{N i:Nat}(hi:i<N):(z6k es T N)[i]?=some ((V3 es T (i:Int):Nat):Int):=by
 unfold z6k
 rw[List.getElem?_map,List.getElem?_range hi]
 rfl
theorem W9{es:List (Int×Int)}{T:List Int}{N:Nat}:(z6k es T N).length=N:=by simp[z6k]
theorem zyn{es:List (Int×Int)}{T:List Int}{N:Nat}{e:Int×Int}(hn:¬(e.1∈T/\e.2∈T)):z6k (es++[e]) T N=z6k es T N:=by
 unfold z6k
 refine List.map_congr_left λi _=>?_
 rw[zjo,if_neg (λhh=>hn ⟨hh.1,hh.2.1⟩)]
 rfl
theorem Z87{es:List (Int×Int)}{T:List Int}{N a b:Nat}(ha:a<N)(hb:b<N)(hab:a≠b)(hT:(a:Int)∈T/\(b:Int)∈T) :
 ((z6k es T N).set a (((V3 es T (a:Int):Nat):Int)+1)).set b (((V3 es T (b:Int):Nat):Int)+1)=z6k (es++[((a:Int),(b:Int))]) T N:=by
 refine List.ext_getElem? λi=>?_
 rcases Nat.lt_or_ge i N with h1 | h1
 . rw[zck h1,zjo]
   simp only[hT.1,hT.2,true_and]
   rw[List.getElem?_set]
   by_cases hib:b=i
   . subst hib
     rw[if_pos rfl,if_pos (by simp[W9];exact h1),if_pos (.inr rfl)]
     rfl
   . rw[if_neg hib,List.getElem?_set]
     by_cases hia:a=i
     . subst hia
       rw[if_pos rfl,if_pos (by simp[W9];exact h1),if_pos (.inl rfl)]
       rfl
     . rw[if_neg hia,zck h1,if_neg (by omega)]
       rfl
 . rw[List.getElem?_eq_none (by simp[W9];exact h1),List.getElem?_eq_none (by rw[W9];exact h1)]
theorem zpy(hg:LR a2c 2 A2P h g.edges es)(hlen:es.length<=1000000)(H0:∀h',h.le h'->¬GV g.n es->Ks zf h')(H:∀y T h',h.le h'->GV g.n es->IL h' y T->IsCore g.n.toNat es T->Ks y h'):zc (F.z87 g) Ks h:=by
 refine zd (λy h'=>(¬GV g.n es/\y=zf)\/(GV g.n es/\∃T,IL h' y T/\IsCore g.n.toNat es T)) (λK' hk=>?_) λy h' hl hb=>by
  rcases hb with ⟨h1,rfl⟩ | ⟨h1,T,h2,h3⟩
  . exact H0 h' hl h1
  . exact H y T h' hl h1 h2 h3
 unfold F.z87
 refine Vd hg (by omega) λb h1 hl1 hb=>?_
 refine zp (λh2=>hk _ _ hl1 (.inl ⟨λhv=>(by rw[hb.2 hv]at h2;cases h2),rfl⟩)) (λh2=>?_)
 have hv:=hb.1 (by simpa using h2)
 obtain⟨N,hN⟩:∃N:Nat,g.n=N:=⟨g.n.toNat,by have:=hv.1.1;omega⟩
 have hN60:N<=60:=by have:=hv.1.2;omega
 rw[hN,show((N:Nat):Int).toNat=N from rfl]at hk
 rw[hN]at hv
 rw[hN]
 have hgl:=hg.len Zy
 have hes:=hv.2.1
 refine zsg (size:=1) N N rfl rfl (Nat.le_refl _) (by omega) (by omega) rfl λm2 h3 hm2 _ ho3=>?_
 have ho3:OB h1 h3 m2 (List.replicate N false):=by unfold OB;rw[<-zi9];exact ho3
 refine zcw (λf st h'=>∃gn:List Bool,OB h1 h' m2 gn/\gn.length=N/\(∀C:List Int,(∀x∈C,0<=x/\x<N)->(∀x∈C,3<=V3 es C x)->∀x∈C,x∈gl gn) /\
  (st.1=false->∀x∈gl gn,3<=V3 es (gl gn) x)/\zb2 gn*2+(if st.1=true then 1 else 0)<=f) (n0:=zb2 (List.replicate N false)*2+1)
  ⟨_,ho3,by simp,λC hC _ x hx=>?_,λhh=>(by cases hh),by simp⟩ ?_
 . obtain⟨c1,c2⟩:=hC x hx
   obtain⟨i,rfl⟩:∃i:Nat,x=i:=⟨x.toNat,by omega⟩
   rw[z08 (by simp;omega)]
   simp
 rintro f ⟨ch,_⟩ h4 ⟨gn,ho,hgn,hgr,hst,hf⟩ K2 hK2
 simp only at hst hf
 have hle4:=Hp.le_trans hl1 ho.1
 have hml:=ho.len
 refine zp (λh5=>?_) (λh5=>?_)
 . 
  simp only at h5
  rw[if_pos h5]at hf
  refine zsg (size:=1) N N rfl rfl (Nat.le_refl _) (by omega) (by omega) rfl λm5 h6 hm5 _ ho6=>?_
  have ho6:OI h4 h6 m5 (z6k [] (gl gn) N):=by
   have e:z6k [] (gl gn) N=List.replicate N 0:=by
    unfold z6k
    refine List.ext_getElem (by simp) λi h1 h2=>?_
    simp[V3]
   unfold OI
   rw[e,<-zi9];exact ho6
  refine Yr (n:=es.length) (by omega) (λi h'=>OI h4 h' m5 (z6k (es.take i) (gl gn) N)) (by simpa using ho6) ?_
  intro q h7 hq ho7 k hk2
  have hle7:=Hp.le_trans hle4 ho7.dle
  have hob7:OB h1 h7 m2 gn:=Own.le ho ho7.dle
  refine ze (λh8=>?_) (λh8=>?_)
  . have hq':q<es.length:=by simp only at h8;omega
    have heq:=hes _ (List.getElem_mem hq')
    obtain⟨a,ha⟩:∃a:Nat,es[q].1=a:=⟨es[q].1.toNat,by omega⟩
    obtain⟨b,hb'⟩:∃b:Nat,es[q].2=b:=⟨es[q].2.toNat,by omega⟩
    have haN:a<N:=by omega
    have hbN:b<N:=by omega
    have hst:es.take (q+1)=es.take q++[es[q]]:=(List.take_append_getElem hq').symm
    refine zk (λ_ h'=>OI h4 h' m5 (z6k (es.take (q+1)) (gl gn) N)) (λ_ h' hh=>hk2 _ hq' hh) ?_
    refine(hg.le Zy hle7).get Zy q rfl hq' λa10 x hxx hcx=>⟨_,hcx 0 _ rfl,_,hcx 1 _ rfl,?_⟩
    obtain⟨x1,x2⟩:=hxx
    rw[x1,x2,ha,hb']
    have same:¬(es[q].1∈gl gn/\es[q].2∈gl gn)->OI h4 h7 m5 (z6k (es.take (q+1)) (gl gn) N):=λhn=>by rw[hst,zyn hn];exact ho7
    refine hob7.get a rfl (by omega) ?_
    refine zp (λh9=>?_) (λh9=>same λhh=>?_)
    . refine hob7.get b rfl (by omega) ?_
      refine zp (λh10=>?_) (λh10=>same λhh=>?_)
      . have hT:(a:Int)∈gl gn/\(b:Int)∈gl gn:=⟨(z08 (by omega)).2 (by simpa using h9),(z08 (by omega)).2 (by simpa using h10)⟩
        have hdl:∀i,V3 (es.take q) (gl gn) i<=es.length:=λi=>Nat.le_trans Z86 (by rw[List.length_take];omega)
        have hga:∀{i:Nat} (hi:i<N) (hh:i<(z6k (es.take q) (gl gn) N).length),(z6k (es.take q) (gl gn) N)[i]=((V3 (es.take q) (gl gn) (i:Int):Nat):Int):=λhi hh=>by
         have:=zck (es:=es.take q) (T:=gl gn) hi
         rw[List.getElem?_eq_getElem hh]at this
         exact Option.some.inj this
        refine ho7.il.get a rfl (by rw[W9];exact haN) ?_
        rw[hga haN (by rw[W9];exact haN)]
        have d1:=hdl (a:Int)
        have d2:=hdl (b:Int)
        rw[w64 (by omega)]
        refine ho7.set a rfl (by rw[W9];exact haN) λh11 ho11=>?_
        refine ho11.il.get b rfl (by rw[List.length_set,W9];exact hbN) ?_
        have hab:a≠b:=by omega
        rw[List.getElem_set_ne hab,hga hbN (by rw[W9];exact hbN),w64 (by omega)]
        refine ho11.set b rfl (by rw[List.length_set,W9];exact hbN) λh12 ho12=>?_
        show OI _ _ _ _
        rw[hst]
        have he2:es[q]=((a:Int),(b:Int)):=Prod.ext ha hb'
        rw[he2,<-Z87 haN hbN hab hT]
        exact ho12
      . rw[hb',z08 (by omega)]at hh
        rw[hh.2]at h10;cases h10
    . rw[ha,z08 (by omega)]at hh
      rw[hh.1]at h9;cases h9
  . have:q=es.length:=by simp only at h8;omega
    subst this
    rw[List.take_length]at ho7
    have hap:Apt m2 m5:=Z8v ho ho7
    have hod:OI h1 h7 m5 (z6k es (gl gn) N):=OI.base ho7 ho.1
    have hml7:=hob7.len
    refine y9 (λst h'=>∃(i:Nat) (gn':List Bool),st.2.1=(i:Int)/\i<=N/\OB h1 h' m2 gn'/\OI h1 h' m5 (z6k es (gl gn) N)/\gn'.length=N /\
     (∀j (hj:j<N),i<=j->gn'.getD j true=gn.getD j true)/\(∀j (hj:j<N),gn'.getD j true=true->gn.getD j true=true\/V3 es (gl gn) (j:Int)<=2)/\(∀j (hj:j<N),gn.getD j true=true->gn'.getD j true=true) /\
     (∀j (hj:j<N),j<i->gn'.getD j true=false->3<=V3 es (gl gn) (j:Int))/\(st.1=false->gn'=gn)/\(st.1=true->zb2 gn'<zb2 gn)/\zb2 gn'<=zb2 gn) (λst=>(N-st.2.1).toNat)
     ⟨0,gn,rfl,by omega,hob7,hod,hgn,λj hj _=>rfl,λj hj hh=>.inl hh,λj hj hh=>hh,λj hj hji=>by omega,λ_=>rfl,λhh=>(by cases hh),Nat.le_refl _⟩ ?_
    clear hob7 hod ho7 hk2
    rintro⟨c9,i9,_⟩ h9 ⟨i,gn',hi9,hi,hob,hod,hgn',r1,r2,r3,r4,r5,r6,r7⟩
    simp only at hi9
    subst hi9
    have hobl:=hob.len
    refine ze (λh10=>?_) (λh10=>?_)
    . have hi':i<N:=by simp only at h10;omega
      have hcur:=r1 i hi' (Nat.le_refl _)
      rw[Q4 (by omega)]at hcur
      refine zk (λs h'=>∃gn'':List Bool,OB h1 h' m2 gn''/\OI h1 h' m5 (z6k es (gl gn) N)/\gn''.length=N /\
       (∀j (hj:j<N),i+1<=j->gn''.getD j true=gn.getD j true)/\(∀j (hj:j<N),gn''.getD j true=true->gn.getD j true=true\/V3 es (gl gn) (j:Int)<=2)/\(∀j (hj:j<N),gn.getD j true=true->gn''.getD j true=true) /\
       (∀j (hj:j<N),j<i+1->gn''.getD j true=false->3<=V3 es (gl gn) (j:Int))/\(s.1=false->gn''=gn)/\(s.1=true->zb2 gn''<zb2 gn)/\zb2 gn''<=zb2 gn) ?_ ?_
      . rintro⟨c,_⟩ h11 ⟨gn'',q1,q2,q3,q4,q5,q6,q7,q8,q9,q10⟩
        exact⟨⟨i+1,gn'',by(try simp only);rw[w64 (by omega)];rfl,by omega,q1,q2,q3,q4,q5,q6,q7,q8,q9,q10⟩,by(try simp only);rw[w64 (by omega)];omega⟩
      . refine hob.get i rfl (by omega) ?_
        have hd3:∀j (hj:j<N),j<i+1->gn'.getD j true=false->(j=i->3<=V3 es (gl gn) (i:Int))->3<=V3 es (gl gn) (j:Int):=λj hj hji hh hc=>by
         rcases Nat.lt_or_ge j i with h1 | h1
         . exact r4 j hj h1 hh
         . have:j=i:=by omega
           subst this;exact hc rfl
        refine zp (λh11=>?_) (λh11=>⟨gn',hob,hod,hgn',λj hj hij=>r1 j hj (by omega),r2,r3,λj hj hji hh=>hd3 j hj hji hh λe=>?_,r5,r6,r7⟩)
        . refine hod.il.get i rfl (by rw[W9];exact hi') ?_
          have hgi:(z6k es (gl gn) N)[i]'(by rw[W9];exact hi')=((V3 es (gl gn) (i:Int):Nat):Int):=by
           have:=zck (es:=es) (T:=gl gn) hi'
           rw[List.getElem?_eq_getElem (by rw[W9];exact hi')]at this
           exact Option.some.inj this
          rw[hgi]
          have hfal:gn'[i]'(by omega)=false:=by simpa using h11
          refine ze (λh12=>?_) (λh12=>⟨gn',hob,hod,hgn',λj hj hij=>r1 j hj (by omega),r2,r3,λj hj hji hh=>hd3 j hj hji hh λe=>by have h12:¬((V3 es (gl gn) (i:Int):Nat):Int)<=2:=h12;omega,r5,r6,r7⟩)
          have h12:((V3 es (gl gn) (i:Int):Nat):Int)<=2:=h12
          refine hob.set i rfl (by omega) λh13 hob13 hs13=>?_
          have hod13:OI h1 h13 m5 (z6k es (gl gn) N):=Z4p hod hap hob13.1 hs13
          have hcs:=zyg (gn:=gn') (i:=i) (by omega) hfal
          have gd:∀j,(gn'.set i true).getD j true=if j=i then true else gn'.getD j true:=λj=>by
           rw[List.getD_eq_getElem?_getD,List.getElem?_set]
           by_cases hji:i=j
           . subst hji
             rw[if_pos rfl,if_pos (by omega),if_pos rfl]
             rfl
           . rw[if_neg hji,if_neg (λh=>hji h.symm),List.getD_eq_getElem?_getD]
          refine⟨gn'.set i true,hob13,hod13,by simpa using hgn',λj hj hij=>?_,λj hj hh=>?_,λj hj hh=>?_,λj hj hji hh=>?_,λhh=>(by cases hh),λ_=>by omega,by omega⟩
          . rw[gd,if_neg (by omega)];exact r1 j hj (by omega)
          . rw[gd]at hh
            split at hh
            . rename_i e;subst e;exact .inr (by omega)
            . exact r2 j hj hh
          . rw[gd]
            split
            . rfl
            . exact r3 j hj hh
          . rw[gd]at hh
            split at hh
            . cases hh
            . exact hd3 j hj hji hh λe=>by rename_i e2;exact absurd e e2
        . subst e
          have hh2:gn'[j]'(by omega)=false:=by rw[Q4 (by omega)]at hh;exact hh
          rw[hh2]at h11;cases h11
    . have hiN:i=N:=by simp only at h10;omega
      subst hiN
      have sub:∀x,x∈gl gn'->x∈gl gn:=λx hx=>by
       obtain⟨j,rfl,hj,hg2⟩:=zea.1 hx
       rw[z08 (by omega)]
       cases hgj:gn[j]'(by omega)with
       | false=>rfl
       | true=>
         have:=r3 j (by omega) (by rw[Q4 (by omega)];exact hgj)
         rw[Q4 (by omega),hg2]at this;cases this
      have hgr':∀C:List Int,(∀x∈C,0<=x/\x<i)->(∀x∈C,3<=V3 es C x)->∀x∈C,x∈gl gn':=λC hC hC3 x hx=>by
       have hx2:=hgr C hC hC3 x hx
       obtain⟨j,rfl,hj,hg2⟩:=zea.1 hx2
       rw[z08 (by omega)]
       cases hgj:gn'[j]'(by omega)with
       | false=>rfl
       | true=>
         rcases r2 j (by omega) (by rw[Q4 (by omega)];exact hgj)with h1 | h1
         . rw[Q4 (by omega),hg2]at h1;cases h1
         . exact absurd hx (zwd hC3 (hgr C hC hC3) h1)
      cases hc:c9 with
      | false=>
        have e:=r5 hc
        subst e
        refine hK2 (zb2 gn'*2) _ _ (by omega) ⟨gn',hob,hgn,hgr',λ_ x hx=>?_,by simp⟩
        obtain⟨j,rfl,hj,hg2⟩:=zea.1 hx
        exact r4 j (by omega) (by omega) (by rw[Q4 (by omega)];exact hg2)
      | true=>
        have e:=r6 hc
        exact hK2 (zb2 gn'*2+1) _ _ (by omega) ⟨gn',hob,hgn',hgr',λhh=>(by cases hh),by simp⟩
 . simp only at h5
   have hdeg:=hst h5
   refine Yq (n:=N) (by omega) (λi y h'=>OI h4 h' y ((gl gn).filter λx=>decide (x<i))) (by
    have e:(gl gn).filter (λx=>decide (x<((0:Nat):Int)))=[]:=by
     rw[List.filter_eq_nil_iff]
     intro x hx
     obtain⟨j,rfl,_⟩:=zea.1 hx
     simp
    rw[e];exact OI.nil) ?_
   intro i y h6 hi ho6 k hk2
   have hob6:OB h1 h6 m2 gn:=Own.le ho ho6.dle
   have hob6l:=hob6.len
   refine ze (λh7=>?_) (λh7=>?_)
   . have hi':i<N:=by simp only at h7;omega
     have hstep:(gl gn).filter (λx=>decide (x<((i+1:Nat):Int)))=(gl gn).filter (λx=>decide (x<(i:Int)))++(if gn[i]'(by omega)=false then [(i:Int)]else []):=by
      have key:∀n:Nat,(gl gn).filter (λx=>decide (x<(n:Int)))=((List.range gn.length).filter λj=>!(gn.getD j true)&&decide (j<n)).map λj:Nat=>(j:Int):=λn=>by
       unfold gl
       rw[List.filter_map,List.filter_filter]
       congr 1
       refine List.filter_congr λj _=>?_
       simp only[Function.comp_apply]
       rw[Bool.and_comm]
       congr 1
       simp
      have key2:∀n:Nat,n<=gn.length->(List.range gn.length).filter (λj=>!(gn.getD j true)&&decide (j<n))=(List.range n).filter λj=>!(gn.getD j true):=λn hn=>by
       have e1:(List.range gn.length).filter (λj=>!(gn.getD j true)&&decide (j<n))=((List.range gn.length).filter λj=>decide (j<n)).filter λj=>!(gn.getD j true):=by rw[List.filter_filter]
       have e2:(List.range gn.length).filter (λj=>decide (j<n))=List.range n:=by
        obtain⟨d,hd⟩:∃d,gn.length=n+d:=⟨gn.length-n,by omega⟩
        rw[hd,List.range_add,List.filter_append]
        have f1:(List.range n).filter (λj=>decide (j<n))=List.range n:=by
         rw[List.filter_eq_self];intro j hj;exact decide_eq_true (List.mem_range.1 hj)
        have f2:((List.range d).map (n+·)).filter (λj=>decide (j<n))=[]:=by
         rw[List.filter_eq_nil_iff];intro j hj
         obtain⟨q,_,rfl⟩:=List.mem_map.1 hj
         simp
        rw[f1,f2,List.append_nil]
       rw[e1,e2]
      rw[key,key,key2 _ (by omega),key2 _ (by omega),List.range_succ,List.filter_append,List.map_append]
      congr 1
      have hgi:gn.getD i true=gn[i]'(by omega):=Q4 (by omega)
      rw[zs5,hgi]
      cases hg2:gn[i]'(by omega)<;>rfl
     have hfl:((gl gn).filter λx=>decide (x<(i:Int))).length<=60:=by
      refine Nat.le_trans (List.length_filter_le _ _) ?_
      unfold gl
      rw[List.length_map]
      refine Nat.le_trans (List.length_filter_le _ _) ?_
      rw[List.length_range];omega
     refine zk (λs h'=>OI h4 h' s.1 ((gl gn).filter λx=>decide (x<((i+1:Nat):Int)))) (λs h' hs=>hk2 _ _ hi' hs) ?_
     refine hob6.get i rfl (by omega) ?_
     refine zp (λh8=>?_) (λh8=>?_)
     . refine ho6.app (by omega) λw h9 ho9=>?_
       show OI _ _ _ _
       rw[hstep,if_pos (by simpa using h8)];exact ho9
     . show OI _ _ _ _
       rw[hstep,if_neg (by simpa using h8),List.append_nil];exact ho6
   . have:i=N:=by simp only at h7;omega
     subst this
     have e:(gl gn).filter (λx=>decide (x<(i:Int)))=gl gn:=by
      rw[List.filter_eq_self]
      intro x hx
      obtain⟨j,rfl,hj,_⟩:=zea.1 hx
      exact decide_eq_true (by omega)
     rw[e]at ho6
     exact hk _ _ (Hp.le_trans hle4 ho6.dle) (.inr ⟨hv,gl gn,ho6.il,Zd0 hgn,hdeg,hgr⟩)
end
end Den
end

section
namespace Den
open Go Iv Lx
section
variable {h : Hp} {Kb : Bool → Hp → Prop}
theorem zyq{K:TGraph->Hp->Prop}(H:∀s h',h.le h'->LR a2c 2 A2P h' s z6l->K ⟨4,s⟩ h'):zc F.z0z K h:=by
 refine zd (λg h'=>∃s,g=⟨4,s⟩/\LR a2c 2 A2P h' s z6l) (λK' hk=>?_) λg h' hl hg=>by obtain⟨s,rfl,hs⟩:=hg;exact H s h' hl hs
 unfold F.z0z
 refine zbx 2 5 rfl λp1 h1 hl1 hr=>hk _ _ hl1 ⟨_,rfl,EL.lr ⟨?_,Nat.le_refl _⟩⟩
 exact hr
theorem zkc{n:Int}{es:List (Int×Int)}{t:PTr}(hr:Reach (es.map lfE) [t]):t.right/\t.bars.Perm es:=by
 obtain⟨h1,h2⟩:=hr.keep
 refine⟨h1 t (List.mem_cons_self ..),?_⟩
 have e:[t].flatMap PTr.bars=t.bars:=by simp
 rwa [e]at h2
theorem zbk(ht:GT h)(H:∀h',h.le h'->Kb true h'):zc F.Xi Kb h:=by
 refine zd (λb h'=>b=true) (λK' hk=>?_) λb h' hl hb=>by subst hb;exact H h' hl
 unfold F.Xi
 have hh:=Zc5
 have hgv:GV 4 z6l:=hh.gv
 have hok:=GV.okE (m:=4) hgv
 refine zyq λs h1 hl1 hs1=>?_
 refine zbx 2 4 rfl λp2 h2 hl2 hr2=>?_
 have hat:AT h2 ⟨some p2,4,4⟩ Zc4:=⟨hr2,by decide⟩
 have hs2:=hs1.le Zy hl2
 refine zh5 (G:=⟨4,s⟩) (n:=4) hs2 rfl (by decide) (by decide) hok hat rfl λy h3 hl3 hy=>?_
 refine zxf hy hh.indep (by decide) (by decide) (by decide) (by decide) λy2 h4 hl4 hy2=>?_
 have hs4:=hs2.le Zy (Hp.le_trans hl3 hl4)
 refine zgh (G:=⟨4,s⟩) hs4 hgv (by show(4:Int)<=12;omega) (λX h5 t hl5 hX hre hpt=>?_) (λX e h5 ts hl5 he hre hn hne=>?_)
 . have hs5:=hs4.le Zy hl5
   obtain⟨tr,tp⟩:=zkc (n:=4) hre
   refine Za (λ_=>?_) (λhh=>absurd rfl hh)
   refine Za (λ_=>?_) (λhh=>absurd (by simp only;rw[hy2];rfl) hh)
   refine zib (G:=⟨4,s⟩) hs5 hgv hh.sp rfl λh6 hl6=>Z9 rfl ?_
   refine Za (λ_=>?_) (λhh=>absurd rfl hh)
   refine zfm (G:=⟨4,s⟩) (t:=t) (hs5.le Zy hl6) hgv (by show(4:Int)<=12;omega) (hX.le hl6) tr tp hpt λh7 hl7=>Z9 rfl ?_
   have hle7:h2.le h7:=Hp.le_trans hl3 (Hp.le_trans hl4 (Hp.le_trans hl5 (Hp.le_trans hl6 hl7)))
   refine ze4 (G:=⟨4,s⟩) (n:=4) (hs2.le Zy hle7) rfl (by decide) (by decide) (hat.le hle7) rfl λsk S h8 hl8 hsk hfs=>?_
   obtain⟨k1,k2,k3⟩:=Zc7 hfs
   have hle8:=Hp.le_trans (Hp.le_trans hl1 hl2) (Hp.le_trans hle7 hl8)
   refine zbh hsk k1 (ht.le hle8) λb h9 hl9 hb=>?_
   rw[hb.2 ⟨k2,k3⟩]
   refine Z9 rfl ?_
   refine zpy (g:=⟨4,s⟩) (hs2.le Zy (Hp.le_trans hle7 (Hp.le_trans hl8 hl9))) (by decide) (λh10 hl10 hng=>absurd hgv hng) λy T h10 hl10 _ hT hc=>hk _ _ (Hp.le_trans hle8 (Hp.le_trans hl9 hl10)) ?_
   have e:=zyr hc
   subst e
   have:=hT.len
   rw[this];rfl
 . obtain⟨t,rfl,h6⟩:=Zc6 hre hn
   exact absurd h6 (hne t rfl)
end
end Den
end

section
namespace Den
open Go Iv Lx
section
variable {h : Hp} {es : List (Int × Int)} {g : TGraph} {K : Bool → Hp → Prop}
theorem Z3y(hg:LR a2c 2 A2P h g.edges es)(ht:GT h)(hlen:es.length<=140737488355328){k:Unit->Hp->Prop}(hk:∀h',h.le h'->K true h')(hm:∀h',h.le h'->GV g.n es->g.n<=8->es.length<=20->k () h') :
 zc F.Xi (λr8 h7=>ifP (!r8) (zc F.Xi (λr9 h8=>K r9 h8) h7) (zc (F.zav g) (λr10 h9=>ifP (!r10) (zc F.Xi (λr11 h10=>K r11 h10) h9) (zc (F.z4h g) (λr12 h11=>ifP (!r12) (zc F.Xi (λr13 h12=>K r13 h12) h11) (k () h11)) h9)) h7)) h:=by
 have hgl:=hg.len Zy
 refine zbk ht λh1 hl1=>zt rfl ?_
 refine zd (λb h'=>b=decide (g.n<=8/\es.length<=20)) (λK2 hk2=>?_) λb h2 hl2 hb=>?_
 . unfold F.zav
   refine ze (λh3=>hk2 _ _ (Hp.le_refl _) ?_) (λh3=>hk2 _ _ (Hp.le_refl _) ?_)
   . rw[hgl]
     by_cases h4:es.length<=20
     . rw[decide_eq_true (by omega),decide_eq_true ⟨h3,h4⟩]
     . rw[decide_eq_false (by omega),decide_eq_false (λhh=>h4 hh.2)]
   . rw[decide_eq_false (λhh=>h3 hh.1)]
 . subst hb
   have hle:=Hp.le_trans hl1 hl2
   by_cases h3:g.n<=8/\es.length<=20
   . rw[decide_eq_true h3]
     refine zt rfl ?_
     refine zj5 (hg.le Zy hle) hlen λb h4 hl4 hb=>?_
     cases b with
     | true=>exact zt rfl (hm _ (Hp.le_trans hle hl4) (hb.1 rfl) h3.1 h3.2)
     | false=>exact Z9 rfl (zbk (ht.le (Hp.le_trans hle hl4)) λh5 hl5=>hk _ (Hp.le_trans (Hp.le_trans hle hl4) hl5))
   . rw[decide_eq_false h3]
     exact Z9 rfl (zbk (ht.le hle) λh5 hl5=>hk _ (Hp.le_trans hle hl5))
theorem zxw(hg:LR a2c 2 A2P h g.edges es)(hlen:es.length<=140737488355328)(ht:GT h)(hk:∀h',h.le h'->K true h'):F.z4u g K h:=by
 unfold F.z4u
 refine zk (λ_ h'=>h.le h'/\GV g.n es/\g.n<=8/\es.length<=20) ?_ ?_
 . rintro _ h1 ⟨hl1,hv,h8,h20⟩
   have hgl:=hg.len Zy
   have hg1:=hg.le Zy hl1
   refine zgh hg1 hv (by omega) (λX h2 t hl2 hX hre hpt=>?_) (λX e h2 ts hl2 he hre hn hne=>yt (λ_=>hk _ (Hp.le_trans hl1 hl2)) (λhh=>absurd hh he))
   refine yt (λhh=>absurd rfl hh) (λ_=>?_)
   obtain⟨tr,tp⟩:=zkc (n:=g.n) hre
   obtain⟨n,hn⟩:∃n:Nat,g.n=(n:Int):=⟨g.n.toNat,by have:=hv.1;omega⟩
   have hes:∀e∈es,0<=e.1/\e.1<e.2/\e.2<(n:Int):=λe he=>by have:=hv.2.1 e he;omega
   obtain⟨hsp,hle⟩:=PTr.composed tr hes tp (by omega)
   have hsp':Qk g.n.toNat es:=by rw[hn];exact hsp
   have hg2:=hg1.le Zy hl2
   refine zee hg2 hv hsp' λs h3 hl3=>?_
   have hg3:=hg2.le Zy hl3
   refine zfm (t:=t) hg3 hv (by omega) (hX.le hl3) tr tp hpt λh4 hl4=>Z9 rfl ?_
   have hg4:=hg3.le Zy hl4
   refine zib hg4 hv hsp' (by omega) λh5 hl5=>Z9 rfl ?_
   have w1:i64.wrap (2*g.n)=2*g.n:=w64 (by omega)
   have w2:i64.wrap (2*g.n-3)=2*g.n-3:=w64 (by omega)
   rw[w1,w2,hgl]
   refine Za (λ_=>Z9 rfl ?_) (λhh=>absurd (by omega) hh)
   refine zi5 (hg4.le Zy hl5) hv hsp' λh6 hl6=>?_
   exact hk _ (Hp.le_trans hl1 (Hp.le_trans hl2 (Hp.le_trans hl3 (Hp.le_trans hl4 (Hp.le_trans hl5 hl6)))))
 . exact Z3y (k:=λ_ h'=>h.le h'/\GV g.n es/\g.n<=8/\es.length<=20) hg ht hlen hk λh' hl h1 h2 h3=>⟨hl,h1,h2,h3⟩
end
end Den
end
