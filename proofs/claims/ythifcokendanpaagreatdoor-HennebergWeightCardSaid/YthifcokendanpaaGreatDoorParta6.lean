/-
  Part 6 of the tools and contracts from which the statement is proved.
-/
import Derived.Test.YthifcokendanpaaGreatDoorParta5
import Derived.Test.YthifcokendanpaaGreatDoorProg
import Derived.RangeFuncBox
import Derived.RangeFuncLeaves
import Derived.Shelf.Abstract
import Derived.WalkKit
import Derived.OwnWalkIn
import Derived.TacticsInMore
import Derived.LoopNIn
import Derived.LoopIn
import Derived.Laws.Externs
set_option linter.all false
section
namespace Den
open Go Iv Lx
def cirOk (c:PCon) (cs:List Int):Prop:=∀k∈c.cir,0≤k∧k<cs.length
theorem VC.cirOk {c:PCon} {n:Int} {S:PSk} (hv:VC c n S.cir.length):cirOk c (cens S):=fun k hk=>by
 have:=hv.2.2.1.2 k hk
 rw [zpc]; exact this
def withC (c:PCon):Prop:=c.kind=13∨c.kind=16∨c.kind=17
instance (c:PCon):Decidable (withC c):=by unfold withC; infer_instance
theorem za1q {c:PCon} {cs:List Int} {k:Int} (h:withC c):itK c cs k=[-1-k,cs.getD k.toNat 0]:=by unfold itK; exact if_pos h
theorem za1p {c:PCon} {cs:List Int} {k:Int} (h:¬withC c):itK c cs k=[-1-k]:=by unfold itK; exact if_neg h
theorem zot {c:PCon} {cs:List Int}:∀l:List Int,(l.flatMap (itK c cs)).length≤2*l.length:=by
 intro l
 induction l with
 | nil=>simp
 | cons a r ih=>
   have:=za1o c cs a
   simp only [List.flatMap_cons,List.length_append,List.length_cons]
   omega
theorem zjv {c:PCon} {cs:List Int} {l:List Int} {i:Nat} (hi:i<l.length):(l.take (i+1)).flatMap (itK c cs)=(l.take i).flatMap (itK c cs)++itK c cs l[i]:=by
 rw [←List.take_append_getElem hi,List.flatMap_append]
 simp
section
variable {h : Hp} {x : TConstraint} {c : PCon} {cs : List Int} {ce : Sl} {Kb : Bool → Hp → Prop} {Ki : Int → Hp → Prop} {Ks : Sl → Hp → Prop}
theorem zy2 {k:Int} {n:Nat} (h0:0≤k) (h1:k<n) (h2:n≤1000000):IntKind.i64.wrap (-1-k)=-1-k:=w64 (by omega)
theorem za0q (hx:CO h x c) (hc:IL h ce cs) (hs:sC c) (hok:cirOk c cs) (hcl:cs.length≤1000) (H:∀y h',h.le h'→OI h h' y (itemsC c cs)→Ks y h'):callP (F.zlj x ce) Ks h:=by
 refine za1 (fun y h'=>OI h h' y (itemsC c cs)) (fun K' hk=>?_) fun b h' hl hb=>H b h' hl hb
 unfold F.zlj
 obtain ⟨x1,x2,x3,x4,x5⟩:=hx
 obtain ⟨s1,s2,s3,s4⟩:=hs
 rw [x1]
 have cl:=x3.len
 refine za7n fun p1 h1 ho1=>?_
 refine ho1.appAll (x2.le ho1.dle) (by simp; omega) fun w3 h2 ho2=>?_
 rw [List.nil_append] at ho2
 refine zc5 (n:=c.cir.length) (by omega) (fun i y h'=>OI h h' y (c.pts++(c.cir.take i).flatMap (itK c cs))) (by simpa using ho2) ?_
 intro i y h3 hi ho k hk2
 have hfl:=zot (c:=c) (cs:=cs) (c.cir.take i)
 rw [List.length_take] at hfl
 refine za0 (fun h4=>?_) (fun h4=>?_)
 · have hi':i<c.cir.length:=by simp only at h4; omega
   have hkk:=hok _ (List.getElem_mem hi')
   refine za3 (fun s h'=>OI h h' s.1 (c.pts++(c.cir.take (i+1)).flatMap (itK c cs))) (fun s h' hs=>hk2 _ _ hi' hs) ?_
   refine (x3.le ho.dle).get i rfl hi' ?_
   rw [zy2 hkk.1 hkk.2 (by omega)]
   refine ho.app (by rw [List.length_append]; omega) fun w h5 ho5=>?_
   have two:withC c→idxP x.circles (i:Int) 1 fun a11=>ldL (.int .i64) a11 (fun x12=>idxP ce x12 1 fun a13=>ldL (.int .i64) a13 (fun x14=>appP 1 8 [.int .i64 0] w 1 [.int .i64 x14] (fun w15 h6=>OI h h6 w15 (c.pts++(c.cir.take (i+1)).flatMap (itK c cs))) h5) h5) h5:=by
    intro hw
    refine (x3.le ho5.dle).get i rfl hi' ?_
    refine (hc.le ho5.dle).get c.cir[i].toNat (by omega) (by omega) ?_
    refine ho5.app (by rw [List.length_append,List.length_append,List.length_singleton]; omega) fun w2 h6 ho6=>?_
    rw [zjv hi',za1q hw,zck (by omega)]
    simpa [List.append_assoc] using ho6
   refine za7 (fun h6=>two (.inl h6)) (fun h6=>za7 (fun h7=>two (.inr (.inl h7))) (fun h7=>za7 (fun h8=>two (.inr (.inr h8))) (fun h8=>?_)))
   show OI _ _ _ _
   rw [zjv hi',za1p (by unfold withC; omega),←List.append_assoc]
   exact ho5
 · have:i=c.cir.length:=by simp only at h4; omega
   subst this
   rw [List.take_length] at ho
   exact hk _ _ ho.dle ho
end
section
variable {h : Hp} {s : TSketch} {S : PSk} {Kb : Bool → Hp → Prop} {Ki : Int → Hp → Prop} {Ks : Sl → Hp → Prop} {l m : Sl} {xs ys : List Int}
theorem za3w {n:Nat} (hn:n≤1000000) (H:∀y h',h.le h'→LO cc 5 CO h h' y []→Ks y h'):callP (F.zbq nilS (n:Int)) Ks h:=by
 refine za1 (fun y h'=>LO cc 5 CO h h' y []) (fun K' hk=>?_) fun b h' hl hb=>H b h' hl hb
 unfold F.zbq
 have e0:IntKind.i64.wrap (((nilS.cap:Nat):Int)-(nilS.len:Int))=0:=by rw [show ((nilS.cap:Nat):Int)-(nilS.len:Int)=0 from rfl]; exact w64 (by omega)
 have e1:IntKind.i64.wrap ((n:Int)-0)=(n:Int):=by rw [Int.sub_zero]; exact w64 (by omega)
 refine za3 (fun _ h'=>h'=h) ?_ (za0 (fun h1=>by omega) (fun _=>rfl))
 rintro _ h rfl
 rw [e0,e1]
 refine za0 (fun h1=>?_) (fun h1=>hk _ _ (Hp.le_refl _) LO.nil)
 refine ⟨by omega,by decide,by decide,by omega,?_⟩
 have hown:Own h h 5 (nilS.cut 0 0 5) ([]:List Value):=⟨Hp.le_refl _,rfl,Nat.le_refl _,rfl⟩
 have ez:repl n zC=(List.replicate n (⟨0,nilS,nilS,nilS,0⟩:TConstraint)).flatMap cc:=by
  unfold repl
  rw [List.flatMap_replicate]
  rfl
 have key:appP 5 88 zC (nilS.cut 0 0 5) n (repl n zC) (fun w4 h2=>slP w4 0 ((nilS.len:Nat):Int) 5 fun c5=>K' c5 h2) h:=by
  refine zik hown (n:=n) ?_ rfl ?_ (by show (0+n)*88≤_; omega) (by show 0+n≤_; omega) fun y h' hy hyl=>?_
  · rw [zpt]; rfl
  · rw [ez,List.all_flatMap,List.all_eq_true]
    exact fun x _=>rfl
  · have hcap:=hy.2.2.1
    have e9:nilS.len=0:=rfl
    refine ⟨by decide,by decide,by omega,hk _ _ hy.1 ?_⟩
    have hp:=hy.preN (k:=0) (by omega)
    refine ⟨[],?_,rfl,fun k h1 _=>by simp at h1⟩
    rw [Nat.zero_mul,List.take_zero] at hp
    exact hp
 exact key
theorem zzp {qs rs:List PCon} {p:Addr} (hl:LR cc 5 CO h l qs) (hm:LR cc 5 CO h m rs) (hlen:qs.length+rs.length≤1000) (hp:Rd h 1 ⟨some p,2,2⟩ [Lf.sl.up l,Lf.sl.up m]) (H:∀y h',h.le h'→LR cc 5 CO h' y (qs++rs)→Ks y h') :
 callP (F.zbn ⟨some p,2,2⟩) Ks h:=by
 refine za1 (fun y h'=>LR cc 5 CO h' y (qs++rs)) (fun K' hk=>?_) fun b h' hl hb=>H b h' hl hb
 unfold F.zbn
 have ll:=hl.len zac
 have ml:=hm.len zac
 have g0:∀{h':Hp} {K:Sl→Prop},h.le h'→K l→idxP (⟨some p,2,2⟩:Sl) ((0:Nat):Int) 1 fun a=>ldL .sl a K h':=fun {h'} {K} hle hK=>ztv 0 (hp.le hle) rfl rfl fun a ha=>⟨l,ha,hK⟩
 have g1:∀{h':Hp} {K:Sl→Prop},h.le h'→K m→idxP (⟨some p,2,2⟩:Sl) ((1:Nat):Int) 1 fun a=>ldL .sl a K h':=fun {h'} {K} hle hK=>ztv 1 (hp.le hle) rfl rfl fun a ha=>⟨m,ha,hK⟩
 refine zc5 (n:=2) (by omega) (fun i a h'=>h'=h∧a=if i=0 then 0 else if i=1 then (qs.length:Int) else ((qs.length+rs.length:Nat):Int)) ⟨rfl,rfl⟩ ?_
 rintro i a h hi ⟨rfl,ha⟩ k hk2
 refine za0 (fun h1=>?_) (fun h1=>?_)
 · have hi':i<2:=by have:(i:Int)<((2:Nat):Int):=h1; omega
   refine za3 (fun s h'=>h'=h∧s.1=if i+1=0 then 0 else if i+1=1 then (qs.length:Int) else ((qs.length+rs.length:Nat):Int)) (fun s h' hs=>hk2 _ _ hi' hs) ?_
   rcases (by omega:i=0∨i=1) with rfl | rfl
   · refine g0 (Hp.le_refl _) ?_
     have ha:a=0:=ha
     have e:IntKind.i64.wrap (a+(l.len:Int))=(qs.length:Int):=by rw [ha,ll,Int.zero_add]; exact w64 (by omega)
     simp only
     rw [e]
     refine za0 (fun h2=>by omega) (fun _=>⟨by trivial,by trivial⟩)
   · refine g1 (Hp.le_refl _) ?_
     have ha:a=(qs.length:Int):=ha
     have e:IntKind.i64.wrap (a+(m.len:Int))=((qs.length+rs.length:Nat):Int):=by rw [ha,ml]; rw [w64 (by omega)]; omega
     simp only
     rw [e]
     refine za0 (fun h2=>by omega) (fun _=>⟨by trivial,by trivial⟩)
 · have hi':i=2:=by have:¬(i:Int)<((2:Nat):Int):=h1; omega
   subst hi'
   have ha:a=((qs.length+rs.length:Nat):Int):=ha
   simp only
   rw [ha]
   refine za3w (by omega) fun r7 h3 hl3 ho3=>?_
   refine zc5 (n:=2) (by omega) (fun i y h'=>LO cc 5 CO h h' y (if i=0 then [] else if i=1 then qs else qs++rs)) ho3 ?_
   intro i y h4 hi ho4 k hk3
   refine za0 (fun h5=>?_) (fun h5=>?_)
   · have hi':i<2:=by have:(i:Int)<((2:Nat):Int):=h5; omega
     rcases (by omega:i=0∨i=1) with rfl | rfl
     · refine g0 ho4.dle ?_
       have ho4:LO cc 5 CO h h4 y []:=ho4
       exact ho4.appAll zac (bytes:=88) (zero:=zC) hl rfl (by simp; omega) (by simp; omega) fun w h6 ho6=>hk3 _ _ (by decide) ho6
     · refine g1 ho4.dle ?_
       have ho4:LO cc 5 CO h h4 y qs:=ho4
       exact ho4.appAll zac (bytes:=88) (zero:=zC) hm rfl (by omega) (by omega) fun w h6 ho6=>hk3 _ _ (by decide) ho6
   · have hi':i=2:=by have:¬(i:Int)<((2:Nat):Int):=h5; omega
     subst hi'
     have ho4:LO cc 5 CO h h4 y (qs++rs):=ho4
     exact hk _ _ ho4.dle (ho4.lr zac)
end
end Den
end

section
namespace Den
open Go Iv Lx
def ILP (h:Hp) (x:Sl) (xs:List Int):Prop:=IL h x xs
theorem zko:Rec slc 1 ILP:=⟨fun _=>rfl,by decide,fun _=>rfl,fun hx hl=>IL.le hx hl⟩
def items9 (s:TSketch) (lS itS ceS:Sl):List Value:=[Lf.sl.up s.points,Lf.sl.up s.circles,Lf.sl.up s.segments,Lf.sl.up s.arcs,Lf.sl.up s.chains,Lf.sl.up s.constraints,Lf.sl.up lS,Lf.sl.up itS,Lf.sl.up ceS]
def MB (h:Hp) (b:Nat) (cs:List Value):Prop:=∃e,h b=some ⟨cs,e,(0,0)⟩
theorem MB.ld {h:Hp} {b:Nat} {cs:List Value} (hb:MB h b cs) (j:Nat) {v:Value} (hv:cs[j]?=some v):h.cell ((⟨b,0,none⟩:Addr).add j)=some v:=by
 obtain ⟨e,hb⟩:=hb
 unfold Hp.cell
 rw [zbg,zdw rfl,zcs]
 simpa [hb] using hv
theorem MB.le {h h':Hp} {b:Nat} {cs:List Value} (hb:MB h b cs) (hl:h.le h'):MB h' b cs:=by
 obtain ⟨e,hb⟩:=hb
 exact ⟨e,hl _ _ hb⟩
theorem MB.st {h:Hp} {b j:Nat} {cs:List Value} {v:Value} {K:Hp→Prop} (hb:MB h b cs) (hj:j<cs.length) (hv:Value.leaf v=true)
 (H:∀h',MB h' b (cs.set j v)→(∀i,i≠b→h' i=h i)→K h'):stP ((⟨b,0,none⟩:Addr).add j) [v] K h:=by
 obtain ⟨e,hb⟩:=hb
 refine ⟨_,by rw [zbg]; exact hb,zdw rfl _,rfl,?_,by simp [hv],?_⟩
 · rw [zcs]; simp; omega
 · rw [zbg,zcs]
   refine H _ ⟨e,?_⟩ fun i hi=>Hp.ins_ne hi
   rw [Hp.ins_same]
   simp only [Nat.zero_add]
   rw [zki,List.set_eq_take_append_cons_drop,if_pos hj]
theorem zxr {h h':Hp} {b:Nat} {bl:Blk} (hb:h' b=some bl) (hs:∀i,i≠b→h' i=h i):h'=h.ins b bl:=by
 funext i
 by_cases hi:i=b
 · subst hi; rw [Hp.ins_same,hb]
 · rw [Hp.ins_ne hi,hs i hi]
theorem zse {h0 h:Hp} {x:Sl} {cs:List Value} {n m:Nat} {bl:Blk} (ho:Own h0 h m x cs) (hn:h0 n=none) (hne:∀a,x.a=some a→a.block≠n):Own h0 (h.ins n bl) m x cs:=by
 obtain ⟨h1,h2,h3,h4⟩:=ho
 refine ⟨fun k b hk=>?_,h2,h3,?_⟩
 · have:k≠n:=fun hh=>by subst hh; rw [hn] at hk; cases hk
   rw [Hp.ins_ne this]; exact h1 k b hk
 · cases ha:x.a with
   | none=>rw [ha] at h4; exact h4
   | some a=>
     rw [ha] at h4
     obtain ⟨g1,g2,g3,b,g4,g5⟩:=h4
     exact ⟨g1,g2,g3,b,by rw [Hp.ins_ne (hne a ha)]; exact g4,g5⟩
theorem zya {h0 h D:Hp} {x:Sl} {cs:List Value} {m:Nat} (ho:Own h0 h m x cs) (hD:∀a,x.a=some a→D a.block=h a.block):Rd D m x cs:=by
 have hr:=ho.rd
 obtain ⟨h1,h2,h3,h4⟩:=ho
 refine ⟨hr.1,?_⟩
 cases ha:x.a with
 | none=>have:=hr.2; rw [ha] at this; exact this
 | some a=>
   rw [ha] at h4
   obtain ⟨g1,g2,g3,b,g4,g5,g6,g7⟩:=h4
   have hle:cs.length≤b.cells.length:=by rw [g6,←h2]; exact Nat.mul_le_mul_right _ h3
   simp only [cellsAtO]
   rw [zm1 (by rw [hD a ha]; exact g4) g2 (by omega),g1]
   simp [g7]
def PR (h:Hp) (p:Addr) (S:PSk):Prop:=∃s lS itS ceS,SK h s S∧(∀j v,(items9 s lS itS ceS)[j]?=some v→h.cell (p.add j)=some v)∧LR cc 5 CO h lS (allC S)∧LR slc 1 ILP h itS ((allC S).map fun c=>itemsC c (cens S))∧IL h ceS (cens S)
theorem PR.le {h h':Hp} {p:Addr} {S:PSk} (hp:PR h p S) (hl:h.le h'):PR h' p S:=by
 obtain ⟨s,lS,itS,ceS,h1,h2,h3,h4,h5⟩:=hp
 exact ⟨s,lS,itS,ceS,h1.le hl,fun j v hv=>Hp.cell_le hl (h2 j v hv),h3.le zac hl,h4.le zko hl,h5.le hl⟩
section
variable {h : Hp} {s : TSketch} {S : PSk} {Kp : Option Addr → Hp → Prop}
theorem zk3 (hx:SK h s S) (hv:VS S) (hs:sSk S) (H:∀p h',h.le h'→PR h' p S→Kp (some p) h'):callP (F.zcx s) Kp h:=by
 refine za1 (fun y h'=>∃p,y=some p∧PR h' p S) (fun K' hk=>?_) fun b h' hl ⟨p,hp,hb⟩=>by subst hp; exact H p h' hl hb
 unfold F.zcx
 have hal:=zhw hs
 have hok:=zhb hv hs
 have s6:=hs.2.2.2.2.2.1
 have hi:=zuj S
 have s4:=hs.2.2.2.1
 have s2:=hs.2.1
 have cl:=zpc (S:=S)
 refine zwa hx hv hs fun r1 h1 hl1 hr1=>?_
 refine za7o (cells:=[Lf.sl.up s.constraints,Lf.sl.up r1]) 1 2 rfl fun p2 h2 hl2 hp2=>?_
 refine zzp ((hx.le (Hp.le_trans hl1 hl2)).2.2.2.2.2) (hr1.le zac hl2) (by omega) hp2 fun lS h3 hl3 hL=>?_
 have hle3:=Hp.le_trans hl1 (Hp.le_trans hl2 hl3)
 have hx3:=hx.le hle3
 have hL:LR cc 5 CO h3 lS (allC S):=hL
 intro b e hbf
 have l2:=hx.2.1.len zdk
 have lL:=hL.len zac
 refine zbi (n:=S.cir.length) (by omega) (fun i h'=>∃y,MB h' b (items9 s lS nilS y)∧OI h3 h' y ((cens S).take i)∧∀a,y.a=some a→a.block≠b) ⟨nilS,⟨e,Hp.ins_same _ _ _⟩,by rw [List.take_zero]; exact Own.nil (Hp.le_ins hbf),fun a ha=>by cases ha⟩ ?_
 rintro i h5 hi ⟨y,hm,ho,hab⟩ k hk2
 have h3b:h3 b=none:=hbf
 refine za0 (fun h6=>?_) (fun h6=>?_)
 · have hi':i<S.cir.length:=by simp only at h6; omega
   refine za1f (hx3.le ho.dle) i rfl hi' fun a x hxx hc=>⟨_,hc 0 _ rfl,_,hc 1 _ rfl,_,hc 2 _ rfl,_,hc 3 _ rfl,_,hc 4 _ rfl,_,hm.ld 8 rfl,?_⟩
   have hyl:=ho.il.len
   rw [List.length_take] at hyl
   refine zmx ho (n:=1) (new:=[ic x.center]) rfl rfl rfl (by omega) (by omega) fun z h7 hz _ hs7 hb7=>?_
   have hbb:h5 b≠none:=by obtain ⟨e,hm⟩:=hm; rw [hm]; simp
   have hm7:MB h7 b (items9 s lS nilS y):=by
    obtain ⟨e,hm⟩:=hm
    exact ⟨e,by rw [hs7 b hbb fun a ha=>(hab a ha).symm]; exact hm⟩
   have hzb:∀a,z.a=some a→a.block≠b:=fun a ha hh=>by
    rcases hb7 a ha with ⟨a',h8,h9⟩ | h8
    · exact hab a' h8 (by rw [h9]; exact hh)
    · rw [hh] at h8; exact hbb h8
   refine hm7.st (j:=8) (v:=Lf.sl.up z) (by simp [items9]) rfl fun h8 hm8 hs8=>hk2 _ hi' ⟨z,hm8,?_,hzb⟩
   obtain ⟨e8,hm8'⟩:=hm8
   rw [zxr hm8' hs8]
   have:OI h3 h7 z ((cens S).take (i+1)):=by
    unfold OI
    rw [←List.take_append_getElem (show i<(cens S).length by omega),List.map_append,←hxx]
    exact hz
   exact zse this h3b hzb
 · have hi':i=S.cir.length:=by simp only at h6; omega
   subst hi'
   rw [←cl,List.take_length] at ho
   obtain ⟨D0,hD0⟩:∃D0,D0=h5.del b:=⟨_,rfl⟩
   have hD0le:D0.le h5:=by rw [hD0]; exact Hp.del_le _ _
   have h3D:h3.le D0:=fun j bl hj=>by
    rw [hD0]
    unfold Hp.del
    rw [if_neg (fun hh=>by subst hh; rw [h3b] at hj; cases hj)]
    exact ho.dle _ _ hj
   have hce:IL D0 y (cens S):=⟨zya ho fun a ha=>by rw [hD0]; unfold Hp.del; rw [if_neg (hab a ha)],ho.2.2.1⟩
   refine ⟨_,hm.ld 6 rfl,?_⟩
   have hLD:=hL.le zac h3D
   refine zbi (n:=(allC S).length) (by omega) (fun i h'=>∃z D,MB h' b (items9 s lS z y)∧D0.le D∧D b=none∧LO slc 1 ILP D h' z (((allC S).map fun c=>itemsC c (cens S)).take i)∧∀a,z.a=some a→a.block≠b)
    ⟨nilS,D0,hm,Hp.le_refl _,by rw [hD0]; exact Hp.del_same _ _,⟨[],Own.nil hD0le,by simp,fun k k1 _=>by simp at k1⟩,fun a ha=>by cases ha⟩ ?_
   clear hk2
   rintro i h8 hi ⟨z,D,hm8,hD,hDb,hz,hzb⟩ k hk2
   refine za0 (fun h9=>?_) (fun h9=>?_)
   · have hi':i<(allC S).length:=by simp only at h9; omega
     have hD8:=hz.dle
     refine (hLD.le zac (Hp.le_trans hD hD8)).get zac i rfl hi' fun a x hxx hc=>?_
     refine ⟨_,hc 0 _ rfl,_,hc 1 _ rfl,_,hc 2 _ rfl,_,hc 3 _ rfl,_,hc 4 _ rfl,?_⟩
     obtain ⟨c,hcc⟩:∃c,c=(allC S)[i]:=⟨_,rfl⟩
     rw [←hcc] at hxx
     have hcok:=hok c (by rw [hcc]; exact List.getElem_mem _)
     have hcir:cirOk c (cens S):=hcok.1.cirOk
     have hsc:=hcok.2
     obtain ⟨x1,x2,x3,x4,x5⟩:=hxx
     obtain ⟨c1,c2,c3,c4⟩:=hsc
     have cll:=x3.len
     refine za0e x2 (by omega) fun r16 h10 ho10=>?_
     rw [x1]
     refine zc5 (n:=c.cir.length) (by omega) (fun j w h'=>OI h8 h' w (c.pts++(c.cir.take j).flatMap (itK c (cens S)))) (by simpa using ho10) ?_
     intro j w h11 hj ho11 k11 hk11
     have hfl:=zot (c:=c) (cs:=cens S) (c.cir.take j)
     rw [List.length_take] at hfl
     refine za0 (fun h12=>?_) (fun h12=>?_)
     · have hj':j<c.cir.length:=by simp only at h12; omega
       have hkk:=hcir _ (List.getElem_mem hj')
       refine za3 (fun s h'=>OI h8 h' s.1 (c.pts++(c.cir.take (j+1)).flatMap (itK c (cens S)))) (fun s h' hs=>hk11 _ _ hj' hs) ?_
       refine (x3.le ho11.dle).get j rfl hj' ?_
       rw [zy2 hkk.1 hkk.2 (by omega)]
       refine ho11.app (by rw [List.length_append]; omega) fun w2 h13 ho13=>?_
       have two:withC c→ldL .sl ((⟨b,0,none⟩:Addr).add 8) (fun x24=>idxP x24 c.cir[j] 1 fun a25=>ldL (.int .i64) a25 (fun x26=>appP 1 8 [.int .i64 0] w2 1 [.int .i64 x26] (fun w27 h13=>OI h8 h13 w27 (c.pts++(c.cir.take (j+1)).flatMap (itK c (cens S)))) h13) h13) h13:=by
        intro hw
        refine ⟨_,(hm8.le ho13.dle).ld 8 rfl,?_⟩
        refine (hce.le (Hp.le_trans hD (Hp.le_trans hD8 ho13.dle))).get c.cir[j].toNat (by omega) (by omega) ?_
        refine ho13.app (by rw [List.length_append,List.length_append,List.length_singleton]; omega) fun w3 h14 ho14=>?_
        rw [zjv hj',za1q hw,zck (by omega)]
        simpa [List.append_assoc] using ho14
       refine za7 (fun h6=>two (.inl h6)) (fun h6=>za7 (fun h7=>two (.inr (.inl h7))) (fun h7=>za7 (fun h8=>two (.inr (.inr h8))) (fun h8=>?_)))
       show OI _ _ _ _
       rw [zjv hj',za1p (by unfold withC; omega),←List.append_assoc]
       exact ho13
     · have hj':j=c.cir.length:=by simp only at h12; omega
       subst hj'
       rw [List.take_length] at ho11
       have ho11:OI h8 h11 w (itemsC c (cens S)):=ho11
       have hm11:=hm8.le ho11.dle
       refine ⟨_,hm11.ld 7 rfl,?_⟩
       have hz11:=hz.le ho11.dle
       have hbb:h11 b≠none:=by obtain ⟨e,hm⟩:=hm11; rw [hm]; simp
       have hwb:∀a,w.a=some a→h8 a.block=none:=fun a ha=>by
        obtain ⟨_,_,_,g4⟩:=ho11
        rw [ha] at g4
        exact g4.2.2.1
       have h8b:h8 b≠none:=by obtain ⟨e,hm⟩:=hm8; rw [hm]; simp
       obtain ⟨zs,q1,q2,q3⟩:=hz11
       have hz8:∀a,z.a=some a→h8 a.block≠none:=fun a ha=>by
        obtain ⟨ys,g1,_,_⟩:=hz
        obtain ⟨_,_,_,g4⟩:=g1
        rw [ha] at g4
        obtain ⟨_,_,_,bl,g5,_⟩:=g4
        rw [g5]; simp
       have hzD:∀a,z.a=some a→D a.block=none:=fun a ha=>by
        obtain ⟨_,_,_,g4⟩:=q1
        rw [ha] at g4
        exact g4.2.2.1
       obtain ⟨D1,hD1⟩:∃D1:Hp,D1=fun j=>if j=b∨(∃a,z.a=some a∧j=a.block) then none else h11 j:=⟨_,rfl⟩
       have hD1h:D1.le h11:=fun j bl hj=>by
        rw [hD1] at hj
        simp only at hj
        split at hj
        · cases hj
        · exact hj
       have hDD1:D.le D1:=fun j bl hj=>by
        rw [hD1]
        simp only
        rw [if_neg]
        · exact Hp.le_trans hD8 ho11.dle _ _ hj
        · rintro (rfl | ⟨a,ha,rfl⟩)
          · rw [hDb] at hj; cases hj
          · rw [hzD a ha] at hj; cases hj
       have hD1b:D1 b=none:=by rw [hD1]; simp
       have hw1:IL D1 w (itemsC c (cens S)):=⟨zya ho11 fun a ha=>by
        rw [hD1]
        simp only
        rw [if_neg]
        rintro (hh | ⟨a',ha',hh⟩)
        · exact h8b (by rw [←hh]; exact hwb a ha)
        · exact hz8 a' ha' (by rw [←hh]; exact hwb a ha),ho11.2.2.1⟩
       have hz1:Own D1 h11 1 z (zs.flatMap slc):=by
        obtain ⟨g1,g2,g3,g4⟩:=q1
        refine ⟨hD1h,g2,g3,?_⟩
        cases ha:z.a with
        | none=>rw [ha] at g4; exact g4
        | some a=>
          rw [ha] at g4
          obtain ⟨k1,k2,k3,k4⟩:=g4
          exact ⟨k1,k2,by rw [hD1]; simp only; rw [if_pos (.inr ⟨a,ha,rfl⟩)],k4⟩
       have hzl:=hz.len zko
       rw [List.length_take,List.length_map] at hzl
       refine zmx hz1 (n:=1) (new:=slc w) rfl rfl rfl (by omega) (by omega) fun z2 h15 hz2 _ hs15 hb15=>?_
       have hm15:MB h15 b (items9 s lS z y):=by
        obtain ⟨e,hm⟩:=hm11
        exact ⟨e,by rw [hs15 b hbb fun a ha=>(hzb a ha).symm]; exact hm⟩
       have hz2b:∀a,z2.a=some a→a.block≠b:=fun a ha hh=>by
        rcases hb15 a ha with ⟨a',h8,h9⟩ | h8
        · exact hzb a' h8 (by rw [h9]; exact hh)
        · rw [hh] at h8; exact hbb h8
       refine hm15.st (j:=7) (v:=Lf.sl.up z2) (by simp [items9]) rfl fun h16 hm16 hs16=>hk2 _ hi' ⟨z2,D1,hm16,Hp.le_trans hD hDD1,hD1b,⟨zs++[w],?_,?_,fun j j1 j2=>?_⟩,hz2b⟩
       · obtain ⟨e8,hm8'⟩:=hm16
         rw [zxr hm8' hs16]
         refine zse ?_ hD1b hz2b
         rw [List.flatMap_append]
         simpa using hz2
       · rw [List.length_append,q2,List.length_take,List.length_take]
         simp; omega
       · have hlz:zs.length=i:=by rw [q2]; simp; omega
         rcases Nat.lt_or_ge j i with h5 | h5
         · rw [List.getElem_append_left (by omega),List.getElem_take]
           have:=q3 j (by omega) (by simp; omega)
           rw [List.getElem_take] at this
           exact zko.mono this hDD1
         · have h6:j=i:=by simp at j1; omega
           subst h6
           rw [List.getElem_append_right (by omega),List.getElem_take]
           simp only [hlz,Nat.sub_self,List.getElem_cons_zero,List.getElem_map]
           rw [←hcc]
           exact hw1
   · have hi':i=(allC S).length:=by simp only at h9; omega
     subst hi'
     have hfull:((allC S).map fun c=>itemsC c (cens S)).take (allC S).length=(allC S).map fun c=>itemsC c (cens S):=List.take_of_length_le (by simp)
     rw [hfull] at hz
     have hD8:=hz.dle
     have h38:h3.le h8:=Hp.le_trans h3D (Hp.le_trans hD hD8)
     refine hk _ _ (Hp.le_trans hle3 h38) ⟨⟨b,0,none⟩,rfl,s,lS,z,y,hx3.le h38,fun j v hv=>hm8.ld j hv,hL.le zac h38,hz.lr zko,hce.le (Hp.le_trans hD hD8)⟩
end
end Den
end

section
namespace Den
open Go Iv Lx
def cAt (cs:List Int) (c:PCon) (i:Nat):Int:=cs.getD (c.cir.getD i 0).toNat 0
def cnt (l:List Int) (t:Int):Nat:=(l.filter (·==t)).length
def kindP (c:PCon) (cs:List Int) (t:Int):Int:=
 if c.kind=13 then (if (t∈c.pts)↔cAt cs c 0=t then 0 else 2)
 else if c.kind=16 then (if cAt cs c 0=t∧t∉c.pts then 1 else 0)
 else if c.kind=17 then (if cAt cs c 0=t↔cAt cs c 1=t then 0 else 2)
 else if t∉c.pts then 0
 else if c.kind=1∨c.kind=9 then 3
 else if c.kind=2 then 2
 else if c.kind=3∨c.kind=6∨c.kind=11∨c.kind=12 then 1
 else if c.kind=4 then (if c.pts[0]?=some t then 1 else 0)
 else if c.kind=10 then (if c.pts[0]?=some t∨c.pts[1]?=some t then 3 else 0)
 else if c.kind=5∨c.kind=7 then (if cnt c.pts t=2 then 2 else 1)
 else if c.kind=8 then (if cnt c.pts t=2 then 1 else 2)
 else 0
def sizesP (c:PCon) (cs:List Int) (k:Int):Prop:=
 k∈c.cir∧(if c.kind=13∨c.kind=16 then cs.getD k.toNat 0∉c.pts else if c.kind=17 then c.side=1∧cAt cs c 0≠cAt cs c 1 else True)
instance (c:PCon) (cs:List Int) (k:Int):Decidable (sizesP c cs k):=by unfold sizesP; infer_instance
def suitP (c:PCon) (cs:List Int) (item:Int):Prop:=
 if item<0 then sizesP c cs (-1-item) else if eqK c.kind=2 then kindP c cs item=3 else kindP c cs item=1∨kindP c cs item=2
instance (c:PCon) (cs:List Int) (k:Int):Decidable (suitP c cs k):=by unfold suitP; infer_instance
def keepP (l:List Int) (item:Int) (R:List Int):Prop:=item∈l∧∀x∈l,x∉R
instance (l:List Int) (item:Int) (R:List Int):Decidable (keepP l item R):=by unfold keepP; infer_instance
def remN (its:List (List Int)) (item:Int) (R:List Int):Nat→List Int
 | 0=>[]
 | k+1=>remN its item R k++(if keepP (its.getD k []) item R then [(k:Int)] else [])
def remL (its:List (List Int)) (item:Int) (R:List Int):List Int:=remN its item R its.length
theorem zyo {its:List (List Int)} {item:Int} {R:List Int}:∀{k:Nat} {j:Int},j∈remN its item R k↔∃i:Nat,i<k∧j=i∧keepP (its.getD i []) item R
 | 0,j=>by simp [remN]
 | k+1,j=>by
   unfold remN
   rw [List.mem_append,zyo]
   constructor
   · rintro (⟨i,hi,h1,h2⟩ | h)
     · exact ⟨i,by omega,h1,h2⟩
     · split at h
       · rename_i h3
         exact ⟨k,by omega,List.mem_singleton.1 h,h3⟩
       · cases h
   · rintro ⟨i,hi,h1,h2⟩
     rcases Nat.lt_or_ge i k with h3 | h3
     · exact .inl ⟨i,h3,h1,h2⟩
     · have:i=k:=by omega
       subst this
       right
       rw [if_pos h2]; exact List.mem_singleton.2 h1
theorem zps (its:List (List Int)) (item:Int) (R:List Int):∀k,(remN its item R k).length≤k
 | 0=>by simp [remN]
 | k+1=>by
   unfold remN
   have:=zps its item R k
   rw [List.length_append]
   split<;>simp<;>omega
def dC:PCon:=⟨0,[],[],[],0⟩
def wtL (L:List PCon) (l:List Int):Nat:=(l.map fun i=>eqK (L.getD i.toNat dC).kind).sum
def most (item:Int):Nat:=if item<0 then 1 else 2
def canP (L:List PCon) (cs:List Int) (R:List Int) (item:Int):Prop:=
 item∉R∧wtL L (remL (L.map fun c=>itemsC c cs) item R)≤most item∧∀i∈remL (L.map fun c=>itemsC c cs) item R,suitP (L.getD i.toNat dC) cs item
instance (L:List PCon) (cs:List Int) (R:List Int) (item:Int):Decidable (canP L cs R item):=by unfold canP; infer_instance
def allI (n m:Nat):List Int:=(List.range n).map (fun i:Nat=>(i:Int))++(List.range m).map (fun i:Nat=>-1-(i:Int))
theorem zsc {n m:Nat} {x:Int}:x∈allI n m↔(0≤x∧x<n)∨(x<0∧-1-x<m):=by
 unfold allI
 rw [List.mem_append,List.mem_map,List.mem_map]
 constructor
 · rintro (⟨a,ha,rfl⟩ | ⟨a,ha,rfl⟩)
   · rw [List.mem_range] at ha; omega
   · rw [List.mem_range] at ha; omega
 · rintro (⟨h1,h2⟩ | ⟨h1,h2⟩)
   · exact .inl ⟨x.toNat,List.mem_range.2 (by omega),by omega⟩
   · exact .inr ⟨(-1-x).toNat,List.mem_range.2 (by omega),by omega⟩
theorem zwf {n m:Nat}:(allI n m).length=n+m:=by simp [allI]
def peelF (can:List Int→Int→Bool) (pref:List Int):Nat→List Int→List Int
 | 0,R=>R
 | f+1,R=>match pref.find? (can R) with
   | none=>R
   | some i=>peelF can pref f (R++[i])
def peelL (can:List Int→Int→Bool) (pref:List Int):List Int:=peelF can pref pref.length []
def leftL (pref R:List Int):List Int:=pref.filter fun x=>decide (x∉R)
def canB (L:List PCon) (cs:List Int) (R:List Int) (item:Int):Bool:=decide (canP L cs R item)
theorem ztj {pref R:List Int} {i:Int} (hi:i∈pref) (hR:i∉R):(leftL pref (R++[i])).length<(leftL pref R).length:=by
 have e:leftL pref (R++[i])=(leftL pref R).filter fun x=>decide (x≠i):=by
  unfold leftL
  rw [List.filter_filter]
  congr 1
  funext x
  simp only [List.mem_append,List.mem_singleton,not_or]
  by_cases h1:x∈R<;>by_cases h2:x=i<;>simp [h1,h2]
 rw [e]
 refine List.length_filter_lt_length_iff_exists.2 ⟨i,?_,by simp⟩
 unfold leftL
 exact List.mem_filter.2 ⟨hi,by simpa using hR⟩
def lenC (c:PCon):Prop:=c.pts.length=(shK c.kind).1∧c.cir.length=(shK c.kind).2.1∧1≤c.kind∧c.kind≤17∧(fourK c.kind→PairsP c.pts)∧(¬fourK c.kind→c.pts.Nodup)
theorem VC.lenC {c:PCon} {n m:Int} (hv:VC c n m):lenC c:=by
 obtain ⟨h1,h2,h3,h4,h5,h6,h7⟩:=hv
 refine ⟨h2.1,h3.1,h1.1,h1.2,fun h=>?_,fun h=>?_⟩
 · rw [if_pos h] at h7; exact h7
 · rw [if_neg h] at h7; exact h7.1
section
variable {h : Hp} {x : TConstraint} {c : PCon} {cs : List Int} {ce : Sl} {t : Int} {Kb : Bool → Hp → Prop} {Ki : Int → Hp → Prop} {Ks : Sl → Hp → Prop}
def posF (l:List Int) (t:Int):Nat→List Int
 | 0=>[]
 | k+1=>posF l t k++(if l[k]?=some t then [(k:Int)] else [])
theorem zyf (l:List Int) (t:Int):∀k,k≤l.length→(posF l t k).length=cnt (l.take k) t
 | 0,_=>by simp [posF,cnt]
 | k+1,hk=>by
   unfold posF
   rw [List.length_append,zyf l t k (by omega)]
   unfold cnt
   rw [←List.take_append_getElem (show k<l.length by omega),List.filter_append,List.length_append]
   congr 1
   rw [List.getElem?_eq_getElem (by omega)]
   by_cases h:l[k]=t<;>simp [h]
theorem za20 (l:List Int) (t:Int):∀k,(posF l t k).length≤k
 | 0=>by simp [posF]
 | k+1=>by
   unfold posF
   have:=za20 l t k
   rw [List.length_append]
   split<;>simp<;>omega
theorem zvi {l:List Int} {t:Int}:∀{k:Nat} (hne:posF l t k≠[]),∃i:Nat,(posF l t k)[0]?=some (i:Int)∧l[i]?=some t∧∀j,j<i→l[j]?≠some t
 | 0,h=>absurd rfl h
 | k+1,h=>by
   unfold posF at h ⊢
   by_cases h0:posF l t k=[]
   · rw [h0,List.nil_append] at h ⊢
     split at h
     · rename_i h3
       rw [if_pos h3]
       refine ⟨k,rfl,h3,fun j hj hh=>?_⟩
       have:(j:Int)∈posF l t k:=by
        have key:∀m,j<m→(j:Int)∈posF l t m:=by
         intro m
         induction m with
         | zero=>intro hm; omega
         | succ m ih=>
           intro hm
           unfold posF
           rcases Nat.lt_or_ge j m with h4 | h4
           · exact List.mem_append_left _ (ih h4)
           · have:j=m:=by omega
             subst this
             rw [if_pos hh]; simp
        exact key k hj
       rw [h0] at this; cases this
     · exact absurd rfl h
   · obtain ⟨i,h1,h2⟩:=zvi h0
     refine ⟨i,?_,h2⟩
     have:0<(posF l t k).length:=List.length_pos_iff.2 h0
     rw [List.getElem?_append_left this]; exact h1
theorem za1h {l:List Int} {t:Int}:cnt l t≠0↔t∈l:=by
 unfold cnt
 rw [←Nat.pos_iff_ne_zero,List.length_pos_iff_exists_mem]
 constructor
 · rintro ⟨a,ha⟩
   have:=List.mem_filter.1 ha
   rw [beq_iff_eq] at this
   rw [←this.2]; exact this.1
 · intro h
   exact ⟨t,List.mem_filter.2 ⟨h,by simp⟩⟩
theorem za0m (hx:CO h x c) (hs:sC c) (H:∀y h',h.le h'→IL h' y (posF c.pts t c.pts.length)→Ks y h'):callP (F.zjy x t) Ks h:=by
 refine za1 (fun y h'=>IL h' y (posF c.pts t c.pts.length)) (fun K' hk=>?_) fun b h' hl hb=>H b h' hl hb
 unfold F.zjy
 have hp:=hx.2.1
 have hl:=hp.len
 have s1:=hs.1
 refine zc5 (n:=c.pts.length) (by omega) (fun i y h'=>OI h h' y (posF c.pts t i)) OI.nil ?_
 intro i y h1 hi ho k hk2
 refine za0 (fun h2=>?_) (fun h2=>?_)
 · have hi':i<c.pts.length:=by simp only at h2; omega
   refine za3 (fun s h'=>OI h h' s.1 (posF c.pts t (i+1))) (fun s h' hs=>hk2 _ _ hi' hs) ?_
   refine (hp.le ho.dle).get i rfl hi' ?_
   have hle:=za20 c.pts t i
   refine za7 (fun h3=>?_) (fun h3=>?_)
   · refine ho.app (by omega) fun z h4 ho4=>?_
     show OI _ _ _ _
     unfold posF
     rw [List.getElem?_eq_getElem hi',h3,if_pos rfl]; exact ho4
   · show OI _ _ _ _
     unfold posF
     rw [List.getElem?_eq_getElem hi',if_neg (fun hh=>h3 (Option.some.inj hh)),List.append_nil]; exact ho
 · have:i=c.pts.length:=by simp only at h2; omega
   subst this
   exact hk _ _ ho.dle ho.il
theorem zr5 {K:Int→Prop} {i:Nat} (hx:CO h x c) (hc:IL h ce cs) (hok:cirOk c cs) (hi:i<c.cir.length) (H:K (cAt cs c i)):idxP x.circles (i:Int) 1 fun a5=>ldL (.int .i64) a5 (fun x6=>idxP ce x6 1 fun a7=>ldL (.int .i64) a7 K h) h:=by
 refine hx.2.2.1.get i rfl hi ?_
 have hkk:=hok _ (List.getElem_mem hi)
 refine hc.get c.cir[i].toNat (by omega) (by omega) ?_
 unfold cAt at H
 rw [zck hi,zck (by omega)] at H
 exact H
theorem za3y (hx:CO h x c) (hc:IL h ce cs) (hs:sC c) (hok:cirOk c cs) (hv:lenC c) (H:∀h',h.le h'→Ki (kindP c cs t) h'):callP (F.zm8 x ce t) Ki h:=by
 refine za1 (fun r h'=>r=kindP c cs t) (fun K' hk=>?_) fun b h' hl hb=>by subst hb; exact H h' hl
 unfold F.zm8
 obtain ⟨v1,v2,v3,v4,v5,v6⟩:=hv
 have x1:=hx.1
 have s1:=hs.1
 refine ziz fun p1 h1 hl1 c1=>ze0 fun p2 h2 hl2 c2=>ze0 fun p3 h3 hl3 c3=>?_
 have hle:h.le h3:=Hp.le_trans hl1 (Hp.le_trans hl2 hl3)
 have k1:CKC h3 p1 x:=fun i v hv=>Hp.cell_le (Hp.le_trans hl2 hl3) (c1 i v hv)
 refine ⟨_,k1 0 _ rfl,_,k1 1 _ rfl,_,k1 2 _ rfl,_,k1 3 _ rfl,_,k1 4 _ rfl,_,c3,?_⟩
 refine za0m (x:=x) (hx.le hle) hs fun r6 h4 hl4 hr6=>?_
 have hle4:=Hp.le_trans hle hl4
 have k4:CKC h4 p1 x:=fun i v hv=>Hp.cell_le hl4 (k1 i v hv)
 have hr:=hr6.len
 have hpl:=zyf c.pts t c.pts.length (Nat.le_refl _)
 rw [List.take_length] at hpl
 have hat:(posF c.pts t c.pts.length).length≠0↔t∈c.pts:=by rw [hpl]; exact za1h
 have cen:∀i h' (K:Bool→Hp→Prop),i<c.cir.length→h4.le h'→K (decide (cAt cs c i=t)) h'→callP (F.zfh (i:Int) (some p2) (some p1) (some p3)) K h':=by
  intro i h' K hi hl' hK
  refine zae _ (fun K'' hk''=>?_) hK
  unfold F.zfh
  have hl3':=Hp.le_trans hl4 hl'
  refine ⟨_,Hp.cell_le (Hp.le_trans hl3 hl3') c2,_,Hp.cell_le hl' (k4 2 _ rfl),?_⟩
  refine zr5 (x:=x) (ce:=ce) (hx.le (Hp.le_trans hle4 hl')) (hc.le (Hp.le_trans hle4 hl')) hok hi ?_
  refine ⟨_,Hp.cell_le hl3' c3,?_⟩
  have:(cAt cs c i==t)=decide (cAt cs c i=t):=by
   by_cases hh:cAt cs c i=t
   · rw [decide_eq_true hh,hh]; simp
   · rw [decide_eq_false hh,beq_eq_false_iff_ne]; exact hh
  show K'' (cAt cs c i==t) h'
  rw [this]; exact hk''
 refine ⟨_,k4 0 _ rfl,?_⟩
 rw [x1]
 have hk':∀r,r=kindP c cs t→K' r h4:=fun r hr=>hk _ _ hle4 hr
 unfold kindP at hk'
 refine za7 (fun e13=>?_) (fun e13=>?_)
 · refine cen 0 h4 _ (by rw [v2,e13]; decide) (Hp.le_refl _) ?_
   rw [if_pos e13] at hk'
   have ha:decide ((r6.len:Int)>0)=decide (t∈c.pts):=decide_eq_decide.2 (by rw [←hat]; omega)
   rw [ha]
   refine za2 (fun h5=>hk' _ ?_) (fun h5=>hk' _ ?_)
   · rw [if_neg]
     intro hh
     by_cases g:t∈c.pts
     · rw [decide_eq_true g,decide_eq_true (hh.1 g)] at h5; cases h5
     · rw [decide_eq_false g,decide_eq_false (fun z=>g (hh.2 z))] at h5; cases h5
   · rw [if_pos]
     by_cases g:t∈c.pts
     · rw [decide_eq_true g] at h5
       exact ⟨fun _=>by simpa using h5,fun _=>g⟩
     · rw [decide_eq_false g] at h5
       exact ⟨fun z=>absurd z g,fun z=>by rw [decide_eq_true z] at h5; cases h5⟩
 rw [if_neg e13] at hk'
 refine za7 (fun e16=>?_) (fun e16=>?_)
 · refine cen 0 h4 _ (by rw [v2,e16]; decide) (Hp.le_refl _) ?_
   rw [if_pos e16] at hk'
   refine za0 (fun h5=>za7 (fun h6=>hk' _ ?_) (fun h6=>hk' _ ?_)) (fun h5=>hk' _ ?_)
   · rw [if_pos ⟨h5,fun hh=>absurd (hat.2 hh) (by omega)⟩]
   · rw [if_neg (fun hh=>hh.2 (hat.1 (by omega)))]
   · rw [if_neg (fun hh=>h5 hh.1)]
 rw [if_neg e16] at hk'
 refine za7 (fun e17=>?_) (fun e17=>?_)
 · refine cen 0 h4 _ (by rw [v2,e17]; decide) (Hp.le_refl _) (cen 1 h4 _ (by rw [v2,e17]; decide) (Hp.le_refl _) ?_)
   rw [if_pos e17] at hk'
   refine za2 (fun h5=>hk' _ ?_) (fun h5=>hk' _ ?_)
   · rw [if_neg]
     intro hh
     have e:decide (cAt cs c 0=t)=decide (cAt cs c 1=t):=decide_eq_decide.2 hh
     rw [e] at h5
     simp at h5
   · rw [if_pos]
     have h6:decide (cAt cs c 0=t)=decide (cAt cs c 1=t):=by simpa using h5
     exact decide_eq_decide.1 h6
 rw [if_neg e17] at hk'
 refine za7 (fun e0=>?_) (fun e0=>?_)
 · refine hk' _ ?_
   rw [if_pos (fun hh=>absurd (hat.2 hh) (by omega))]
 have hin:t∈c.pts:=hat.1 (by omega)
 rw [if_neg (fun hh=>hh hin)] at hk'
 have hne:posF c.pts t c.pts.length≠[]:=fun hh=>by rw [hh] at hr; simp at hr; omega
 obtain ⟨i0,hi0,hi1,hi2⟩:=zvi hne
 have hlen0:0<(posF c.pts t c.pts.length).length:=List.length_pos_iff.2 hne
 have hget0:(posF c.pts t c.pts.length)[0]=(i0:Int):=by rw [List.getElem?_eq_getElem hlen0] at hi0; exact Option.some.inj hi0
 refine ⟨_,k4 0 _ rfl,?_⟩
 rw [x1]
 have dk:∀(n:Int),(c.kind==n)=decide (c.kind=n):=fun n=>by
  by_cases hh:c.kind=n
  · rw [decide_eq_true hh,hh]; simp
  · rw [decide_eq_false hh,beq_eq_false_iff_ne]; exact hh
 refine za3 (fun s h'=>h'=h4∧s.1=decide (c.kind=1∨c.kind=9)) ?_ ?_
 · rintro ⟨b,_⟩ h4 ⟨rfl,hb⟩
   simp only at hb
   subst hb
   refine za0 (fun e=>?_) (fun e1=>?_)
   · rw [if_pos e] at hk'; exact hk' _ rfl
   rw [if_neg e1] at hk'
   refine za7 (fun e=>?_) (fun e2=>?_)
   · rw [if_pos e] at hk'; exact hk' _ rfl
   rw [if_neg e2] at hk'
   refine za3 (fun s h'=>h'=h4∧s.1=decide (c.kind=3∨c.kind=6∨c.kind=11∨c.kind=12)) ?_ ?_
   · rintro ⟨b,_⟩ h4 ⟨rfl,hb⟩
     simp only at hb
     subst hb
     refine za0 (fun e=>?_) (fun e3=>?_)
     · rw [if_pos e] at hk'; exact hk' _ rfl
     rw [if_neg e3] at hk'
     refine za7 (fun e=>?_) (fun e4=>?_)
     · rw [if_pos e] at hk'
       refine hr6.get 0 rfl hlen0 ?_
       rw [hget0]
       refine za7 (fun h5=>hk' _ ?_) (fun h5=>hk' _ ?_)
       · have:i0=0:=by omega
         subst this
         rw [if_pos hi1]
       · rw [if_neg (hi2 0 (by omega))]
     rw [if_neg e4] at hk'
     refine za7 (fun e=>?_) (fun e5=>?_)
     · rw [if_pos e] at hk'
       refine hr6.get 0 rfl hlen0 ?_
       rw [hget0]
       refine za0 (fun h5=>hk' _ ?_) (fun h5=>hk' _ ?_)
       · have h5:(i0:Int)<2:=h5
         rcases (by omega:i0=0∨i0=1) with rfl | rfl
         · rw [if_pos (.inl hi1)]
         · rw [if_pos (.inr hi1)]
       · have h5:¬(i0:Int)<2:=h5
         rw [if_neg]
         rintro (hh | hh)
         · exact hi2 0 (by omega) hh
         · exact hi2 1 (by omega) hh
     rw [if_neg e5] at hk'
     have hc2:((r6.len:Int)==2)=decide (cnt c.pts t=2):=by
      rw [hr,hpl]
      by_cases hh:cnt c.pts t=2
      · rw [decide_eq_true hh,hh]; rfl
      · rw [decide_eq_false hh,beq_eq_false_iff_ne]; omega
     rw [hc2]
     refine za3 (fun s h'=>h'=h4∧s.1=decide (c.kind=5∨c.kind=7)) ?_ ?_
     · rintro ⟨b,_⟩ h4 ⟨rfl,hb⟩
       simp only at hb
       subst hb
       refine za0 (fun e=>?_) (fun e6=>?_)
       · rw [if_pos e] at hk'
         exact za0 (fun h5=>hk' _ (by rw [if_pos h5])) (fun h5=>hk' _ (by rw [if_neg h5]))
       rw [if_neg e6] at hk'
       refine za7 (fun e=>?_) (fun e7=>?_)
       · rw [if_pos e] at hk'
         exact za0 (fun h5=>hk' _ (by rw [if_pos h5])) (fun h5=>hk' _ (by rw [if_neg h5]))
       rw [if_neg e7] at hk'
       exact hk' _ rfl
     · rw [dk 5,dk 7]
       refine za0 (fun e=>⟨rfl,?_⟩) (fun e=>⟨rfl,?_⟩)
       · rw [decide_eq_true e,decide_eq_true (Or.inl e)]
       · exact decide_eq_decide.2 (by omega)
   · rw [dk 3,dk 6,dk 11,dk 12]
     refine za0 (fun e=>⟨rfl,?_⟩) (fun e=>za0 (fun e2=>⟨rfl,?_⟩) (fun e2=>za0 (fun e3=>⟨rfl,?_⟩) (fun e3=>⟨rfl,?_⟩)))
     all_goals exact decide_eq_decide.2 (by omega)
 · rw [dk 1,dk 9]
   refine za0 (fun e=>⟨rfl,?_⟩) (fun e=>⟨rfl,?_⟩)
   all_goals exact decide_eq_decide.2 (by omega)
end
end Den
end

section
namespace Den
open Go Iv Lx
section
variable {h : Hp} {x : TConstraint} {c : PCon} {cs : List Int} {ce : Sl} {t k : Int} {Kb : Bool → Hp → Prop} {Ki : Int → Hp → Prop} {Ks : Sl → Hp → Prop}
theorem zwj (hv:lenC c) (hm:k∈c.cir):c.kind=13∨c.kind=14∨c.kind=15∨c.kind=16∨c.kind=17:=by
 obtain ⟨v1,v2,v3,v4,_⟩:=hv
 have h1:c.cir.length≠0:=fun hh=>by rw [List.eq_nil_of_length_eq_zero hh] at hm; cases hm
 apply Classical.byContradiction
 intro hn
 have:(shK c.kind).2.1=0:=by
  rcases (by omega:c.kind=1∨c.kind=2∨c.kind=3∨c.kind=4∨c.kind=5∨c.kind=6∨c.kind=7∨c.kind=8∨c.kind=9∨c.kind=10∨c.kind=11∨c.kind=12) with e | e | e | e | e | e | e | e | e | e | e | e<;>rw [e]<;>rfl
 omega
theorem zabw (hv:lenC c) (hm:k∈c.cir) (hk:c.kind=13∨c.kind=16):c.cir=[k]:=by
 obtain ⟨v1,v2,v3,v4,_⟩:=hv
 have:c.cir.length=1:=by rcases hk with e | e<;>rw [v2,e]<;>rfl
 obtain ⟨a,ha⟩:=List.length_eq_one_iff.1 this
 rw [ha] at hm ⊢
 rw [List.mem_singleton.1 hm]
theorem za2f (hx:CO h x c) (hc:IL h ce cs) (hs:sC c) (hok:cirOk c cs) (hv:lenC c) (H:∀b h',h.le h'→(b=true↔sizesP c cs k)→Kb b h'):callP (F.zla x ce k) Kb h:=by
 refine za1 (fun b h'=>b=true↔sizesP c cs k) (fun K' hk=>?_) fun b h' hl hb=>H b h' hl hb
 unfold F.zla
 have x1:=hx.1
 have x5:=hx.2.2.2.2
 refine ztc hx.2.2.1 (by have:=hs.2.1; omega) fun r h1 hl1 hr=>?_
 have no:∀h',h.le h'→¬sizesP c cs k→K' false h':=fun h' hl hn=>hk _ _ hl ⟨fun hh=>(by cases hh),fun hh=>absurd hh hn⟩
 refine za0 (fun h2=>no _ hl1 fun hh=>?_) (fun h2=>?_)
 · have:=hr.2 hh.1; omega
 have hm:=hr.1 (by omega)
 have hkd:=zwj hv hm
 have hkk:=hok _ hm
 have dk:∀(n:Int),(c.kind==n)=decide (c.kind=n):=fun n=>by
  by_cases hh:c.kind=n
  · rw [decide_eq_true hh,hh]; simp
  · rw [decide_eq_false hh,beq_eq_false_iff_ne]; exact hh
 rw [x1,x5]
 unfold sizesP at hk no
 refine za3 (fun s h'=>h'=h1∧s.1=decide (c.kind=14∨c.kind=15)) ?_ ?_
 · rintro ⟨b,_⟩ h1 ⟨rfl,hb⟩
   simp only at hb
   subst hb
   refine za0 (fun e=>hk _ _ hl1 ⟨fun _=>⟨hm,?_⟩,fun _=>rfl⟩) (fun e1=>?_)
   · rw [if_neg (by omega),if_neg (by omega)]; trivial
   refine za3 (fun s h'=>h'=h1∧s.1=decide (c.kind=13∨c.kind=16)) ?_ ?_
   · rintro ⟨b,_⟩ h1 ⟨rfl,hb⟩
     simp only at hb
     subst hb
     refine za0 (fun e=>?_) (fun e2=>?_)
     · rw [if_pos e] at hk no
       refine (hc.le hl1).get k.toNat (by omega) (by omega) ?_
       refine zfm (hx.2.1.le hl1) (by have:=hs.1; omega) fun h3 hl3=>hk _ _ (Hp.le_trans hl1 hl3) ?_
       rw [zck (show k.toNat<cs.length by omega)]
       by_cases g:cs[k.toNat]∈c.pts
       · rw [decide_eq_true g]
         exact ⟨fun hh=>(by cases hh),fun hh=>absurd g hh.2⟩
       · rw [decide_eq_false g]
         exact ⟨fun _=>⟨hm,g⟩,fun _=>rfl⟩
     · rw [if_neg e2] at hk no
       refine za7 (fun e17=>?_) (fun e17=>by omega)
       rw [if_pos e17] at hk no
       refine za7 (fun e5=>?_) (fun e5=>no _ hl1 fun hh=>e5 hh.2.1)
       refine zr5 (i:=0) (hx.le hl1) (hc.le hl1) hok (by rw [hv.2.1,e17]; decide) ?_
       refine zr5 (i:=1) (hx.le hl1) (hc.le hl1) hok (by rw [hv.2.1,e17]; decide) ?_
       refine hk _ _ hl1 ?_
       rw [bne_iff_ne]
       exact ⟨fun hh=>⟨hm,e5,hh⟩,fun hh=>hh.2.2⟩
   · rw [dk 13,dk 16]
     refine za0 (fun e=>⟨rfl,?_⟩) (fun e=>⟨rfl,?_⟩)
     all_goals exact decide_eq_decide.2 (by omega)
 · rw [dk 14,dk 15]
   refine za0 (fun e=>⟨rfl,?_⟩) (fun e=>⟨rfl,?_⟩)
   all_goals exact decide_eq_decide.2 (by omega)
theorem zfj {i:Nat} (hx:CO h x c) (hc:IL h ce cs) (hok:cirOk c cs) (hi:i<c.cir.length) (H:Ki (cAt cs c i) h):callP (F.zd1 x ce (i:Int)) Ki h:=by
 refine zae _ (fun K' hk=>?_) H
 unfold F.zd1
 exact zr5 hx hc hok hi hk
theorem ztw (hx:CO h x c) (hs:sC c) (H:∀h',h.le h'→Kb (decide (t∈c.pts)) h'):callP (F.zn9 x t) Kb h:=by
 refine za1 (fun b h'=>b=decide (t∈c.pts)) (fun K' hk=>?_) fun b h' hl hb=>by subst hb; exact H h' hl
 have key:=zg9 (l:=x.points) (n:=t) (Kb:=K') hx.2.1 (by have:=hs.1; omega) fun h' hl=>hk _ _ hl rfl
 obtain ⟨D,O,Q,h1,h2,h3,h4⟩:=key
 unfold F.zn9
 have hl:=hx.2.1.len
 have s1:=hs.1
 refine zbi (n:=c.pts.length) (by omega) (fun i h'=>h'=h∧t∉c.pts.take i) ⟨rfl,by simp⟩ ?_
 rintro i h hi ⟨rfl,hno⟩ k hk2
 refine za0 (fun h1=>?_) (fun h1=>?_)
 · have hi':i<c.pts.length:=by simp only at h1; omega
   refine hx.2.1.get i rfl hi' ?_
   refine za7 (fun h2=>hk _ _ (Hp.le_refl _) ?_) (fun h2=>hk2 _ hi' ⟨rfl,?_⟩)
   · rw [eq_comm,decide_eq_true_iff,←h2]; exact List.getElem_mem _
   · rw [←List.take_append_getElem hi',List.mem_append,List.mem_singleton]
     rintro (h3 | h3)
     · exact hno h3
     · exact h2 h3.symm
 · refine hk _ _ (Hp.le_refl _) ?_
   have:i=c.pts.length:=by simp only at h1; omega
   subst this
   rw [List.take_length] at hno
   rw [eq_comm,decide_eq_false_iff_not]; exact hno
theorem za0r (hx:CO h x c) (hc:IL h ce cs) (hs:sC c) (hok:cirOk c cs) (hv:lenC c) (H:∀b h',h.le h'→(b=true↔sizesP c cs k)→Kb b h'):callP (F.zli x ce k) Kb h:=by
 refine za1 (fun b h'=>b=true↔sizesP c cs k) (fun K' hk=>?_) fun b h' hl hb=>H b h' hl hb
 unfold F.zli
 have x1:=hx.1
 have x5:=hx.2.2.2.2
 have hl:=hx.2.2.1.len
 have s2:=hs.2.1
 have no:∀h',h.le h'→¬sizesP c cs k→K' false h':=fun h' hl hn=>hk _ _ hl ⟨fun hh=>(by cases hh),fun hh=>absurd hh hn⟩
 refine zc5 (n:=c.cir.length) (by omega) (fun i b h'=>h'=h∧(b=true↔k∈c.cir.take i)) ⟨rfl,by simp⟩ ?_
 rintro i b h hi ⟨rfl,hb⟩ kk hk2
 refine za0 (fun h1=>?_) (fun h1=>?_)
 · have hi':i<c.cir.length:=by simp only at h1; omega
   have e:k∈c.cir.take (i+1)↔k∈c.cir.take i∨c.cir[i]=k:=by
    rw [←List.take_append_getElem hi',List.mem_append,List.mem_singleton]
    exact or_congr_right eq_comm
   refine za3 (fun s h'=>h'=h∧(s.1=true↔k∈c.cir.take (i+1))) (fun s h' hs=>hk2 _ _ hi' hs) ?_
   refine za2 (fun h2=>⟨rfl,?_⟩) (fun h2=>?_)
   · rw [e]; exact ⟨fun _=>.inl (hb.1 h2),fun _=>rfl⟩
   · refine hx.2.2.1.get i rfl hi' ⟨rfl,?_⟩
     rw [e,beq_iff_eq]
     exact ⟨fun hh=>.inr hh,fun hh=>hh.resolve_left fun h3=>by simp only at h2; rw [hb.2 h3] at h2; cases h2⟩
 · have:i=c.cir.length:=by simp only at h1; omega
   subst this
   rw [List.take_length] at hb
   refine za2 (fun h2=>no _ (Hp.le_refl _) fun hh=>?_) (fun h2=>?_)
   · simp only at h2
     rw [hb.2 hh.1] at h2; cases h2
   have hm:k∈c.cir:=hb.1 (by simpa using h2)
   have hkd:=zwj hv hm
   have dk:∀(n:Int),(c.kind==n)=decide (c.kind=n):=fun n=>by
    by_cases hh:c.kind=n
    · rw [decide_eq_true hh,hh]; simp
    · rw [decide_eq_false hh,beq_eq_false_iff_ne]; exact hh
   rw [x1,x5]
   unfold sizesP at hk no
   refine za3 (fun s h'=>h'=h∧s.1=decide (c.kind=13∨c.kind=16)) ?_ ?_
   · rintro ⟨b,_⟩ h ⟨rfl,hb⟩
     simp only at hb
     subst hb
     refine za0 (fun e=>?_) (fun e2=>?_)
     · rw [if_pos e] at hk no
       have h1c:=zabw hv hm e
       have hcz:cAt cs c 0=cs.getD k.toNat 0:=by unfold cAt; rw [h1c]; rfl
       refine zfj (i:=0) hx hc hok (by rw [h1c]; simp) ?_
       rw [hcz]
       refine ztw hx hs fun h3 hl3=>hk _ _ hl3 ?_
       by_cases g:cs.getD k.toNat 0∈c.pts
       · rw [decide_eq_true g]
         exact ⟨fun hh=>(by cases hh),fun hh=>absurd g hh.2⟩
       · rw [decide_eq_false g]
         exact ⟨fun _=>⟨hm,g⟩,fun _=>rfl⟩
     · rw [if_neg e2] at hk no
       refine za7 (fun e17=>?_) (fun e17=>hk _ _ (Hp.le_refl _) ⟨fun _=>⟨hm,?_⟩,fun _=>rfl⟩)
       · rw [if_pos e17] at hk no
         refine za7 (fun e5=>?_) (fun e5=>no _ (Hp.le_refl _) fun hh=>e5 hh.2.1)
         refine zfj (i:=0) hx hc hok (by rw [hv.2.1,e17]; decide) ?_
         refine zfj (i:=1) hx hc hok (by rw [hv.2.1,e17]; decide) ?_
         refine hk _ _ (Hp.le_refl _) ?_
         rw [bne_iff_ne]
         exact ⟨fun hh=>⟨hm,e5,hh⟩,fun hh=>hh.2.2⟩
       · rw [if_neg e17]; trivial
   · rw [dk 13,dk 16]
     refine za0 (fun e=>⟨rfl,?_⟩) (fun e=>⟨rfl,?_⟩)
     all_goals exact decide_eq_decide.2 (by omega)
theorem zob {i:Nat} (hx:CO h x c) (hi:i+1<c.pts.length) (hs:sC c) (H:∀b,(b=true↔c.pts[i]?=some t∨c.pts[i+1]?=some t)→Kb b h):callP (F.zjs x (i:Int) t) Kb h:=by
 refine za1 (fun b h'=>h'=h∧(b=true↔c.pts[i]?=some t∨c.pts[i+1]?=some t)) (fun K' hk=>?_) fun b h' _ hb=>by obtain ⟨rfl,hb⟩:=hb; exact H b hb
 unfold F.zjs
 have s1:=hs.1
 rw [List.getElem?_eq_getElem (show i<c.pts.length by omega),List.getElem?_eq_getElem hi] at hk
 simp only [Option.some.injEq] at hk
 refine hx.2.1.get i rfl (by omega) ?_
 refine za7 (fun h1=>hk _ _ (Hp.le_refl _) ⟨rfl,fun _=>.inl h1,fun _=>rfl⟩) (fun h1=>?_)
 refine hx.2.1.get (i+1) (by rw [w64 (by omega)]; rfl) hi (hk _ _ (Hp.le_refl _) ⟨rfl,?_⟩)
 rw [beq_iff_eq]
 exact ⟨fun hh=>.inr hh,fun hh=>hh.resolve_left h1⟩
theorem zpe {a:Int} {l:List Int}:cnt (a :: l) t=(if a=t then 1 else 0)+cnt l t:=by
 unfold cnt
 rw [List.filter_cons]
 by_cases h:a=t
 · rw [if_pos (by simpa using h),if_pos h,List.length_cons]; omega
 · rw [if_neg (by simpa using h),if_neg h]; omega
theorem za0u {one both:Int} (hx:CO h x c) (hlen:c.pts.length=4) (hs:sC c) (hP:PairsP c.pts) (H:Ki (if cnt c.pts t=2 then both else if t∈c.pts then one else 0) h):callP (F.zg8 x t one both) Ki h:=by
 refine zae _ (fun K' hk=>?_) H
 unfold F.zg8
 match hp:c.pts,hlen with
 | [p0,p1,p2,p3],_=>
 rw [hp] at hP hk
 unfold PairsP at hP
 obtain ⟨n1,n2,_,_⟩:=hP
 refine zob (i:=0) hx (by rw [hp]; simp) hs fun b1 hb1=>zob (i:=2) hx (by rw [hp]; simp) hs fun b2 hb2=>?_
 rw [hp] at hb1 hb2
 simp only [List.getElem?_cons_zero,List.getElem?_cons_succ,Option.some.injEq] at hb1 hb2
 have hcnt:cnt [p0,p1,p2,p3] t=(if b1=true then 1 else 0)+(if b2=true then 1 else 0):=by
  have e1:(if b1=true then 1 else 0:Nat)=(if p0=t then 1 else 0)+(if p1=t then 1 else 0):=by
   by_cases g0:p0=t<;>by_cases g1:p1=t
   · exact absurd (g0.trans g1.symm) n1
   · rw [if_pos (hb1.2 (.inl g0)),if_pos g0,if_neg g1]
   · rw [if_pos (hb1.2 (.inr g1)),if_neg g0,if_pos g1]
   · rw [if_neg (fun hh=>(hb1.1 hh).elim g0 g1),if_neg g0,if_neg g1]
  have e2:(if b2=true then 1 else 0:Nat)=(if p2=t then 1 else 0)+(if p3=t then 1 else 0):=by
   by_cases g0:p2=t<;>by_cases g1:p3=t
   · exact absurd (g0.trans g1.symm) n2
   · rw [if_pos (hb2.2 (.inl g0)),if_pos g0,if_neg g1]
   · rw [if_pos (hb2.2 (.inr g1)),if_neg g0,if_pos g1]
   · rw [if_neg (fun hh=>(hb2.1 hh).elim g0 g1),if_neg g0,if_neg g1]
  rw [e1,e2]
  rw [zpe,zpe,zpe,zpe]
  simp only [cnt,List.filter_nil,List.length_nil]
  omega
 have hmem:t∈[p0,p1,p2,p3]↔b1=true∨b2=true:=by
  rw [hb1,hb2]
  simp only [List.mem_cons,List.not_mem_nil,or_false]
  constructor
  · rintro (g | g | g | g)
    · exact .inl (.inl g.symm)
    · exact .inl (.inr g.symm)
    · exact .inr (.inl g.symm)
    · exact .inr (.inr g.symm)
  · rintro ((g | g) | (g | g))
    · exact .inl g.symm
    · exact .inr (.inl g.symm)
    · exact .inr (.inr (.inl g.symm))
    · exact .inr (.inr (.inr g.symm))
 rw [hcnt] at hk
 refine za3 (fun _ h'=>h'=h∧¬(b1=true∧b2=true)) ?_ ?_
 · rintro _ h ⟨rfl,hn⟩
   cases b1 with
   | true=>
     cases b2 with
     | true=>exact absurd ⟨rfl,rfl⟩ hn
     | false=>
       refine zbt rfl ?_
       rw [if_pos (hmem.2 (.inl rfl))] at hk
       simpa using hk
   | false=>
     cases b2 with
     | true=>
       refine zah rfl (zbt rfl ?_)
       rw [if_pos (hmem.2 (.inr rfl))] at hk
       simpa using hk
     | false=>
       refine zah rfl (zah rfl ?_)
       rw [if_neg (c:=t∈_) (fun hh=>by simpa using hmem.1 hh)] at hk
       simpa using hk
 · refine za2 (fun h1=>za2 (fun h2=>?_) (fun h2=>⟨rfl,fun hh=>by rw [hh.2] at h2; cases h2⟩)) (fun h1=>⟨rfl,fun hh=>by rw [hh.1] at h1; cases h1⟩)
   rw [h1,h2] at hk
   simpa using hk
def frm:Int→Int:=fun k=>if k=3 then 1 else if k=1 then 3 else if k=2 then 2 else 0
theorem za3e (hx:CO h x c) (hc:IL h ce cs) (hs:sC c) (hok:cirOk c cs) (hv:lenC c) (H:∀h',h.le h'→Ki (frm (kindP c cs t)) h'):callP (F.zmk x ce t) Ki h:=by
 refine za1 (fun r h'=>r=frm (kindP c cs t)) (fun K' hk=>?_) fun b h' hl hb=>by subst hb; exact H h' hl
 unfold F.zmk
 obtain ⟨v1,v2,v3,v4,v5,v6⟩:=hv
 have x1:=hx.1
 have s1:=hs.1
 refine ztw hx hs fun h1 hl1=>?_
 have dk:∀(n:Int),(c.kind==n)=decide (c.kind=n):=fun n=>by
  by_cases hh:c.kind=n
  · rw [decide_eq_true hh,hh]; simp
  · rw [decide_eq_false hh,beq_eq_false_iff_ne]; exact hh
 rw [x1]
 have hx1:=hx.le hl1
 have hc1:=hc.le hl1
 have hk':∀r,r=frm (kindP c cs t)→K' r h1:=fun r hr=>hk _ _ hl1 hr
 have no13:∀n:Int,n≠13→n≠16→n≠17→c.kind=n→kindP c cs t=(if t∉c.pts then 0
 else if c.kind=1∨c.kind=9 then 3
 else if c.kind=2 then 2
 else if c.kind=3∨c.kind=6∨c.kind=11∨c.kind=12 then 1
 else if c.kind=4 then (if c.pts[0]?=some t then 1 else 0)
 else if c.kind=10 then (if c.pts[0]?=some t∨c.pts[1]?=some t then 3 else 0)
 else if c.kind=5∨c.kind=7 then (if cnt c.pts t=2 then 2 else 1)
 else if c.kind=8 then (if cnt c.pts t=2 then 1 else 2)
 else 0):=fun n h1 h2 h3 hn=>by
  unfold kindP
  rw [if_neg (by omega),if_neg (by omega),if_neg (by omega)]
 have simple:∀v w:Int,(t∈c.pts→kindP c cs t=w)→(t∉c.pts→kindP c cs t=0)→frm w=v→ifP (decide (t∈c.pts)) (K' v h1) (K' 0 h1):=fun v w g1 g2 g3=>
  za0 (fun hm=>hk' _ (by rw [g1 hm,g3])) (fun hm=>hk' _ (by rw [g2 hm]; rfl))
 have cnt0:∀l:List Int,t∉l→cnt l t=0:=fun l hl=>Classical.byContradiction fun hh=>hl (za1h.1 hh)
 refine za3 (fun s h'=>h'=h1∧s.1=decide (c.kind=1∨c.kind=9)) ?_ ?_
 · rintro ⟨b,_⟩ h1 ⟨rfl,hb⟩
   simp only at hb
   subst hb
   refine za0 (fun e=>?_) (fun e1=>?_)
   · refine simple 1 3 (fun hm=>?_) (fun hm=>?_) rfl
     · rw [no13 c.kind (by omega) (by omega) (by omega) rfl,if_neg (fun hh=>hh hm),if_pos e]
     · rw [no13 c.kind (by omega) (by omega) (by omega) rfl,if_pos hm]
   refine za7 (fun e=>?_) (fun e2=>?_)
   · refine simple 2 2 (fun hm=>?_) (fun hm=>?_) rfl
     · rw [no13 c.kind (by omega) (by omega) (by omega) rfl,if_neg (fun hh=>hh hm),if_neg e1,if_pos e]
     · rw [no13 c.kind (by omega) (by omega) (by omega) rfl,if_pos hm]
   refine za3 (fun s h'=>h'=h1∧s.1=decide (c.kind=3∨c.kind=11∨c.kind=12)) ?_ ?_
   · rintro ⟨b,_⟩ h1 ⟨rfl,hb⟩
     simp only at hb
     subst hb
     refine za0 (fun e=>?_) (fun e3=>?_)
     · refine simple 3 1 (fun hm=>?_) (fun hm=>?_) rfl
       · rw [no13 c.kind (by omega) (by omega) (by omega) rfl,if_neg (fun hh=>hh hm),if_neg e1,if_neg e2,if_pos (by omega)]
       · rw [no13 c.kind (by omega) (by omega) (by omega) rfl,if_pos hm]
     refine za7 (fun e=>?_) (fun e4=>?_)
     · have hl3:c.pts.length=3:=by rw [v1,e]; decide
       have kk:kindP c cs t=if c.pts[0]?=some t then 1 else 0:=by
        rw [no13 c.kind (by omega) (by omega) (by omega) rfl]
        by_cases hm:t∈c.pts
        · rw [if_neg (fun hh=>hh hm),if_neg e1,if_neg e2,if_neg (by omega),if_pos e]
        · rw [if_pos hm,if_neg]
          intro hh
          exact hm (List.mem_of_getElem? hh)
       have h0:0<c.pts.length:=by omega
       refine hx1.2.1.get 0 rfl h0 ?_
       rw [List.getElem?_eq_getElem h0] at kk
       refine za7 (fun h5=>hk' _ ?_) (fun h5=>hk' _ ?_)
       · rw [kk,if_pos (by rw [h5])]; rfl
       · rw [kk,if_neg (fun hh=>h5 (Option.some.inj hh))]; rfl
     have pr:∀(n:Int) (one both:Int),(n=5∨n=6∨n=7∨n=8)→c.kind=n→(frm (kindP c cs t)=if cnt c.pts t=2 then both else if t∈c.pts then one else 0)→callP (F.zg8 x t one both) K' h1:=fun n one both hn e hf=>by
      have h4:fourK c.kind:=by unfold fourK; omega
      refine za0u hx1 ?_ hs (v5 h4) (hk' _ hf.symm)
      unfold fourK at h4
      rw [v1]
      rcases h4 with e | e | e | e<;>rw [e]<;>rfl
     refine za3 (fun s h'=>h'=h1∧s.1=decide (c.kind=5∨c.kind=7)) ?_ ?_
     · rintro ⟨b,_⟩ h1 ⟨rfl,hb⟩
       simp only at hb
       subst hb
       refine za0 (fun e=>?_) (fun e5=>?_)
       · refine pr c.kind 3 2 (by omega) rfl ?_
         rw [no13 c.kind (by omega) (by omega) (by omega) rfl]
         by_cases hm:t∈c.pts
         · rw [if_neg (fun hh=>hh hm),if_neg e1,if_neg e2,if_neg (by omega),if_neg (by omega),if_neg (by omega),if_pos e,if_pos hm]
           split<;>rfl
         · rw [if_pos hm,cnt0 _ hm,if_neg (by decide),if_neg hm]; rfl
       refine za7 (fun e=>?_) (fun e6=>?_)
       · refine pr 6 3 3 (by omega) e ?_
         rw [no13 c.kind (by omega) (by omega) (by omega) rfl]
         by_cases hm:t∈c.pts
         · rw [if_neg (fun hh=>hh hm),if_neg e1,if_neg e2,if_pos (by omega),if_pos hm]
           split<;>rfl
         · rw [if_pos hm,cnt0 _ hm,if_neg (by decide),if_neg hm]; rfl
       refine za7 (fun e=>?_) (fun e8=>?_)
       · refine pr 8 2 3 (by omega) e ?_
         rw [no13 c.kind (by omega) (by omega) (by omega) rfl]
         by_cases hm:t∈c.pts
         · rw [if_neg (fun hh=>hh hm),if_neg e1,if_neg e2,if_neg (by omega),if_neg (by omega),if_neg (by omega),if_neg (by omega),if_pos e,if_pos hm]
           split<;>rfl
         · rw [if_pos hm,cnt0 _ hm,if_neg (by decide),if_neg hm]; rfl
       refine za7 (fun e=>?_) (fun e10=>?_)
       · have hl4:c.pts.length=4:=by rw [v1,e]; decide
         refine zob (i:=0) hx1 (by omega) hs fun b hb=>?_
         have kk:kindP c cs t=if c.pts[0]?=some t∨c.pts[1]?=some t then 3 else 0:=by
          rw [no13 c.kind (by omega) (by omega) (by omega) rfl]
          by_cases hm:t∈c.pts
          · rw [if_neg (fun hh=>hh hm),if_neg e1,if_neg e2,if_neg (by omega),if_neg (by omega),if_pos e]
          · rw [if_pos hm,if_neg]
            rintro (hh | hh)
            · exact hm (List.mem_of_getElem? hh)
            · exact hm (List.mem_of_getElem? hh)
         refine za2 (fun h5=>hk' _ ?_) (fun h5=>hk' _ ?_)
         · rw [kk,if_pos (hb.1 h5)]; rfl
         · rw [kk,if_neg (fun hh=>by rw [hb.2 hh] at h5; cases h5)]; rfl
       have db:∀i,(cAt cs c i==t)=decide (cAt cs c i=t):=fun i=>by
        by_cases hh:cAt cs c i=t
        · rw [decide_eq_true hh,hh]; simp
        · rw [decide_eq_false hh,beq_eq_false_iff_ne]; exact hh
       refine za7 (fun e=>?_) (fun e13=>?_)
       · refine zfj (i:=0) hx1 hc1 hok (by rw [v2,e]; decide) ?_
         rw [db 0]
         unfold kindP at hk'
         rw [if_pos e] at hk'
         refine za2 (fun h5=>hk' _ ?_) (fun h5=>hk' _ ?_)
         · rw [if_neg]
           · rfl
           · intro hh
             have e:decide (t∈c.pts)=decide (cAt cs c 0=t):=decide_eq_decide.2 hh
             rw [e] at h5
             simp at h5
         · rw [if_pos]
           · rfl
           · have h6:decide (t∈c.pts)=decide (cAt cs c 0=t):=by simpa using h5
             exact decide_eq_decide.1 h6
       refine za7 (fun e=>?_) (fun e16=>?_)
       · unfold kindP at hk'
         rw [if_neg e13,if_pos e] at hk'
         refine za2 (fun h5=>?_) (fun h5=>hk' _ ?_)
         · have hm:t∉c.pts:=by simpa using h5
           refine zfj (i:=0) hx1 hc1 hok (by rw [v2,e]; decide) ?_
           refine za7 (fun h6=>hk' _ ?_) (fun h6=>hk' _ ?_)
           · rw [if_pos ⟨h6,hm⟩]; rfl
           · rw [if_neg (fun hh=>h6 hh.1)]; rfl
         · have hm:t∈c.pts:=by simpa using h5
           rw [if_neg (fun hh=>hh.2 hm)]; rfl
       refine za7 (fun e=>?_) (fun e17=>?_)
       · unfold kindP at hk'
         rw [if_neg e13,if_neg e16,if_pos e] at hk'
         refine zfj (i:=0) hx1 hc1 hok (by rw [v2,e]; decide) ?_
         refine zfj (i:=1) hx1 hc1 hok (by rw [v2,e]; decide) ?_
         rw [db 0,db 1]
         refine za2 (fun h5=>hk' _ ?_) (fun h5=>hk' _ ?_)
         · rw [if_neg]
           · rfl
           · intro hh
             have e:decide (cAt cs c 0=t)=decide (cAt cs c 1=t):=decide_eq_decide.2 hh
             rw [e] at h5
             simp at h5
         · rw [if_pos]
           · rfl
           · have h6:decide (cAt cs c 0=t)=decide (cAt cs c 1=t):=by simpa using h5
             exact decide_eq_decide.1 h6
       · refine hk' _ ?_
         have e14:c.kind=14∨c.kind=15:=by omega
         have hp0:c.pts=[]:=List.eq_nil_of_length_eq_zero (by rw [v1]; rcases e14 with e | e<;>rw [e]<;>rfl)
         rw [no13 c.kind (by omega) (by omega) (by omega) rfl,if_pos (by rw [hp0]; simp)]
         rfl
     · rw [dk 5,dk 7]
       refine za0 (fun e=>⟨rfl,?_⟩) (fun e=>⟨rfl,?_⟩)
       all_goals exact decide_eq_decide.2 (by omega)
   · rw [dk 3,dk 11,dk 12]
     refine za0 (fun e=>⟨rfl,?_⟩) (fun e=>za0 (fun e2=>⟨rfl,?_⟩) (fun e2=>⟨rfl,?_⟩))
     all_goals exact decide_eq_decide.2 (by omega)
 · rw [dk 1,dk 9]
   refine za0 (fun e=>⟨rfl,?_⟩) (fun e=>⟨rfl,?_⟩)
   all_goals exact decide_eq_decide.2 (by omega)
def R03 (r:Int):Prop:=r=0∨r=1∨r=2∨r=3
theorem ite_R {p:Prop} [Decidable p] {a b:Int} (ha:R03 a) (hb:R03 b):R03 (if p then a else b):=by split<;>assumption
theorem za2z:R03 (kindP c cs t):=by
 have h0:R03 0:=.inl rfl
 have h1:R03 1:=.inr (.inl rfl)
 have h2:R03 2:=.inr (.inr (.inl rfl))
 have h3:R03 3:=.inr (.inr (.inr rfl))
 unfold kindP
 exact ite_R (ite_R h0 h2) (ite_R (ite_R h1 h0) (ite_R (ite_R h0 h2) (ite_R h0 (ite_R h3 (ite_R h2 (ite_R h1 (ite_R (ite_R h1 h0) (ite_R (ite_R h3 h0) (ite_R (ite_R h2 h1) (ite_R (ite_R h1 h2) h0))))))))))
theorem zpp (hx:CO h x c) (hc:IL h ce cs) (hs:sC c) (hok:cirOk c cs) (hv:lenC c) (H:∀h',h.le h'→Ki (kindP c cs t) h'):callP (F.zis x ce t) Ki h:=by
 refine za1 (fun r h'=>r=kindP c cs t) (fun K' hk=>?_) fun b h' hl hb=>by subst hb; exact H h' hl
 unfold F.zis
 refine ziz fun p1 h1 hl1 c1=>?_
 have hr:IL h1 ⟨some p1,4,4⟩ [0,3,2,1]:=⟨zex (cells:=[ic 0,ic 3,ic 2,ic 1]) c1 rfl,Nat.le_refl _⟩
 refine za3e (hx.le hl1) (hc.le hl1) hs hok hv fun h2 hl2=>?_
 have hle:=Hp.le_trans hl1 hl2
 rcases za2z (c:=c) (cs:=cs) (t:=t) with e | e | e | e<;>rw [e] at hk ⊢
 · exact (hr.le hl2).get 0 rfl (by decide) (hk _ _ hle rfl)
 · exact (hr.le hl2).get 3 rfl (by decide) (hk _ _ hle rfl)
 · exact (hr.le hl2).get 2 rfl (by decide) (hk _ _ hle rfl)
 · exact (hr.le hl2).get 1 rfl (by decide) (hk _ _ hle rfl)
end
end Den
end

section
namespace Den
open Go Iv Lx
def its (S:PSk):List (List Int):=(allC S).map fun c=>itemsC c (cens S)
theorem zdq {S:PSk}:(its S).length=(allC S).length:=by simp [its]
theorem zxl (k:Int):eqK k≤2:=by
 unfold eqK shK
 split
 · have:∀i:Nat,(tabK.getD i (0,0,0,0,false)).2.2.2.1≤2:=by
    intro i
    rcases Nat.lt_or_ge i 17 with h | h
    · have:∀i:Fin 17,(tabK.getD i (0,0,0,0,false)).2.2.2.1≤2:=by decide
      exact this ⟨i,h⟩
    · rw [List.getD_eq_getElem?_getD,List.getElem?_eq_none (by exact h)]; decide
   exact this _
 · decide
theorem zzn {L:List PCon} {l:List Int} {i:Int}:wtL L (l++[i])=wtL L l+eqK (L.getD i.toNat dC).kind:=by simp [wtL]
theorem zzm {L:List PCon}:∀l:List Int,wtL L l≤2*l.length
 | []=>by simp [wtL]
 | a :: r=>by
   have h1:=zzm (L:=L) r
   have h2:=zxl (L.getD a.toNat dC).kind
   unfold wtL at h1 ⊢
   simp only [List.map_cons,List.sum_cons,List.length_cons]
   omega
theorem zp1 {its:List (List Int)} {item:Int} {R:List Int}:(remL its item R).length≤its.length:=zps _ _ _ _
theorem zkw {its:List (List Int)} {item:Int} {R:List Int} {j:Int} (h:j∈remL its item R):∃k:Nat,k<its.length∧j=k∧keepP (its.getD k []) item R:=zyo.1 h
section
variable {h : Hp} {s : TSketch} {S : PSk} {p : Addr} {item : Int} {R : List Int} {rs : Sl} {Kb : Bool → Hp → Prop} {Ki : Int → Hp → Prop} {Ks : Sl → Hp → Prop}
theorem za16 {n m:Nat} {D:Hp} {K:Sl→Hp→Prop} (hn:n≤1000) (hm:m≤1000) (H:∀y h',OI D h' y (allI n m)→K y h') {y:Sl} {h1:Hp} (ho:OI D h1 y ((List.range n).map fun i:Nat=>(i:Int))) :
 (loopP (S:=Sl×Int×Unit) (fun s8 k9 h3=>
 (ifP (decide (s8.2.1<(m:Int)))
 (appP 1 8 [.int .i64 0] s8.1 1 [.int .i64 (IntKind.i64.wrap ((-1)-s8.2.1))] (fun w10 h4=>
 (k9 (w10,(IntKind.i64.wrap (s8.2.1+1)),()) h4)) h3)
 (K s8.1 h3)))
 (y,0,()) h1):=by
  refine zc5 (n:=m) (by omega) (fun i y h'=>OI D h' y ((List.range n).map (fun i:Nat=>(i:Int))++(List.range i).map fun i:Nat=>-1-(i:Int))) (by simpa using ho) ?_
  intro i z h2 hi ho2 k hk2
  refine za0 (fun h3=>?_) (fun h3=>?_)
  · have hi':i<m:=by simp only at h3; omega
    simp only
    rw [show IntKind.i64.wrap (-1-(i:Int))=-1-(i:Int) from w64 (by omega)]
    refine ho2.app (by simp; omega) fun w h4 ho4=>hk2 _ _ hi' ?_
    rw [List.range_succ,List.map_append,←List.append_assoc]
    exact ho4
  · have:i=m:=by simp only at h3; omega
    subst this
    exact H _ _ ho2
theorem zabd {n:Nat} {D:Hp} {K:Sl→Hp→Prop} (hn:n≤1000) (H:∀y h',OI D h' y ((List.range n).map fun i:Nat=>(i:Int))→K y h') :
 (loopP (S:=Sl×Int×Unit) (fun s3 k4 h1=>
 (ifP (decide (s3.2.1<(n:Int)))
 (appP 1 8 [.int .i64 0] s3.1 1 [.int .i64 s3.2.1] (fun w5 h2=>
 (k4 (w5,(IntKind.i64.wrap (s3.2.1+1)),()) h2)) h1)
 (K s3.1 h1)))
 (nilS,0,()) D):=by
  refine zc5 (n:=n) (by omega) (fun i y h'=>OI D h' y ((List.range i).map fun i:Nat=>(i:Int))) OI.nil ?_
  intro i z h2 hi ho2 k hk2
  refine za0 (fun h3=>?_) (fun h3=>?_)
  · have hi':i<n:=by simp only at h3; omega
    refine ho2.app (by simp; omega) fun w h4 ho4=>hk2 _ _ hi' ?_
    rw [List.range_succ,List.map_append]
    exact ho4
  · have:i=n:=by simp only at h3; omega
    subst this
    exact H _ _ ho2
theorem zj0 (hx:SK h s S) (hs:sSk S) (H:∀y h',h.le h'→OI h h' y (allI S.pts.length S.cir.length)→Ks y h'):callP (F.zgk s) Ks h:=by
 refine za1 (fun y h'=>OI h h' y (allI S.pts.length S.cir.length)) (fun K' hk=>?_) fun b h' hl hb=>H b h' hl hb
 unfold F.zgk
 rw [hx.1.len zco,hx.2.1.len zdk]
 have:=hs.1
 have:=hs.2.1
 exact zabd (n:=S.pts.length) (by omega) fun y h' ho=>za16 (n:=S.pts.length) (m:=S.cir.length) (by omega) (by omega) (fun z h2 ho2=>hk _ _ ho2.dle ho2) ho
theorem zqn (hp:PR h p S) (hs:sSk S) (H:∀y h',h.le h'→OI h h' y (allI S.pts.length S.cir.length)→Ks y h'):callP (F.y_henneberg_peeler_all (some p)) Ks h:=by
 refine za1 (fun y h'=>OI h h' y (allI S.pts.length S.cir.length)) (fun K' hk=>?_) fun b h' hl hb=>H b h' hl hb
 unfold F.y_henneberg_peeler_all
 obtain ⟨s,lS,itS,ceS,hx,hc,_⟩:=hp
 have l1:=hx.1.len zco
 have l2:=hx.2.1.len zdk
 have:=hs.1
 have:=hs.2.1
 simp only [zce,Nat.zero_add]
 refine ⟨_,hc 0 _ rfl,?_⟩
 simp only
 rw [l1]
 refine zc5 (n:=S.pts.length) (by omega) (fun i y h'=>OI h h' y ((List.range i).map fun i:Nat=>(i:Int))) OI.nil ?_
 intro i y h2 hi ho k hk2
 refine za0 (fun h3=>?_) (fun h3=>?_)
 · have hi':i<S.pts.length:=by simp only at h3; omega
   refine ho.app (by simp; omega) fun w h4 ho4=>hk2 _ _ hi' ?_
   rw [List.range_succ,List.map_append]
   exact ho4
 have:i=S.pts.length:=by simp only at h3; omega
 subst this
 refine ⟨_,Hp.cell_le ho.dle (hc 1 _ rfl),?_⟩
 simp only
 rw [l2]
 exact za16 (n:=S.pts.length) (m:=S.cir.length) (by omega) (by omega) (fun z h2 ho2=>hk _ _ ho2.dle ho2) ho
theorem zro (hp:PR h p S) (hs:sSk S) (hi:-9223372036854775808≤item∧item≤9223372036854775807) (H:∀b,(b=true↔item∈allI S.pts.length S.cir.length)→Kb b h):callP (F.y_henneberg_peeler_exists (some p) item) Kb h:=by
 refine za1 (fun b h'=>h'=h∧(b=true↔item∈allI S.pts.length S.cir.length)) (fun K' hk=>?_) fun b h' _ hb=>by obtain ⟨rfl,hb⟩:=hb; exact H b hb
 unfold F.y_henneberg_peeler_exists
 obtain ⟨s,lS,itS,ceS,hx,hc,_⟩:=hp
 have l1:=hx.1.len zco
 have l2:=hx.2.1.len zdk
 have fin:∀b,(b=true↔(0≤item∧item<S.pts.length)∨(item<0∧-1-item<S.cir.length))→K' b h:=fun b hb=>hk _ _ (Hp.le_refl _) ⟨rfl,by rw [zsc]; exact hb⟩
 simp only [zce,Nat.zero_add]
 have e1:IntKind.i64.wrap (-1-item)=-1-item:=w64 (by omega)
 refine za0 (fun h1=>?_) (fun h1=>za0 (fun h2=>?_) (fun h2=>?_))
 · refine ⟨_,hc 0 _ rfl,?_⟩
   simp only
   rw [l1]
   refine za0 (fun h2=>fin _ ⟨fun _=>.inl ⟨h1,h2⟩,fun _=>rfl⟩) (fun h2=>za0 (fun h3=>by omega) (fun h3=>fin _ ⟨fun hh=>(by cases hh),fun hh=>by omega⟩))
 · refine ⟨_,hc 1 _ rfl,fin _ ?_⟩
   rw [l2,e1,decide_eq_true_iff]
   omega
 · exact fin _ ⟨fun hh=>(by cases hh),fun hh=>by omega⟩
theorem zkx (hp:PR h p S) (hs:sSk S) (hv:VS S) (hr:IL h rs R) (hR:R.length≤100000) (H:∀y h',h.le h'→OI h h' y (remL (its S) item R)→Ks y h'):callP (F.y_henneberg_peeler_remaining (some p) item rs) Ks h:=by
 refine za1 (fun y h'=>OI h h' y (remL (its S) item R)) (fun K' hk=>?_) fun b h' hl hb=>H b h' hl hb
 unfold F.y_henneberg_peeler_remaining
 obtain ⟨s,lS,itS,ceS,hx,hc,hL,hI,hC⟩:=hp
 have hal:=zhw hs
 have hok:=zhb hv hs
 have hIl:=hI.len zko
 rw [List.length_map] at hIl
 refine ze0 fun p1 h1 hl1 c1=>?_
 refine ⟨_,Hp.cell_le hl1 (hc 7 _ rfl),?_⟩
 refine zc5 (n:=(allC S).length) (by omega) (fun i y h'=>OI h1 h' y (remN (its S) item R i)) OI.nil ?_
 intro i y h2 hi ho k hk2
 have hle:=Hp.le_trans hl1 ho.dle
 refine za0 (fun h3=>?_) (fun h3=>?_)
 · have hi':i<(allC S).length:=by simp only at h3; omega
   refine za3 (fun s h'=>OI h1 h' s.1 (remN (its S) item R (i+1))) (fun s h' hs=>hk2 _ _ hi' hs) ?_
   refine (hI.le zko hle).get zko i rfl (by simpa using hi') fun a x hxx hcx=>?_
   have e0:=hcx 0 _ rfl
   rw [zb3] at e0
   refine ⟨_,e0,?_⟩
   rw [List.getElem_map] at hxx
   have hlen:=zte (cs:=cens S) (hok _ (List.getElem_mem hi')).2
   have hxx:IL h2 x (itemsC (allC S)[i] (cens S)):=hxx
   have hg:(its S).getD i []=itemsC (allC S)[i] (cens S):=by
    rw [zck (by rw [zdq]; exact hi')]
    simp [its]
   have hstep:remN (its S) item R (i+1)=remN (its S) item R i++(if keepP (itemsC (allC S)[i] (cens S)) item R then [(i:Int)] else []):=by
    conv=>lhs; unfold remN
    rw [hg]
   have hrl:=zps (its S) item R i
   refine zfm hxx (by omega) fun h4 hl4=>?_
   have ho4:=ho.le hl4
   refine za0 (fun h5=>?_) (fun h5=>?_)
   · refine za1 (fun b h'=>b=true↔∃x∈itemsC (allC S)[i] (cens S),x∈R) (fun K2 hk3=>?_) fun b h6 hl6 hb=>?_
     · unfold F.zbe
       refine za1 (fun r h'=>Fnd (fun x=>x∈R) (itemsC (allC S)[i] (cens S)) r) (fun K4 hk4=>?_) fun r h' hl hr=>hk3 _ _ hl (by rw [decide_eq_true_iff]; exact hr.iff)
       unfold F.zbk
       refine zov (hxx.le hl4) (by omega) (fun x _ h7 hl7 K5 hK5=>?_) fun r h' hl hr=>hk4 _ _ hl hr
       refine za1 (fun b h'=>b=decide (x∈R)) (fun K6 hk6=>?_) fun b h8 hl8 hb=>hK5 _ _ hl8 (by rw [hb,decide_eq_true_iff])
       unfold F.y_henneberg_peeler_remaining_1
       have l7:=Hp.le_trans ho4.dle hl7
       refine ⟨_,Hp.cell_le l7 c1,?_⟩
       exact zfm (hr.le (Hp.le_trans hl1 l7)) (by omega) fun h8 hl8=>hk6 _ _ hl8 rfl
     · have ho6:=ho4.le hl6
       refine za2 (fun h7=>?_) (fun h7=>?_)
       · have hkp:keepP (itemsC (allC S)[i] (cens S)) item R:=⟨h5,fun x hx hxR=>by rw [hb.2 ⟨x,hx,hxR⟩] at h7; cases h7⟩
         refine ho6.app (by omega) fun z h8 ho8=>?_
         show OI _ _ _ _
         rw [hstep,if_pos hkp]; exact ho8
       · have hkp:¬keepP (itemsC (allC S)[i] (cens S)) item R:=fun hh=>by
          obtain ⟨x,hx,hxR⟩:=hb.1 (by simpa using h7)
          exact hh.2 x hx hxR
         show OI _ _ _ _
         rw [hstep,if_neg hkp,List.append_nil]; exact ho6
   · show OI _ _ _ _
     rw [hstep,if_neg (fun hh=>h5 hh.1),List.append_nil]; exact ho4
 · have:i=(allC S).length:=by simp only at h3; omega
   subst this
   refine hk _ _ hle ?_
   have ho:=ho.base hl1
   unfold remL
   rw [zdq]; exact ho
theorem zkn {k:Nat} (hp:PR h p S) (hs:sSk S) (hv:VS S) (ht:GT h) (hk:k<(allC S).length) (H:Ki ((eqK ((allC S).getD k dC).kind:Nat):Int) h):callP (F.y_henneberg_peeler_equations (some p) (k:Int)) Ki h:=by
 refine zae _ (fun K' hkk=>?_) H
 unfold F.y_henneberg_peeler_equations
 obtain ⟨s,lS,itS,ceS,hx,hc,hL,hI,hC⟩:=hp
 refine ⟨_,hc 6 _ rfl,?_⟩
 refine hL.get zac k rfl hk fun a x hxx hcx=>⟨_,hcx 0 _ rfl,?_⟩
 rw [hxx.1]
 have:=(zhb hv hs _ (List.getElem_mem hk)).1.1
 rw [zck hk] at hkk
 exact zq6 ht.2.2 (fun _ _ ln ps=>hkk) (fun hn=>absurd this hn)
theorem zoi {l:Sl} {xs:List Int} (hp:PR h p S) (hs:sSk S) (hv:VS S) (ht:GT h) (hl:IL h l xs) (hlen:xs.length≤100000) (hin:∀i∈xs,∃k:Nat,k<(allC S).length∧i=k) (H:∀h',h.le h'→Ki ((wtL (allC S) xs:Nat):Int) h'):callP (F.y_henneberg_peeler_weight (some p) l) Ki h:=by
 refine za1 (fun b h'=>b=((wtL (allC S) xs:Nat):Int)) (fun K' hk=>?_) fun b h' hl hb=>by subst hb; exact H h' hl
 unfold F.y_henneberg_peeler_weight
 have hll:=hl.len
 refine zc5 (n:=xs.length) (by omega) (fun i a h'=>h.le h'∧a=((wtL (allC S) (xs.take i):Nat):Int)) ⟨Hp.le_refl _,by simp [wtL]⟩ ?_
 rintro i a h2 hi ⟨hl2,ha⟩ k hk2
 refine za0 (fun h3=>?_) (fun h3=>?_)
 · have hi':i<xs.length:=by simp only at h3; omega
   refine (hl.le hl2).get i rfl hi' ?_
   obtain ⟨q,hq1,hq2⟩:=hin _ (List.getElem_mem hi')
   rw [hq2]
   have hw:=zzm (L:=allC S) (xs.take i)
   rw [List.length_take] at hw
   have hw2:=zxl ((allC S).getD q dC).kind
   refine zkn (hp.le hl2) hs hv (ht.le hl2) hq1 (hk2 _ _ hi' ⟨hl2,?_⟩)
   rw [←List.take_append_getElem hi',zzn,hq2]
   simp only
   rw [ha,w64 (by omega)]
   rfl
 · have:i=xs.length:=by simp only at h3; omega
   subst this
   rw [List.take_length] at ha
   rw [ha]
   exact hk _ _ hl2 rfl
theorem zpl {k:Nat} {t:Int} (hp:PR h p S) (hs:sSk S) (hv:VS S) (hk:k<(allC S).length) (H:∀h',h.le h'→Ki (kindP ((allC S).getD k dC) (cens S) t) h'):callP (F.y_henneberg_peeler_kind (some p) (k:Int) t) Ki h:=by
 refine za1 (fun b h'=>b=kindP ((allC S).getD k dC) (cens S) t) (fun K' hkk=>?_) fun b h' hl hb=>by subst hb; exact H h' hl
 unfold F.y_henneberg_peeler_kind
 obtain ⟨s,lS,itS,ceS,hx,hc,hL,hI,hC⟩:=hp
 refine ⟨_,hc 6 _ rfl,?_⟩
 refine hL.get zac k rfl hk fun a x hxx hcx=>⟨_,hcx 0 _ rfl,_,hcx 1 _ rfl,_,hcx 2 _ rfl,_,hcx 3 _ rfl,_,hcx 4 _ rfl,?_⟩
 refine ⟨_,hc 8 _ rfl,?_⟩
 have:=zhb hv hs _ (List.getElem_mem hk)
 rw [zck hk] at hkk
 exact za3y (x:=x) hxx hC this.2 this.1.cirOk this.1.lenC fun h' hl=>hkk _ _ hl rfl
def smI (item:Int):Prop:=-1000000≤item∧item≤1000000
theorem zp2 (hp:PR h p S) (hs:sSk S) (hv:VS S) (ht:GT h) (hr:IL h rs R) (hR:R.length≤100000) (hi:smI item) (H:∀b h',h.le h'→(b=true↔canP (allC S) (cens S) R item)→Kb b h'):callP (F.y_henneberg_peeler_removable (some p) item rs) Kb h:=by
 refine za1 (fun b h'=>b=true↔canP (allC S) (cens S) R item) (fun K' hk=>?_) fun b h' hl hb=>H b h' hl hb
 unfold F.y_henneberg_peeler_removable
 have no:∀h',h.le h'→¬canP (allC S) (cens S) R item→K' false h':=fun h' hl hn=>hk _ _ hl ⟨fun hh=>(by cases hh),fun hh=>absurd hh hn⟩
 have hits:its S=(allC S).map fun c=>itemsC c (cens S):=rfl
 unfold canP at no hk
 rw [←hits] at no hk
 refine ze0 fun p1 h1 hl1 c1=>ze0 fun p2 h2 hl2 c2=>?_
 have hle2:=Hp.le_trans hl1 hl2
 refine ⟨_,c2,?_⟩
 refine zfm (hr.le hle2) (by omega) fun h3 hl3=>?_
 have hle3:=Hp.le_trans hle2 hl3
 refine za0 (fun h4=>no _ hle3 fun hh=>hh.1 h4) (fun h4=>?_)
 have d1:∀{h'},h3.le h'→h'.cell p1=some (.pointer (some p)):=fun hl=>Hp.cell_le (Hp.le_trans hl2 (Hp.le_trans hl3 hl)) c1
 have d2:∀{h'},h3.le h'→h'.cell p2=some (.int .i64 item):=fun hl=>Hp.cell_le (Hp.le_trans hl3 hl) c2
 refine ⟨_,d1 (Hp.le_refl _),_,d2 (Hp.le_refl _),?_⟩
 refine zkx (hp.le hle3) hs hv (hr.le hle3) hR fun r7 h5 hl5 ho5=>?_
 have hle5:=Hp.le_trans hle3 hl5
 have hrl:(remL (its S) item R).length≤(its S).length:=zp1
 rw [zdq] at hrl
 have hal:=zhw hs
 have hin:∀i∈remL (its S) item R,∃k:Nat,k<(allC S).length∧i=k:=fun i hi=>by
  obtain ⟨k,h1,h2,_⟩:=zkw hi
  rw [zdq] at h1
  exact ⟨k,h1,h2⟩
 refine ⟨_,d2 hl5,?_⟩
 obtain ⟨s,lS,itS,ceS,hpp⟩:=hp
 have hp:PR h p S:=⟨s,lS,itS,ceS,hpp⟩
 obtain ⟨hx,hc,hL,hI,hC⟩:=hpp
 refine za0 (fun h6=>?_) (fun h6=>?_)
 · have h6:item<0:=h6
   refine ⟨_,d1 hl5,?_⟩
   refine zoi (hp.le hle5) hs hv (ht.le hle5) ho5.il (by omega) hin fun h7 hl7=>?_
   have hle7:=Hp.le_trans hle5 hl7
   have hm:most item=1:=by unfold most; rw [if_pos h6]
   refine za0 (fun h8=>?_) (fun h8=>no _ hle7 fun hh=>by have:=hh.2.1; omega)
   refine za1 (fun b h'=>b=true↔∃i∈remL (its S) item R,¬suitP ((allC S).getD i.toNat dC) (cens S) item) (fun K2 hk3=>?_) fun b h9 hl9 hb=>hk _ _ (Hp.le_trans hle7 hl9) ?_
   · unfold F.zbf
     refine za1 (fun r h'=>Fnd (fun i=>¬suitP ((allC S).getD i.toNat dC) (cens S) item) (remL (its S) item R) r) (fun K4 hk4=>?_) fun r h' hl hr=>hk3 _ _ hl (by rw [decide_eq_true_iff]; exact hr.iff)
     unfold F.zbl
     refine zov (ho5.il.le hl7) (by omega) (fun i hi2 h9 hl9 K5 hK5=>?_) fun r h' hl hr=>hk4 _ _ hl hr
     refine za1 (fun b h'=>b=true↔¬suitP ((allC S).getD i.toNat dC) (cens S) item) (fun K6 hk6=>?_) fun b h8 hl8 hb=>hK5 _ _ hl8 hb
     unfold F.y_henneberg_peeler_removable_1
     obtain ⟨k,hk1,rfl⟩:=hin i hi2
     have hle9:=Hp.le_trans hle7 hl9
     have l39:=Hp.le_trans hl5 (Hp.le_trans hl7 hl9)
     refine ⟨_,d1 l39,_,Hp.cell_le hle9 (hc 6 _ rfl),?_⟩
     refine (hL.le zac hle9).get zac k rfl hk1 fun a x hxx hcx=>⟨_,hcx 0 _ rfl,_,hcx 1 _ rfl,_,hcx 2 _ rfl,_,hcx 3 _ rfl,_,hcx 4 _ rfl,?_⟩
     refine ⟨_,d1 l39,_,Hp.cell_le hle9 (hc 8 _ rfl),_,d2 l39,?_⟩
     have hok:=zhb hv hs _ (List.getElem_mem hk1)
     have e1:IntKind.i64.wrap (-1-item)=-1-item:=by unfold smI at hi; exact w64 (by omega)
     simp only
     rw [e1]
     refine za2f (x:=x) hxx (hC.le hle9) hok.2 hok.1.cirOk hok.1.lenC fun b h' hl hb=>hk6 _ _ hl ?_
     rw [show ((k:Nat):Int).toNat=k from rfl,zck hk1]
     unfold suitP
     rw [if_pos h6,←hb]
     cases b<;>simp
   · rw [Bool.not_eq_true',←Bool.not_eq_true,hb]
     constructor
     · intro hh
       exact ⟨h4,by omega,fun i hi=>Classical.byContradiction fun hn=>hh ⟨i,hi,hn⟩⟩
     · rintro ⟨_,_,h10⟩ ⟨i,hi,hn⟩
       exact hn (h10 i hi)
 · have h6:¬item<0:=h6
   refine ⟨_,d1 hl5,?_⟩
   refine zoi (hp.le hle5) hs hv (ht.le hle5) ho5.il (by omega) hin fun h7 hl7=>?_
   have hle7:=Hp.le_trans hle5 hl7
   have hm:most item=2:=by unfold most; rw [if_neg h6]
   refine za0 (fun h8=>no _ hle7 fun hh=>by have:=hh.2.1; omega) (fun h8=>?_)
   have hr7:=ho5.il.le hl7
   have hr7l:=hr7.len
   refine zbi (n:=(remL (its S) item R).length) (by omega) (fun i h'=>h7.le h'∧∀j (hj:j<(remL (its S) item R).length),j<i→suitP ((allC S).getD (remL (its S) item R)[j].toNat dC) (cens S) item) ⟨Hp.le_refl _,fun j _ hj=>by omega⟩ ?_
   rintro i h9 hi9 ⟨hl9,hno⟩ kk hk2
   have hle9:=Hp.le_trans hle7 hl9
   have l39:=Hp.le_trans hl5 (Hp.le_trans hl7 hl9)
   refine za0 (fun h10=>?_) (fun h10=>?_)
   · have hi':i<(remL (its S) item R).length:=by simp only at h10; omega
     refine (hr7.le hl9).get i rfl hi' ?_
     obtain ⟨k,hk1,hk2e⟩:=hin _ (List.getElem_mem hi')
     rw [hk2e]
     refine ⟨_,d1 l39,_,d2 l39,?_⟩
     refine zpl (hp.le hle9) hs hv hk1 fun h11 hl11=>?_
     have hle11:=Hp.le_trans hle9 hl11
     have l311:=Hp.le_trans l39 hl11
     obtain ⟨kd,hkd⟩:∃kd,kd=kindP ((allC S).getD k dC) (cens S) item:=⟨_,rfl⟩
     have hsuit:suitP ((allC S).getD (remL (its S) item R)[i].toNat dC) (cens S) item↔(if eqK ((allC S).getD k dC).kind=2 then kd=3 else kd=1∨kd=2):=by
      rw [hk2e,hkd]
      unfold suitP
      rw [if_neg h6]
      rfl
     rw [←hkd]
     refine za3 (fun s h'=>h'=h11∧s.1=decide (kd=1∨kd=2)) ?_ ?_
     · rintro ⟨b,_⟩ h11 ⟨rfl,hb⟩
       simp only at hb
       subst hb
       refine za3 (fun s h'=>h'=h11∧(s.1=true↔suitP ((allC S).getD (remL (its S) item R)[i].toNat dC) (cens S) item)) ?_ ?_
       · rintro ⟨b,_⟩ h11 ⟨rfl,hb⟩
         simp only at hb
         refine za2 (fun h12=>no _ hle11 fun hh=>?_) (fun h12=>hk2 _ hi' ⟨Hp.le_trans hl9 hl11,?_⟩)
         · rw [hb.2 (hh.2.2 _ (List.getElem_mem hi'))] at h12; cases h12
         · exact upto (P:=fun i:Int=>suitP ((allC S).getD i.toNat dC) (cens S) item) hno hi' (hb.1 (by simpa using h12))
       · refine ⟨_,d1 l311,?_⟩
         refine zkn (hp.le hle11) hs hv (ht.le hle11) hk1 ?_
         refine za7 (fun h12=>⟨rfl,?_⟩) (fun h12=>⟨rfl,?_⟩)
         · rw [hsuit,if_pos (by omega)]
           simp
         · rw [hsuit,if_neg (by omega)]
           simp
     · refine za7 (fun h12=>⟨rfl,?_⟩) (fun h12=>⟨rfl,?_⟩)
       · rw [h12]; rfl
       · by_cases h13:kd=2
         · rw [h13]; rfl
         · rw [decide_eq_false (by omega)]; simpa using h13
   · refine hk _ _ hle9 ⟨fun _=>⟨h4,by omega,?_⟩,fun _=>rfl⟩
     exact upall (P:=fun i:Int=>suitP ((allC S).getD i.toNat dC) (cens S) item) hno (by simp only at h10; omega)
end
end Den
end

section
namespace Den
open Go Iv Lx
section
variable {h : Hp} {s : TSketch} {S : PSk} {x : TConstraint} {c : PCon} {cs : List Int} {ce : Sl} {item : Int} {R : List Int} {rs : Sl} {Kb : Bool → Hp → Prop} {Ki : Int → Hp → Prop} {Ks : Sl → Hp → Prop}
theorem zk5 (hx:x.kind=c.kind) (hv:1≤c.kind∧c.kind≤17) (H:∀h',h.le h'→Ki ((eqK c.kind:Nat):Int) h'):callP (F.zeq x) Ki h:=by
 refine za1 (fun b h'=>b=((eqK c.kind:Nat):Int)) (fun K' hk=>?_) fun b h' hl hb=>by subst hb; exact H h' hl
 unfold F.zeq
 rw [hx]
 exact za15 (fun _ _ nm vs h' hl=>hk _ _ hl rfl) (fun hn=>absurd hv hn)
theorem za0x (hx:CO h x c) (hc:IL h ce cs) (hs:sC c) (hok:cirOk c cs) (hv:lenC c) (hi:smI item) (H:∀b h',h.le h'→(b=true↔suitP c cs item)→Kb b h'):callP (F.zlk x ce item) Kb h:=by
 refine za1 (fun b h'=>b=true↔suitP c cs item) (fun K' hk=>?_) fun b h' hl hb=>H b h' hl hb
 unfold F.zlk
 unfold suitP at hk
 refine za0 (fun h1=>?_) (fun h1=>?_)
 · rw [if_pos h1] at hk
   have e1:IntKind.i64.wrap (-1-item)=-1-item:=by unfold smI at hi; exact w64 (by omega)
   rw [e1]
   exact za0r hx hc hs hok hv fun b h' hl hb=>hk _ _ hl hb
 · rw [if_neg h1] at hk
   refine zpp hx hc hs hok hv fun h2 hl2=>?_
   refine zk5 hx.1 ⟨hv.2.2.1,hv.2.2.2.1⟩ fun h3 hl3=>?_
   have hle:=Hp.le_trans hl2 hl3
   refine za7 (fun h4=>hk _ _ hle ?_) (fun h4=>?_)
   · rw [if_pos (by omega),beq_iff_eq]
   · rw [if_neg (by omega)] at hk
     refine za7 (fun h5=>hk _ _ hle ⟨fun _=>.inl h5,fun _=>rfl⟩) (fun h5=>hk _ _ hle ?_)
     rw [beq_iff_eq]
     exact ⟨fun hh=>.inr hh,fun hh=>hh.resolve_left h5⟩
theorem zk6 (hx:SK h s S) (hs:sSk S) (hv:VS S) (hr:IL h rs R) (hR:R.length≤100000) (H:∀y h',h.le h'→OI h h' y (remL (its S) item R)→Ks y h'):callP (F.zer s item rs) Ks h:=by
 refine za1 (fun y h'=>OI h h' y (remL (its S) item R)) (fun K' hk=>?_) fun b h' hl hb=>H b h' hl hb
 unfold F.zer
 have hal:=zhw hs
 have hok:=zhb hv hs
 have hcl:=zpc (S:=S)
 have s2:=hs.2.1
 refine zns hx hv hs fun r1 h1 hl1 hL=>?_
 refine zm4 (hx.le hl1) hs fun r2 h2 hl2 hC=>?_
 have hle2:=Hp.le_trans hl1 hl2
 have hL2:=hL.le zac hl2
 have hLl:=hL2.len zac
 refine zc5 (n:=(allC S).length) (by omega) (fun i y h'=>OI h2 h' y (remN (its S) item R i)) OI.nil ?_
 intro i y h3 hi ho k hk2
 have hle:=Hp.le_trans hle2 ho.dle
 refine za0 (fun h4=>?_) (fun h4=>?_)
 · have hi':i<(allC S).length:=by simp only at h4; omega
   refine za3 (fun s h'=>OI h2 h' s.1 (remN (its S) item R (i+1))) (fun s h' hs=>hk2 _ _ hi' hs) ?_
   refine (hL2.le zac ho.dle).get zac i rfl hi' fun a x hxx hcx=>⟨_,hcx 0 _ rfl,_,hcx 1 _ rfl,_,hcx 2 _ rfl,_,hcx 3 _ rfl,_,hcx 4 _ rfl,?_⟩
   have hg:(its S).getD i []=itemsC (allC S)[i] (cens S):=by
    rw [zck (by rw [zdq]; exact hi')]
    simp [its]
   have hstep:remN (its S) item R (i+1)=remN (its S) item R i++(if keepP (itemsC (allC S)[i] (cens S)) item R then [(i:Int)] else []):=by
    conv=>lhs; unfold remN
    rw [hg]
   have hrl:=zps (its S) item R i
   have hokc:=hok _ (List.getElem_mem hi')
   have hlen:=zte (cs:=cens S) hokc.2
   refine za0q (x:=x) hxx (hC.il.le ho.dle) hokc.2 hokc.1.cirOk (by omega) fun r9 h5 hl5 ho5=>?_
   have hI:=ho5.il
   have hIl:=hI.len
   have hoy:=ho.le hl5
   refine zc5 (n:=(itemsC (allC S)[i] (cens S)).length) (by omega) (fun j b h'=>h5.le h'∧(b=true↔∃x∈(itemsC (allC S)[i] (cens S)).take j,x∈R)) ⟨Hp.le_refl _,by simp⟩ ?_
   rintro j b h6 hj ⟨hl6,hb⟩ k6 hk6
   refine za0 (fun h7=>?_) (fun h7=>?_)
   · have hj':j<(itemsC (allC S)[i] (cens S)).length:=by simp only at h7; omega
     have e:(∃x∈(itemsC (allC S)[i] (cens S)).take (j+1),x∈R)↔(∃x∈(itemsC (allC S)[i] (cens S)).take j,x∈R)∨(itemsC (allC S)[i] (cens S))[j]∈R:=by
      rw [←List.take_append_getElem hj']
      constructor
      · rintro ⟨x,hx,hr⟩
        rcases List.mem_append.1 hx with hx | hx
        · exact .inl ⟨x,hx,hr⟩
        · rw [List.mem_singleton.1 hx] at hr; exact .inr hr
      · rintro (⟨x,hx,hr⟩ | hr)
        · exact ⟨x,List.mem_append_left _ hx,hr⟩
        · exact ⟨_,List.mem_append_right _ (List.mem_singleton.2 rfl),hr⟩
     refine za3 (fun s h'=>h5.le h'∧(s.1=true↔∃x∈(itemsC (allC S)[i] (cens S)).take (j+1),x∈R)) (fun s h' hs=>hk6 _ _ hj' hs) ?_
     refine za2 (fun h8=>⟨hl6,?_⟩) (fun h8=>?_)
     · rw [e]; exact ⟨fun _=>.inl (hb.1 h8),fun _=>rfl⟩
     · refine (hI.le hl6).get j rfl hj' ?_
       refine zg9 (hr.le (Hp.le_trans hle (Hp.le_trans hl5 hl6))) (by omega) fun h9 hl9=>⟨Hp.le_trans hl6 hl9,?_⟩
       rw [e,decide_eq_true_iff]
       exact ⟨fun hh=>.inr hh,fun hh=>hh.resolve_left fun h10=>by simp only at h8; rw [hb.2 h10] at h8; cases h8⟩
   · have:j=(itemsC (allC S)[i] (cens S)).length:=by simp only at h7; omega
     subst this
     rw [List.take_length] at hb
     have hoy6:=hoy.le hl6
     refine za2 (fun h8=>?_) (fun h8=>?_)
     · have hno:∀x∈itemsC (allC S)[i] (cens S),x∉R:=fun x hx hxR=>by simp only at h8; rw [hb.2 ⟨x,hx,hxR⟩] at h8; cases h8
       refine zg9 (hI.le hl6) (by omega) fun h9 hl9=>?_
       have hoy9:=hoy6.le hl9
       refine za0 (fun h10=>?_) (fun h10=>?_)
       · refine hoy9.app (by omega) fun z h11 ho11=>?_
         show OI _ _ _ _
         rw [hstep,if_pos ⟨h10,hno⟩]; exact ho11
       · show OI _ _ _ _
         rw [hstep,if_neg (fun hh=>h10 hh.1),List.append_nil]; exact hoy9
     · have hb':∃x∈itemsC (allC S)[i] (cens S),x∈R:=hb.1 (by simpa using h8)
       show OI _ _ _ _
       rw [hstep,if_neg (fun hh=>by obtain ⟨x,hx,hxR⟩:=hb'; exact hh.2 x hx hxR),List.append_nil]; exact hoy6
 · have:i=(allC S).length:=by simp only at h4; omega
   subst this
   refine hk _ _ hle ?_
   have ho:=ho.base hle2
   unfold remL
   rw [zdq]; exact ho
theorem zqv {l:Sl} {xs:List Int} (hx:SK h s S) (hs:sSk S) (hv:VS S) (hl:IL h l xs) (hlen:xs.length≤100000) (hin:∀i∈xs,∃k:Nat,k<(allC S).length∧i=k) (H:∀h',h.le h'→Ki ((wtL (allC S) xs:Nat):Int) h'):callP (F.zie s l) Ki h:=by
 refine za1 (fun b h'=>b=((wtL (allC S) xs:Nat):Int)) (fun K' hk=>?_) fun b h' hl hb=>by subst hb; exact H h' hl
 unfold F.zie
 have hok:=zhb hv hs
 refine zns hx hv hs fun r1 h1 hl1 hL=>?_
 have hl':=hl.le hl1
 have hll:=hl'.len
 refine zc5 (n:=xs.length) (by omega) (fun i a h'=>h1.le h'∧a=((wtL (allC S) (xs.take i):Nat):Int)) ⟨Hp.le_refl _,by simp [wtL]⟩ ?_
 rintro i a h2 hi ⟨hl2,ha⟩ k hk2
 refine za0 (fun h3=>?_) (fun h3=>?_)
 · have hi':i<xs.length:=by simp only at h3; omega
   refine (hl'.le hl2).get i rfl hi' ?_
   obtain ⟨q,hq1,hq2⟩:=hin _ (List.getElem_mem hi')
   rw [hq2]
   have hw:=zzm (L:=allC S) (xs.take i)
   rw [List.length_take] at hw
   have hw2:=zxl ((allC S).getD q dC).kind
   refine (hL.le zac hl2).get zac q rfl hq1 fun a2 x hxx hcx=>⟨_,hcx 0 _ rfl,_,hcx 1 _ rfl,_,hcx 2 _ rfl,_,hcx 3 _ rfl,_,hcx 4 _ rfl,?_⟩
   refine zk5 (x:=x) (c:=(allC S)[q]) hxx.1 (hok _ (List.getElem_mem hq1)).1.1 fun h4 hl4=>hk2 _ _ hi' ⟨Hp.le_trans hl2 hl4,?_⟩
   have hg:(allC S).getD q dC=(allC S)[q]:=zck hq1
   rw [←List.take_append_getElem hi',zzn,hq2]
   rw [hg] at hw2
   simp only
   rw [ha,w64 (by omega),show ((q:Nat):Int).toNat=q from rfl,hg]
   rfl
 · have:i=xs.length:=by simp only at h3; omega
   subst this
   rw [List.take_length] at ha
   rw [ha]
   exact hk _ _ (Hp.le_trans hl1 hl2) rfl
theorem znu (hx:SK h s S) (hs:sSk S) (hv:VS S) (hr:IL h rs R) (hR:R.length≤100000) (H:∀b h',h.le h'→(b=true↔item∈allI S.pts.length S.cir.length∧canP (allC S) (cens S) R item)→Kb b h'):callP (F.zdj s item rs) Kb h:=by
 refine za1 (fun b h'=>b=true↔item∈allI S.pts.length S.cir.length∧canP (allC S) (cens S) R item) (fun K' hk=>?_) fun b h' hl hb=>H b h' hl hb
 unfold F.zdj
 have no:∀h',h.le h'→¬(item∈allI S.pts.length S.cir.length∧canP (allC S) (cens S) R item)→K' false h':=fun h' hl hn=>hk _ _ hl ⟨fun hh=>(by cases hh),fun hh=>absurd hh hn⟩
 have hits:its S=(allC S).map fun c=>itemsC c (cens S):=rfl
 have hal:=zhw hs
 have hok:=zhb hv hs
 have hrl:(remL (its S) item R).length≤(its S).length:=zp1
 rw [zdq] at hrl
 have hin:∀i∈remL (its S) item R,∃k:Nat,k<(allC S).length∧i=k:=fun i hi=>by
  obtain ⟨k,h1,h2,_⟩:=zkw hi
  rw [zdq] at h1
  exact ⟨k,h1,h2⟩
 refine za3 (fun _ h'=>h.le h'∧item∈allI S.pts.length S.cir.length∧item∉R) ?_ ?_
 · rintro _ h1 ⟨hl1,hia,hiR⟩
   have hsm:smI item:=by
    have:=zsc.1 hia
    have:=hs.1
    have:=hs.2.1
    unfold smI; omega
   refine zns (hx.le hl1) hv hs fun r3 h2 hl2 hL=>zm4 (hx.le (Hp.le_trans hl1 hl2)) hs fun r4 h3 hl3 hC=>?_
   have hle3:=Hp.le_trans hl1 (Hp.le_trans hl2 hl3)
   refine zk6 (hx.le hle3) hs hv (hr.le hle3) hR fun r5 h4 hl4 ho5=>?_
   have hle4:=Hp.le_trans hle3 hl4
   unfold canP at no hk
   rw [←hits] at no hk
   refine za3 (fun s h'=>h'=h4∧s.1=(most item:Int)) ?_ ?_
   · rintro ⟨m,_⟩ h4 ⟨rfl,hm⟩
     simp only at hm
     subst hm
     refine zqv (hx.le hle4) hs hv ho5.il (by omega) hin fun h7 hl7=>?_
     have hle7:=Hp.le_trans hle4 hl7
     refine za0 (fun h8=>no _ hle7 fun hh=>by have:=hh.2.2.1; simp only at h8; omega) (fun h8=>?_)
     have hr7:=ho5.il.le hl7
     have hr7l:=hr7.len
     refine zbi (n:=(remL (its S) item R).length) (by omega) (fun i h'=>h7.le h'∧∀j (hj:j<(remL (its S) item R).length),j<i→suitP ((allC S).getD (remL (its S) item R)[j].toNat dC) (cens S) item) ⟨Hp.le_refl _,fun j _ hj=>by omega⟩ ?_
     rintro i h9 hi9 ⟨hl9,hno⟩ kk hk2
     have hle9:=Hp.le_trans hle7 hl9
     have l29:h3.le h9:=Hp.le_trans hl4 (Hp.le_trans hl7 hl9)
     refine za0 (fun h10=>?_) (fun h10=>?_)
     · have hi':i<(remL (its S) item R).length:=by simp only at h10; omega
       refine (hr7.le hl9).get i rfl hi' ?_
       obtain ⟨k,hk1,hk2e⟩:=hin _ (List.getElem_mem hi')
       rw [hk2e]
       refine (hL.le zac (Hp.le_trans hl3 l29)).get zac k rfl hk1 fun a2 x hxx hcx=>⟨_,hcx 0 _ rfl,_,hcx 1 _ rfl,_,hcx 2 _ rfl,_,hcx 3 _ rfl,_,hcx 4 _ rfl,?_⟩
       have hokc:=hok _ (List.getElem_mem hk1)
       refine za0x (x:=x) hxx (hC.il.le l29) hokc.2 hokc.1.cirOk hokc.1.lenC hsm fun b h11 hl11 hb=>?_
       have hb':b=true↔suitP ((allC S).getD (remL (its S) item R)[i].toNat dC) (cens S) item:=by
        rw [hk2e,show ((k:Nat):Int).toNat=k from rfl,zck hk1]; exact hb
       refine za2 (fun h12=>no _ (Hp.le_trans hle9 hl11) fun hh=>?_) (fun h12=>hk2 _ hi' ⟨Hp.le_trans hl9 hl11,?_⟩)
       · rw [hb'.2 (hh.2.2.2 _ (List.getElem_mem hi'))] at h12; cases h12
       · exact upto (P:=fun i:Int=>suitP ((allC S).getD i.toNat dC) (cens S) item) hno hi' (hb'.1 (by simpa using h12))
     · refine hk _ _ hle9 ⟨fun _=>⟨hia,hiR,by simp only at h8; omega,?_⟩,fun _=>rfl⟩
       exact upall (P:=fun i:Int=>suitP ((allC S).getD i.toNat dC) (cens S) item) hno (by simp only at h10; omega)
   · refine za0 (fun h5=>⟨rfl,?_⟩) (fun h5=>⟨rfl,?_⟩)
     · unfold most; rw [if_pos h5]; rfl
     · unfold most; rw [if_neg h5]; rfl
 · refine zfk hx hs fun r h1 hl1 hr1=>?_
   refine zax (fun h2=>absurd (hr1.2 hv) h2) (fun _=>?_)
   refine zj0 (hx.le hl1) hs fun r17 h3 hl3 ho3=>?_
   have hle3:=Hp.le_trans hl1 hl3
   refine zg9 ho3.il (by rw [zwf]; have:=hs.1; have:=hs.2.1; omega) fun h4 hl4=>?_
   have hle4:=Hp.le_trans hle3 hl4
   refine za2 (fun h5=>no _ hle4 fun hh=>?_) (fun h5=>?_)
   · rw [decide_eq_true hh.1] at h5; cases h5
   have hia:item∈allI S.pts.length S.cir.length:=by simpa using h5
   refine zg9 (hr.le hle4) (by omega) fun h6 hl6=>?_
   refine za0 (fun h7=>no _ (Hp.le_trans hle4 hl6) fun hh=>hh.2.1 h7) (fun h7=>⟨Hp.le_trans hle4 hl6,hia,h7⟩)
end
theorem zdr {can:List Int→Int→Bool} {pref:List Int} (hc:∀R i,can R i=true→i∉R):∀{f:Nat} {R:List Int},(leftL pref R).length≤f→pref.find? (can R)=none→peelF can pref f R=R
 | 0,R,_,_=>rfl
 | f+1,R,_,h=>by unfold peelF; rw [h]
theorem zf4 {can:List Int→Int→Bool} {pref:List Int} (hc:∀R i,can R i=true→i∉R) {f:Nat} {R:List Int} {i:Int} (hf:(leftL pref R).length≤f) (h:pref.find? (can R)=some i) :
 ∃g,f=g+1∧peelF can pref f R=peelF can pref g (R++[i])∧(leftL pref (R++[i])).length≤g:=by
 have h1:=List.find?_some h
 have h2:=List.mem_of_find?_eq_some h
 have h3:=ztj h2 (hc _ _ h1)
 obtain ⟨g,rfl⟩:∃g,f=g+1:=⟨f-1,by omega⟩
 refine ⟨g,rfl,?_,by omega⟩
 conv=>lhs; unfold peelF
 rw [h]
theorem zkl {L:List PCon} {cs:List Int}:∀R i,canB L cs R i=true→i∉R:=fun R i h=>(of_decide_eq_true h).1
def peelS (S:PSk) (pref:List Int):List Int:=peelL (canB (allC S) (cens S)) pref
theorem zv0 {can:Int→Bool} {l:List Int} {i:Nat} (hi:i<l.length) (hno:∀j (hj:j<l.length),j<i→can l[j]=false) (h:can l[i]=true):l.find? can=some l[i]:=by
 rw [List.find?_eq_some_iff_append]
 refine ⟨h,l.take i,l.drop (i+1),?_,fun a ha=>?_⟩
 · rw [List.getElem_cons_drop,List.take_append_drop]
 · obtain ⟨j,hj,rfl⟩:=List.mem_take_iff_getElem.1 ha
   rw [hno j (by omega) (by omega)]; rfl
section
variable {h : Hp} {s : TSketch} {S : PSk} {l : Sl} {pref : List Int} {K : (Sl × Sl) → Hp → Prop}
theorem zqp (hx:SK h s S) (hs:sSk S) (hv:VS S) (hp:IL h l pref) (hlen:pref.length≤1000) (hsub:∀x∈pref,x∈allI S.pts.length S.cir.length) (H:∀a b h',h.le h'→IL h' a (peelS S pref)→IL h' b (leftL pref (peelS S pref))→K (a,b) h'):callP (F.zgh s l) K h:=by
 refine za1 (fun r h'=>IL h' r.1 (peelS S pref)∧IL h' r.2 (leftL pref (peelS S pref))) (fun K' hk=>?_) fun r h' hl hr=>H r.1 r.2 h' hl hr.1 hr.2
 unfold F.zgh
 have hpl:=hp.len
 refine zfk hx hs fun r h1 hl1 hr1=>?_
 refine zax (fun h2=>absurd (hr1.2 hv) h2) (fun _=>?_)
 obtain ⟨can,hcan⟩:∃can,can=canB (allC S) (cens S):=⟨_,rfl⟩
 have hcn:∀R i,can R i=true→i∉R:=by rw [hcan]; exact zkl
 refine zmr (fun f st h'=>∃(R:List Int) (again:Bool) (D:Hp),h.le D∧OI D h' st.1 R∧st.2.1=again∧R.length≤pref.length ∧
  (again=true→(leftL pref R).length+1≤f∧R.length+(leftL pref R).length≤pref.length∧peelF can pref (leftL pref R).length R=peelS S pref)∧(again=false→R=peelS S pref)) (n0:=pref.length+1)
  ⟨[],true,h1,hl1,OI.nil,rfl,by simp,fun _=>?_,fun hh=>(by cases hh)⟩ ?_
 · have e:leftL pref []=pref:=by unfold leftL; rw [List.filter_eq_self]; simp
   rw [e]
   exact ⟨Nat.le_refl _,by simp,by rw [hcan]; rfl⟩
 rintro f ⟨y,ag,_⟩ h2 ⟨R,again,D,hD,ho,hag,hRl,ht,hfl⟩ K2 hK2
 simp only at ho hag
 subst hag
 refine za2 (fun h3=>?_) (fun h3=>?_)
 · simp only at h3
   obtain ⟨t1,t2,t3⟩:=ht h3
   refine zal (fun st h'=>∃(i:Nat) (y':Sl) (b:Bool) (D':Hp),st=(y',b,(i:Int),())∧i≤pref.length∧D.le D' ∧
    (b=false→OI D' h' y' R∧∀j (hj:j<pref.length),j<i→can R pref[j]=false) ∧
    (b=true→∃z,pref.find? (can R)=some z∧OI D' h' y' (R++[z]))) (fun st=>(pref.length-st.2.2.1).toNat)
    ⟨0,y,false,D,rfl,by omega,Hp.le_refl _,fun _=>⟨ho,fun j _ hj=>by omega⟩,fun hh=>(by cases hh)⟩ ?_
   rintro _ h4 ⟨i,y',b,D',rfl,hi,hD',hf4,ht4⟩
   refine za3 (fun _ h'=>h'=h4∧i<pref.length∧b=false) ?_ ?_
   · rintro _ h4 ⟨rfl,hi',rfl⟩
     obtain ⟨ho4,hno⟩:=hf4 rfl
     have hle4:=Hp.le_trans hD (Hp.le_trans hD' ho4.dle)
     refine za3 (fun s h'=>∃D'',D.le D''∧(s.2.1=false→OI D'' h' s.1 R∧can R pref[i]=false)∧(s.2.1=true→can R pref[i]=true∧OI D'' h' s.1 (R++[pref[i]]))) ?_ ?_
     · rintro ⟨y3,b3,_⟩ h5 ⟨D'',hD'',g1,g2⟩
       simp only at g1 g2
       refine ⟨⟨i+1,y3,b3,D'',by simp only; rw [w64 (by omega)]; rfl,by omega,hD'',fun hb=>⟨(g1 hb).1,?_⟩,fun hb=>?_⟩,by simp only; rw [w64 (by omega)]; omega⟩
       · exact upto (P:=fun z=>can R z=false) hno hi' (g1 hb).2
       · exact ⟨pref[i],zv0 hi' hno (g2 hb).1,(g2 hb).2⟩
     · refine (hp.le hle4).get i rfl hi' ?_
       refine znu (item:=pref[i]) (hx.le hle4) hs hv ho4.il (by omega) fun b5 h5 hl5 hb5=>?_
       have hca:b5=can R pref[i]:=by
        rw [hcan]
        unfold canB
        rw [Bool.eq_iff_iff,hb5,decide_eq_true_iff]
        exact ⟨fun hh=>hh.2,fun hh=>⟨hsub _ (List.getElem_mem hi'),hh⟩⟩
       have ho5:=ho4.le hl5
       refine za2 (fun h6=>?_) (fun h6=>?_)
       · refine (hp.le (Hp.le_trans hle4 hl5)).get i rfl hi' ?_
         refine ho5.app (by omega) fun w h7 ho7=>⟨D',hD',fun hh=>(by cases hh),fun _=>⟨by rw [←hca]; exact h6,ho7⟩⟩
       · exact ⟨D',hD',fun _=>⟨ho5,by rw [←hca]; exact h6⟩,fun hh=>(by cases hh)⟩
   · have fin:(b=false→i=pref.length)→K2 (y',b,()) h4:=fun hii=>by
      cases hb:b with
      | false=>
        subst hb
        obtain ⟨ho4,hno⟩:=hf4 rfl
        have hi':=hii rfl
        have hnone:pref.find? (can R)=none:=by
         rw [List.find?_eq_none]
         intro x hx
         obtain ⟨j,hj,rfl⟩:=List.mem_iff_getElem.1 hx
         rw [hno j hj (by omega)]; decide
        have hRp:R=peelS S pref:=by rw [←t3,zdr hcn (Nat.le_refl _) hnone]
        exact hK2 (f-1) _ _ (by omega) ⟨R,false,D',Hp.le_trans hD hD',ho4,rfl,hRl,fun hh=>(by cases hh),fun _=>hRp⟩
      | true=>
        subst hb
        obtain ⟨z,hz,ho4⟩:=ht4 rfl
        obtain ⟨g,hg1,hg2,hg3⟩:=zf4 hcn (Nat.le_refl _) hz
        have hlt:(leftL pref (R++[z])).length<(leftL pref R).length:=by omega
        refine hK2 ((leftL pref (R++[z])).length+1) _ _ (by omega) ⟨R++[z],true,D',Hp.le_trans hD hD',ho4,rfl,by simp; omega,fun _=>⟨Nat.le_refl _,by simp; omega,?_⟩,fun hh=>(by cases hh)⟩
        rw [←t3,hg2]
        have key:∀(f1 f2:Nat) (Q:List Int),(leftL pref Q).length≤f1→(leftL pref Q).length≤f2→peelF can pref f1 Q=peelF can pref f2 Q:=by
         intro f1
         induction f1 with
         | zero=>
           intro f2 Q h1 h2
           cases hq:pref.find? (can Q) with
           | none=>rw [zdr hcn h1 hq,zdr hcn h2 hq]
           | some z=>
             obtain ⟨g,hg,_⟩:=zf4 hcn h1 hq
             omega
         | succ f1 ih=>
           intro f2 Q h1 h2
           cases hq:pref.find? (can Q) with
           | none=>rw [zdr hcn h1 hq,zdr hcn h2 hq]
           | some z=>
             obtain ⟨g,hg,e1,e2⟩:=zf4 hcn h1 hq
             obtain ⟨g',hg',e1',e2'⟩:=zf4 hcn h2 hq
             rw [e1,e1']
             have:g=f1:=by omega
             subst this
             exact ih g' _ e2 e2'
        exact key _ _ _ (Nat.le_refl _) hg3
     refine za0 (fun h5=>?_) (fun h5=>fin fun _=>by simp only at h5; omega)
     refine za2 (fun h6=>⟨rfl,by simp only at h5; omega,by simpa using h6⟩) (fun h6=>fin fun hb=>by rw [hb] at h6; cases h6)
 · simp only at h3
   have hRp:=hfl h3
   subst hRp
   have hleD:=Hp.le_trans hD ho.dle
   refine zc5 (n:=pref.length) (by omega) (fun i z h'=>OI h2 h' z (leftL (pref.take i) (peelS S pref))) (by simpa [leftL] using OI.nil) ?_
   intro i z h4 hi ho4 k hk2
   have hle4:=Hp.le_trans hleD ho4.dle
   refine za0 (fun h5=>?_) (fun h5=>?_)
   · have hi':i<pref.length:=by simp only at h5; omega
     have e:leftL (pref.take (i+1)) (peelS S pref)=leftL (pref.take i) (peelS S pref)++(if pref[i]∈peelS S pref then [] else [pref[i]]):=by
      unfold leftL
      rw [←List.take_append_getElem hi',List.filter_append]
      congr 1
      by_cases hm:pref[i]∈peelS S pref<;>simp [List.filter,hm]
     have hll:(leftL (pref.take i) (peelS S pref)).length≤i:=by
      have:=List.length_filter_le (fun x=>decide (x∉peelS S pref)) (pref.take i)
      rw [List.length_take] at this
      unfold leftL; omega
     refine za3 (fun s h'=>OI h2 h' s.1 (leftL (pref.take (i+1)) (peelS S pref))) (fun s h' hs=>hk2 _ _ hi' hs) ?_
     refine (hp.le hle4).get i rfl hi' ?_
     refine zg9 (ho.il.le ho4.dle) (by omega) fun h6 hl6=>?_
     have ho6:=ho4.le hl6
     refine za2 (fun h7=>?_) (fun h7=>?_)
     · have hm:pref[i]∉peelS S pref:=by simpa using h7
       refine (hp.le (Hp.le_trans hle4 hl6)).get i rfl hi' ?_
       refine ho6.app (by omega) fun w h8 ho8=>?_
       show OI _ _ _ _
       rw [e,if_neg hm]; exact ho8
     · have hm:pref[i]∈peelS S pref:=by simpa using h7
       show OI _ _ _ _
       rw [e,if_pos hm,List.append_nil]; exact ho6
   · have:i=pref.length:=by simp only at h5; omega
     subst this
     rw [List.take_length] at ho4
     exact hk _ _ hle4 ⟨ho.il.le ho4.dle,ho4.il⟩
end
end Den
end

section
namespace Den
open Go Iv Lx
theorem Own.clr {h0 h:Hp} {x:Sl} {cs:List Value} {n:Nat} {K:Hp→Prop} (ho:Own h0 h 1 x cs) (hn:n≤cs.length) (H:∀h',Own h0 h' 1 (x.cut 0 n 1) (cs.take n)→K h'):clrP (x.cut n x.len 1) [.int .i64 0] K h:=by
 have hlen:=ho.2.1
 have hcap:=ho.2.2.1
 refine ⟨fun h1=>H h (ho.pre (by omega)),fun h1=>?_⟩
 have hl:(x.cut n x.len 1).len=x.len-n:=rfl
 have hlt:n<x.len:=by omega
 have ho':=ho
 obtain ⟨g1,g2,g3,g4⟩:=ho
 cases ha:x.a with
 | none=>rw [ha] at g4; simp only at g4; omega
 | some a=>
   rw [ha] at g4
   obtain ⟨k1,k2,k3,b,k4,k5,k6,k7⟩:=g4
   have hca:(x.cut n x.len 1).a=Option.some (a.add (n*1)):=by
    show (if x.cap=n then x.a else x.a.map (·.add (n*1)))=_
    rw [if_neg (by omega),ha]; rfl
   rw [hca]
   simp only [stO]
   rw [zb3]
   have hrl:(repl (x.cut n x.len 1).len [Value.int .i64 0]).length=x.len-n:=by rw [zpt,hl]; simp
   refine ⟨b,by rw [zbg]; exact k4,zdw k2 _,k5,?_,?_,?_⟩
   · rw [zcs,hrl]; omega
   · unfold repl
     rw [List.all_flatten,List.all_eq_true]
     intro l hl
     rw [(List.mem_replicate.1 hl).2]; rfl
   · rw [zbg,zcs,k1,Nat.zero_add,Nat.mul_one]
     refine H _ ⟨?_,?_,?_,?_⟩
     · intro kk bk hkk
       rw [Hp.ins_ne (fun hh=>by subst hh; rw [k3] at hkk; cases hkk)]
       exact g1 kk bk hkk
     · show (n-0)*1=_
       rw [List.length_take]; omega
     · show n-0≤x.cap-0; omega
     · rw [cut_a,ha]
       refine ⟨k1,k2,k3,_,Hp.ins_same _ _ _,k5,?_,?_⟩
       · show (splice b.cells n _).length=(x.cap-0)*1
         rw [zea (by omega)]
         exact k6
       · have e:(cs.take n).length=n:=by rw [List.length_take]; omega
         rw [e]
         show (splice b.cells n _).take n=_
         unfold splice
         rw [List.append_assoc,List.take_append_of_le_length (by rw [List.length_take]; omega),List.take_take,Nat.min_self]
         have:=congrArg (List.take n) k7
         rw [List.take_take,Nat.min_eq_left (by omega)] at this
         exact this
def kept (xs R:List Int) (j:Nat):List Int:=(xs.take j).filter fun x=>decide (x∉R)
theorem zqj {xs R:List Int} {j:Nat} (hj:j<xs.length):kept xs R (j+1)=kept xs R j++(if xs[j]∈R then [] else [xs[j]]):=by
 unfold kept
 rw [←List.take_append_getElem hj,List.filter_append]
 congr 1
 by_cases hm:xs[j]∈R<;>simp [List.filter,hm]
section
variable {h D : Hp} {S : PSk} {p p1 p2 : Addr} {rs l : Sl} {xs R : List Int} {Kb : Bool → Hp → Prop} {Ki : Int → Hp → Prop} {Ks : Sl → Hp → Prop} {K : (Sl × Sl) → Hp → Prop}
theorem za4b {G:Int→(Bool→Hp→Prop)→Hp→Prop} {r:Int} (ho:OI D h l xs) (hlen:xs.length≤1000)
 (hG:∀x h',D.le h'→∀K:Bool→Hp→Prop,(∀h'',h'.le h''→K (decide (x∈R)) h'')→callP (G x) K h') (hr:Fnd (fun x=>x∈R) xs r) (H:∀y h',OI D h' y (xs.filter fun x=>decide (x∉R))→Ks y h') :
 (ifP (r==(-1))
 (Ks l h)
 (loopP (S:=Int×Int×Unit) (fun s2 k3 h2=>
 (ifP (decide (s2.2.1<(l.len:Int)))
 (joinP (S:=Int×Unit) (fun s4 h3=>
 (k3 (s4.1,(IntKind.i64.wrap (s2.2.1+1)),()) h3))
 (fun k5=>
 (idxP l s2.2.1 1 fun a6=>
 (ldL (.int .i64) a6 (fun x7=>
 (callP (G x7) (fun r8 h4=>
 (ifP (!r8)
 (idxP l s2.1 1 fun a9=>
 (stP a9 [.int .i64 x7] (fun h5=>
 (k5 ((IntKind.i64.wrap (s2.1+1)),()) h5)) h4))
 (k5 (s2.1,()) h4))) h2)) h2))))
 (slP l s2.1 (l.len:Int) 1 fun c10=>
 (clrP c10 [.int .i64 0] (fun h6=>
 (slP l 0 s2.1 1 fun c11=>
 (Ks c11 h6))) h2))))
 (r,(IntKind.i64.wrap (r+1)),()) h)):=by
  have hll:=ho.il.len
  have hcap:=ho.2.2.1
  rcases hr with ⟨rfl,hno⟩ | ⟨k,hk,rfl,hk1,hk2⟩
  · refine zbt rfl (H _ _ ?_)
    have:xs.filter (fun x=>decide (x∉R))=xs:=by
     rw [List.filter_eq_self]
     exact fun a ha=>decide_eq_true (hno a ha)
    rw [this]; exact ho
  · refine zah (by rw [beq_eq_false_iff_ne]; omega) ?_
    have hkk:kept xs R k=xs.take k:=by
     unfold kept
     rw [List.filter_eq_self]
     intro a ha
     obtain ⟨j,hj,rfl⟩:=List.mem_take_iff_getElem.1 ha
     exact decide_eq_true (hk2 j (by omega) (by omega))
    have hks:kept xs R (k+1)=xs.take k:=by
     rw [zqj hk,if_pos hk1,List.append_nil,hkk]
    refine zal (fun st h'=>∃(j m:Nat) (ys:List Int),st=((m:Int),(j:Int),())∧k<j∧j≤xs.length∧OI D h' l ys∧ys.length=xs.length∧m=(kept xs R j).length∧m≤j∧ys.take m=kept xs R j∧ys.drop j=xs.drop j)
     (fun st=>(xs.length-st.2.1).toNat) ⟨k+1,k,xs,by rw [w64 (by omega)]; rfl,by omega,by omega,ho,rfl,by rw [hks]; simp; omega,by omega,by rw [hks],rfl⟩ ?_
    rintro _ h2 ⟨j,m,ys,rfl,hkj,hj,ho2,hyl,hm,hmj,htk,hdr⟩
    refine za0 (fun h3=>?_) (fun h3=>?_)
    · have hj':j<xs.length:=by simp only at h3; omega
      have hyj:ys[j]'(by omega)=xs[j]:=by
       have:=congrArg (fun l:List Int=>l[0]?) hdr
       simp only [List.getElem?_drop,Nat.add_zero] at this
       rw [List.getElem?_eq_getElem (by omega),List.getElem?_eq_getElem hj'] at this
       exact Option.some.inj this
      refine za3 (fun st h'=>∃(m':Nat) (ys':List Int),st.1=(m':Int)∧OI D h' l ys'∧ys'.length=xs.length∧m'=(kept xs R (j+1)).length∧m'≤j+1∧ys'.take m'=kept xs R (j+1)∧ys'.drop (j+1)=xs.drop (j+1)) ?_ ?_
      · rintro ⟨_,_⟩ h4 ⟨m',ys',rfl,g1,g2,g3,g4,g5,g6⟩
        exact ⟨⟨j+1,m',ys',by simp only; rw [w64 (by omega)]; rfl,by omega,by omega,g1,g2,g3,g4,g5,g6⟩,by simp only; rw [w64 (by omega)]; omega⟩
      · refine ho2.il.get j rfl (by omega) ?_
        have hdr1:ys.drop (j+1)=xs.drop (j+1):=by
         have:=congrArg (List.drop 1) hdr
         rw [List.drop_drop,List.drop_drop] at this
         exact this
        refine hG _ _ ho2.dle _ fun h4 hl4=>?_
        have ho4:=ho2.le hl4
        rw [hyj]
        refine za2 (fun h5=>?_) (fun h5=>?_)
        · have hx:xs[j]∉R:=by simpa using h5
          have hs:=zqj (xs:=xs) (R:=R) hj'
          rw [if_neg hx] at hs
          refine zyz m ho4 rfl (by omega) rfl (by decide) rfl fun h6 ho6=>⟨m+1,ys.set m xs[j],by simp only; rw [w64 (by omega)]; rfl,?_,by simpa using hyl,by rw [hs]; simp; omega,by omega,?_,?_⟩
          · rw [Nat.mul_one] at ho6
            have e:splice (ys.map ic) m [Value.int .i64 xs[j]]=(ys.set m xs[j]).map ic:=by
             rw [zki,List.map_set,List.set_eq_take_append_cons_drop,if_pos (by simp; omega)]
             rfl
            unfold OI
            rw [←e]; exact ho6
          · rw [hs,←htk,List.take_add_one,List.take_set_of_le (Nat.le_refl _),List.getElem?_set_self (by omega)]
            rfl
          · rw [List.drop_set_of_lt (by omega)]; exact hdr1
        · have hx:xs[j]∈R:=by simpa using h5
          have hs:=zqj (xs:=xs) (R:=R) hj'
          rw [if_pos hx,List.append_nil] at hs
          exact ⟨m,ys,rfl,ho4,hyl,by rw [hs]; exact hm,by omega,by rw [hs]; exact htk,hdr1⟩
    · have:j=xs.length:=by simp only at h3; omega
      subst this
      have hl2:=ho2.il.len
      refine ⟨by omega,by simp only; omega,by omega,?_⟩
      have e1:((l.len:Nat):Int).toNat=l.len:=rfl
      have e2:((m:Nat):Int).toNat=m:=rfl
      simp only
      rw [e1,e2]
      refine Own.clr ho2 (n:=m) (by simp; omega) fun h6 ho6=>⟨by decide,by omega,by omega,?_⟩
      have e3:(0:Int).toNat=0:=rfl
      rw [e3,e2]
      refine H _ _ ?_
      unfold OI
      have:xs.filter (fun x=>decide (x∉R))=ys.take m:=by
       rw [htk]
       unfold kept
       rw [List.take_length]
      rw [this,List.map_take]
      exact ho6
theorem ztn {x:Int} (hc:h.cell p2=some (Lf.sl.up rs)) (hr:IL h rs R) (hlen:R.length≤1000) (H:∀h',h.le h'→Kb (decide (x∈R)) h'):callP (F.y_henneberg_peeler_peel_2 x (some p2)) Kb h:=by
 refine za1 (fun b h'=>b=decide (x∈R)) (fun K' hk=>?_) fun b h' hl hb=>by subst hb; exact H h' hl
 unfold F.y_henneberg_peeler_peel_2
 exact ⟨_,hc,zfm hr (by omega) fun h' hl=>hk _ _ hl rfl⟩
theorem za09 (ho:OI D h l xs) (hxl:xs.length≤1000) (hc:D.cell p2=some (Lf.sl.up rs)) (hr:IL D rs R) (hlen:R.length≤1000) (H:∀y h',OI D h' y (xs.filter fun x=>decide (x∉R))→Ks y h'):callM (F.zb8 l (some p2,())) Ks h:=by
 refine zhx ?_
 unfold F.zb8
 refine za1 (fun r h'=>Fnd (fun x=>x∈R) xs r) (fun K2 hk=>?_) fun r h1 hl1 hr1=>?_
 · unfold F.zbv
   refine zov ho.il (by omega) (fun x _ h5 hl5 K5 hK5=>?_) fun r h' hl hr=>hk _ _ hl hr
   have hD5:=Hp.le_trans ho.dle hl5
   exact ztn (Hp.cell_le hD5 hc) (hr.le hD5) hlen fun h6 hl6=>hK5 _ _ hl6 (by rw [decide_eq_true_iff])
 · exact za4b (G:=fun x=>F.y_henneberg_peeler_peel_2 x (some p2,()).1) (ho.le hl1) hxl (fun x h' hl' K' hK'=>ztn (Hp.cell_le hl' hc) (hr.le hl') hlen hK') hr1 H
end
end Den
end

section
namespace Den
open Go Iv Lx
theorem za7s {can:List Int→Int→Bool} {pref:List Int} (hcn:∀R i,can R i=true→i∉R):∀(f1 f2:Nat) (Q:List Int),(leftL pref Q).length≤f1→(leftL pref Q).length≤f2→peelF can pref f1 Q=peelF can pref f2 Q:=by
 intro f1
 induction f1 with
 | zero=>
   intro f2 Q h1 h2
   cases hq:pref.find? (can Q) with
   | none=>rw [zdr hcn h1 hq,zdr hcn h2 hq]
   | some z=>
     obtain ⟨g,hg,_⟩:=zf4 hcn h1 hq
     omega
 | succ f1 ih=>
   intro f2 Q h1 h2
   cases hq:pref.find? (can Q) with
   | none=>rw [zdr hcn h1 hq,zdr hcn h2 hq]
   | some z=>
     obtain ⟨g,hg,e1,e2⟩:=zf4 hcn h1 hq
     obtain ⟨g',hg',e1',e2'⟩:=zf4 hcn h2 hq
     rw [e1,e1']
     have:g=f1:=by omega
     subst this
     exact ih g' _ e2 e2'
def allS (S:PSk):List Int:=allI S.pts.length S.cir.length
theorem zjf {S:PSk} (hs:sSk S):(allS S).length≤20:=by
 unfold allS
 rw [zwf]
 have:=hs.1
 have:=hs.2.1
 omega
theorem zoj {S:PSk} (hs:sSk S) {x:Int} (hx:x∈allS S):smI x:=by
 have:=zsc.1 hx
 have:=hs.1
 have:=hs.2.1
 unfold smI; omega
section
variable {h D : Hp} {s : TSketch} {S : PSk} {p p1 p2 : Addr} {rs l : Sl} {xs R : List Int} {Kb : Bool → Hp → Prop} {Ki : Int → Hp → Prop} {Ks : Sl → Hp → Prop} {K : (Sl × Sl) → Hp → Prop}
theorem za36 (hp:PR h p S) (hs:sSk S) (hv:VS S) (ht:GT h) (c1:h.cell p1=some (.pointer (some p))) (c2:h.cell p2=some (Lf.sl.up rs)) (hr:IL h rs R) (hR:R.length≤100000) (hl:IL h l xs) (hxl:xs.length≤1000) (hsm:∀x∈xs,smI x)
 (H:∀r h',h.le h'→Fnd (fun x=>canB (allC S) (cens S) R x=true) xs r→Ki r h'):callP (F.zba l (some p1,some p2,())) Ki h:=by
 refine za1 (fun r h'=>Fnd (fun x=>canB (allC S) (cens S) R x=true) xs r) (fun K' hk=>?_) fun b h' hl hb=>H b h' hl hb
 unfold F.zba
 refine zov hl (by omega) (fun x hx h5 hl5 K5 hK5=>?_) fun r h' hl hr=>hk _ _ hl hr
 refine za1 (fun b h'=>b=true↔canB (allC S) (cens S) R x=true) (fun K6 hk6=>?_) fun b h8 hl8 hb=>hK5 _ _ hl8 hb
 unfold F.y_henneberg_peeler_peel_1
 refine ⟨_,Hp.cell_le hl5 c1,_,Hp.cell_le hl5 c2,?_⟩
 exact zp2 (hp.le hl5) hs hv (ht.le hl5) (hr.le hl5) hR (hsm x hx) fun b h' hl hb=>hk6 _ _ hl (by rw [hb]; unfold canB; rw [decide_eq_true_iff])
theorem zaa6 {can:Int→Bool} {xs:List Int} {r:Int} (hf:Fnd (fun x=>can x=true) xs r):(r=-1∧xs.find? can=none)∨∃k,∃hk:k<xs.length,r=(k:Int)∧xs.find? can=some xs[k]:=by
 rcases hf with ⟨h1,h2⟩ | ⟨k,hk,h1,h2,h3⟩
 · exact .inl ⟨h1,by rw [List.find?_eq_none]; exact fun x hx=>by simpa using h2 x hx⟩
 · exact .inr ⟨k,hk,h1,zv0 hk (fun j hj hjk=>by simpa using h3 j hj hjk) h2⟩
theorem zvf (hp:PR h p S) (hs:sSk S) (hv:VS S) (ht:GT h) (H:∀a b h',h.le h'→IL h' a (peelS S (allS S))→IL h' b (leftL (allS S) (peelS S (allS S)))→K (a,b) h'):callP (F.y_henneberg_peeler_peel (some p)) K h:=by
 refine za1 (fun r h'=>IL h' r.1 (peelS S (allS S))∧IL h' r.2 (leftL (allS S) (peelS S (allS S)))) (fun K' hk=>?_) fun r h' hl hr=>H r.1 r.2 h' hl hr.1 hr.2
 unfold F.y_henneberg_peeler_peel
 obtain ⟨can,hcan⟩:∃can,can=canB (allC S) (cens S):=⟨_,rfl⟩
 have hcn:∀R i,can R i=true→i∉R:=by rw [hcan]; exact zkl
 have hal:=zjf hs
 refine ze0 fun p1 h1 hl1 c1=>?_
 intro b e hbf
 have hp1:=hp.le hl1
 have ht1:=ht.le hl1
 refine zmr (fun f st h'=>∃(R:List Int) (y:Sl) (D:Hp),st=(some ⟨b,0,none⟩,())∧h1.le D∧D b=none∧MB h' b [Lf.sl.up y]∧OI D h' y R∧(∀a,y.a=some a→a.block≠b)∧R.length+(leftL (allS S) R).length≤(allS S).length∧(leftL (allS S) R).length≤f ∧
  peelF can (allS S) (leftL (allS S) R).length R=peelS S (allS S)) (n0:=(allS S).length)
  ⟨[],nilS,h1,rfl,Hp.le_refl _,hbf,⟨e,Hp.ins_same _ _ _⟩,Own.nil (Hp.le_ins hbf),fun a ha=>(by cases ha),?_⟩ ?_
 · have e:leftL (allS S) []=allS S:=by unfold leftL; rw [List.filter_eq_self]; simp
   rw [e]
   exact ⟨by simp,Nat.le_refl _,by rw [hcan]; rfl⟩
 rintro f _ h2 ⟨R,y,D,rfl,hD,hDb,hm,ho,hyb,hRl,hf,hpf⟩ K2 hK2
 have hD2:=ho.dle
 have hle2:h1.le h2:=Hp.le_trans hD hD2
 refine ⟨_,Hp.cell_le hle2 c1,?_⟩
 refine zqn (hp1.le hle2) hs fun r6 h3 hl3 ho6=>?_
 have hle3:=Hp.le_trans hle2 hl3
 have hm3:=hm.le hl3
 have ho3:=ho.le hl3
 have c2:∀{h':Hp},MB h' b [Lf.sl.up y]→h'.cell ⟨b,0,none⟩=some (Lf.sl.up y):=fun hm=>by
  have:=hm.ld 0 rfl
  rwa [zb3] at this
 refine za36 (hp1.le hle3) hs hv (ht1.le hle3) (Hp.cell_le hle3 c1) (c2 hm3) ho3.il (by omega) (xs:=allS S) ho6.il (by omega) (fun x hx=>zoj hs hx) fun r7 h4 hl4 hr7=>?_
 have hle4:=Hp.le_trans hle3 hl4
 have hm4:=hm3.le hl4
 have ho4:=ho3.le hl4
 rw [←hcan] at hr7
 rcases zaa6 hr7 with ⟨hr,hnone⟩ | ⟨k,hk0,hr,hsome⟩
 · refine zbt (decide_eq_true (by omega)) ?_
   have hRp:R=peelS S (allS S):=by rw [←hpf,zdr hcn (Nat.le_refl _) hnone]
   refine ⟨_,Hp.cell_le hle4 c1,?_⟩
   refine zqn (hp1.le hle4) hs fun r9 h5 hl5 ho9=>?_
   have hm5:=hm4.le hl5
   have ho5:=ho4.le hl5
   refine za09 (D:=h4) (xs:=allS S) (R:=R) (rs:=y) ho9 (by omega) (c2 hm4) ho4.il (by omega) fun z h6 ho6z=>?_
   have l46:h4.le h6:=ho6z.dle
   have hm6:=hm4.le l46
   refine ⟨_,c2 hm6,?_⟩
   refine hk _ _ (Hp.le_trans hl1 (Hp.le_trans hle4 l46)) ⟨?_,?_⟩
   · rw [←hRp]
     exact (ho4.le l46).il
   · have:leftL (allS S) (peelS S (allS S))=(allS S).filter fun x=>decide (x∉R):=by rw [←hRp]; rfl
     rw [this]
     exact ho6z.il
 · refine zah (decide_eq_false (by omega)) ?_
   refine ⟨_,c2 hm4,_,Hp.cell_le hle4 c1,?_⟩
   refine zqn (hp1.le hle4) hs fun r16 h5 hl5 ho16=>?_
   have hm5:=hm4.le hl5
   have ho5:=ho4.le hl5
   rw [hr]
   refine ho16.il.get (xs:=allS S) k rfl hk0 ?_
   have hyl:=ho5.il.len
   have hbb:h5 b≠none:=by obtain ⟨e,hm⟩:=hm5; rw [hm]; simp
   refine zmx ho5 (n:=1) (new:=[ic (allS S)[k]]) rfl rfl rfl (by omega) (by omega) fun w h6 hw _ hs6 hb6=>?_
   have hm6:MB h6 b [Lf.sl.up y]:=by
    obtain ⟨e,hm⟩:=hm5
    exact ⟨e,by rw [hs6 b hbb fun a ha=>(hyb a ha).symm]; exact hm⟩
   have hwb:∀a,w.a=some a→a.block≠b:=fun a ha hh=>by
    rcases hb6 a ha with ⟨a',h8,h9⟩ | h8
    · exact hyb a' h8 (by rw [h9]; exact hh)
    · rw [hh] at h8; exact hbb h8
   obtain ⟨g,hg1,hg2,hg3⟩:=zf4 hcn (Nat.le_refl _) hsome
   have hlt:(leftL (allS S) (R++[(allS S)[k]])).length<(leftL (allS S) R).length:=by omega
   have key:=hm6.st (j:=0) (v:=Lf.sl.up w) (K:=fun h=>K2 (some ⟨b,0,none⟩,()) h) (by simp) rfl fun h8 hm8 hs8=>hK2 (leftL (allS S) (R++[(allS S)[k]])).length _ _ (by omega) ⟨R++[(allS S)[k]],w,D,rfl,hD,hDb,hm8,?_,hwb,by simp; omega,Nat.le_refl _,?_⟩
   · rw [zb3] at key
     exact key
   · obtain ⟨e8,hm8'⟩:=hm8
     rw [zxr hm8' hs8]
     have:OI D h6 w (R++[(allS S)[k]]):=by
      unfold OI
      rw [List.map_append]
      exact hw
     exact zse this hDb hwb
   · rw [←hpf,hg2]
     exact za7s hcn _ _ _ (Nat.le_refl _) hg3
theorem zq4 (hx:SK h s S) (hs:sSk S) (ht:GT h) (H0:∀h',h.le h'→¬VS S→K (nilS,nilS) h') (H:∀a b h',h.le h'→VS S→IL h' a (peelS S (allS S))→IL h' b (leftL (allS S) (peelS S (allS S)))→K (a,b) h'):callP (F.zf7 s) K h:=by
 refine za1 (fun r h'=>(¬VS S∧r=(nilS,nilS))∨(VS S∧IL h' r.1 (peelS S (allS S))∧IL h' r.2 (leftL (allS S) (peelS S (allS S))))) (fun K' hk=>?_) fun r h' hl hr=>by
  rcases hr with ⟨h1,rfl⟩ | ⟨h1,h2,h3⟩
  · exact H0 h' hl h1
  · exact H r.1 r.2 h' hl h1 h2 h3
 unfold F.zf7
 refine zoe hx hs ht fun r h1 hl1 hr=>?_
 refine zax (fun h2=>hk _ _ hl1 (.inl ⟨fun hv=>h2 (hr.2 hv),rfl⟩)) (fun h2=>?_)
 have hv:=hr.1 h2
 refine zk3 (hx.le hl1) hv hs fun p h3 hl3 hp=>?_
 refine zvf hp hs hv (ht.le (Hp.le_trans hl1 hl3)) fun a b h4 hl4 ha hb=>hk _ _ (Hp.le_trans hl1 (Hp.le_trans hl3 hl4)) (.inr ⟨hv,ha,hb⟩)
theorem zyb {item:Int} (hx:SK h s S) (hs:sSk S) (ht:GT h) (hr:IL h rs R) (hR:R.length≤100000) (hi:-9223372036854775808≤item∧item≤9223372036854775807) (H:∀r h',h.le h'→(VS S∧item∈allS S→r=((wtL (allC S) (remL (its S) item R):Nat):Int))∧(¬(VS S∧item∈allS S)→r=0)→Ki r h'):callP (F.zgw s item rs) Ki h:=by
 refine za1 (fun r h'=>(VS S∧item∈allS S→r=((wtL (allC S) (remL (its S) item R):Nat):Int))∧(¬(VS S∧item∈allS S)→r=0)) (fun K' hk=>?_) fun r h' hl hr=>H r h' hl hr
 unfold F.zgw
 refine zoe hx hs ht fun r h1 hl1 hr1=>?_
 refine zax (fun h2=>hk _ _ hl1 ⟨fun hh=>absurd (hr1.2 hh.1) h2,fun _=>rfl⟩) (fun h2=>?_)
 have hv:=hr1.1 h2
 refine zk3 (hx.le hl1) hv hs fun p h3 hl3 hp=>?_
 have hle3:=Hp.le_trans hl1 hl3
 refine zro hp hs hi fun b hb=>?_
 refine za2 (fun h4=>hk _ _ hle3 ⟨fun hh=>?_,fun _=>rfl⟩) (fun h4=>?_)
 · rw [hb.2 hh.2] at h4; cases h4
 have hal:=zhw hs
 have hrl:(remL (its S) item R).length≤(its S).length:=zp1
 rw [zdq] at hrl
 refine zkx hp hs hv (hr.le hle3) hR fun r4 h5 hl5 ho5=>?_
 have hle5:=Hp.le_trans hle3 hl5
 refine zoi (hp.le hl5) hs hv (ht.le hle5) ho5.il (by omega) (fun i hi=>?_) fun h6 hl6=>hk _ _ (Hp.le_trans hle5 hl6) ⟨fun _=>rfl,fun hh=>absurd ⟨hv,hb.1 (by simpa using h4)⟩ hh⟩
 obtain ⟨k,h1,h2,_⟩:=zkw hi
 rw [zdq] at h1
 exact ⟨k,h1,h2⟩
theorem zk1 {item:Int} (hx:SK h s S) (hs:sSk S) (ht:GT h) (hr:IL h rs R) (hR:R.length≤100000) (hi:-9223372036854775808≤item∧item≤9223372036854775807) (H:∀b h',h.le h'→(b=true↔VS S∧item∈allS S∧canP (allC S) (cens S) R item)→Kb b h'):callP (F.zcy s item rs) Kb h:=by
 refine za1 (fun b h'=>b=true↔VS S∧item∈allS S∧canP (allC S) (cens S) R item) (fun K' hk=>?_) fun b h' hl hb=>H b h' hl hb
 unfold F.zcy
 refine zoe hx hs ht fun r h1 hl1 hr1=>?_
 refine zax (fun h2=>hk _ _ hl1 ⟨fun hh=>(by cases hh),fun hh=>absurd (hr1.2 hh.1) h2⟩) (fun h2=>?_)
 have hv:=hr1.1 h2
 refine zk3 (hx.le hl1) hv hs fun p h3 hl3 hp=>?_
 have hle3:=Hp.le_trans hl1 hl3
 refine zro hp hs hi fun b hb=>?_
 refine za2 (fun h4=>?_) (fun h4=>hk _ _ hle3 ⟨fun hh=>(by cases hh),fun hh=>?_⟩)
 · have hia:item∈allS S:=hb.1 h4
   refine zp2 hp hs hv (ht.le hle3) (hr.le hle3) hR (zoj hs hia) fun b5 h5 hl5 hb5=>hk _ _ (Hp.le_trans hle3 hl5) ?_
   rw [hb5]
   exact ⟨fun hh=>⟨hv,hia,hh⟩,fun hh=>hh.2.2⟩
 · rw [hb.2 hh.2.1] at h4; cases h4
theorem zym {item:Int} (hx:SK h s S) (hs:sSk S) (hr:IL h rs R) (hR:R.length≤100000) (H:∀r h',h.le h'→(VS S∧item∈allS S→r=((wtL (allC S) (remL (its S) item R):Nat):Int))∧(¬(VS S∧item∈allS S)→r=0)→Ki r h'):callP (F.zkf s item rs) Ki h:=by
 refine za1 (fun r h'=>(VS S∧item∈allS S→r=((wtL (allC S) (remL (its S) item R):Nat):Int))∧(¬(VS S∧item∈allS S)→r=0)) (fun K' hk=>?_) fun r h' hl hr=>H r h' hl hr
 unfold F.zkf
 have hal:=zhw hs
 have hrl:(remL (its S) item R).length≤(its S).length:=zp1
 rw [zdq] at hrl
 refine za3 (fun _ h'=>h.le h'∧VS S∧item∈allS S) ?_ ?_
 · rintro _ h1 ⟨hl1,hv,hia⟩
   refine zk6 (hx.le hl1) hs hv (hr.le hl1) hR fun r3 h2 hl2 ho2=>?_
   have hle2:=Hp.le_trans hl1 hl2
   refine zqv (hx.le hle2) hs hv ho2.il (by omega) (fun i hi=>?_) fun h3 hl3=>hk _ _ (Hp.le_trans hle2 hl3) ⟨fun _=>rfl,fun hh=>absurd ⟨hv,hia⟩ hh⟩
   obtain ⟨k,h1,h2,_⟩:=zkw hi
   rw [zdq] at h1
   exact ⟨k,h1,h2⟩
 · refine zfk hx hs fun r h1 hl1 hr1=>?_
   refine zax (fun h2=>hk _ _ hl1 ⟨fun hh=>absurd (hr1.2 hh.1) h2,fun _=>rfl⟩) (fun h2=>?_)
   have hv:=hr1.1 h2
   refine zj0 (hx.le hl1) hs fun r6 h3 hl3 ho3=>?_
   have hall:=zjf hs
   unfold allS at hall
   refine zg9 ho3.il (by omega) fun h4 hl4=>?_
   have hle4:=Hp.le_trans hl1 (Hp.le_trans hl3 hl4)
   refine za2 (fun h5=>hk _ _ hle4 ⟨fun hh=>?_,fun _=>rfl⟩) (fun h5=>⟨hle4,hv,by simpa [allS] using h5⟩)
   have:=hh.2
   unfold allS at this
   rw [decide_eq_true this] at h5; cases h5
theorem zsi {item:Int} (hx:SK h s S) (hs:sSk S) (hr:IL h rs R) (hR:R.length≤100000) (H:∀b h',h.le h'→(b=true↔VS S∧item∈allS S∧canP (allC S) (cens S) R item)→Kb b h'):callP (F.zdj s item rs) Kb h:=by
 by_cases hv:VS S
 · exact znu hx hs hv hr hR fun b h' hl hb=>H b h' hl (by rw [hb]; exact ⟨fun hh=>⟨hv,hh⟩,fun hh=>hh.2⟩)
 · refine za1 (fun b h'=>b=false) (fun K' hk=>?_) fun b h' hl hb=>by subst hb; exact H false h' hl ⟨fun hh=>(by cases hh),fun hh=>absurd hh.1 hv⟩
   unfold F.zdj
   refine za3 (fun _ _=>False) (fun _ _ hh=>hh.elim) ?_
   refine zfk hx hs fun r h1 hl1 hr1=>?_
   exact zax (fun _=>hk _ _ hl1 rfl) (fun h2=>absurd (hr1.1 h2) hv)
theorem zpq (hx:SK h s S) (hs:sSk S) (H0:∀h',h.le h'→¬VS S→K (nilS,nilS) h') (H:∀a b h',h.le h'→VS S→IL h' a (peelS S (allS S))→IL h' b (leftL (allS S) (peelS S (allS S)))→K (a,b) h'):callP (F.zke s) K h:=by
 refine za1 (fun r h'=>(¬VS S∧r=(nilS,nilS))∨(VS S∧IL h' r.1 (peelS S (allS S))∧IL h' r.2 (leftL (allS S) (peelS S (allS S))))) (fun K' hk=>?_) fun r h' hl hr=>by
  rcases hr with ⟨h1,rfl⟩ | ⟨h1,h2,h3⟩
  · exact H0 h' hl h1
  · exact H r.1 r.2 h' hl h1 h2 h3
 unfold F.zke
 have hall:=zjf hs
 refine zj0 hx hs fun r1 h1 hl1 ho1=>?_
 by_cases hv:VS S
 · exact zqp (pref:=allS S) (hx.le hl1) hs hv ho1.il (by omega) (fun x hx=>hx) fun a b h2 hl2 ha hb=>hk _ _ (Hp.le_trans hl1 hl2) (.inr ⟨hv,ha,hb⟩)
 · refine za1 (fun r h'=>r=(nilS,nilS)) (fun K2 hk2=>?_) fun r h' hl hr=>hk _ _ (Hp.le_trans hl1 hl) (.inl ⟨hv,by rw [hr]⟩)
   unfold F.zgh
   refine zfk (hx.le hl1) hs fun r h2 hl2 hr1=>?_
   exact zax (fun _=>hk2 _ _ hl2 rfl) (fun h2=>absurd (hr1.1 h2) hv)
end
end Den
end

section
namespace Den
open Go Iv Lx
abbrev PStep:=Int×Int×List Int×Int
def stc (x:TStep):List Value:=[.int .i64 x.kind,.int .i64 x.target,Lf.sl.up x.uses,.int .i64 x.branch]
def STP (h:Hp) (x:TStep) (b:PStep):Prop:=x.kind=b.1∧x.target=b.2.1∧IL h x.uses b.2.2.1∧x.branch=b.2.2.2
theorem zf1:Rec stc 4 STP:=⟨fun _=>rfl,by decide,fun _=>rfl,fun hx hl=>⟨hx.1,hx.2.1,hx.2.2.1.le hl,hx.2.2.2⟩⟩
def stepP (L:List PCon) (cs:List Int) (item:Int) (u:List Int):PStep:=
 if item<0 then (if u.length=0 then 5 else 6,-1-item,u,0)
 else if u.length=0 then (1,item,u,0)
 else if u.length=1 then (if eqK (L.getD (u.getD 0 0).toNat dC).kind=2 then 4 else 2,item,u,0)
 else (3,item,u,if kindP (L.getD (u.getD 0 0).toNat dC) cs item=1∧kindP (L.getD (u.getD 1 0).toNat dC) cs item=1 then 0 else 1)
def planN (S:PSk) (R:List Int):Nat→List PStep
 | 0=>[]
 | k+1=>stepP (allC S) (cens S) (R.getD k 0) (remL (its S) (R.getD k 0) (R.take k)) :: planN S R k
theorem zjo {S:PSk} {R:List Int}:∀k,(planN S R k).length=k
 | 0=>rfl
 | k+1=>by unfold planN; rw [List.length_cons,zjo k]
def planS (S:PSk):List PStep:=planN S (peelS S (allS S)) (peelS S (allS S)).length
theorem za71 {α:Type} {l m:List α} {d:α} {k:Nat} (h:k<l.length):(l++m).getD k d=l.getD k d:=by
 rw [List.getD_eq_getElem?_getD,List.getD_eq_getElem?_getD,List.getElem?_append_left h]
theorem za72 {α:Type} {l m:List α} {d:α} {k:Nat} (h:l.length≤k):(l++m).getD k d=m.getD (k-l.length) d:=by
 rw [List.getD_eq_getElem?_getD,List.getD_eq_getElem?_getD,List.getElem?_append_right h]
theorem zyd {can:List Int→Int→Bool} {pref:List Int}:∀{f:Nat} {R:List Int},(∀k,k<R.length→can (R.take k) (R.getD k 0)=true∧R.getD k 0∈pref)→∀k,k<(peelF can pref f R).length→can ((peelF can pref f R).take k) ((peelF can pref f R).getD k 0)=true∧(peelF can pref f R).getD k 0∈pref
 | 0,R,h=>h
 | f+1,R,h=>by
   unfold peelF
   cases hq:pref.find? (can R) with
   | none=>exact h
   | some i=>
     refine zyd fun k hk=>?_
     rw [List.length_append,List.length_singleton] at hk
     rcases Nat.lt_or_ge k R.length with h1 | h1
     · have:=h k h1
       rw [List.take_append_of_le_length (by omega),za71 h1]
       exact this
     · have:k=R.length:=by omega
       subst this
       rw [List.take_append_of_le_length (Nat.le_refl _),List.take_length,za72 (Nat.le_refl _)]
       simp only [Nat.sub_self,List.getD_cons_zero]
       exact ⟨List.find?_some hq,List.mem_of_find?_eq_some hq⟩
theorem zsg {S:PSk} {pref:List Int} {k:Nat} (hk:k<(peelS S pref).length):canP (allC S) (cens S) ((peelS S pref).take k) ((peelS S pref).getD k 0)∧(peelS S pref).getD k 0∈pref:=by
 have:=zyd (can:=canB (allC S) (cens S)) (pref:=pref) (f:=pref.length) (R:=[]) (fun k hk=>by simp at hk) k hk
 exact ⟨of_decide_eq_true this.1,this.2⟩
theorem zabk {k:Int} (h:1≤k) (h2:k≤17):1≤eqK k:=by
 have:∀i:Fin 17,1≤eqK ((i:Nat)+1:Int):=by decide
 have:=this ⟨(k-1).toNat,by omega⟩
 rw [show (((⟨(k-1).toNat,by omega⟩:Fin 17):Nat)+1:Int)=k by simp; omega] at this
 exact this
theorem za9n {L:List PCon}:∀{l:List Int},(∀i∈l,1≤eqK (L.getD i.toNat dC).kind)→l.length≤wtL L l
 | [],_=>Nat.zero_le _
 | a :: r,h=>by
   have h1:=za9n (L:=L) (l:=r) fun i hi=>h i (List.mem_cons_of_mem _ hi)
   have h2:=h a (List.mem_cons_self ..)
   unfold wtL at h1 ⊢
   simp only [List.map_cons,List.sum_cons,List.length_cons]
   omega
theorem za1c {S:PSk} {R:List Int} {item:Int} (hs:sSk S) (hv:VS S) (hc:canP (allC S) (cens S) R item):(remL (its S) item R).length≤most item:=by
 have h1:wtL (allC S) (remL (its S) item R)≤most item:=hc.2.1
 refine Nat.le_trans (za9n fun i hi=>?_) h1
 obtain ⟨k,h1,rfl,_⟩:=zkw hi
 rw [zdq] at h1
 have h3:(allC S).getD ((k:Nat):Int).toNat dC=(allC S)[k]:=zck h1
 rw [h3]
 have:=(zhb hv hs _ (List.getElem_mem h1)).1.1
 exact zabk this.1 this.2
section
variable {h : Hp} {s : TSketch} {S : PSk} {p : Addr} {item : Int} {us : Sl} {u : List Int} {Kb : Bool → Hp → Prop} {Ki : Int → Hp → Prop} {K : TStep → Hp → Prop}
theorem zzg {u:List Int} (h:u.length≤2):u=[]∨(∃a,u=[a])∨∃a b,u=[a,b]:=by
 rcases u with _ | ⟨a,_ | ⟨b,_ | ⟨c,r⟩⟩⟩
 · exact .inl rfl
 · exact .inr (.inl ⟨a,rfl⟩)
 · exact .inr (.inr ⟨a,b,rfl⟩)
 · simp at h
theorem za89 (hp:PR h p S) (hs:sSk S) (hv:VS S) (ht:GT h) (hu:IL h us u) (hul:u.length≤2) (hin:∀i∈u,∃k:Nat,k<(allC S).length∧i=k) (hi:smI item) (H:∀x h',h.le h'→STP h' x (stepP (allC S) (cens S) item u)→K x h'):callP (F.y_henneberg_peeler_step (some p) item us) K h:=by
 refine za1 (fun x h'=>STP h' x (stepP (allC S) (cens S) item u)) (fun K' hk=>?_) fun b h' hl hb=>H b h' hl hb
 unfold F.y_henneberg_peeler_step
 have ul:=hu.len
 have e1:IntKind.i64.wrap (-1-item)=-1-item:=w64 (by unfold smI at hi; omega)
 rw [e1]
 refine za0 (fun h1=>?_) (fun h1=>?_)
 · refine za3 (fun s h'=>h.le h'∧STP h' ⟨s.1.1,s.1.2.1,s.1.2.2.1,s.1.2.2.2.1⟩ (stepP (allC S) (cens S) item u)) (fun s h' hs=>hk _ _ hs.1 hs.2) ?_
   refine za0 (fun h2=>⟨Hp.le_refl _,?_⟩) (fun h2=>⟨Hp.le_refl _,?_⟩)
   · unfold stepP
     rw [if_pos h1,if_neg (by omega)]
     exact ⟨rfl,rfl,hu,rfl⟩
   · unfold stepP
     rw [if_pos h1,if_pos (by omega)]
     exact ⟨rfl,rfl,hu,rfl⟩
 · refine za3 (fun s h'=>h.le h'∧STP h' ⟨s.1.1,s.1.2.1,s.1.2.2.1,s.1.2.2.2.1⟩ (stepP (allC S) (cens S) item u)) (fun s h' hs=>hk _ _ hs.1 hs.2) ?_
   rcases zzg hul with rfl | ⟨a,rfl⟩ | ⟨a,b,rfl⟩
   · simp only [List.length_nil] at ul
     refine za7 (fun h2=>by omega) (fun _=>za7 (fun h2=>by omega) (fun _=>za7 (fun h2=>by omega) (fun _=>⟨Hp.le_refl _,?_⟩)))
     unfold stepP
     rw [if_neg h1,if_pos (show ([]:List Int).length=0 from rfl)]
     exact ⟨rfl,rfl,hu,rfl⟩
   · simp only [List.length_singleton] at ul
     refine za7 (fun h2=>by omega) (fun _=>za7 (fun h2=>?_) (fun h2=>by omega))
     refine hu.get 0 rfl (by simp) ?_
     obtain ⟨k,hk1,hk2⟩:=hin a (by simp)
     simp only [List.getElem_cons_zero]
     rw [hk2]
     refine zkn hp hs hv ht hk1 ?_
     have fin:∀kd:Int,kd=(if eqK ((allC S).getD k dC).kind=2 then 4 else 2)→h.le h∧STP h ⟨kd,item,us,0⟩ (stepP (allC S) (cens S) item [(k:Int)]):=fun kd e=>⟨Hp.le_refl _,by
      unfold stepP
      rw [if_neg h1,if_neg (by simp),if_pos (show [(k:Int)].length=1 from rfl)]
      exact ⟨e,rfl,by rw [←hk2]; exact hu,rfl⟩⟩
     refine za7 (fun h3=>fin _ (by rw [if_pos (by omega)])) (fun h3=>za7 (fun h4=>fin _ (by rw [if_neg (by omega)])) (fun h4=>by omega))
   · have ul2:us.len=2:=by simpa using ul
     refine za7 (fun h2=>?_) (fun h2=>by omega)
     refine hu.get 0 rfl (by simp) ?_
     obtain ⟨k,hk1,hk2⟩:=hin a (by simp)
     obtain ⟨j,hj1,hj2⟩:=hin b (by simp)
     simp only [List.getElem_cons_zero]
     have fin:∀(br:Int) h',h.le h'→br=(if kindP ((allC S).getD k dC) (cens S) item=1∧kindP ((allC S).getD j dC) (cens S) item=1 then 0 else 1)→h.le h'∧STP h' ⟨3,item,us,br⟩ (stepP (allC S) (cens S) item [a,b]):=fun kd h' hl e=>⟨hl,by
      unfold stepP
      rw [if_neg h1,if_neg (by simp),if_neg (by simp)]
      refine ⟨rfl,rfl,hu.le hl,?_⟩
      rw [hk2,hj2]
      exact e⟩
     rw [show (a:Int)=((k:Nat):Int) from hk2]
     refine zpl hp hs hv hk1 fun h3 hl3=>?_
     rw [←hk2]
     refine zax (fun h4=>fin _ _ hl3 (by rw [if_neg (fun hh=>h4 hh.1)])) (fun h4=>?_)
     refine (hu.le hl3).get 1 rfl (by simp) ?_
     simp only [List.getElem_cons_succ,List.getElem_cons_zero]
     rw [show (b:Int)=((j:Nat):Int) from hj2]
     refine zpl (hp.le hl3) hs hv hj1 fun h5 hl5=>?_
     rw [←hj2]
     have hl:=Hp.le_trans hl3 hl5
     refine zax (fun h6=>fin _ _ hl (by rw [if_neg (fun hh=>h6 hh.2)])) (fun h6=>fin _ _ hl (by rw [if_pos ⟨h4,h6⟩]))
theorem za3k (hx:SK h s S) (hs:sSk S) (hv:VS S) (hu:IL h us u) (hul:u.length≤most item) (hin:∀i∈u,∃k:Nat,k<(allC S).length∧i=k) (hi:smI item) (H:∀x h',h.le h'→STP h' x (stepP (allC S) (cens S) item u)→K x h'):callP (F.zmm s item us) K h:=by
 refine za1 (fun x h'=>STP h' x (stepP (allC S) (cens S) item u)) (fun K' hk=>?_) fun b h' hl hb=>H b h' hl hb
 unfold F.zmm
 have ul:=hu.len
 have e1:IntKind.i64.wrap (-1-item)=-1-item:=w64 (by unfold smI at hi; omega)
 rw [e1]
 have hok:=zhb hv hs
 have hul2:u.length≤2:=by unfold most at hul; split at hul<;>omega
 refine zns hx hv hs fun r1 h2 hl2 hL=>zm4 (hx.le hl2) hs fun r2 h3 hl3 hC=>?_
 have hle3:=Hp.le_trans hl2 hl3
 have hu3:=hu.le hle3
 refine za0 (fun h1=>?_) (fun h1=>?_)
 · refine za3 (fun s h'=>h.le h'∧STP h' ⟨s.1.1,s.1.2.1,s.1.2.2.1,s.1.2.2.2.1⟩ (stepP (allC S) (cens S) item u)) (fun s h' hs=>hk _ _ hs.1 hs.2) ?_
   have:u.length≤1:=by unfold most at hul; rw [if_pos h1] at hul; exact hul
   refine za7 (fun h2=>⟨hle3,?_⟩) (fun h2=>⟨hle3,?_⟩)
   · unfold stepP
     rw [if_pos h1,if_neg (by omega)]
     exact ⟨rfl,rfl,hu3,rfl⟩
   · unfold stepP
     rw [if_pos h1,if_pos (by omega)]
     exact ⟨rfl,rfl,hu3,rfl⟩
 · refine za3 (fun s h'=>h.le h'∧STP h' ⟨s.1.1,s.1.2.1,s.1.2.2.1,s.1.2.2.2.1⟩ (stepP (allC S) (cens S) item u)) (fun s h' hs=>hk _ _ hs.1 hs.2) ?_
   rcases zzg hul2 with rfl | ⟨a,rfl⟩ | ⟨a,b,rfl⟩
   · simp only [List.length_nil] at ul
     refine za7 (fun h2=>⟨hle3,?_⟩) (fun h2=>by omega)
     unfold stepP
     rw [if_neg h1,if_pos (show ([]:List Int).length=0 from rfl)]
     exact ⟨rfl,rfl,hu3,rfl⟩
   · simp only [List.length_singleton] at ul
     refine za7 (fun h2=>by omega) (fun _=>za7 (fun h2=>?_) (fun h2=>by omega))
     refine hu3.get 0 rfl (by simp) ?_
     obtain ⟨k,hk1,hk2⟩:=hin a (by simp)
     simp only [List.getElem_cons_zero]
     rw [show (a:Int)=((k:Nat):Int) from hk2]
     refine (hL.le zac hl3).get zac k rfl hk1 fun a9 x hxx hcx=>⟨_,hcx 0 _ rfl,_,hcx 1 _ rfl,_,hcx 2 _ rfl,_,hcx 3 _ rfl,_,hcx 4 _ rfl,?_⟩
     rw [←hk2]
     refine zk5 (x:=x) (c:=(allC S)[k]) hxx.1 (hok _ (List.getElem_mem hk1)).1.1 fun h4 hl4=>?_
     have fin:∀kd:Int,kd=(if eqK (allC S)[k].kind=2 then 4 else 2)→h.le h4∧STP h4 ⟨kd,item,us,0⟩ (stepP (allC S) (cens S) item [a]):=fun kd e=>⟨Hp.le_trans hle3 hl4,by
      unfold stepP
      rw [if_neg h1,if_neg (by simp),if_pos (show [a].length=1 from rfl)]
      refine ⟨?_,rfl,hu3.le hl4,rfl⟩
      rw [hk2,e,←zck (d:=dC) hk1]
      rfl⟩
     refine za7 (fun h3=>fin _ (by rw [if_pos (by omega)])) (fun h3=>fin _ (by rw [if_neg (by omega)]))
   · have ul2:us.len=2:=by simpa using ul
     refine za7 (fun h2=>by omega) (fun _=>za7 (fun h2=>by omega) (fun _=>?_))
     refine hu3.get 0 rfl (by simp) ?_
     obtain ⟨k,hk1,hk2⟩:=hin a (by simp)
     obtain ⟨j,hj1,hj2⟩:=hin b (by simp)
     simp only [List.getElem_cons_zero]
     have fin:∀(br:Int) h',h.le h'→br=(if kindP (allC S)[k] (cens S) item=1∧kindP (allC S)[j] (cens S) item=1 then 0 else 1)→h.le h'∧STP h' ⟨3,item,us,br⟩ (stepP (allC S) (cens S) item [a,b]):=fun kd h' hl e=>⟨hl,by
      unfold stepP
      rw [if_neg h1,if_neg (by simp),if_neg (by simp)]
      refine ⟨rfl,rfl,hu.le hl,?_⟩
      rw [hk2,hj2,e,←zck (d:=dC) hk1,←zck (d:=dC) hj1]
      rfl⟩
     have hL3:=hL.le zac hl3
     rw [show (a:Int)=((k:Nat):Int) from hk2]
     refine hL3.get zac k rfl hk1 fun a9 x hxx hcx=>⟨_,hcx 0 _ rfl,_,hcx 1 _ rfl,_,hcx 2 _ rfl,_,hcx 3 _ rfl,_,hcx 4 _ rfl,?_⟩
     rw [←hk2]
     have ok1:=hok _ (List.getElem_mem hk1)
     refine zpp (x:=x) hxx hC.il ok1.2 ok1.1.cirOk ok1.1.lenC fun h4 hl4=>?_
     have hle4:=Hp.le_trans hle3 hl4
     refine za7 (fun h5=>?_) (fun h5=>fin _ _ hle4 (by rw [if_neg (fun hh=>h5 hh.1)]))
     refine (hu3.le hl4).get 1 rfl (by simp) ?_
     simp only [List.getElem_cons_succ,List.getElem_cons_zero]
     rw [show (b:Int)=((j:Nat):Int) from hj2]
     refine (hL3.le zac hl4).get zac j rfl hj1 fun a9 x hxx hcx=>⟨_,hcx 0 _ rfl,_,hcx 1 _ rfl,_,hcx 2 _ rfl,_,hcx 3 _ rfl,_,hcx 4 _ rfl,?_⟩
     rw [←hj2]
     have ok2:=hok _ (List.getElem_mem hj1)
     refine zpp (x:=x) hxx (hC.il.le hl4) ok2.2 ok2.1.cirOk ok2.1.lenC fun h6 hl6=>?_
     have hle6:=Hp.le_trans hle4 hl6
     refine za7 (fun h7=>fin _ _ hle6 (by rw [if_pos ⟨h5,h7⟩])) (fun h7=>fin _ _ hle6 (by rw [if_neg (fun hh=>h7 hh.2)]))
end
section
variable {h : Hp} {s : TSketch} {S : PSk} {p : Addr} {K : (TPlan × Int) → Hp → Prop} {Kb : Bool → Hp → Prop}
def PLN (h:Hp) (S:PSk) (r:TPlan×Int):Prop:=
 (¬VS S∧r=(⟨nilS,nilS⟩,1))∨(VS S∧leftL (allS S) (peelS S (allS S))≠[]∧r=(⟨nilS,nilS⟩,13)) ∨
 (VS S∧leftL (allS S) (peelS S (allS S))=[]∧r.2=0∧r.1.checks=nilS∧LR stc 4 STP h r.1.steps (planS S))
theorem zpn {S:PSk} (hs:sSk S):(peelS S (allS S)).length≤20:=by
 have h1:=zjf hs
 suffices H:∀(f:Nat) (R:List Int),(leftL (allS S) R).length≤f→R.length+(leftL (allS S) R).length≤(allS S).length→(peelF (canB (allC S) (cens S)) (allS S) f R).length≤(allS S).length by
  have e:leftL (allS S) []=allS S:=by unfold leftL; rw [List.filter_eq_self]; simp
  have:=H (allS S).length [] (by rw [e]; exact Nat.le_refl _) (by rw [e]; simp)
  unfold peelS peelL
  omega
 intro f
 induction f with
 | zero=>intro R h2 h3; unfold peelF; omega
 | succ f ih=>
   intro R h2 h3
   cases hq:(allS S).find? (canB (allC S) (cens S) R) with
   | none=>rw [zdr zkl h2 hq]; omega
   | some z=>
     obtain ⟨g,hg,e1,e2⟩:=zf4 zkl h2 hq
     have:g=f:=by omega
     subst this
     rw [e1]
     have h4:=ztj (List.mem_of_find?_eq_some hq) (zkl _ _ (List.find?_some hq))
     exact ih _ e2 (by simp; omega)
theorem za75 {D:Hp} {l:Sl} {xs:List Int} {i:Int} {K:Sl→Prop} (hx:IL D l xs) (k:Nat) (hi:i=k) (hk:k≤xs.length) (H:K (l.cut 0 k 1)):slP l 0 i 1 K:=by
 subst hi
 have h1:=hx.len
 have h2:=hx.2
 exact ⟨Int.le_refl _,by omega,by omega,H⟩
theorem zq5 (hx:SK h s S) (hs:sSk S) (ht:GT h) (H:∀r h',h.le h'→PLN h' S r→K r h'):callP (F.zf8 s) K h:=by
 refine za1 (fun r h'=>PLN h' S r) (fun K' hk=>?_) fun b h' hl hb=>H b h' hl hb
 unfold F.zf8
 refine zqx hx hs ht fun r h1 hl1 hr hr2=>?_
 refine zax (fun h2=>hk _ _ hl1 (.inl ⟨fun hv=>h2 (hr.2 hv),by rw [show r=1 by omega]⟩)) (fun h2=>?_)
 have hv:=hr.1 h2
 refine zk3 (hx.le hl1) hv hs fun p h3 hl3 hp=>?_
 have hle3:=Hp.le_trans hl1 hl3
 refine zvf hp hs hv (ht.le hle3) fun a b h4 hl4 ha hb=>?_
 have hle4:=Hp.le_trans hle3 hl4
 have hbl:=hb.len
 refine za0 (fun h5=>hk _ _ hle4 (.inr (.inl ⟨hv,fun hh=>by rw [hh] at hbl; simp only at h5; simp at hbl; omega,rfl⟩))) (fun h5=>?_)
 have hleft:leftL (allS S) (peelS S (allS S))=[]:=List.eq_nil_of_length_eq_zero (by simp only at h5; omega)
 have hal:=ha.len
 have hpl:=zpn hs
 simp only
 rw [show IntKind.i64.wrap ((a.len:Int)-1)=(a.len:Int)-1 from w64 (by omega)]
 refine zmr (fun n st h'=>∃(y:Sl) (D:Hp) (ps:List PStep),st=((y,nilS,()),(n:Int)-1,())∧h4.le D∧LO stc 4 STP D h' y ps∧n≤(peelS S (allS S)).length∧ps++planN S (peelS S (allS S)) n=planS S) (n0:=(peelS S (allS S)).length)
  ⟨nilS,h4,[],by rw [hal],Hp.le_refl _,LO.nil,Nat.le_refl _,rfl⟩ ?_
 rintro n _ h6 ⟨y,D,ps,rfl,hD,ho,hn,hps⟩ K2 hK2
 have hD6:=ho.dle
 have hle6:=Hp.le_trans hD hD6
 have hpsl:ps.length+n=(peelS S (allS S)).length:=by
  have:=congrArg List.length hps
  rw [List.length_append,zjo] at this
  rw [this]; exact zjo _
 refine za0 (fun h7=>?_) (fun h7=>?_)
 · obtain ⟨m,rfl⟩:∃m,n=m+1:=⟨n-1,by simp only at h7; omega⟩
   have hi:(((m+1:Nat):Int)-1)=(m:Int):=by omega
   simp only [hi]
   have hok:=zsg (S:=S) (pref:=allS S) (k:=m) (by omega)
   have hg:(peelS S (allS S)).getD m 0=(peelS S (allS S))[m]:=zck (by omega)
   refine (ha.le hle6).get m rfl (by omega) ((ha.le hle6).get m rfl (by omega) (za75 (ha.le hle6) m rfl (by omega) ?_))
   refine ho.call zf1 (K1:=fun v h'=>OI D h' v (remL (its S) (peelS S (allS S))[m] ((peelS S (allS S)).take m))) (zkx (hp.le (Hp.le_trans hl4 hD)) hs hv ((ha.le hD).cut (n:=m) (by omega)) (by rw [List.length_take]; omega) fun y h' hl ho=>ho) fun r11 D1 h8 hl8 ho8 hr11=>?_
   have hrl:=za1c hs hv hok.1
   have hm2:most ((peelS S (allS S)).getD m 0)≤2:=by unfold most; split<;>omega
   rw [hg] at hrl hm2
   have hin:∀i∈remL (its S) (peelS S (allS S))[m] ((peelS S (allS S)).take m),∃k:Nat,k<(allC S).length∧i=k:=fun i hi=>by
    obtain ⟨k,h1,h2,_⟩:=zkw hi
    rw [zdq] at h1
    exact ⟨k,h1,h2⟩
   have hsm:smI (peelS S (allS S))[m]:=by rw [←hg]; exact zoj hs hok.2
   refine ho8.call zf1 (K1:=fun v h'=>STP h' v (stepP (allC S) (cens S) (peelS S (allS S))[m] (remL (its S) (peelS S (allS S))[m] ((peelS S (allS S)).take m)))) (za89 (hp.le (Hp.le_trans hl4 (Hp.le_trans hD hl8))) hs hv (ht.le (Hp.le_trans hle4 (Hp.le_trans hD hl8))) hr11.il (by omega) hin hsm fun x h' hl hx=>hx) fun r12 D2 h9 hl9 ho9 hr12=>?_
   refine ho9.app (x:=r12) zf1 rfl (by omega) (by omega) hr12 fun w h10 ho10=>hK2 m _ _ (by omega) ⟨w,D2,_,?_,Hp.le_trans hD (Hp.le_trans hl8 hl9),ho10,by omega,?_⟩
   · rw [w64 (by omega)]
   · rw [←hps]
     conv=>rhs; unfold planN
     rw [hg,List.append_assoc]; rfl
 · have:n=0:=by simp only at h7; omega
   subst this
   refine hk _ _ (Hp.le_trans hle4 hle6) (.inr (.inr ⟨hv,hleft,rfl,rfl,?_⟩))
   have:ps=planS S:=by rw [←hps]; simp [planN]
   rw [←this]
   exact ho.lr zf1
theorem za3a (hx:SK h s S) (hs:sSk S) (ht:GT h) (H:∀r h',h.le h'→PLN h' S r→K r h'):callP (F.zml s) K h:=by
 refine za1 (fun r h'=>PLN h' S r) (fun K' hk=>?_) fun b h' hl hb=>H b h' hl hb
 unfold F.zml
 refine zq1 hx hs fun r h1 hl1 hr hr2=>?_
 refine zax (fun h2=>hk _ _ hl1 (.inl ⟨fun hv=>h2 (hr.2 hv),by rw [show r=1 by omega]⟩)) (fun h2=>?_)
 have hv:=hr.1 h2
 refine zpq (hx.le hl1) hs (fun _ _ hn=>absurd hv hn) fun a b h4 hl4 _ ha hb=>?_
 have hle4:=Hp.le_trans hl1 hl4
 have hbl:=hb.len
 refine za0 (fun h5=>hk _ _ hle4 (.inr (.inl ⟨hv,fun hh=>by rw [hh] at hbl; simp only at h5; simp at hbl; omega,rfl⟩))) (fun h5=>?_)
 have hleft:leftL (allS S) (peelS S (allS S))=[]:=List.eq_nil_of_length_eq_zero (by simp only at h5; omega)
 have hal:=ha.len
 have hpl:=zpn hs
 simp only
 rw [show IntKind.i64.wrap ((a.len:Int)-1)=(a.len:Int)-1 from w64 (by omega)]
 refine zmr (fun n st h'=>∃(y:Sl) (D:Hp) (ps:List PStep),st=((y,nilS,()),(n:Int)-1,())∧h4.le D∧LO stc 4 STP D h' y ps∧n≤(peelS S (allS S)).length∧ps++planN S (peelS S (allS S)) n=planS S) (n0:=(peelS S (allS S)).length)
  ⟨nilS,h4,[],by rw [hal],Hp.le_refl _,LO.nil,Nat.le_refl _,rfl⟩ ?_
 rintro n _ h6 ⟨y,D,ps,rfl,hD,ho,hn,hps⟩ K2 hK2
 have hD6:=ho.dle
 have hle6:=Hp.le_trans hD hD6
 have hpsl:ps.length+n=(peelS S (allS S)).length:=by
  have:=congrArg List.length hps
  rw [List.length_append,zjo] at this
  rw [this]; exact zjo _
 refine za0 (fun h7=>?_) (fun h7=>?_)
 · obtain ⟨m,rfl⟩:∃m,n=m+1:=⟨n-1,by simp only at h7; omega⟩
   have hi:(((m+1:Nat):Int)-1)=(m:Int):=by omega
   simp only [hi]
   have hok:=zsg (S:=S) (pref:=allS S) (k:=m) (by omega)
   have hg:(peelS S (allS S)).getD m 0=(peelS S (allS S))[m]:=zck (by omega)
   refine (ha.le hle6).get m rfl (by omega) ((ha.le hle6).get m rfl (by omega) (za75 (ha.le hle6) m rfl (by omega) ?_))
   refine ho.call zf1 (K1:=fun v h'=>OI D h' v (remL (its S) (peelS S (allS S))[m] ((peelS S (allS S)).take m))) (zk6 (hx.le (Hp.le_trans hle4 hD)) hs hv ((ha.le hD).cut (n:=m) (by omega)) (by rw [List.length_take]; omega) fun y h' hl ho=>ho) fun r11 D1 h8 hl8 ho8 hr11=>?_
   have hrl:=za1c hs hv hok.1
   rw [hg] at hrl
   have hin:∀i∈remL (its S) (peelS S (allS S))[m] ((peelS S (allS S)).take m),∃k:Nat,k<(allC S).length∧i=k:=fun i hi=>by
    obtain ⟨k,h1,h2,_⟩:=zkw hi
    rw [zdq] at h1
    exact ⟨k,h1,h2⟩
   have hsm:smI (peelS S (allS S))[m]:=by rw [←hg]; exact zoj hs hok.2
   refine ho8.call zf1 (K1:=fun v h'=>STP h' v (stepP (allC S) (cens S) (peelS S (allS S))[m] (remL (its S) (peelS S (allS S))[m] ((peelS S (allS S)).take m)))) (za3k (hx.le (Hp.le_trans hle4 (Hp.le_trans hD hl8))) hs hv hr11.il hrl hin hsm fun x h' hl hx=>hx) fun r12 D2 h9 hl9 ho9 hr12=>?_
   refine ho9.app (x:=r12) zf1 rfl (by omega) (by omega) hr12 fun w h10 ho10=>hK2 m _ _ (by omega) ⟨w,D2,_,?_,Hp.le_trans hD (Hp.le_trans hl8 hl9),ho10,by omega,?_⟩
   · rw [w64 (by omega)]
   · rw [←hps]
     conv=>rhs; unfold planN
     rw [hg,List.append_assoc]; rfl
 · have:n=0:=by simp only at h7; omega
   subst this
   refine hk _ _ (Hp.le_trans hle4 hle6) (.inr (.inr ⟨hv,hleft,rfl,rfl,?_⟩))
   have:ps=planS S:=by rw [←hps]; simp [planN]
   rw [←this]
   exact ho.lr zf1
theorem ztt {p q:TPlan} {ps qs:List PStep} (hp:LR stc 4 STP h p.steps ps) (hq:LR stc 4 STP h q.steps qs) (cp:p.checks=nilS) (cq:q.checks=nilS) (hlen:ps.length≤1000) (hus:∀x∈ps,x.2.2.1.length≤1000) (H:∀h',h.le h'→Kb (decide (ps=qs)) h'):callP (F.zit p q) Kb h:=by
 refine za1 (fun b h'=>(b=true↔ps=qs)) (fun K' hk=>?_) fun b h' hl hb=>by
  have:b=decide (ps=qs):=by rw [Bool.eq_iff_iff,hb,decide_eq_true_iff]
  rw [this]; exact H h' hl
 unfold F.zit
 have lp:=hp.len zf1
 have lq:=hq.len zf1
 refine za3 (fun _ h'=>h.le h'∧ps.length=qs.length) ?_ ?_
 · rintro _ h1 ⟨hl1,hll⟩
   refine zbi (n:=ps.length) (by omega) (fun i h'=>h.le h'∧∀j (hj:j<ps.length),j<i→ps[j]?=qs[j]?) ⟨hl1,fun j _ hj=>by omega⟩ ?_
   rintro i h2 hi ⟨hl2,hno⟩ k hk2
   refine za0 (fun h3=>?_) (fun h3=>?_)
   · have hi':i<ps.length:=by simp only at h3; omega
     have hq':i<qs.length:=by omega
     refine za3 (fun _ h'=>h.le h'∧ps[i]?=qs[i]?) (fun _ h' hh=>hk2 _ hi' ⟨hh.1,fun j hj hji=>?_⟩) ?_
     · rcases Nat.lt_or_ge j i with h4 | h4
       · exact hno j hj h4
       · have:j=i:=by omega
         subst this; exact hh.2
     refine (hp.le zf1 hl2).get zf1 i rfl hi' fun a x hxx hcx=>⟨_,hcx 0 _ rfl,_,hcx 1 _ rfl,_,hcx 2 _ rfl,_,hcx 3 _ rfl,?_⟩
     refine (hq.le zf1 hl2).get zf1 i rfl hq' fun a y hyy hcy=>⟨_,hcy 0 _ rfl,_,hcy 1 _ rfl,_,hcy 2 _ rfl,_,hcy 3 _ rfl,?_⟩
     obtain ⟨x1,x2,x3,x4⟩:=hxx
     obtain ⟨y1,y2,y3,y4⟩:=hyy
     have no:∀h',h.le h'→ps[i]≠qs[i]→K' false h':=fun h' hl hn=>hk _ _ hl ⟨fun hh=>(by cases hh),fun hh=>by subst hh; exact absurd rfl hn⟩
     refine zax (fun h4=>no _ hl2 fun hh=>h4 (by rw [x1,y1,hh])) (fun h4=>?_)
     refine zax (fun h5=>no _ hl2 fun hh=>h5 (by rw [x2,y2,hh])) (fun h5=>?_)
     refine zax (fun h6=>no _ hl2 fun hh=>h6 (by rw [x4,y4,hh])) (fun h6=>?_)
     refine zj2 x3 y3 (by have:=hus _ (List.getElem_mem hi'); omega) fun h7 hl7=>?_
     refine za2 (fun h8=>no _ (Hp.le_trans hl2 hl7) fun hh=>by rw [hh] at h8; simp at h8) (fun h8=>⟨Hp.le_trans hl2 hl7,?_⟩)
     rw [List.getElem?_eq_getElem hi',List.getElem?_eq_getElem hq']
     have h8:ps[i].2.2.1=qs[i].2.2.1:=by simpa using h8
     congr 1
     exact Prod.ext (by omega) (Prod.ext (by show ps[i].2.1=qs[i].2.1; omega) (Prod.ext h8 (by show ps[i].2.2.2=qs[i].2.2.2; omega)))
   · refine hk _ _ hl2 ⟨fun _=>?_,fun _=>rfl⟩
     refine List.ext_getElem? fun j=>?_
     rcases Nat.lt_or_ge j ps.length with h4 | h4
     · exact hno j h4 (by simp only at h3; omega)
     · rw [List.getElem?_eq_none h4,List.getElem?_eq_none (by omega)]
 · refine zax (fun h1=>hk _ _ (Hp.le_refl _) ⟨fun hh=>(by cases hh),fun hh=>by subst hh; omega⟩) (fun h1=>?_)
   rw [cp,cq]
   refine zj2 (xs:=[]) (ys:=[]) IL.nil IL.nil (by simp) fun h2 hl2=>zah rfl ⟨hl2,by omega⟩
end
end Den
end

section
namespace Den
open Go Iv Lx
section
variable {α β γ δ : Type} {c : α → List Value} {n : Nat} {P : Hp → α → β → Prop} {c2 : γ → List Value} {n2 : Nat} {P2 : Hp → γ → δ → Prop} {D h h' : Hp} {l m : Sl} {ps : List β} {qs : List δ}
theorem zsl {ε:Type} {G:(ε→Hp→Prop)→Hp→Prop} {K1 K:ε→Hp→Prop} (hR:Rec c n P) (hR2:Rec c2 n2 P2) (hx:LO c n P D h l ps) (hy:LO c2 n2 P2 D h m qs) (H:callP G K1 D)
 (k:∀v D' h',D.le D'→LO c n P D' h' l ps→LO c2 n2 P2 D' h' m qs→K1 v D'→K v h'):callP G K h:=by
 obtain ⟨xs,h1,h3,h4⟩:=hx
 obtain ⟨ys,g1,g3,g4⟩:=hy
 exact zq8 h1.1 H fun v D' h' a1 a2 a3 a4=>k v D' h' a1 ⟨xs,h1.move a2 a3,h3,fun k k1 k2=>hR.mono (h4 k k1 k2) a1⟩ ⟨ys,g1.move a2 a3,g3,fun k k1 k2=>hR2.mono (g4 k k1 k2) a1⟩ a4
theorem zy9 {k:Nat} {cs:List Value} {b:Nat} {bl:Blk} (ho:Own D h k l cs) (hb:h b=none):Own (D.ins b bl) (h.ins b bl) k l cs:=by
 obtain ⟨g1,g2,g3,g4⟩:=ho
 refine ⟨?_,g2,g3,?_⟩
 · intro k x hk
   by_cases hkb:k=b
   · subst hkb; rw [Hp.ins_same] at hk ⊢; exact hk
   · rw [Hp.ins_ne hkb] at hk ⊢; exact g1 _ _ hk
 · cases ha:l.a with
   | none=>rw [ha] at g4; exact g4
   | some a=>
     rw [ha] at g4
     obtain ⟨k1,k2,k3,x,k4,k5⟩:=g4
     have hne:a.block≠b:=fun hh=>by rw [hh,hb] at k4; cases k4
     exact ⟨k1,k2,by rw [Hp.ins_ne hne]; exact k3,x,by rw [Hp.ins_ne hne]; exact k4,k5⟩
theorem zzh {K:Addr→Hp→Prop} {cells:List Value} (hR:Rec c n P) (hR2:Rec c2 n2 P2) (hx:LO c n P D h l ps) (hy:LO c2 n2 P2 D h m qs)
 (H:∀a D' h',D.le D'→LO c n P D' h' l ps→LO c2 n2 P2 D' h' m qs→(∀i v,cells[i]?=Option.some v→D'.cell (a.add i)=Option.some v)→K a h'):newP cells K h:=by
 intro b e hb
 obtain ⟨xs,h1,h3,h4⟩:=hx
 obtain ⟨ys,g1,g3,g4⟩:=hy
 have hDb:D b=none:=by
  cases hd:D b with
  | none=>rfl
  | some x=>rw [h1.1 _ _ hd] at hb; cases hb
 have hl:D.le (D.ins b ⟨cells,e,(0,0)⟩):=Hp.le_ins hDb
 refine H _ (D.ins b ⟨cells,e,(0,0)⟩) _ hl ⟨xs,zy9 h1 hb,h3,fun k k1 k2=>hR.mono (h4 k k1 k2) hl⟩ ⟨ys,zy9 g1 hb,g3,fun k k1 k2=>hR2.mono (g4 k k1 k2) hl⟩ fun i v hv=>?_
 unfold Hp.cell
 rw [zbg,zdw rfl,zcs]
 simpa [Hp.ins_same] using hv
theorem za29 {Ks:Sl→Hp→Prop} {x:α} {b:β} {bytes:Nat} {zero:List Value} (hR:Rec c n P) (hx:LO c n P D h l ps) (hy:LO c2 n2 P2 D h m qs) (hap:Apt l m) (hz:zero.length=n) (hlen:(ps.length+1)*bytes≤140737488355328) (hlen2:ps.length+1≤140737488355328)
 (hp:P D x b) (H:∀y h',LO c n P D h' y (ps++[b])→LO c2 n2 P2 D h' m qs→Apt y m→Ks y h'):appP n bytes zero l 1 (c x) Ks h:=by
 have hl:=hx.len hR
 obtain ⟨xs,h1,h3,h4⟩:=hx
 obtain ⟨ys,g1,g3,g4⟩:=hy
 refine zmx h1 (n:=1) (new:=c x) (by rw [hR.len]; omega) hz (hR.leaf x) (by rw [hl]; exact hlen) (by rw [hl]; exact hlen2) fun y h' hy' _ hs hbl=>H y h' ⟨xs++[x],?_,by simp [h3],fun k k1 k2=>?_⟩ ⟨ys,zsf g1 hap hs hy'.1,g3,g4⟩ fun a b' ha hb'=>?_
 · rw [List.flatMap_append]
   simp only [List.flatMap_cons,List.flatMap_nil,List.append_nil]
   exact hy'
 · rcases Nat.lt_or_ge k xs.length with h5 | h5
   · rw [List.getElem_append_left h5,List.getElem_append_left (by omega)]
     exact h4 k h5 (by omega)
   · have h6:k=xs.length:=by simp at k1; omega
     subst h6
     rw [List.getElem_append_right (Nat.le_refl _),List.getElem_append_right (by omega)]
     simp only [Nat.sub_self,List.getElem_cons_zero]
     have:xs.length-ps.length=0:=by omega
     simp only [this,List.getElem_cons_zero]
     exact hp
 · rcases hbl a ha with ⟨a',h5,h6⟩ | h5
   · rw [←h6]; exact hap a' b' h5 hb'
   · intro hh
     obtain ⟨_,_,_,k4⟩:=g1
     rw [hb'] at k4
     obtain ⟨_,_,_,x,k5,_⟩:=k4
     rw [hh,k5] at h5; cases h5
end
theorem zpa {z:Int} (h:z.natAbs<4294967296):BR 1 ((z:Int):Rat):=⟨by rw [Rat.num_intCast]; unfold Lt; rw [Nat.pow_one]; exact h,by rw [Rat.den_intCast]; unfold Lt; decide⟩
def numE (x:TRat) (z:Int):PEx:=.mk 1 x (some ((z:Int):Rat)) emptyS []
def shortX (x:TRat):Prop:=x.num.mag.len≤4∧x.den.mag.len≤4
theorem zaae {h:Hp} {x:TRat} {z:Int} (hz:z.natAbs<4294967296) (hx:NR h x ((z:Int):Rat)):shortX x:=by
 have hb:=zpa hz
 have h1:=zb9.2 hb.1
 have h2:=zb9.2 hb.2
 have e1:=hx.1.len
 have e2:=hx.2.len
 exact ⟨by omega,by omega⟩
theorem zadk {x:TRat} {z:Int} (hx:shortX x):sE (numE x z):=by
 refine ⟨?_,?_⟩
 · unfold numE smE smEL
   exact ⟨by simp,by decide,hx.1,hx.2,trivial⟩
 · unfold numE dep depL; decide
theorem dec5:decOk (some ((5:Int):Rat))=true:=by decide +kernel
theorem za9v:BS emptyS=[]:=rfl
theorem zadl {x:TRat} {z:Int} (hz:decOk (some ((z:Int):Rat))=true):vE (numE x z)=true:=by
 unfold vE numE
 simp [fmd,fmdL,dep,depL,shp,hz,za9v]
def DC (z:Int) (c:PCon) (e:Int×Int):Prop:=∃x:TRat,shortX x∧c=⟨2,[e.1,e.2],[],[numE x z],0⟩
def DCL (z:Int):List PCon→List (Int×Int)→Prop
 | [],[]=>True
 | c :: r,e :: q=>DC z c e∧DCL z r q
 | _,_=>False
theorem DCL.snoc {z:Int} {c:PCon} {e:Int×Int} (hc:DC z c e):∀{l:List PCon} {q:List (Int×Int)},DCL z l q→DCL z (l++[c]) (q++[e])
 | [],[],_=>⟨hc,trivial⟩
 | a :: r,b :: q,h=>⟨h.1,DCL.snoc hc h.2⟩
 | [],_ :: _,h=>h.elim
 | _ :: _,[],h=>h.elim
theorem DCL.len {z:Int}:∀{l:List PCon} {q:List (Int×Int)},DCL z l q→l.length=q.length
 | [],[],_=>rfl
 | a :: r,b :: q,h=>by rw [List.length_cons,List.length_cons,DCL.len h.2]
 | [],_ :: _,h=>h.elim
 | _ :: _,[],h=>h.elim
theorem DCL.all {z:Int} {Q:PCon→Prop}:∀{l:List PCon} {q:List (Int×Int)},DCL z l q→(∀c e,e∈q→DC z c e→Q c)→∀c∈l,Q c
 | [],[],_,_,c,hc=>by simp at hc
 | a :: r,b :: q,h,H,c,hc=>by
   rcases List.mem_cons.1 hc with rfl | hc
   · exact H _ b (by simp) h.1
   · exact DCL.all h.2 (fun c e he=>H c e (List.mem_cons_of_mem _ he)) c hc
 | [],_ :: _,h,_,_,_=>h.elim
 | _ :: _,[],h,_,_,_=>h.elim
theorem DC.sc {z:Int} {c:PCon} {e:Int×Int} (h:DC z c e):sC c:=by
 obtain ⟨x,hx,rfl⟩:=h
 refine ⟨by simp,by simp,by simp,fun v hv=>?_⟩
 simp only [List.mem_singleton] at hv
 subst hv
 exact zadk hx
theorem DC.vc {z:Int} (hz:decOk (some ((z:Int):Rat))=true) {c:PCon} {e:Int×Int} {n m:Int} (h:DC z c e) (h1:0≤e.1∧e.1<n) (h2:0≤e.2∧e.2<n) (h3:e.1≠e.2):VC c n m:=by
 obtain ⟨x,hx,rfl⟩:=h
 refine ⟨⟨by show (1:Int)≤2; decide,by show (2:Int)≤17; decide⟩,⟨rfl,fun y hy=>?_⟩,⟨rfl,fun y hy=>by simp at hy⟩,rfl,fun v hv=>?_,rfl,?_⟩
 · simp only [List.mem_cons,List.not_mem_nil,or_false] at hy
   rcases hy with rfl | rfl
   · exact h1
   · exact h2
 · simp only [List.mem_singleton] at hv
   subst hv
   exact zadl hz
 · rw [if_neg (by simp [fourK])]
   exact ⟨by simp [h3],by simp⟩
def DSK (z:Int) (S:PSk) (n:Nat) (prs:List (Int×Int)):Prop:=S.pts.length=n∧(∀p∈S.pts,VP p)∧S.cir=[]∧S.seg=[]∧S.arc=[]∧S.chn=[]∧DCL z S.con prs
theorem DSK.vs {z:Int} (hz:decOk (some ((z:Int):Rat))=true) {S:PSk} {n:Nat} {prs:List (Int×Int)} (h:DSK z S n prs) (hp:∀e∈prs,0≤e.1∧e.1<e.2∧e.2<n):VS S:=by
 obtain ⟨h1,h2,h3,h4,h5,h6,h7⟩:=h
 refine ⟨h2,by simp [h3],by simp [h4],by simp [h5],by simp [h6],?_⟩
 exact h7.all fun c e he hd=>by
  have:=hp e he
  exact hd.vc hz (by omega) (by omega) (by omega)
theorem DSK.ss {z:Int} {S:PSk} {n:Nat} {prs:List (Int×Int)} (h:DSK z S n prs) (hn:n≤10) (hp:prs.length≤20):sSk S:=by
 obtain ⟨h1,h2,h3,h4,h5,h6,h7⟩:=h
 exact ⟨by omega,by simp [h3],by simp [h4],by simp [h5],by simp [h6],by rw [h7.len]; exact hp,by simp [h6],h7.all fun c e _ hd=>hd.sc⟩
def prs:Nat→List (Int×Int)
 | 0=>[]
 | i+1=>prs i++(List.range i).map fun k:Nat=>((k:Int),(i:Int))
theorem za21:∀{n:Nat},n≤10→(prs n).length≤10*n
 | 0,_=>by simp [prs]
 | n+1,h=>by
   have:=za21 (n:=n) (by omega)
   unfold prs
   rw [List.length_append,List.length_map,List.length_range]
   omega
def dPt (i:Nat):Option Rat×Option Rat:=(some ((i:Int):Rat),some ((i*i:Int):Rat))
section
variable {h : Hp} {K : TSketch → Hp → Prop}
theorem zabh {h:Hp} {a b:Addr} {p q z:Int} {x:TRat} (ha:∀i v,([.int .i64 p,.int .i64 q]:List Value)[i]?=some v→h.cell (a.add i)=some v)
 (hb:∀i v,([.int .i64 1,.bool x.num.neg,.slice x.num.mag.a x.num.mag.len x.num.mag.cap,.bool x.den.neg,.slice x.den.mag.a x.den.mag.len x.den.mag.cap,.string emptyS,.slice nilS.a nilS.len nilS.cap]:List Value)[i]?=some v→h.cell (b.add i)=some v)
 (hz:z.natAbs<4294967296) (hx:NR h x ((z:Int):Rat)):CO h ⟨2,⟨some a,2,2⟩,nilS,⟨some b,1,1⟩,0⟩ ⟨2,[p,q],[],[numE x z],0⟩:=by
 refine ⟨rfl,⟨zex (size:=1) (n:=2) ha rfl,Nat.le_refl _⟩,IL.nil,⟨[⟨1,x,emptyS,nilS⟩],zex (size:=7) (n:=1) hb rfl,Nat.le_refl _,rfl,fun k k1 k2=>?_⟩,rfl⟩
 have:k=0:=by simp at k1; omega
 subst this
 exact EX.mk ⟨1,x,emptyS,nilS⟩ (some ((z:Int):Rat)) [] [] (hx.or (zpa hz) (by decide)) Rd.nil (Nat.le_refl _) rfl (fun k h1 _=>by simp at h1)
theorem zkm {n:Nat} (hn:n≤10) (H:∀s S h',h.le h'→SK h' s S→DSK 5 S n (prs n)→K s h'):callP (F.zep (n:Int)) K h:=by
 refine za1 (fun s h'=>∃S,SK h' s S∧DSK 5 S n (prs n)) (fun K' hk=>?_) fun s h' hl ⟨S,h1,h2⟩=>H s S h' hl h1 h2
 unfold F.zep
 refine zal (fun st h'=>∃(i:Nat) (pl cl:Sl) (con:List PCon) (D:Hp),st=((pl,nilS,nilS,nilS,nilS,cl,()),(i:Int),())∧i≤n∧h.le D∧LO ptc 8 PTT D h' pl ((List.range i).map dPt)∧LO cc 5 CO D h' cl con∧Apt pl cl∧DCL 5 con (prs i))
  (fun st=>(n-st.2.1).toNat) ⟨0,nilS,nilS,[],h,rfl,by omega,Hp.le_refl _,LO.nil,LO.nil,fun a b ha=>(by cases ha),trivial⟩ ?_
 rintro _ h1 ⟨i,pl,cl,con,D,rfl,hi,hD,hp,hc,hap,hdc⟩
 have hconl:=hdc.len
 refine za0 (fun h2=>?_) (fun h2=>?_)
 · have hi':i<n:=by simp only at h2; omega
   have hpl:=za21 (n:=i) (by omega)
   have hii:i*i≤10*10:=Nat.mul_le_mul (by omega) (by omega)
   simp only
   rw [show IntKind.i64.wrap ((i:Int)*(i:Int))=((i*i:Nat):Int) from by rw [w64 (by rw [←Int.natCast_mul]; omega),Int.natCast_mul]]
   refine zsl (K1:=fun v h'=>NR h' v (((i:Int):Int):Rat)) zco zac hp hc (zfa (by omega) (by omega) fun z h' _ hz=>hz) fun r3 D1 h3 hl1 hp hc hr3=>?_
   refine zsl (K1:=fun v h'=>NR h' v ((((i*i:Nat):Int):Int):Rat)) zco zac hp hc (zfa (by omega) (by omega) fun z h' _ hz=>hz) fun r4 D2 h4 hl2 hp hc hr4=>?_
   have hle2:=Hp.le_trans hD (Hp.le_trans hl1 hl2)
   refine za29 (x:=(⟨r3,r4⟩:TPoint)) (b:=dPt i) zco hp hc hap rfl (by simp; omega) (by simp; omega) ⟨(hr3.le hl2).or (zpa (by omega)) (by decide),hr4.or (zpa (by omega)) (by decide)⟩ fun w5 h5 hp hc hap=>?_
   rw [←List.map_singleton,←List.map_append,←List.range_succ] at hp
   refine zal (fun st h'=>∃(k:Nat) (cl':Sl) (con':List PCon) (D':Hp),st=((w5,nilS,nilS,nilS,nilS,cl',()),(k:Int),())∧k≤i∧D2.le D'∧LO ptc 8 PTT D' h' w5 ((List.range (i+1)).map dPt)∧LO cc 5 CO D' h' cl' con'∧Apt w5 cl'∧DCL 5 con' (prs i++(List.range k).map fun k:Nat=>((k:Int),(i:Int))))
    (fun st=>(i-st.2.1).toNat) ⟨0,cl,con,D2,rfl,by omega,Hp.le_refl _,hp,hc,hap,by simpa using hdc⟩ ?_
   clear hp hc hap
   rintro _ h6 ⟨k,cl',con',D',rfl,hk1,hD',hp,hc,hap,hdc'⟩
   have hcl:=hdc'.len
   rw [List.length_append,List.length_map,List.length_range] at hcl
   refine za0 (fun h7=>?_) (fun h7=>?_)
   · have hk':k<i:=by simp only at h7; omega
     refine zsl (K1:=fun v h'=>NR h' v ((5:Int):Rat)) zco zac hp hc (zfa (by omega) (by omega) fun z h' _ hz=>hz) fun r8 D3 h8 hl3 hp hc hr8=>?_
     refine zzh zco zac hp hc fun p9 D4 h9 hl4 hp hc c9=>?_
     refine zzh zco zac hp hc fun p10 D5 h10 hl5 hp hc c10=>?_
     refine za29 (x:=(⟨2,⟨some p9,2,2⟩,nilS,⟨some p10,1,1⟩,0⟩:TConstraint)) (b:=⟨2,[(k:Int),(i:Int)],[],[numE r8 5],0⟩) zac hc hp hap.symm rfl (by omega) (by omega) (zabh (fun i v hv=>Hp.cell_le hl5 (c9 i v hv)) c10 (by decide) (hr8.le (Hp.le_trans hl4 hl5))) fun w11 h11 hc hp hap=>?_
     refine ⟨⟨k+1,w11,_,D5,by (try simp only); rw [w64 (by omega)]; rfl,by omega,Hp.le_trans hD' (Hp.le_trans hl3 (Hp.le_trans hl4 hl5)),hp,hc,hap.symm,?_⟩,by (try simp only); rw [w64 (by omega)]; omega⟩
     rw [List.range_succ,List.map_append,←List.append_assoc]
     exact DCL.snoc (e:=((k:Int),(i:Int))) ⟨r8,zaae (by decide) hr8,rfl⟩ hdc'
   · have:k=i:=by simp only at h7; omega
     subst this
     exact ⟨⟨k+1,w5,cl',con',D',by (try simp only); rw [w64 (by omega)]; rfl,by omega,Hp.le_trans hle2 hD',hp,hc,hap,hdc'⟩,by (try simp only); rw [w64 (by omega)]; omega⟩
 · have:i=n:=by simp only at h2; omega
   subst this
   refine hk _ _ (Hp.le_trans hD hp.dle) ⟨⟨(List.range i).map dPt,[],[],[],[],con⟩,⟨hp.lr zco,LR.nil,LR.nil,LR.nil,LR.nil,hc.lr zac⟩,by simp,fun p hp=>?_,rfl,rfl,rfl,rfl,hdc⟩
   simp only [List.mem_map] at hp
   obtain ⟨j,_,rfl⟩:=hp
   exact ⟨rfl,rfl⟩
end
theorem za3r {z:Int} {S:PSk} (h:DSK z S 3 (prs 3)):leftL (allS S) (peelS S (allS S))=[]∧planS S=[(1,2,[],0),(2,1,[2],0),(3,0,[0,1],1)]:=by
 obtain ⟨pts,cir,seg,arc,chn,con⟩:=S
 obtain ⟨h1,h2,rfl,rfl,rfl,rfl,h7⟩:=h
 obtain ⟨a,b,c,rfl⟩:∃a b c,pts=[a,b,c]:=by
  rcases pts with _ | ⟨a,_ | ⟨b,_ | ⟨c,_ | ⟨d,r⟩⟩⟩⟩<;>simp at h1
  exact ⟨a,b,c,rfl⟩
 have e:prs 3=[(0,1),(0,2),(1,2)]:=by decide
 rw [e] at h7
 rcases con with _ | ⟨c1,_ | ⟨c2,_ | ⟨c3,_ | ⟨c4,r⟩⟩⟩⟩
 · exact h7.elim
 · exact h7.2.elim
 · exact h7.2.2.elim
 · obtain ⟨⟨x1,_,rfl⟩,⟨x2,_,rfl⟩,⟨x3,_,rfl⟩,_⟩:=h7
   exact ⟨by kernel_rfl,by kernel_rfl⟩
 · exact h7.2.2.2.elim
theorem zv3 {z:Int} {S:PSk} (h:DSK z S 4 (prs 4)):peelS S (allS S)=[]∧leftL (allS S) (peelS S (allS S))=[0,1,2,3]:=by
 obtain ⟨pts,cir,seg,arc,chn,con⟩:=S
 obtain ⟨h1,h2,rfl,rfl,rfl,rfl,h7⟩:=h
 obtain ⟨a,b,c,d,rfl⟩:∃a b c d,pts=[a,b,c,d]:=by
  rcases pts with _ | ⟨a,_ | ⟨b,_ | ⟨c,_ | ⟨d,_ | ⟨d',r⟩⟩⟩⟩⟩<;>simp at h1
  exact ⟨a,b,c,d,rfl⟩
 have e:prs 4=[(0,1),(0,2),(1,2),(0,3),(1,3),(2,3)]:=by decide
 rw [e] at h7
 rcases con with _ | ⟨c1,_ | ⟨c2,_ | ⟨c3,_ | ⟨c4,_ | ⟨c5,_ | ⟨c6,_ | ⟨c7,r⟩⟩⟩⟩⟩⟩⟩
 · exact h7.elim
 · exact h7.2.elim
 · exact h7.2.2.elim
 · exact h7.2.2.2.elim
 · exact h7.2.2.2.2.elim
 · exact h7.2.2.2.2.2.elim
 · obtain ⟨⟨x1,_,rfl⟩,⟨x2,_,rfl⟩,⟨x3,_,rfl⟩,⟨x4,_,rfl⟩,⟨x5,_,rfl⟩,⟨x6,_,rfl⟩,_⟩:=h7
   exact ⟨by kernel_rfl,by kernel_rfl⟩
 · exact h7.2.2.2.2.2.2.elim
section
variable {h : Hp} {s : TSketch} {S : PSk} {Kb : Bool → Hp → Prop}
theorem zbw (ht:GT h) (H:∀h',h.le h'→Kb true h'):callP F.zaz Kb h:=by
 refine za1 (fun b _=>b=true) (fun K' hk=>?_) fun b h' hl hb=>by subst hb; exact H h' hl
 unfold F.zaz
 have v3:∀e∈prs 3,0≤e.1∧e.1<e.2∧e.2<(3:Nat):=by decide
 have v4:∀e∈prs 4,0≤e.1∧e.1<e.2∧e.2<(4:Nat):=by decide
 refine zkm (n:=3) (by decide) fun s1 S1 h1 hl1 hx1 hd1=>?_
 refine zq5 hx1 (hd1.ss (by decide) (by decide)) (ht.le hl1) fun r2 h2 hl2 hr2=>?_
 have hle2:=Hp.le_trans hl1 hl2
 refine zkm (n:=4) (by decide) fun s3 S3 h3 hl3 hx3 hd3=>?_
 have hle3:=Hp.le_trans hle2 hl3
 refine zq5 hx3 (hd3.ss (by decide) (by decide)) (ht.le hle3) fun r4 h4 hl4 hr4=>?_
 have hle4:=Hp.le_trans hle3 hl4
 refine zkm (n:=4) (by decide) fun s5 S5 h5 hl5 hx5 hd5=>?_
 have hle5:=Hp.le_trans hle4 hl5
 have vs1:=hd1.vs dec5 v3
 have vs3:=hd3.vs dec5 v4
 have vs5:=hd5.vs dec5 v4
 have p1:=za3r hd1
 have p3:=zv3 hd3
 have p5:=zv3 hd5
 refine zq4 hx5 (hd5.ss (by decide) (by decide)) (ht.le hle5) (fun _ _ hn=>absurd vs5 hn) fun a b h6 hl6 _ ha hb=>?_
 have hle6:=Hp.le_trans hle5 hl6
 rw [p5.1] at ha
 rw [p5.2] at hb
 obtain ⟨q1,q2,q3⟩:r2.2=0∧r2.1.checks=nilS∧LR stc 4 STP h2 r2.1.steps (planS S1):=by
  rcases hr2 with ⟨hn,_⟩ | ⟨_,hn,_⟩ | ⟨_,_,h7,h8,h9⟩
  · exact absurd vs1 hn
  · exact absurd p1.1 hn
  · exact ⟨h7,h8,h9⟩
 have q4:r4.2=13:=by
  rcases hr4 with ⟨hn,_⟩ | ⟨_,_,h7⟩ | ⟨_,hn,_⟩
  · exact absurd vs3 hn
  · rw [h7]
  · rw [p3.2] at hn; cases hn
 rw [p1.2] at q3
 refine ziz fun p7 h7 hl7 c7=>ziz fun p8 h8 hl8 c8=>ziz fun p9 h9 hl9 c9=>?_
 have l69:=Hp.le_trans hl7 (Hp.le_trans hl8 hl9)
 have hle9:=Hp.le_trans hle6 l69
 have l29:=Hp.le_trans hl3 (Hp.le_trans hl4 (Hp.le_trans hl5 (Hp.le_trans hl6 l69)))
 refine za7 (fun _=>?_) (fun hh=>absurd q1 hh)
 have hw:LR stc 4 STP h9 ⟨some p9,3,3⟩ [(1,2,[],0),(2,1,[2],0),(3,0,[0,1],1)]:=by
  refine ⟨[⟨1,2,nilS,0⟩,⟨2,1,⟨some p7,1,1⟩,0⟩,⟨3,0,⟨some p8,2,2⟩,1⟩],zex (size:=4) (n:=3) c9 rfl,Nat.le_refl _,rfl,fun k k1 k2=>?_⟩
  have hi7:IL h9 ⟨some p7,1,1⟩ [2]:=⟨(zex (size:=1) (n:=1) c7 rfl).le (Hp.le_trans hl8 hl9),Nat.le_refl _⟩
  have hi8:IL h9 ⟨some p8,2,2⟩ [0,1]:=⟨(zex (size:=1) (n:=2) c8 rfl).le hl9,Nat.le_refl _⟩
  match k,k1 with
  | 0,_=>exact ⟨rfl,rfl,IL.nil,rfl⟩
  | 1,_=>exact ⟨rfl,rfl,hi7,rfl⟩
  | 2,_=>exact ⟨rfl,rfl,hi8,rfl⟩
 refine ztt (p:=⟨r2.1.steps,r2.1.checks⟩) (q:=⟨⟨some p9,3,3⟩,nilS⟩) (q3.le zf1 l29) hw q2 rfl (by decide) (by decide) fun h10 hl10=>?_
 rw [decide_eq_true rfl]
 refine zbt rfl ?_
 have hle10:=Hp.le_trans hle9 hl10
 refine za7 (fun _=>?_) (fun hh=>absurd q4 hh)
 have hal:=ha.len
 have hal:a.len=0:=hal
 refine za7 (fun _=>?_) (fun hh=>absurd (by simp only [hal]; rfl) hh)
 refine ziz fun p11 h11 hl11 c11=>?_
 refine zj2 (xs:=[0,1,2,3]) (ys:=[0,1,2,3]) (hb.le (Hp.le_trans l69 (Hp.le_trans hl10 hl11))) ⟨zex (size:=1) (n:=4) c11 rfl,Nat.le_refl _⟩ (by decide) fun h12 hl12=>?_
 exact hk _ _ (Hp.le_trans hle10 (Hp.le_trans hl11 hl12)) (decide_eq_true rfl)
theorem zfl {l:Sl} (hx:SK h s S) (H:∀b h',h.le h'→(b=true→sSk S∧l.len≤20)→Kb b h'):callP (F.zdc s l) Kb h:=by
 refine za1 (fun b _=>b=true→sSk S∧l.len≤20) (fun K' hk=>?_) fun b h' hl hb=>H b h' hl hb
 unfold F.zdc
 refine za2g hx fun b h1 hl1 hb=>za2 (fun h2=>hk _ _ hl1 fun h3=>⟨hb h2,?_⟩) (fun h2=>hk _ _ hl1 fun h3=>by cases h3)
 have:=of_decide_eq_true h3
 omega
end
end Den
end

section
namespace Den
open Go Iv Lx
theorem keepP.mono {l:List Int} {item:Int} {R Q:List Int} (hs:∀x∈R,x∈Q) (h:keepP l item Q):keepP l item R:=⟨h.1,fun x hx hr=>h.2 x hx (hs x hr)⟩
theorem zyp {its:List (List Int)} {item:Int} {R Q:List Int} (hs:∀x∈R,x∈Q):∀k,(remN its item Q k).Sublist (remN its item R k)
 | 0=>List.Sublist.refl _
 | k+1=>by
   unfold remN
   refine List.Sublist.append (zyp hs k) ?_
   by_cases h:keepP (its.getD k []) item Q
   · rw [if_pos h,if_pos (h.mono hs)]; exact List.Sublist.refl _
   · rw [if_neg h]; exact List.nil_sublist _
theorem zacc {L:List PCon} {l m:List Int} (h:l.Sublist m):wtL L l≤wtL L m:=by
 unfold wtL
 induction h with
 | slnil=>exact Nat.le_refl _
 | cons a _ ih=>simp only [List.map_cons,List.sum_cons]; omega
 | cons_cons a _ ih=>simp only [List.map_cons,List.sum_cons]; omega
theorem canP.mono {L:List PCon} {cs:List Int} {R Q:List Int} {item:Int} (h:canP L cs R item) (hs:∀x∈R,x∈Q) (hq:item∉Q):canP L cs Q item:=by
 have hsub:(remL (L.map fun c=>itemsC c cs) item Q).Sublist (remL (L.map fun c=>itemsC c cs) item R):=zyp hs _
 exact ⟨hq,Nat.le_trans (zacc hsub) h.2.1,fun i hi=>h.2.2 i (hsub.subset hi)⟩
theorem zvd {can:List Int→Int→Bool} {pref:List Int} (hcn:∀R i,can R i=true→i∉R):∀{f:Nat} {R:List Int},(leftL pref R).length≤f→pref.find? (can (peelF can pref f R))=none
 | 0,R,h=>by
   unfold peelF
   rw [List.find?_eq_none]
   intro x hx hc
   have h1:=hcn _ _ hc
   have:x∈leftL pref R:=List.mem_filter.2 ⟨hx,by simpa using h1⟩
   have:=List.length_pos_of_mem this
   omega
 | f+1,R,h=>by
   cases hq:pref.find? (can R) with
   | none=>rw [zdr hcn h hq]; exact hq
   | some i=>
     obtain ⟨g,hg,e1,e2⟩:=zf4 hcn h hq
     have:g=f:=by omega
     subst this
     rw [e1]; exact zvd hcn e2
theorem za7r {S:PSk} {pref:List Int} {x:Int} (hx:x∈pref):¬canP (allC S) (cens S) (peelS S pref) x:=by
 have e:leftL pref []=pref:=by unfold leftL; rw [List.filter_eq_self]; simp
 have:=zvd (can:=canB (allC S) (cens S)) (pref:=pref) zkl (f:=pref.length) (R:=[]) (by rw [e]; exact Nat.le_refl _)
 rw [List.find?_eq_none] at this
 intro hc
 exact this x hx (decide_eq_true hc)
theorem zve {S:PSk} {p q:List Int} (hpq:∀x∈p,x∈q):∀x∈peelS S p,x∈peelS S q:=by
 suffices H:∀k,k≤(peelS S p).length→∀x∈(peelS S p).take k,x∈peelS S q by
  intro x hx
  have:=H _ (Nat.le_refl _)
  rw [List.take_length] at this
  exact this x hx
 intro k
 induction k with
 | zero=>intro _ x hx; simp at hx
 | succ k ih=>
   intro hk x hx
   have hk':k<(peelS S p).length:=by omega
   rw [←List.take_append_getElem hk',List.mem_append] at hx
   rcases hx with hx | hx
   · exact ih (by omega) x hx
   · rw [List.mem_singleton] at hx
     obtain ⟨h1,h2⟩:=zsg (S:=S) (pref:=p) hk'
     rw [zck hk',←hx] at h1 h2
     refine Classical.byContradiction fun hn=>?_
     exact za7r (hpq _ h2) (h1.mono (ih (by omega)) hn)
theorem za0h {p R Q:List Int} (h:∀x,x∈R↔x∈Q):leftL p R=leftL p Q:=by
 unfold leftL
 exact List.filter_congr fun x _=>by simp only [h x]
theorem za7a {S:PSk} {p q:List Int} (h:p.Perm q):(leftL p (peelS S p)).Perm (leftL q (peelS S q)):=by
 have e:leftL p (peelS S p)=leftL p (peelS S q):=za0h fun x=>⟨zve (fun y hy=>h.mem_iff.1 hy) x,zve (fun y hy=>h.mem_iff.2 hy) x⟩
 rw [e]
 exact h.filter _
theorem zvp {l:List Int} {i k:Nat} (hi:i<l.length) (hk:k<l.length):((l.set i l[k]).set k l[i]).Perm l:=by
 have h:=Array.swap_perm (xs:=l.toArray) (i:=i) (j:=k) (by simpa using hi) (by simpa using hk)
 have h:=Array.perm_iff_toList_perm.1 h
 simpa [Array.swap] using h
end Den
end

section
namespace Den
open Go Iv Lx
def UL (h:Hp) (l:Sl) (xs:List Int):Prop:=Rd h 1 l (xs.map fun z=>.int .u8 z)∧∀z∈xs,0≤z∧z≤255
theorem UL.le {h h':Hp} {l:Sl} {xs:List Int} (hx:UL h l xs) (hl:h.le h'):UL h' l xs:=⟨hx.1.le hl,hx.2⟩
theorem UL.len {h:Hp} {l:Sl} {xs:List Int} (hx:UL h l xs):l.len=xs.length:=by have:=hx.1.1; simp at this; omega
theorem UL.get {h:Hp} {l:Sl} {xs:List Int} {i:Int} {K:Int→Prop} (hx:UL h l xs) (k:Nat) (hi:i=k) (hk:k<xs.length) (H:K xs[k]):idxP l i 1 fun a=>ldL (.int .u8) a K h:=by
 have hr:Rd h 1 l (xs.flatMap fun z=>[.int .u8 z]):=by
  have e:∀ys:List Int,ys.map (fun z=>Value.int .u8 z)=ys.flatMap fun z=>[.int .u8 z]:=fun ys=>by induction ys<;>simp_all
  rw [←e]; exact hx.1
 refine rd_el (c:=fun z:Int=>[.int .u8 z]) (n:=1) (fun _=>rfl) (by decide) hr k hi hk fun a ha=>?_
 have:=ha 0 _ (by decide) rfl
 rw [zb3] at this
 exact ⟨_,this,H⟩
theorem OI.set {D h:Hp} {l:Sl} {xs:List Int} {i v:Int} {K:Hp→Prop} (k:Nat) (ho:OI D h l xs) (hi:i=k) (hk:k<xs.length) (H:∀h',OI D h' l (xs.set k v)→K h'):idxP l i 1 fun a=>stP a [.int .i64 v] K h:=by
 have e:∀ys:List Int,ys.map ic=ys.flatMap fun z=>[ic z]:=fun ys=>by induction ys<;>simp_all
 unfold OI at ho
 rw [e] at ho
 refine zac4 (c:=fun z:Int=>[ic z]) (n:=1) (fun _=>rfl) (by decide) k ho hi hk rfl fun h' h1 _=>H h' ?_
 unfold OI
 rw [e]; exact h1
section
variable {h : Hp} {s : TSketch} {S : PSk} {K : Bool → Hp → Prop}
theorem za9o (hx:SK h s S) (ht:GT h) (hk:∀h',h.le h'→K true h'):F.zhl s K h:=by
 unfold F.zhl
 refine za3 (fun _ h'=>h.le h'∧sSk S) ?_ ?_
 · rintro _ h1 ⟨hl1,hs⟩
   have key:∀(a b c d:Sl) (xs ys:List Int) (h':Hp),h.le h'→xs.length≤1000000→ys.length≤1000000→IL h' a xs→IL h' b ys→IL h' c xs→IL h' d ys →
    callP (F.zcl a c) (fun r5 h4=>ifP r5 (callP (F.zcl b d) (fun r6 h5=>K r6 h5) h4) (K false h4)) h':=by
    intro a b c d xs ys h' hl l1 l2 ha hb hc hd
    refine zj2 ha hc l1 fun h2 hl2=>?_
    refine zbt (decide_eq_true rfl) ?_
    refine zj2 (hb.le hl2) (hd.le hl2) l2 fun h3 hl3=>?_
    rw [decide_eq_true rfl]
    exact hk _ (Hp.le_trans hl (Hp.le_trans hl2 hl3))
   have hpl:=zpn hs
   have hal:=zjf hs
   have hll:(leftL (allS S) (peelS S (allS S))).length≤(allS S).length:=List.length_filter_le _ _
   refine zq4 (hx.le hl1) hs (ht.le hl1) (fun h2 hl2 hn=>?_) (fun a b h2 hl2 hv ha hb=>?_)
   · refine zpq (hx.le (Hp.le_trans hl1 hl2)) hs (fun h3 hl3 _=>?_) (fun _ _ _ _ hv=>absurd hv hn)
     exact key _ _ _ _ [] [] _ (Hp.le_trans hl1 (Hp.le_trans hl2 hl3)) (by simp) (by simp) IL.nil IL.nil IL.nil IL.nil
   · refine zpq (hx.le (Hp.le_trans hl1 hl2)) hs (fun h3 hl3 hn=>absurd hv hn) (fun c d h3 hl3 _ hc hd=>?_)
     exact key _ _ _ _ _ _ _ (Hp.le_trans hl1 (Hp.le_trans hl2 hl3)) (by omega) (by omega) (ha.le hl3) (hb.le hl3) hc hd
 · refine zbw ht fun h1 hl1=>zah rfl ?_
   refine zfl (hx.le hl1) fun b h2 hl2 hb=>?_
   have hle2:=Hp.le_trans hl1 hl2
   refine za2 (fun h3=>zbw (ht.le hle2) fun h3 hl3=>hk _ (Hp.le_trans hle2 hl3)) (fun h3=>⟨hle2,(hb (by simpa using h3)).1⟩)
theorem za37 {S:PSk} (hs:sSk S) (hv:VS S):(planS S).length≤1000∧∀x∈planS S,x.2.2.1.length≤1000:=by
 have hpl:=zpn hs
 refine ⟨by unfold planS; rw [zjo]; omega,?_⟩
 have hal:=zhw hs
 suffices H:∀R k,∀x∈planN S R k,x.2.2.1.length≤1000 from H _ _
 intro R k
 induction k with
 | zero=>intro x hx; cases hx
 | succ k ih=>
   intro x hx
   unfold planN at hx
   rcases List.mem_cons.1 hx with rfl | hx
   · have h1:(remL (its S) (R.getD k 0) (R.take k)).length≤(its S).length:=zp1
     rw [zdq] at h1
     have e:(stepP (allC S) (cens S) (R.getD k 0) (remL (its S) (R.getD k 0) (R.take k))).2.2.1=remL (its S) (R.getD k 0) (R.take k):=by
      unfold stepP
      split
      · rfl
      · split
        · rfl
        · split<;>rfl
     rw [e]; omega
   · exact ih x hx
theorem za9p (hx:SK h s S) (ht:GT h) (hk:∀h',h.le h'→K true h'):F.zhm s K h:=by
 unfold F.zhm
 refine za3 (fun _ h'=>h.le h'∧sSk S) ?_ ?_
 · rintro _ h1 ⟨hl1,hs⟩
   refine zq5 (hx.le hl1) hs (ht.le hl1) fun r3 h2 hl2 hr3=>?_
   have hle2:=Hp.le_trans hl1 hl2
   refine za3a (hx.le hle2) hs (ht.le hle2) fun r4 h3 hl3 hr4=>?_
   have hle3:=Hp.le_trans hle2 hl3
   have fin:∀(ps:List PStep),r3.2=r4.2→LR stc 4 STP h3 r3.1.steps ps→LR stc 4 STP h3 r4.1.steps ps→r3.1.checks=nilS→r4.1.checks=nilS→ps.length≤1000→(∀x∈ps,x.2.2.1.length≤1000) →
    ifP (r3.2==r4.2) (callP (F.zit (⟨r3.1.steps,r3.1.checks⟩:TPlan) (⟨r4.1.steps,r4.1.checks⟩:TPlan)) (fun r5 h4=>K r5 h4) h3) (K false h3):=by
    intro ps e h1 h2 c1 c2 g1 g2
    refine za7 (fun _=>?_) (fun hn=>absurd e hn)
    refine ztt (p:=⟨r3.1.steps,r3.1.checks⟩) (q:=⟨r4.1.steps,r4.1.checks⟩) h1 h2 c1 c2 g1 g2 fun h4 hl4=>?_
    rw [decide_eq_true rfl]
    exact hk _ (Hp.le_trans hle3 hl4)
   rcases hr3 with ⟨n3,e3⟩ | ⟨v3,n3,e3⟩ | ⟨v3,n3,e3,c3,s3⟩
   · rcases hr4 with ⟨n4,e4⟩ | ⟨v4,n4,e4⟩ | ⟨v4,n4,e4,c4,s4⟩
     · exact fin [] (by rw [e3,e4]) (by rw [e3]; exact LR.nil) (by rw [e4]; exact LR.nil) (by rw [e3]) (by rw [e4]) (by simp) (by simp)
     · exact absurd v4 n3
     · exact absurd v4 n3
   · rcases hr4 with ⟨n4,e4⟩ | ⟨v4,n4,e4⟩ | ⟨v4,n4,e4,c4,s4⟩
     · exact absurd v3 n4
     · exact fin [] (by rw [e3,e4]) (by rw [e3]; exact LR.nil) (by rw [e4]; exact LR.nil) (by rw [e3]) (by rw [e4]) (by simp) (by simp)
     · exact absurd n4 n3
   · rcases hr4 with ⟨n4,e4⟩ | ⟨v4,n4,e4⟩ | ⟨v4,n4,e4,c4,s4⟩
     · exact absurd v3 n4
     · exact absurd n3 n4
     · have:=za37 hs v3
       exact fin (planS S) (by rw [e3,e4]) (s3.le zf1 hl3) s4 c3 c4 this.1 this.2
 · refine zbw ht fun h1 hl1=>zah rfl ?_
   refine zfl (hx.le hl1) fun b h2 hl2 hb=>?_
   have hle2:=Hp.le_trans hl1 hl2
   refine za2 (fun h3=>zbw (ht.le hle2) fun h3 hl3=>hk _ (Hp.le_trans hle2 hl3)) (fun h3=>⟨hle2,(hb (by simpa using h3)).1⟩)
theorem za3v {item:Int} {rs:Sl} {R:List Int} (hx:SK h s S) (ht:GT h) (hr:IL h rs R) (hi:-9223372036854775808≤item∧item≤9223372036854775807) (hk:∀h',h.le h'→K true h'):F.zgc s item rs K h:=by
 unfold F.zgc
 have hrl:=hr.len
 refine za3 (fun _ h'=>h.le h'∧sSk S∧rs.len≤20) ?_ ?_
 · rintro _ h1 ⟨hl1,hs,hR⟩
   refine zyb (hx.le hl1) hs (ht.le hl1) (hr.le hl1) (by omega) hi fun r2 h2 hl2 hr2=>?_
   have hle2:=Hp.le_trans hl1 hl2
   refine zym (hx.le hle2) hs (hr.le hle2) (by omega) fun r3 h3 hl3 hr3=>?_
   have e:r2=r3:=by
    by_cases hh:VS S∧item∈allS S
    · rw [hr2.1 hh,hr3.1 hh]
    · rw [hr2.2 hh,hr3.2 hh]
   rw [e,beq_self_eq_true]
   exact hk _ (Hp.le_trans hle2 hl3)
 · refine zbw ht fun h1 hl1=>zah rfl ?_
   refine zfl (hx.le hl1) fun b h2 hl2 hb=>?_
   have hle2:=Hp.le_trans hl1 hl2
   refine za2 (fun h3=>zbw (ht.le hle2) fun h3 hl3=>hk _ (Hp.le_trans hle2 hl3)) (fun h3=>⟨hle2,hb (by simpa using h3)⟩)
theorem za0g {item:Int} {rs:Sl} {R:List Int} (hx:SK h s S) (ht:GT h) (hr:IL h rs R) (hi:-9223372036854775808≤item∧item≤9223372036854775807) (hk:∀h',h.le h'→K true h'):F.zfg s item rs K h:=by
 unfold F.zfg
 have hrl:=hr.len
 refine za3 (fun _ h'=>h.le h'∧sSk S∧rs.len≤20) ?_ ?_
 · rintro _ h1 ⟨hl1,hs,hR⟩
   refine zk1 (hx.le hl1) hs (ht.le hl1) (hr.le hl1) (by omega) hi fun b2 h2 hl2 hb2=>?_
   have hle2:=Hp.le_trans hl1 hl2
   refine zsi (hx.le hle2) hs (hr.le hle2) (by omega) fun b3 h3 hl3 hb3=>?_
   have e:b2=b3:=by rw [Bool.eq_iff_iff,hb2,hb3]
   rw [e,beq_self_eq_true]
   exact hk _ (Hp.le_trans hle2 hl3)
 · refine zbw ht fun h1 hl1=>zah rfl ?_
   refine zfl (hx.le hl1) fun b h2 hl2 hb=>?_
   have hle2:=Hp.le_trans hl1 hl2
   refine za2 (fun h3=>zbw (ht.le hle2) fun h3 hl3=>hk _ (Hp.le_trans hle2 hl3)) (fun h3=>⟨hle2,hb (by simpa using h3)⟩)
theorem za1w {h0:Hp} {l:Sl} {xs:List Int} {x:Int} {T:Bool×Int×Unit→Hp→Prop} (hl:IL h0 l xs) (hlen:xs.length≤1000000) (H:∀st,st.1=decide (x∈xs)→T st h0) :
 (loopP (S:=Bool×Int×Unit) (fun s15 k16 h8=>
 (ifP (decide (s15.2.1<(l.len:Int)))
 (joinP (S:=Bool×Unit) (fun s17 h9=>
 (k16 (s17.1,(IntKind.i64.wrap (s15.2.1+1)),()) h9))
 (fun k18=>
 (idxP l s15.2.1 1 fun a19=>
 (ldL (.int .i64) a19 (fun x20=>
 (ifP s15.1
 (k18 (true,()) h8)
 (k18 ((x==x20),()) h8))) h8))))
 (T s15 h8)))
 (false,0,()) h0):=by
  have hll:=hl.len
  refine zc5 (n:=xs.length) (by omega) (fun i b h'=>h'=h0∧b=decide (x∈xs.take i)) ⟨rfl,by simp⟩ ?_
  rintro i b h1 hi ⟨rfl,hb⟩ k hk2
  refine za0 (fun h2=>?_) (fun h2=>?_)
  · have hi':i<xs.length:=by simp only at h2; omega
    refine za3 (fun s h'=>h'=h1∧s.1=decide (x∈xs.take (i+1))) (fun s h' hs=>hk2 _ _ hi' hs) ?_
    refine hl.get i rfl hi' ?_
    have e:(x∈xs.take (i+1))↔x∈xs.take i∨x=xs[i]:=by rw [←List.take_append_getElem hi',List.mem_append,List.mem_singleton]
    refine za2 (fun h3=>⟨rfl,?_⟩) (fun h3=>⟨rfl,?_⟩)
    · simp only at h3
      rw [hb] at h3
      exact (decide_eq_true (e.2 (.inl (of_decide_eq_true h3)))).symm
    · simp only at h3
      rw [hb] at h3
      have hn:=of_decide_eq_false h3
      show (x==xs[i])=_
      rw [Bool.eq_iff_iff,beq_iff_eq,decide_eq_true_iff,e]
      exact ⟨fun hh=>.inr hh,fun hh=>hh.resolve_left hn⟩
  · have:i=xs.length:=by simp only at h2; omega
    subst this
    rw [List.take_length] at hb
    exact H _ hb
theorem za0f {rs ms:Sl} {R M:List Int} (hx:SK h s S) (ht:GT h) (hr:IL h rs R) (hm:IL h ms M) (hk:∀h',h.le h'→K true h'):F.zff s rs ms K h:=by
 unfold F.zff
 have hrl:=hr.len
 have hml:=hm.len
 refine za3 (fun _ h'=>h.le h'∧sSk S∧rs.len≤20∧ms.len≤20∧VS S) ?_ ?_
 · rintro _ h1 ⟨hl1,hs,hR,hM,hv⟩
   refine za7n fun p3 h2 ho2=>?_
   have l12:=ho2.dle
   refine ho2.appAll (hr.le (Hp.le_trans hl1 l12)) (by simp; omega) fun w5 h3 ho3=>?_
   rw [List.nil_append] at ho3
   refine ho3.appAll (hm.le (Hp.le_trans hl1 ho3.dle)) (by omega) fun w7 h4 ho4=>?_
   have hle4:=Hp.le_trans hl1 ho4.dle
   refine zj0 (hx.le hle4) hs fun r8 h5 hl5 ho5=>?_
   have hle5:=Hp.le_trans hle4 hl5
   have hal:=zjf hs
   have ho5:OI h4 h5 r8 (allS S):=ho5
   have h5l:=ho5.il.len
   refine zbi (n:=(allS S).length) (by omega) (fun i h'=>h5.le h') (Hp.le_refl _) ?_
   intro i h6 hi hl6 k hk2
   have hle6:=Hp.le_trans hle5 hl6
   refine za0 (fun h7=>?_) (fun h7=>hk _ hle6)
   have hi':i<(allS S).length:=by simp only at h7; omega
   refine za3 (fun _ h'=>h5.le h') (fun _ h' hh=>hk2 _ hi' hh) ?_
   refine (ho5.il.le hl6).get i rfl hi' ?_
   refine za1w (hm.le hle6) (by omega) fun st hst=>?_
   rw [hst]
   have hsm:=zoj hs (List.getElem_mem hi')
   unfold smI at hsm
   refine za2 (fun h8=>?_) (fun h8=>hl6)
   have hnM:(allS S)[i]∉M:=by simpa using h8
   refine zk1 (hx.le hle6) hs (ht.le hle6) (hr.le hle6) (by omega) (by omega) fun b9 h9 hl9 hb9=>?_
   have l59:=Hp.le_trans hl6 hl9
   refine za2 (fun h10=>?_) (fun h10=>l59)
   have hc:=(hb9.1 h10).2.2
   have hle9:=Hp.le_trans hle6 hl9
   have hw:IL h9 w7 (R++M):=ho4.il.le (Hp.le_trans hl5 l59)
   refine zk1 (hx.le hle9) hs (ht.le hle9) hw (by simp; omega) (by omega) fun b11 h11 hl11 hb11=>?_
   have e:b11=true:=hb11.2 ⟨hv,List.getElem_mem hi',hc.mono (fun x hx=>List.mem_append_left _ hx) (by
    rw [List.mem_append]
    rintro (hh | hh)
    · exact hc.1 hh
    · exact hnM hh)⟩
   rw [e]
   exact zah rfl (Hp.le_trans l59 hl11)
 · refine zbw ht fun h1 hl1=>zah rfl ?_
   refine zfl (hx.le hl1) fun b h2 hl2 hb=>?_
   have hle2:=Hp.le_trans hl1 hl2
   refine za2 (fun h3=>zbw (ht.le hle2) fun h3 hl3=>hk _ (Hp.le_trans hle2 hl3)) (fun h3=>?_)
   refine zfl (hx.le hle2) fun b4 h4 hl4 hb4=>?_
   have hle4:=Hp.le_trans hle2 hl4
   refine za2 (fun h5=>zbw (ht.le hle4) fun h3 hl3=>hk _ (Hp.le_trans hle4 hl3)) (fun h5=>?_)
   obtain ⟨s1,s2⟩:=hb (by simpa using h3)
   obtain ⟨_,s4⟩:=hb4 (by simpa using h5)
   refine zfk (hx.le hle4) s1 fun r h6 hl6 hr6=>?_
   have hle6:=Hp.le_trans hle4 hl6
   exact zax (fun h7=>zbw (ht.le hle6) fun h3 hl3=>hk _ (Hp.le_trans hle6 hl3)) (fun h7=>⟨hle6,s1,s2,s4,hr6.1 h7⟩)
theorem za78 {os:Sl} {O:List Int} (hx:SK h s S) (ht:GT h) (hr:UL h os O) (hO:O.length≤140737488355328) (hk:∀h',h.le h'→K true h'):F.zgy s os K h:=by
 unfold F.zgy
 have hrl:=hr.len
 refine za3 (fun _ h'=>h.le h'∧sSk S∧VS S) ?_ ?_
 · rintro _ h1 ⟨hl1,hs,hv⟩
   have hal:=zjf hs
   refine zj0 (hx.le hl1) hs fun r3 h2 hl2 ho2=>?_
   have ho2:OI h1 h2 r3 (allS S):=ho2
   refine zbi (n:=O.length) (by omega) (fun i h'=>∃pref:List Int,OI h1 h' r3 pref∧pref.Perm (allS S)) ⟨_,ho2,List.Perm.refl _⟩ ?_
   rintro i h3 hi ⟨pref,ho3,hp3⟩ k hk2
   have hle3:=Hp.le_trans hl1 ho3.dle
   have hpl:=hp3.length_eq
   have h3l:=ho3.il.len
   refine za0 (fun h4=>?_) (fun h4=>?_)
   · have hi':i<O.length:=by simp only at h4; omega
     refine za3 (fun _ h'=>∃pref:List Int,OI h1 h' r3 pref∧pref.Perm (allS S)) (fun _ h' hh=>hk2 _ hi' hh) ?_
     refine (hr.le hle3).get i rfl hi' ?_
     have hb:=hr.2 _ (List.getElem_mem hi')
     refine za0 (fun h5=>?_) (fun h5=>⟨pref,ho3,hp3⟩)
     have hi2:i<pref.length:=by simp only at h5; omega
     refine ⟨by omega,?_⟩
     rw [w64 (by omega)]
     obtain ⟨q,hq⟩:∃q:Nat,O[i].tmod (r3.len:Int)=q:=⟨(O[i].tmod (r3.len:Int)).toNat,by rw [Int.toNat_of_nonneg (Int.tmod_nonneg _ hb.1)]⟩
     have hq2:q<pref.length:=by
      have:=Int.tmod_lt_of_pos O[i] (show (0:Int)<r3.len by omega)
      omega
     rw [hq]
     refine ho3.il.get q rfl hq2 (ho3.il.get i rfl hi2 ?_)
     refine ho3.set i rfl hi2 fun h6 ho6=>?_
     refine ho6.set q rfl (by rw [List.length_set]; exact hq2) fun h7 ho7=>⟨_,ho7,(zvp hi2 hq2).trans hp3⟩
   · have hsub:∀x∈pref,x∈allI S.pts.length S.cir.length:=fun x hx=>hp3.mem_iff.1 hx
     refine zq4 (hx.le hle3) hs (ht.le hle3) (fun _ _ hn=>absurd hv hn) fun a b h5 hl5 _ ha hb=>?_
     have hle5:=Hp.le_trans hle3 hl5
     refine zqp (pref:=pref) (hx.le hle5) hs hv (ho3.il.le hl5) (by omega) hsub fun c d h6 hl6 hc hd=>?_
     have hle6:=Hp.le_trans hle5 hl6
     have hperm:=za7a (S:=S) hp3
     have hll:(leftL (allS S) (peelS S (allS S))).length≤(allS S).length:=List.length_filter_le _ _
     have hbl:=hb.len
     have hdl:=hd.len
     have hle:=hperm.length_eq
     refine zax (fun h7=>absurd (by simp only; omega) h7) (fun _=>?_)
     refine zbi (n:=(leftL (allS S) (peelS S (allS S))).length) (by omega) (fun i h'=>h'=h6) rfl ?_
     rintro i h8 hi8 rfl k hk3
     refine za0 (fun h9=>?_) (fun h9=>hk _ hle6)
     have hi':i<(leftL (allS S) (peelS S (allS S))).length:=by simp only at h9; omega
     refine (hb.le hl6).get i rfl hi' ?_
     refine za1w hd (by omega) fun st hst=>?_
     rw [hst]
     refine zah ?_ (hk3 _ hi' rfl)
     rw [decide_eq_true (hperm.mem_iff.2 (List.getElem_mem hi'))]; rfl
 · refine zbw ht fun h1 hl1=>zah rfl ?_
   refine zfl (hx.le hl1) fun b h2 hl2 hb=>?_
   have hle2:=Hp.le_trans hl1 hl2
   refine za2 (fun h3=>zbw (ht.le hle2) fun h3 hl3=>hk _ (Hp.le_trans hle2 hl3)) (fun h3=>?_)
   obtain ⟨s1,s2⟩:=hb (by simpa using h3)
   refine zfk (hx.le hle2) s1 fun r h6 hl6 hr6=>?_
   have hle6:=Hp.le_trans hle2 hl6
   exact zax (fun h7=>zbw (ht.le hle6) fun h3 hl3=>hk _ (Hp.le_trans hle6 hl3)) (fun h7=>⟨hle6,s1,hr6.1 h7⟩)
end
end Den
end

section
namespace Den
open Go Iv Lx Go.Proofs
open Go.ChangeShapes Go.WideShapes Go.ChangeAt Go.RowKit
section
variable {H : Type} {enc : TypeId × Value → H} {w : World} {cs : List Value}
theorem zagh {s:Sl} (h:Okt enc Tryz.prog w 32 [Lf.sl.up s]):(∃T,IL (hpW w) s T∧∀z∈T,-9223372036854775808≤z∧z≤9223372036854775807)∧True:=by
 obtain ⟨s',xs,hs,h1,h2⟩:=zy6 h
 have e:s=s':=by
  simp only [List.cons.injEq,and_true] at hs
  exact Lf.up_inj hs
 subst e
 exact ⟨⟨xs,h1,h2⟩,trivial⟩
theorem c_u8:Tryz.prog.cellsOf 5=1:=by kernel_rfl
theorem by_u8:Tryz.prog.bytesOf 5=1:=by kernel_rfl
theorem za1u:∀{css:List (List Value)},(∀c∈css,c.length=Tryz.prog.cellsOf 5∧Okt enc Tryz.prog w 5 c)→∃l:List Int,css.flatten=l.map (fun z=>Value.int .u8 z)∧(∀z∈l,0≤z∧z≤255)∧l.length=css.length
 | [],_=>⟨[],rfl,fun d hd=>by simp at hd,rfl⟩
 | c :: r,h=>by
   obtain ⟨l,h1,h2,h3⟩:=za1u (css:=r) fun x hx=>h x (List.mem_cons_of_mem _ hx)
   obtain ⟨m,rfl,hw⟩:=(h c (by simp)).2.int Tryz.underlying5
   simp [Lit.wf,IntKind.min,IntKind.max,IntKind.signed,IntKind.bits] at hw
   refine ⟨m :: l,?_,fun d hd=>?_,by simp [h3]⟩
   · rw [List.flatten_cons,h1]; rfl
   · rcases List.mem_cons.1 hd with rfl | hd
     · omega
     · exact h2 d hd
theorem zagi {s:Sl} (h:Okt enc Tryz.prog w 44 [Lf.sl.up s]):(∃T,UL (hpW w) s T∧T.length≤140737488355328)∧True:=by
 obtain ⟨s',hs,h1,h2,css,h3,h4,h5⟩:=h.slice Tryz.underlying44
 have e:s=s':=by
  simp only [List.cons.injEq,and_true] at hs
  exact Lf.up_inj hs
 subst e
 obtain ⟨l,g1,g2,g3⟩:=za1u h4
 rw [c_u8,g1] at h5
 rw [by_u8,show reachBytes=140737488351232 from rfl] at h2
 exact ⟨⟨l,⟨h5,g2⟩,by omega⟩,trivial⟩
end
end Den
end

section
namespace Den
open Go Iv Lx
def keepT (l:List Int) (item:Int) (T:List Int):Prop:=item∈l∧∀x∈l,x∈T
instance (l:List Int) (item:Int) (T:List Int):Decidable (keepT l item T):=by unfold keepT; infer_instance
section
variable {h : Hp} {s : TSketch} {S : PSk} {x : TConstraint} {c : PCon} {cs : List Int} {ce : Sl} {item : Int} {T : List Int} {ts : Sl} {Kb : Bool → Hp → Prop} {Ki : Int → Hp → Prop} {Ks : Sl → Hp → Prop} {K : (Sl × Sl) → Hp → Prop}
def inAll (l T:List Int):Prop:=∀x∈l,x∈T
instance (l T:List Int):Decidable (inAll l T):=by unfold inAll; infer_instance
end
end Den
end

section
namespace Den
open Go Iv Lx
section
variable {h D : Hp} {s : TSketch} {S : PSk} {x : TConstraint} {c : PCon} {cs : List Int} {ce l rs : Sl} {item : Int} {R xs : List Int} {p1 p2 : Addr} {Kb : Bool → Hp → Prop} {Ki : Int → Hp → Prop} {Ks : Sl → Hp → Prop} {K : (Sl × Sl) → Hp → Prop}
end
end Den
end

section
namespace Den
open Go Iv Lx
section
variable {h D : Hp} {s : TSketch} {S : PSk} {l rs : Sl} {item a b : Int} {R xs : List Int} {p1 p2 : Addr} {Kb : Bool → Hp → Prop} {Ki : Int → Hp → Prop} {Ks : Sl → Hp → Prop}
end
end Den
end

section
namespace Den
open Go Iv Lx
def rngI (n:Nat):List Int:=(List.range n).map fun i:Nat=>(i:Int)
section
variable {h D : Hp} {g : TGraph} {es : List (Int × Int)} {Kb : Bool → Hp → Prop} {Ki : Int → Hp → Prop} {Ks : Sl → Hp → Prop}
end
end Den
end

section
namespace Den
open Go Iv Lx Go.Proofs
open Go.ChangeShapes Go.WideShapes Go.ChangeAt Go.RowKit
section
variable {H : Type} {enc : TypeId × Value → H} {w : World} {cs : List Value}
end
end Den
end

section
namespace Den
open Go
noncomputable def bd (fn:Func):Code:=match fn.body with | some c=>c | none=>.skip
section
variable {α ρ : Type} {A : ArgT α} {R : Ty ρ} {F : α → (ρ → Hp → Prop) → Hp → Prop} {g : Nat} {fn : Func}
theorem eo (C:Cfg) (an:An) (hf:C.P.funcs[g]?=some fn) (hC:Tab C C.tab) (hBk:BackTab C.P C.backs:=by exact trivial)
 (hb:fn.body=some (bd fn):=by exact rfl) (hn:fn.ntmps=C.n:=by exact rfl) (hname:(fn.name == "runtime.NumGoroutine")=false:=by decide) (ha:∀a,Nat.ble (A.up a).length C.n=true:=by exact fun _=>rfl)
 (hF:∀a K D,denF C fn (bd fn) an (A.up a) (fun v h=>R.dn v fun r=>K r h) D=F a K D:=by intro a K D; kernel_rfl):Entry C.P g (mkE A R F) false:=zaa4 hC hBk hf hb hn hname ha hF
theorem eoM (C:Cfg) (an:An) (hf:C.P.funcs[g]?=some fn) (hC:Tab C C.tab) (hBk:BackTab C.P C.backs:=by exact trivial)
 (hb:fn.body=some (bd fn):=by exact rfl) (hn:fn.ntmps=C.n:=by exact rfl) (hname:(fn.name == "runtime.NumGoroutine")=false:=by decide) (ha:∀a,Nat.ble (A.up a).length C.n=true:=by exact fun _=>rfl)
 (hF:∀a K D,denF C fn (bd fn) an (A.up a) (fun v h=>R.dn v fun r=>K r h) D=F a K D:=by intro a K D; kernel_rfl):Entry C.P g (mkM A R F) true:=za6y hC hBk hf hb hn hname ha hF
end
end Den
end

section
namespace Den
open Go Go.RowKit Go.Shelf
open Go.Proofs
attribute [local go_sem] Oper.semAt_some
set_option maxRecDepth 100000 in
set_option maxHeartbeats 2000000 in
theorem za43:BackFn Tryz.prog 257 (.leaf (.int .u32)):=by
 refine ⟨enters_of Tryz.func257 (by kernel_rfl) rfl,?_⟩
 rintro l ab ⟨xa,xl,xc⟩ J w hxl h0 hbox hround
 simp only at hxl h0 hbox hround
 have hb0:=hbox _ _ h0
 refine callsIn_of_wp Tryz.func257 rfl trivial ?_ rfl
 simp only [Tryz.ntmps257,List.size_toArray,List.length_cons,List.length_nil,Nat.reduceAdd,Nat.reduceSub,Array.replicate_succ,Array.replicate_zero,List.push_toArray,List.append_toArray,List.nil_append,List.cons_append]
 gi_wp2
 gi_loopw [3] (fun i wr=>∃k:Nat,k≤xl∧i=.int .i64 ((k:Int)-1)∧J k wr) (fun i _=>(intOf i+1).toNat)
 case atStart=>exact ⟨xl,Nat.le_refl _,rfl,h0⟩
 case round=>
  obtain ⟨k,hk,rfl,hJ⟩:=hrel
  have hbx:=hbox _ _ hJ
  cases k with
  | zero=>
    gi_wp2
    go_end0
    exact ⟨⟨_,rfl⟩,hJ⟩
  | succ j=>
    obtain ⟨ad,v,hxa,hcells,f,tmps1,asg,body,hy,hR⟩:=hround j wr (by omega) hJ
    subst hxa
    have hc0:wr.cell? (ad.add j)=some (.int .u32 v):=by
     have:=hcells 0 (.int .u32 v) rfl
     simpa [STy.size] using this
    have hkj:(((j+1:Nat):Int)-1)=(j:Int):=by omega
    rw [hkj]
    simp only [STy.val,Lf.up] at hy
    gi_wp2
    refine ⟨rfl,hR.mono ?_⟩
    rintro e W3 ⟨rfl,hJ3⟩
    gi_wp2
    go_roundw
    case rel=>exact ⟨j,by omega,by simp,hJ3⟩
    case measure=>simp [intOf]
end Den
end

section
set_option maxRecDepth 100000
namespace Den
open Go Go.Proofs.Tryz
noncomputable section
noncomputable def e_x0:FSem:=mkE (ArgT.cons (Ty.leaf .sl) ArgT.nil) (Ty.leaf .bool) fun a=>F.zjj a.1
theorem t_x0:Entry prog 169 e_x0 false:=eo { P:=prog,n:=6,tab:=[] } (.seq .leaf (.seq .leaf .leaf)) func169 trivial
noncomputable def e_x1:FSem:=mkE (ArgT.cons (Ty.leaf .sl) (ArgT.fn 169 ArgT.nil)) (Ty.leaf (.int .i64)) fun a=>F.zbp a.1
theorem t_x1:Entry prog 210 e_x1 false:=eo { P:=prog,n:=19,tab:=[(169,e_x0)] } (.seq .leaf (.seq (.seq .leaf (.block (.loop [(8,.leaf (.int .i64))] (.seq .leaf (.seq (.cond .leaf .leaf) (.seq (.block (.seq .leaf (.seq .leaf (.cond (.seq .leaf .leaf) .leaf)))) .leaf)))))) (.seq .leaf .leaf))) func210 ⟨t_x0,trivial⟩
noncomputable def e_x2:FSem:=mkE (ArgT.cons (Ty.leaf .sl) (ArgT.fn 169 ArgT.nil)) (Ty.leaf .bool) fun a=>F.zbh a.1
theorem t_x2:Entry prog 168 e_x2 false:=eo { P:=prog,n:=9,tab:=[(210,e_x1)] } (.seq .leaf (.seq .leaf .leaf)) func168 ⟨t_x1,trivial⟩
noncomputable def e_x3:FSem:=mkE (ArgT.cons tyTSketch ArgT.nil) (Ty.leaf .bool) fun a=>F.ziw a.1
theorem t_x3:Entry prog 113 e_x3 false:=eo { P:=prog,n:=35,tab:=[(168,e_x2)],rtL:=[(5,1),(8,1),(11,1),(14,1),(17,1),(20,1),(32,1)],locL:=[1] } (.seq .leaf (.seq (.seq .leaf (.block (.loop [(25,.leaf (.int .i64))] (.seq .leaf (.seq (.cond .leaf .leaf) (.seq (.block (.seq .leaf (.seq .leaf (.cond (.seq .leaf .leaf) .leaf)))) .leaf)))))) (.seq .leaf .leaf))) func113 ⟨t_x2,trivial⟩
noncomputable def e_x4:FSem:=mkE (ArgT.cons tyTInt ArgT.nil) (Ty.leaf .bool) fun a=>F.zh6 a.1
theorem t_x4:Entry prog 172 e_x4 false:=eo { P:=prog,n:=27,tab:=[],rtL:=[(4,1),(10,1),(18,1)],locL:=[1] } (.seq .leaf (.seq .leaf (.seq .leaf .leaf))) func172 trivial
noncomputable def e_x5:FSem:=mkE (ArgT.cons (Ty.leaf .sl) ArgT.nil) (Ty.leaf .sl) fun a=>F.zaf a.1
theorem t_x5:Entry prog 212 e_x5 false:=eo { P:=prog,n:=21,tab:=[] } (.seq .leaf (.seq (.block (.loop [(0,.leaf (.sl))] (.join [] (.seq .leaf (.cond .leaf .leaf)) (.block .leaf)))) (.seq .leaf .leaf))) func212 trivial
noncomputable def e_x6:FSem:=mkE (ArgT.cons tyTInt ArgT.nil) (Ty.leaf (.int .i64)) fun a=>F.zeh a.1
theorem t_x6:Entry prog 173 e_x6 false:=eo { P:=prog,n:=12,tab:=[(212,e_x5)],rtL:=[(4,1),(10,1)],locL:=[1] } (.seq .leaf (.seq (.block (.seq .leaf (.cond (.seq .leaf .leaf) (.seq .leaf (.cond (.seq .leaf .leaf) .leaf))))) (.seq .leaf .leaf))) func173 ⟨t_x5,trivial⟩
noncomputable def e_x7:FSem:=mkE (ArgT.cons (Ty.leaf .sl) ArgT.nil) (Ty.leaf .sl) fun a=>F.zb4 a.1
theorem t_x7:Entry prog 215 e_x7 false:=eo { P:=prog,n:=8,tab:=[] } (.seq .leaf (.seq (.seq .leaf (.cond (.seq .leaf .leaf) .leaf)) (.seq .leaf .leaf))) func215 trivial
noncomputable def e_x8:FSem:=mkE (ArgT.cons (Ty.leaf .bool) (ArgT.cons (Ty.leaf .sl) ArgT.nil)) tyTInt fun a=>F.zc4 a.1 a.2.1
theorem t_x8:Entry prog 214 e_x8 false:=eo { P:=prog,n:=14,tab:=[(212,e_x5)],locL:=[4] } (.seq .leaf (.seq .leaf (.seq (.seq .leaf (.cond (.seq .leaf .leaf) .leaf)) (.seq .leaf .leaf)))) func214 ⟨t_x5,trivial⟩
noncomputable def e_x9:FSem:=mkE (ArgT.cons (Ty.leaf .sl) ArgT.nil) (Ty.clo 257) fun a=>F.zbs a.1
theorem t_x9:Entry prog 246 e_x9 false:=eo { P:=prog,n:=4,tab:=[] } (.seq .leaf (.seq .leaf .leaf)) func246 trivial
noncomputable def e_x10:FSem:=mkE (ArgT.cons (Ty.leaf .sl) ArgT.nil) (Ty.leaf (.int .u64)) fun a=>F.zd8 a.1
theorem t_x10:Entry prog 216 e_x10 false:=eo { P:=prog,n:=16,tab:=[(246,e_x9)],locL:=[3],backs:=[(257,(.leaf (.int .u32)))] } (.seq .leaf (.seq .leaf (.seq (.seq .leaf (.block (.back [(3,.box [.int .u64])] .leaf (.block .leaf)))) (.seq .leaf .leaf)))) func216 ⟨t_x9,trivial⟩ ⟨za43,trivial⟩
noncomputable def e_x11:FSem:=mkE (ArgT.cons (Ty.leaf (.int .u64)) ArgT.nil) (Ty.leaf .sl) fun a=>F.zc9 a.1
theorem t_x11:Entry prog 217 e_x11 false:=eo { P:=prog,n:=10,tab:=[(212,e_x5)] } (.seq .leaf (.seq .leaf .leaf)) func217 ⟨t_x5,trivial⟩
noncomputable def e_x12:FSem:=mkE (ArgT.cons (Ty.leaf (.int .i64)) ArgT.nil) (Ty.leaf .bool) fun a=>F.zh3 a.1
theorem t_x12:Entry prog 209 e_x12 false:=eo { P:=prog,n:=6,tab:=[] } (.seq .leaf (.seq .leaf .leaf)) func209 trivial
noncomputable def e_x13:FSem:=mkE (ArgT.cons (Ty.leaf (.int .i64)) (ArgT.cons (Ty.leaf (.int .i64)) ArgT.nil)) (Ty.leaf (.int .i64)) fun a=>F.zfr a.1 a.2.1
theorem t_x13:Entry prog 163 e_x13 false:=eo { P:=prog,n:=20,tab:=[(209,e_x12)] } (.seq .leaf (.seq .leaf (.seq .leaf (.seq (.seq .leaf (.cond (.seq (.seq .leaf (.cond (.seq .leaf .leaf) .leaf)) (.seq .leaf .leaf)) .leaf)) (.seq (.seq .leaf (.cond (.seq .leaf .leaf) .leaf)) (.seq (.seq .leaf (.cond (.seq .leaf .leaf) .leaf)) (.seq (.seq .leaf (.cond (.seq .leaf .leaf) .leaf)) (.seq .leaf .leaf)))))))) func163 ⟨t_x12,trivial⟩
noncomputable def e_x14:FSem:=mkE (ArgT.cons (Ty.leaf (.int .u32)) ArgT.nil) (Ty.leaf .bool) fun a=>F.zfd a.1
theorem t_x14:Entry prog 272 e_x14 false:=eo { P:=prog,n:=6,tab:=[] } (.seq .leaf (.seq .leaf .leaf)) func272 trivial
noncomputable def e_x15:FSem:=mkE (ArgT.cons (Ty.leaf (.int .u32)) (ArgT.cons (Ty.leaf (.int .u32)) ArgT.nil)) (Ty.leaf (.int .i64)) fun a=>F.zfs a.1 a.2.1
theorem t_x15:Entry prog 255 e_x15 false:=eo { P:=prog,n:=20,tab:=[(272,e_x14)] } (.seq .leaf (.seq .leaf (.seq .leaf (.seq (.seq .leaf (.cond (.seq (.seq .leaf (.cond (.seq .leaf .leaf) .leaf)) (.seq .leaf .leaf)) .leaf)) (.seq (.seq .leaf (.cond (.seq .leaf .leaf) .leaf)) (.seq (.seq .leaf (.cond (.seq .leaf .leaf) .leaf)) (.seq (.seq .leaf (.cond (.seq .leaf .leaf) .leaf)) (.seq .leaf .leaf)))))))) func255 ⟨t_x14,trivial⟩
noncomputable def e_x16:FSem:=mkE (ArgT.cons (Ty.leaf .sl) (ArgT.cons (Ty.leaf .sl) ArgT.nil)) (Ty.leaf (.int .i64)) fun a=>F.zeo a.1 a.2.1
theorem t_x16:Entry prog 239 e_x16 false:=eo { P:=prog,n:=41,tab:=[(163,e_x13),(255,e_x15)] } (.seq .leaf (.seq (.seq .leaf (.cond (.seq .leaf .leaf) .leaf)) (.seq (.seq .leaf (.block (.loop [(5,.leaf (.int .i64))] (.seq (.seq .leaf (.cond .leaf .leaf)) (.seq (.block (.seq (.draw [0,1,2,3,4,5,6,7,8]) (.cond (.seq (.draw [0,1,2,3,4,5,6,7,8,9]) .leaf) .leaf))) .leaf))))) (.seq .leaf .leaf)))) func239 ⟨t_x13,t_x15,trivial⟩
noncomputable def e_x17:FSem:=mkE (ArgT.cons (Ty.leaf .sl) (ArgT.cons (Ty.leaf (.int .u32)) ArgT.nil)) (Ty.tup (.cons (Ty.leaf .sl) (.cons (Ty.leaf .sl) .nil)) (fun x=>(x.1,x.2,())) (fun y=>(y.1,y.2.1)) (fun _=>rfl) (fun _=>rfl)) fun a=>F.zfv a.1 a.2.1
theorem t_x17:Entry prog 240 e_x17 false:=eo { P:=prog,n:=43,tab:=[(212,e_x5),(217,e_x11)] } (.seq .leaf (.seq .leaf (.seq .leaf (.seq (.seq .leaf (.block (.loop [(7,.leaf (.int .u64)),(8,.leaf (.int .i64))] (.seq (.seq .leaf (.cond .leaf .leaf)) (.seq (.block (.seq .leaf (.seq .leaf .leaf))) .leaf))))) (.seq .leaf .leaf))))) func240 ⟨t_x5,t_x11,trivial⟩
noncomputable def e_x18:FSem:=mkE (ArgT.cons (Ty.leaf (.int .u32)) ArgT.nil) (Ty.leaf (.int .i64)) fun a=>F.zhp a.1
theorem t_x18:Entry prog 256 e_x18 false:=eo { P:=prog,n:=19,tab:=[] } (.seq .leaf (.join [(0,.leaf (.int .u32)),(2,.leaf (.int .i64))] (.seq .leaf (.cond (.seq .leaf .leaf) .leaf)) (.join [(0,.leaf (.int .u32)),(2,.leaf (.int .i64))] (.seq .leaf (.cond (.seq .leaf .leaf) .leaf)) (.seq .leaf .leaf)))) func256 trivial
noncomputable def e_x19:FSem:=mkE (ArgT.cons (Ty.leaf (.int .u32)) ArgT.nil) (Ty.leaf (.int .i64)) fun a=>F.zdg a.1
theorem t_x19:Entry prog 241 e_x19 false:=eo { P:=prog,n:=6,tab:=[(256,e_x18)] } (.seq .leaf (.seq .leaf .leaf)) func241 ⟨t_x18,trivial⟩
noncomputable def e_x20:FSem:=mkE (ArgT.cons (Ty.leaf .sl) (ArgT.cons (Ty.leaf (.int .i64)) ArgT.nil)) (Ty.leaf .sl) fun a=>F.zdp a.1 a.2.1
theorem t_x20:Entry prog 242 e_x20 false:=eo { P:=prog,n:=41,tab:=[] } (.seq .leaf (.seq .leaf (.seq (.seq .leaf (.block (.loop [(15,.leaf (.int .i64))] (.seq .leaf (.seq (.cond .leaf .leaf) (.seq (.block (.seq .leaf (.seq .leaf (.seq .leaf .leaf)))) .leaf)))))) (.seq .leaf .leaf)))) func242 trivial
noncomputable def e_x21:FSem:=mkM (ArgT.cons (Ty.leaf .sl) (ArgT.cons (Ty.leaf .sl) (ArgT.cons (Ty.leaf (.int .u64)) ArgT.nil))) (Ty.leaf .bool) fun a=>F.zgx a.1 a.2.1 a.2.2.1
theorem t_x21:Entry prog 243 e_x21 true:=eoM { P:=prog,n:=63,tab:=[] } (.seq .leaf (.seq .leaf (.seq (.seq .leaf (.block (.loop [(7,.leaf (.int .u64)),(15,.leaf (.int .i64))] (.seq .leaf (.seq (.cond .leaf .leaf) (.seq (.block (.seq .leaf (.seq .leaf (.seq .leaf (.seq .leaf .leaf))))) .leaf)))))) (.seq .leaf (.seq .leaf (.seq .leaf .leaf)))))) func243 trivial
noncomputable def e_x22:FSem:=mkM (ArgT.cons (Ty.leaf .sl) (ArgT.cons (Ty.leaf .sl) ArgT.nil)) Ty.unit fun a=>F.zho a.1 a.2.1
theorem t_x22:Entry prog 244 e_x22 true:=eoM { P:=prog,n:=41,tab:=[] } (.seq .leaf (.seq (.seq .leaf (.block (.loop [(4,.leaf (.int .u64)),(9,.leaf (.int .i64))] (.seq .leaf (.seq (.cond .leaf .leaf) (.seq (.block (.seq .leaf (.seq .leaf (.seq .leaf .leaf)))) .leaf)))))) .leaf)) func244 trivial
noncomputable def e_x23:FSem:=mkE (ArgT.cons (Ty.leaf .sl) (ArgT.cons (Ty.leaf (.int .i64)) ArgT.nil)) (Ty.leaf .sl) fun a=>F.zfw a.1 a.2.1
theorem t_x23:Entry prog 245 e_x23 false:=eo { P:=prog,n:=47,tab:=[] } (.seq .leaf (.seq .leaf (.seq (.seq .leaf (.block (.loop [(13,.leaf (.int .i64))] (.seq .leaf (.seq (.cond .leaf .leaf) (.join [] (.block (.seq .leaf (.seq .leaf (.seq .leaf (.cond (.draw [0,1,2,3,4,5,6,7,8,9,10,11,12,13,14,15,16]) .leaf))))) .leaf)))))) (.seq .leaf .leaf)))) func245 trivial
noncomputable def e_x24:FSem:=mkE (ArgT.cons (Ty.leaf .sl) (ArgT.cons (Ty.leaf .sl) ArgT.nil)) (Ty.tup (.cons (Ty.leaf .sl) (.cons (Ty.leaf .sl) .nil)) (fun x=>(x.1,x.2,())) (fun y=>(y.1,y.2.1)) (fun _=>rfl) (fun _=>rfl)) fun a=>F.zdz a.1 a.2.1
theorem t_x24:Entry prog 213 e_x24 false:=eo { P:=prog,n:=177,tab:=[(239,e_x16),(215,e_x7),(216,e_x10),(217,e_x11),(240,e_x17),(241,e_x19),(242,e_x20),(212,e_x5),(243,e_x21),(244,e_x22),(245,e_x23)],mutL:=[243,244] } (.seq .leaf (.seq (.block (.seq .leaf (.cond (.seq .leaf .leaf) (.seq .leaf (.cond (.seq .leaf (.seq (.draw [0,1,2,4,5,6,3,7,8,9]) .leaf)) (.seq .leaf (.cond (.seq .leaf .leaf) .leaf))))))) (.seq .leaf (.seq .leaf (.seq .leaf (.seq .leaf (.seq (.draw [0,1,2,3,4,5,6,7,8,9,10,11,12,13]) (.seq (.seq .leaf (.block (.loop [(15,.leaf (.int .i64))] (.seq (.seq .leaf (.cond .leaf .leaf)) (.seq (.block (.seq (.draw [0,1,2,3,4,5,6,7,8,9,10,11,12,13,14,15,16,17]) (.seq (.draw [0,1,2,3,4,5,6,7]) (.join [(17,.leaf (.int .u64))] (.block (.loop [(17,.leaf (.int .u64)),(18,.leaf (.int .u64))] (.join [] (.seq .leaf (.cond .leaf .leaf)) (.block (.seq .leaf (.seq .leaf (.seq .leaf (.cond .leaf .leaf)))))))) (.join [(17,.leaf (.int .u64))] (.seq .leaf (.cond (.seq .leaf .leaf) .leaf)) .leaf))))) .leaf))))) (.seq (.draw [0,2,3,4,6,1,5,7,8,9,10]) .leaf))))))))) func213 ⟨t_x16,t_x7,t_x10,t_x11,t_x17,t_x19,t_x20,t_x5,t_x21,t_x22,t_x23,trivial⟩
noncomputable def e_x25:FSem:=mkE (ArgT.cons tyTInt (ArgT.cons tyTInt ArgT.nil)) tyTInt fun a=>F.zhe a.1 a.2.1
theorem t_x25:Entry prog 175 e_x25 false:=eo { P:=prog,n:=57,tab:=[(212,e_x5),(215,e_x7),(214,e_x8),(216,e_x10),(217,e_x11),(213,e_x24)],rtL:=[(11,2),(14,3)],locL:=[2,3,4] } (.seq .leaf (.seq (.draw [0,1,3,4,2,5,6,7]) (.join [(5,.leaf (.sl)),(6,.leaf (.sl))] (.block (.loop [(5,.leaf (.sl)),(6,.leaf (.sl))] (.join [] (.seq .leaf (.cond .leaf .leaf)) (.block (.seq .leaf .leaf))))) (.seq (.seq .leaf (.cond (.seq .leaf .leaf) .leaf)) (.seq .leaf (.seq (.block (.loop [(9,.leaf (.int .u64)),(10,.leaf (.int .u64))] (.seq (.seq .leaf (.cond .leaf .leaf)) (.block (.draw [0,1,2,3,4,5]))))) (.seq .leaf .leaf))))))) func175 ⟨t_x5,t_x7,t_x8,t_x10,t_x11,t_x24,trivial⟩
noncomputable def e_x26:FSem:=mkE (ArgT.cons tyTInt ArgT.nil) (Ty.leaf .bool) fun a=>F.ze1 a.1
theorem t_x26:Entry prog 174 e_x26 false:=eo { P:=prog,n:=19,tab:=[],rtL:=[(3,1),(7,1),(13,1)],locL:=[1] } (.seq .leaf (.seq .leaf .leaf)) func174 trivial
noncomputable def e_x27:FSem:=mkE (ArgT.cons tyTRat ArgT.nil) (Ty.leaf .bool) fun a=>F.zda a.1
theorem t_x27:Entry prog 116 e_x27 false:=eo { P:=prog,n:=25,tab:=[(172,e_x4),(173,e_x6),(175,e_x25),(174,e_x26)],rtL:=[(3,1),(7,1),(12,1),(18,1),(20,1)],locL:=[1] } (.seq .leaf (.seq .leaf .leaf)) func116 ⟨t_x4,t_x6,t_x25,t_x26,trivial⟩
noncomputable def e_x28:FSem:=mkE (ArgT.cons tyTPoint ArgT.nil) (Ty.leaf .bool) fun a=>F.zky a.1
theorem t_x28:Entry prog 115 e_x28 false:=eo { P:=prog,n:=11,tab:=[(116,e_x27)],rtL:=[(3,1),(7,1)],locL:=[1] } (.seq .leaf (.seq .leaf .leaf)) func115 ⟨t_x27,trivial⟩
noncomputable def e_x29:FSem:=mkE (ArgT.cons tyTPoint (ArgT.cons (Ty.leaf .ptr) ArgT.nil)) (Ty.leaf .bool) fun a=>F.zcq a.1 a.2.1
theorem t_x29:Entry prog 171 e_x29 false:=eo { P:=prog,n:=8,tab:=[(115,e_x28)],locL:=[2],fnL:=[(4,115,0)] } (.seq .leaf (.seq .leaf .leaf)) func171 ⟨t_x28,trivial⟩
noncomputable def e_x30:FSem:=mkE (ArgT.cons (Ty.leaf .sl) (ArgT.fnc 171 1 ArgT.nil)) (Ty.leaf (.int .i64)) fun a=>F.zat a.1 a.2.1
theorem t_x30:Entry prog 211 e_x30 false:=eo { P:=prog,n:=19,tab:=[(171,e_x29)] } (.seq .leaf (.seq (.seq .leaf (.block (.loop [(8,.leaf (.int .i64))] (.seq .leaf (.seq (.cond .leaf .leaf) (.seq (.block (.seq .leaf (.seq .leaf (.cond (.seq .leaf .leaf) .leaf)))) .leaf)))))) (.seq .leaf .leaf))) func211 ⟨t_x29,trivial⟩
noncomputable def e_x31:FSem:=mkE (ArgT.cons (Ty.leaf .sl) (ArgT.fnc 171 1 ArgT.nil)) (Ty.leaf .bool) fun a=>F.zap a.1 a.2.1
theorem t_x31:Entry prog 170 e_x31 false:=eo { P:=prog,n:=9,tab:=[(211,e_x30)] } (.seq .leaf (.seq .leaf .leaf)) func170 ⟨t_x30,trivial⟩
noncomputable def e_x32:FSem:=mkE (ArgT.cons (Ty.leaf .sl) (ArgT.fn 115 ArgT.nil)) (Ty.leaf .bool) fun a=>F.zcc a.1
theorem t_x32:Entry prog 114 e_x32 false:=eo { P:=prog,n:=9,tab:=[(170,e_x31)] } (.seq .leaf (.seq .leaf .leaf)) func114 ⟨t_x31,trivial⟩
noncomputable def e_x33:FSem:=mkE (ArgT.cons (Ty.leaf (.int .i64)) (ArgT.cons (Ty.leaf (.int .i64)) ArgT.nil)) (Ty.leaf .bool) fun a=>F.ze9 a.1 a.2.1
theorem t_x33:Entry prog 119 e_x33 false:=eo { P:=prog,n:=12,tab:=[] } (.seq .leaf (.seq .leaf .leaf)) func119 trivial
noncomputable def e_x34:FSem:=mkE (ArgT.cons tyTRat ArgT.nil) (Ty.leaf (.int .i64)) fun a=>F.zfn a.1
theorem t_x34:Entry prog 120 e_x34 false:=eo { P:=prog,n:=6,tab:=[(173,e_x6)],rtL:=[(3,1)],locL:=[1] } (.seq .leaf (.seq .leaf .leaf)) func120 ⟨t_x6,trivial⟩
noncomputable def e_x35:FSem:=mkE (ArgT.cons tyTRound (ArgT.cons (Ty.leaf .ptr) ArgT.nil)) (Ty.leaf .bool) fun a=>F.zkz a.1 a.2.1
theorem t_x35:Entry prog 118 e_x35 false:=eo { P:=prog,n:=19,tab:=[(119,e_x33),(116,e_x27),(120,e_x34)],rtL:=[(5,2),(9,2),(14,2)],locL:=[2] } (.seq .leaf (.seq .leaf .leaf)) func118 ⟨t_x33,t_x27,t_x34,trivial⟩
noncomputable def e_x36:FSem:=mkE (ArgT.cons tyTRound (ArgT.cons (Ty.leaf .ptr) ArgT.nil)) (Ty.leaf .bool) fun a=>F.zcr a.1 a.2.1
theorem t_x36:Entry prog 177 e_x36 false:=eo { P:=prog,n:=8,tab:=[(118,e_x35)],locL:=[2],fnL:=[(4,118,1)] } (.seq .leaf (.seq .leaf .leaf)) func177 ⟨t_x35,trivial⟩
noncomputable def e_x37:FSem:=mkE (ArgT.cons (Ty.leaf .sl) (ArgT.fnc 177 1 ArgT.nil)) (Ty.leaf (.int .i64)) fun a=>F.zau a.1 a.2.1
theorem t_x37:Entry prog 218 e_x37 false:=eo { P:=prog,n:=19,tab:=[(177,e_x36)] } (.seq .leaf (.seq (.seq .leaf (.block (.loop [(8,.leaf (.int .i64))] (.seq .leaf (.seq (.cond .leaf .leaf) (.seq (.block (.seq .leaf (.seq .leaf (.cond (.seq .leaf .leaf) .leaf)))) .leaf)))))) (.seq .leaf .leaf))) func218 ⟨t_x36,trivial⟩
noncomputable def e_x38:FSem:=mkE (ArgT.cons (Ty.leaf .sl) (ArgT.fnc 177 1 ArgT.nil)) (Ty.leaf .bool) fun a=>F.zaq a.1 a.2.1
theorem t_x38:Entry prog 176 e_x38 false:=eo { P:=prog,n:=9,tab:=[(218,e_x37)] } (.seq .leaf (.seq .leaf .leaf)) func176 ⟨t_x37,trivial⟩
noncomputable def e_x39:FSem:=mkE (ArgT.cons (Ty.leaf .sl) (ArgT.fnc 118 1 ArgT.nil)) (Ty.leaf .bool) fun a=>F.zcd a.1 a.2.1
theorem t_x39:Entry prog 117 e_x39 false:=eo { P:=prog,n:=9,tab:=[(176,e_x38)] } (.seq .leaf (.seq .leaf .leaf)) func117 ⟨t_x38,trivial⟩
end
end Den
end

section
set_option maxRecDepth 100000
namespace Den
open Go Go.Proofs.Tryz
noncomputable section
noncomputable def e_x40:FSem:=mkE (ArgT.cons tyTSegment (ArgT.cons (Ty.leaf .ptr) ArgT.nil)) (Ty.leaf .bool) fun a=>F.zl0 a.1 a.2.1
theorem t_x40:Entry prog 122 e_x40 false:=eo { P:=prog,n:=21,tab:=[(119,e_x33)],rtL:=[(5,2),(10,2),(15,2),(17,2)],locL:=[2] } (.seq .leaf (.seq .leaf .leaf)) func122 ⟨t_x33,trivial⟩
noncomputable def e_x41:FSem:=mkE (ArgT.cons tyTSegment (ArgT.cons (Ty.leaf .ptr) ArgT.nil)) (Ty.leaf .bool) fun a=>F.zcj a.1 a.2.1
theorem t_x41:Entry prog 179 e_x41 false:=eo { P:=prog,n:=8,tab:=[(122,e_x40)],locL:=[2],fnL:=[(4,122,1)] } (.seq .leaf (.seq .leaf .leaf)) func179 ⟨t_x40,trivial⟩
noncomputable def e_x42:FSem:=mkE (ArgT.cons (Ty.leaf .sl) (ArgT.fnc 179 1 ArgT.nil)) (Ty.leaf (.int .i64)) fun a=>F.zam a.1 a.2.1
theorem t_x42:Entry prog 219 e_x42 false:=eo { P:=prog,n:=19,tab:=[(179,e_x41)] } (.seq .leaf (.seq (.seq .leaf (.block (.loop [(8,.leaf (.int .i64))] (.seq .leaf (.seq (.cond .leaf .leaf) (.seq (.block (.seq .leaf (.seq .leaf (.cond (.seq .leaf .leaf) .leaf)))) .leaf)))))) (.seq .leaf .leaf))) func219 ⟨t_x41,trivial⟩
noncomputable def e_x43:FSem:=mkE (ArgT.cons (Ty.leaf .sl) (ArgT.fnc 179 1 ArgT.nil)) (Ty.leaf .bool) fun a=>F.zak a.1 a.2.1
theorem t_x43:Entry prog 178 e_x43 false:=eo { P:=prog,n:=9,tab:=[(219,e_x42)] } (.seq .leaf (.seq .leaf .leaf)) func178 ⟨t_x42,trivial⟩
noncomputable def e_x44:FSem:=mkE (ArgT.cons (Ty.leaf .sl) (ArgT.fnc 122 1 ArgT.nil)) (Ty.leaf .bool) fun a=>F.zc2 a.1 a.2.1
theorem t_x44:Entry prog 121 e_x44 false:=eo { P:=prog,n:=9,tab:=[(178,e_x43)] } (.seq .leaf (.seq .leaf .leaf)) func121 ⟨t_x43,trivial⟩
noncomputable def e_x45:FSem:=mkE (ArgT.cons tyTSketch (ArgT.cons tyTArc ArgT.nil)) (Ty.leaf .bool) fun a=>F.zht a.1 a.2.1
theorem t_x45:Entry prog 125 e_x45 false:=eo { P:=prog,n:=48,tab:=[(119,e_x33)],rtL:=[(6,2),(9,3),(14,2),(17,3),(23,2),(26,3),(31,2),(33,3),(38,3),(43,3)],locL:=[2,3] } (.seq .leaf (.join [] (.seq .leaf (.cond (.seq .leaf .leaf) .leaf)) (.seq .leaf (.seq .leaf .leaf)))) func125 ⟨t_x33,trivial⟩
noncomputable def e_x46:FSem:=mkE (ArgT.cons tyTArc (ArgT.cons (Ty.leaf .ptr) ArgT.nil)) (Ty.leaf .bool) fun a=>F.zl1 a.1 a.2.1
theorem t_x46:Entry prog 124 e_x46 false:=eo { P:=prog,n:=7,tab:=[(125,e_x45)],locL:=[2] } (.seq .leaf (.seq .leaf .leaf)) func124 ⟨t_x45,trivial⟩
noncomputable def e_x47:FSem:=mkE (ArgT.cons tyTArc (ArgT.cons (Ty.leaf .ptr) ArgT.nil)) (Ty.leaf .bool) fun a=>F.zcw a.1 a.2.1
theorem t_x47:Entry prog 181 e_x47 false:=eo { P:=prog,n:=8,tab:=[(124,e_x46)],locL:=[2],fnL:=[(4,124,1)] } (.seq .leaf (.seq .leaf .leaf)) func181 ⟨t_x46,trivial⟩
noncomputable def e_x48:FSem:=mkE (ArgT.cons (Ty.leaf .sl) (ArgT.fnc 181 1 ArgT.nil)) (Ty.leaf (.int .i64)) fun a=>F.zb0 a.1 a.2.1
theorem t_x48:Entry prog 220 e_x48 false:=eo { P:=prog,n:=19,tab:=[(181,e_x47)] } (.seq .leaf (.seq (.seq .leaf (.block (.loop [(8,.leaf (.int .i64))] (.seq .leaf (.seq (.cond .leaf .leaf) (.seq (.block (.seq .leaf (.seq .leaf (.cond (.seq .leaf .leaf) .leaf)))) .leaf)))))) (.seq .leaf .leaf))) func220 ⟨t_x47,trivial⟩
noncomputable def e_x49:FSem:=mkE (ArgT.cons (Ty.leaf .sl) (ArgT.fnc 181 1 ArgT.nil)) (Ty.leaf .bool) fun a=>F.zaw a.1 a.2.1
theorem t_x49:Entry prog 180 e_x49 false:=eo { P:=prog,n:=9,tab:=[(220,e_x48)] } (.seq .leaf (.seq .leaf .leaf)) func180 ⟨t_x48,trivial⟩
noncomputable def e_x50:FSem:=mkE (ArgT.cons (Ty.leaf .sl) (ArgT.fnc 124 1 ArgT.nil)) (Ty.leaf .bool) fun a=>F.zcg a.1 a.2.1
theorem t_x50:Entry prog 123 e_x50 false:=eo { P:=prog,n:=9,tab:=[(180,e_x49)] } (.seq .leaf (.seq .leaf .leaf)) func123 ⟨t_x49,trivial⟩
noncomputable def e_x51:FSem:=mkE (ArgT.cons tyTSketch (ArgT.cons tyTPiece ArgT.nil)) (Ty.tup (.cons (Ty.leaf (.int .i64)) (.cons (Ty.leaf (.int .i64)) .nil)) (fun x=>(x.1,x.2,())) (fun y=>(y.1,y.2.1)) (fun _=>rfl) (fun _=>rfl)) fun a=>F.zj4 a.1 a.2.1
theorem t_x51:Entry prog 183 e_x51 false:=eo { P:=prog,n:=44,tab:=[],rtL:=[(8,3),(10,2),(12,3),(17,2),(19,3),(24,2),(26,3),(31,2),(33,3),(38,3)],locL:=[2,3] } (.seq .leaf (.seq .leaf (.join [(6,.leaf (.int .i64)),(7,.leaf (.int .i64))] (.seq .leaf (.cond (.draw [0,1,2,3,4,5,6,7,8,9,10,11,12,13,14,15]) (.draw [0,1,2,3,4,5,6,7,8,9,10,11,12,13,14,15]))) (.seq (.seq .leaf (.cond (.seq .leaf .leaf) .leaf)) (.seq .leaf .leaf))))) func183 trivial
noncomputable def e_x52:FSem:=mkE (ArgT.cons tyTSketch (ArgT.cons (Ty.leaf .sl) ArgT.nil)) (Ty.leaf .bool) fun a=>F.zgb a.1 a.2.1
theorem t_x52:Entry prog 128 e_x52 false:=eo { P:=prog,n:=49,tab:=[(119,e_x33),(183,e_x51)],rtL:=[(18,2),(21,7),(23,2),(27,7)],locL:=[2,7] } (.seq .leaf (.seq .leaf (.seq (.seq .leaf (.block (.loop [(5,.leaf (.int .i64)),(13,.leaf (.int .i64))] (.seq .leaf (.seq (.cond .leaf .leaf) (.join [(5,.leaf (.int .i64))] (.block (.seq .leaf (.seq .leaf (.join [(8,.leaf (.int .i64))] (.seq .leaf (.cond .leaf .leaf)) (.seq (.seq .leaf (.cond (.seq .leaf .leaf) .leaf)) (.seq .leaf (.seq (.seq .leaf (.cond (.seq .leaf .leaf) .leaf)) .leaf))))))) .leaf)))))) (.seq .leaf .leaf)))) func128 ⟨t_x33,t_x51,trivial⟩
noncomputable def e_x53:FSem:=mkE (ArgT.cons (Ty.leaf .sl) (ArgT.cons (Ty.leaf .ptr) ArgT.nil)) (Ty.leaf .bool) fun a=>F.zl2 a.1 a.2.1
theorem t_x53:Entry prog 127 e_x53 false:=eo { P:=prog,n:=7,tab:=[(128,e_x52)] } (.seq .leaf (.seq .leaf .leaf)) func127 ⟨t_x52,trivial⟩
noncomputable def e_x54:FSem:=mkE (ArgT.cons (Ty.leaf .sl) (ArgT.cons (Ty.leaf .ptr) ArgT.nil)) (Ty.leaf .bool) fun a=>F.zcp a.1 a.2.1
theorem t_x54:Entry prog 182 e_x54 false:=eo { P:=prog,n:=8,tab:=[(127,e_x53)],fnL:=[(4,127,1)] } (.seq .leaf (.seq .leaf .leaf)) func182 ⟨t_x53,trivial⟩
noncomputable def e_x55:FSem:=mkE (ArgT.cons (Ty.leaf .sl) (ArgT.fnc 182 1 ArgT.nil)) (Ty.leaf (.int .i64)) fun a=>F.zas a.1 a.2.1
theorem t_x55:Entry prog 210 e_x55 false:=eo { P:=prog,n:=19,tab:=[(182,e_x54)] } (.seq .leaf (.seq (.seq .leaf (.block (.loop [(8,.leaf (.int .i64))] (.seq .leaf (.seq (.cond .leaf .leaf) (.seq (.block (.seq .leaf (.seq .leaf (.cond (.seq .leaf .leaf) .leaf)))) .leaf)))))) (.seq .leaf .leaf))) func210 ⟨t_x54,trivial⟩
noncomputable def e_x56:FSem:=mkE (ArgT.cons (Ty.leaf .sl) (ArgT.fnc 182 1 ArgT.nil)) (Ty.leaf .bool) fun a=>F.zao a.1 a.2.1
theorem t_x56:Entry prog 168 e_x56 false:=eo { P:=prog,n:=9,tab:=[(210,e_x55)] } (.seq .leaf (.seq .leaf .leaf)) func168 ⟨t_x55,trivial⟩
noncomputable def e_x57:FSem:=mkE (ArgT.cons (Ty.leaf .sl) (ArgT.fnc 127 1 ArgT.nil)) (Ty.leaf .bool) fun a=>F.zcb a.1 a.2.1
theorem t_x57:Entry prog 126 e_x57 false:=eo { P:=prog,n:=9,tab:=[(168,e_x56)] } (.seq .leaf (.seq .leaf .leaf)) func126 ⟨t_x56,trivial⟩
noncomputable def e_x58:FSem:=mkE (ArgT.cons (Ty.leaf (.int .i64)) ArgT.nil) (Ty.tup (.cons zq3 (.cons (Ty.leaf .bool) .nil)) (fun x=>(x.1,x.2,())) (fun y=>(y.1,y.2.1)) (fun _=>rfl) (fun _=>rfl)) fun a=>F.zee a.1
theorem t_x58:Entry prog 109 e_x58 false:=eo { P:=prog,n:=15,tab:=[],locL:=[2] } (.seq .leaf (.join [(2,.box [.int .i64,.int .i64,.int .i64,.int .i64,.bool,.bool,.bool])] (.seq .leaf (.cond (.seq .leaf .leaf) .leaf)) (.seq .leaf .leaf))) func109 trivial
noncomputable def e_x59:FSem:=mkE (ArgT.cons (Ty.leaf (.int .i64)) ArgT.nil) tyTInt fun a=>F.zen a.1
theorem t_x59:Entry prog 259 e_x59 false:=eo { P:=prog,n:=15,tab:=[(217,e_x11),(214,e_x8)],locL:=[2] } (.seq .leaf (.seq .leaf (.join [(3,.leaf (.int .u64))] (.seq .leaf (.cond .leaf .leaf)) (.seq .leaf .leaf)))) func259 ⟨t_x11,t_x8,trivial⟩
noncomputable def e_x60:FSem:=mkE ArgT.nil tyTInt fun a=>F.zi6
theorem t_x60:Entry prog 273 e_x60 false:=eo { P:=prog,n:=2,tab:=[(259,e_x59)],locL:=[0] } (.seq .leaf (.seq .leaf .leaf)) func273 ⟨t_x59,trivial⟩
noncomputable def e_x61:FSem:=mkE (ArgT.cons (Ty.leaf (.int .i64)) ArgT.nil) tyTRat fun a=>F.zh0 a.1
theorem t_x61:Entry prog 258 e_x61 false:=eo { P:=prog,n:=7,tab:=[(259,e_x59),(273,e_x60)],locL:=[2] } (.seq .leaf (.seq .leaf .leaf)) func258 ⟨t_x59,t_x60,trivial⟩
noncomputable def e_x62:FSem:=mkE (ArgT.cons tyTInt (ArgT.cons tyTInt ArgT.nil)) (Ty.leaf (.int .i64)) fun a=>F.zl8 a.1 a.2.1
theorem t_x62:Entry prog 260 e_x62 false:=eo { P:=prog,n:=26,tab:=[(173,e_x6),(163,e_x13),(212,e_x5),(239,e_x16)],rtL:=[(18,2),(21,3)],locL:=[2,3] } (.seq .leaf (.seq (.draw [0,2,1,3,4,5]) (.seq (.seq .leaf (.cond (.seq .leaf .leaf) .leaf)) (.seq (.draw [0,1,2,4,5,3,6,7,8,9]) .leaf)))) func260 ⟨t_x6,t_x13,t_x5,t_x16,trivial⟩
noncomputable def e_x63:FSem:=mkE (ArgT.cons (Ty.leaf .sl) (ArgT.cons (Ty.leaf .sl) ArgT.nil)) (Ty.leaf .sl) fun a=>F.zh8 a.1 a.2.1
theorem t_x63:Entry prog 289 e_x63 false:=eo { P:=prog,n:=75,tab:=[(212,e_x5)] } (.seq .leaf (.join [] (.seq .leaf (.cond (.seq .leaf .leaf) .leaf)) (.seq .leaf (.seq (.seq .leaf (.block (.loop [(27,.leaf (.int .i64))] (.seq .leaf (.seq (.cond .leaf .leaf) (.seq (.block (.seq .leaf (.seq .leaf (.seq (.seq .leaf (.block (.loop [(8,.leaf (.int .u64)),(34,.leaf (.int .i64))] (.seq .leaf (.seq (.cond .leaf .leaf) (.seq (.block (.seq .leaf (.seq .leaf (.seq .leaf .leaf)))) .leaf)))))) .leaf)))) .leaf)))))) (.seq .leaf .leaf))))) func289 ⟨t_x5,trivial⟩
noncomputable def e_x64:FSem:=mkE (ArgT.cons tyTInt (ArgT.cons tyTInt ArgT.nil)) tyTInt fun a=>F.zhf a.1 a.2.1
theorem t_x64:Entry prog 274 e_x64 false:=eo { P:=prog,n:=18,tab:=[(212,e_x5),(289,e_x63),(214,e_x8)],rtL:=[(5,2),(7,3),(10,2),(13,3)],locL:=[2,3,4] } (.seq .leaf (.seq (.draw [0,1,2,3,4,5,6,8,9,7,10,11,12,13]) .leaf)) func274 ⟨t_x5,t_x63,t_x8,trivial⟩
noncomputable def e_x65:FSem:=mkE (ArgT.cons (Ty.leaf .sl) (ArgT.cons (Ty.leaf .sl) ArgT.nil)) (Ty.leaf .sl) fun a=>F.zi3 a.1 a.2.1
theorem t_x65:Entry prog 308 e_x65 false:=eo { P:=prog,n:=58,tab:=[],locL:=[45,55] } (.seq .leaf (.join [(0,.leaf (.sl)),(1,.leaf (.sl))] (.seq .leaf (.cond .leaf .leaf)) (.seq .leaf (.seq .leaf (.seq (.seq .leaf (.block (.loop [(5,.leaf (.sl)),(6,.leaf (.int .u64)),(22,.leaf (.int .i64))] (.seq .leaf (.seq (.cond .leaf .leaf) (.seq (.block (.seq .leaf (.seq .leaf (.join [(6,.leaf (.int .u64))] (.seq .leaf (.cond .leaf .leaf)) (.seq .leaf .leaf))))) .leaf)))))) (.seq (.seq .leaf (.cond .leaf .leaf)) (.seq .leaf .leaf))))))) func308 trivial
noncomputable def e_x66:FSem:=mkE (ArgT.cons (Ty.leaf .sl) (ArgT.cons (Ty.leaf .sl) ArgT.nil)) (Ty.leaf .sl) fun a=>F.zh7 a.1 a.2.1
theorem t_x66:Entry prog 309 e_x66 false:=eo { P:=prog,n:=45,tab:=[(212,e_x5)] } (.seq .leaf (.seq .leaf (.seq .leaf (.seq (.seq .leaf (.block (.loop [(6,.leaf (.int .u64)),(15,.leaf (.int .i64))] (.seq .leaf (.seq (.cond .leaf .leaf) (.seq (.block (.seq .leaf (.seq .leaf (.join [(9,.leaf (.int .u64))] (.seq .leaf (.cond .leaf .leaf)) (.seq .leaf .leaf))))) .leaf)))))) (.seq .leaf .leaf))))) func309 ⟨t_x5,trivial⟩
noncomputable def e_x67:FSem:=mkE (ArgT.cons tyTInt (ArgT.cons tyTInt ArgT.nil)) (Ty.tup (.cons tyTInt (.cons tyTInt (.cons (Ty.leaf (.int .i64)) .nil))) (fun x=>(x.1,x.2.1,x.2.2,())) (fun y=>(y.1,y.2.1,y.2.2.1)) (fun _=>rfl) (fun _=>rfl)) fun a=>F.zin a.1 a.2.1
theorem t_x67:Entry prog 299 e_x67 false:=eo { P:=prog,n:=53,tab:=[(212,e_x5),(213,e_x24),(214,e_x8),(308,e_x65),(309,e_x66)],rtL:=[(10,3),(19,2),(26,2),(28,3),(42,2),(44,3),(49,3)],locL:=[2,3,4,5] } (.seq .leaf (.seq .leaf (.seq (.seq .leaf (.cond (.seq .leaf .leaf) .leaf)) (.seq .leaf (.join [(8,.leaf (.sl)),(9,.leaf (.sl))] (.seq .leaf (.cond (.seq .leaf .leaf) .leaf)) (.seq (.draw [0,1,2,3,4,5,7,8,9,6,10,11,12,13]) .leaf)))))) func299 ⟨t_x5,t_x24,t_x8,t_x65,t_x66,trivial⟩
noncomputable def e_x68:FSem:=mkE (ArgT.cons tyTInt (ArgT.cons tyTInt ArgT.nil)) tyTInt fun a=>F.zi7 a.1 a.2.1
theorem t_x68:Entry prog 291 e_x68 false:=eo { P:=prog,n:=19,tab:=[(174,e_x26),(299,e_x67)],locL:=[2,3,4,5,6] } (.seq .leaf (.seq (.seq .leaf (.cond (.seq .leaf .leaf) .leaf)) (.seq .leaf (.seq .leaf .leaf)))) func291 ⟨t_x26,t_x67,trivial⟩
noncomputable def e_x69:FSem:=mkE (ArgT.cons tyTInt ArgT.nil) tyTInt fun a=>F.zl9 a.1
theorem t_x69:Entry prog 290 e_x69 false:=eo { P:=prog,n:=11,tab:=[(212,e_x5),(215,e_x7),(214,e_x8)],rtL:=[(3,1),(6,1)],locL:=[1,2] } (.seq .leaf (.seq (.draw [0,1,2,3,4,5,6,7,8]) .leaf)) func290 ⟨t_x5,t_x7,t_x8,trivial⟩
noncomputable def e_x70:FSem:=mkE (ArgT.cons tyTInt (ArgT.cons tyTInt ArgT.nil)) tyTRat fun a=>F.zhs a.1 a.2.1
theorem t_x70:Entry prog 275 e_x70 false:=eo { P:=prog,n:=20,tab:=[(175,e_x25),(291,e_x68),(290,e_x69)],rtL:=[(9,3)],locL:=[2,3,4,5] } (.seq .leaf (.seq .leaf (.join [(5,.box [.bool,.sl])] (.seq .leaf (.cond .leaf .leaf)) (.seq (.draw [0,1,3,4,2,5,6,7]) .leaf)))) func275 ⟨t_x25,t_x68,t_x69,trivial⟩
noncomputable def e_x71:FSem:=mkE (ArgT.cons tyTRat (ArgT.cons tyTRat ArgT.nil)) tyTRat fun a=>F.zk7 a.1 a.2.1
theorem t_x71:Entry prog 261 e_x71 false:=eo { P:=prog,n:=31,tab:=[(274,e_x64),(275,e_x70),(174,e_x26),(273,e_x60)],rtL:=[(5,2),(9,3),(13,2),(15,3),(20,2),(22,3),(25,2),(27,3)],locL:=[2,3,4] } (.seq .leaf (.join [(4,.box [.bool,.sl,.bool,.sl])] (.seq .leaf (.cond (.seq .leaf .leaf) .leaf)) (.seq (.draw [0,1,2,3,5,6,7,8,4,9,10,11]) .leaf))) func261 ⟨t_x64,t_x70,t_x26,t_x60,trivial⟩
noncomputable def e_x72:FSem:=mkE (ArgT.cons (Ty.leaf (.int .i64)) ArgT.nil) (Ty.leaf .str) fun a=>F.zg5 a.1
theorem t_x72:Entry prog 301 e_x72 false:=eo { P:=prog,n:=15,tab:=[] } (.seq .leaf (.seq (.seq .leaf (.cond (.seq .leaf .leaf) .leaf)) (.seq .leaf .leaf))) func301 trivial
noncomputable def e_x73:FSem:=mkE (ArgT.cons (Ty.leaf (.int .u64)) ArgT.nil) (Ty.leaf (.int .i64)) fun a=>F.zhq a.1
theorem t_x73:Entry prog 311 e_x73 false:=eo { P:=prog,n:=25,tab:=[] } (.seq .leaf (.join [(0,.leaf (.int .u64)),(2,.leaf (.int .i64))] (.seq .leaf (.cond (.seq .leaf .leaf) .leaf)) (.join [(0,.leaf (.int .u64)),(2,.leaf (.int .i64))] (.seq .leaf (.cond (.seq .leaf .leaf) .leaf)) (.join [(0,.leaf (.int .u64)),(2,.leaf (.int .i64))] (.seq .leaf (.cond (.seq .leaf .leaf) .leaf)) (.seq .leaf .leaf))))) func311 trivial
noncomputable def e_x74:FSem:=mkE (ArgT.cons (Ty.leaf (.int .i64)) ArgT.nil) (Ty.leaf (.int .i64)) fun a=>F.zev a.1
theorem t_x74:Entry prog 310 e_x74 false:=eo { P:=prog,n:=6,tab:=[] } (.seq .leaf (.seq .leaf .leaf)) func310 trivial
noncomputable def e_x75:FSem:=mkE (ArgT.cons (Ty.leaf .bool) ArgT.nil) (Ty.leaf (.int .i64)) fun a=>F.zeu a.1
theorem t_x75:Entry prog 312 e_x75 false:=eo { P:=prog,n:=4,tab:=[] } (.seq .leaf (.seq (.seq .leaf (.cond (.seq .leaf .leaf) .leaf)) (.seq .leaf .leaf))) func312 trivial
noncomputable def e_x76:FSem:=mkE (ArgT.cons (Ty.leaf (.int .u64)) ArgT.nil) (Ty.leaf (.int .i64)) fun a=>F.zd2 a.1
theorem t_x76:Entry prog 302 e_x76 false:=eo { P:=prog,n:=15,tab:=[(311,e_x73),(310,e_x74),(312,e_x75)] } (.seq .leaf (.seq .leaf (.seq .leaf .leaf))) func302 ⟨t_x73,t_x74,t_x75,trivial⟩
noncomputable def e_x77:FSem:=mkM (ArgT.cons (Ty.leaf .sl) (ArgT.cons (Ty.leaf (.int .u64)) ArgT.nil)) Ty.unit fun a=>F.zct a.1 a.2.1
theorem t_x77:Entry prog 303 e_x77 true:=eoM { P:=prog,n:=167,tab:=[] } (.seq .leaf (.seq (.block (.loop [(1,.leaf (.int .u64)),(4,.leaf (.int .i64))] (.seq (.seq .leaf (.cond .leaf .leaf)) (.block (.seq .leaf (.seq .leaf (.seq .leaf (.seq .leaf (.seq .leaf (.seq (.draw [0,1,2,3,4,5,6,7,8,9,10,11,12,13,14]) (.seq (.draw [0,1,2,3,4,5,6,7,8,9,10,11,12,13,14]) (.seq (.draw [0,1,2,3,4,5,6,7,8,9,10,11,12,13,14]) (.seq (.draw [0,1,2,3,4,5,6,7,8,9,10,11,12,13,14]) .leaf))))))))))))) (.seq .leaf (.join [(4,.leaf (.int .i64)),(12,.leaf (.int .u32))] (.seq .leaf (.cond (.seq .leaf (.seq .leaf (.seq .leaf (.seq (.draw [0,1,2,3,4,5,6,7,8,9,10,11,12,13,14]) (.seq (.draw [0,1,2,3,4,5,6,7,8,9,10,11,12,13,14]) .leaf))))) .leaf)) (.join [(4,.leaf (.int .i64)),(12,.leaf (.int .u32))] (.seq .leaf (.cond (.seq .leaf (.seq .leaf (.seq (.draw [0,1,2,3,4,5,6,7,8,9,10,11,12,13,14]) .leaf))) .leaf)) (.seq .leaf (.cond .leaf .leaf))))))) func303 trivial
noncomputable def e_x78:FSem:=mkE (ArgT.cons (Ty.leaf (.int .u64)) (ArgT.cons (Ty.leaf (.int .i64)) ArgT.nil)) (Ty.leaf .str) fun a=>F.zei a.1 a.2.1
theorem t_x78:Entry prog 293 e_x78 false:=eo { P:=prog,n:=32,tab:=[(301,e_x72),(302,e_x76),(303,e_x77)],mutL:=[303] } (.seq .leaf (.seq (.seq .leaf (.cond (.seq (.seq .leaf (.cond (.seq .leaf .leaf) .leaf)) (.seq .leaf (.seq .leaf (.seq .leaf (.seq .leaf .leaf))))) .leaf)) (.seq .leaf (.seq .leaf .leaf)))) func293 ⟨t_x72,t_x76,t_x77,trivial⟩
noncomputable def e_x79:FSem:=mkE (ArgT.cons (Ty.leaf (.int .u64)) (ArgT.cons (Ty.leaf (.int .i64)) ArgT.nil)) (Ty.leaf .str) fun a=>F.zem a.1 a.2.1
theorem t_x79:Entry prog 277 e_x79 false:=eo { P:=prog,n:=8,tab:=[(293,e_x78)] } (.seq .leaf (.seq .leaf .leaf)) func277 ⟨t_x78,trivial⟩
end
end Den
end
