/-
  Part 6 of the tools and contracts from which the statement is proved.
-/
import Derived.Test.YthifcokendanpaaGreatDoorPartb5
import Derived.Test.YthifcokendanpaaGreatDoorProg
import Derived.RangeFuncBox
import Derived.RangeFuncLeaves
import Derived.Shelf.Abstract
import Derived.WalkKit
import Derived.OwnWalkIn
import Derived.TacticsInMore
import Derived.LoopNIn
import Derived.LoopIn
import Derived.Laws.Externs
set_option linter.all false
section
namespace Den
open Go Iv Lx
def cirOk (c:PCon) (cs:List Int):Prop:=∀k∈c.cir,0≤k∧k<cs.length
theorem VC.cirOk {c:PCon} {n:Int} {S:PSk} (hv:VC c n S.cir.length):cirOk c (cens S):=fun k hk=>by
 have:=hv.2.2.1.2 k hk
 rw [zhs]; exact this
def withC (c:PCon):Prop:=c.kind=13∨c.kind=16∨c.kind=17
instance (c:PCon):Decidable (withC c):=by unfold withC; infer_instance
theorem zuz {c:PCon} {cs:List Int} {k:Int} (h:withC c):itK c cs k=[-1-k,cs.getD k.toNat 0]:=by unfold itK; exact if_pos h
theorem zuy {c:PCon} {cs:List Int} {k:Int} (h:¬withC c):itK c cs k=[-1-k]:=by unfold itK; exact if_neg h
theorem zkl {c:PCon} {cs:List Int}:∀l:List Int,(l.flatMap (itK c cs)).length≤2*l.length:=by
 intro l
 induction l with
 | nil=>simp
 | cons a r ih=>
   have:=za2m c cs a
   simp only [List.flatMap_cons,List.length_append,List.length_cons]
   omega
theorem zg5 {c:PCon} {cs:List Int} {l:List Int} {i:Nat} (hi:i<l.length):(l.take (i+1)).flatMap (itK c cs)=(l.take i).flatMap (itK c cs)++itK c cs l[i]:=by
 rw [←List.take_append_getElem hi,List.flatMap_append]
 simp
section
variable {h : Hp} {x : TConstraint} {c : PCon} {cs : List Int} {ce : Sl} {Kb : Bool → Hp → Prop} {Ki : Int → Hp → Prop} {Ks : Sl → Hp → Prop}
theorem zss {k:Int} {n:Nat} (h0:0≤k) (h1:k<n) (h2:n≤1000000):IntKind.i64.wrap (-1-k)=-1-k:=w64 (by omega)
theorem za1m (hx:CO h x c) (hc:IL h ce cs) (hs:sC c) (hok:cirOk c cs) (hcl:cs.length≤1000) (H:∀y h',h.le h'→OI h h' y (itemsC c cs)→Ks y h'):callP (F.zs8 x ce) Ks h:=by
 refine za1 (fun y h'=>OI h h' y (itemsC c cs)) (fun K' hk=>?_) fun b h' hl hb=>H b h' hl hb
 unfold F.zs8
 obtain ⟨x1,x2,x3,x4,x5⟩:=hx
 obtain ⟨s1,s2,s3,s4⟩:=hs
 rw [x1]
 have cl:=x3.len
 refine za93 fun p1 h1 ho1=>?_
 refine ho1.appAll (x2.le ho1.dle) (by simp; omega) fun w3 h2 ho2=>?_
 rw [List.nil_append] at ho2
 refine zbx (n:=c.cir.length) (by omega) (fun i y h'=>OI h h' y (c.pts++(c.cir.take i).flatMap (itK c cs))) (by simpa using ho2) ?_
 intro i y h3 hi ho k hk2
 have hfl:=zkl (c:=c) (cs:=cs) (c.cir.take i)
 rw [List.length_take] at hfl
 refine za0 (fun h4=>?_) (fun h4=>?_)
 · have hi':i<c.cir.length:=by simp only at h4; omega
   have hkk:=hok _ (List.getElem_mem hi')
   refine za3 (fun s h'=>OI h h' s.1 (c.pts++(c.cir.take (i+1)).flatMap (itK c cs))) (fun s h' hs=>hk2 _ _ hi' hs) ?_
   refine (x3.le ho.dle).get i rfl hi' ?_
   rw [zss hkk.1 hkk.2 (by omega)]
   refine ho.app (by rw [List.length_append]; omega) fun w h5 ho5=>?_
   have two:withC c→idxP x.circles (i:Int) 1 fun a11=>ldL (.int .i64) a11 (fun x12=>idxP ce x12 1 fun a13=>ldL (.int .i64) a13 (fun x14=>appP 1 8 [.int .i64 0] w 1 [.int .i64 x14] (fun w15 h6=>OI h h6 w15 (c.pts++(c.cir.take (i+1)).flatMap (itK c cs))) h5) h5) h5:=by
    intro hw
    refine (x3.le ho5.dle).get i rfl hi' ?_
    refine (hc.le ho5.dle).get c.cir[i].toNat (by omega) (by omega) ?_
    refine ho5.app (by rw [List.length_append,List.length_append,List.length_singleton]; omega) fun w2 h6 ho6=>?_
    rw [zg5 hi',zuz hw,zb9 (by omega)]
    simpa [List.append_assoc] using ho6
   refine za7 (fun h6=>two (.inl h6)) (fun h6=>za7 (fun h7=>two (.inr (.inl h7))) (fun h7=>za7 (fun h8=>two (.inr (.inr h8))) (fun h8=>?_)))
   show OI _ _ _ _
   rw [zg5 hi',zuy (by unfold withC; omega),←List.append_assoc]
   exact ho5
 · have:i=c.cir.length:=by simp only at h4; omega
   subst this
   rw [List.take_length] at ho
   exact hk _ _ ho.dle ho
theorem zq6 (hx:CO h x c) (hc:IL h ce cs) (hs:sC c) (hok:cirOk c cs) (hcl:cs.length≤1000) (H:∀y h',h.le h'→OI h h' y (itemsC c cs)→Ks y h'):callP (F.zli x ce) Ks h:=za1m hx hc hs hok hcl H
theorem za0w (hx:CO h x c) (hc:IL h ce cs) (hs:sC c) (hok:cirOk c cs) (hcl:cs.length≤1000) (H:∀y h',h.le h'→OI h h' y (itemsC c cs)→Ks y h'):callP (F.zmc x ce) Ks h:=by
 refine za1 (fun y h'=>OI h h' y (itemsC c cs)) (fun K' hk=>?_) fun b h' hl hb=>H b h' hl hb
 unfold F.zmc
 obtain ⟨x1,x2,x3,x4,x5⟩:=hx
 obtain ⟨s1,s2,s3,s4⟩:=hs
 rw [x1]
 have cl:=x3.len
 refine zs1 x2 (by omega) fun w3 h2 ho2=>?_
 refine zbx (n:=c.cir.length) (by omega) (fun i y h'=>OI h h' y (c.pts++(c.cir.take i).flatMap (itK c cs))) (by simpa using ho2) ?_
 intro i y h3 hi ho k hk2
 have hfl:=zkl (c:=c) (cs:=cs) (c.cir.take i)
 rw [List.length_take] at hfl
 refine za0 (fun h4=>?_) (fun h4=>?_)
 · have hi':i<c.cir.length:=by simp only at h4; omega
   have hkk:=hok _ (List.getElem_mem hi')
   refine za3 (fun s h'=>OI h h' s.1 (c.pts++(c.cir.take (i+1)).flatMap (itK c cs))) (fun s h' hs=>hk2 _ _ hi' hs) ?_
   refine (x3.le ho.dle).get i rfl hi' ?_
   rw [zss hkk.1 hkk.2 (by omega)]
   refine ho.app (by rw [List.length_append]; omega) fun w h5 ho5=>?_
   refine za3 (fun s h'=>h'=h5∧s.1=decide (withC c)) ?_ ?_
   · rintro ⟨b,_⟩ h5 ⟨rfl,hb⟩
     simp only at hb
     subst hb
     refine za0 (fun hw=>?_) (fun hw=>?_)
     · refine (hc.le ho5.dle).get c.cir[i].toNat (by omega) (by omega) ?_
       refine ho5.app (by rw [List.length_append,List.length_append,List.length_singleton]; omega) fun w2 h6 ho6=>?_
       show OI _ _ _ _
       rw [zg5 hi',zuz hw,zb9 (by omega)]
       simpa [List.append_assoc] using ho6
     · show OI _ _ _ _
       rw [zg5 hi',zuy hw,←List.append_assoc]
       exact ho5
   · refine za7 (fun h6=>⟨rfl,?_⟩) (fun h6=>za7 (fun h7=>⟨rfl,?_⟩) (fun h7=>⟨rfl,?_⟩))
     · simp only; rw [decide_eq_true (show withC c from .inl h6),h6]; rfl
     · simp only; rw [decide_eq_true (show withC c from .inr (.inl h7)),h7]; rfl
     · simp only
       by_cases h8:c.kind=17
       · rw [decide_eq_true (show withC c from .inr (.inr h8)),h8]; rfl
       · rw [decide_eq_false (show ¬withC c by unfold withC; omega),beq_eq_false_iff_ne]; exact h8
 · have:i=c.cir.length:=by simp only at h4; omega
   subst this
   rw [List.take_length] at ho
   exact hk _ _ ho.dle ho
end
section
variable {h : Hp} {s : TSketch} {S : PSk} {Kb : Bool → Hp → Prop} {Ki : Int → Hp → Prop} {Ks : Sl → Hp → Prop} {l m : Sl} {xs ys : List Int}
theorem za0z {ps:List PCon} (hx:LR cc 5 CO h l ps) (hlen:ps.length≤1000000) (H:∀y h',h.le h'→LO cc 5 CO h h' y ps→Ks y h'):callP (F.zbs l) Ks h:=by
 refine za1 (fun y h'=>LO cc 5 CO h h' y ps) (fun K' hk=>?_) fun b h' hl hb=>H b h' hl hb
 unfold F.zbs
 cases ha:l.a with
 | none=>
   refine zbb rfl ?_
   obtain ⟨ys,h1,h2,h3,h4⟩:=hx
   have h5:=h1.2
   rw [ha] at h5
   simp only [cellsAtO] at h5
   split at h5
   · rename_i h6
     rw [zfw zac.len] at h6
     have:ys=[]:=List.eq_nil_of_length_eq_zero (by omega)
     subst this
     have:ps=[]:=List.eq_nil_of_length_eq_zero (by simpa using h3.symm)
     subst this
     exact hk _ _ (Hp.le_refl _) LO.nil
   · cases h5
 | some a=>
   refine zak rfl ?_
   refine zz3 (c:=cc) (n:=5) (P:=CO) fun p1 h1 ho1=>?_
   have key:=ho1.appAll zac (K:=K') (bytes:=88) (zero:=zC) hx rfl (by simp; omega) (by simp; omega) fun w3 h2 ho2=>hk _ _ ho2.dle (by simpa using ho2)
   rw [ha] at key
   exact key
theorem za4z (hx:SK h s S) (hv:VS S) (hs:sSk S) (H:∀y h',h.le h'→LR cc 5 CO h' y (allC S)→Ks y h'):callP (F.zpi s) Ks h:=by
 refine za1 (fun y h'=>LR cc 5 CO h' y (allC S)) (fun K' hk=>?_) fun b h' hl hb=>H b h' hl hb
 unfold F.zpi
 have s6:=hs.2.2.2.2.2.1
 have hi:=zrf S
 have s4:=hs.2.2.2.1
 refine za0z hx.2.2.2.2.2 (by omega) fun w3 h2 _ ho2=>?_
 refine ho2.call zac (K1:=fun y h'=>LR cc 5 CO h' y (imp S)) (zqb hx hv hs fun y h' _ hy=>hy) fun r4 D h3 d1 ho3 h4=>?_
 exact ho3.appAll zac (bytes:=88) (zero:=zC) h4 rfl (by omega) (by omega) fun w6 h5 ho5=>hk _ _ (Hp.le_trans d1 ho5.dle) (ho5.lr zac)
theorem za4p {n:Nat} (hn:n≤1000000) (H:∀y h',h.le h'→LO cc 5 CO h h' y []→Ks y h'):callP (F.zbt nilS (n:Int)) Ks h:=by
 refine za1 (fun y h'=>LO cc 5 CO h h' y []) (fun K' hk=>?_) fun b h' hl hb=>H b h' hl hb
 unfold F.zbt
 have e0:IntKind.i64.wrap (((nilS.cap:Nat):Int)-(nilS.len:Int))=0:=by rw [show ((nilS.cap:Nat):Int)-(nilS.len:Int)=0 from rfl]; exact w64 (by omega)
 have e1:IntKind.i64.wrap ((n:Int)-0)=(n:Int):=by rw [Int.sub_zero]; exact w64 (by omega)
 refine za3 (fun _ h'=>h'=h) ?_ (za0 (fun h1=>by omega) (fun _=>rfl))
 rintro _ h rfl
 rw [e0,e1]
 refine za0 (fun h1=>?_) (fun h1=>hk _ _ (Hp.le_refl _) LO.nil)
 refine ⟨by omega,by decide,by decide,by omega,?_⟩
 have hown:Own h h 5 (nilS.cut 0 0 5) ([]:List Value):=⟨Hp.le_refl _,rfl,Nat.le_refl _,rfl⟩
 have ez:repl n zC=(List.replicate n (⟨0,nilS,nilS,nilS,0⟩:TConstraint)).flatMap cc:=by
  unfold repl
  rw [List.flatMap_replicate]
  rfl
 have key:appP 5 88 zC (nilS.cut 0 0 5) n (repl n zC) (fun w4 h2=>slP w4 0 ((nilS.len:Nat):Int) 5 fun c5=>K' c5 h2) h:=by
  refine zig hown (n:=n) ?_ rfl ?_ (by show (0+n)*88≤_; omega) (by show 0+n≤_; omega) fun y h' hy hyl=>?_
  · rw [zpw]; rfl
  · rw [ez,List.all_flatMap,List.all_eq_true]
    exact fun x _=>rfl
  · have hcap:=hy.2.2.1
    have e9:nilS.len=0:=rfl
    refine ⟨by decide,by decide,by omega,hk _ _ hy.1 ?_⟩
    have hp:=hy.preN (k:=0) (by omega)
    refine ⟨[],?_,rfl,fun k h1 _=>by simp at h1⟩
    rw [Nat.zero_mul,List.take_zero] at hp
    exact hp
 exact key
theorem za0j {qs rs:List PCon} {p:Addr} (hl:LR cc 5 CO h l qs) (hm:LR cc 5 CO h m rs) (hlen:qs.length+rs.length≤1000) (hp:Rd h 1 ⟨some p,2,2⟩ [Lf.sl.up l,Lf.sl.up m]) (H:∀y h',h.le h'→LR cc 5 CO h' y (qs++rs)→Ks y h') :
 callP (F.zbp ⟨some p,2,2⟩) Ks h:=by
 refine za1 (fun y h'=>LR cc 5 CO h' y (qs++rs)) (fun K' hk=>?_) fun b h' hl hb=>H b h' hl hb
 unfold F.zbp
 have ll:=hl.len zac
 have ml:=hm.len zac
 have g0:∀{h':Hp} {K:Sl→Prop},h.le h'→K l→idxP (⟨some p,2,2⟩:Sl) ((0:Nat):Int) 1 fun a=>ldL .sl a K h':=fun {h'} {K} hle hK=>zua 0 (hp.le hle) rfl rfl fun a ha=>⟨l,ha,hK⟩
 have g1:∀{h':Hp} {K:Sl→Prop},h.le h'→K m→idxP (⟨some p,2,2⟩:Sl) ((1:Nat):Int) 1 fun a=>ldL .sl a K h':=fun {h'} {K} hle hK=>zua 1 (hp.le hle) rfl rfl fun a ha=>⟨m,ha,hK⟩
 refine zbx (n:=2) (by omega) (fun i a h'=>h'=h∧a=if i=0 then 0 else if i=1 then (qs.length:Int) else ((qs.length+rs.length:Nat):Int)) ⟨rfl,rfl⟩ ?_
 rintro i a h hi ⟨rfl,ha⟩ k hk2
 refine za0 (fun h1=>?_) (fun h1=>?_)
 · have hi':i<2:=by have:(i:Int)<((2:Nat):Int):=h1; omega
   refine za3 (fun s h'=>h'=h∧s.1=if i+1=0 then 0 else if i+1=1 then (qs.length:Int) else ((qs.length+rs.length:Nat):Int)) (fun s h' hs=>hk2 _ _ hi' hs) ?_
   rcases (by omega:i=0∨i=1) with rfl | rfl
   · refine g0 (Hp.le_refl _) ?_
     have ha:a=0:=ha
     have e:IntKind.i64.wrap (a+(l.len:Int))=(qs.length:Int):=by rw [ha,ll,Int.zero_add]; exact w64 (by omega)
     simp only
     rw [e]
     refine za0 (fun h2=>by omega) (fun _=>⟨by trivial,by trivial⟩)
   · refine g1 (Hp.le_refl _) ?_
     have ha:a=(qs.length:Int):=ha
     have e:IntKind.i64.wrap (a+(m.len:Int))=((qs.length+rs.length:Nat):Int):=by rw [ha,ml]; rw [w64 (by omega)]; omega
     simp only
     rw [e]
     refine za0 (fun h2=>by omega) (fun _=>⟨by trivial,by trivial⟩)
 · have hi':i=2:=by have:¬(i:Int)<((2:Nat):Int):=h1; omega
   subst hi'
   have ha:a=((qs.length+rs.length:Nat):Int):=ha
   simp only
   rw [ha]
   refine za4p (by omega) fun r7 h3 hl3 ho3=>?_
   refine zbx (n:=2) (by omega) (fun i y h'=>LO cc 5 CO h h' y (if i=0 then [] else if i=1 then qs else qs++rs)) ho3 ?_
   intro i y h4 hi ho4 k hk3
   refine za0 (fun h5=>?_) (fun h5=>?_)
   · have hi':i<2:=by have:(i:Int)<((2:Nat):Int):=h5; omega
     rcases (by omega:i=0∨i=1) with rfl | rfl
     · refine g0 ho4.dle ?_
       have ho4:LO cc 5 CO h h4 y []:=ho4
       exact ho4.appAll zac (bytes:=88) (zero:=zC) hl rfl (by simp; omega) (by simp; omega) fun w h6 ho6=>hk3 _ _ (by decide) ho6
     · refine g1 ho4.dle ?_
       have ho4:LO cc 5 CO h h4 y qs:=ho4
       exact ho4.appAll zac (bytes:=88) (zero:=zC) hm rfl (by omega) (by omega) fun w h6 ho6=>hk3 _ _ (by decide) ho6
   · have hi':i=2:=by have:¬(i:Int)<((2:Nat):Int):=h5; omega
     subst hi'
     have ho4:LO cc 5 CO h h4 y (qs++rs):=ho4
     exact hk _ _ ho4.dle (ho4.lr zac)
end
end Den
end

section
namespace Den
open Go Iv Lx
def ILP (h:Hp) (x:Sl) (xs:List Int):Prop:=IL h x xs
theorem zkm:Rec slc 1 ILP:=⟨fun _=>rfl,by decide,fun _=>rfl,fun hx hl=>IL.le hx hl⟩
def items9 (s:TSketch) (lS itS ceS:Sl):List Value:=[Lf.sl.up s.points,Lf.sl.up s.circles,Lf.sl.up s.segments,Lf.sl.up s.arcs,Lf.sl.up s.chains,Lf.sl.up s.constraints,Lf.sl.up lS,Lf.sl.up itS,Lf.sl.up ceS]
def MB (h:Hp) (b:Nat) (cs:List Value):Prop:=∃e,h b=some ⟨cs,e,(0,0)⟩
theorem MB.ld {h:Hp} {b:Nat} {cs:List Value} (hb:MB h b cs) (j:Nat) {v:Value} (hv:cs[j]?=some v):h.cell ((⟨b,0,none⟩:Addr).add j)=some v:=by
 obtain ⟨e,hb⟩:=hb
 unfold Hp.cell
 rw [zbk,zet rfl,zd0]
 simpa [hb] using hv
theorem MB.le {h h':Hp} {b:Nat} {cs:List Value} (hb:MB h b cs) (hl:h.le h'):MB h' b cs:=by
 obtain ⟨e,hb⟩:=hb
 exact ⟨e,hl _ _ hb⟩
theorem MB.st {h:Hp} {b j:Nat} {cs:List Value} {v:Value} {K:Hp→Prop} (hb:MB h b cs) (hj:j<cs.length) (hv:Value.leaf v=true)
 (H:∀h',MB h' b (cs.set j v)→(∀i,i≠b→h' i=h i)→K h'):stP ((⟨b,0,none⟩:Addr).add j) [v] K h:=by
 obtain ⟨e,hb⟩:=hb
 refine ⟨_,by rw [zbk]; exact hb,zet rfl _,rfl,?_,by simp [hv],?_⟩
 · rw [zd0]; simp; omega
 · rw [zbk,zd0]
   refine H _ ⟨e,?_⟩ fun i hi=>Hp.ins_ne hi
   rw [Hp.ins_same]
   simp only [Nat.zero_add]
   rw [zkh,List.set_eq_take_append_cons_drop,if_pos hj]
theorem zqm {h h':Hp} {b:Nat} {bl:Blk} (hb:h' b=some bl) (hs:∀i,i≠b→h' i=h i):h'=h.ins b bl:=by
 funext i
 by_cases hi:i=b
 · subst hi; rw [Hp.ins_same,hb]
 · rw [Hp.ins_ne hi,hs i hi]
theorem znd {h0 h:Hp} {x:Sl} {cs:List Value} {n m:Nat} {bl:Blk} (ho:Own h0 h m x cs) (hn:h0 n=none) (hne:∀a,x.a=some a→a.block≠n):Own h0 (h.ins n bl) m x cs:=by
 obtain ⟨h1,h2,h3,h4⟩:=ho
 refine ⟨fun k b hk=>?_,h2,h3,?_⟩
 · have:k≠n:=fun hh=>by subst hh; rw [hn] at hk; cases hk
   rw [Hp.ins_ne this]; exact h1 k b hk
 · cases ha:x.a with
   | none=>rw [ha] at h4; exact h4
   | some a=>
     rw [ha] at h4
     obtain ⟨g1,g2,g3,b,g4,g5⟩:=h4
     exact ⟨g1,g2,g3,b,by rw [Hp.ins_ne (hne a ha)]; exact g4,g5⟩
theorem zzc {h0 h D:Hp} {x:Sl} {cs:List Value} {m:Nat} (ho:Own h0 h m x cs) (hD:∀a,x.a=some a→D a.block=h a.block):Rd D m x cs:=by
 have hr:=ho.rd
 obtain ⟨h1,h2,h3,h4⟩:=ho
 refine ⟨hr.1,?_⟩
 cases ha:x.a with
 | none=>have:=hr.2; rw [ha] at this; exact this
 | some a=>
   rw [ha] at h4
   obtain ⟨g1,g2,g3,b,g4,g5,g6,g7⟩:=h4
   have hle:cs.length≤b.cells.length:=by rw [g6,←h2]; exact Nat.mul_le_mul_right _ h3
   simp only [cellsAtO]
   rw [zm4 (by rw [hD a ha]; exact g4) g2 (by omega),g1]
   simp [g7]
def PR (h:Hp) (p:Addr) (S:PSk):Prop:=∃s lS itS ceS,SK h s S∧(∀j v,(items9 s lS itS ceS)[j]?=some v→h.cell (p.add j)=some v)∧LR cc 5 CO h lS (allC S)∧LR slc 1 ILP h itS ((allC S).map fun c=>itemsC c (cens S))∧IL h ceS (cens S)
theorem PR.le {h h':Hp} {p:Addr} {S:PSk} (hp:PR h p S) (hl:h.le h'):PR h' p S:=by
 obtain ⟨s,lS,itS,ceS,h1,h2,h3,h4,h5⟩:=hp
 exact ⟨s,lS,itS,ceS,h1.le hl,fun j v hv=>Hp.cell_le hl (h2 j v hv),h3.le zac hl,h4.le zkm hl,h5.le hl⟩
section
variable {h : Hp} {s : TSketch} {S : PSk} {Kp : Option Addr → Hp → Prop}
theorem zqt (hx:SK h s S) (hv:VS S) (hs:sSk S) (H:∀p h',h.le h'→PR h' p S→Kp (some p) h'):callP (F.zf1 s) Kp h:=by
 refine za1 (fun y h'=>∃p,y=some p∧PR h' p S) (fun K' hk=>?_) fun b h' hl ⟨p,hp,hb⟩=>by subst hp; exact H p h' hl hb
 unfold F.zf1
 have hal:=zhq hs
 have hok:=zh4 hv hs
 have s6:=hs.2.2.2.2.2.1
 have hi:=zrf S
 have s4:=hs.2.2.2.1
 have s2:=hs.2.1
 have cl:=zhs (S:=S)
 refine zqb hx hv hs fun r1 h1 hl1 hr1=>?_
 refine za94 (cells:=[Lf.sl.up s.constraints,Lf.sl.up r1]) 1 2 rfl fun p2 h2 hl2 hp2=>?_
 refine za0j ((hx.le (Hp.le_trans hl1 hl2)).2.2.2.2.2) (hr1.le zac hl2) (by omega) hp2 fun lS h3 hl3 hL=>?_
 have hle3:=Hp.le_trans hl1 (Hp.le_trans hl2 hl3)
 have hx3:=hx.le hle3
 have hL:LR cc 5 CO h3 lS (allC S):=hL
 intro b e hbf
 have l2:=hx.2.1.len zd6
 have lL:=hL.len zac
 refine zbe (n:=S.cir.length) (by omega) (fun i h'=>∃y,MB h' b (items9 s lS nilS y)∧OI h3 h' y ((cens S).take i)∧∀a,y.a=some a→a.block≠b) ⟨nilS,⟨e,Hp.ins_same _ _ _⟩,by rw [List.take_zero]; exact Own.nil (Hp.le_ins hbf),fun a ha=>by cases ha⟩ ?_
 rintro i h5 hi ⟨y,hm,ho,hab⟩ k hk2
 have h3b:h3 b=none:=hbf
 refine za0 (fun h6=>?_) (fun h6=>?_)
 · have hi':i<S.cir.length:=by simp only at h6; omega
   refine zus (hx3.le ho.dle) i rfl hi' fun a x hxx hc=>⟨_,hc 0 _ rfl,_,hc 1 _ rfl,_,hc 2 _ rfl,_,hc 3 _ rfl,_,hc 4 _ rfl,_,hm.ld 8 rfl,?_⟩
   have hyl:=ho.il.len
   rw [List.length_take] at hyl
   refine zn5 ho (n:=1) (new:=[ic x.center]) rfl rfl rfl (by omega) (by omega) fun z h7 hz _ hs7 hb7=>?_
   have hbb:h5 b≠none:=by obtain ⟨e,hm⟩:=hm; rw [hm]; simp
   have hm7:MB h7 b (items9 s lS nilS y):=by
    obtain ⟨e,hm⟩:=hm
    exact ⟨e,by rw [hs7 b hbb fun a ha=>(hab a ha).symm]; exact hm⟩
   have hzb:∀a,z.a=some a→a.block≠b:=fun a ha hh=>by
    rcases hb7 a ha with ⟨a',h8,h9⟩ | h8
    · exact hab a' h8 (by rw [h9]; exact hh)
    · rw [hh] at h8; exact hbb h8
   refine hm7.st (j:=8) (v:=Lf.sl.up z) (by simp [items9]) rfl fun h8 hm8 hs8=>hk2 _ hi' ⟨z,hm8,?_,hzb⟩
   obtain ⟨e8,hm8'⟩:=hm8
   rw [zqm hm8' hs8]
   have:OI h3 h7 z ((cens S).take (i+1)):=by
    unfold OI
    rw [←List.take_append_getElem (show i<(cens S).length by omega),List.map_append,←hxx]
    exact hz
   exact znd this h3b hzb
 · have hi':i=S.cir.length:=by simp only at h6; omega
   subst hi'
   rw [←cl,List.take_length] at ho
   obtain ⟨D0,hD0⟩:∃D0,D0=h5.del b:=⟨_,rfl⟩
   have hD0le:D0.le h5:=by rw [hD0]; exact Hp.del_le _ _
   have h3D:h3.le D0:=fun j bl hj=>by
    rw [hD0]
    unfold Hp.del
    rw [if_neg (fun hh=>by subst hh; rw [h3b] at hj; cases hj)]
    exact ho.dle _ _ hj
   have hce:IL D0 y (cens S):=⟨zzc ho fun a ha=>by rw [hD0]; unfold Hp.del; rw [if_neg (hab a ha)],ho.2.2.1⟩
   refine ⟨_,hm.ld 6 rfl,?_⟩
   have hLD:=hL.le zac h3D
   refine zbe (n:=(allC S).length) (by omega) (fun i h'=>∃z D,MB h' b (items9 s lS z y)∧D0.le D∧D b=none∧LO slc 1 ILP D h' z (((allC S).map fun c=>itemsC c (cens S)).take i)∧∀a,z.a=some a→a.block≠b)
    ⟨nilS,D0,hm,Hp.le_refl _,by rw [hD0]; exact Hp.del_same _ _,⟨[],Own.nil hD0le,by simp,fun k k1 _=>by simp at k1⟩,fun a ha=>by cases ha⟩ ?_
   clear hk2
   rintro i h8 hi ⟨z,D,hm8,hD,hDb,hz,hzb⟩ k hk2
   refine za0 (fun h9=>?_) (fun h9=>?_)
   · have hi':i<(allC S).length:=by simp only at h9; omega
     have hD8:=hz.dle
     refine (hLD.le zac (Hp.le_trans hD hD8)).get zac i rfl hi' fun a x hxx hc=>?_
     refine ⟨_,hc 0 _ rfl,_,hc 1 _ rfl,_,hc 2 _ rfl,_,hc 3 _ rfl,_,hc 4 _ rfl,?_⟩
     obtain ⟨c,hcc⟩:∃c,c=(allC S)[i]:=⟨_,rfl⟩
     rw [←hcc] at hxx
     have hcok:=hok c (by rw [hcc]; exact List.getElem_mem _)
     have hcir:cirOk c (cens S):=hcok.1.cirOk
     have hsc:=hcok.2
     obtain ⟨x1,x2,x3,x4,x5⟩:=hxx
     obtain ⟨c1,c2,c3,c4⟩:=hsc
     have cll:=x3.len
     refine zs1 x2 (by omega) fun r16 h10 ho10=>?_
     rw [x1]
     refine zbx (n:=c.cir.length) (by omega) (fun j w h'=>OI h8 h' w (c.pts++(c.cir.take j).flatMap (itK c (cens S)))) (by simpa using ho10) ?_
     intro j w h11 hj ho11 k11 hk11
     have hfl:=zkl (c:=c) (cs:=cens S) (c.cir.take j)
     rw [List.length_take] at hfl
     refine za0 (fun h12=>?_) (fun h12=>?_)
     · have hj':j<c.cir.length:=by simp only at h12; omega
       have hkk:=hcir _ (List.getElem_mem hj')
       refine za3 (fun s h'=>OI h8 h' s.1 (c.pts++(c.cir.take (j+1)).flatMap (itK c (cens S)))) (fun s h' hs=>hk11 _ _ hj' hs) ?_
       refine (x3.le ho11.dle).get j rfl hj' ?_
       rw [zss hkk.1 hkk.2 (by omega)]
       refine ho11.app (by rw [List.length_append]; omega) fun w2 h13 ho13=>?_
       have two:withC c→ldL .sl ((⟨b,0,none⟩:Addr).add 8) (fun x24=>idxP x24 c.cir[j] 1 fun a25=>ldL (.int .i64) a25 (fun x26=>appP 1 8 [.int .i64 0] w2 1 [.int .i64 x26] (fun w27 h13=>OI h8 h13 w27 (c.pts++(c.cir.take (j+1)).flatMap (itK c (cens S)))) h13) h13) h13:=by
        intro hw
        refine ⟨_,(hm8.le ho13.dle).ld 8 rfl,?_⟩
        refine (hce.le (Hp.le_trans hD (Hp.le_trans hD8 ho13.dle))).get c.cir[j].toNat (by omega) (by omega) ?_
        refine ho13.app (by rw [List.length_append,List.length_append,List.length_singleton]; omega) fun w3 h14 ho14=>?_
        rw [zg5 hj',zuz hw,zb9 (by omega)]
        simpa [List.append_assoc] using ho14
       refine za7 (fun h6=>two (.inl h6)) (fun h6=>za7 (fun h7=>two (.inr (.inl h7))) (fun h7=>za7 (fun h8=>two (.inr (.inr h8))) (fun h8=>?_)))
       show OI _ _ _ _
       rw [zg5 hj',zuy (by unfold withC; omega),←List.append_assoc]
       exact ho13
     · have hj':j=c.cir.length:=by simp only at h12; omega
       subst hj'
       rw [List.take_length] at ho11
       have ho11:OI h8 h11 w (itemsC c (cens S)):=ho11
       have hm11:=hm8.le ho11.dle
       refine ⟨_,hm11.ld 7 rfl,?_⟩
       have hz11:=hz.le ho11.dle
       have hbb:h11 b≠none:=by obtain ⟨e,hm⟩:=hm11; rw [hm]; simp
       have hwb:∀a,w.a=some a→h8 a.block=none:=fun a ha=>by
        obtain ⟨_,_,_,g4⟩:=ho11
        rw [ha] at g4
        exact g4.2.2.1
       have h8b:h8 b≠none:=by obtain ⟨e,hm⟩:=hm8; rw [hm]; simp
       obtain ⟨zs,q1,q2,q3⟩:=hz11
       have hz8:∀a,z.a=some a→h8 a.block≠none:=fun a ha=>by
        obtain ⟨ys,g1,_,_⟩:=hz
        obtain ⟨_,_,_,g4⟩:=g1
        rw [ha] at g4
        obtain ⟨_,_,_,bl,g5,_⟩:=g4
        rw [g5]; simp
       have hzD:∀a,z.a=some a→D a.block=none:=fun a ha=>by
        obtain ⟨_,_,_,g4⟩:=q1
        rw [ha] at g4
        exact g4.2.2.1
       obtain ⟨D1,hD1⟩:∃D1:Hp,D1=fun j=>if j=b∨(∃a,z.a=some a∧j=a.block) then none else h11 j:=⟨_,rfl⟩
       have hD1h:D1.le h11:=fun j bl hj=>by
        rw [hD1] at hj
        simp only at hj
        split at hj
        · cases hj
        · exact hj
       have hDD1:D.le D1:=fun j bl hj=>by
        rw [hD1]
        simp only
        rw [if_neg]
        · exact Hp.le_trans hD8 ho11.dle _ _ hj
        · rintro (rfl | ⟨a,ha,rfl⟩)
          · rw [hDb] at hj; cases hj
          · rw [hzD a ha] at hj; cases hj
       have hD1b:D1 b=none:=by rw [hD1]; simp
       have hw1:IL D1 w (itemsC c (cens S)):=⟨zzc ho11 fun a ha=>by
        rw [hD1]
        simp only
        rw [if_neg]
        rintro (hh | ⟨a',ha',hh⟩)
        · exact h8b (by rw [←hh]; exact hwb a ha)
        · exact hz8 a' ha' (by rw [←hh]; exact hwb a ha),ho11.2.2.1⟩
       have hz1:Own D1 h11 1 z (zs.flatMap slc):=by
        obtain ⟨g1,g2,g3,g4⟩:=q1
        refine ⟨hD1h,g2,g3,?_⟩
        cases ha:z.a with
        | none=>rw [ha] at g4; exact g4
        | some a=>
          rw [ha] at g4
          obtain ⟨k1,k2,k3,k4⟩:=g4
          exact ⟨k1,k2,by rw [hD1]; simp only; rw [if_pos (.inr ⟨a,ha,rfl⟩)],k4⟩
       have hzl:=hz.len zkm
       rw [List.length_take,List.length_map] at hzl
       refine zn5 hz1 (n:=1) (new:=slc w) rfl rfl rfl (by omega) (by omega) fun z2 h15 hz2 _ hs15 hb15=>?_
       have hm15:MB h15 b (items9 s lS z y):=by
        obtain ⟨e,hm⟩:=hm11
        exact ⟨e,by rw [hs15 b hbb fun a ha=>(hzb a ha).symm]; exact hm⟩
       have hz2b:∀a,z2.a=some a→a.block≠b:=fun a ha hh=>by
        rcases hb15 a ha with ⟨a',h8,h9⟩ | h8
        · exact hzb a' h8 (by rw [h9]; exact hh)
        · rw [hh] at h8; exact hbb h8
       refine hm15.st (j:=7) (v:=Lf.sl.up z2) (by simp [items9]) rfl fun h16 hm16 hs16=>hk2 _ hi' ⟨z2,D1,hm16,Hp.le_trans hD hDD1,hD1b,⟨zs++[w],?_,?_,fun j j1 j2=>?_⟩,hz2b⟩
       · obtain ⟨e8,hm8'⟩:=hm16
         rw [zqm hm8' hs16]
         refine znd ?_ hD1b hz2b
         rw [List.flatMap_append]
         simpa using hz2
       · rw [List.length_append,q2,List.length_take,List.length_take]
         simp; omega
       · have hlz:zs.length=i:=by rw [q2]; simp; omega
         rcases Nat.lt_or_ge j i with h5 | h5
         · rw [List.getElem_append_left (by omega),List.getElem_take]
           have:=q3 j (by omega) (by simp; omega)
           rw [List.getElem_take] at this
           exact zkm.mono this hDD1
         · have h6:j=i:=by simp at j1; omega
           subst h6
           rw [List.getElem_append_right (by omega),List.getElem_take]
           simp only [hlz,Nat.sub_self,List.getElem_cons_zero,List.getElem_map]
           rw [←hcc]
           exact hw1
   · have hi':i=(allC S).length:=by simp only at h9; omega
     subst hi'
     have hfull:((allC S).map fun c=>itemsC c (cens S)).take (allC S).length=(allC S).map fun c=>itemsC c (cens S):=List.take_of_length_le (by simp)
     rw [hfull] at hz
     have hD8:=hz.dle
     have h38:h3.le h8:=Hp.le_trans h3D (Hp.le_trans hD hD8)
     refine hk _ _ (Hp.le_trans hle3 h38) ⟨⟨b,0,none⟩,rfl,s,lS,z,y,hx3.le h38,fun j v hv=>hm8.ld j hv,hL.le zac h38,hz.lr zkm,hce.le (Hp.le_trans hD hD8)⟩
end
end Den
end

section
namespace Den
open Go Iv Lx
def cAt (cs:List Int) (c:PCon) (i:Nat):Int:=cs.getD (c.cir.getD i 0).toNat 0
def cnt (l:List Int) (t:Int):Nat:=(l.filter (·==t)).length
def kindP (c:PCon) (cs:List Int) (t:Int):Int:=
 if c.kind=13 then (if (t∈c.pts)↔cAt cs c 0=t then 0 else 2)
 else if c.kind=16 then (if cAt cs c 0=t∧t∉c.pts then 1 else 0)
 else if c.kind=17 then (if cAt cs c 0=t↔cAt cs c 1=t then 0 else 2)
 else if t∉c.pts then 0
 else if c.kind=1∨c.kind=9 then 3
 else if c.kind=2 then 2
 else if c.kind=3∨c.kind=6∨c.kind=11∨c.kind=12 then 1
 else if c.kind=4 then (if c.pts[0]?=some t then 1 else 0)
 else if c.kind=10 then (if c.pts[0]?=some t∨c.pts[1]?=some t then 3 else 0)
 else if c.kind=5∨c.kind=7 then (if cnt c.pts t=2 then 2 else 1)
 else if c.kind=8 then (if cnt c.pts t=2 then 1 else 2)
 else 0
def sizesP (c:PCon) (cs:List Int) (k:Int):Prop:=
 k∈c.cir∧(if c.kind=13∨c.kind=16 then cs.getD k.toNat 0∉c.pts else if c.kind=17 then c.side=1∧cAt cs c 0≠cAt cs c 1 else True)
instance (c:PCon) (cs:List Int) (k:Int):Decidable (sizesP c cs k):=by unfold sizesP; infer_instance
def suitP (c:PCon) (cs:List Int) (item:Int):Prop:=
 if item<0 then sizesP c cs (-1-item) else if eqK c.kind=2 then kindP c cs item=3 else kindP c cs item=1∨kindP c cs item=2
instance (c:PCon) (cs:List Int) (k:Int):Decidable (suitP c cs k):=by unfold suitP; infer_instance
def keepP (l:List Int) (item:Int) (R:List Int):Prop:=item∈l∧∀x∈l,x∉R
instance (l:List Int) (item:Int) (R:List Int):Decidable (keepP l item R):=by unfold keepP; infer_instance
def remN (its:List (List Int)) (item:Int) (R:List Int):Nat→List Int
 | 0=>[]
 | k+1=>remN its item R k++(if keepP (its.getD k []) item R then [(k:Int)] else [])
def remL (its:List (List Int)) (item:Int) (R:List Int):List Int:=remN its item R its.length
theorem zsx {its:List (List Int)} {item:Int} {R:List Int}:∀{k:Nat} {j:Int},j∈remN its item R k↔∃i:Nat,i<k∧j=i∧keepP (its.getD i []) item R
 | 0,j=>by simp [remN]
 | k+1,j=>by
   unfold remN
   rw [List.mem_append,zsx]
   constructor
   · rintro (⟨i,hi,h1,h2⟩ | h)
     · exact ⟨i,by omega,h1,h2⟩
     · split at h
       · rename_i h3
         exact ⟨k,by omega,List.mem_singleton.1 h,h3⟩
       · cases h
   · rintro ⟨i,hi,h1,h2⟩
     rcases Nat.lt_or_ge i k with h3 | h3
     · exact .inl ⟨i,h3,h1,h2⟩
     · have:i=k:=by omega
       subst this
       right
       rw [if_pos h2]; exact List.mem_singleton.2 h1
theorem zsw (its:List (List Int)) (item:Int) (R:List Int):∀k,(remN its item R k).length≤k
 | 0=>by simp [remN]
 | k+1=>by
   unfold remN
   have:=zsw its item R k
   rw [List.length_append]
   split<;>simp<;>omega
def dC:PCon:=⟨0,[],[],[],0⟩
def wtL (L:List PCon) (l:List Int):Nat:=(l.map fun i=>eqK (L.getD i.toNat dC).kind).sum
def most (item:Int):Nat:=if item<0 then 1 else 2
def canP (L:List PCon) (cs:List Int) (R:List Int) (item:Int):Prop:=
 item∉R∧wtL L (remL (L.map fun c=>itemsC c cs) item R)≤most item∧∀i∈remL (L.map fun c=>itemsC c cs) item R,suitP (L.getD i.toNat dC) cs item
instance (L:List PCon) (cs:List Int) (R:List Int) (item:Int):Decidable (canP L cs R item):=by unfold canP; infer_instance
def allI (n m:Nat):List Int:=(List.range n).map (fun i:Nat=>(i:Int))++(List.range m).map (fun i:Nat=>-1-(i:Int))
theorem znb {n m:Nat} {x:Int}:x∈allI n m↔(0≤x∧x<n)∨(x<0∧-1-x<m):=by
 unfold allI
 rw [List.mem_append,List.mem_map,List.mem_map]
 constructor
 · rintro (⟨a,ha,rfl⟩ | ⟨a,ha,rfl⟩)
   · rw [List.mem_range] at ha; omega
   · rw [List.mem_range] at ha; omega
 · rintro (⟨h1,h2⟩ | ⟨h1,h2⟩)
   · exact .inl ⟨x.toNat,List.mem_range.2 (by omega),by omega⟩
   · exact .inr ⟨(-1-x).toNat,List.mem_range.2 (by omega),by omega⟩
theorem zx9 {n m:Nat}:(allI n m).length=n+m:=by simp [allI]
def peelF (can:List Int→Int→Bool) (pref:List Int):Nat→List Int→List Int
 | 0,R=>R
 | f+1,R=>match pref.find? (can R) with
   | none=>R
   | some i=>peelF can pref f (R++[i])
def peelL (can:List Int→Int→Bool) (pref:List Int):List Int:=peelF can pref pref.length []
def leftL (pref R:List Int):List Int:=pref.filter fun x=>decide (x∉R)
def canB (L:List PCon) (cs:List Int) (R:List Int) (item:Int):Bool:=decide (canP L cs R item)
theorem ztw {pref R:List Int} {i:Int} (hi:i∈pref) (hR:i∉R):(leftL pref (R++[i])).length<(leftL pref R).length:=by
 have e:leftL pref (R++[i])=(leftL pref R).filter fun x=>decide (x≠i):=by
  unfold leftL
  rw [List.filter_filter]
  congr 1
  funext x
  simp only [List.mem_append,List.mem_singleton,not_or]
  by_cases h1:x∈R<;>by_cases h2:x=i<;>simp [h1,h2]
 rw [e]
 refine List.length_filter_lt_length_iff_exists.2 ⟨i,?_,by simp⟩
 unfold leftL
 exact List.mem_filter.2 ⟨hi,by simpa using hR⟩
def lenC (c:PCon):Prop:=c.pts.length=(shK c.kind).1∧c.cir.length=(shK c.kind).2.1∧1≤c.kind∧c.kind≤17∧(fourK c.kind→PairsP c.pts)∧(¬fourK c.kind→c.pts.Nodup)
theorem VC.lenC {c:PCon} {n m:Int} (hv:VC c n m):lenC c:=by
 obtain ⟨h1,h2,h3,h4,h5,h6,h7⟩:=hv
 refine ⟨h2.1,h3.1,h1.1,h1.2,fun h=>?_,fun h=>?_⟩
 · rw [if_pos h] at h7; exact h7
 · rw [if_neg h] at h7; exact h7.1
section
variable {h : Hp} {x : TConstraint} {c : PCon} {cs : List Int} {ce : Sl} {t : Int} {Kb : Bool → Hp → Prop} {Ki : Int → Hp → Prop} {Ks : Sl → Hp → Prop}
def posF (l:List Int) (t:Int):Nat→List Int
 | 0=>[]
 | k+1=>posF l t k++(if l[k]?=some t then [(k:Int)] else [])
theorem zzh (l:List Int) (t:Int):∀k,k≤l.length→(posF l t k).length=cnt (l.take k) t
 | 0,_=>by simp [posF,cnt]
 | k+1,hk=>by
   unfold posF
   rw [List.length_append,zzh l t k (by omega)]
   unfold cnt
   rw [←List.take_append_getElem (show k<l.length by omega),List.filter_append,List.length_append]
   congr 1
   rw [List.getElem?_eq_getElem (by omega)]
   by_cases h:l[k]=t<;>simp [h]
theorem za2v (l:List Int) (t:Int):∀k,(posF l t k).length≤k
 | 0=>by simp [posF]
 | k+1=>by
   unfold posF
   have:=za2v l t k
   rw [List.length_append]
   split<;>simp<;>omega
theorem zw6 {l:List Int} {t:Int}:∀{k:Nat} (hne:posF l t k≠[]),∃i:Nat,(posF l t k)[0]?=some (i:Int)∧l[i]?=some t∧∀j,j<i→l[j]?≠some t
 | 0,h=>absurd rfl h
 | k+1,h=>by
   unfold posF at h ⊢
   by_cases h0:posF l t k=[]
   · rw [h0,List.nil_append] at h ⊢
     split at h
     · rename_i h3
       rw [if_pos h3]
       refine ⟨k,rfl,h3,fun j hj hh=>?_⟩
       have:(j:Int)∈posF l t k:=by
        have key:∀m,j<m→(j:Int)∈posF l t m:=by
         intro m
         induction m with
         | zero=>intro hm; omega
         | succ m ih=>
           intro hm
           unfold posF
           rcases Nat.lt_or_ge j m with h4 | h4
           · exact List.mem_append_left _ (ih h4)
           · have:j=m:=by omega
             subst this
             rw [if_pos hh]; simp
        exact key k hj
       rw [h0] at this; cases this
     · exact absurd rfl h
   · obtain ⟨i,h1,h2⟩:=zw6 h0
     refine ⟨i,?_,h2⟩
     have:0<(posF l t k).length:=List.length_pos_iff.2 h0
     rw [List.getElem?_append_left this]; exact h1
theorem za2d {l:List Int} {t:Int}:cnt l t≠0↔t∈l:=by
 unfold cnt
 rw [←Nat.pos_iff_ne_zero,List.length_pos_iff_exists_mem]
 constructor
 · rintro ⟨a,ha⟩
   have:=List.mem_filter.1 ha
   rw [beq_iff_eq] at this
   rw [←this.2]; exact this.1
 · intro h
   exact ⟨t,List.mem_filter.2 ⟨h,by simp⟩⟩
theorem za1h (hx:CO h x c) (hs:sC c) (H:∀y h',h.le h'→IL h' y (posF c.pts t c.pts.length)→Ks y h'):callP (F.zk2 x t) Ks h:=by
 refine za1 (fun y h'=>IL h' y (posF c.pts t c.pts.length)) (fun K' hk=>?_) fun b h' hl hb=>H b h' hl hb
 unfold F.zk2
 have hp:=hx.2.1
 have hl:=hp.len
 have s1:=hs.1
 refine zbx (n:=c.pts.length) (by omega) (fun i y h'=>OI h h' y (posF c.pts t i)) OI.nil ?_
 intro i y h1 hi ho k hk2
 refine za0 (fun h2=>?_) (fun h2=>?_)
 · have hi':i<c.pts.length:=by simp only at h2; omega
   refine za3 (fun s h'=>OI h h' s.1 (posF c.pts t (i+1))) (fun s h' hs=>hk2 _ _ hi' hs) ?_
   refine (hp.le ho.dle).get i rfl hi' ?_
   have hle:=za2v c.pts t i
   refine za7 (fun h3=>?_) (fun h3=>?_)
   · refine ho.app (by omega) fun z h4 ho4=>?_
     show OI _ _ _ _
     unfold posF
     rw [List.getElem?_eq_getElem hi',h3,if_pos rfl]; exact ho4
   · show OI _ _ _ _
     unfold posF
     rw [List.getElem?_eq_getElem hi',if_neg (fun hh=>h3 (Option.some.inj hh)),List.append_nil]; exact ho
 · have:i=c.pts.length:=by simp only at h2; omega
   subst this
   exact hk _ _ ho.dle ho.il
theorem zrc {K:Int→Prop} {i:Nat} (hx:CO h x c) (hc:IL h ce cs) (hok:cirOk c cs) (hi:i<c.cir.length) (H:K (cAt cs c i)):idxP x.circles (i:Int) 1 fun a5=>ldL (.int .i64) a5 (fun x6=>idxP ce x6 1 fun a7=>ldL (.int .i64) a7 K h) h:=by
 refine hx.2.2.1.get i rfl hi ?_
 have hkk:=hok _ (List.getElem_mem hi)
 refine hc.get c.cir[i].toNat (by omega) (by omega) ?_
 unfold cAt at H
 rw [zb9 hi,zb9 (by omega)] at H
 exact H
theorem za4r (hx:CO h x c) (hc:IL h ce cs) (hs:sC c) (hok:cirOk c cs) (hv:lenC c) (H:∀h',h.le h'→Ki (kindP c cs t) h'):callP (F.zmf x ce t) Ki h:=by
 refine za1 (fun r h'=>r=kindP c cs t) (fun K' hk=>?_) fun b h' hl hb=>by subst hb; exact H h' hl
 unfold F.zmf
 obtain ⟨v1,v2,v3,v4,v5,v6⟩:=hv
 have x1:=hx.1
 have s1:=hs.1
 refine zg9 fun p1 h1 hl1 c1=>zdg fun p2 h2 hl2 c2=>zdg fun p3 h3 hl3 c3=>?_
 have hle:h.le h3:=Hp.le_trans hl1 (Hp.le_trans hl2 hl3)
 have k1:CKC h3 p1 x:=fun i v hv=>Hp.cell_le (Hp.le_trans hl2 hl3) (c1 i v hv)
 refine ⟨_,k1 0 _ rfl,_,k1 1 _ rfl,_,k1 2 _ rfl,_,k1 3 _ rfl,_,k1 4 _ rfl,_,c3,?_⟩
 refine za1h (x:=x) (hx.le hle) hs fun r6 h4 hl4 hr6=>?_
 have hle4:=Hp.le_trans hle hl4
 have k4:CKC h4 p1 x:=fun i v hv=>Hp.cell_le hl4 (k1 i v hv)
 have hr:=hr6.len
 have hpl:=zzh c.pts t c.pts.length (Nat.le_refl _)
 rw [List.take_length] at hpl
 have hat:(posF c.pts t c.pts.length).length≠0↔t∈c.pts:=by rw [hpl]; exact za2d
 have cen:∀i h' (K:Bool→Hp→Prop),i<c.cir.length→h4.le h'→K (decide (cAt cs c i=t)) h'→callP (F.zfc (i:Int) (some p2) (some p1) (some p3)) K h':=by
  intro i h' K hi hl' hK
  refine zae _ (fun K'' hk''=>?_) hK
  unfold F.zfc
  have hl3':=Hp.le_trans hl4 hl'
  refine ⟨_,Hp.cell_le (Hp.le_trans hl3 hl3') c2,_,Hp.cell_le hl' (k4 2 _ rfl),?_⟩
  refine zrc (x:=x) (ce:=ce) (hx.le (Hp.le_trans hle4 hl')) (hc.le (Hp.le_trans hle4 hl')) hok hi ?_
  refine ⟨_,Hp.cell_le hl3' c3,?_⟩
  have:(cAt cs c i==t)=decide (cAt cs c i=t):=by
   by_cases hh:cAt cs c i=t
   · rw [decide_eq_true hh,hh]; simp
   · rw [decide_eq_false hh,beq_eq_false_iff_ne]; exact hh
  show K'' (cAt cs c i==t) h'
  rw [this]; exact hk''
 refine ⟨_,k4 0 _ rfl,?_⟩
 rw [x1]
 have hk':∀r,r=kindP c cs t→K' r h4:=fun r hr=>hk _ _ hle4 hr
 unfold kindP at hk'
 refine za7 (fun e13=>?_) (fun e13=>?_)
 · refine cen 0 h4 _ (by rw [v2,e13]; decide) (Hp.le_refl _) ?_
   rw [if_pos e13] at hk'
   have ha:decide ((r6.len:Int)>0)=decide (t∈c.pts):=decide_eq_decide.2 (by rw [←hat]; omega)
   rw [ha]
   refine za2 (fun h5=>hk' _ ?_) (fun h5=>hk' _ ?_)
   · rw [if_neg]
     intro hh
     by_cases g:t∈c.pts
     · rw [decide_eq_true g,decide_eq_true (hh.1 g)] at h5; cases h5
     · rw [decide_eq_false g,decide_eq_false (fun z=>g (hh.2 z))] at h5; cases h5
   · rw [if_pos]
     by_cases g:t∈c.pts
     · rw [decide_eq_true g] at h5
       exact ⟨fun _=>by simpa using h5,fun _=>g⟩
     · rw [decide_eq_false g] at h5
       exact ⟨fun z=>absurd z g,fun z=>by rw [decide_eq_true z] at h5; cases h5⟩
 rw [if_neg e13] at hk'
 refine za7 (fun e16=>?_) (fun e16=>?_)
 · refine cen 0 h4 _ (by rw [v2,e16]; decide) (Hp.le_refl _) ?_
   rw [if_pos e16] at hk'
   refine za0 (fun h5=>za7 (fun h6=>hk' _ ?_) (fun h6=>hk' _ ?_)) (fun h5=>hk' _ ?_)
   · rw [if_pos ⟨h5,fun hh=>absurd (hat.2 hh) (by omega)⟩]
   · rw [if_neg (fun hh=>hh.2 (hat.1 (by omega)))]
   · rw [if_neg (fun hh=>h5 hh.1)]
 rw [if_neg e16] at hk'
 refine za7 (fun e17=>?_) (fun e17=>?_)
 · refine cen 0 h4 _ (by rw [v2,e17]; decide) (Hp.le_refl _) (cen 1 h4 _ (by rw [v2,e17]; decide) (Hp.le_refl _) ?_)
   rw [if_pos e17] at hk'
   refine za2 (fun h5=>hk' _ ?_) (fun h5=>hk' _ ?_)
   · rw [if_neg]
     intro hh
     have e:decide (cAt cs c 0=t)=decide (cAt cs c 1=t):=decide_eq_decide.2 hh
     rw [e] at h5
     simp at h5
   · rw [if_pos]
     have h6:decide (cAt cs c 0=t)=decide (cAt cs c 1=t):=by simpa using h5
     exact decide_eq_decide.1 h6
 rw [if_neg e17] at hk'
 refine za7 (fun e0=>?_) (fun e0=>?_)
 · refine hk' _ ?_
   rw [if_pos (fun hh=>absurd (hat.2 hh) (by omega))]
 have hin:t∈c.pts:=hat.1 (by omega)
 rw [if_neg (fun hh=>hh hin)] at hk'
 have hne:posF c.pts t c.pts.length≠[]:=fun hh=>by rw [hh] at hr; simp at hr; omega
 obtain ⟨i0,hi0,hi1,hi2⟩:=zw6 hne
 have hlen0:0<(posF c.pts t c.pts.length).length:=List.length_pos_iff.2 hne
 have hget0:(posF c.pts t c.pts.length)[0]=(i0:Int):=by rw [List.getElem?_eq_getElem hlen0] at hi0; exact Option.some.inj hi0
 refine ⟨_,k4 0 _ rfl,?_⟩
 rw [x1]
 have dk:∀(n:Int),(c.kind==n)=decide (c.kind=n):=fun n=>by
  by_cases hh:c.kind=n
  · rw [decide_eq_true hh,hh]; simp
  · rw [decide_eq_false hh,beq_eq_false_iff_ne]; exact hh
 refine za3 (fun s h'=>h'=h4∧s.1=decide (c.kind=1∨c.kind=9)) ?_ ?_
 · rintro ⟨b,_⟩ h4 ⟨rfl,hb⟩
   simp only at hb
   subst hb
   refine za0 (fun e=>?_) (fun e1=>?_)
   · rw [if_pos e] at hk'; exact hk' _ rfl
   rw [if_neg e1] at hk'
   refine za7 (fun e=>?_) (fun e2=>?_)
   · rw [if_pos e] at hk'; exact hk' _ rfl
   rw [if_neg e2] at hk'
   refine za3 (fun s h'=>h'=h4∧s.1=decide (c.kind=3∨c.kind=6∨c.kind=11∨c.kind=12)) ?_ ?_
   · rintro ⟨b,_⟩ h4 ⟨rfl,hb⟩
     simp only at hb
     subst hb
     refine za0 (fun e=>?_) (fun e3=>?_)
     · rw [if_pos e] at hk'; exact hk' _ rfl
     rw [if_neg e3] at hk'
     refine za7 (fun e=>?_) (fun e4=>?_)
     · rw [if_pos e] at hk'
       refine hr6.get 0 rfl hlen0 ?_
       rw [hget0]
       refine za7 (fun h5=>hk' _ ?_) (fun h5=>hk' _ ?_)
       · have:i0=0:=by omega
         subst this
         rw [if_pos hi1]
       · rw [if_neg (hi2 0 (by omega))]
     rw [if_neg e4] at hk'
     refine za7 (fun e=>?_) (fun e5=>?_)
     · rw [if_pos e] at hk'
       refine hr6.get 0 rfl hlen0 ?_
       rw [hget0]
       refine za0 (fun h5=>hk' _ ?_) (fun h5=>hk' _ ?_)
       · have h5:(i0:Int)<2:=h5
         rcases (by omega:i0=0∨i0=1) with rfl | rfl
         · rw [if_pos (.inl hi1)]
         · rw [if_pos (.inr hi1)]
       · have h5:¬(i0:Int)<2:=h5
         rw [if_neg]
         rintro (hh | hh)
         · exact hi2 0 (by omega) hh
         · exact hi2 1 (by omega) hh
     rw [if_neg e5] at hk'
     have hc2:((r6.len:Int)==2)=decide (cnt c.pts t=2):=by
      rw [hr,hpl]
      by_cases hh:cnt c.pts t=2
      · rw [decide_eq_true hh,hh]; rfl
      · rw [decide_eq_false hh,beq_eq_false_iff_ne]; omega
     rw [hc2]
     refine za3 (fun s h'=>h'=h4∧s.1=decide (c.kind=5∨c.kind=7)) ?_ ?_
     · rintro ⟨b,_⟩ h4 ⟨rfl,hb⟩
       simp only at hb
       subst hb
       refine za0 (fun e=>?_) (fun e6=>?_)
       · rw [if_pos e] at hk'
         exact za0 (fun h5=>hk' _ (by rw [if_pos h5])) (fun h5=>hk' _ (by rw [if_neg h5]))
       rw [if_neg e6] at hk'
       refine za7 (fun e=>?_) (fun e7=>?_)
       · rw [if_pos e] at hk'
         exact za0 (fun h5=>hk' _ (by rw [if_pos h5])) (fun h5=>hk' _ (by rw [if_neg h5]))
       rw [if_neg e7] at hk'
       exact hk' _ rfl
     · rw [dk 5,dk 7]
       refine za0 (fun e=>⟨rfl,?_⟩) (fun e=>⟨rfl,?_⟩)
       · rw [decide_eq_true e,decide_eq_true (Or.inl e)]
       · exact decide_eq_decide.2 (by omega)
   · rw [dk 3,dk 6,dk 11,dk 12]
     refine za0 (fun e=>⟨rfl,?_⟩) (fun e=>za0 (fun e2=>⟨rfl,?_⟩) (fun e2=>za0 (fun e3=>⟨rfl,?_⟩) (fun e3=>⟨rfl,?_⟩)))
     all_goals exact decide_eq_decide.2 (by omega)
 · rw [dk 1,dk 9]
   refine za0 (fun e=>⟨rfl,?_⟩) (fun e=>⟨rfl,?_⟩)
   all_goals exact decide_eq_decide.2 (by omega)
end
end Den
end

section
namespace Den
open Go Iv Lx
section
variable {h : Hp} {x : TConstraint} {c : PCon} {cs : List Int} {ce : Sl} {t k : Int} {Kb : Bool → Hp → Prop} {Ki : Int → Hp → Prop} {Ks : Sl → Hp → Prop}
theorem zxf (hv:lenC c) (hm:k∈c.cir):c.kind=13∨c.kind=14∨c.kind=15∨c.kind=16∨c.kind=17:=by
 obtain ⟨v1,v2,v3,v4,_⟩:=hv
 have h1:c.cir.length≠0:=fun hh=>by rw [List.eq_nil_of_length_eq_zero hh] at hm; cases hm
 apply Classical.byContradiction
 intro hn
 have:(shK c.kind).2.1=0:=by
  rcases (by omega:c.kind=1∨c.kind=2∨c.kind=3∨c.kind=4∨c.kind=5∨c.kind=6∨c.kind=7∨c.kind=8∨c.kind=9∨c.kind=10∨c.kind=11∨c.kind=12) with e | e | e | e | e | e | e | e | e | e | e | e<;>rw [e]<;>rfl
 omega
theorem zadn (hv:lenC c) (hm:k∈c.cir) (hk:c.kind=13∨c.kind=16):c.cir=[k]:=by
 obtain ⟨v1,v2,v3,v4,_⟩:=hv
 have:c.cir.length=1:=by rcases hk with e | e<;>rw [v2,e]<;>rfl
 obtain ⟨a,ha⟩:=List.length_eq_one_iff.1 this
 rw [ha] at hm ⊢
 rw [List.mem_singleton.1 hm]
theorem za38 (hx:CO h x c) (hc:IL h ce cs) (hs:sC c) (hok:cirOk c cs) (hv:lenC c) (H:∀b h',h.le h'→(b=true↔sizesP c cs k)→Kb b h'):callP (F.zl9 x ce k) Kb h:=by
 refine za1 (fun b h'=>b=true↔sizesP c cs k) (fun K' hk=>?_) fun b h' hl hb=>H b h' hl hb
 unfold F.zl9
 have x1:=hx.1
 have x5:=hx.2.2.2.2
 refine ztq hx.2.2.1 (by have:=hs.2.1; omega) fun r h1 hl1 hr=>?_
 have no:∀h',h.le h'→¬sizesP c cs k→K' false h':=fun h' hl hn=>hk _ _ hl ⟨fun hh=>(by cases hh),fun hh=>absurd hh hn⟩
 refine za0 (fun h2=>no _ hl1 fun hh=>?_) (fun h2=>?_)
 · have:=hr.2 hh.1; omega
 have hm:=hr.1 (by omega)
 have hkd:=zxf hv hm
 have hkk:=hok _ hm
 have dk:∀(n:Int),(c.kind==n)=decide (c.kind=n):=fun n=>by
  by_cases hh:c.kind=n
  · rw [decide_eq_true hh,hh]; simp
  · rw [decide_eq_false hh,beq_eq_false_iff_ne]; exact hh
 rw [x1,x5]
 unfold sizesP at hk no
 refine za3 (fun s h'=>h'=h1∧s.1=decide (c.kind=14∨c.kind=15)) ?_ ?_
 · rintro ⟨b,_⟩ h1 ⟨rfl,hb⟩
   simp only at hb
   subst hb
   refine za0 (fun e=>hk _ _ hl1 ⟨fun _=>⟨hm,?_⟩,fun _=>rfl⟩) (fun e1=>?_)
   · rw [if_neg (by omega),if_neg (by omega)]; trivial
   refine za3 (fun s h'=>h'=h1∧s.1=decide (c.kind=13∨c.kind=16)) ?_ ?_
   · rintro ⟨b,_⟩ h1 ⟨rfl,hb⟩
     simp only at hb
     subst hb
     refine za0 (fun e=>?_) (fun e2=>?_)
     · rw [if_pos e] at hk no
       refine (hc.le hl1).get k.toNat (by omega) (by omega) ?_
       refine zd7 (hx.2.1.le hl1) (by have:=hs.1; omega) fun h3 hl3=>hk _ _ (Hp.le_trans hl1 hl3) ?_
       rw [zb9 (show k.toNat<cs.length by omega)]
       by_cases g:cs[k.toNat]∈c.pts
       · rw [decide_eq_true g]
         exact ⟨fun hh=>(by cases hh),fun hh=>absurd g hh.2⟩
       · rw [decide_eq_false g]
         exact ⟨fun _=>⟨hm,g⟩,fun _=>rfl⟩
     · rw [if_neg e2] at hk no
       refine za7 (fun e17=>?_) (fun e17=>by omega)
       rw [if_pos e17] at hk no
       refine za7 (fun e5=>?_) (fun e5=>no _ hl1 fun hh=>e5 hh.2.1)
       refine zrc (i:=0) (hx.le hl1) (hc.le hl1) hok (by rw [hv.2.1,e17]; decide) ?_
       refine zrc (i:=1) (hx.le hl1) (hc.le hl1) hok (by rw [hv.2.1,e17]; decide) ?_
       refine hk _ _ hl1 ?_
       rw [bne_iff_ne]
       exact ⟨fun hh=>⟨hm,e5,hh⟩,fun hh=>hh.2.2⟩
   · rw [dk 13,dk 16]
     refine za0 (fun e=>⟨rfl,?_⟩) (fun e=>⟨rfl,?_⟩)
     all_goals exact decide_eq_decide.2 (by omega)
 · rw [dk 14,dk 15]
   refine za0 (fun e=>⟨rfl,?_⟩) (fun e=>⟨rfl,?_⟩)
   all_goals exact decide_eq_decide.2 (by omega)
theorem zfe {i:Nat} (hx:CO h x c) (hc:IL h ce cs) (hok:cirOk c cs) (hi:i<c.cir.length) (H:Ki (cAt cs c i) h):callP (F.zd5 x ce (i:Int)) Ki h:=by
 refine zae _ (fun K' hk=>?_) H
 unfold F.zd5
 exact zrc hx hc hok hi hk
theorem zub (hx:CO h x c) (hs:sC c) (H:∀h',h.le h'→Kb (decide (t∈c.pts)) h'):callP (F.znk x t) Kb h:=by
 refine za1 (fun b h'=>b=decide (t∈c.pts)) (fun K' hk=>?_) fun b h' hl hb=>by subst hb; exact H h' hl
 have key:=zs9 (l:=x.points) (n:=t) (Kb:=K') hx.2.1 (by have:=hs.1; omega) fun h' hl=>hk _ _ hl rfl
 obtain ⟨D,O,Q,h1,h2,h3,h4⟩:=key
 unfold F.znk
 have hl:=hx.2.1.len
 have s1:=hs.1
 refine zbe (n:=c.pts.length) (by omega) (fun i h'=>h'=h∧t∉c.pts.take i) ⟨rfl,by simp⟩ ?_
 rintro i h hi ⟨rfl,hno⟩ k hk2
 refine za0 (fun h1=>?_) (fun h1=>?_)
 · have hi':i<c.pts.length:=by simp only at h1; omega
   refine hx.2.1.get i rfl hi' ?_
   refine za7 (fun h2=>hk _ _ (Hp.le_refl _) ?_) (fun h2=>hk2 _ hi' ⟨rfl,?_⟩)
   · rw [eq_comm,decide_eq_true_iff,←h2]; exact List.getElem_mem _
   · rw [←List.take_append_getElem hi',List.mem_append,List.mem_singleton]
     rintro (h3 | h3)
     · exact hno h3
     · exact h2 h3.symm
 · refine hk _ _ (Hp.le_refl _) ?_
   have:i=c.pts.length:=by simp only at h1; omega
   subst this
   rw [List.take_length] at hno
   rw [eq_comm,decide_eq_false_iff_not]; exact hno
theorem za1n (hx:CO h x c) (hc:IL h ce cs) (hs:sC c) (hok:cirOk c cs) (hv:lenC c) (H:∀b h',h.le h'→(b=true↔sizesP c cs k)→Kb b h'):callP (F.zlh x ce k) Kb h:=by
 refine za1 (fun b h'=>b=true↔sizesP c cs k) (fun K' hk=>?_) fun b h' hl hb=>H b h' hl hb
 unfold F.zlh
 have x1:=hx.1
 have x5:=hx.2.2.2.2
 have hl:=hx.2.2.1.len
 have s2:=hs.2.1
 have no:∀h',h.le h'→¬sizesP c cs k→K' false h':=fun h' hl hn=>hk _ _ hl ⟨fun hh=>(by cases hh),fun hh=>absurd hh hn⟩
 refine zbx (n:=c.cir.length) (by omega) (fun i b h'=>h'=h∧(b=true↔k∈c.cir.take i)) ⟨rfl,by simp⟩ ?_
 rintro i b h hi ⟨rfl,hb⟩ kk hk2
 refine za0 (fun h1=>?_) (fun h1=>?_)
 · have hi':i<c.cir.length:=by simp only at h1; omega
   have e:k∈c.cir.take (i+1)↔k∈c.cir.take i∨c.cir[i]=k:=by
    rw [←List.take_append_getElem hi',List.mem_append,List.mem_singleton]
    exact or_congr_right eq_comm
   refine za3 (fun s h'=>h'=h∧(s.1=true↔k∈c.cir.take (i+1))) (fun s h' hs=>hk2 _ _ hi' hs) ?_
   refine za2 (fun h2=>⟨rfl,?_⟩) (fun h2=>?_)
   · rw [e]; exact ⟨fun _=>.inl (hb.1 h2),fun _=>rfl⟩
   · refine hx.2.2.1.get i rfl hi' ⟨rfl,?_⟩
     rw [e,beq_iff_eq]
     exact ⟨fun hh=>.inr hh,fun hh=>hh.resolve_left fun h3=>by simp only at h2; rw [hb.2 h3] at h2; cases h2⟩
 · have:i=c.cir.length:=by simp only at h1; omega
   subst this
   rw [List.take_length] at hb
   refine za2 (fun h2=>no _ (Hp.le_refl _) fun hh=>?_) (fun h2=>?_)
   · simp only at h2
     rw [hb.2 hh.1] at h2; cases h2
   have hm:k∈c.cir:=hb.1 (by simpa using h2)
   have hkd:=zxf hv hm
   have dk:∀(n:Int),(c.kind==n)=decide (c.kind=n):=fun n=>by
    by_cases hh:c.kind=n
    · rw [decide_eq_true hh,hh]; simp
    · rw [decide_eq_false hh,beq_eq_false_iff_ne]; exact hh
   rw [x1,x5]
   unfold sizesP at hk no
   refine za3 (fun s h'=>h'=h∧s.1=decide (c.kind=13∨c.kind=16)) ?_ ?_
   · rintro ⟨b,_⟩ h ⟨rfl,hb⟩
     simp only at hb
     subst hb
     refine za0 (fun e=>?_) (fun e2=>?_)
     · rw [if_pos e] at hk no
       have h1c:=zadn hv hm e
       have hcz:cAt cs c 0=cs.getD k.toNat 0:=by unfold cAt; rw [h1c]; rfl
       refine zfe (i:=0) hx hc hok (by rw [h1c]; simp) ?_
       rw [hcz]
       refine zub hx hs fun h3 hl3=>hk _ _ hl3 ?_
       by_cases g:cs.getD k.toNat 0∈c.pts
       · rw [decide_eq_true g]
         exact ⟨fun hh=>(by cases hh),fun hh=>absurd g hh.2⟩
       · rw [decide_eq_false g]
         exact ⟨fun _=>⟨hm,g⟩,fun _=>rfl⟩
     · rw [if_neg e2] at hk no
       refine za7 (fun e17=>?_) (fun e17=>hk _ _ (Hp.le_refl _) ⟨fun _=>⟨hm,?_⟩,fun _=>rfl⟩)
       · rw [if_pos e17] at hk no
         refine za7 (fun e5=>?_) (fun e5=>no _ (Hp.le_refl _) fun hh=>e5 hh.2.1)
         refine zfe (i:=0) hx hc hok (by rw [hv.2.1,e17]; decide) ?_
         refine zfe (i:=1) hx hc hok (by rw [hv.2.1,e17]; decide) ?_
         refine hk _ _ (Hp.le_refl _) ?_
         rw [bne_iff_ne]
         exact ⟨fun hh=>⟨hm,e5,hh⟩,fun hh=>hh.2.2⟩
       · rw [if_neg e17]; trivial
   · rw [dk 13,dk 16]
     refine za0 (fun e=>⟨rfl,?_⟩) (fun e=>⟨rfl,?_⟩)
     all_goals exact decide_eq_decide.2 (by omega)
theorem zok {i:Nat} (hx:CO h x c) (hi:i+1<c.pts.length) (hs:sC c) (H:∀b,(b=true↔c.pts[i]?=some t∨c.pts[i+1]?=some t)→Kb b h):callP (F.zjs x (i:Int) t) Kb h:=by
 refine za1 (fun b h'=>h'=h∧(b=true↔c.pts[i]?=some t∨c.pts[i+1]?=some t)) (fun K' hk=>?_) fun b h' _ hb=>by obtain ⟨rfl,hb⟩:=hb; exact H b hb
 unfold F.zjs
 have s1:=hs.1
 rw [List.getElem?_eq_getElem (show i<c.pts.length by omega),List.getElem?_eq_getElem hi] at hk
 simp only [Option.some.injEq] at hk
 refine hx.2.1.get i rfl (by omega) ?_
 refine za7 (fun h1=>hk _ _ (Hp.le_refl _) ⟨rfl,fun _=>.inl h1,fun _=>rfl⟩) (fun h1=>?_)
 refine hx.2.1.get (i+1) (by rw [w64 (by omega)]; rfl) hi (hk _ _ (Hp.le_refl _) ⟨rfl,?_⟩)
 rw [beq_iff_eq]
 exact ⟨fun hh=>.inr hh,fun hh=>hh.resolve_left h1⟩
theorem zph {a:Int} {l:List Int}:cnt (a :: l) t=(if a=t then 1 else 0)+cnt l t:=by
 unfold cnt
 rw [List.filter_cons]
 by_cases h:a=t
 · rw [if_pos (by simpa using h),if_pos h,List.length_cons]; omega
 · rw [if_neg (by simpa using h),if_neg h]; omega
theorem za1q {one both:Int} (hx:CO h x c) (hlen:c.pts.length=4) (hs:sC c) (hP:PairsP c.pts) (H:Ki (if cnt c.pts t=2 then both else if t∈c.pts then one else 0) h):callP (F.zg1 x t one both) Ki h:=by
 refine zae _ (fun K' hk=>?_) H
 unfold F.zg1
 match hp:c.pts,hlen with
 | [p0,p1,p2,p3],_=>
 rw [hp] at hP hk
 unfold PairsP at hP
 obtain ⟨n1,n2,_,_⟩:=hP
 refine zok (i:=0) hx (by rw [hp]; simp) hs fun b1 hb1=>zok (i:=2) hx (by rw [hp]; simp) hs fun b2 hb2=>?_
 rw [hp] at hb1 hb2
 simp only [List.getElem?_cons_zero,List.getElem?_cons_succ,Option.some.injEq] at hb1 hb2
 have hcnt:cnt [p0,p1,p2,p3] t=(if b1=true then 1 else 0)+(if b2=true then 1 else 0):=by
  have e1:(if b1=true then 1 else 0:Nat)=(if p0=t then 1 else 0)+(if p1=t then 1 else 0):=by
   by_cases g0:p0=t<;>by_cases g1:p1=t
   · exact absurd (g0.trans g1.symm) n1
   · rw [if_pos (hb1.2 (.inl g0)),if_pos g0,if_neg g1]
   · rw [if_pos (hb1.2 (.inr g1)),if_neg g0,if_pos g1]
   · rw [if_neg (fun hh=>(hb1.1 hh).elim g0 g1),if_neg g0,if_neg g1]
  have e2:(if b2=true then 1 else 0:Nat)=(if p2=t then 1 else 0)+(if p3=t then 1 else 0):=by
   by_cases g0:p2=t<;>by_cases g1:p3=t
   · exact absurd (g0.trans g1.symm) n2
   · rw [if_pos (hb2.2 (.inl g0)),if_pos g0,if_neg g1]
   · rw [if_pos (hb2.2 (.inr g1)),if_neg g0,if_pos g1]
   · rw [if_neg (fun hh=>(hb2.1 hh).elim g0 g1),if_neg g0,if_neg g1]
  rw [e1,e2]
  rw [zph,zph,zph,zph]
  simp only [cnt,List.filter_nil,List.length_nil]
  omega
 have hmem:t∈[p0,p1,p2,p3]↔b1=true∨b2=true:=by
  rw [hb1,hb2]
  simp only [List.mem_cons,List.not_mem_nil,or_false]
  constructor
  · rintro (g | g | g | g)
    · exact .inl (.inl g.symm)
    · exact .inl (.inr g.symm)
    · exact .inr (.inl g.symm)
    · exact .inr (.inr g.symm)
  · rintro ((g | g) | (g | g))
    · exact .inl g.symm
    · exact .inr (.inl g.symm)
    · exact .inr (.inr (.inl g.symm))
    · exact .inr (.inr (.inr g.symm))
 rw [hcnt] at hk
 refine za3 (fun _ h'=>h'=h∧¬(b1=true∧b2=true)) ?_ ?_
 · rintro _ h ⟨rfl,hn⟩
   cases b1 with
   | true=>
     cases b2 with
     | true=>exact absurd ⟨rfl,rfl⟩ hn
     | false=>
       refine zbb rfl ?_
       rw [if_pos (hmem.2 (.inl rfl))] at hk
       simpa using hk
   | false=>
     cases b2 with
     | true=>
       refine zak rfl (zbb rfl ?_)
       rw [if_pos (hmem.2 (.inr rfl))] at hk
       simpa using hk
     | false=>
       refine zak rfl (zak rfl ?_)
       rw [if_neg (c:=t∈_) (fun hh=>by simpa using hmem.1 hh)] at hk
       simpa using hk
 · refine za2 (fun h1=>za2 (fun h2=>?_) (fun h2=>⟨rfl,fun hh=>by rw [hh.2] at h2; cases h2⟩)) (fun h1=>⟨rfl,fun hh=>by rw [hh.1] at h1; cases h1⟩)
   rw [h1,h2] at hk
   simpa using hk
def frm:Int→Int:=fun k=>if k=3 then 1 else if k=1 then 3 else if k=2 then 2 else 0
theorem za49 (hx:CO h x c) (hc:IL h ce cs) (hs:sC c) (hok:cirOk c cs) (hv:lenC c) (H:∀h',h.le h'→Ki (frm (kindP c cs t)) h'):callP (F.zms x ce t) Ki h:=by
 refine za1 (fun r h'=>r=frm (kindP c cs t)) (fun K' hk=>?_) fun b h' hl hb=>by subst hb; exact H h' hl
 unfold F.zms
 obtain ⟨v1,v2,v3,v4,v5,v6⟩:=hv
 have x1:=hx.1
 have s1:=hs.1
 refine zub hx hs fun h1 hl1=>?_
 have dk:∀(n:Int),(c.kind==n)=decide (c.kind=n):=fun n=>by
  by_cases hh:c.kind=n
  · rw [decide_eq_true hh,hh]; simp
  · rw [decide_eq_false hh,beq_eq_false_iff_ne]; exact hh
 rw [x1]
 have hx1:=hx.le hl1
 have hc1:=hc.le hl1
 have hk':∀r,r=frm (kindP c cs t)→K' r h1:=fun r hr=>hk _ _ hl1 hr
 have no13:∀n:Int,n≠13→n≠16→n≠17→c.kind=n→kindP c cs t=(if t∉c.pts then 0
 else if c.kind=1∨c.kind=9 then 3
 else if c.kind=2 then 2
 else if c.kind=3∨c.kind=6∨c.kind=11∨c.kind=12 then 1
 else if c.kind=4 then (if c.pts[0]?=some t then 1 else 0)
 else if c.kind=10 then (if c.pts[0]?=some t∨c.pts[1]?=some t then 3 else 0)
 else if c.kind=5∨c.kind=7 then (if cnt c.pts t=2 then 2 else 1)
 else if c.kind=8 then (if cnt c.pts t=2 then 1 else 2)
 else 0):=fun n h1 h2 h3 hn=>by
  unfold kindP
  rw [if_neg (by omega),if_neg (by omega),if_neg (by omega)]
 have simple:∀v w:Int,(t∈c.pts→kindP c cs t=w)→(t∉c.pts→kindP c cs t=0)→frm w=v→ifP (decide (t∈c.pts)) (K' v h1) (K' 0 h1):=fun v w g1 g2 g3=>
  za0 (fun hm=>hk' _ (by rw [g1 hm,g3])) (fun hm=>hk' _ (by rw [g2 hm]; rfl))
 have cnt0:∀l:List Int,t∉l→cnt l t=0:=fun l hl=>Classical.byContradiction fun hh=>hl (za2d.1 hh)
 refine za3 (fun s h'=>h'=h1∧s.1=decide (c.kind=1∨c.kind=9)) ?_ ?_
 · rintro ⟨b,_⟩ h1 ⟨rfl,hb⟩
   simp only at hb
   subst hb
   refine za0 (fun e=>?_) (fun e1=>?_)
   · refine simple 1 3 (fun hm=>?_) (fun hm=>?_) rfl
     · rw [no13 c.kind (by omega) (by omega) (by omega) rfl,if_neg (fun hh=>hh hm),if_pos e]
     · rw [no13 c.kind (by omega) (by omega) (by omega) rfl,if_pos hm]
   refine za7 (fun e=>?_) (fun e2=>?_)
   · refine simple 2 2 (fun hm=>?_) (fun hm=>?_) rfl
     · rw [no13 c.kind (by omega) (by omega) (by omega) rfl,if_neg (fun hh=>hh hm),if_neg e1,if_pos e]
     · rw [no13 c.kind (by omega) (by omega) (by omega) rfl,if_pos hm]
   refine za3 (fun s h'=>h'=h1∧s.1=decide (c.kind=3∨c.kind=11∨c.kind=12)) ?_ ?_
   · rintro ⟨b,_⟩ h1 ⟨rfl,hb⟩
     simp only at hb
     subst hb
     refine za0 (fun e=>?_) (fun e3=>?_)
     · refine simple 3 1 (fun hm=>?_) (fun hm=>?_) rfl
       · rw [no13 c.kind (by omega) (by omega) (by omega) rfl,if_neg (fun hh=>hh hm),if_neg e1,if_neg e2,if_pos (by omega)]
       · rw [no13 c.kind (by omega) (by omega) (by omega) rfl,if_pos hm]
     refine za7 (fun e=>?_) (fun e4=>?_)
     · have hl3:c.pts.length=3:=by rw [v1,e]; decide
       have kk:kindP c cs t=if c.pts[0]?=some t then 1 else 0:=by
        rw [no13 c.kind (by omega) (by omega) (by omega) rfl]
        by_cases hm:t∈c.pts
        · rw [if_neg (fun hh=>hh hm),if_neg e1,if_neg e2,if_neg (by omega),if_pos e]
        · rw [if_pos hm,if_neg]
          intro hh
          exact hm (List.mem_of_getElem? hh)
       have h0:0<c.pts.length:=by omega
       refine hx1.2.1.get 0 rfl h0 ?_
       rw [List.getElem?_eq_getElem h0] at kk
       refine za7 (fun h5=>hk' _ ?_) (fun h5=>hk' _ ?_)
       · rw [kk,if_pos (by rw [h5])]; rfl
       · rw [kk,if_neg (fun hh=>h5 (Option.some.inj hh))]; rfl
     have pr:∀(n:Int) (one both:Int),(n=5∨n=6∨n=7∨n=8)→c.kind=n→(frm (kindP c cs t)=if cnt c.pts t=2 then both else if t∈c.pts then one else 0)→callP (F.zg1 x t one both) K' h1:=fun n one both hn e hf=>by
      have h4:fourK c.kind:=by unfold fourK; omega
      refine za1q hx1 ?_ hs (v5 h4) (hk' _ hf.symm)
      unfold fourK at h4
      rw [v1]
      rcases h4 with e | e | e | e<;>rw [e]<;>rfl
     refine za3 (fun s h'=>h'=h1∧s.1=decide (c.kind=5∨c.kind=7)) ?_ ?_
     · rintro ⟨b,_⟩ h1 ⟨rfl,hb⟩
       simp only at hb
       subst hb
       refine za0 (fun e=>?_) (fun e5=>?_)
       · refine pr c.kind 3 2 (by omega) rfl ?_
         rw [no13 c.kind (by omega) (by omega) (by omega) rfl]
         by_cases hm:t∈c.pts
         · rw [if_neg (fun hh=>hh hm),if_neg e1,if_neg e2,if_neg (by omega),if_neg (by omega),if_neg (by omega),if_pos e,if_pos hm]
           split<;>rfl
         · rw [if_pos hm,cnt0 _ hm,if_neg (by decide),if_neg hm]; rfl
       refine za7 (fun e=>?_) (fun e6=>?_)
       · refine pr 6 3 3 (by omega) e ?_
         rw [no13 c.kind (by omega) (by omega) (by omega) rfl]
         by_cases hm:t∈c.pts
         · rw [if_neg (fun hh=>hh hm),if_neg e1,if_neg e2,if_pos (by omega),if_pos hm]
           split<;>rfl
         · rw [if_pos hm,cnt0 _ hm,if_neg (by decide),if_neg hm]; rfl
       refine za7 (fun e=>?_) (fun e8=>?_)
       · refine pr 8 2 3 (by omega) e ?_
         rw [no13 c.kind (by omega) (by omega) (by omega) rfl]
         by_cases hm:t∈c.pts
         · rw [if_neg (fun hh=>hh hm),if_neg e1,if_neg e2,if_neg (by omega),if_neg (by omega),if_neg (by omega),if_neg (by omega),if_pos e,if_pos hm]
           split<;>rfl
         · rw [if_pos hm,cnt0 _ hm,if_neg (by decide),if_neg hm]; rfl
       refine za7 (fun e=>?_) (fun e10=>?_)
       · have hl4:c.pts.length=4:=by rw [v1,e]; decide
         refine zok (i:=0) hx1 (by omega) hs fun b hb=>?_
         have kk:kindP c cs t=if c.pts[0]?=some t∨c.pts[1]?=some t then 3 else 0:=by
          rw [no13 c.kind (by omega) (by omega) (by omega) rfl]
          by_cases hm:t∈c.pts
          · rw [if_neg (fun hh=>hh hm),if_neg e1,if_neg e2,if_neg (by omega),if_neg (by omega),if_pos e]
          · rw [if_pos hm,if_neg]
            rintro (hh | hh)
            · exact hm (List.mem_of_getElem? hh)
            · exact hm (List.mem_of_getElem? hh)
         refine za2 (fun h5=>hk' _ ?_) (fun h5=>hk' _ ?_)
         · rw [kk,if_pos (hb.1 h5)]; rfl
         · rw [kk,if_neg (fun hh=>by rw [hb.2 hh] at h5; cases h5)]; rfl
       have db:∀i,(cAt cs c i==t)=decide (cAt cs c i=t):=fun i=>by
        by_cases hh:cAt cs c i=t
        · rw [decide_eq_true hh,hh]; simp
        · rw [decide_eq_false hh,beq_eq_false_iff_ne]; exact hh
       refine za7 (fun e=>?_) (fun e13=>?_)
       · refine zfe (i:=0) hx1 hc1 hok (by rw [v2,e]; decide) ?_
         rw [db 0]
         unfold kindP at hk'
         rw [if_pos e] at hk'
         refine za2 (fun h5=>hk' _ ?_) (fun h5=>hk' _ ?_)
         · rw [if_neg]
           · rfl
           · intro hh
             have e:decide (t∈c.pts)=decide (cAt cs c 0=t):=decide_eq_decide.2 hh
             rw [e] at h5
             simp at h5
         · rw [if_pos]
           · rfl
           · have h6:decide (t∈c.pts)=decide (cAt cs c 0=t):=by simpa using h5
             exact decide_eq_decide.1 h6
       refine za7 (fun e=>?_) (fun e16=>?_)
       · unfold kindP at hk'
         rw [if_neg e13,if_pos e] at hk'
         refine za2 (fun h5=>?_) (fun h5=>hk' _ ?_)
         · have hm:t∉c.pts:=by simpa using h5
           refine zfe (i:=0) hx1 hc1 hok (by rw [v2,e]; decide) ?_
           refine za7 (fun h6=>hk' _ ?_) (fun h6=>hk' _ ?_)
           · rw [if_pos ⟨h6,hm⟩]; rfl
           · rw [if_neg (fun hh=>h6 hh.1)]; rfl
         · have hm:t∈c.pts:=by simpa using h5
           rw [if_neg (fun hh=>hh.2 hm)]; rfl
       refine za7 (fun e=>?_) (fun e17=>?_)
       · unfold kindP at hk'
         rw [if_neg e13,if_neg e16,if_pos e] at hk'
         refine zfe (i:=0) hx1 hc1 hok (by rw [v2,e]; decide) ?_
         refine zfe (i:=1) hx1 hc1 hok (by rw [v2,e]; decide) ?_
         rw [db 0,db 1]
         refine za2 (fun h5=>hk' _ ?_) (fun h5=>hk' _ ?_)
         · rw [if_neg]
           · rfl
           · intro hh
             have e:decide (cAt cs c 0=t)=decide (cAt cs c 1=t):=decide_eq_decide.2 hh
             rw [e] at h5
             simp at h5
         · rw [if_pos]
           · rfl
           · have h6:decide (cAt cs c 0=t)=decide (cAt cs c 1=t):=by simpa using h5
             exact decide_eq_decide.1 h6
       · refine hk' _ ?_
         have e14:c.kind=14∨c.kind=15:=by omega
         have hp0:c.pts=[]:=List.eq_nil_of_length_eq_zero (by rw [v1]; rcases e14 with e | e<;>rw [e]<;>rfl)
         rw [no13 c.kind (by omega) (by omega) (by omega) rfl,if_pos (by rw [hp0]; simp)]
         rfl
     · rw [dk 5,dk 7]
       refine za0 (fun e=>⟨rfl,?_⟩) (fun e=>⟨rfl,?_⟩)
       all_goals exact decide_eq_decide.2 (by omega)
   · rw [dk 3,dk 11,dk 12]
     refine za0 (fun e=>⟨rfl,?_⟩) (fun e=>za0 (fun e2=>⟨rfl,?_⟩) (fun e2=>⟨rfl,?_⟩))
     all_goals exact decide_eq_decide.2 (by omega)
 · rw [dk 1,dk 9]
   refine za0 (fun e=>⟨rfl,?_⟩) (fun e=>⟨rfl,?_⟩)
   all_goals exact decide_eq_decide.2 (by omega)
def R03 (r:Int):Prop:=r=0∨r=1∨r=2∨r=3
theorem ite_R {p:Prop} [Decidable p] {a b:Int} (ha:R03 a) (hb:R03 b):R03 (if p then a else b):=by split<;>assumption
theorem za3s:R03 (kindP c cs t):=by
 have h0:R03 0:=.inl rfl
 have h1:R03 1:=.inr (.inl rfl)
 have h2:R03 2:=.inr (.inr (.inl rfl))
 have h3:R03 3:=.inr (.inr (.inr rfl))
 unfold kindP
 exact ite_R (ite_R h0 h2) (ite_R (ite_R h1 h0) (ite_R (ite_R h0 h2) (ite_R h0 (ite_R h3 (ite_R h2 (ite_R h1 (ite_R (ite_R h1 h0) (ite_R (ite_R h3 h0) (ite_R (ite_R h2 h1) (ite_R (ite_R h1 h2) h0))))))))))
theorem za44 (hx:CO h x c) (hc:IL h ce cs) (hs:sC c) (hok:cirOk c cs) (hv:lenC c) (H:∀h',h.le h'→Ki (kindP c cs t) h'):callP (F.zmr x ce t) Ki h:=by
 refine za1 (fun r h'=>r=kindP c cs t) (fun K' hk=>?_) fun b h' hl hb=>by subst hb; exact H h' hl
 unfold F.zmr
 refine zg9 fun p1 h1 hl1 c1=>?_
 have hr:IL h1 ⟨some p1,4,4⟩ [0,3,2,1]:=⟨zdn (cells:=[ic 0,ic 3,ic 2,ic 1]) c1 rfl,Nat.le_refl _⟩
 refine za49 (hx.le hl1) (hc.le hl1) hs hok hv fun h2 hl2=>?_
 have hle:=Hp.le_trans hl1 hl2
 rcases za3s (c:=c) (cs:=cs) (t:=t) with e | e | e | e<;>rw [e] at hk ⊢
 · exact (hr.le hl2).get 0 rfl (by decide) (hk _ _ hle rfl)
 · exact (hr.le hl2).get 3 rfl (by decide) (hk _ _ hle rfl)
 · exact (hr.le hl2).get 2 rfl (by decide) (hk _ _ hle rfl)
 · exact (hr.le hl2).get 1 rfl (by decide) (hk _ _ hle rfl)
end
end Den
end

section
namespace Den
open Go Iv Lx
def its (S:PSk):List (List Int):=(allC S).map fun c=>itemsC c (cens S)
theorem zdw {S:PSk}:(its S).length=(allC S).length:=by simp [its]
theorem zyk (k:Int):eqK k≤2:=by
 unfold eqK shK
 split
 · have:∀i:Nat,(tabK.getD i (0,0,0,0,false)).2.2.2.1≤2:=by
    intro i
    rcases Nat.lt_or_ge i 17 with h | h
    · have:∀i:Fin 17,(tabK.getD i (0,0,0,0,false)).2.2.2.1≤2:=by decide
      exact this ⟨i,h⟩
    · rw [List.getD_eq_getElem?_getD,List.getElem?_eq_none (by exact h)]; decide
   exact this _
 · decide
theorem zt1 {L:List PCon} {l:List Int} {i:Int}:wtL L (l++[i])=wtL L l+eqK (L.getD i.toNat dC).kind:=by simp [wtL]
theorem za0i {L:List PCon}:∀l:List Int,wtL L l≤2*l.length
 | []=>by simp [wtL]
 | a :: r=>by
   have h1:=za0i (L:=L) r
   have h2:=zyk (L.getD a.toNat dC).kind
   unfold wtL at h1 ⊢
   simp only [List.map_cons,List.sum_cons,List.length_cons]
   omega
theorem zadw {its:List (List Int)} {item:Int} {R:List Int}:(remL its item R).length≤its.length:=zsw _ _ _ _
theorem zadx {its:List (List Int)} {item:Int} {R:List Int} {j:Int} (h:j∈remL its item R):∃k:Nat,k<its.length∧j=k∧keepP (its.getD k []) item R:=zsx.1 h
section
variable {h : Hp} {s : TSketch} {S : PSk} {p : Addr} {item : Int} {R : List Int} {rs : Sl} {Kb : Bool → Hp → Prop} {Ki : Int → Hp → Prop} {Ks : Sl → Hp → Prop}
theorem za23 {n m:Nat} {D:Hp} {K:Sl→Hp→Prop} (hn:n≤1000) (hm:m≤1000) (H:∀y h',OI D h' y (allI n m)→K y h') {y:Sl} {h1:Hp} (ho:OI D h1 y ((List.range n).map fun i:Nat=>(i:Int))) :
 (loopP (S:=Sl×Int×Unit) (fun s8 k9 h3=>
 (ifP (decide (s8.2.1<(m:Int)))
 (appP 1 8 [.int .i64 0] s8.1 1 [.int .i64 (IntKind.i64.wrap ((-1)-s8.2.1))] (fun w10 h4=>
 (k9 (w10,(IntKind.i64.wrap (s8.2.1+1)),()) h4)) h3)
 (K s8.1 h3)))
 (y,0,()) h1):=by
  refine zbx (n:=m) (by omega) (fun i y h'=>OI D h' y ((List.range n).map (fun i:Nat=>(i:Int))++(List.range i).map fun i:Nat=>-1-(i:Int))) (by simpa using ho) ?_
  intro i z h2 hi ho2 k hk2
  refine za0 (fun h3=>?_) (fun h3=>?_)
  · have hi':i<m:=by simp only at h3; omega
    simp only
    rw [show IntKind.i64.wrap (-1-(i:Int))=-1-(i:Int) from w64 (by omega)]
    refine ho2.app (by simp; omega) fun w h4 ho4=>hk2 _ _ hi' ?_
    rw [List.range_succ,List.map_append,←List.append_assoc]
    exact ho4
  · have:i=m:=by simp only at h3; omega
    subst this
    exact H _ _ ho2
theorem zad3 {n:Nat} {D:Hp} {K:Sl→Hp→Prop} (hn:n≤1000) (H:∀y h',OI D h' y ((List.range n).map fun i:Nat=>(i:Int))→K y h') :
 (loopP (S:=Sl×Int×Unit) (fun s3 k4 h1=>
 (ifP (decide (s3.2.1<(n:Int)))
 (appP 1 8 [.int .i64 0] s3.1 1 [.int .i64 s3.2.1] (fun w5 h2=>
 (k4 (w5,(IntKind.i64.wrap (s3.2.1+1)),()) h2)) h1)
 (K s3.1 h1)))
 (nilS,0,()) D):=by
  refine zbx (n:=n) (by omega) (fun i y h'=>OI D h' y ((List.range i).map fun i:Nat=>(i:Int))) OI.nil ?_
  intro i z h2 hi ho2 k hk2
  refine za0 (fun h3=>?_) (fun h3=>?_)
  · have hi':i<n:=by simp only at h3; omega
    refine ho2.app (by simp; omega) fun w h4 ho4=>hk2 _ _ hi' ?_
    rw [List.range_succ,List.map_append]
    exact ho4
  · have:i=n:=by simp only at h3; omega
    subst this
    exact H _ _ ho2
theorem za1k (hx:SK h s S) (hs:sSk S) (H:∀y h',h.le h'→OI h h' y (allI S.pts.length S.cir.length)→Ks y h'):callP (F.zwa s) Ks h:=by
 refine za1 (fun y h'=>OI h h' y (allI S.pts.length S.cir.length)) (fun K' hk=>?_) fun b h' hl hb=>H b h' hl hb
 unfold F.zwa
 rw [hx.1.len zd4,hx.2.1.len zd6]
 have:=hs.1
 have:=hs.2.1
 exact zad3 (n:=S.pts.length) (by omega) fun y h' ho=>za23 (n:=S.pts.length) (m:=S.cir.length) (by omega) (by omega) (fun z h2 ho2=>hk _ _ ho2.dle ho2) ho
theorem zs6 (hx:SK h s S) (hs:sSk S) (H:∀y h',h.le h'→OI h h' y (allI S.pts.length S.cir.length)→Ks y h'):callP (F.zo7 s) Ks h:=za1k hx hs H
theorem zqs (hp:PR h p S) (hs:sSk S) (H:∀y h',h.le h'→OI h h' y (allI S.pts.length S.cir.length)→Ks y h'):callP (F.y_henneberg_peeler_all (some p)) Ks h:=by
 refine za1 (fun y h'=>OI h h' y (allI S.pts.length S.cir.length)) (fun K' hk=>?_) fun b h' hl hb=>H b h' hl hb
 unfold F.y_henneberg_peeler_all
 obtain ⟨s,lS,itS,ceS,hx,hc,_⟩:=hp
 have l1:=hx.1.len zd4
 have l2:=hx.2.1.len zd6
 have:=hs.1
 have:=hs.2.1
 simp only [zch,Nat.zero_add]
 refine ⟨_,hc 0 _ rfl,?_⟩
 simp only
 rw [l1]
 refine zbx (n:=S.pts.length) (by omega) (fun i y h'=>OI h h' y ((List.range i).map fun i:Nat=>(i:Int))) OI.nil ?_
 intro i y h2 hi ho k hk2
 refine za0 (fun h3=>?_) (fun h3=>?_)
 · have hi':i<S.pts.length:=by simp only at h3; omega
   refine ho.app (by simp; omega) fun w h4 ho4=>hk2 _ _ hi' ?_
   rw [List.range_succ,List.map_append]
   exact ho4
 have:i=S.pts.length:=by simp only at h3; omega
 subst this
 refine ⟨_,Hp.cell_le ho.dle (hc 1 _ rfl),?_⟩
 simp only
 rw [l2]
 exact za23 (n:=S.pts.length) (m:=S.cir.length) (by omega) (by omega) (fun z h2 ho2=>hk _ _ ho2.dle ho2) ho
theorem za17 (hp:PR h p S) (hs:sSk S) (hi:-9223372036854775808≤item∧item≤9223372036854775807) (H:∀b,(b=true↔item∈allI S.pts.length S.cir.length)→Kb b h):callP (F.y_henneberg_peeler_exists (some p) item) Kb h:=by
 refine za1 (fun b h'=>h'=h∧(b=true↔item∈allI S.pts.length S.cir.length)) (fun K' hk=>?_) fun b h' _ hb=>by obtain ⟨rfl,hb⟩:=hb; exact H b hb
 unfold F.y_henneberg_peeler_exists
 obtain ⟨s,lS,itS,ceS,hx,hc,_⟩:=hp
 have l1:=hx.1.len zd4
 have l2:=hx.2.1.len zd6
 have fin:∀b,(b=true↔(0≤item∧item<S.pts.length)∨(item<0∧-1-item<S.cir.length))→K' b h:=fun b hb=>hk _ _ (Hp.le_refl _) ⟨rfl,by rw [znb]; exact hb⟩
 simp only [zch,Nat.zero_add]
 have e1:IntKind.i64.wrap (-1-item)=-1-item:=w64 (by omega)
 refine za0 (fun h1=>?_) (fun h1=>za0 (fun h2=>?_) (fun h2=>?_))
 · refine ⟨_,hc 0 _ rfl,?_⟩
   simp only
   rw [l1]
   refine za0 (fun h2=>fin _ ⟨fun _=>.inl ⟨h1,h2⟩,fun _=>rfl⟩) (fun h2=>za0 (fun h3=>by omega) (fun h3=>fin _ ⟨fun hh=>(by cases hh),fun hh=>by omega⟩))
 · refine ⟨_,hc 1 _ rfl,fin _ ?_⟩
   rw [l2,e1,decide_eq_true_iff]
   omega
 · exact fin _ ⟨fun hh=>(by cases hh),fun hh=>by omega⟩
theorem zv3 (hp:PR h p S) (hs:sSk S) (hv:VS S) (hr:IL h rs R) (hR:R.length≤100000) (H:∀y h',h.le h'→OI h h' y (remL (its S) item R)→Ks y h'):callP (F.y_henneberg_peeler_remaining (some p) item rs) Ks h:=by
 refine za1 (fun y h'=>OI h h' y (remL (its S) item R)) (fun K' hk=>?_) fun b h' hl hb=>H b h' hl hb
 unfold F.y_henneberg_peeler_remaining
 obtain ⟨s,lS,itS,ceS,hx,hc,hL,hI,hC⟩:=hp
 have hal:=zhq hs
 have hok:=zh4 hv hs
 have hIl:=hI.len zkm
 rw [List.length_map] at hIl
 refine zdg fun p1 h1 hl1 c1=>?_
 refine ⟨_,Hp.cell_le hl1 (hc 7 _ rfl),?_⟩
 refine zbx (n:=(allC S).length) (by omega) (fun i y h'=>OI h1 h' y (remN (its S) item R i)) OI.nil ?_
 intro i y h2 hi ho k hk2
 have hle:=Hp.le_trans hl1 ho.dle
 refine za0 (fun h3=>?_) (fun h3=>?_)
 · have hi':i<(allC S).length:=by simp only at h3; omega
   refine za3 (fun s h'=>OI h1 h' s.1 (remN (its S) item R (i+1))) (fun s h' hs=>hk2 _ _ hi' hs) ?_
   refine (hI.le zkm hle).get zkm i rfl (by simpa using hi') fun a x hxx hcx=>?_
   have e0:=hcx 0 _ rfl
   rw [zas] at e0
   refine ⟨_,e0,?_⟩
   rw [List.getElem_map] at hxx
   have hlen:=zme (cs:=cens S) (hok _ (List.getElem_mem hi')).2
   have hxx:IL h2 x (itemsC (allC S)[i] (cens S)):=hxx
   have hg:(its S).getD i []=itemsC (allC S)[i] (cens S):=by
    rw [zb9 (by rw [zdw]; exact hi')]
    simp [its]
   have hstep:remN (its S) item R (i+1)=remN (its S) item R i++(if keepP (itemsC (allC S)[i] (cens S)) item R then [(i:Int)] else []):=by
    conv=>lhs; unfold remN
    rw [hg]
   have hrl:=zsw (its S) item R i
   refine zd7 hxx (by omega) fun h4 hl4=>?_
   have ho4:=ho.le hl4
   refine za0 (fun h5=>?_) (fun h5=>?_)
   · refine za1 (fun b h'=>b=true↔∃x∈itemsC (allC S)[i] (cens S),x∈R) (fun K2 hk3=>?_) fun b h6 hl6 hb=>?_
     · unfold F.zbh
       refine za1 (fun r h'=>Fnd (fun x=>x∈R) (itemsC (allC S)[i] (cens S)) r) (fun K4 hk4=>?_) fun r h' hl hr=>hk3 _ _ hl (by rw [decide_eq_true_iff]; exact hr.iff)
       unfold F.zbm
       refine zjk (hxx.le hl4) (by omega) (fun x _ h7 hl7 K5 hK5=>?_) fun r h' hl hr=>hk4 _ _ hl hr
       refine za1 (fun b h'=>b=decide (x∈R)) (fun K6 hk6=>?_) fun b h8 hl8 hb=>hK5 _ _ hl8 (by rw [hb,decide_eq_true_iff])
       unfold F.y_henneberg_peeler_remaining_1
       have l7:=Hp.le_trans ho4.dle hl7
       refine ⟨_,Hp.cell_le l7 c1,?_⟩
       exact zd7 (hr.le (Hp.le_trans hl1 l7)) (by omega) fun h8 hl8=>hk6 _ _ hl8 rfl
     · have ho6:=ho4.le hl6
       refine za2 (fun h7=>?_) (fun h7=>?_)
       · have hkp:keepP (itemsC (allC S)[i] (cens S)) item R:=⟨h5,fun x hx hxR=>by rw [hb.2 ⟨x,hx,hxR⟩] at h7; cases h7⟩
         refine ho6.app (by omega) fun z h8 ho8=>?_
         show OI _ _ _ _
         rw [hstep,if_pos hkp]; exact ho8
       · have hkp:¬keepP (itemsC (allC S)[i] (cens S)) item R:=fun hh=>by
          obtain ⟨x,hx,hxR⟩:=hb.1 (by simpa using h7)
          exact hh.2 x hx hxR
         show OI _ _ _ _
         rw [hstep,if_neg hkp,List.append_nil]; exact ho6
   · show OI _ _ _ _
     rw [hstep,if_neg (fun hh=>h5 hh.1),List.append_nil]; exact ho4
 · have:i=(allC S).length:=by simp only at h3; omega
   subst this
   refine hk _ _ hle ?_
   have ho:=ho.base hl1
   unfold remL
   rw [zdw]; exact ho
theorem zox {k:Nat} (hp:PR h p S) (hs:sSk S) (hv:VS S) (ht:GT h) (hk:k<(allC S).length) (H:Ki ((eqK ((allC S).getD k dC).kind:Nat):Int) h):callP (F.y_henneberg_peeler_equations (some p) (k:Int)) Ki h:=by
 refine zae _ (fun K' hkk=>?_) H
 unfold F.y_henneberg_peeler_equations
 obtain ⟨s,lS,itS,ceS,hx,hc,hL,hI,hC⟩:=hp
 refine ⟨_,hc 6 _ rfl,?_⟩
 refine hL.get zac k rfl hk fun a x hxx hcx=>⟨_,hcx 0 _ rfl,?_⟩
 rw [hxx.1]
 have:=(zh4 hv hs _ (List.getElem_mem hk)).1.1
 rw [zb9 hk] at hkk
 exact zqc ht.2.2 (fun _ _ ln ps=>hkk) (fun hn=>absurd this hn)
theorem zse {l:Sl} {xs:List Int} (hp:PR h p S) (hs:sSk S) (hv:VS S) (ht:GT h) (hl:IL h l xs) (hlen:xs.length≤100000) (hin:∀i∈xs,∃k:Nat,k<(allC S).length∧i=k) (H:∀h',h.le h'→Ki ((wtL (allC S) xs:Nat):Int) h'):callP (F.y_henneberg_peeler_weight (some p) l) Ki h:=by
 refine za1 (fun b h'=>b=((wtL (allC S) xs:Nat):Int)) (fun K' hk=>?_) fun b h' hl hb=>by subst hb; exact H h' hl
 unfold F.y_henneberg_peeler_weight
 have hll:=hl.len
 refine zbx (n:=xs.length) (by omega) (fun i a h'=>h.le h'∧a=((wtL (allC S) (xs.take i):Nat):Int)) ⟨Hp.le_refl _,by simp [wtL]⟩ ?_
 rintro i a h2 hi ⟨hl2,ha⟩ k hk2
 refine za0 (fun h3=>?_) (fun h3=>?_)
 · have hi':i<xs.length:=by simp only at h3; omega
   refine (hl.le hl2).get i rfl hi' ?_
   obtain ⟨q,hq1,hq2⟩:=hin _ (List.getElem_mem hi')
   rw [hq2]
   have hw:=za0i (L:=allC S) (xs.take i)
   rw [List.length_take] at hw
   have hw2:=zyk ((allC S).getD q dC).kind
   refine zox (hp.le hl2) hs hv (ht.le hl2) hq1 (hk2 _ _ hi' ⟨hl2,?_⟩)
   rw [←List.take_append_getElem hi',zt1,hq2]
   simp only
   rw [ha,w64 (by omega)]
   rfl
 · have:i=xs.length:=by simp only at h3; omega
   subst this
   rw [List.take_length] at ha
   rw [ha]
   exact hk _ _ hl2 rfl
theorem za3y {k:Nat} {t:Int} (hp:PR h p S) (hs:sSk S) (hv:VS S) (hk:k<(allC S).length) (H:∀h',h.le h'→Ki (kindP ((allC S).getD k dC) (cens S) t) h'):callP (F.y_henneberg_peeler_kind (some p) (k:Int) t) Ki h:=by
 refine za1 (fun b h'=>b=kindP ((allC S).getD k dC) (cens S) t) (fun K' hkk=>?_) fun b h' hl hb=>by subst hb; exact H h' hl
 unfold F.y_henneberg_peeler_kind
 obtain ⟨s,lS,itS,ceS,hx,hc,hL,hI,hC⟩:=hp
 refine ⟨_,hc 6 _ rfl,?_⟩
 refine hL.get zac k rfl hk fun a x hxx hcx=>⟨_,hcx 0 _ rfl,_,hcx 1 _ rfl,_,hcx 2 _ rfl,_,hcx 3 _ rfl,_,hcx 4 _ rfl,?_⟩
 refine ⟨_,hc 8 _ rfl,?_⟩
 have:=zh4 hv hs _ (List.getElem_mem hk)
 rw [zb9 hk] at hkk
 exact za4r (x:=x) hxx hC this.2 this.1.cirOk this.1.lenC fun h' hl=>hkk _ _ hl rfl
def smI (item:Int):Prop:=-1000000≤item∧item≤1000000
theorem zp8 (hp:PR h p S) (hs:sSk S) (hv:VS S) (ht:GT h) (hr:IL h rs R) (hR:R.length≤100000) (hi:smI item) (H:∀b h',h.le h'→(b=true↔canP (allC S) (cens S) R item)→Kb b h'):callP (F.y_henneberg_peeler_removable (some p) item rs) Kb h:=by
 refine za1 (fun b h'=>b=true↔canP (allC S) (cens S) R item) (fun K' hk=>?_) fun b h' hl hb=>H b h' hl hb
 unfold F.y_henneberg_peeler_removable
 have no:∀h',h.le h'→¬canP (allC S) (cens S) R item→K' false h':=fun h' hl hn=>hk _ _ hl ⟨fun hh=>(by cases hh),fun hh=>absurd hh hn⟩
 have hits:its S=(allC S).map fun c=>itemsC c (cens S):=rfl
 unfold canP at no hk
 rw [←hits] at no hk
 refine zdg fun p1 h1 hl1 c1=>zdg fun p2 h2 hl2 c2=>?_
 have hle2:=Hp.le_trans hl1 hl2
 refine ⟨_,c2,?_⟩
 refine zd7 (hr.le hle2) (by omega) fun h3 hl3=>?_
 have hle3:=Hp.le_trans hle2 hl3
 refine za0 (fun h4=>no _ hle3 fun hh=>hh.1 h4) (fun h4=>?_)
 have d1:∀{h'},h3.le h'→h'.cell p1=some (.pointer (some p)):=fun hl=>Hp.cell_le (Hp.le_trans hl2 (Hp.le_trans hl3 hl)) c1
 have d2:∀{h'},h3.le h'→h'.cell p2=some (.int .i64 item):=fun hl=>Hp.cell_le (Hp.le_trans hl3 hl) c2
 refine ⟨_,d1 (Hp.le_refl _),_,d2 (Hp.le_refl _),?_⟩
 refine zv3 (hp.le hle3) hs hv (hr.le hle3) hR fun r7 h5 hl5 ho5=>?_
 have hle5:=Hp.le_trans hle3 hl5
 have hrl:(remL (its S) item R).length≤(its S).length:=zadw
 rw [zdw] at hrl
 have hal:=zhq hs
 have hin:∀i∈remL (its S) item R,∃k:Nat,k<(allC S).length∧i=k:=fun i hi=>by
  obtain ⟨k,h1,h2,_⟩:=zadx hi
  rw [zdw] at h1
  exact ⟨k,h1,h2⟩
 refine ⟨_,d2 hl5,?_⟩
 obtain ⟨s,lS,itS,ceS,hpp⟩:=hp
 have hp:PR h p S:=⟨s,lS,itS,ceS,hpp⟩
 obtain ⟨hx,hc,hL,hI,hC⟩:=hpp
 refine za0 (fun h6=>?_) (fun h6=>?_)
 · have h6:item<0:=h6
   refine ⟨_,d1 hl5,?_⟩
   refine zse (hp.le hle5) hs hv (ht.le hle5) ho5.il (by omega) hin fun h7 hl7=>?_
   have hle7:=Hp.le_trans hle5 hl7
   have hm:most item=1:=by unfold most; rw [if_pos h6]
   refine za0 (fun h8=>?_) (fun h8=>no _ hle7 fun hh=>by have:=hh.2.1; omega)
   refine za1 (fun b h'=>b=true↔∃i∈remL (its S) item R,¬suitP ((allC S).getD i.toNat dC) (cens S) item) (fun K2 hk3=>?_) fun b h9 hl9 hb=>hk _ _ (Hp.le_trans hle7 hl9) ?_
   · unfold F.zbi
     refine za1 (fun r h'=>Fnd (fun i=>¬suitP ((allC S).getD i.toNat dC) (cens S) item) (remL (its S) item R) r) (fun K4 hk4=>?_) fun r h' hl hr=>hk3 _ _ hl (by rw [decide_eq_true_iff]; exact hr.iff)
     unfold F.zbn
     refine zjk (ho5.il.le hl7) (by omega) (fun i hi2 h9 hl9 K5 hK5=>?_) fun r h' hl hr=>hk4 _ _ hl hr
     refine za1 (fun b h'=>b=true↔¬suitP ((allC S).getD i.toNat dC) (cens S) item) (fun K6 hk6=>?_) fun b h8 hl8 hb=>hK5 _ _ hl8 hb
     unfold F.y_henneberg_peeler_removable_1
     obtain ⟨k,hk1,rfl⟩:=hin i hi2
     have hle9:=Hp.le_trans hle7 hl9
     have l39:=Hp.le_trans hl5 (Hp.le_trans hl7 hl9)
     refine ⟨_,d1 l39,_,Hp.cell_le hle9 (hc 6 _ rfl),?_⟩
     refine (hL.le zac hle9).get zac k rfl hk1 fun a x hxx hcx=>⟨_,hcx 0 _ rfl,_,hcx 1 _ rfl,_,hcx 2 _ rfl,_,hcx 3 _ rfl,_,hcx 4 _ rfl,?_⟩
     refine ⟨_,d1 l39,_,Hp.cell_le hle9 (hc 8 _ rfl),_,d2 l39,?_⟩
     have hok:=zh4 hv hs _ (List.getElem_mem hk1)
     have e1:IntKind.i64.wrap (-1-item)=-1-item:=by unfold smI at hi; exact w64 (by omega)
     simp only
     rw [e1]
     refine za38 (x:=x) hxx (hC.le hle9) hok.2 hok.1.cirOk hok.1.lenC fun b h' hl hb=>hk6 _ _ hl ?_
     rw [show ((k:Nat):Int).toNat=k from rfl,zb9 hk1]
     unfold suitP
     rw [if_pos h6,←hb]
     cases b<;>simp
   · rw [Bool.not_eq_true',←Bool.not_eq_true,hb]
     constructor
     · intro hh
       exact ⟨h4,by omega,fun i hi=>Classical.byContradiction fun hn=>hh ⟨i,hi,hn⟩⟩
     · rintro ⟨_,_,h10⟩ ⟨i,hi,hn⟩
       exact hn (h10 i hi)
 · have h6:¬item<0:=h6
   refine ⟨_,d1 hl5,?_⟩
   refine zse (hp.le hle5) hs hv (ht.le hle5) ho5.il (by omega) hin fun h7 hl7=>?_
   have hle7:=Hp.le_trans hle5 hl7
   have hm:most item=2:=by unfold most; rw [if_neg h6]
   refine za0 (fun h8=>no _ hle7 fun hh=>by have:=hh.2.1; omega) (fun h8=>?_)
   have hr7:=ho5.il.le hl7
   have hr7l:=hr7.len
   refine zbe (n:=(remL (its S) item R).length) (by omega) (fun i h'=>h7.le h'∧∀j (hj:j<(remL (its S) item R).length),j<i→suitP ((allC S).getD (remL (its S) item R)[j].toNat dC) (cens S) item) ⟨Hp.le_refl _,fun j _ hj=>by omega⟩ ?_
   rintro i h9 hi9 ⟨hl9,hno⟩ kk hk2
   have hle9:=Hp.le_trans hle7 hl9
   have l39:=Hp.le_trans hl5 (Hp.le_trans hl7 hl9)
   refine za0 (fun h10=>?_) (fun h10=>?_)
   · have hi':i<(remL (its S) item R).length:=by simp only at h10; omega
     refine (hr7.le hl9).get i rfl hi' ?_
     obtain ⟨k,hk1,hk2e⟩:=hin _ (List.getElem_mem hi')
     rw [hk2e]
     refine ⟨_,d1 l39,_,d2 l39,?_⟩
     refine za3y (hp.le hle9) hs hv hk1 fun h11 hl11=>?_
     have hle11:=Hp.le_trans hle9 hl11
     have l311:=Hp.le_trans l39 hl11
     obtain ⟨kd,hkd⟩:∃kd,kd=kindP ((allC S).getD k dC) (cens S) item:=⟨_,rfl⟩
     have hsuit:suitP ((allC S).getD (remL (its S) item R)[i].toNat dC) (cens S) item↔(if eqK ((allC S).getD k dC).kind=2 then kd=3 else kd=1∨kd=2):=by
      rw [hk2e,hkd]
      unfold suitP
      rw [if_neg h6]
      rfl
     rw [←hkd]
     refine za3 (fun s h'=>h'=h11∧s.1=decide (kd=1∨kd=2)) ?_ ?_
     · rintro ⟨b,_⟩ h11 ⟨rfl,hb⟩
       simp only at hb
       subst hb
       refine za3 (fun s h'=>h'=h11∧(s.1=true↔suitP ((allC S).getD (remL (its S) item R)[i].toNat dC) (cens S) item)) ?_ ?_
       · rintro ⟨b,_⟩ h11 ⟨rfl,hb⟩
         simp only at hb
         refine za2 (fun h12=>no _ hle11 fun hh=>?_) (fun h12=>hk2 _ hi' ⟨Hp.le_trans hl9 hl11,?_⟩)
         · rw [hb.2 (hh.2.2 _ (List.getElem_mem hi'))] at h12; cases h12
         · exact upto (P:=fun i:Int=>suitP ((allC S).getD i.toNat dC) (cens S) item) hno hi' (hb.1 (by simpa using h12))
       · refine ⟨_,d1 l311,?_⟩
         refine zox (hp.le hle11) hs hv (ht.le hle11) hk1 ?_
         refine za7 (fun h12=>⟨rfl,?_⟩) (fun h12=>⟨rfl,?_⟩)
         · rw [hsuit,if_pos (by omega)]
           simp
         · rw [hsuit,if_neg (by omega)]
           simp
     · refine za7 (fun h12=>⟨rfl,?_⟩) (fun h12=>⟨rfl,?_⟩)
       · rw [h12]; rfl
       · by_cases h13:kd=2
         · rw [h13]; rfl
         · rw [decide_eq_false (by omega)]; simpa using h13
   · refine hk _ _ hle9 ⟨fun _=>⟨h4,by omega,?_⟩,fun _=>rfl⟩
     exact upall (P:=fun i:Int=>suitP ((allC S).getD i.toNat dC) (cens S) item) hno (by simp only at h10; omega)
end
end Den
end

section
namespace Den
open Go Iv Lx
section
variable {h : Hp} {s : TSketch} {S : PSk} {x : TConstraint} {c : PCon} {cs : List Int} {ce : Sl} {item : Int} {R : List Int} {rs : Sl} {Kb : Bool → Hp → Prop} {Ki : Int → Hp → Prop} {Ks : Sl → Hp → Prop}
theorem zu7 (hx:x.kind=c.kind) (hv:1≤c.kind∧c.kind≤17) (H:∀h',h.le h'→Ki ((eqK c.kind:Nat):Int) h'):callP (F.zo6 x) Ki h:=by
 refine za1 (fun b h'=>b=((eqK c.kind:Nat):Int)) (fun K' hk=>?_) fun b h' hl hb=>by subst hb; exact H h' hl
 unfold F.zo6
 rw [hx]
 exact za22 (fun _ _ nm vs h' hl=>hk _ _ hl rfl) (fun hn=>absurd hv hn)
theorem zma (hx:x.kind=c.kind) (hv:1≤c.kind∧c.kind≤17) (H:∀h',h.le h'→Ki ((eqK c.kind:Nat):Int) h'):callP (F.zhm x) Ki h:=zu7 hx hv H
end
theorem zjn {can:List Int→Int→Bool} {pref:List Int} (hc:∀R i,can R i=true→i∉R):∀{f:Nat} {R:List Int},(leftL pref R).length≤f→pref.find? (can R)=none→peelF can pref f R=R
 | 0,R,_,_=>rfl
 | f+1,R,_,h=>by unfold peelF; rw [h]
theorem zlx {can:List Int→Int→Bool} {pref:List Int} (hc:∀R i,can R i=true→i∉R) {f:Nat} {R:List Int} {i:Int} (hf:(leftL pref R).length≤f) (h:pref.find? (can R)=some i) :
 ∃g,f=g+1∧peelF can pref f R=peelF can pref g (R++[i])∧(leftL pref (R++[i])).length≤g:=by
 have h1:=List.find?_some h
 have h2:=List.mem_of_find?_eq_some h
 have h3:=ztw h2 (hc _ _ h1)
 obtain ⟨g,rfl⟩:∃g,f=g+1:=⟨f-1,by omega⟩
 refine ⟨g,rfl,?_,by omega⟩
 conv=>lhs; unfold peelF
 rw [h]
theorem zxc {L:List PCon} {cs:List Int}:∀R i,canB L cs R i=true→i∉R:=fun R i h=>(of_decide_eq_true h).1
def peelS (S:PSk) (pref:List Int):List Int:=peelL (canB (allC S) (cens S)) pref
theorem za8m {can:Int→Bool} {l:List Int} {i:Nat} (hi:i<l.length) (hno:∀j (hj:j<l.length),j<i→can l[j]=false) (h:can l[i]=true):l.find? can=some l[i]:=by
 rw [List.find?_eq_some_iff_append]
 refine ⟨h,l.take i,l.drop (i+1),?_,fun a ha=>?_⟩
 · rw [List.getElem_cons_drop,List.take_append_drop]
 · obtain ⟨j,hj,rfl⟩:=List.mem_take_iff_getElem.1 ha
   rw [hno j (by omega) (by omega)]; rfl
section
variable {h : Hp} {s : TSketch} {S : PSk} {l : Sl} {pref : List Int} {K : (Sl × Sl) → Hp → Prop}
end
end Den
end

section
namespace Den
open Go Iv Lx
theorem Own.clr {h0 h:Hp} {x:Sl} {cs:List Value} {n:Nat} {K:Hp→Prop} (ho:Own h0 h 1 x cs) (hn:n≤cs.length) (H:∀h',Own h0 h' 1 (x.cut 0 n 1) (cs.take n)→K h'):clrP (x.cut n x.len 1) [.int .i64 0] K h:=by
 have hlen:=ho.2.1
 have hcap:=ho.2.2.1
 refine ⟨fun h1=>H h (ho.pre (by omega)),fun h1=>?_⟩
 have hl:(x.cut n x.len 1).len=x.len-n:=rfl
 have hlt:n<x.len:=by omega
 have ho':=ho
 obtain ⟨g1,g2,g3,g4⟩:=ho
 cases ha:x.a with
 | none=>rw [ha] at g4; simp only at g4; omega
 | some a=>
   rw [ha] at g4
   obtain ⟨k1,k2,k3,b,k4,k5,k6,k7⟩:=g4
   have hca:(x.cut n x.len 1).a=Option.some (a.add (n*1)):=by
    show (if x.cap=n then x.a else x.a.map (·.add (n*1)))=_
    rw [if_neg (by omega),ha]; rfl
   rw [hca]
   simp only [stO]
   rw [zas]
   have hrl:(repl (x.cut n x.len 1).len [Value.int .i64 0]).length=x.len-n:=by rw [zpw,hl]; simp
   refine ⟨b,by rw [zbk]; exact k4,zet k2 _,k5,?_,?_,?_⟩
   · rw [zd0,hrl]; omega
   · unfold repl
     rw [List.all_flatten,List.all_eq_true]
     intro l hl
     rw [(List.mem_replicate.1 hl).2]; rfl
   · rw [zbk,zd0,k1,Nat.zero_add,Nat.mul_one]
     refine H _ ⟨?_,?_,?_,?_⟩
     · intro kk bk hkk
       rw [Hp.ins_ne (fun hh=>by subst hh; rw [k3] at hkk; cases hkk)]
       exact g1 kk bk hkk
     · show (n-0)*1=_
       rw [List.length_take]; omega
     · show n-0≤x.cap-0; omega
     · rw [cut_a,ha]
       refine ⟨k1,k2,k3,_,Hp.ins_same _ _ _,k5,?_,?_⟩
       · show (splice b.cells n _).length=(x.cap-0)*1
         rw [zee (by omega)]
         exact k6
       · have e:(cs.take n).length=n:=by rw [List.length_take]; omega
         rw [e]
         show (splice b.cells n _).take n=_
         unfold splice
         rw [List.append_assoc,List.take_append_of_le_length (by rw [List.length_take]; omega),List.take_take,Nat.min_self]
         have:=congrArg (List.take n) k7
         rw [List.take_take,Nat.min_eq_left (by omega)] at this
         exact this
def kept (xs R:List Int) (j:Nat):List Int:=(xs.take j).filter fun x=>decide (x∉R)
theorem zqo {xs R:List Int} {j:Nat} (hj:j<xs.length):kept xs R (j+1)=kept xs R j++(if xs[j]∈R then [] else [xs[j]]):=by
 unfold kept
 rw [←List.take_append_getElem hj,List.filter_append]
 congr 1
 by_cases hm:xs[j]∈R<;>simp [List.filter,hm]
section
variable {h D : Hp} {S : PSk} {p p1 p2 : Addr} {rs l : Sl} {xs R : List Int} {Kb : Bool → Hp → Prop} {Ki : Int → Hp → Prop} {Ks : Sl → Hp → Prop} {K : (Sl × Sl) → Hp → Prop}
theorem zvl {G:Int→(Bool→Hp→Prop)→Hp→Prop} {r:Int} (ho:OI D h l xs) (hlen:xs.length≤1000)
 (hG:∀x h',D.le h'→∀K:Bool→Hp→Prop,(∀h'',h'.le h''→K (decide (x∈R)) h'')→callP (G x) K h') (hr:Fnd (fun x=>x∈R) xs r) (H:∀y h',OI D h' y (xs.filter fun x=>decide (x∉R))→Ks y h') :
 (ifP (r==(-1))
 (Ks l h)
 (loopP (S:=Int×Int×Unit) (fun s2 k3 h2=>
 (ifP (decide (s2.2.1<(l.len:Int)))
 (joinP (S:=Int×Unit) (fun s4 h3=>
 (k3 (s4.1,(IntKind.i64.wrap (s2.2.1+1)),()) h3))
 (fun k5=>
 (idxP l s2.2.1 1 fun a6=>
 (ldL (.int .i64) a6 (fun x7=>
 (callP (G x7) (fun r8 h4=>
 (ifP (!r8)
 (idxP l s2.1 1 fun a9=>
 (stP a9 [.int .i64 x7] (fun h5=>
 (k5 ((IntKind.i64.wrap (s2.1+1)),()) h5)) h4))
 (k5 (s2.1,()) h4))) h2)) h2))))
 (slP l s2.1 (l.len:Int) 1 fun c10=>
 (clrP c10 [.int .i64 0] (fun h6=>
 (slP l 0 s2.1 1 fun c11=>
 (Ks c11 h6))) h2))))
 (r,(IntKind.i64.wrap (r+1)),()) h)):=by
  have hll:=ho.il.len
  have hcap:=ho.2.2.1
  rcases hr with ⟨rfl,hno⟩ | ⟨k,hk,rfl,hk1,hk2⟩
  · refine zbb rfl (H _ _ ?_)
    have:xs.filter (fun x=>decide (x∉R))=xs:=by
     rw [List.filter_eq_self]
     exact fun a ha=>decide_eq_true (hno a ha)
    rw [this]; exact ho
  · refine zak (by rw [beq_eq_false_iff_ne]; omega) ?_
    have hkk:kept xs R k=xs.take k:=by
     unfold kept
     rw [List.filter_eq_self]
     intro a ha
     obtain ⟨j,hj,rfl⟩:=List.mem_take_iff_getElem.1 ha
     exact decide_eq_true (hk2 j (by omega) (by omega))
    have hks:kept xs R (k+1)=xs.take k:=by
     rw [zqo hk,if_pos hk1,List.append_nil,hkk]
    refine zaj (fun st h'=>∃(j m:Nat) (ys:List Int),st=((m:Int),(j:Int),())∧k<j∧j≤xs.length∧OI D h' l ys∧ys.length=xs.length∧m=(kept xs R j).length∧m≤j∧ys.take m=kept xs R j∧ys.drop j=xs.drop j)
     (fun st=>(xs.length-st.2.1).toNat) ⟨k+1,k,xs,by rw [w64 (by omega)]; rfl,by omega,by omega,ho,rfl,by rw [hks]; simp; omega,by omega,by rw [hks],rfl⟩ ?_
    rintro _ h2 ⟨j,m,ys,rfl,hkj,hj,ho2,hyl,hm,hmj,htk,hdr⟩
    refine za0 (fun h3=>?_) (fun h3=>?_)
    · have hj':j<xs.length:=by simp only at h3; omega
      have hyj:ys[j]'(by omega)=xs[j]:=by
       have:=congrArg (fun l:List Int=>l[0]?) hdr
       simp only [List.getElem?_drop,Nat.add_zero] at this
       rw [List.getElem?_eq_getElem (by omega),List.getElem?_eq_getElem hj'] at this
       exact Option.some.inj this
      refine za3 (fun st h'=>∃(m':Nat) (ys':List Int),st.1=(m':Int)∧OI D h' l ys'∧ys'.length=xs.length∧m'=(kept xs R (j+1)).length∧m'≤j+1∧ys'.take m'=kept xs R (j+1)∧ys'.drop (j+1)=xs.drop (j+1)) ?_ ?_
      · rintro ⟨_,_⟩ h4 ⟨m',ys',rfl,g1,g2,g3,g4,g5,g6⟩
        exact ⟨⟨j+1,m',ys',by simp only; rw [w64 (by omega)]; rfl,by omega,by omega,g1,g2,g3,g4,g5,g6⟩,by simp only; rw [w64 (by omega)]; omega⟩
      · refine ho2.il.get j rfl (by omega) ?_
        have hdr1:ys.drop (j+1)=xs.drop (j+1):=by
         have:=congrArg (List.drop 1) hdr
         rw [List.drop_drop,List.drop_drop] at this
         exact this
        refine hG _ _ ho2.dle _ fun h4 hl4=>?_
        have ho4:=ho2.le hl4
        rw [hyj]
        refine za2 (fun h5=>?_) (fun h5=>?_)
        · have hx:xs[j]∉R:=by simpa using h5
          have hs:=zqo (xs:=xs) (R:=R) hj'
          rw [if_neg hx] at hs
          refine za00 m ho4 rfl (by omega) rfl (by decide) rfl fun h6 ho6=>⟨m+1,ys.set m xs[j],by simp only; rw [w64 (by omega)]; rfl,?_,by simpa using hyl,by rw [hs]; simp; omega,by omega,?_,?_⟩
          · rw [Nat.mul_one] at ho6
            have e:splice (ys.map ic) m [Value.int .i64 xs[j]]=(ys.set m xs[j]).map ic:=by
             rw [zkh,List.map_set,List.set_eq_take_append_cons_drop,if_pos (by simp; omega)]
             rfl
            unfold OI
            rw [←e]; exact ho6
          · rw [hs,←htk,List.take_add_one,List.take_set_of_le (Nat.le_refl _),List.getElem?_set_self (by omega)]
            rfl
          · rw [List.drop_set_of_lt (by omega)]; exact hdr1
        · have hx:xs[j]∈R:=by simpa using h5
          have hs:=zqo (xs:=xs) (R:=R) hj'
          rw [if_pos hx,List.append_nil] at hs
          exact ⟨m,ys,rfl,ho4,hyl,by rw [hs]; exact hm,by omega,by rw [hs]; exact htk,hdr1⟩
    · have:j=xs.length:=by simp only at h3; omega
      subst this
      have hl2:=ho2.il.len
      refine ⟨by omega,by simp only; omega,by omega,?_⟩
      have e1:((l.len:Nat):Int).toNat=l.len:=rfl
      have e2:((m:Nat):Int).toNat=m:=rfl
      simp only
      rw [e1,e2]
      refine Own.clr ho2 (n:=m) (by simp; omega) fun h6 ho6=>⟨by decide,by omega,by omega,?_⟩
      have e3:(0:Int).toNat=0:=rfl
      rw [e3,e2]
      refine H _ _ ?_
      unfold OI
      have:xs.filter (fun x=>decide (x∉R))=ys.take m:=by
       rw [htk]
       unfold kept
       rw [List.take_length]
      rw [this,List.map_take]
      exact ho6
theorem zu2 {x:Int} (hc:h.cell p2=some (Lf.sl.up rs)) (hr:IL h rs R) (hlen:R.length≤1000) (H:∀h',h.le h'→Kb (decide (x∈R)) h'):callP (F.y_henneberg_peeler_peel_2 x (some p2)) Kb h:=by
 refine za1 (fun b h'=>b=decide (x∈R)) (fun K' hk=>?_) fun b h' hl hb=>by subst hb; exact H h' hl
 unfold F.y_henneberg_peeler_peel_2
 exact ⟨_,hc,zd7 hr (by omega) fun h' hl=>hk _ _ hl rfl⟩
theorem za15 (ho:OI D h l xs) (hxl:xs.length≤1000) (hc:D.cell p2=some (Lf.sl.up rs)) (hr:IL D rs R) (hlen:R.length≤1000) (H:∀y h',OI D h' y (xs.filter fun x=>decide (x∉R))→Ks y h'):callM (F.zb7 l (some p2,())) Ks h:=by
 refine zgj ?_
 unfold F.zb7
 refine za1 (fun r h'=>Fnd (fun x=>x∈R) xs r) (fun K2 hk=>?_) fun r h1 hl1 hr1=>?_
 · unfold F.zby
   refine zjk ho.il (by omega) (fun x _ h5 hl5 K5 hK5=>?_) fun r h' hl hr=>hk _ _ hl hr
   have hD5:=Hp.le_trans ho.dle hl5
   exact zu2 (Hp.cell_le hD5 hc) (hr.le hD5) hlen fun h6 hl6=>hK5 _ _ hl6 (by rw [decide_eq_true_iff])
 · exact zvl (G:=fun x=>F.y_henneberg_peeler_peel_2 x (some p2,()).1) (ho.le hl1) hxl (fun x h' hl' K' hK'=>zu2 (Hp.cell_le hl' hc) (hr.le hl') hlen hK') hr1 H
end
end Den
end

section
namespace Den
open Go Iv Lx
theorem za99 {can:List Int→Int→Bool} {pref:List Int} (hcn:∀R i,can R i=true→i∉R):∀(f1 f2:Nat) (Q:List Int),(leftL pref Q).length≤f1→(leftL pref Q).length≤f2→peelF can pref f1 Q=peelF can pref f2 Q:=by
 intro f1
 induction f1 with
 | zero=>
   intro f2 Q h1 h2
   cases hq:pref.find? (can Q) with
   | none=>rw [zjn hcn h1 hq,zjn hcn h2 hq]
   | some z=>
     obtain ⟨g,hg,_⟩:=zlx hcn h1 hq
     omega
 | succ f1 ih=>
   intro f2 Q h1 h2
   cases hq:pref.find? (can Q) with
   | none=>rw [zjn hcn h1 hq,zjn hcn h2 hq]
   | some z=>
     obtain ⟨g,hg,e1,e2⟩:=zlx hcn h1 hq
     obtain ⟨g',hg',e1',e2'⟩:=zlx hcn h2 hq
     rw [e1,e1']
     have:g=f1:=by omega
     subst this
     exact ih g' _ e2 e2'
def allS (S:PSk):List Int:=allI S.pts.length S.cir.length
theorem zn4 {S:PSk} (hs:sSk S):(allS S).length≤20:=by
 unfold allS
 rw [zx9]
 have:=hs.1
 have:=hs.2.1
 omega
theorem zoq {S:PSk} (hs:sSk S) {x:Int} (hx:x∈allS S):smI x:=by
 have:=znb.1 hx
 have:=hs.1
 have:=hs.2.1
 unfold smI; omega
section
variable {h D : Hp} {s : TSketch} {S : PSk} {p p1 p2 : Addr} {rs l : Sl} {xs R : List Int} {Kb : Bool → Hp → Prop} {Ki : Int → Hp → Prop} {Ks : Sl → Hp → Prop} {K : (Sl × Sl) → Hp → Prop}
theorem za40 (hp:PR h p S) (hs:sSk S) (hv:VS S) (ht:GT h) (c1:h.cell p1=some (.pointer (some p))) (c2:h.cell p2=some (Lf.sl.up rs)) (hr:IL h rs R) (hR:R.length≤100000) (hl:IL h l xs) (hxl:xs.length≤1000) (hsm:∀x∈xs,smI x)
 (H:∀r h',h.le h'→Fnd (fun x=>canB (allC S) (cens S) R x=true) xs r→Ki r h'):callP (F.zba l (some p1,some p2,())) Ki h:=by
 refine za1 (fun r h'=>Fnd (fun x=>canB (allC S) (cens S) R x=true) xs r) (fun K' hk=>?_) fun b h' hl hb=>H b h' hl hb
 unfold F.zba
 refine zjk hl (by omega) (fun x hx h5 hl5 K5 hK5=>?_) fun r h' hl hr=>hk _ _ hl hr
 refine za1 (fun b h'=>b=true↔canB (allC S) (cens S) R x=true) (fun K6 hk6=>?_) fun b h8 hl8 hb=>hK5 _ _ hl8 hb
 unfold F.y_henneberg_peeler_peel_1
 refine ⟨_,Hp.cell_le hl5 c1,_,Hp.cell_le hl5 c2,?_⟩
 exact zp8 (hp.le hl5) hs hv (ht.le hl5) (hr.le hl5) hR (hsm x hx) fun b h' hl hb=>hk6 _ _ hl (by rw [hb]; unfold canB; rw [decide_eq_true_iff])
theorem zabr {can:Int→Bool} {xs:List Int} {r:Int} (hf:Fnd (fun x=>can x=true) xs r):(r=-1∧xs.find? can=none)∨∃k,∃hk:k<xs.length,r=(k:Int)∧xs.find? can=some xs[k]:=by
 rcases hf with ⟨h1,h2⟩ | ⟨k,hk,h1,h2,h3⟩
 · exact .inl ⟨h1,by rw [List.find?_eq_none]; exact fun x hx=>by simpa using h2 x hx⟩
 · exact .inr ⟨k,hk,h1,za8m hk (fun j hj hjk=>by simpa using h3 j hj hjk) h2⟩
theorem za98 (hp:PR h p S) (hs:sSk S) (hv:VS S) (ht:GT h) (H:∀a b h',h.le h'→IL h' a (peelS S (allS S))→IL h' b (leftL (allS S) (peelS S (allS S)))→K (a,b) h'):callP (F.y_henneberg_peeler_peel (some p)) K h:=by
 refine za1 (fun r h'=>IL h' r.1 (peelS S (allS S))∧IL h' r.2 (leftL (allS S) (peelS S (allS S)))) (fun K' hk=>?_) fun r h' hl hr=>H r.1 r.2 h' hl hr.1 hr.2
 unfold F.y_henneberg_peeler_peel
 obtain ⟨can,hcan⟩:∃can,can=canB (allC S) (cens S):=⟨_,rfl⟩
 have hcn:∀R i,can R i=true→i∉R:=by rw [hcan]; exact zxc
 have hal:=zn4 hs
 refine zdg fun p1 h1 hl1 c1=>?_
 intro b e hbf
 have hp1:=hp.le hl1
 have ht1:=ht.le hl1
 refine zp1 (fun f st h'=>∃(R:List Int) (y:Sl) (D:Hp),st=(some ⟨b,0,none⟩,())∧h1.le D∧D b=none∧MB h' b [Lf.sl.up y]∧OI D h' y R∧(∀a,y.a=some a→a.block≠b)∧R.length+(leftL (allS S) R).length≤(allS S).length∧(leftL (allS S) R).length≤f ∧
  peelF can (allS S) (leftL (allS S) R).length R=peelS S (allS S)) (n0:=(allS S).length)
  ⟨[],nilS,h1,rfl,Hp.le_refl _,hbf,⟨e,Hp.ins_same _ _ _⟩,Own.nil (Hp.le_ins hbf),fun a ha=>(by cases ha),?_⟩ ?_
 · have e:leftL (allS S) []=allS S:=by unfold leftL; rw [List.filter_eq_self]; simp
   rw [e]
   exact ⟨by simp,Nat.le_refl _,by rw [hcan]; rfl⟩
 rintro f _ h2 ⟨R,y,D,rfl,hD,hDb,hm,ho,hyb,hRl,hf,hpf⟩ K2 hK2
 have hD2:=ho.dle
 have hle2:h1.le h2:=Hp.le_trans hD hD2
 refine ⟨_,Hp.cell_le hle2 c1,?_⟩
 refine zqs (hp1.le hle2) hs fun r6 h3 hl3 ho6=>?_
 have hle3:=Hp.le_trans hle2 hl3
 have hm3:=hm.le hl3
 have ho3:=ho.le hl3
 have c2:∀{h':Hp},MB h' b [Lf.sl.up y]→h'.cell ⟨b,0,none⟩=some (Lf.sl.up y):=fun hm=>by
  have:=hm.ld 0 rfl
  rwa [zas] at this
 refine za40 (hp1.le hle3) hs hv (ht1.le hle3) (Hp.cell_le hle3 c1) (c2 hm3) ho3.il (by omega) (xs:=allS S) ho6.il (by omega) (fun x hx=>zoq hs hx) fun r7 h4 hl4 hr7=>?_
 have hle4:=Hp.le_trans hle3 hl4
 have hm4:=hm3.le hl4
 have ho4:=ho3.le hl4
 rw [←hcan] at hr7
 rcases zabr hr7 with ⟨hr,hnone⟩ | ⟨k,hk0,hr,hsome⟩
 · refine zbb (decide_eq_true (by omega)) ?_
   have hRp:R=peelS S (allS S):=by rw [←hpf,zjn hcn (Nat.le_refl _) hnone]
   refine ⟨_,Hp.cell_le hle4 c1,?_⟩
   refine zqs (hp1.le hle4) hs fun r9 h5 hl5 ho9=>?_
   have hm5:=hm4.le hl5
   have ho5:=ho4.le hl5
   refine za15 (D:=h4) (xs:=allS S) (R:=R) (rs:=y) ho9 (by omega) (c2 hm4) ho4.il (by omega) fun z h6 ho6z=>?_
   have l46:h4.le h6:=ho6z.dle
   have hm6:=hm4.le l46
   refine ⟨_,c2 hm6,?_⟩
   refine hk _ _ (Hp.le_trans hl1 (Hp.le_trans hle4 l46)) ⟨?_,?_⟩
   · rw [←hRp]
     exact (ho4.le l46).il
   · have:leftL (allS S) (peelS S (allS S))=(allS S).filter fun x=>decide (x∉R):=by rw [←hRp]; rfl
     rw [this]
     exact ho6z.il
 · refine zak (decide_eq_false (by omega)) ?_
   refine ⟨_,c2 hm4,_,Hp.cell_le hle4 c1,?_⟩
   refine zqs (hp1.le hle4) hs fun r16 h5 hl5 ho16=>?_
   have hm5:=hm4.le hl5
   have ho5:=ho4.le hl5
   rw [hr]
   refine ho16.il.get (xs:=allS S) k rfl hk0 ?_
   have hyl:=ho5.il.len
   have hbb:h5 b≠none:=by obtain ⟨e,hm⟩:=hm5; rw [hm]; simp
   refine zn5 ho5 (n:=1) (new:=[ic (allS S)[k]]) rfl rfl rfl (by omega) (by omega) fun w h6 hw _ hs6 hb6=>?_
   have hm6:MB h6 b [Lf.sl.up y]:=by
    obtain ⟨e,hm⟩:=hm5
    exact ⟨e,by rw [hs6 b hbb fun a ha=>(hyb a ha).symm]; exact hm⟩
   have hwb:∀a,w.a=some a→a.block≠b:=fun a ha hh=>by
    rcases hb6 a ha with ⟨a',h8,h9⟩ | h8
    · exact hyb a' h8 (by rw [h9]; exact hh)
    · rw [hh] at h8; exact hbb h8
   obtain ⟨g,hg1,hg2,hg3⟩:=zlx hcn (Nat.le_refl _) hsome
   have hlt:(leftL (allS S) (R++[(allS S)[k]])).length<(leftL (allS S) R).length:=by omega
   have key:=hm6.st (j:=0) (v:=Lf.sl.up w) (K:=fun h=>K2 (some ⟨b,0,none⟩,()) h) (by simp) rfl fun h8 hm8 hs8=>hK2 (leftL (allS S) (R++[(allS S)[k]])).length _ _ (by omega) ⟨R++[(allS S)[k]],w,D,rfl,hD,hDb,hm8,?_,hwb,by simp; omega,Nat.le_refl _,?_⟩
   · rw [zas] at key
     exact key
   · obtain ⟨e8,hm8'⟩:=hm8
     rw [zqm hm8' hs8]
     have:OI D h6 w (R++[(allS S)[k]]):=by
      unfold OI
      rw [List.map_append]
      exact hw
     exact znd this hDb hwb
   · rw [←hpf,hg2]
     exact za99 hcn _ _ _ (Nat.le_refl _) hg3
theorem zvf (hx:SK h s S) (hs:sSk S) (ht:GT h) (H0:∀h',h.le h'→¬VS S→K (nilS,nilS) h') (H:∀a b h',h.le h'→VS S→IL h' a (peelS S (allS S))→IL h' b (leftL (allS S) (peelS S (allS S)))→K (a,b) h'):callP (F.zg6 s) K h:=by
 refine za1 (fun r h'=>(¬VS S∧r=(nilS,nilS))∨(VS S∧IL h' r.1 (peelS S (allS S))∧IL h' r.2 (leftL (allS S) (peelS S (allS S))))) (fun K' hk=>?_) fun r h' hl hr=>by
  rcases hr with ⟨h1,rfl⟩ | ⟨h1,h2,h3⟩
  · exact H0 h' hl h1
  · exact H r.1 r.2 h' hl h1 h2 h3
 unfold F.zg6
 refine ziw hx hs ht fun r h1 hl1 hr=>?_
 refine zbg (fun h2=>hk _ _ hl1 (.inl ⟨fun hv=>h2 (hr.2 hv),rfl⟩)) (fun h2=>?_)
 have hv:=hr.1 h2
 refine zqt (hx.le hl1) hv hs fun p h3 hl3 hp=>?_
 refine za98 hp hs hv (ht.le (Hp.le_trans hl1 hl3)) fun a b h4 hl4 ha hb=>hk _ _ (Hp.le_trans hl1 (Hp.le_trans hl3 hl4)) (.inr ⟨hv,ha,hb⟩)
theorem zu0 {item:Int} (hx:SK h s S) (hs:sSk S) (ht:GT h) (hr:IL h rs R) (hR:R.length≤100000) (hi:-9223372036854775808≤item∧item≤9223372036854775807) (H:∀b h',h.le h'→(b=true↔VS S∧item∈allS S∧canP (allC S) (cens S) R item)→Kb b h'):callP (F.zff s item rs) Kb h:=by
 refine za1 (fun b h'=>b=true↔VS S∧item∈allS S∧canP (allC S) (cens S) R item) (fun K' hk=>?_) fun b h' hl hb=>H b h' hl hb
 unfold F.zff
 refine ziw hx hs ht fun r h1 hl1 hr1=>?_
 refine zbg (fun h2=>hk _ _ hl1 ⟨fun hh=>(by cases hh),fun hh=>absurd (hr1.2 hh.1) h2⟩) (fun h2=>?_)
 have hv:=hr1.1 h2
 refine zqt (hx.le hl1) hv hs fun p h3 hl3 hp=>?_
 have hle3:=Hp.le_trans hl1 hl3
 refine za17 hp hs hi fun b hb=>?_
 refine za2 (fun h4=>?_) (fun h4=>hk _ _ hle3 ⟨fun hh=>(by cases hh),fun hh=>?_⟩)
 · have hia:item∈allS S:=hb.1 h4
   refine zp8 hp hs hv (ht.le hle3) (hr.le hle3) hR (zoq hs hia) fun b5 h5 hl5 hb5=>hk _ _ (Hp.le_trans hle3 hl5) ?_
   rw [hb5]
   exact ⟨fun hh=>⟨hv,hia,hh⟩,fun hh=>hh.2.2⟩
 · rw [hb.2 hh.2.1] at h4; cases h4
end
end Den
end

section
namespace Den
open Go Iv Lx
theorem zvq {α:Type} {l m:List α} {d:α} {k:Nat} (h:k<l.length):(l++m).getD k d=l.getD k d:=by
 rw [List.getD_eq_getElem?_getD,List.getD_eq_getElem?_getD,List.getElem?_append_left h]
theorem zvr {α:Type} {l m:List α} {d:α} {k:Nat} (h:l.length≤k):(l++m).getD k d=m.getD (k-l.length) d:=by
 rw [List.getD_eq_getElem?_getD,List.getD_eq_getElem?_getD,List.getElem?_append_right h]
theorem zze {can:List Int→Int→Bool} {pref:List Int}:∀{f:Nat} {R:List Int},(∀k,k<R.length→can (R.take k) (R.getD k 0)=true∧R.getD k 0∈pref)→∀k,k<(peelF can pref f R).length→can ((peelF can pref f R).take k) ((peelF can pref f R).getD k 0)=true∧(peelF can pref f R).getD k 0∈pref
 | 0,R,h=>h
 | f+1,R,h=>by
   unfold peelF
   cases hq:pref.find? (can R) with
   | none=>exact h
   | some i=>
     refine zze fun k hk=>?_
     rw [List.length_append,List.length_singleton] at hk
     rcases Nat.lt_or_ge k R.length with h1 | h1
     · have:=h k h1
       rw [List.take_append_of_le_length (by omega),zvq h1]
       exact this
     · have:k=R.length:=by omega
       subst this
       rw [List.take_append_of_le_length (Nat.le_refl _),List.take_length,zvr (Nat.le_refl _)]
       simp only [Nat.sub_self,List.getD_cons_zero]
       exact ⟨List.find?_some hq,List.mem_of_find?_eq_some hq⟩
theorem zzf {S:PSk} {pref:List Int} {k:Nat} (hk:k<(peelS S pref).length):canP (allC S) (cens S) ((peelS S pref).take k) ((peelS S pref).getD k 0)∧(peelS S pref).getD k 0∈pref:=by
 have:=zze (can:=canB (allC S) (cens S)) (pref:=pref) (f:=pref.length) (R:=[]) (fun k hk=>by simp at hk) k hk
 exact ⟨of_decide_eq_true this.1,this.2⟩
section
variable {h : Hp} {s : TSketch} {S : PSk} {p : Addr} {item : Int} {us : Sl} {u : List Int} {Kb : Bool → Hp → Prop} {Ki : Int → Hp → Prop} {K : TStep → Hp → Prop}
end
section
variable {h : Hp} {s : TSketch} {S : PSk} {p : Addr} {K : (TPlan × Int) → Hp → Prop} {Kb : Bool → Hp → Prop}
end
end Den
end

section
namespace Den
open Go Iv Lx
section
variable {α β γ δ : Type} {c : α → List Value} {n : Nat} {P : Hp → α → β → Prop} {c2 : γ → List Value} {n2 : Nat} {P2 : Hp → γ → δ → Prop} {D h h' : Hp} {l m : Sl} {ps : List β} {qs : List δ}
end
theorem zsj {z:Int} (h:z.natAbs<4294967296):BR 1 ((z:Int):Rat):=⟨by rw [Rat.num_intCast]; unfold Lt; rw [Nat.pow_one]; exact h,by rw [Rat.den_intCast]; unfold Lt; decide⟩
def numE (x:TRat) (z:Int):PEx:=.mk 1 x (some ((z:Int):Rat)) emptyS []
def shortX (x:TRat):Prop:=x.num.mag.len≤4∧x.den.mag.len≤4
theorem zac0 {h:Hp} {x:TRat} {z:Int} (hz:z.natAbs<4294967296) (hx:NR h x ((z:Int):Rat)):shortX x:=by
 have hb:=zsj hz
 have h1:=zb8.2 hb.1
 have h2:=zb8.2 hb.2
 have e1:=hx.1.len
 have e2:=hx.2.len
 exact ⟨by omega,by omega⟩
theorem zafh {x:TRat} {z:Int} (hx:shortX x):sE (numE x z):=by
 refine ⟨?_,?_⟩
 · unfold numE smE smEL
   exact ⟨by simp,by decide,hx.1,hx.2,trivial⟩
 · unfold numE dep depL; decide
theorem dec1:decOk (some ((1:Int):Rat))=true:=by decide +kernel
theorem zabd:BS emptyS=[]:=rfl
theorem zafi {x:TRat} {z:Int} (hz:decOk (some ((z:Int):Rat))=true):vE (numE x z)=true:=by
 unfold vE numE
 simp [fmd,fmdL,dep,depL,shp,hz,zabd]
def DC (z:Int) (c:PCon) (e:Int×Int):Prop:=∃x:TRat,shortX x∧c=⟨2,[e.1,e.2],[],[numE x z],0⟩
def DCL (z:Int):List PCon→List (Int×Int)→Prop
 | [],[]=>True
 | c :: r,e :: q=>DC z c e∧DCL z r q
 | _,_=>False
theorem DCL.snoc {z:Int} {c:PCon} {e:Int×Int} (hc:DC z c e):∀{l:List PCon} {q:List (Int×Int)},DCL z l q→DCL z (l++[c]) (q++[e])
 | [],[],_=>⟨hc,trivial⟩
 | a :: r,b :: q,h=>⟨h.1,DCL.snoc hc h.2⟩
 | [],_ :: _,h=>h.elim
 | _ :: _,[],h=>h.elim
theorem DCL.len {z:Int}:∀{l:List PCon} {q:List (Int×Int)},DCL z l q→l.length=q.length
 | [],[],_=>rfl
 | a :: r,b :: q,h=>by rw [List.length_cons,List.length_cons,DCL.len h.2]
 | [],_ :: _,h=>h.elim
 | _ :: _,[],h=>h.elim
theorem DCL.all {z:Int} {Q:PCon→Prop}:∀{l:List PCon} {q:List (Int×Int)},DCL z l q→(∀c e,e∈q→DC z c e→Q c)→∀c∈l,Q c
 | [],[],_,_,c,hc=>by simp at hc
 | a :: r,b :: q,h,H,c,hc=>by
   rcases List.mem_cons.1 hc with rfl | hc
   · exact H _ b (by simp) h.1
   · exact DCL.all h.2 (fun c e he=>H c e (List.mem_cons_of_mem _ he)) c hc
 | [],_ :: _,h,_,_,_=>h.elim
 | _ :: _,[],h,_,_,_=>h.elim
theorem DC.sc {z:Int} {c:PCon} {e:Int×Int} (h:DC z c e):sC c:=by
 obtain ⟨x,hx,rfl⟩:=h
 refine ⟨by simp,by simp,by simp,fun v hv=>?_⟩
 simp only [List.mem_singleton] at hv
 subst hv
 exact zafh hx
theorem DC.vc {z:Int} (hz:decOk (some ((z:Int):Rat))=true) {c:PCon} {e:Int×Int} {n m:Int} (h:DC z c e) (h1:0≤e.1∧e.1<n) (h2:0≤e.2∧e.2<n) (h3:e.1≠e.2):VC c n m:=by
 obtain ⟨x,hx,rfl⟩:=h
 refine ⟨⟨by show (1:Int)≤2; decide,by show (2:Int)≤17; decide⟩,⟨rfl,fun y hy=>?_⟩,⟨rfl,fun y hy=>by simp at hy⟩,rfl,fun v hv=>?_,rfl,?_⟩
 · simp only [List.mem_cons,List.not_mem_nil,or_false] at hy
   rcases hy with rfl | rfl
   · exact h1
   · exact h2
 · simp only [List.mem_singleton] at hv
   subst hv
   exact zafi hz
 · rw [if_neg (by simp [fourK])]
   exact ⟨by simp [h3],by simp⟩
def DSK (z:Int) (S:PSk) (n:Nat) (prs:List (Int×Int)):Prop:=S.pts.length=n∧(∀p∈S.pts,VP p)∧S.cir=[]∧S.seg=[]∧S.arc=[]∧S.chn=[]∧DCL z S.con prs
theorem DSK.vs {z:Int} (hz:decOk (some ((z:Int):Rat))=true) {S:PSk} {n:Nat} {prs:List (Int×Int)} (h:DSK z S n prs) (hp:∀e∈prs,0≤e.1∧e.1<e.2∧e.2<n):VS S:=by
 obtain ⟨h1,h2,h3,h4,h5,h6,h7⟩:=h
 refine ⟨h2,by simp [h3],by simp [h4],by simp [h5],by simp [h6],?_⟩
 exact h7.all fun c e he hd=>by
  have:=hp e he
  exact hd.vc hz (by omega) (by omega) (by omega)
theorem DSK.ss {z:Int} {S:PSk} {n:Nat} {prs:List (Int×Int)} (h:DSK z S n prs) (hn:n≤10) (hp:prs.length≤20):sSk S:=by
 obtain ⟨h1,h2,h3,h4,h5,h6,h7⟩:=h
 exact ⟨by omega,by simp [h3],by simp [h4],by simp [h5],by simp [h6],by rw [h7.len]; exact hp,by simp [h6],h7.all fun c e _ hd=>hd.sc⟩
def prs:Nat→List (Int×Int)
 | 0=>[]
 | i+1=>prs i++(List.range i).map fun k:Nat=>((k:Int),(i:Int))
section
variable {h : Hp} {K : TSketch → Hp → Prop}
theorem zad7 {h:Hp} {a b:Addr} {p q z:Int} {x:TRat} (ha:∀i v,([.int .i64 p,.int .i64 q]:List Value)[i]?=some v→h.cell (a.add i)=some v)
 (hb:∀i v,([.int .i64 1,.bool x.num.neg,.slice x.num.mag.a x.num.mag.len x.num.mag.cap,.bool x.den.neg,.slice x.den.mag.a x.den.mag.len x.den.mag.cap,.string emptyS,.slice nilS.a nilS.len nilS.cap]:List Value)[i]?=some v→h.cell (b.add i)=some v)
 (hz:z.natAbs<4294967296) (hx:NR h x ((z:Int):Rat)):CO h ⟨2,⟨some a,2,2⟩,nilS,⟨some b,1,1⟩,0⟩ ⟨2,[p,q],[],[numE x z],0⟩:=by
 refine ⟨rfl,⟨zdn (size:=1) (n:=2) ha rfl,Nat.le_refl _⟩,IL.nil,⟨[⟨1,x,emptyS,nilS⟩],zdn (size:=7) (n:=1) hb rfl,Nat.le_refl _,rfl,fun k k1 k2=>?_⟩,rfl⟩
 have:k=0:=by simp at k1; omega
 subst this
 exact EX.mk ⟨1,x,emptyS,nilS⟩ (some ((z:Int):Rat)) [] [] (hx.or (zsj hz) (by decide)) Rd.nil (Nat.le_refl _) rfl (fun k h1 _=>by simp at h1)
end
section
variable {h : Hp} {s : TSketch} {S : PSk} {Kb : Bool → Hp → Prop}
end
end Den
end

section
namespace Den
open Go Iv Lx
theorem keepP.mono {l:List Int} {item:Int} {R Q:List Int} (hs:∀x∈R,x∈Q) (h:keepP l item Q):keepP l item R:=⟨h.1,fun x hx hr=>h.2 x hx (hs x hr)⟩
theorem zzp {its:List (List Int)} {item:Int} {R Q:List Int} (hs:∀x∈R,x∈Q):∀k,(remN its item Q k).Sublist (remN its item R k)
 | 0=>List.Sublist.refl _
 | k+1=>by
   unfold remN
   refine List.Sublist.append (zzp hs k) ?_
   by_cases h:keepP (its.getD k []) item Q
   · rw [if_pos h,if_pos (h.mono hs)]; exact List.Sublist.refl _
   · rw [if_neg h]; exact List.nil_sublist _
theorem zae7 {L:List PCon} {l m:List Int} (h:l.Sublist m):wtL L l≤wtL L m:=by
 unfold wtL
 induction h with
 | slnil=>exact Nat.le_refl _
 | cons a _ ih=>simp only [List.map_cons,List.sum_cons]; omega
 | cons_cons a _ ih=>simp only [List.map_cons,List.sum_cons]; omega
theorem canP.mono {L:List PCon} {cs:List Int} {R Q:List Int} {item:Int} (h:canP L cs R item) (hs:∀x∈R,x∈Q) (hq:item∉Q):canP L cs Q item:=by
 have hsub:(remL (L.map fun c=>itemsC c cs) item Q).Sublist (remL (L.map fun c=>itemsC c cs) item R):=zzp hs _
 exact ⟨hq,Nat.le_trans (zae7 hsub) h.2.1,fun i hi=>h.2.2 i (hsub.subset hi)⟩
theorem zw2 {can:List Int→Int→Bool} {pref:List Int} (hcn:∀R i,can R i=true→i∉R):∀{f:Nat} {R:List Int},(leftL pref R).length≤f→pref.find? (can (peelF can pref f R))=none
 | 0,R,h=>by
   unfold peelF
   rw [List.find?_eq_none]
   intro x hx hc
   have h1:=hcn _ _ hc
   have:x∈leftL pref R:=List.mem_filter.2 ⟨hx,by simpa using h1⟩
   have:=List.length_pos_of_mem this
   omega
 | f+1,R,h=>by
   cases hq:pref.find? (can R) with
   | none=>rw [zjn hcn h hq]; exact hq
   | some i=>
     obtain ⟨g,hg,e1,e2⟩:=zlx hcn h hq
     have:g=f:=by omega
     subst this
     rw [e1]; exact zw2 hcn e2
theorem zw3 {S:PSk} {pref:List Int} {x:Int} (hx:x∈pref):¬canP (allC S) (cens S) (peelS S pref) x:=by
 have e:leftL pref []=pref:=by unfold leftL; rw [List.filter_eq_self]; simp
 have:=zw2 (can:=canB (allC S) (cens S)) (pref:=pref) zxc (f:=pref.length) (R:=[]) (by rw [e]; exact Nat.le_refl _)
 rw [List.find?_eq_none] at this
 intro hc
 exact this x hx (decide_eq_true hc)
theorem za1c {p R Q:List Int} (h:∀x,x∈R↔x∈Q):leftL p R=leftL p Q:=by
 unfold leftL
 exact List.filter_congr fun x _=>by simp only [h x]
end Den
end

section
namespace Den
open Go Iv Lx
theorem OI.set {D h:Hp} {l:Sl} {xs:List Int} {i v:Int} {K:Hp→Prop} (k:Nat) (ho:OI D h l xs) (hi:i=k) (hk:k<xs.length) (H:∀h',OI D h' l (xs.set k v)→K h'):idxP l i 1 fun a=>stP a [.int .i64 v] K h:=by
 have e:∀ys:List Int,ys.map ic=ys.flatMap fun z=>[ic z]:=fun ys=>by induction ys<;>simp_all
 unfold OI at ho
 rw [e] at ho
 refine za2x (c:=fun z:Int=>[ic z]) (n:=1) (fun _=>rfl) (by decide) k ho hi hk rfl fun h' h1 _=>H h' ?_
 unfold OI
 rw [e]; exact h1
section
variable {h : Hp} {s : TSketch} {S : PSk} {K : Bool → Hp → Prop}
end
end Den
end

section
namespace Den
open Go Iv Lx Go.Proofs
open Go.ChangeShapes Go.WideShapes Go.ChangeAt Go.RowKit
section
variable {H : Type} {enc : TypeId × Value → H} {w : World} {cs : List Value}
theorem zaj6 {s:Sl} (h:Okt enc Tryz.prog w 32 [Lf.sl.up s]):(∃T,IL (hpW w) s T∧∀z∈T,-9223372036854775808≤z∧z≤9223372036854775807)∧True:=by
 obtain ⟨s',xs,hs,h1,h2⟩:=zz7 h
 have e:s=s':=by
  simp only [List.cons.injEq,and_true] at hs
  exact Lf.up_inj hs
 subst e
 exact ⟨⟨xs,h1,h2⟩,trivial⟩
end
end Den
end

section
namespace Den
open Go Iv Lx
def keepT (l:List Int) (item:Int) (T:List Int):Prop:=item∈l∧∀x∈l,x∈T
instance (l:List Int) (item:Int) (T:List Int):Decidable (keepT l item T):=by unfold keepT; infer_instance
def remTN (its:List (List Int)) (item:Int) (T:List Int):Nat→List Int
 | 0=>[]
 | k+1=>remTN its item T k++(if keepT (its.getD k []) item T then [(k:Int)] else [])
def remT (its:List (List Int)) (item:Int) (T:List Int):List Int:=remTN its item T its.length
theorem zqy (its:List (List Int)) (item:Int) (T:List Int):∀k,(remTN its item T k).length≤k
 | 0=>by simp [remTN]
 | k+1=>by
   unfold remTN
   have:=zqy its item T k
   rw [List.length_append]
   split<;>simp<;>omega
theorem zwc {its:List (List Int)} {item:Int} {T:List Int}:∀{k:Nat} {j:Int},j∈remTN its item T k↔∃i:Nat,i<k∧j=i∧keepT (its.getD i []) item T
 | 0,j=>by simp [remTN]
 | k+1,j=>by
   unfold remTN
   rw [List.mem_append,zwc]
   constructor
   · rintro (⟨i,hi,h1,h2⟩ | h)
     · exact ⟨i,by omega,h1,h2⟩
     · split at h
       · rename_i h3
         exact ⟨k,by omega,List.mem_singleton.1 h,h3⟩
       · cases h
   · rintro ⟨i,hi,h1,h2⟩
     rcases Nat.lt_or_ge i k with h3 | h3
     · exact .inl ⟨i,h3,h1,h2⟩
     · have:i=k:=by omega
       subst this
       right
       rw [if_pos h2]; exact List.mem_singleton.2 h1
def oddL (L:List PCon) (cs:List Int) (item:Int) (l:List Int):List Int:=l.filter fun i=>decide (¬suitP (L.getD i.toNat dC) cs item)
def prevT (S:PSk) (item:Int) (T:List Int):List Int:=
 if most item<wtL (allC S) (remT (its S) item T) then remT (its S) item T else oddL (allC S) (cens S) item (remT (its S) item T)
theorem za2n {S:PSk} (hs:sSk S) (hv:VS S) {k:Nat} (hk:k<(its S).length) {x:Int} (hx:x∈(its S)[k]):x∈allS S:=by
 rw [zdw] at hk
 have hok:=(zh4 hv hs _ (List.getElem_mem hk)).1
 have hx:x∈itemsC (allC S)[k] (cens S):=by simpa [its] using hx
 unfold itemsC at hx
 unfold allS
 rw [znb]
 rcases List.mem_append.1 hx with hx | hx
 · exact .inl (hok.2.1.2 x hx)
 · obtain ⟨j,hj,hx⟩:=List.mem_flatMap.1 hx
   have hj2:=hok.2.2.1.2 j hj
   have h3:x=-1-j∨x=(cens S).getD j.toNat 0:=by
    unfold itK at hx
    split at hx
    · simpa using hx
    · exact .inl (by simpa using hx)
   rcases h3 with rfl | rfl
   · right; omega
   · left
     have hcl:=zhs (S:=S)
     have h4:j.toNat<(cens S).length:=by omega
     rw [zb9 h4]
     have h5:(cens S)[j.toNat]=(S.cir[j.toNat]'(by omega)).1:=by simp [cens]
     rw [h5]
     exact (hv.2.1 _ (List.getElem_mem _)).1
theorem zac7 {S:PSk} (hs:sSk S) (hv:VS S) {item:Int} {T R:List Int} (hT:∀x∈allS S,x∈T↔x∉R):remT (its S) item T=remL (its S) item R:=by
 unfold remT remL
 suffices H:∀k,k≤(its S).length→remTN (its S) item T k=remN (its S) item R k from H _ (Nat.le_refl _)
 intro k
 induction k with
 | zero=>intro _; rfl
 | succ k ih=>
   intro hk
   unfold remTN remN
   rw [ih (by omega)]
   have hg:(its S).getD k []=(its S)[k]:=zb9 hk
   have e:keepT ((its S).getD k []) item T↔keepP ((its S).getD k []) item R:=by
    rw [hg]
    unfold keepT keepP
    exact and_congr_right fun _=>⟨fun h x hx=>(hT x (za2n hs hv hk hx)).1 (h x hx),fun h x hx=>(hT x (za2n hs hv hk hx)).2 (h x hx)⟩
   by_cases h:keepP ((its S).getD k []) item R
   · rw [if_pos h,if_pos (e.2 h)]
   · rw [if_neg h,if_neg (fun hh=>h (e.1 hh))]
theorem zsv {S:PSk} (hs:sSk S) (hv:VS S) {item:Int} {T R:List Int} (hT:∀x∈allS S,x∈T↔x∉R) (hi:item∉R):prevT S item T=[]↔canP (allC S) (cens S) R item:=by
 have e:(allC S).map (fun c=>itemsC c (cens S))=its S:=rfl
 unfold prevT canP
 rw [zac7 hs hv hT,e]
 constructor
 · intro h
   split at h
   · rename_i h1
     rw [h] at h1
     simp [wtL] at h1
   · rename_i h1
     refine ⟨hi,by omega,fun i hi=>Classical.byContradiction fun hn=>?_⟩
     have:i∈oddL (allC S) (cens S) item (remL (its S) item R):=List.mem_filter.2 ⟨hi,by simpa using hn⟩
     rw [h] at this; cases this
 · rintro ⟨_,h1,h2⟩
   rw [if_neg (by omega)]
   unfold oddL
   rw [List.filter_eq_nil_iff]
   intro i hi
   simpa using h2 i hi
theorem zto {α:Type} {p:α→Bool} {i:α}:[i].filter p=if p i=true then [i] else []:=by
 cases h:p i<;>simp [List.filter,h]
theorem za96 {L:List PCon} {cs:List Int} {item i:Int} {l:List Int}:oddL L cs item (l++[i])=oddL L cs item l++(if suitP (L.getD i.toNat dC) cs item then [] else [i]):=by
 unfold oddL
 rw [List.filter_append,zto]
 congr 1
 by_cases h:suitP (L.getD i.toNat dC) cs item
 · rw [if_pos h,if_neg (by simp only [decide_eq_true_iff]; exact fun hn=>hn h)]
 · rw [if_neg h,if_pos (decide_eq_true h)]
section
variable {h : Hp} {s : TSketch} {S : PSk} {x : TConstraint} {c : PCon} {cs : List Int} {ce : Sl} {item : Int} {T : List Int} {ts : Sl} {Kb : Bool → Hp → Prop} {Ki : Int → Hp → Prop} {Ks : Sl → Hp → Prop} {K : (Sl × Sl) → Hp → Prop}
theorem zrr (hx:SK h s S) (hs:sSk S) (hv:VS S) (hr:IL h ts T) (hT:T.length≤100000) (H:∀y h',h.le h'→OI h h' y (remT (its S) item T)→Ks y h'):callP (F.zhl s item ts) Ks h:=by
 refine za1 (fun y h'=>OI h h' y (remT (its S) item T)) (fun K' hk=>?_) fun b h' hl hb=>H b h' hl hb
 unfold F.zhl
 have hal:=zhq hs
 have hok:=zh4 hv hs
 have hcl:=zhs (S:=S)
 have s2:=hs.2.1
 refine zqu hx hv hs fun r1 h1 hl1 hL=>?_
 have hLl:=hL.len zac
 refine zbx (n:=(allC S).length) (by omega) (fun i y h'=>OI h1 h' y (remTN (its S) item T i)) OI.nil ?_
 intro i y h3 hi ho k hk2
 have hle:=Hp.le_trans hl1 ho.dle
 refine za0 (fun h4=>?_) (fun h4=>?_)
 · have hi':i<(allC S).length:=by simp only at h4; omega
   refine za3 (fun s h'=>OI h1 h' s.1 (remTN (its S) item T (i+1))) (fun s h' hs=>hk2 _ _ hi' hs) ?_
   refine (hL.le zac ho.dle).get zac i rfl hi' fun a x hxx hcx=>⟨_,hcx 0 _ rfl,_,hcx 1 _ rfl,_,hcx 2 _ rfl,_,hcx 3 _ rfl,_,hcx 4 _ rfl,?_⟩
   have hg:(its S).getD i []=itemsC (allC S)[i] (cens S):=by
    rw [zb9 (by rw [zdw]; exact hi')]
    simp [its]
   have hstep:remTN (its S) item T (i+1)=remTN (its S) item T i++(if keepT (itemsC (allC S)[i] (cens S)) item T then [(i:Int)] else []):=by
    conv=>lhs; unfold remTN
    rw [hg]
   have hrl:=zqy (its S) item T i
   have hokc:=hok _ (List.getElem_mem hi')
   have hlen:=zme (cs:=cens S) hokc.2
   refine zm6 (hx.le hle) hs fun r8 h4 hl4 hC=>?_
   have ho4:=ho.le hl4
   refine zq6 (x:=x) (hxx.le hl4) hC.il hokc.2 hokc.1.cirOk (by omega) fun r9 h5 hl5 ho5=>?_
   have hI:=ho5.il
   have hoy:=ho4.le hl5
   refine zuc hI (by omega) fun h6 hl6=>?_
   have ho6:=hoy.le hl6
   refine za0 (fun h7=>?_) (fun h7=>?_)
   · refine zq7 (hI.le hl6) (hr.le (Hp.le_trans hle (Hp.le_trans hl4 (Hp.le_trans hl5 hl6)))) (by omega) (by omega) fun h8 hl8=>?_
     have ho8:=ho6.le hl8
     refine za2 (fun h9=>?_) (fun h9=>?_)
     · have hkp:keepT (itemsC (allC S)[i] (cens S)) item T:=⟨h7,fun x hx=>of_decide_eq_true (List.all_eq_true.1 h9 x hx)⟩
       refine ho8.app (by omega) fun z h11 ho11=>?_
       show OI _ _ _ _
       rw [hstep,if_pos hkp]; exact ho11
     · have hkp:¬keepT (itemsC (allC S)[i] (cens S)) item T:=fun hh=>by
        have:((itemsC (allC S)[i] (cens S)).all fun x=>decide (x∈T))=true:=List.all_eq_true.2 fun x hx=>decide_eq_true (hh.2 x hx)
        rw [this] at h9; cases h9
       show OI _ _ _ _
       rw [hstep,if_neg hkp,List.append_nil]; exact ho8
   · show OI _ _ _ _
     rw [hstep,if_neg (fun hh=>h7 hh.1),List.append_nil]; exact ho6
 · have:i=(allC S).length:=by simp only at h4; omega
   subst this
   refine hk _ _ hle ?_
   have ho:=ho.base hl1
   unfold remT
   rw [zdw]; exact ho
theorem zwt (hS:SK h s S) (hsS:sSk S) (hx:CO h x c) (hs:sC c) (hok:cirOk c (cens S)) (hv:lenC c) (hi:-9223372036854775808≤item∧item≤9223372036854775807) (H:∀b h',h.le h'→(b=true↔suitP c (cens S) item)→Kb b h'):callP (F.zlj s x item) Kb h:=by
 refine za1 (fun b h'=>b=true↔suitP c (cens S) item) (fun K' hk=>?_) fun b h' hl hb=>H b h' hl hb
 unfold F.zlj
 unfold suitP at hk
 refine zm6 hS hsS fun r1 h1 hl1 hC=>?_
 have hx:=hx.le hl1
 refine za0 (fun h1=>?_) (fun h1=>?_)
 · rw [if_pos h1] at hk
   have e1:IntKind.i64.wrap (-1-item)=-1-item:=w64 (by omega)
   rw [e1]
   exact za1n hx hC.il hs hok hv fun b h' hl hb=>hk _ _ (Hp.le_trans hl1 hl) hb
 · rw [if_neg h1] at hk
   refine za44 hx hC.il hs hok hv fun h2 hl2=>?_
   refine zma hx.1 ⟨hv.2.2.1,hv.2.2.2.1⟩ fun h3 hl3=>?_
   have hle:=Hp.le_trans hl1 (Hp.le_trans hl2 hl3)
   refine za7 (fun h4=>hk _ _ hle ?_) (fun h4=>?_)
   · rw [if_pos (by omega),beq_iff_eq]
   · rw [if_neg (by omega)] at hk
     refine za7 (fun h5=>hk _ _ hle ⟨fun _=>.inl h5,fun _=>rfl⟩) (fun h5=>hk _ _ hle ?_)
     rw [beq_iff_eq]
     exact ⟨fun hh=>.inr hh,fun hh=>hh.resolve_left h5⟩
theorem znh (hx:SK h s S) (hs:sSk S) (hv:VS S) (hr:IL h ts T) (hT:T.length≤100000) (hi:-9223372036854775808≤item∧item≤9223372036854775807) (H:∀y h',h.le h'→IL h' y (prevT S item T)→Ks y h'):callP (F.zdb s item ts) Ks h:=by
 refine za1 (fun y h'=>IL h' y (prevT S item T)) (fun K' hk=>?_) fun b h' hl hb=>H b h' hl hb
 unfold F.zdb
 have hal:=zhq hs
 have hok:=zh4 hv hs
 refine zqu hx hv hs fun r1 h1 hl1 hL=>?_
 refine zrr (item:=item) (hx.le hl1) hs hv (hr.le hl1) hT fun r2 h2 hl2 ho2=>?_
 obtain ⟨A,hA⟩:∃A,A=remT (its S) item T:=⟨_,rfl⟩
 have hAin:∀i∈A,∃k:Nat,k<(allC S).length∧i=k:=fun i hi=>by
  rw [hA] at hi
  obtain ⟨k,h1,h2,_⟩:=zwc.1 hi
  rw [zdw] at h1
  exact ⟨k,h1,h2⟩
 have hAl:A.length≤40:=by
  have:=zqy (its S) item T (its S).length
  rw [zdw] at this
  rw [hA]
  unfold remT
  rw [zdw]; omega
 unfold prevT at hk
 rw [←hA] at ho2 hk
 have hle2:=Hp.le_trans hl1 hl2
 have hI:=ho2.il
 have hIl:=hI.len
 refine zabt (n:=A.length) (by omega) (fun i a y h'=>a=((wtL (allC S) (A.take i):Nat):Int)∧OI h2 h' y (oddL (allC S) (cens S) item (A.take i))) ⟨by simp [wtL],OI.nil⟩ ?_
 rintro i a y h3 hi3 ⟨ha,ho⟩ k hk2
 have hle3:=Hp.le_trans hle2 ho.dle
 refine za0 (fun h4=>?_) (fun h4=>?_)
 · have hi':i<A.length:=by simp only at h4; omega
   obtain ⟨q,hq1,hq2⟩:=hAin _ (List.getElem_mem hi')
   have hg:(allC S).getD q dC=(allC S)[q]:=zb9 hq1
   have hw:=za0i (L:=allC S) (A.take i)
   rw [List.length_take] at hw
   have hw2:=zyk (allC S)[q].kind
   have hwt:wtL (allC S) (A.take (i+1))=wtL (allC S) (A.take i)+eqK (allC S)[q].kind:=by
    rw [←List.take_append_getElem hi',zt1,hq2,show ((q:Nat):Int).toNat=q from rfl,hg]
   have hodd:oddL (allC S) (cens S) item (A.take (i+1))=oddL (allC S) (cens S) item (A.take i)++(if suitP (allC S)[q] (cens S) item then [] else [(q:Int)]):=by
    rw [←List.take_append_getElem hi',za96,hq2,show ((q:Nat):Int).toNat=q from rfl,hg]
   have hokc:=hok _ (List.getElem_mem hq1)
   refine za3 (fun s h'=>s.1=((wtL (allC S) (A.take (i+1)):Nat):Int)∧OI h2 h' s.2.1 (oddL (allC S) (cens S) item (A.take (i+1)))) (fun s h' hs=>hk2 _ _ _ hi' hs) ?_
   refine (hI.le ho.dle).get i rfl hi' ?_
   rw [hq2]
   have hL3:=hL.le zac (Hp.le_trans hl2 ho.dle)
   refine hL3.get zac q rfl hq1 fun a9 x hxx hcx=>⟨_,hcx 0 _ rfl,_,hcx 1 _ rfl,_,hcx 2 _ rfl,_,hcx 3 _ rfl,_,hcx 4 _ rfl,?_⟩
   refine zma (x:=x) (c:=(allC S)[q]) hxx.1 hokc.1.1 fun h5 hl5=>?_
   have ho5:=ho.le hl5
   refine (hI.le ho5.dle).get i rfl hi' ?_
   rw [hq2]
   refine (hL3.le zac hl5).get zac q rfl hq1 fun a14 x2 hxx2 hcx2=>⟨_,hcx2 0 _ rfl,_,hcx2 1 _ rfl,_,hcx2 2 _ rfl,_,hcx2 3 _ rfl,_,hcx2 4 _ rfl,?_⟩
   refine zwt (x:=x2) (hx.le (Hp.le_trans hle3 hl5)) hs hxx2 hokc.2 hokc.1.cirOk hokc.1.lenC hi fun b h6 hl6 hb=>?_
   have ho6:=ho5.le hl6
   have hol:(oddL (allC S) (cens S) item (A.take i)).length≤40:=by
    have:=List.length_filter_le (fun i=>decide (¬suitP ((allC S).getD i.toNat dC) (cens S) item)) (A.take i)
    rw [List.length_take] at this
    unfold oddL; omega
   have hwr:IntKind.i64.wrap (a+((eqK (allC S)[q].kind:Nat):Int))=((wtL (allC S) (A.take (i+1)):Nat):Int):=by
    rw [ha,hwt,w64 (by omega)]; rfl
   refine za2 (fun h7=>?_) (fun h7=>?_)
   · have hn:¬suitP (allC S)[q] (cens S) item:=fun hh=>by rw [hb.2 hh] at h7; cases h7
     refine (hI.le ho6.dle).get i rfl hi' ?_
     rw [hq2]
     refine ho6.app (by omega) fun w h8 ho8=>⟨hwr,?_⟩
     rw [hodd,if_neg hn]; exact ho8
   · have hp:suitP (allC S)[q] (cens S) item:=hb.1 (by simpa using h7)
     refine ⟨hwr,?_⟩
     rw [hodd,if_pos hp,List.append_nil]; exact ho6
 · have:i=A.length:=by simp only at h4; omega
   subst this
   rw [List.take_length] at ha ho
   have hI3:=hI.le ho.dle
   have yes:most item<wtL (allC S) A→K' r2 h3:=fun hh=>hk _ _ hle3 (by rw [if_pos hh]; exact hI3)
   have no:¬most item<wtL (allC S) A→K' y h3:=fun hh=>hk _ _ hle3 (by rw [if_neg hh]; exact ho.il)
   simp only
   rw [ha]
   unfold most at yes no
   refine za0 (fun h5=>?_) (fun h5=>?_)
   · rw [if_neg (by omega)] at yes no
     refine za0 (fun h6=>yes (by omega)) (fun h6=>za0 (fun h7=>by omega) (fun h7=>no (by omega)))
   · rw [if_pos (by omega)] at yes no
     refine za0 (fun h6=>za0 (fun h7=>yes (by omega)) (fun h7=>no (by omega))) (fun h6=>by omega)
theorem zyw {A R:List Int} {z:Int}:(leftL A R).filter (fun x=>x != z)=leftL A (R++[z]):=by
 unfold leftL
 rw [List.filter_filter]
 congr 1
 funext x
 by_cases h1:x∈R<;>by_cases h2:x=z<;>simp [h1,h2]
def SeqR (S:PSk) (R:List Int):Prop:=∀k,k<R.length→canP (allC S) (cens S) (R.take k) (R.getD k 0)∧R.getD k 0∈allS S
theorem SeqR.snoc {S:PSk} {R:List Int} {x:Int} (h:SeqR S R) (hc:canP (allC S) (cens S) R x) (hx:x∈allS S):SeqR S (R++[x]):=fun k hk=>by
 rw [List.length_append,List.length_singleton] at hk
 rcases Nat.lt_or_ge k R.length with h1 | h1
 · rw [List.take_append_of_le_length (by omega),zvq h1]
   exact h k h1
 · have:k=R.length:=by omega
   subst this
   rw [List.take_append_of_le_length (Nat.le_refl _),List.take_length,zvr (Nat.le_refl _)]
   simp only [Nat.sub_self,List.getD_cons_zero]
   exact ⟨hc,hx⟩
theorem za2w {S:PSk} {R Q:List Int} (h:SeqR S R) (hQ:∀x∈allS S,¬canP (allC S) (cens S) Q x):∀x∈R,x∈Q:=by
 suffices H:∀k,k≤R.length→∀x∈R.take k,x∈Q by
  intro x hx
  have:=H _ (Nat.le_refl _)
  rw [List.take_length] at this
  exact this x hx
 intro k
 induction k with
 | zero=>intro _ x hx; simp at hx
 | succ k ih=>
   intro hk x hx
   have hk':k<R.length:=by omega
   rw [←List.take_append_getElem hk',List.mem_append] at hx
   rcases hx with hx | hx
   · exact ih (by omega) x hx
   · rw [List.mem_singleton] at hx
     obtain ⟨h1,h2⟩:=h k hk'
     rw [zb9 hk',←hx] at h1 h2
     exact Classical.byContradiction fun hn=>hQ _ h2 (h1.mono (ih (by omega)) hn)
theorem zace {S:PSk}:SeqR S (peelS S (allS S)):=fun k hk=>zzf hk
theorem zadz {S:PSk} {R:List Int} (h:SeqR S R) (hR:∀x∈allS S,¬canP (allC S) (cens S) R x):leftL (allS S) R=leftL (allS S) (peelS S (allS S)):=
 za1c fun x=>⟨za2w h (fun y hy=>zw3 hy) x,za2w zace hR x⟩
def coreS (S:PSk):List Int:=leftL (allS S) (peelS S (allS S))
theorem zqg {S:PSk} (hs:sSk S):(coreS S).length≤20:=Nat.le_trans (List.length_filter_le _ _) (zn4 hs)
theorem za45 (hx:SK h s S) (hs:sSk S) (H0:∀h',h.le h'→¬VS S→Ks nilS h') (H:∀y h',h.le h'→VS S→IL h' y (coreS S)→Ks y h'):callP (F.zmu s) Ks h:=by
 refine za1 (fun y h'=>(¬VS S∧y=nilS)∨(VS S∧IL h' y (coreS S))) (fun K' hk=>?_) fun y h' hl hb=>by
  rcases hb with ⟨h1,rfl⟩ | ⟨h1,h2⟩
  · exact H0 h' hl h1
  · exact H y h' hl h1 h2
 unfold F.zmu
 refine zno hx hs fun r h1 hl1 hr1=>?_
 refine zbg (fun h2=>hk _ _ hl1 (.inl ⟨fun hv=>h2 (hr1.2 hv),rfl⟩)) (fun h2=>?_)
 have hv:=hr1.1 h2
 refine zs6 (hx.le hl1) hs fun r2 h3 hl3 ho3=>?_
 have hle3:=Hp.le_trans hl1 hl3
 have ho3:OI h1 h3 r2 (allS S):=ho3
 have hal:=zn4 hs
 have h2l:=ho3.il.len
 rw [show IntKind.i64.wrap ((r2.len:Int)-1)=(r2.len:Int)-1 from w64 (by omega)]
 have e0:leftL (allS S) []=allS S:=by unfold leftL; rw [List.filter_eq_self]; simp
 refine zp1 (fun f st h'=>∃(R:List Int) (y:Sl) (n:Nat),st=(y,(n:Int)-1,())∧h3.le h'∧IL h' y (leftL (allS S) R)∧SeqR S R∧n≤(leftL (allS S) R).length ∧
  (∀j (hj:j<(leftL (allS S) R).length),n≤j→¬canP (allC S) (cens S) R (leftL (allS S) R)[j])∧(leftL (allS S) R).length*100+n≤f) (n0:=3000)
  ⟨[],r2,(allS S).length,by rw [h2l],Hp.le_refl _,by rw [e0]; exact ho3.il,fun k hk=>by simp at hk,by rw [e0]; exact Nat.le_refl _,fun j hj hn=>by rw [e0] at hj; omega,by rw [e0]; omega⟩ ?_
 rintro f _ h4 ⟨R,y,n,rfl,hl4,hI,hsq,hn,hno,hf⟩ K2 hK2
 have hle4:=Hp.le_trans hle3 hl4
 have hll:(leftL (allS S) R).length≤(allS S).length:=List.length_filter_le _ _
 have hIl:=hI.len
 refine za0 (fun h5=>?_) (fun h5=>?_)
 · obtain ⟨m,rfl⟩:∃m,n=m+1:=⟨n-1,by simp only at h5; omega⟩
   have hi:(((m+1:Nat):Int)-1)=(m:Int):=by omega
   simp only [hi]
   have hm:m<(leftL (allS S) R).length:=by omega
   have hmem:=List.getElem_mem hm
   have hm2:=List.mem_filter.1 hmem
   have hxR:(leftL (allS S) R)[m]∉R:=by simpa using hm2.2
   have hsm:=zoq hs hm2.1
   unfold smI at hsm
   have hTT:∀x∈allS S,x∈leftL (allS S) R↔x∉R:=fun x hx=>by
    unfold leftL
    rw [List.mem_filter]
    exact ⟨fun h=>by simpa using h.2,fun h=>⟨hx,by simpa using h⟩⟩
   refine za3 (fun st h'=>∃(R':List Int) (y':Sl) (n':Nat),st=(y',(n':Int),())∧h3.le h'∧IL h' y' (leftL (allS S) R')∧SeqR S R'∧n'≤(leftL (allS S) R').length ∧
    (∀j (hj:j<(leftL (allS S) R').length),n'≤j→¬canP (allC S) (cens S) R' (leftL (allS S) R')[j])∧(leftL (allS S) R').length*100+n'<f) ?_ ?_
   · rintro _ h6 ⟨R',y',n',rfl,g1,g2,g3,g4,g5,g6⟩
     have hll':(leftL (allS S) R').length≤(allS S).length:=List.length_filter_le _ _
     refine hK2 _ _ _ g6 ⟨R',y',n',?_,g1,g2,g3,g4,g5,Nat.le_refl _⟩
     simp only
     rw [w64 (by omega)]
   · refine hI.get m rfl hm ?_
     refine znh (item:=(leftL (allS S) R)[m]) (hx.le hle4) hs hv hI (by omega) (by omega) fun r9 h5 hl5 hr9=>?_
     have hpn:=zsv hs hv hTT hxR
     have h9l:=hr9.len
     have l35:=Hp.le_trans hl4 hl5
     refine za7 (fun h6=>?_) (fun h6=>?_)
     · have hc:=hpn.1 (List.eq_nil_of_length_eq_zero (by omega))
       refine (hI.le hl5).get m rfl hm ?_
       refine zv9 (hI.le hl5) (by omega) fun y6 h6 ho6=>?_
       rw [zyw] at ho6
       have hlt:=ztw hm2.1 hxR
       have h6l:=ho6.il.len
       refine ⟨R++[(leftL (allS S) R)[m]],y6,(leftL (allS S) (R++[(leftL (allS S) R)[m]])).length,by rw [h6l],Hp.le_trans l35 ho6.dle,ho6.il,hsq.snoc hc hm2.1,Nat.le_refl _,fun j hj hn=>by omega,by omega⟩
     · have hc:¬canP (allC S) (cens S) R (leftL (allS S) R)[m]:=fun hh=>h6 (by rw [hpn.2 hh] at h9l; simp at h9l; omega)
       refine ⟨R,y,m,rfl,l35,hI.le hl5,hsq,by omega,fun j hj hmj=>?_,by omega⟩
       rcases Nat.lt_or_ge m j with h7 | h7
       · exact hno j hj (by omega)
       · have:j=m:=by omega
         subst this
         exact hc
 · have:n=0:=by simp only at h5; omega
   subst this
   refine hk _ _ hle4 (.inr ⟨hv,?_⟩)
   have e:leftL (allS S) R=coreS S:=zadz hsq fun x hx hc=>by
    have hxl:x∈leftL (allS S) R:=List.mem_filter.2 ⟨hx,by simpa using hc.1⟩
    obtain ⟨j,hj,rfl⟩:=List.mem_iff_getElem.1 hxl
    exact hno j hj (by omega) hc
   rw [←e]; exact hI
def inAll (l T:List Int):Prop:=∀x∈l,x∈T
instance (l T:List Int):Decidable (inAll l T):=by unfold inAll; infer_instance
def wiN (its:List (List Int)) (T:List Int):Nat→List Int
 | 0=>[]
 | k+1=>wiN its T k++(if inAll (its.getD k []) T then [(k:Int)] else [])
def wiS (S:PSk) (T:List Int):List Int:=wiN (its S) T (its S).length
theorem zrm (its:List (List Int)) (T:List Int):∀k,(wiN its T k).length≤k
 | 0=>by simp [wiN]
 | k+1=>by
   unfold wiN
   have:=zrm its T k
   rw [List.length_append]
   split<;>simp<;>omega
def CORE (h:Hp) (S:PSk) (r:Sl×Sl):Prop:=(VS S∧coreS S≠[]∧IL h r.1 (coreS S)∧IL h r.2 (wiS S (coreS S)))∨((¬VS S∨coreS S=[])∧r=(nilS,nilS))
theorem za42 (hx:SK h s S) (hs:sSk S) (H:∀r h',h.le h'→CORE h' S r→K r h'):callP (F.zmt s) K h:=by
 refine za1 (fun r h'=>CORE h' S r) (fun K' hk=>?_) fun y h' hl hb=>H y h' hl hb
 unfold F.zmt
 refine za45 hx hs (fun h1 hl1 hn=>?_) (fun y h1 hl1 hv hI=>?_)
 · exact za7 (fun _=>hk _ _ hl1 (.inr ⟨.inl hn,rfl⟩)) (fun hh=>absurd rfl hh)
 have hIl:=hI.len
 have hcl0:=zqg hs
 refine za7 (fun h2=>hk _ _ hl1 (.inr ⟨.inr (List.eq_nil_of_length_eq_zero (by omega)),rfl⟩)) (fun h2=>?_)
 have hal:=zhq hs
 have hok:=zh4 hv hs
 have hcl:=zhs (S:=S)
 have s2:=hs.2.1
 refine zqu (hx.le hl1) hv hs fun r2 h3 hl3 hL=>?_
 have hle3:=Hp.le_trans hl1 hl3
 have hLl:=hL.len zac
 refine zbx (n:=(allC S).length) (by omega) (fun i y h'=>OI h3 h' y (wiN (its S) (coreS S) i)) OI.nil ?_
 intro i z h4 hi ho k hk2
 have hle:=Hp.le_trans hle3 ho.dle
 refine za0 (fun h5=>?_) (fun h5=>?_)
 · have hi':i<(allC S).length:=by simp only at h5; omega
   refine za3 (fun s h'=>OI h3 h' s.1 (wiN (its S) (coreS S) (i+1))) (fun s h' hs=>hk2 _ _ hi' hs) ?_
   refine (hL.le zac ho.dle).get zac i rfl hi' fun a x hxx hcx=>⟨_,hcx 0 _ rfl,_,hcx 1 _ rfl,_,hcx 2 _ rfl,_,hcx 3 _ rfl,_,hcx 4 _ rfl,?_⟩
   have hg:(its S).getD i []=itemsC (allC S)[i] (cens S):=by
    rw [zb9 (by rw [zdw]; exact hi')]
    simp [its]
   have hstep:wiN (its S) (coreS S) (i+1)=wiN (its S) (coreS S) i++(if inAll (itemsC (allC S)[i] (cens S)) (coreS S) then [(i:Int)] else []):=by
    conv=>lhs; unfold wiN
    rw [hg]
   have hrl:=zrm (its S) (coreS S) i
   have hokc:=hok _ (List.getElem_mem hi')
   have hlen:=zme (cs:=cens S) hokc.2
   refine zm6 (hx.le hle) hs fun r9 h6 hl6 hC=>?_
   refine zq6 (x:=x) (hxx.le hl6) hC.il hokc.2 hokc.1.cirOk (by omega) fun r10 h7 hl7 ho7=>?_
   refine zq7 ho7.il (hI.le (Hp.le_trans hl3 (Hp.le_trans ho.dle (Hp.le_trans hl6 hl7)))) (by omega) (by omega) fun h8 hl8=>?_
   have ho8:=((ho.le hl6).le hl7).le hl8
   refine za2 (fun h9=>?_) (fun h9=>?_)
   · have hkp:inAll (itemsC (allC S)[i] (cens S)) (coreS S):=fun x hx=>of_decide_eq_true (List.all_eq_true.1 h9 x hx)
     refine ho8.app (by omega) fun z h11 ho11=>?_
     show OI _ _ _ _
     rw [hstep,if_pos hkp]; exact ho11
   · have hkp:¬inAll (itemsC (allC S)[i] (cens S)) (coreS S):=fun hh=>by
      have:((itemsC (allC S)[i] (cens S)).all fun x=>decide (x∈coreS S))=true:=List.all_eq_true.2 fun x hx=>decide_eq_true (hh x hx)
      rw [this] at h9; cases h9
     show OI _ _ _ _
     rw [hstep,if_neg hkp,List.append_nil]; exact ho8
 · have:i=(allC S).length:=by simp only at h5; omega
   subst this
   refine hk _ _ hle (.inl ⟨hv,fun hh=>by rw [hh] at hIl; simp at hIl; omega,hI.le (Hp.le_trans hl3 ho.dle),?_⟩)
   unfold wiS
   rw [zdw]; exact ho.il
end
end Den
end

section
namespace Den
open Go Iv Lx
section
variable {h D : Hp} {s : TSketch} {S : PSk} {x : TConstraint} {c : PCon} {cs : List Int} {ce l rs : Sl} {item : Int} {R xs : List Int} {p1 p2 : Addr} {Kb : Bool → Hp → Prop} {Ki : Int → Hp → Prop} {Ks : Sl → Hp → Prop} {K : (Sl × Sl) → Hp → Prop}
theorem za21 (hx:SK h s S) (hs:sSk S) (hv:VS S) (hl:IL h l xs) (hlen:xs.length≤1000) (H:∀y h',h.le h'→IL h' y (wiS S xs)→Ks y h'):callP (F.zl4 s l) Ks h:=by
 refine za1 (fun y h'=>IL h' y (wiS S xs)) (fun K' hk=>?_) fun b h' hl hb=>H b h' hl hb
 unfold F.zl4
 have hal:=zhq hs
 have hok:=zh4 hv hs
 have hcl:=zhs (S:=S)
 have s2:=hs.2.1
 refine zdg fun p1 h1 hl1 c1=>?_
 refine zwj (hx.le hl1) hs fun r2 h2 hl2 hC=>?_
 have hle2:=Hp.le_trans hl1 hl2
 refine za4z (hx.le hle2) hv hs fun r3 h3 hl3 hL=>?_
 have hle3:=Hp.le_trans hle2 hl3
 have hLl:=hL.len zac
 refine zbx (n:=(allC S).length) (by omega) (fun i y h'=>OI h3 h' y (wiN (its S) xs i)) OI.nil ?_
 intro i z h4 hi ho k hk2
 have hle:=Hp.le_trans hle3 ho.dle
 refine za0 (fun h5=>?_) (fun h5=>?_)
 · have hi':i<(allC S).length:=by simp only at h5; omega
   refine za3 (fun s h'=>OI h3 h' s.1 (wiN (its S) xs (i+1))) (fun s h' hs=>hk2 _ _ hi' hs) ?_
   refine (hL.le zac ho.dle).get zac i rfl hi' fun a x hxx hcx=>⟨_,hcx 0 _ rfl,_,hcx 1 _ rfl,_,hcx 2 _ rfl,_,hcx 3 _ rfl,_,hcx 4 _ rfl,?_⟩
   have hg:(its S).getD i []=itemsC (allC S)[i] (cens S):=by
    rw [zb9 (by rw [zdw]; exact hi')]
    simp [its]
   have hstep:wiN (its S) xs (i+1)=wiN (its S) xs i++(if inAll (itemsC (allC S)[i] (cens S)) xs then [(i:Int)] else []):=by
    conv=>lhs; unfold wiN
    rw [hg]
   have hrl:=zrm (its S) xs i
   have hokc:=hok _ (List.getElem_mem hi')
   have hlen2:=zme (cs:=cens S) hokc.2
   refine za0w (x:=x) hxx (hC.il.le (Hp.le_trans hl3 ho.dle)) hokc.2 hokc.1.cirOk (by omega) fun r10 h6 hl6 ho6=>?_
   have hoz:=ho.le hl6
   have l16:h1.le h6:=Hp.le_trans hl2 (Hp.le_trans hl3 hoz.dle)
   refine za1 (fun b h'=>b=true↔∃x∈itemsC (allC S)[i] (cens S),x∉xs) (fun K2 hk3=>?_) fun b h7 hl7 hb=>?_
   · unfold F.zcl
     refine za1 (fun r h'=>Fnd (fun x=>x∉xs) (itemsC (allC S)[i] (cens S)) r) (fun K4 hk4=>?_) fun r h' hl hr=>hk3 _ _ hl (by rw [decide_eq_true_iff]; exact hr.iff)
     unfold F.zcq
     refine zjk ho6.il (by omega) (fun x _ h7 hl7 K5 hK5=>?_) fun r h' hl hr=>hk4 _ _ hl hr
     refine za1 (fun b h'=>b=true↔x∉xs) (fun K6 hk6=>?_) fun b h8 hl8 hb=>hK5 _ _ hl8 hb
     unfold F.zm5
     have l17:=Hp.le_trans l16 hl7
     refine ⟨_,Hp.cell_le l17 c1,?_⟩
     exact zd7 (hl.le (Hp.le_trans hl1 l17)) (by omega) fun h8 hl8=>hk6 _ _ hl8 (by simp)
   · have ho7:=hoz.le hl7
     refine za2 (fun h8=>?_) (fun h8=>?_)
     · have hkp:inAll (itemsC (allC S)[i] (cens S)) xs:=fun x hx=>Classical.byContradiction fun hn=>by rw [hb.2 ⟨x,hx,hn⟩] at h8; cases h8
       refine ho7.app (by omega) fun z h11 ho11=>?_
       show OI _ _ _ _
       rw [hstep,if_pos hkp]; exact ho11
     · have hkp:¬inAll (itemsC (allC S)[i] (cens S)) xs:=fun hh=>by
        obtain ⟨x,hx,hn⟩:=hb.1 (by simpa using h8)
        exact hn (hh x hx)
       show OI _ _ _ _
       rw [hstep,if_neg hkp,List.append_nil]; exact ho7
 · have:i=(allC S).length:=by simp only at h5; omega
   subst this
   refine hk _ _ hle ?_
   unfold wiS
   rw [zdw]; exact ho.il
theorem zvd (hx:SK h s S) (hs:sSk S) (ht:GT h) (H:∀r h',h.le h'→CORE h' S r→K r h'):callP (F.zht s) K h:=by
 refine za1 (fun r h'=>CORE h' S r) (fun K' hk=>?_) fun y h' hl hb=>H y h' hl hb
 unfold F.zht
 refine ziw hx hs ht fun r h1 hl1 hr=>?_
 refine zbg (fun h2=>hk _ _ hl1 (.inr ⟨.inl fun hv=>h2 (hr.2 hv),rfl⟩)) (fun h2=>?_)
 have hv:=hr.1 h2
 refine zvf (hx.le hl1) hs (ht.le hl1) (fun _ _ hn=>absurd hv hn) fun a b h3 hl3 _ ha hb=>?_
 have hle3:=Hp.le_trans hl1 hl3
 have hb:IL h3 b (coreS S):=hb
 have hbl:=hb.len
 have hcl:=zqg hs
 refine za7 (fun h4=>hk _ _ hle3 (.inr ⟨.inr (List.eq_nil_of_length_eq_zero (by simp only at h4; omega)),rfl⟩)) (fun h4=>?_)
 refine za21 (hx.le hle3) hs hv hb (by omega) fun y h5 hl5 hy=>hk _ _ (Hp.le_trans hle3 hl5) (.inl ⟨hv,fun hh=>h4 ?_,hb.le hl5,hy⟩)
 rw [hh] at hbl
 simp only
 rw [hbl]; rfl
theorem zlo (hx:SK h s S) (hs:sSk S) (ht:GT h) (H:∀b h',h.le h'→(b=true↔VS S∧coreS S=[])→Kb b h'):callP (F.zej s) Kb h:=by
 refine za1 (fun b h'=>b=true↔VS S∧coreS S=[]) (fun K' hk=>?_) fun y h' hl hb=>H y h' hl hb
 unfold F.zej
 refine ziw hx hs ht fun r h1 hl1 hr=>?_
 refine zbg (fun h2=>hk _ _ hl1 ⟨fun hh=>(by cases hh),fun hh=>absurd (hr.2 hh.1) h2⟩) (fun h2=>?_)
 have hv:=hr.1 h2
 refine zvf (hx.le hl1) hs (ht.le hl1) (fun _ _ hn=>absurd hv hn) fun a b h3 hl3 _ ha hb=>hk _ _ (Hp.le_trans hl1 hl3) ?_
 have hb:IL h3 b (coreS S):=hb
 have hbl:=hb.len
 rw [beq_iff_eq]
 simp only
 constructor
 · intro h4
   exact ⟨hv,List.eq_nil_of_length_eq_zero (by omega)⟩
 · rintro ⟨_,h4⟩
   rw [h4] at hbl
   rw [hbl]; rfl
end
end Den
end

section
namespace Den
open Go Iv Lx
theorem zac2 {D h:Hp} {n b:Nat} {l:Sl} {cs:List Value} {bl:Blk} (ho:Own D h n l cs) (hb:h b=some bl) (hne:∀a,l.a=some a→a.block≠b):Own (D.ins b bl) h n l cs:=by
 obtain ⟨g1,g2,g3,g4⟩:=ho
 refine ⟨fun k x hk=>?_,g2,g3,?_⟩
 · by_cases hkb:k=b
   · subst hkb
     rw [Hp.ins_same] at hk
     rw [hb]; exact hk
   · rw [Hp.ins_ne hkb] at hk; exact g1 _ _ hk
 · cases ha:l.a with
   | none=>rw [ha] at g4; exact g4
   | some a=>
     rw [ha] at g4
     obtain ⟨k1,k2,k3,k4⟩:=g4
     exact ⟨k1,k2,by rw [Hp.ins_ne (hne a ha)]; exact k3,k4⟩
theorem zzb {D h:Hp} {n:Nat} {l:Sl} {cs:List Value} (ho:Own D h n l cs) {a:Addr} (ha:l.a=some a):D a.block=none:=by
 obtain ⟨_,_,_,g4⟩:=ho
 rw [ha] at g4
 exact g4.2.2.1
theorem ztx {h:Hp} {b:Nat} {v:Value} (hm:MB h b [v]):h.cell ⟨b,0,none⟩=some v:=by
 have:=hm.ld 0 rfl
 rwa [zas] at this
theorem zxd {D h:Hp} {b:Nat} {y:Sl} {xs:List Int} {z:Int} {K:Hp→Prop} (hm:MB h b [Lf.sl.up y]) (ho:OI D h y xs) (hDb:D b=none) (hyb:∀a,y.a=some a→a.block≠b) (hlen:xs.length≤100000)
 (H:∀w h',MB h' b [Lf.sl.up w]→OI D h' w (xs++[z])→(∀a,w.a=some a→a.block≠b)→K h') :
 ldL .sl (⟨b,0,none⟩:Addr) (fun x10=>appP 1 8 [.int .i64 0] x10 1 [.int .i64 z] (fun w11 h6=>stP (⟨b,0,none⟩:Addr) [.slice w11.a w11.len w11.cap] K h6) h) h:=by
 refine ⟨y,ztx hm,?_⟩
 have hyl:=ho.il.len
 have hbb:h b≠none:=by obtain ⟨e,hm⟩:=hm; rw [hm]; simp
 refine zn5 ho (n:=1) (new:=[ic z]) rfl rfl rfl (by omega) (by omega) fun w h6 hw _ hs6 hb6=>?_
 have hm6:MB h6 b [Lf.sl.up y]:=by
  obtain ⟨e,hm⟩:=hm
  exact ⟨e,by rw [hs6 b hbb fun a ha=>(hyb a ha).symm]; exact hm⟩
 have hwb:∀a,w.a=some a→a.block≠b:=fun a ha hh=>by
  rcases hb6 a ha with ⟨a',h8,h9⟩ | h8
  · exact hyb a' h8 (by rw [h9]; exact hh)
  · rw [hh] at h8; exact hbb h8
 have key:=hm6.st (j:=0) (v:=Lf.sl.up w) (K:=K) (by simp) rfl fun h8 hm8 hs8=>H w h8 hm8 ?_ hwb
 · rw [zas] at key
   exact key
 · obtain ⟨e8,hm8'⟩:=hm8
   rw [zqm hm8' hs8]
   have:OI D h6 w (xs++[z]):=by
    unfold OI
    rw [List.map_append]
    exact hw
   exact znd this hDb hwb
def befI (a b:Int):Prop:=if 0≤a then (if 0≤b then a<b else True) else (if 0≤b then False else b<a)
def certP (S:PSk) (xs:List Int):Prop:=xs≠[]∧(∀x∈xs,x∈allS S)∧(∀j (hj:j+1<xs.length),befI xs[j] xs[j+1])∧∀x∈xs,prevT S x xs≠[]
def posI (n:Nat) (x:Int):Int:=if 0≤x then x else (n:Int)+(-1-x)
theorem zadv {n m:Nat} {a b:Int} (ha:a∈allI n m) (hb:b∈allI n m):posI n a<posI n b↔befI a b:=by
 rw [znb] at ha hb
 unfold posI befI
 by_cases h1:0≤a<;>by_cases h2:0≤b<;>simp only [h1,h2,if_true,if_false,iff_true,iff_false]<;>omega
theorem zaba {n m k:Nat} (hk:k<(allI n m).length):posI n (allI n m)[k]=k:=by
 have hl:=hk
 rw [zx9] at hl
 have e:(allI n m)[k]'hk=((List.range n).map (fun i:Nat=>(i:Int))++(List.range m).map (fun i:Nat=>-1-(i:Int)))[k]'(by simpa using hl):=rfl
 rw [e]
 rcases Nat.lt_or_ge k n with h1 | h1
 · rw [List.getElem_append_left (by simpa using h1)]
   simp [posI]
 · rw [List.getElem_append_right (by simpa using h1)]
   simp only [List.getElem_map,List.getElem_range,List.length_map,List.length_range]
   unfold posI
   rw [if_neg (by omega)]
   omega
section
variable {h D : Hp} {s : TSketch} {S : PSk} {l rs : Sl} {item a b : Int} {R xs : List Int} {p1 p2 : Addr} {Kb : Bool → Hp → Prop} {Ki : Int → Hp → Prop} {Ks : Sl → Hp → Prop}
theorem zyr (H:∀r,(r<0↔befI a b)→Ki r h):callP (F.zjw a b) Ki h:=by
 refine zji (fun r=>r<0↔befI a b) (fun K' hk=>?_) H
 unfold F.zjw
 have key:∀x y:Int,((if x<y then (-1:Int) else if y<x then 1 else 0)<0↔x<y):=fun x y=>by
  split
  · rename_i h; exact ⟨fun _=>h,fun _=>by decide⟩
  · rename_i h; exact ⟨fun hh=>by split at hh<;>omega,fun hh=>absurd hh h⟩
 have bef:(befI a b↔if 0≤a then (if 0≤b then a<b else True) else (if 0≤b then False else b<a)):=Iff.rfl
 refine za2 (fun h1=>?_) (fun h1=>?_)
 · refine zfv (hk _ ?_)
   rw [key,bef]
   have h1:¬(a<0↔b<0):=by simpa using h1
   by_cases h2:0≤a<;>by_cases h3:0≤b<;>simp only [h2,h3,if_true,if_false,iff_true,iff_false]<;>omega
 · have h1:(a<0↔b<0):=by simpa using h1
   refine za0 (fun h2=>?_) (fun h2=>?_)
   · refine zfv (hk _ ?_)
     rw [key,bef,if_neg (show ¬0≤a by omega),if_neg (show ¬0≤b by omega)]
   · refine zfv (hk _ ?_)
     rw [key,bef,if_pos (show 0≤a by omega),if_pos (show 0≤b by omega)]
theorem zq5 (hx:SK h s S) (hs:sSk S) (H:∀r h',h.le h'→(item∈allS S→r=posI S.pts.length item)→(item∉allS S→r=-1)→Ki r h'):callP (F.zgc s item) Ki h:=by
 refine za1 (fun r h'=>(item∈allS S→r=posI S.pts.length item)∧(item∉allS S→r=-1)) (fun K' hk=>?_) fun b h' hl hb=>H b h' hl hb.1 hb.2
 unfold F.zgc
 have hal:=zn4 hs
 refine zs6 hx hs fun r1 h1 hl1 ho1=>?_
 have ho1:OI h h1 r1 (allS S):=ho1
 have h1l:=ho1.il.len
 refine zbe (n:=(allS S).length) (by omega) (fun i h'=>h1.le h'∧∀j (hj:j<(allS S).length),j<i→(allS S)[j]≠item) ⟨Hp.le_refl _,fun j _ hj=>by omega⟩ ?_
 rintro i h2 hi ⟨hl2,hno⟩ k hk2
 refine za0 (fun h3=>?_) (fun h3=>?_)
 · have hi':i<(allS S).length:=by simp only at h3; omega
   refine (ho1.il.le hl2).get i rfl hi' ?_
   refine za7 (fun h4=>hk _ _ (Hp.le_trans hl1 hl2) ⟨fun _=>?_,fun hn=>absurd (by rw [←h4]; exact List.getElem_mem hi') hn⟩) (fun h4=>hk2 _ hi' ⟨hl2,upto (P:=fun x=>x≠item) hno hi' h4⟩)
   rw [←h4]
   exact (zaba hi').symm
 · refine hk _ _ (Hp.le_trans hl1 hl2) ⟨fun hm=>?_,fun _=>rfl⟩
   obtain ⟨j,hj,he⟩:=List.mem_iff_getElem.1 hm
   exact absurd he (hno j hj (by simp only at h3; omega))
theorem zwu (hx:SK h s S) (hs:sSk S) (hl:IL h l xs) (hlen:xs.length≤1000) (H:∀b h',h.le h'→(b=true↔VS S∧certP S xs)→Kb b h'):callP (F.zlk s l) Kb h:=by
 refine za1 (fun b h'=>b=true↔VS S∧certP S xs) (fun K' hk=>?_) fun b h' hl hb=>H b h' hl hb
 unfold F.zlk
 have no:∀h',h.le h'→¬(VS S∧certP S xs)→K' false h':=fun h' hl hn=>hk _ _ hl ⟨fun hh=>(by cases hh),fun hh=>absurd hh hn⟩
 have hll:=hl.len
 refine zno hx hs fun r h1 hl1 hr=>?_
 refine zbg (fun h2=>no _ hl1 fun hh=>h2 (hr.2 hh.1)) (fun h2=>?_)
 have hv:=hr.1 h2
 refine zbe (n:=xs.length) (by omega) (fun i h'=>h.le h'∧(∀j (hj:j<xs.length),j<i→xs[j]∈allS S∧prevT S xs[j] xs≠[])∧∀j (hj:j+1<xs.length),j+1<i→befI xs[j] xs[j+1]) ⟨hl1,fun j _ hj=>by omega,fun j _ hj=>by omega⟩ ?_
 rintro i h3 hi ⟨hl3,hno,hbe⟩ k hk2
 refine za0 (fun h4=>?_) (fun h4=>?_)
 · have hi':i<xs.length:=by simp only at h4; omega
   have nx:xs[i]∉allS S→¬(VS S∧certP S xs):=fun hn hh=>hn (hh.2.2.1 _ (List.getElem_mem hi'))
   have np:prevT S xs[i] xs=[]→¬(VS S∧certP S xs):=fun hn hh=>hh.2.2.2.2 _ (List.getElem_mem hi') hn
   refine za3 (fun _ h'=>h.le h'∧(xs[i]∈allS S∧prevT S xs[i] xs≠[])∧(∀hj:0<i,befI (xs[i-1]'(by omega)) xs[i])) (fun _ h' hh=>hk2 _ hi' ⟨hh.1,upto (P:=fun x=>x∈allS S∧prevT S x xs≠[]) hno hi' hh.2.1,fun j hj hji=>?_⟩) ?_
   · rcases Nat.lt_or_ge (j+1) i with h5 | h5
     · exact hbe j hj h5
     · have:i=j+1:=by omega
       subst this
       exact hh.2.2 (by omega)
   refine (hl.le hl3).get i rfl hi' ?_
   refine zq5 (hx.le hl3) hs fun r8 h5 hl5 hp1 hp2=>?_
   have hle5:=Hp.le_trans hl3 hl5
   refine za0 (fun h6=>no _ hle5 (nx fun hm=>?_)) (fun h6=>?_)
   · have h7:=hp1 hm
     have:=znb.1 hm
     unfold posI at h7
     split at h7<;>omega
   have hm:xs[i]∈allS S:=Classical.byContradiction fun hn=>by have:=hp2 hn; omega
   have e8:=hp1 hm
   have hsm:=zoq hs hm
   unfold smI at hsm
   have last:∀h7,h.le h7→(∀hj:0<i,befI (xs[i-1]'(by omega)) xs[i])→idxP l (i:Int) 1 fun a15=>ldL (.int .i64) a15 (fun x16=>callP (F.zdb s x16 l) (fun r17 h7=>ifP ((r17.len:Int)==0) (K' false h7) (h.le h7∧(xs[i]∈allS S∧prevT S xs[i] xs≠[])∧(∀hj:0<i,befI (xs[i-1]'(by omega)) xs[i]))) h7) h7:=by
    intro h7 hl7 hb7
    refine (hl.le hl7).get i rfl hi' ?_
    refine znh (item:=xs[i]) (hx.le hl7) hs hv (hl.le hl7) (by omega) (by omega) fun r9 h9 hl9 hr9=>?_
    have hle9:=Hp.le_trans hl7 hl9
    have h9l:=hr9.len
    refine za7 (fun h10=>no _ hle9 (np (List.eq_nil_of_length_eq_zero (by omega)))) (fun h10=>⟨hle9,⟨hm,fun hh=>h10 (by rw [hh] at h9l; rw [h9l]; rfl)⟩,hb7⟩)
   refine za0 (fun h7=>?_) (fun h7=>last _ hle5 (fun hj=>by simp only at h7; omega))
   have hi0:0<i:=by simp only at h7; omega
   have hi1:i-1<xs.length:=by omega
   simp only
   rw [show IntKind.i64.wrap ((i:Int)-1)=((i-1:Nat):Int) from by rw [w64 (by omega)]; omega]
   refine (hl.le hle5).get (i-1) rfl hi1 ?_
   refine zq5 (hx.le hle5) hs fun r11 h9 hl9 hq1 hq2=>?_
   have hle9:=Hp.le_trans hle5 hl9
   have hmq:=(hno (i-1) hi1 (by omega)).1
   have e11:=hq1 hmq
   have hpb:posI S.pts.length xs[i-1]<posI S.pts.length xs[i]↔befI xs[i-1] xs[i]:=zadv hmq hm
   refine za0 (fun h10=>no _ hle9 fun hh=>?_) (fun h10=>last _ hle9 (fun _=>hpb.1 (by omega)))
   have:=hh.2.2.2.1 (i-1) (by omega)
   have e:i-1+1=i:=by omega
   simp only [e] at this
   have:=hpb.2 this
   omega
 · refine hk _ _ hl3 ?_
   rw [decide_eq_true_iff]
   have hii:i=xs.length:=by simp only at h4; omega
   refine ⟨fun h5=>⟨hv,fun hh=>by rw [hh] at hll; simp at hll; omega,fun x hx=>(upall (P:=fun x=>x∈allS S∧prevT S x xs≠[]) hno (by omega) x hx).1,fun j hj=>hbe j hj (by omega),fun x hx=>(upall (P:=fun x=>x∈allS S∧prevT S x xs≠[]) hno (by omega) x hx).2⟩,fun hh=>?_⟩
   have:=List.length_pos_iff.2 hh.2.1
   omega
theorem zxk {x:Int} (hc:h.cell p2=some (Lf.sl.up rs)) (hr:IL h rs R) (hlen:R.length≤1000) (H:∀h',h.le h'→Kb (decide (x∈R)) h'):callP (F.zg4 x (some p2)) Kb h:=by
 refine za1 (fun b h'=>b=decide (x∈R)) (fun K' hk=>?_) fun b h' hl hb=>by subst hb; exact H h' hl
 unfold F.zg4
 exact ⟨_,hc,zd7 hr (by omega) fun h' hl=>hk _ _ hl rfl⟩
theorem zxm (ho:OI D h l xs) (hxl:xs.length≤1000) (hc:D.cell p2=some (Lf.sl.up rs)) (hr:IL D rs R) (hlen:R.length≤1000) (H:∀y h',OI D h' y (xs.filter fun x=>decide (x∉R))→Ks y h'):callM (F.zc1 l (some p2,())) Ks h:=by
 refine zgj ?_
 unfold F.zc1
 refine za1 (fun r h'=>Fnd (fun x=>x∈R) xs r) (fun K2 hk=>?_) fun r h1 hl1 hr1=>?_
 · unfold F.zcv
   refine zjk ho.il (by omega) (fun x _ h5 hl5 K5 hK5=>?_) fun r h' hl hr=>hk _ _ hl hr
   have hD5:=Hp.le_trans ho.dle hl5
   exact zxk (Hp.cell_le hD5 hc) (hr.le hD5) hlen fun h6 hl6=>hK5 _ _ hl6 (by rw [decide_eq_true_iff])
 · exact zvl (G:=fun x=>F.zg4 x (some p2,()).1) (ho.le hl1) hxl (fun x h' hl' K' hK'=>zxk (Hp.cell_le hl' hc) (hr.le hl') hlen hK') hr1 H
theorem zabn (hx:SK h s S) (hs:sSk S) (hv:VS S) (ht:GT h) (c1:SKC h p1 s) (c2:h.cell p2=some (Lf.sl.up rs)) (hr:IL h rs R) (hR:R.length≤1000) (hl:IL h l xs) (hlen:xs.length≤1000) (hin:∀x∈xs,x∈allS S)
 (H:∀b h',h.le h'→(b=true↔∃x∈xs,canP (allC S) (cens S) R x)→Kb b h'):callP (F.zbd l (some p1,some p2,())) Kb h:=by
 refine za1 (fun b h'=>b=true↔∃x∈xs,canP (allC S) (cens S) R x) (fun K' hk=>?_) fun b h' hl hb=>H b h' hl hb
 unfold F.zbd
 refine za1 (fun r h'=>Fnd (fun x=>canP (allC S) (cens S) R x) xs r) (fun K4 hk4=>?_) fun r h' hl hr=>hk _ _ hl (by rw [decide_eq_true_iff]; exact hr.iff)
 unfold F.zcw
 refine zjk hl (by omega) (fun x hxm h7 hl7 K5 hK5=>?_) fun r h' hl hr=>hk4 _ _ hl hr
 refine za1 (fun b h'=>b=true↔canP (allC S) (cens S) R x) (fun K6 hk6=>?_) fun b h8 hl8 hb=>hK5 _ _ hl8 hb
 unfold F.zn7
 have c7:=c1.le hl7
 refine ⟨_,c7 0 _ rfl,_,c7 1 _ rfl,_,c7 2 _ rfl,_,c7 3 _ rfl,_,c7 4 _ rfl,_,c7 5 _ rfl,?_⟩
 refine ⟨_,Hp.cell_le hl7 c2,?_⟩
 have hsm:=zoq hs (hin x hxm)
 unfold smI at hsm
 refine zu0 (s:=s) (hx.le hl7) hs (ht.le hl7) (hr.le hl7) (by omega) (by omega) fun b h8 hl8 hb=>hk6 _ _ hl8 ?_
 rw [hb]
 exact ⟨fun hh=>hh.2.2,fun hh=>⟨hv,hin x hxm,hh⟩⟩
theorem zwk (hx:SK h s S) (hs:sSk S) (ht:GT h) (hl:IL h l xs) (hlen:xs.length≤1000) (H:∀b h',h.le h'→(b=true↔VS S∧certP S xs)→Kb b h'):callP (F.zmb s l) Kb h:=by
 refine za1 (fun b h'=>b=true↔VS S∧certP S xs) (fun K' hk=>?_) fun b h' hl hb=>H b h' hl hb
 unfold F.zmb
 have no:∀h',h.le h'→¬(VS S∧certP S xs)→K' false h':=fun h' hl hn=>hk _ _ hl ⟨fun hh=>(by cases hh),fun hh=>absurd hh hn⟩
 have hll:=hl.len
 refine zg9 fun p1 h1 hl1 hc1=>zdg fun p2 h2 hl2 hc2=>?_
 have hle2:=Hp.le_trans hl1 hl2
 have c1:SKC h2 p1 s:=fun i v hv=>Hp.cell_le hl2 (hc1 i v hv)
 refine za3 (fun _ h'=>h2.le h'∧VS S∧xs≠[]) ?_ ?_
 · rintro _ h3 ⟨hl3,hv,hne⟩
   have hle3:=Hp.le_trans hle2 hl3
   have c13:=c1.le hl3
   have c23:=Hp.cell_le hl3 hc2
   have hx3:=hx.le hle3
   have s1:=hs.1
   have s2:=hs.2.1
   have n1:=hx.1.len zd4
   have n2:=hx.2.1.len zd6
   intro b e hbf
   have l34:h3.le (h3.ins b ⟨[.slice nilS.a nilS.len nilS.cap],e,(0,0)⟩):=Hp.le_ins hbf
   refine ⟨_,Hp.cell_le l34 (c13 0 _ rfl),?_⟩
   refine zaj (fun st h'=>∃(i:Nat) (y:Sl),st=(some ⟨b,0,none⟩,(i:Int),())∧i≤S.pts.length∧MB h' b [Lf.sl.up y]∧OI h3 h' y ((List.range i).map fun i:Nat=>(i:Int))∧∀a,y.a=some a→a.block≠b)
    (fun st=>(S.pts.length-st.2.1).toNat) ⟨0,nilS,rfl,by omega,⟨e,Hp.ins_same _ _ _⟩,Own.nil l34,fun a ha=>by cases ha⟩ ?_
   rintro _ h5 ⟨i,y,rfl,hi,hm,ho,hyb⟩
   have l35:=ho.dle
   refine za0 (fun h6=>?_) (fun h6=>?_)
   · have hi':i<S.pts.length:=by simp only at h6; omega
     refine zxd hm ho hbf hyb (by simp; omega) fun w h7 hm7 ho7 hwb=>⟨⟨i+1,w,by (try simp only); rw [w64 (by omega)]; rfl,by omega,hm7,?_,hwb⟩,by (try simp only); rw [w64 (by omega)]; omega⟩
     rw [List.range_succ,List.map_append]
     exact ho7
   have:i=S.pts.length:=by simp only at h6; omega
   subst this
   refine ⟨_,Hp.cell_le l35 (c13 1 _ rfl),?_⟩
   refine zaj (fun st h'=>∃(i:Nat) (y:Sl),st=(some ⟨b,0,none⟩,(i:Int),())∧i≤S.cir.length∧MB h' b [Lf.sl.up y]∧OI h3 h' y ((List.range S.pts.length).map (fun i:Nat=>(i:Int))++(List.range i).map fun i:Nat=>-1-(i:Int))∧∀a,y.a=some a→a.block≠b)
    (fun st=>(S.cir.length-st.2.1).toNat) ⟨0,y,rfl,by omega,hm,by simpa using ho,hyb⟩ ?_
   clear hm ho hyb l35 h6 hi
   rintro _ h5 ⟨i,y,rfl,hi,hm,ho,hyb⟩
   have l35:=ho.dle
   refine za0 (fun h6=>?_) (fun h6=>?_)
   · have hi':i<S.cir.length:=by simp only at h6; omega
     refine zxd (z:=IntKind.i64.wrap (-1-(i:Int))) hm ho hbf hyb (by simp; omega) fun w h7 hm7 ho7 hwb=>⟨⟨i+1,w,by (try simp only); rw [w64 (by omega)]; rfl,by omega,hm7,?_,hwb⟩,by (try simp only); rw [w64 (by omega)]; omega⟩
     rw [List.range_succ,List.map_append,←List.append_assoc]
     rw [show IntKind.i64.wrap (-1-(i:Int))=-1-(i:Int) from w64 (by omega)] at ho7
     exact ho7
   have:i=S.cir.length:=by simp only at h6; omega
   subst this
   have ho:OI h3 h5 y (allS S):=ho
   have hal:=zn4 hs
   refine ⟨_,Hp.cell_le l35 c23,?_⟩
   refine zbe (n:=xs.length) (by omega) (fun i h'=>h5.le h'∧(∀j (hj:j<xs.length),j<i→xs[j]∈allS S)∧∀j (hj:j+1<xs.length),j+1<i→befI xs[j] xs[j+1]) ⟨Hp.le_refl _,fun j _ hj=>by omega,fun j _ hj=>by omega⟩ ?_
   rintro i h7 hi7 ⟨hl7,hno,hbe⟩ k hk2
   have l37:=Hp.le_trans l35 hl7
   have hle7:=Hp.le_trans hle3 l37
   have hm7:=hm.le hl7
   have ho7:=ho.le hl7
   refine za0 (fun h8=>?_) (fun h8=>?_)
   · have hi':i<xs.length:=by simp only at h8; omega
     have nx:xs[i]∉allS S→¬(VS S∧certP S xs):=fun hn hh=>hn (hh.2.2.1 _ (List.getElem_mem hi'))
     refine za3 (fun _ h'=>h5.le h'∧xs[i]∈allS S∧(∀hj:0<i,befI (xs[i-1]'(by omega)) xs[i])) (fun _ h' hh=>hk2 _ hi' ⟨hh.1,upto (P:=fun x=>x∈allS S) hno hi' hh.2.1,fun j hj hji=>?_⟩) ?_
     · rcases Nat.lt_or_ge (j+1) i with h5 | h5
       · exact hbe j hj h5
       · have:i=j+1:=by omega
         subst this
         exact hh.2.2 (by omega)
     refine (hl.le hle7).get i rfl hi' ?_
     refine ⟨_,ztx hm7,?_⟩
     refine zd7 ho7.il (by omega) fun h9 hl9=>?_
     have l79:=Hp.le_trans hl7 hl9
     have hle9:=Hp.le_trans hle7 hl9
     refine za2 (fun h10=>no _ hle9 (nx fun hm=>by rw [decide_eq_true hm] at h10; cases h10)) (fun h10=>?_)
     have hmx:xs[i]∈allS S:=by simpa using h10
     refine za0 (fun h11=>?_) (fun h11=>⟨l79,hmx,fun hj=>by simp only at h11; omega⟩)
     have hi0:0<i:=by simp only at h11; omega
     refine ⟨_,Hp.cell_le (Hp.le_trans l37 hl9) c23,?_⟩
     simp only
     rw [show IntKind.i64.wrap ((i:Int)-1)=((i-1:Nat):Int) from by rw [w64 (by omega)]; omega]
     refine (hl.le hle9).get (i-1) rfl (by omega) ?_
     refine zyr fun r hr=>?_
     refine za0 (fun h12=>no _ hle9 fun hh=>?_) (fun h12=>⟨l79,hmx,fun _=>hr.1 (by omega)⟩)
     have:=hh.2.2.2.1 (i-1) (by omega)
     have e:i-1+1=i:=by omega
     simp only [e] at this
     have:=hr.2 this
     omega
   · have hii:i=xs.length:=by simp only at h8; omega
     have hin:∀x∈xs,x∈allS S:=upall (P:=fun x=>x∈allS S) hno (by omega)
     refine ⟨_,ztx hm7,?_⟩
     obtain ⟨e7,hm7'⟩:=hm7
     have ho7':=zac2 ho7 hm7' hyb
     have ho7':OI (h3.ins b ⟨[Lf.sl.up y],e7,(0,0)⟩) h7 y (allS S):=ho7'
     have hDD:h3.le (h3.ins b ⟨[Lf.sl.up y],e7,(0,0)⟩):=Hp.le_ins hbf
     refine zxm (p2:=p2) (rs:=l) (R:=xs) ho7' (by omega) (Hp.cell_le hDD c23) (hl.le (Hp.le_trans hle3 hDD)) hlen fun z h9 hz=>?_
     have hm9:MB h9 b [Lf.sl.up y]:=⟨e7,hz.dle _ _ (Hp.ins_same _ _ _)⟩
     have hzb:∀a,z.a=some a→a.block≠b:=fun a ha hh=>by
      have:=zzb hz ha
      rw [hh,Hp.ins_same] at this; cases this
     have hz3:OI h3 h9 z ((allS S).filter fun x=>decide (x∉xs)):=OI.base hz hDD
     have key:=hm9.st (j:=0) (v:=Lf.sl.up z) (K:=fun h16=>ldL (.sl) p2 (fun x38=>callP (F.zbd x38 (some p1,some ⟨b,0,none⟩,())) (fun r39 h17=>K' (!r39) h17) h16) h16) (by simp) rfl fun h10 hm10 hs10=>?_
     · rw [zas] at key
       exact key
     · have hz10:OI h3 h10 z ((allS S).filter fun x=>decide (x∉xs)):=by
        obtain ⟨e8,hm8'⟩:=hm10
        rw [zqm hm8' hs10]
        exact znd hz3 hbf hzb
       have l310:=hz10.dle
       have hle10:=Hp.le_trans hle3 l310
       refine ⟨_,Hp.cell_le l310 c23,?_⟩
       have hfl:((allS S).filter fun x=>decide (x∉xs)).length≤(allS S).length:=List.length_filter_le _ _
       refine zabn (s:=s) (R:=(allS S).filter fun x=>decide (x∉xs)) (hx.le hle10) hs hv (ht.le hle10) (c13.le l310) (ztx hm10) hz10.il (by omega) (hl.le hle10) hlen hin fun b9 h11 hl11 hb11=>hk _ _ (Hp.le_trans hle10 hl11) ?_
       have hT:∀x∈allS S,x∈xs↔x∉(allS S).filter fun x=>decide (x∉xs):=fun x hx=>by simp [List.mem_filter,hx]
       rw [Bool.not_eq_true',←Bool.not_eq_true,hb11]
       constructor
       · intro hn
         refine ⟨hv,hne,hin,fun j hj=>hbe j hj (by omega),fun x hxm hp=>hn ⟨x,hxm,(zsv hs hv hT ?_).1 hp⟩⟩
         simp [List.mem_filter,hxm]
       · rintro hc ⟨x,hxm,hcan⟩
         exact hc.2.2.2.2 x hxm ((zsv hs hv hT hcan.1).2 hcan)
 · refine ⟨_,c1 0 _ rfl,_,c1 1 _ rfl,_,c1 2 _ rfl,_,c1 3 _ rfl,_,c1 4 _ rfl,_,c1 5 _ rfl,?_⟩
   refine ziw (s:=s) (hx.le hle2) hs (ht.le hle2) fun r h3 hl3 hr=>?_
   have hle3:=Hp.le_trans hle2 hl3
   refine zbg (fun h4=>no _ hle3 fun hh=>h4 (hr.2 hh.1)) (fun h4=>?_)
   refine ⟨_,Hp.cell_le hl3 hc2,?_⟩
   refine za7 (fun h5=>no _ hle3 fun hh=>hh.2.1 (List.eq_nil_of_length_eq_zero (by (try simp only at h5); omega))) (fun h5=>⟨hl3,hr.1 h4,fun hh=>h5 ?_⟩)
   rw [hh] at hll
   (try simp only)
   rw [hll]; rfl
end
end Den
end

section
namespace Den
open Go Iv Lx
def a2c (e:A2_Int):List Value:=[.int .i64 e.c0,.int .i64 e.c1]
def A2P (h:Hp) (x:A2_Int) (b:Int×Int):Prop:=x.c0=b.1∧x.c1=b.2
theorem zf9:Rec a2c 2 A2P:=⟨fun _=>rfl,by decide,fun _=>rfl,fun hx _=>hx⟩
def befE (a b:Int×Int):Prop:=a.1<b.1∨a.1=b.1∧a.2<b.2
def GV (n:Int) (es:List (Int×Int)):Prop:=(0≤n∧n≤60)∧(∀e∈es,0≤e.1∧e.1<e.2∧e.2<n)∧∀j (hj:j+1<es.length),befE es[j] es[j+1]
def degL (es:List (Int×Int)) (T:List Int) (i:Int):Nat:=es.countP fun e=>decide (e.1∈T)&&decide (e.2∈T)&&(e.1==i||e.2==i)
theorem zvk {es:List (Int×Int)} {C T:List Int} {i:Int} (h:∀x∈C,x∈T):degL es C i≤degL es T i:=by
 unfold degL
 refine List.countP_mono_left fun e _ he=>?_
 simp only [Bool.and_eq_true,decide_eq_true_iff] at he ⊢
 exact ⟨⟨h _ he.1.1,h _ he.1.2⟩,he.2⟩
def rngI (n:Nat):List Int:=(List.range n).map fun i:Nat=>(i:Int)
theorem znc {n:Nat} {x:Int}:x∈rngI n↔0≤x∧x<n:=by
 unfold rngI
 rw [List.mem_map]
 constructor
 · rintro ⟨a,ha,rfl⟩
   rw [List.mem_range] at ha; omega
 · rintro ⟨h1,h2⟩
   exact ⟨x.toNat,List.mem_range.2 (by omega),by omega⟩
structure IsCore (n:Nat) (es:List (Int×Int)) (T:List Int):Prop where
 sub:T=(rngI n).filter fun x=>decide (x∈T)
 deg:∀i∈T,3≤degL es T i
 great:∀C:List Int,(∀i∈C,0≤i∧i<n)→(∀i∈C,3≤degL es C i)→∀i∈C,i∈T
theorem IsCore.mem {n:Nat} {es:List (Int×Int)} {T:List Int} (h:IsCore n es T) {i:Int} (hi:i∈T):0≤i∧i<n:=by
 have h1:=h.sub
 rw [h1] at hi
 exact znc.1 (List.mem_filter.1 hi).1
theorem IsCore.unique {n:Nat} {es:List (Int×Int)} {T Q:List Int} (h:IsCore n es T) (k:IsCore n es Q):T=Q:=by
 have h1:=h.great Q (fun i hi=>k.mem hi) k.deg
 have h2:=k.great T (fun i hi=>h.mem hi) h.deg
 rw [h.sub,k.sub]
 exact List.filter_congr fun x _=>by
  have:x∈T↔x∈Q:=⟨h2 x,h1 x⟩
  simp only [this]
theorem zvs {es:List (Int×Int)} {C T:List Int} {x:Int} (hC:∀i∈C,3≤degL es C i) (hT:∀i∈C,i∈T) (hx:degL es T x≤2):x∉C:=fun hm=>by
 have h1:=hC x hm
 have h2:=zvk (es:=es) (i:=x) hT
 omega
section
variable {h D : Hp} {g : TGraph} {es : List (Int × Int)} {Kb : Bool → Hp → Prop} {Ki : Int → Hp → Prop} {Ks : Sl → Hp → Prop}
theorem zwo {a b:A2_Int} (H:∀r h',h.le h'→(r<0↔befE (a.c0,a.c1) (b.c0,b.c1))→Ki r h'):callP (F.zj4 a b) Ki h:=by
 refine za1 (fun r h'=>r<0↔befE (a.c0,a.c1) (b.c0,b.c1)) (fun K' hk=>?_) fun b h' hl hb=>H b h' hl hb
 unfold F.zj4
 refine zfv (zfv ?_)
 obtain ⟨r1,hr1⟩:∃r1:Int,r1=if a.c0<b.c0 then -1 else if b.c0<a.c0 then 1 else 0:=⟨_,rfl⟩
 obtain ⟨r2,hr2⟩:∃r2:Int,r2=if a.c1<b.c1 then -1 else if b.c1<a.c1 then 1 else 0:=⟨_,rfl⟩
 rw [←hr1,←hr2]
 refine zg9 fun p3 h3 hl3 c3=>?_
 have hi:IL h3 ⟨some p3,2,2⟩ [r1,r2]:=⟨zdn (size:=1) (n:=2) c3 rfl,Nat.le_refl _⟩
 have q1:(r1<0↔a.c0<b.c0)∧(r1=0↔a.c0=b.c0):=by rw [hr1]; split<;>(try split)<;>constructor<;>constructor<;>intro _<;>omega
 have q2:r2<0↔a.c1<b.c1:=by rw [hr2]; split<;>(try split)<;>constructor<;>intro _<;>omega
 have key:∀r:Int,(r1≠0→r=r1)→(r1=0→r2≠0→r=r2)→(r1=0→r2=0→r=0)→(r<0↔befE (a.c0,a.c1) (b.c0,b.c1)):=by
  intro r k1 k2 k3
  unfold befE
  simp only
  rw [←q1.1,←q1.2,←q2]
  by_cases e1:r1=0
  · by_cases e2:r2=0
    · have:=k3 e1 e2; omega
    · have:=k2 e1 e2; omega
  · have:=k1 e1; omega
 refine za1 (fun r h'=>(r1≠0→r=r1)∧(r1=0→r2≠0→r=r2)∧(r1=0→r2=0→r=0)) (fun K2 hk2=>?_) fun r h' hl hr=>hk _ _ (Hp.le_trans hl3 hl) (key r hr.1 hr.2.1 hr.2.2)
 unfold F.zpg
 refine zbe (n:=2) (by omega) (fun i h'=>h'=h3∧(0<i→r1=0)∧(1<i→r2=0)) ⟨rfl,by omega,by omega⟩ ?_
 rintro i h4 hi2 ⟨rfl,z1,z2⟩ k hk4
 refine za0 (fun h5=>?_) (fun h5=>?_)
 · have hi':i<2:=by have:(i:Int)<((2:Nat):Int):=h5; omega
   rcases (by omega:i=0∨i=1) with rfl | rfl
   · refine hi.get 0 rfl (by simp) ?_
     simp only [List.getElem_cons_zero]
     refine zbg (fun h6=>hk2 _ _ (Hp.le_refl _) ⟨fun _=>rfl,fun hh=>absurd hh h6,fun hh=>absurd hh h6⟩) (fun h6=>hk4 _ hi' ⟨rfl,fun _=>h6,by omega⟩)
   · have z:=z1 (by omega)
     refine hi.get 1 rfl (by simp) ?_
     simp only [List.getElem_cons_succ,List.getElem_cons_zero]
     refine zbg (fun h6=>hk2 _ _ (Hp.le_refl _) ⟨fun hh=>absurd z hh,fun _ _=>rfl,fun _ hh=>absurd hh h6⟩) (fun h6=>hk4 _ hi' ⟨rfl,fun _=>z,fun _=>h6⟩)
 · have:i=2:=by have:¬(i:Int)<((2:Nat):Int):=h5; omega
   subst this
   exact hk2 _ _ (Hp.le_refl _) ⟨fun hh=>absurd (z1 (by omega)) hh,fun _ hh=>absurd (z2 (by omega)) hh,fun _ _=>rfl⟩
theorem za2i {n i:Int} (H:∀b,(b=true↔0≤i∧i<n)→Kb b h):callP (F.zlt n i) Kb h:=by
 refine zji (fun b=>b=true↔0≤i∧i<n) (fun K' hk=>?_) H
 unfold F.zlt
 exact za0 (fun h1=>hk _ (by rw [decide_eq_true_iff]; omega)) (fun h1=>hk _ ⟨fun hh=>(by cases hh),fun hh=>by omega⟩)
theorem za1b (hg:LR a2c 2 A2P h g.edges es) (hlen:es.length≤140737488355328) (H:∀b h',h.le h'→(b=true↔GV g.n es)→Kb b h'):callP (F.zl6 g) Kb h:=by
 refine za1 (fun b h'=>b=true↔GV g.n es) (fun K' hk=>?_) fun b h' hl hb=>H b h' hl hb
 unfold F.zl6
 have no:∀h',h.le h'→¬GV g.n es→K' false h':=fun h' hl hn=>hk _ _ hl ⟨fun hh=>(by cases hh),fun hh=>absurd hh hn⟩
 have hl:=hg.len zf9
 refine za3 (fun _ h'=>h'=h∧0≤g.n∧g.n≤60) ?_ ?_
 · rintro _ h0 ⟨rfl,n0,n1⟩
   refine zbe (n:=es.length) hlen (fun i h'=>h0.le h'∧(∀j (hj:j<es.length),j<i→0≤es[j].1∧es[j].1<es[j].2∧es[j].2<g.n)∧∀j (hj:j+1<es.length),j+1<i→befE es[j] es[j+1]) ⟨Hp.le_refl _,fun j _ hj=>by omega,fun j _ hj=>by omega⟩ ?_
   rintro i h2 hi ⟨hl2,hno,hbe⟩ k hk2
   refine za0 (fun h3=>?_) (fun h3=>?_)
   · have hi':i<es.length:=by simp only at h3; omega
     have nx:¬(0≤es[i].1∧es[i].1<es[i].2∧es[i].2<g.n)→¬GV g.n es:=fun hn hh=>hn (hh.2.1 _ (List.getElem_mem hi'))
     refine za3 (fun _ h'=>h0.le h'∧(0≤es[i].1∧es[i].1<es[i].2∧es[i].2<g.n)∧(∀hj:0<i,befE (es[i-1]'(by omega)) es[i])) (fun _ h' hh=>hk2 _ hi' ⟨hh.1,upto (P:=fun e:Int×Int=>0≤e.1∧e.1<e.2∧e.2<g.n) hno hi' hh.2.1,fun j hj hji=>?_⟩) ?_
     · rcases Nat.lt_or_ge (j+1) i with h5 | h5
       · exact hbe j hj h5
       · have:i=j+1:=by omega
         subst this
         exact hh.2.2 (by omega)
     refine (hg.le zf9 hl2).get zf9 i rfl hi' fun a x hxx hcx=>⟨_,hcx 0 _ rfl,_,hcx 1 _ rfl,?_⟩
     obtain ⟨x1,x2⟩:=hxx
     rw [x1,x2]
     refine za2i fun b hb=>za2 (fun h4=>no _ hl2 (nx fun hh=>by rw [hb.2 ⟨hh.1,by omega⟩] at h4; cases h4)) (fun h4=>?_)
     have b1:=hb.1 (by simpa using h4)
     refine za2i fun b2 hb2=>za2 (fun h5=>no _ hl2 (nx fun hh=>by rw [hb2.2 ⟨by omega,hh.2.2⟩] at h5; cases h5)) (fun h5=>?_)
     have b2':=hb2.1 (by simpa using h5)
     refine za0 (fun h6=>no _ hl2 (nx fun hh=>by have h6:es[i].1≥es[i].2:=h6; omega)) (fun h6=>?_)
     have h6:¬es[i].1≥es[i].2:=h6
     have ok:0≤es[i].1∧es[i].1<es[i].2∧es[i].2<g.n:=by omega
     refine za0 (fun h7=>?_) (fun h7=>⟨hl2,ok,fun hj=>by simp only at h7; omega⟩)
     have hi0:0<i:=by simp only at h7; omega
     simp only
     rw [show IntKind.i64.wrap ((i:Int)-1)=((i-1:Nat):Int) from by rw [w64 (by omega)]; omega]
     refine (hg.le zf9 hl2).get zf9 (i-1) rfl (by omega) fun a2 y hyy hcy=>⟨_,hcy 0 _ rfl,_,hcy 1 _ rfl,?_⟩
     obtain ⟨y1,y2⟩:=hyy
     refine zwo (a:=⟨y.c0,y.c1⟩) (b:=⟨es[i].1,es[i].2⟩) fun r h8 hl8 hr=>?_
     have hle8:=Hp.le_trans hl2 hl8
     simp only at hr
     rw [y1,y2] at hr
     refine za0 (fun h9=>no _ hle8 fun hh=>?_) (fun h9=>⟨hle8,ok,fun _=>hr.1 (by omega)⟩)
     have:=hh.2.2 (i-1) (by omega)
     have e:i-1+1=i:=by omega
     simp only [e] at this
     have:=hr.2 this
     omega
   · refine hk _ _ hl2 ⟨fun _=>⟨⟨n0,n1⟩,upall (P:=fun e:Int×Int=>0≤e.1∧e.1<e.2∧e.2<g.n) hno (by simp only at h3; omega),fun j hj=>hbe j hj (by simp only at h3; omega)⟩,fun _=>rfl⟩
 · refine za0 (fun h1=>no _ (Hp.le_refl _) fun hh=>by have:=hh.1.1; omega) (fun h1=>za0 (fun h2=>no _ (Hp.le_refl _) fun hh=>by have:=hh.1.2; omega) (fun h2=>⟨rfl,by omega,by omega⟩))
theorem zqh {es:List (Int×Int)} {e:Int×Int} {T:List Int} {i:Int}:degL (es++[e]) T i=degL es T i+(if e.1∈T∧e.2∈T∧(e.1=i∨e.2=i) then 1 else 0):=by
 unfold degL
 rw [List.countP_append]
 congr 1
 rw [List.countP_singleton]
 by_cases h:e.1∈T∧e.2∈T∧(e.1=i∨e.2=i)
 · rw [if_pos h,if_pos (by simp [h.1,h.2.1]; exact h.2.2)]
 · rw [if_neg h,if_neg]
   intro hh
   simp only [Bool.and_eq_true,decide_eq_true_iff,Bool.or_eq_true,beq_iff_eq] at hh
   exact h ⟨hh.1.1,hh.1.2,hh.2⟩
theorem zad8 {es:List (Int×Int)} {T:List Int} {i:Int}:degL es T i≤es.length:=List.countP_le_length
end
end Den
end

section
namespace Den
open Go Iv Lx Go.Proofs
open Go.ChangeShapes Go.WideShapes Go.ChangeAt Go.RowKit
section
variable {H : Type} {enc : TypeId × Value → H} {w : World} {cs : List Value}
end
end Den
end

section
namespace Den
open Go
noncomputable def bd (fn:Func):Code:=match fn.body with | some c=>c | none=>.skip
section
variable {α ρ : Type} {A : ArgT α} {R : Ty ρ} {F : α → (ρ → Hp → Prop) → Hp → Prop} {g : Nat} {fn : Func}
theorem eo (C:Cfg) (an:An) (hf:C.P.funcs[g]?=some fn) (hC:Tab C C.tab) (hBk:BackTab C.P C.backs:=by exact trivial)
 (hb:fn.body=some (bd fn):=by exact rfl) (hn:fn.ntmps=C.n:=by exact rfl) (hname:(fn.name == "runtime.NumGoroutine")=false:=by decide) (ha:∀a,Nat.ble (A.up a).length C.n=true:=by exact fun _=>rfl)
 (hF:∀a K D,denF C fn (bd fn) an (A.up a) (fun v h=>R.dn v fun r=>K r h) D=F a K D:=by intro a K D; kernel_rfl):Entry C.P g (mkE A R F) false:=zabp hC hBk hf hb hn hname ha hF
theorem eoM (C:Cfg) (an:An) (hf:C.P.funcs[g]?=some fn) (hC:Tab C C.tab) (hBk:BackTab C.P C.backs:=by exact trivial)
 (hb:fn.body=some (bd fn):=by exact rfl) (hn:fn.ntmps=C.n:=by exact rfl) (hname:(fn.name == "runtime.NumGoroutine")=false:=by decide) (ha:∀a,Nat.ble (A.up a).length C.n=true:=by exact fun _=>rfl)
 (hF:∀a K D,denF C fn (bd fn) an (A.up a) (fun v h=>R.dn v fun r=>K r h) D=F a K D:=by intro a K D; kernel_rfl):Entry C.P g (mkM A R F) true:=za8j hC hBk hf hb hn hname ha hF
end
end Den
end

section
namespace Den
open Go Go.RowKit Go.Shelf
open Go.Proofs
attribute [local go_sem] Oper.semAt_some
set_option maxRecDepth 100000 in
set_option maxHeartbeats 2000000 in
theorem za4w:BackFn Tryz.prog 257 (.leaf (.int .u32)):=by
 refine ⟨enters_of Tryz.func257 (by kernel_rfl) rfl,?_⟩
 rintro l ab ⟨xa,xl,xc⟩ J w hxl h0 hbox hround
 simp only at hxl h0 hbox hround
 have hb0:=hbox _ _ h0
 refine callsIn_of_wp Tryz.func257 rfl trivial ?_ rfl
 simp only [Tryz.ntmps257,List.size_toArray,List.length_cons,List.length_nil,Nat.reduceAdd,Nat.reduceSub,Array.replicate_succ,Array.replicate_zero,List.push_toArray,List.append_toArray,List.nil_append,List.cons_append]
 gi_wp2
 gi_loopw [3] (fun i wr=>∃k:Nat,k≤xl∧i=.int .i64 ((k:Int)-1)∧J k wr) (fun i _=>(intOf i+1).toNat)
 case atStart=>exact ⟨xl,Nat.le_refl _,rfl,h0⟩
 case round=>
  obtain ⟨k,hk,rfl,hJ⟩:=hrel
  have hbx:=hbox _ _ hJ
  cases k with
  | zero=>
    gi_wp2
    go_end0
    exact ⟨⟨_,rfl⟩,hJ⟩
  | succ j=>
    obtain ⟨ad,v,hxa,hcells,f,tmps1,asg,body,hy,hR⟩:=hround j wr (by omega) hJ
    subst hxa
    have hc0:wr.cell? (ad.add j)=some (.int .u32 v):=by
     have:=hcells 0 (.int .u32 v) rfl
     simpa [STy.size] using this
    have hkj:(((j+1:Nat):Int)-1)=(j:Int):=by omega
    rw [hkj]
    simp only [STy.val,Lf.up] at hy
    gi_wp2
    refine ⟨rfl,hR.mono ?_⟩
    rintro e W3 ⟨rfl,hJ3⟩
    gi_wp2
    go_roundw
    case rel=>exact ⟨j,by omega,by simp,hJ3⟩
    case measure=>simp [intOf]
end Den
end

section
set_option maxRecDepth 100000
namespace Den
open Go Go.Proofs.Tryz
noncomputable section
noncomputable def e_x0:FSem:=mkE (ArgT.cons (Ty.leaf .sl) ArgT.nil) (Ty.leaf .bool) fun a=>F.zjg a.1
theorem t_x0:Entry prog 169 e_x0 false:=eo { P:=prog,n:=6,tab:=[] } (.seq .leaf (.seq .leaf .leaf)) func169 trivial
noncomputable def e_x1:FSem:=mkE (ArgT.cons (Ty.leaf .sl) (ArgT.fn 169 ArgT.nil)) (Ty.leaf (.int .i64)) fun a=>F.zbr a.1
theorem t_x1:Entry prog 210 e_x1 false:=eo { P:=prog,n:=19,tab:=[(169,e_x0)] } (.seq .leaf (.seq (.seq .leaf (.block (.loop [(8,.leaf (.int .i64))] (.seq .leaf (.seq (.cond .leaf .leaf) (.seq (.block (.seq .leaf (.seq .leaf (.cond (.seq .leaf .leaf) .leaf)))) .leaf)))))) (.seq .leaf .leaf))) func210 ⟨t_x0,trivial⟩
noncomputable def e_x2:FSem:=mkE (ArgT.cons (Ty.leaf .sl) (ArgT.fn 169 ArgT.nil)) (Ty.leaf .bool) fun a=>F.zbj a.1
theorem t_x2:Entry prog 168 e_x2 false:=eo { P:=prog,n:=9,tab:=[(210,e_x1)] } (.seq .leaf (.seq .leaf .leaf)) func168 ⟨t_x1,trivial⟩
noncomputable def e_x3:FSem:=mkE (ArgT.cons tyTSketch ArgT.nil) (Ty.leaf .bool) fun a=>F.ziq a.1
theorem t_x3:Entry prog 113 e_x3 false:=eo { P:=prog,n:=35,tab:=[(168,e_x2)],rtL:=[(5,1),(8,1),(11,1),(14,1),(17,1),(20,1),(32,1)],locL:=[1] } (.seq .leaf (.seq (.seq .leaf (.block (.loop [(25,.leaf (.int .i64))] (.seq .leaf (.seq (.cond .leaf .leaf) (.seq (.block (.seq .leaf (.seq .leaf (.cond (.seq .leaf .leaf) .leaf)))) .leaf)))))) (.seq .leaf .leaf))) func113 ⟨t_x2,trivial⟩
noncomputable def e_x4:FSem:=mkE (ArgT.cons tyTInt ArgT.nil) (Ty.leaf .bool) fun a=>F.zgz a.1
theorem t_x4:Entry prog 172 e_x4 false:=eo { P:=prog,n:=27,tab:=[],rtL:=[(4,1),(10,1),(18,1)],locL:=[1] } (.seq .leaf (.seq .leaf (.seq .leaf .leaf))) func172 trivial
noncomputable def e_x5:FSem:=mkE (ArgT.cons (Ty.leaf .sl) ArgT.nil) (Ty.leaf .sl) fun a=>F.zaf a.1
theorem t_x5:Entry prog 212 e_x5 false:=eo { P:=prog,n:=21,tab:=[] } (.seq .leaf (.seq (.block (.loop [(0,.leaf (.sl))] (.join [] (.seq .leaf (.cond .leaf .leaf)) (.block .leaf)))) (.seq .leaf .leaf))) func212 trivial
noncomputable def e_x6:FSem:=mkE (ArgT.cons tyTInt ArgT.nil) (Ty.leaf (.int .i64)) fun a=>F.zem a.1
theorem t_x6:Entry prog 173 e_x6 false:=eo { P:=prog,n:=12,tab:=[(212,e_x5)],rtL:=[(4,1),(10,1)],locL:=[1] } (.seq .leaf (.seq (.block (.seq .leaf (.cond (.seq .leaf .leaf) (.seq .leaf (.cond (.seq .leaf .leaf) .leaf))))) (.seq .leaf .leaf))) func173 ⟨t_x5,trivial⟩
noncomputable def e_x7:FSem:=mkE (ArgT.cons (Ty.leaf .sl) ArgT.nil) (Ty.leaf .sl) fun a=>F.zb3 a.1
theorem t_x7:Entry prog 215 e_x7 false:=eo { P:=prog,n:=8,tab:=[] } (.seq .leaf (.seq (.seq .leaf (.cond (.seq .leaf .leaf) .leaf)) (.seq .leaf .leaf))) func215 trivial
noncomputable def e_x8:FSem:=mkE (ArgT.cons (Ty.leaf .bool) (ArgT.cons (Ty.leaf .sl) ArgT.nil)) tyTInt fun a=>F.zc8 a.1 a.2.1
theorem t_x8:Entry prog 214 e_x8 false:=eo { P:=prog,n:=14,tab:=[(212,e_x5)],locL:=[4] } (.seq .leaf (.seq .leaf (.seq (.seq .leaf (.cond (.seq .leaf .leaf) .leaf)) (.seq .leaf .leaf)))) func214 ⟨t_x5,trivial⟩
noncomputable def e_x9:FSem:=mkE (ArgT.cons (Ty.leaf .sl) ArgT.nil) (Ty.clo 257) fun a=>F.zbv a.1
theorem t_x9:Entry prog 246 e_x9 false:=eo { P:=prog,n:=4,tab:=[] } (.seq .leaf (.seq .leaf .leaf)) func246 trivial
noncomputable def e_x10:FSem:=mkE (ArgT.cons (Ty.leaf .sl) ArgT.nil) (Ty.leaf (.int .u64)) fun a=>F.zde a.1
theorem t_x10:Entry prog 216 e_x10 false:=eo { P:=prog,n:=16,tab:=[(246,e_x9)],locL:=[3],backs:=[(257,(.leaf (.int .u32)))] } (.seq .leaf (.seq .leaf (.seq (.seq .leaf (.block (.back [(3,.box [.int .u64])] .leaf (.block .leaf)))) (.seq .leaf .leaf)))) func216 ⟨t_x9,trivial⟩ ⟨za4w,trivial⟩
noncomputable def e_x11:FSem:=mkE (ArgT.cons (Ty.leaf (.int .u64)) ArgT.nil) (Ty.leaf .sl) fun a=>F.zcc a.1
theorem t_x11:Entry prog 217 e_x11 false:=eo { P:=prog,n:=10,tab:=[(212,e_x5)] } (.seq .leaf (.seq .leaf .leaf)) func217 ⟨t_x5,trivial⟩
noncomputable def e_x12:FSem:=mkE (ArgT.cons (Ty.leaf (.int .i64)) ArgT.nil) (Ty.leaf .bool) fun a=>F.zgw a.1
theorem t_x12:Entry prog 209 e_x12 false:=eo { P:=prog,n:=6,tab:=[] } (.seq .leaf (.seq .leaf .leaf)) func209 trivial
noncomputable def e_x13:FSem:=mkE (ArgT.cons (Ty.leaf (.int .i64)) (ArgT.cons (Ty.leaf (.int .i64)) ArgT.nil)) (Ty.leaf (.int .i64)) fun a=>F.zcj a.1 a.2.1
theorem t_x13:Entry prog 163 e_x13 false:=eo { P:=prog,n:=20,tab:=[(209,e_x12)] } (.seq .leaf (.seq .leaf (.seq .leaf (.seq (.seq .leaf (.cond (.seq (.seq .leaf (.cond (.seq .leaf .leaf) .leaf)) (.seq .leaf .leaf)) .leaf)) (.seq (.seq .leaf (.cond (.seq .leaf .leaf) .leaf)) (.seq (.seq .leaf (.cond (.seq .leaf .leaf) .leaf)) (.seq (.seq .leaf (.cond (.seq .leaf .leaf) .leaf)) (.seq .leaf .leaf)))))))) func163 ⟨t_x12,trivial⟩
noncomputable def e_x14:FSem:=mkE (ArgT.cons (Ty.leaf (.int .u32)) ArgT.nil) (Ty.leaf .bool) fun a=>F.zfa a.1
theorem t_x14:Entry prog 272 e_x14 false:=eo { P:=prog,n:=6,tab:=[] } (.seq .leaf (.seq .leaf .leaf)) func272 trivial
noncomputable def e_x15:FSem:=mkE (ArgT.cons (Ty.leaf (.int .u32)) (ArgT.cons (Ty.leaf (.int .u32)) ArgT.nil)) (Ty.leaf (.int .i64)) fun a=>F.zfi a.1 a.2.1
theorem t_x15:Entry prog 255 e_x15 false:=eo { P:=prog,n:=20,tab:=[(272,e_x14)] } (.seq .leaf (.seq .leaf (.seq .leaf (.seq (.seq .leaf (.cond (.seq (.seq .leaf (.cond (.seq .leaf .leaf) .leaf)) (.seq .leaf .leaf)) .leaf)) (.seq (.seq .leaf (.cond (.seq .leaf .leaf) .leaf)) (.seq (.seq .leaf (.cond (.seq .leaf .leaf) .leaf)) (.seq (.seq .leaf (.cond (.seq .leaf .leaf) .leaf)) (.seq .leaf .leaf)))))))) func255 ⟨t_x14,trivial⟩
noncomputable def e_x16:FSem:=mkE (ArgT.cons (Ty.leaf .sl) (ArgT.cons (Ty.leaf .sl) ArgT.nil)) (Ty.leaf (.int .i64)) fun a=>F.zes a.1 a.2.1
theorem t_x16:Entry prog 239 e_x16 false:=eo { P:=prog,n:=41,tab:=[(163,e_x13),(255,e_x15)] } (.seq .leaf (.seq (.seq .leaf (.cond (.seq .leaf .leaf) .leaf)) (.seq (.seq .leaf (.block (.loop [(5,.leaf (.int .i64))] (.seq (.seq .leaf (.cond .leaf .leaf)) (.seq (.block (.seq (.draw [0,1,2,3,4,5,6,7,8]) (.cond (.seq (.draw [0,1,2,3,4,5,6,7,8,9]) .leaf) .leaf))) .leaf))))) (.seq .leaf .leaf)))) func239 ⟨t_x13,t_x15,trivial⟩
noncomputable def e_x17:FSem:=mkE (ArgT.cons (Ty.leaf .sl) (ArgT.cons (Ty.leaf (.int .u32)) ArgT.nil)) (Ty.tup (.cons (Ty.leaf .sl) (.cons (Ty.leaf .sl) .nil)) (fun x=>(x.1,x.2,())) (fun y=>(y.1,y.2.1)) (fun _=>rfl) (fun _=>rfl)) fun a=>F.zfl a.1 a.2.1
theorem t_x17:Entry prog 240 e_x17 false:=eo { P:=prog,n:=43,tab:=[(212,e_x5),(217,e_x11)] } (.seq .leaf (.seq .leaf (.seq .leaf (.seq (.seq .leaf (.block (.loop [(7,.leaf (.int .u64)),(8,.leaf (.int .i64))] (.seq (.seq .leaf (.cond .leaf .leaf)) (.seq (.block (.seq .leaf (.seq .leaf .leaf))) .leaf))))) (.seq .leaf .leaf))))) func240 ⟨t_x5,t_x11,trivial⟩
noncomputable def e_x18:FSem:=mkE (ArgT.cons (Ty.leaf (.int .u32)) ArgT.nil) (Ty.leaf (.int .i64)) fun a=>F.zhh a.1
theorem t_x18:Entry prog 256 e_x18 false:=eo { P:=prog,n:=19,tab:=[] } (.seq .leaf (.join [(0,.leaf (.int .u32)),(2,.leaf (.int .i64))] (.seq .leaf (.cond (.seq .leaf .leaf) .leaf)) (.join [(0,.leaf (.int .u32)),(2,.leaf (.int .i64))] (.seq .leaf (.cond (.seq .leaf .leaf) .leaf)) (.seq .leaf .leaf)))) func256 trivial
noncomputable def e_x19:FSem:=mkE (ArgT.cons (Ty.leaf (.int .u32)) ArgT.nil) (Ty.leaf (.int .i64)) fun a=>F.zdl a.1
theorem t_x19:Entry prog 241 e_x19 false:=eo { P:=prog,n:=6,tab:=[(256,e_x18)] } (.seq .leaf (.seq .leaf .leaf)) func241 ⟨t_x18,trivial⟩
noncomputable def e_x20:FSem:=mkE (ArgT.cons (Ty.leaf .sl) (ArgT.cons (Ty.leaf (.int .i64)) ArgT.nil)) (Ty.leaf .sl) fun a=>F.zdv a.1 a.2.1
theorem t_x20:Entry prog 242 e_x20 false:=eo { P:=prog,n:=41,tab:=[] } (.seq .leaf (.seq .leaf (.seq (.seq .leaf (.block (.loop [(15,.leaf (.int .i64))] (.seq .leaf (.seq (.cond .leaf .leaf) (.seq (.block (.seq .leaf (.seq .leaf (.seq .leaf .leaf)))) .leaf)))))) (.seq .leaf .leaf)))) func242 trivial
noncomputable def e_x21:FSem:=mkM (ArgT.cons (Ty.leaf .sl) (ArgT.cons (Ty.leaf .sl) (ArgT.cons (Ty.leaf (.int .u64)) ArgT.nil))) (Ty.leaf .bool) fun a=>F.zgr a.1 a.2.1 a.2.2.1
theorem t_x21:Entry prog 243 e_x21 true:=eoM { P:=prog,n:=63,tab:=[] } (.seq .leaf (.seq .leaf (.seq (.seq .leaf (.block (.loop [(7,.leaf (.int .u64)),(15,.leaf (.int .i64))] (.seq .leaf (.seq (.cond .leaf .leaf) (.seq (.block (.seq .leaf (.seq .leaf (.seq .leaf (.seq .leaf .leaf))))) .leaf)))))) (.seq .leaf (.seq .leaf (.seq .leaf .leaf)))))) func243 trivial
noncomputable def e_x22:FSem:=mkM (ArgT.cons (Ty.leaf .sl) (ArgT.cons (Ty.leaf .sl) ArgT.nil)) Ty.unit fun a=>F.zhg a.1 a.2.1
theorem t_x22:Entry prog 244 e_x22 true:=eoM { P:=prog,n:=41,tab:=[] } (.seq .leaf (.seq (.seq .leaf (.block (.loop [(4,.leaf (.int .u64)),(9,.leaf (.int .i64))] (.seq .leaf (.seq (.cond .leaf .leaf) (.seq (.block (.seq .leaf (.seq .leaf (.seq .leaf .leaf)))) .leaf)))))) .leaf)) func244 trivial
noncomputable def e_x23:FSem:=mkE (ArgT.cons (Ty.leaf .sl) (ArgT.cons (Ty.leaf (.int .i64)) ArgT.nil)) (Ty.leaf .sl) fun a=>F.zfm a.1 a.2.1
theorem t_x23:Entry prog 245 e_x23 false:=eo { P:=prog,n:=47,tab:=[] } (.seq .leaf (.seq .leaf (.seq (.seq .leaf (.block (.loop [(13,.leaf (.int .i64))] (.seq .leaf (.seq (.cond .leaf .leaf) (.join [] (.block (.seq .leaf (.seq .leaf (.seq .leaf (.cond (.draw [0,1,2,3,4,5,6,7,8,9,10,11,12,13,14,15,16]) .leaf))))) .leaf)))))) (.seq .leaf .leaf)))) func245 trivial
noncomputable def e_x24:FSem:=mkE (ArgT.cons (Ty.leaf .sl) (ArgT.cons (Ty.leaf .sl) ArgT.nil)) (Ty.tup (.cons (Ty.leaf .sl) (.cons (Ty.leaf .sl) .nil)) (fun x=>(x.1,x.2,())) (fun y=>(y.1,y.2.1)) (fun _=>rfl) (fun _=>rfl)) fun a=>F.ze4 a.1 a.2.1
theorem t_x24:Entry prog 213 e_x24 false:=eo { P:=prog,n:=177,tab:=[(239,e_x16),(215,e_x7),(216,e_x10),(217,e_x11),(240,e_x17),(241,e_x19),(242,e_x20),(212,e_x5),(243,e_x21),(244,e_x22),(245,e_x23)],mutL:=[243,244] } (.seq .leaf (.seq (.block (.seq .leaf (.cond (.seq .leaf .leaf) (.seq .leaf (.cond (.seq .leaf (.seq (.draw [0,1,2,4,5,6,3,7,8,9]) .leaf)) (.seq .leaf (.cond (.seq .leaf .leaf) .leaf))))))) (.seq .leaf (.seq .leaf (.seq .leaf (.seq .leaf (.seq (.draw [0,1,2,3,4,5,6,7,8,9,10,11,12,13]) (.seq (.seq .leaf (.block (.loop [(15,.leaf (.int .i64))] (.seq (.seq .leaf (.cond .leaf .leaf)) (.seq (.block (.seq (.draw [0,1,2,3,4,5,6,7,8,9,10,11,12,13,14,15,16,17]) (.seq (.draw [0,1,2,3,4,5,6,7]) (.join [(17,.leaf (.int .u64))] (.block (.loop [(17,.leaf (.int .u64)),(18,.leaf (.int .u64))] (.join [] (.seq .leaf (.cond .leaf .leaf)) (.block (.seq .leaf (.seq .leaf (.seq .leaf (.cond .leaf .leaf)))))))) (.join [(17,.leaf (.int .u64))] (.seq .leaf (.cond (.seq .leaf .leaf) .leaf)) .leaf))))) .leaf))))) (.seq (.draw [0,2,3,4,6,1,5,7,8,9,10]) .leaf))))))))) func213 ⟨t_x16,t_x7,t_x10,t_x11,t_x17,t_x19,t_x20,t_x5,t_x21,t_x22,t_x23,trivial⟩
noncomputable def e_x25:FSem:=mkE (ArgT.cons tyTInt (ArgT.cons tyTInt ArgT.nil)) tyTInt fun a=>F.zh7 a.1 a.2.1
theorem t_x25:Entry prog 175 e_x25 false:=eo { P:=prog,n:=57,tab:=[(212,e_x5),(215,e_x7),(214,e_x8),(216,e_x10),(217,e_x11),(213,e_x24)],rtL:=[(11,2),(14,3)],locL:=[2,3,4] } (.seq .leaf (.seq (.draw [0,1,3,4,2,5,6,7]) (.join [(5,.leaf (.sl)),(6,.leaf (.sl))] (.block (.loop [(5,.leaf (.sl)),(6,.leaf (.sl))] (.join [] (.seq .leaf (.cond .leaf .leaf)) (.block (.seq .leaf .leaf))))) (.seq (.seq .leaf (.cond (.seq .leaf .leaf) .leaf)) (.seq .leaf (.seq (.block (.loop [(9,.leaf (.int .u64)),(10,.leaf (.int .u64))] (.seq (.seq .leaf (.cond .leaf .leaf)) (.block (.draw [0,1,2,3,4,5]))))) (.seq .leaf .leaf))))))) func175 ⟨t_x5,t_x7,t_x8,t_x10,t_x11,t_x24,trivial⟩
noncomputable def e_x26:FSem:=mkE (ArgT.cons tyTInt ArgT.nil) (Ty.leaf .bool) fun a=>F.ze5 a.1
theorem t_x26:Entry prog 174 e_x26 false:=eo { P:=prog,n:=19,tab:=[],rtL:=[(3,1),(7,1),(13,1)],locL:=[1] } (.seq .leaf (.seq .leaf .leaf)) func174 trivial
noncomputable def e_x27:FSem:=mkE (ArgT.cons tyTRat ArgT.nil) (Ty.leaf .bool) fun a=>F.zdh a.1
theorem t_x27:Entry prog 116 e_x27 false:=eo { P:=prog,n:=25,tab:=[(172,e_x4),(173,e_x6),(175,e_x25),(174,e_x26)],rtL:=[(3,1),(7,1),(12,1),(18,1),(20,1)],locL:=[1] } (.seq .leaf (.seq .leaf .leaf)) func116 ⟨t_x4,t_x6,t_x25,t_x26,trivial⟩
noncomputable def e_x28:FSem:=mkE (ArgT.cons tyTPoint ArgT.nil) (Ty.leaf .bool) fun a=>F.zkv a.1
theorem t_x28:Entry prog 115 e_x28 false:=eo { P:=prog,n:=11,tab:=[(116,e_x27)],rtL:=[(3,1),(7,1)],locL:=[1] } (.seq .leaf (.seq .leaf .leaf)) func115 ⟨t_x27,trivial⟩
noncomputable def e_x29:FSem:=mkE (ArgT.cons tyTPoint (ArgT.cons (Ty.leaf .ptr) ArgT.nil)) (Ty.leaf .bool) fun a=>F.zct a.1 a.2.1
theorem t_x29:Entry prog 171 e_x29 false:=eo { P:=prog,n:=8,tab:=[(115,e_x28)],locL:=[2],fnL:=[(4,115,0)] } (.seq .leaf (.seq .leaf .leaf)) func171 ⟨t_x28,trivial⟩
noncomputable def e_x30:FSem:=mkE (ArgT.cons (Ty.leaf .sl) (ArgT.fnc 171 1 ArgT.nil)) (Ty.leaf (.int .i64)) fun a=>F.zav a.1 a.2.1
theorem t_x30:Entry prog 211 e_x30 false:=eo { P:=prog,n:=19,tab:=[(171,e_x29)] } (.seq .leaf (.seq (.seq .leaf (.block (.loop [(8,.leaf (.int .i64))] (.seq .leaf (.seq (.cond .leaf .leaf) (.seq (.block (.seq .leaf (.seq .leaf (.cond (.seq .leaf .leaf) .leaf)))) .leaf)))))) (.seq .leaf .leaf))) func211 ⟨t_x29,trivial⟩
noncomputable def e_x31:FSem:=mkE (ArgT.cons (Ty.leaf .sl) (ArgT.fnc 171 1 ArgT.nil)) (Ty.leaf .bool) fun a=>F.zap a.1 a.2.1
theorem t_x31:Entry prog 170 e_x31 false:=eo { P:=prog,n:=9,tab:=[(211,e_x30)] } (.seq .leaf (.seq .leaf .leaf)) func170 ⟨t_x30,trivial⟩
noncomputable def e_x32:FSem:=mkE (ArgT.cons (Ty.leaf .sl) (ArgT.fn 115 ArgT.nil)) (Ty.leaf .bool) fun a=>F.zcf a.1
theorem t_x32:Entry prog 114 e_x32 false:=eo { P:=prog,n:=9,tab:=[(170,e_x31)] } (.seq .leaf (.seq .leaf .leaf)) func114 ⟨t_x31,trivial⟩
noncomputable def e_x33:FSem:=mkE (ArgT.cons (Ty.leaf (.int .i64)) (ArgT.cons (Ty.leaf (.int .i64)) ArgT.nil)) (Ty.leaf .bool) fun a=>F.zed a.1 a.2.1
theorem t_x33:Entry prog 119 e_x33 false:=eo { P:=prog,n:=12,tab:=[] } (.seq .leaf (.seq .leaf .leaf)) func119 trivial
noncomputable def e_x34:FSem:=mkE (ArgT.cons tyTRat ArgT.nil) (Ty.leaf (.int .i64)) fun a=>F.zfg a.1
theorem t_x34:Entry prog 120 e_x34 false:=eo { P:=prog,n:=6,tab:=[(173,e_x6)],rtL:=[(3,1)],locL:=[1] } (.seq .leaf (.seq .leaf .leaf)) func120 ⟨t_x6,trivial⟩
noncomputable def e_x35:FSem:=mkE (ArgT.cons tyTRound (ArgT.cons (Ty.leaf .ptr) ArgT.nil)) (Ty.leaf .bool) fun a=>F.zkw a.1 a.2.1
theorem t_x35:Entry prog 118 e_x35 false:=eo { P:=prog,n:=19,tab:=[(119,e_x33),(116,e_x27),(120,e_x34)],rtL:=[(5,2),(9,2),(14,2)],locL:=[2] } (.seq .leaf (.seq .leaf .leaf)) func118 ⟨t_x33,t_x27,t_x34,trivial⟩
noncomputable def e_x36:FSem:=mkE (ArgT.cons tyTRound (ArgT.cons (Ty.leaf .ptr) ArgT.nil)) (Ty.leaf .bool) fun a=>F.zcu a.1 a.2.1
theorem t_x36:Entry prog 177 e_x36 false:=eo { P:=prog,n:=8,tab:=[(118,e_x35)],locL:=[2],fnL:=[(4,118,1)] } (.seq .leaf (.seq .leaf .leaf)) func177 ⟨t_x35,trivial⟩
noncomputable def e_x37:FSem:=mkE (ArgT.cons (Ty.leaf .sl) (ArgT.fnc 177 1 ArgT.nil)) (Ty.leaf (.int .i64)) fun a=>F.zaw a.1 a.2.1
theorem t_x37:Entry prog 218 e_x37 false:=eo { P:=prog,n:=19,tab:=[(177,e_x36)] } (.seq .leaf (.seq (.seq .leaf (.block (.loop [(8,.leaf (.int .i64))] (.seq .leaf (.seq (.cond .leaf .leaf) (.seq (.block (.seq .leaf (.seq .leaf (.cond (.seq .leaf .leaf) .leaf)))) .leaf)))))) (.seq .leaf .leaf))) func218 ⟨t_x36,trivial⟩
noncomputable def e_x38:FSem:=mkE (ArgT.cons (Ty.leaf .sl) (ArgT.fnc 177 1 ArgT.nil)) (Ty.leaf .bool) fun a=>F.zaq a.1 a.2.1
theorem t_x38:Entry prog 176 e_x38 false:=eo { P:=prog,n:=9,tab:=[(218,e_x37)] } (.seq .leaf (.seq .leaf .leaf)) func176 ⟨t_x37,trivial⟩
noncomputable def e_x39:FSem:=mkE (ArgT.cons (Ty.leaf .sl) (ArgT.fnc 118 1 ArgT.nil)) (Ty.leaf .bool) fun a=>F.zcg a.1 a.2.1
theorem t_x39:Entry prog 117 e_x39 false:=eo { P:=prog,n:=9,tab:=[(176,e_x38)] } (.seq .leaf (.seq .leaf .leaf)) func117 ⟨t_x38,trivial⟩
end
end Den
end

section
set_option maxRecDepth 100000
namespace Den
open Go Go.Proofs.Tryz
noncomputable section
noncomputable def e_x40:FSem:=mkE (ArgT.cons tyTSegment (ArgT.cons (Ty.leaf .ptr) ArgT.nil)) (Ty.leaf .bool) fun a=>F.zkx a.1 a.2.1
theorem t_x40:Entry prog 122 e_x40 false:=eo { P:=prog,n:=21,tab:=[(119,e_x33)],rtL:=[(5,2),(10,2),(15,2),(17,2)],locL:=[2] } (.seq .leaf (.seq .leaf .leaf)) func122 ⟨t_x33,trivial⟩
noncomputable def e_x41:FSem:=mkE (ArgT.cons tyTSegment (ArgT.cons (Ty.leaf .ptr) ArgT.nil)) (Ty.leaf .bool) fun a=>F.zco a.1 a.2.1
theorem t_x41:Entry prog 179 e_x41 false:=eo { P:=prog,n:=8,tab:=[(122,e_x40)],locL:=[2],fnL:=[(4,122,1)] } (.seq .leaf (.seq .leaf .leaf)) func179 ⟨t_x40,trivial⟩
noncomputable def e_x42:FSem:=mkE (ArgT.cons (Ty.leaf .sl) (ArgT.fnc 179 1 ArgT.nil)) (Ty.leaf (.int .i64)) fun a=>F.zam a.1 a.2.1
theorem t_x42:Entry prog 219 e_x42 false:=eo { P:=prog,n:=19,tab:=[(179,e_x41)] } (.seq .leaf (.seq (.seq .leaf (.block (.loop [(8,.leaf (.int .i64))] (.seq .leaf (.seq (.cond .leaf .leaf) (.seq (.block (.seq .leaf (.seq .leaf (.cond (.seq .leaf .leaf) .leaf)))) .leaf)))))) (.seq .leaf .leaf))) func219 ⟨t_x41,trivial⟩
noncomputable def e_x43:FSem:=mkE (ArgT.cons (Ty.leaf .sl) (ArgT.fnc 179 1 ArgT.nil)) (Ty.leaf .bool) fun a=>F.zal a.1 a.2.1
theorem t_x43:Entry prog 178 e_x43 false:=eo { P:=prog,n:=9,tab:=[(219,e_x42)] } (.seq .leaf (.seq .leaf .leaf)) func178 ⟨t_x42,trivial⟩
noncomputable def e_x44:FSem:=mkE (ArgT.cons (Ty.leaf .sl) (ArgT.fnc 122 1 ArgT.nil)) (Ty.leaf .bool) fun a=>F.zc6 a.1 a.2.1
theorem t_x44:Entry prog 121 e_x44 false:=eo { P:=prog,n:=9,tab:=[(178,e_x43)] } (.seq .leaf (.seq .leaf .leaf)) func121 ⟨t_x43,trivial⟩
noncomputable def e_x45:FSem:=mkE (ArgT.cons tyTSketch (ArgT.cons tyTArc ArgT.nil)) (Ty.leaf .bool) fun a=>F.zhn a.1 a.2.1
theorem t_x45:Entry prog 125 e_x45 false:=eo { P:=prog,n:=48,tab:=[(119,e_x33)],rtL:=[(6,2),(9,3),(14,2),(17,3),(23,2),(26,3),(31,2),(33,3),(38,3),(43,3)],locL:=[2,3] } (.seq .leaf (.join [] (.seq .leaf (.cond (.seq .leaf .leaf) .leaf)) (.seq .leaf (.seq .leaf .leaf)))) func125 ⟨t_x33,trivial⟩
noncomputable def e_x46:FSem:=mkE (ArgT.cons tyTArc (ArgT.cons (Ty.leaf .ptr) ArgT.nil)) (Ty.leaf .bool) fun a=>F.zky a.1 a.2.1
theorem t_x46:Entry prog 124 e_x46 false:=eo { P:=prog,n:=7,tab:=[(125,e_x45)],locL:=[2] } (.seq .leaf (.seq .leaf .leaf)) func124 ⟨t_x45,trivial⟩
noncomputable def e_x47:FSem:=mkE (ArgT.cons tyTArc (ArgT.cons (Ty.leaf .ptr) ArgT.nil)) (Ty.leaf .bool) fun a=>F.zd1 a.1 a.2.1
theorem t_x47:Entry prog 181 e_x47 false:=eo { P:=prog,n:=8,tab:=[(124,e_x46)],locL:=[2],fnL:=[(4,124,1)] } (.seq .leaf (.seq .leaf .leaf)) func181 ⟨t_x46,trivial⟩
noncomputable def e_x48:FSem:=mkE (ArgT.cons (Ty.leaf .sl) (ArgT.fnc 181 1 ArgT.nil)) (Ty.leaf (.int .i64)) fun a=>F.zb0 a.1 a.2.1
theorem t_x48:Entry prog 220 e_x48 false:=eo { P:=prog,n:=19,tab:=[(181,e_x47)] } (.seq .leaf (.seq (.seq .leaf (.block (.loop [(8,.leaf (.int .i64))] (.seq .leaf (.seq (.cond .leaf .leaf) (.seq (.block (.seq .leaf (.seq .leaf (.cond (.seq .leaf .leaf) .leaf)))) .leaf)))))) (.seq .leaf .leaf))) func220 ⟨t_x47,trivial⟩
noncomputable def e_x49:FSem:=mkE (ArgT.cons (Ty.leaf .sl) (ArgT.fnc 181 1 ArgT.nil)) (Ty.leaf .bool) fun a=>F.zay a.1 a.2.1
theorem t_x49:Entry prog 180 e_x49 false:=eo { P:=prog,n:=9,tab:=[(220,e_x48)] } (.seq .leaf (.seq .leaf .leaf)) func180 ⟨t_x48,trivial⟩
noncomputable def e_x50:FSem:=mkE (ArgT.cons (Ty.leaf .sl) (ArgT.fnc 124 1 ArgT.nil)) (Ty.leaf .bool) fun a=>F.zck a.1 a.2.1
theorem t_x50:Entry prog 123 e_x50 false:=eo { P:=prog,n:=9,tab:=[(180,e_x49)] } (.seq .leaf (.seq .leaf .leaf)) func123 ⟨t_x49,trivial⟩
noncomputable def e_x51:FSem:=mkE (ArgT.cons tyTSketch (ArgT.cons tyTPiece ArgT.nil)) (Ty.tup (.cons (Ty.leaf (.int .i64)) (.cons (Ty.leaf (.int .i64)) .nil)) (fun x=>(x.1,x.2,())) (fun y=>(y.1,y.2.1)) (fun _=>rfl) (fun _=>rfl)) fun a=>F.ziy a.1 a.2.1
theorem t_x51:Entry prog 183 e_x51 false:=eo { P:=prog,n:=44,tab:=[],rtL:=[(8,3),(10,2),(12,3),(17,2),(19,3),(24,2),(26,3),(31,2),(33,3),(38,3)],locL:=[2,3] } (.seq .leaf (.seq .leaf (.join [(6,.leaf (.int .i64)),(7,.leaf (.int .i64))] (.seq .leaf (.cond (.draw [0,1,2,3,4,5,6,7,8,9,10,11,12,13,14,15]) (.draw [0,1,2,3,4,5,6,7,8,9,10,11,12,13,14,15]))) (.seq (.seq .leaf (.cond (.seq .leaf .leaf) .leaf)) (.seq .leaf .leaf))))) func183 trivial
noncomputable def e_x52:FSem:=mkE (ArgT.cons tyTSketch (ArgT.cons (Ty.leaf .sl) ArgT.nil)) (Ty.leaf .bool) fun a=>F.zg3 a.1 a.2.1
theorem t_x52:Entry prog 128 e_x52 false:=eo { P:=prog,n:=49,tab:=[(119,e_x33),(183,e_x51)],rtL:=[(18,2),(21,7),(23,2),(27,7)],locL:=[2,7] } (.seq .leaf (.seq .leaf (.seq (.seq .leaf (.block (.loop [(5,.leaf (.int .i64)),(13,.leaf (.int .i64))] (.seq .leaf (.seq (.cond .leaf .leaf) (.join [(5,.leaf (.int .i64))] (.block (.seq .leaf (.seq .leaf (.join [(8,.leaf (.int .i64))] (.seq .leaf (.cond .leaf .leaf)) (.seq (.seq .leaf (.cond (.seq .leaf .leaf) .leaf)) (.seq .leaf (.seq (.seq .leaf (.cond (.seq .leaf .leaf) .leaf)) .leaf))))))) .leaf)))))) (.seq .leaf .leaf)))) func128 ⟨t_x33,t_x51,trivial⟩
noncomputable def e_x53:FSem:=mkE (ArgT.cons (Ty.leaf .sl) (ArgT.cons (Ty.leaf .ptr) ArgT.nil)) (Ty.leaf .bool) fun a=>F.zkz a.1 a.2.1
theorem t_x53:Entry prog 127 e_x53 false:=eo { P:=prog,n:=7,tab:=[(128,e_x52)] } (.seq .leaf (.seq .leaf .leaf)) func127 ⟨t_x52,trivial⟩
noncomputable def e_x54:FSem:=mkE (ArgT.cons (Ty.leaf .sl) (ArgT.cons (Ty.leaf .ptr) ArgT.nil)) (Ty.leaf .bool) fun a=>F.zcs a.1 a.2.1
theorem t_x54:Entry prog 182 e_x54 false:=eo { P:=prog,n:=8,tab:=[(127,e_x53)],fnL:=[(4,127,1)] } (.seq .leaf (.seq .leaf .leaf)) func182 ⟨t_x53,trivial⟩
noncomputable def e_x55:FSem:=mkE (ArgT.cons (Ty.leaf .sl) (ArgT.fnc 182 1 ArgT.nil)) (Ty.leaf (.int .i64)) fun a=>F.zau a.1 a.2.1
theorem t_x55:Entry prog 210 e_x55 false:=eo { P:=prog,n:=19,tab:=[(182,e_x54)] } (.seq .leaf (.seq (.seq .leaf (.block (.loop [(8,.leaf (.int .i64))] (.seq .leaf (.seq (.cond .leaf .leaf) (.seq (.block (.seq .leaf (.seq .leaf (.cond (.seq .leaf .leaf) .leaf)))) .leaf)))))) (.seq .leaf .leaf))) func210 ⟨t_x54,trivial⟩
noncomputable def e_x56:FSem:=mkE (ArgT.cons (Ty.leaf .sl) (ArgT.fnc 182 1 ArgT.nil)) (Ty.leaf .bool) fun a=>F.zao a.1 a.2.1
theorem t_x56:Entry prog 168 e_x56 false:=eo { P:=prog,n:=9,tab:=[(210,e_x55)] } (.seq .leaf (.seq .leaf .leaf)) func168 ⟨t_x55,trivial⟩
noncomputable def e_x57:FSem:=mkE (ArgT.cons (Ty.leaf .sl) (ArgT.fnc 127 1 ArgT.nil)) (Ty.leaf .bool) fun a=>F.zce a.1 a.2.1
theorem t_x57:Entry prog 126 e_x57 false:=eo { P:=prog,n:=9,tab:=[(168,e_x56)] } (.seq .leaf (.seq .leaf .leaf)) func126 ⟨t_x56,trivial⟩
noncomputable def e_x58:FSem:=mkE (ArgT.cons (Ty.leaf (.int .i64)) ArgT.nil) (Ty.tup (.cons zqa (.cons (Ty.leaf .bool) .nil)) (fun x=>(x.1,x.2,())) (fun y=>(y.1,y.2.1)) (fun _=>rfl) (fun _=>rfl)) fun a=>F.zei a.1
theorem t_x58:Entry prog 109 e_x58 false:=eo { P:=prog,n:=15,tab:=[],locL:=[2] } (.seq .leaf (.join [(2,.box [.int .i64,.int .i64,.int .i64,.int .i64,.bool,.bool,.bool])] (.seq .leaf (.cond (.seq .leaf .leaf) .leaf)) (.seq .leaf .leaf))) func109 trivial
noncomputable def e_x59:FSem:=mkE (ArgT.cons (Ty.leaf (.int .i64)) ArgT.nil) tyTInt fun a=>F.zer a.1
theorem t_x59:Entry prog 259 e_x59 false:=eo { P:=prog,n:=15,tab:=[(217,e_x11),(214,e_x8)],locL:=[2] } (.seq .leaf (.seq .leaf (.join [(3,.leaf (.int .u64))] (.seq .leaf (.cond .leaf .leaf)) (.seq .leaf .leaf)))) func259 ⟨t_x11,t_x8,trivial⟩
noncomputable def e_x60:FSem:=mkE ArgT.nil tyTInt fun a=>F.zi3
theorem t_x60:Entry prog 273 e_x60 false:=eo { P:=prog,n:=2,tab:=[(259,e_x59)],locL:=[0] } (.seq .leaf (.seq .leaf .leaf)) func273 ⟨t_x59,trivial⟩
noncomputable def e_x61:FSem:=mkE (ArgT.cons (Ty.leaf (.int .i64)) ArgT.nil) tyTRat fun a=>F.zgt a.1
theorem t_x61:Entry prog 258 e_x61 false:=eo { P:=prog,n:=7,tab:=[(259,e_x59),(273,e_x60)],locL:=[2] } (.seq .leaf (.seq .leaf .leaf)) func258 ⟨t_x59,t_x60,trivial⟩
noncomputable def e_x62:FSem:=mkE (ArgT.cons tyTInt (ArgT.cons tyTInt ArgT.nil)) (Ty.leaf (.int .i64)) fun a=>F.zl7 a.1 a.2.1
theorem t_x62:Entry prog 260 e_x62 false:=eo { P:=prog,n:=26,tab:=[(173,e_x6),(163,e_x13),(212,e_x5),(239,e_x16)],rtL:=[(18,2),(21,3)],locL:=[2,3] } (.seq .leaf (.seq (.draw [0,2,1,3,4,5]) (.seq (.seq .leaf (.cond (.seq .leaf .leaf) .leaf)) (.seq (.draw [0,1,2,4,5,3,6,7,8,9]) .leaf)))) func260 ⟨t_x6,t_x13,t_x5,t_x16,trivial⟩
noncomputable def e_x63:FSem:=mkE (ArgT.cons (Ty.leaf .sl) (ArgT.cons (Ty.leaf .sl) ArgT.nil)) (Ty.leaf .sl) fun a=>F.zh1 a.1 a.2.1
theorem t_x63:Entry prog 289 e_x63 false:=eo { P:=prog,n:=75,tab:=[(212,e_x5)] } (.seq .leaf (.join [] (.seq .leaf (.cond (.seq .leaf .leaf) .leaf)) (.seq .leaf (.seq (.seq .leaf (.block (.loop [(27,.leaf (.int .i64))] (.seq .leaf (.seq (.cond .leaf .leaf) (.seq (.block (.seq .leaf (.seq .leaf (.seq (.seq .leaf (.block (.loop [(8,.leaf (.int .u64)),(34,.leaf (.int .i64))] (.seq .leaf (.seq (.cond .leaf .leaf) (.seq (.block (.seq .leaf (.seq .leaf (.seq .leaf .leaf)))) .leaf)))))) .leaf)))) .leaf)))))) (.seq .leaf .leaf))))) func289 ⟨t_x5,trivial⟩
noncomputable def e_x64:FSem:=mkE (ArgT.cons tyTInt (ArgT.cons tyTInt ArgT.nil)) tyTInt fun a=>F.zh8 a.1 a.2.1
theorem t_x64:Entry prog 274 e_x64 false:=eo { P:=prog,n:=18,tab:=[(212,e_x5),(289,e_x63),(214,e_x8)],rtL:=[(5,2),(7,3),(10,2),(13,3)],locL:=[2,3,4] } (.seq .leaf (.seq (.draw [0,1,2,3,4,5,6,8,9,7,10,11,12,13]) .leaf)) func274 ⟨t_x5,t_x63,t_x8,trivial⟩
noncomputable def e_x65:FSem:=mkE (ArgT.cons (Ty.leaf .sl) (ArgT.cons (Ty.leaf .sl) ArgT.nil)) (Ty.leaf .sl) fun a=>F.zhz a.1 a.2.1
theorem t_x65:Entry prog 308 e_x65 false:=eo { P:=prog,n:=58,tab:=[],locL:=[45,55] } (.seq .leaf (.join [(0,.leaf (.sl)),(1,.leaf (.sl))] (.seq .leaf (.cond .leaf .leaf)) (.seq .leaf (.seq .leaf (.seq (.seq .leaf (.block (.loop [(5,.leaf (.sl)),(6,.leaf (.int .u64)),(22,.leaf (.int .i64))] (.seq .leaf (.seq (.cond .leaf .leaf) (.seq (.block (.seq .leaf (.seq .leaf (.join [(6,.leaf (.int .u64))] (.seq .leaf (.cond .leaf .leaf)) (.seq .leaf .leaf))))) .leaf)))))) (.seq (.seq .leaf (.cond .leaf .leaf)) (.seq .leaf .leaf))))))) func308 trivial
noncomputable def e_x66:FSem:=mkE (ArgT.cons (Ty.leaf .sl) (ArgT.cons (Ty.leaf .sl) ArgT.nil)) (Ty.leaf .sl) fun a=>F.zh0 a.1 a.2.1
theorem t_x66:Entry prog 309 e_x66 false:=eo { P:=prog,n:=45,tab:=[(212,e_x5)] } (.seq .leaf (.seq .leaf (.seq .leaf (.seq (.seq .leaf (.block (.loop [(6,.leaf (.int .u64)),(15,.leaf (.int .i64))] (.seq .leaf (.seq (.cond .leaf .leaf) (.seq (.block (.seq .leaf (.seq .leaf (.join [(9,.leaf (.int .u64))] (.seq .leaf (.cond .leaf .leaf)) (.seq .leaf .leaf))))) .leaf)))))) (.seq .leaf .leaf))))) func309 ⟨t_x5,trivial⟩
noncomputable def e_x67:FSem:=mkE (ArgT.cons tyTInt (ArgT.cons tyTInt ArgT.nil)) (Ty.tup (.cons tyTInt (.cons tyTInt (.cons (Ty.leaf (.int .i64)) .nil))) (fun x=>(x.1,x.2.1,x.2.2,())) (fun y=>(y.1,y.2.1,y.2.2.1)) (fun _=>rfl) (fun _=>rfl)) fun a=>F.zij a.1 a.2.1
theorem t_x67:Entry prog 299 e_x67 false:=eo { P:=prog,n:=53,tab:=[(212,e_x5),(213,e_x24),(214,e_x8),(308,e_x65),(309,e_x66)],rtL:=[(10,3),(19,2),(26,2),(28,3),(42,2),(44,3),(49,3)],locL:=[2,3,4,5] } (.seq .leaf (.seq .leaf (.seq (.seq .leaf (.cond (.seq .leaf .leaf) .leaf)) (.seq .leaf (.join [(8,.leaf (.sl)),(9,.leaf (.sl))] (.seq .leaf (.cond (.seq .leaf .leaf) .leaf)) (.seq (.draw [0,1,2,3,4,5,7,8,9,6,10,11,12,13]) .leaf)))))) func299 ⟨t_x5,t_x24,t_x8,t_x65,t_x66,trivial⟩
noncomputable def e_x68:FSem:=mkE (ArgT.cons tyTInt (ArgT.cons tyTInt ArgT.nil)) tyTInt fun a=>F.zi4 a.1 a.2.1
theorem t_x68:Entry prog 291 e_x68 false:=eo { P:=prog,n:=19,tab:=[(174,e_x26),(299,e_x67)],locL:=[2,3,4,5,6] } (.seq .leaf (.seq (.seq .leaf (.cond (.seq .leaf .leaf) .leaf)) (.seq .leaf (.seq .leaf .leaf)))) func291 ⟨t_x26,t_x67,trivial⟩
noncomputable def e_x69:FSem:=mkE (ArgT.cons tyTInt ArgT.nil) tyTInt fun a=>F.zl8 a.1
theorem t_x69:Entry prog 290 e_x69 false:=eo { P:=prog,n:=11,tab:=[(212,e_x5),(215,e_x7),(214,e_x8)],rtL:=[(3,1),(6,1)],locL:=[1,2] } (.seq .leaf (.seq (.draw [0,1,2,3,4,5,6,7,8]) .leaf)) func290 ⟨t_x5,t_x7,t_x8,trivial⟩
noncomputable def e_x70:FSem:=mkE (ArgT.cons tyTInt (ArgT.cons tyTInt ArgT.nil)) tyTRat fun a=>F.zhk a.1 a.2.1
theorem t_x70:Entry prog 275 e_x70 false:=eo { P:=prog,n:=20,tab:=[(175,e_x25),(291,e_x68),(290,e_x69)],rtL:=[(9,3)],locL:=[2,3,4,5] } (.seq .leaf (.seq .leaf (.join [(5,.box [.bool,.sl])] (.seq .leaf (.cond .leaf .leaf)) (.seq (.draw [0,1,3,4,2,5,6,7]) .leaf)))) func275 ⟨t_x25,t_x68,t_x69,trivial⟩
noncomputable def e_x71:FSem:=mkE (ArgT.cons tyTRat (ArgT.cons tyTRat ArgT.nil)) tyTRat fun a=>F.zk7 a.1 a.2.1
theorem t_x71:Entry prog 261 e_x71 false:=eo { P:=prog,n:=31,tab:=[(274,e_x64),(275,e_x70),(174,e_x26),(273,e_x60)],rtL:=[(5,2),(9,3),(13,2),(15,3),(20,2),(22,3),(25,2),(27,3)],locL:=[2,3,4] } (.seq .leaf (.join [(4,.box [.bool,.sl,.bool,.sl])] (.seq .leaf (.cond (.seq .leaf .leaf) .leaf)) (.seq (.draw [0,1,2,3,5,6,7,8,4,9,10,11]) .leaf))) func261 ⟨t_x64,t_x70,t_x26,t_x60,trivial⟩
noncomputable def e_x72:FSem:=mkE (ArgT.cons (Ty.leaf (.int .i64)) ArgT.nil) (Ty.leaf .str) fun a=>F.zfy a.1
theorem t_x72:Entry prog 301 e_x72 false:=eo { P:=prog,n:=15,tab:=[] } (.seq .leaf (.seq (.seq .leaf (.cond (.seq .leaf .leaf) .leaf)) (.seq .leaf .leaf))) func301 trivial
noncomputable def e_x73:FSem:=mkE (ArgT.cons (Ty.leaf (.int .u64)) ArgT.nil) (Ty.leaf (.int .i64)) fun a=>F.zhi a.1
theorem t_x73:Entry prog 311 e_x73 false:=eo { P:=prog,n:=25,tab:=[] } (.seq .leaf (.join [(0,.leaf (.int .u64)),(2,.leaf (.int .i64))] (.seq .leaf (.cond (.seq .leaf .leaf) .leaf)) (.join [(0,.leaf (.int .u64)),(2,.leaf (.int .i64))] (.seq .leaf (.cond (.seq .leaf .leaf) .leaf)) (.join [(0,.leaf (.int .u64)),(2,.leaf (.int .i64))] (.seq .leaf (.cond (.seq .leaf .leaf) .leaf)) (.seq .leaf .leaf))))) func311 trivial
noncomputable def e_x74:FSem:=mkE (ArgT.cons (Ty.leaf (.int .i64)) ArgT.nil) (Ty.leaf (.int .i64)) fun a=>F.zev a.1
theorem t_x74:Entry prog 310 e_x74 false:=eo { P:=prog,n:=6,tab:=[] } (.seq .leaf (.seq .leaf .leaf)) func310 trivial
noncomputable def e_x75:FSem:=mkE (ArgT.cons (Ty.leaf .bool) ArgT.nil) (Ty.leaf (.int .i64)) fun a=>F.zeu a.1
theorem t_x75:Entry prog 312 e_x75 false:=eo { P:=prog,n:=4,tab:=[] } (.seq .leaf (.seq (.seq .leaf (.cond (.seq .leaf .leaf) .leaf)) (.seq .leaf .leaf))) func312 trivial
noncomputable def e_x76:FSem:=mkE (ArgT.cons (Ty.leaf (.int .u64)) ArgT.nil) (Ty.leaf (.int .i64)) fun a=>F.zd8 a.1
theorem t_x76:Entry prog 302 e_x76 false:=eo { P:=prog,n:=15,tab:=[(311,e_x73),(310,e_x74),(312,e_x75)] } (.seq .leaf (.seq .leaf (.seq .leaf .leaf))) func302 ⟨t_x73,t_x74,t_x75,trivial⟩
noncomputable def e_x77:FSem:=mkM (ArgT.cons (Ty.leaf .sl) (ArgT.cons (Ty.leaf (.int .u64)) ArgT.nil)) Ty.unit fun a=>F.zcx a.1 a.2.1
theorem t_x77:Entry prog 303 e_x77 true:=eoM { P:=prog,n:=167,tab:=[] } (.seq .leaf (.seq (.block (.loop [(1,.leaf (.int .u64)),(4,.leaf (.int .i64))] (.seq (.seq .leaf (.cond .leaf .leaf)) (.block (.seq .leaf (.seq .leaf (.seq .leaf (.seq .leaf (.seq .leaf (.seq (.draw [0,1,2,3,4,5,6,7,8,9,10,11,12,13,14]) (.seq (.draw [0,1,2,3,4,5,6,7,8,9,10,11,12,13,14]) (.seq (.draw [0,1,2,3,4,5,6,7,8,9,10,11,12,13,14]) (.seq (.draw [0,1,2,3,4,5,6,7,8,9,10,11,12,13,14]) .leaf))))))))))))) (.seq .leaf (.join [(4,.leaf (.int .i64)),(12,.leaf (.int .u32))] (.seq .leaf (.cond (.seq .leaf (.seq .leaf (.seq .leaf (.seq (.draw [0,1,2,3,4,5,6,7,8,9,10,11,12,13,14]) (.seq (.draw [0,1,2,3,4,5,6,7,8,9,10,11,12,13,14]) .leaf))))) .leaf)) (.join [(4,.leaf (.int .i64)),(12,.leaf (.int .u32))] (.seq .leaf (.cond (.seq .leaf (.seq .leaf (.seq (.draw [0,1,2,3,4,5,6,7,8,9,10,11,12,13,14]) .leaf))) .leaf)) (.seq .leaf (.cond .leaf .leaf))))))) func303 trivial
noncomputable def e_x78:FSem:=mkE (ArgT.cons (Ty.leaf (.int .u64)) (ArgT.cons (Ty.leaf (.int .i64)) ArgT.nil)) (Ty.leaf .str) fun a=>F.zen a.1 a.2.1
theorem t_x78:Entry prog 293 e_x78 false:=eo { P:=prog,n:=32,tab:=[(301,e_x72),(302,e_x76),(303,e_x77)],mutL:=[303] } (.seq .leaf (.seq (.seq .leaf (.cond (.seq (.seq .leaf (.cond (.seq .leaf .leaf) .leaf)) (.seq .leaf (.seq .leaf (.seq .leaf (.seq .leaf .leaf))))) .leaf)) (.seq .leaf (.seq .leaf .leaf)))) func293 ⟨t_x72,t_x76,t_x77,trivial⟩
noncomputable def e_x79:FSem:=mkE (ArgT.cons (Ty.leaf (.int .u64)) (ArgT.cons (Ty.leaf (.int .i64)) ArgT.nil)) (Ty.leaf .str) fun a=>F.zeq a.1 a.2.1
theorem t_x79:Entry prog 277 e_x79 false:=eo { P:=prog,n:=8,tab:=[(293,e_x78)] } (.seq .leaf (.seq .leaf .leaf)) func277 ⟨t_x78,trivial⟩
end
end Den
end
