/-
  Part 5 of the tools and contracts from which the statement is proved.
-/
import Derived.Test.YthifcokendanpaaGreatDoorParte4
import Derived.Test.YthifcokendanpaaGreatDoorProg
import Derived.RangeFuncBox
import Derived.RangeFuncLeaves
import Derived.Shelf.Abstract
import Derived.WalkKit
import Derived.OwnWalkIn
import Derived.TacticsInMore
import Derived.LoopNIn
import Derived.LoopIn
import Derived.Laws.Externs
import Derived.Lib.Builder
import Derived.Lib.UnsafeStr
import Derived.ProofKit
set_option linter.all false
section
namespace Den
open Go Iv Lx
section
variable {h : Hp} {s : TSketch} {S : PSk} {Kb : Bool → Hp → Prop} {Ki : Int → Hp → Prop} {l : Sl}
theorem zjx {b:Bool} {P:Prop} (h:b=true↔¬P):(!b)=true↔P:=by
 rw [Bool.not_eq_true',←Bool.not_eq_true,h]
 exact ⟨fun hh=>Classical.byContradiction hh,fun hh hn=>hn hh⟩
theorem zta {ps:List (Option Rat×Option Rat)} (hx:LR ptc 8 PTT h l ps) (hlen:ps.length≤1000000) (H:∀b h',h.le h'→(b=true↔∀p∈ps,VP p)→Kb b h'):callP (F.zc0 l) Kb h:=by
 refine za0 (fun b h'=>(b=true↔∀p∈ps,VP p)) (fun K' hk=>?_) fun b h' hl hb=>H b h' hl hb
 unfold F.zc0
 refine zd5 fun a h1 hl1 hc1=>?_
 have hl:=hx.len zgc
 refine za0 (fun b h'=>(b=true↔¬∀p∈ps,VP p)) (fun K2 hk2=>?_) fun b h' hl hb=>hk _ _ (Hp.le_trans hl1 hl) (zjx hb)
 unfold F.zaj
 refine za0 (fun r h'=>(0≤r↔¬∀p∈ps,VP p)) (fun K3 hk3=>?_) fun r h' hl hr=>hk2 _ _ hl (by rw [decide_eq_true_iff]; exact hr)
 unfold F.zan
 refine zj3 (n:=ps.length) (g:=fun i=>∃h:i<ps.length,¬VP ps[i]) (by omega) (fun i h' k hl' hi' hb=>?_) (fun h' k hk=>za1 (fun hh=>by simp only at hh; omega) (fun _=>hk)) (fun r h' hl hr=>hk3 _ _ hl (by rw [hr,zl6]))
 refine za1 (fun _=>?_) (fun hh=>by simp only at hh; omega)
 refine (hx.le zgc (Hp.le_trans hl1 hl')).get zgc i rfl hi' fun b x hxx hc=>?_
 refine ⟨_,hc 0 _ rfl,_,hc 1 _ rfl,_,hc 2 _ rfl,_,hc 3 _ rfl,_,hc 4 _ rfl,_,hc 5 _ rfl,_,hc 6 _ rfl,_,hc 7 _ rfl,?_⟩
 refine za0 (fun b h'=>(b=true↔¬VP ps[i])) (fun K4 hk4=>?_) fun b h'' hl'' hbb=>hb b h'' hl'' (by rw [hbb]; exact ⟨fun hh=>⟨hi',hh⟩,fun ⟨_,hh⟩=>hh⟩)
 unfold F.zcg
 refine ⟨_,Hp.cell_le hl' hc1,rfl,?_⟩
 refine za0 (fun b h'=>(b=true↔VP ps[i])) (fun K5 hk5=>?_) fun b h'' hl'' hbb=>hk4 _ _ hl'' (by rw [Bool.not_eq_true',←Bool.not_eq_true,hbb])
 unfold F.zic
 refine znc hxx.1 fun h2 hl2=>?_
 refine za7 (fun h3=>znc (hxx.2.le hl2) fun h4 hl4=>hk5 _ _ (Hp.le_trans hl2 hl4) ⟨fun hh=>⟨h3,hh⟩,fun hh=>hh.2⟩) (fun h3=>hk5 _ _ hl2 ⟨fun hh=>(by cases hh),fun hh=>by rw [hh.1] at h3; cases h3⟩)
theorem posq {q:Rat}:q.num.sign>0↔0<q.num:=by
 constructor
 · intro hh; exact Int.sign_pos_iff.1 hh
 · intro hh; exact Int.sign_pos_iff.2 hh
theorem zu1 {x:TRat} {q:Rat} (hx:NR h x q) (hl1:x.num.mag.len≤35184372087808) (H:Ki q.num.sign h):callP (F.ze8 x) Ki h:=
 zat _ (fun K' hk=>zlh hx.1 (zp4 hx.1 hl1) hk) H
theorem ztb {ps:List (Int×Option Rat)} {a0:Addr} (hx:LR rdc 5 RN h l ps) (hlen:ps.length≤1000000) (h0:h.cell a0=some (.int .i64 (S.pts.length:Int))) (H:∀b h',h.le h'→(b=true↔∀p∈ps,VR S p)→Kb b h'):callP (F.zc1 l (some a0,())) Kb h:=by
 refine za0 (fun b h'=>(b=true↔∀p∈ps,VR S p)) (fun K' hk=>?_) fun b h' hl hb=>H b h' hl hb
 unfold F.zc1
 refine zd5 fun a h1 hl1 hc1=>?_
 have hl:=hx.len zfk
 refine za0 (fun b h'=>(b=true↔¬∀p∈ps,VR S p)) (fun K2 hk2=>?_) fun b h' hl hb=>hk _ _ (Hp.le_trans hl1 hl) (zjx hb)
 unfold F.zak
 refine za0 (fun r h'=>(0≤r↔¬∀p∈ps,VR S p)) (fun K3 hk3=>?_) fun r h' hl hr=>hk2 _ _ hl (by rw [decide_eq_true_iff]; exact hr)
 unfold F.zao
 refine zj3 (n:=ps.length) (g:=fun i=>∃h:i<ps.length,¬VR S ps[i]) (by omega) (fun i h' k hl' hi' hb=>?_) (fun h' k hk=>za1 (fun hh=>by simp only at hh; omega) (fun _=>hk)) (fun r h' hl hr=>hk3 _ _ hl (by rw [hr,zl6]))
 refine za1 (fun _=>?_) (fun hh=>by simp only at hh; omega)
 refine (hx.le zfk (Hp.le_trans hl1 hl')).get zfk i rfl hi' fun b x hxx hc=>?_
 refine ⟨_,hc 0 _ rfl,_,hc 1 _ rfl,_,hc 2 _ rfl,_,hc 3 _ rfl,_,hc 4 _ rfl,?_⟩
 refine za0 (fun b h'=>(b=true↔¬VR S ps[i])) (fun K4 hk4=>?_) fun b h'' hl'' hbb=>hb b h'' hl'' (by rw [hbb]; exact ⟨fun hh=>⟨hi',hh⟩,fun ⟨_,hh⟩=>hh⟩)
 unfold F.zch
 refine ⟨_,Hp.cell_le hl' hc1,some a0,rfl,?_⟩
 refine za0 (fun b h'=>(b=true↔VR S ps[i])) (fun K5 hk5=>?_) fun b h'' hl'' hbb=>hk4 _ _ hl'' (by rw [Bool.not_eq_true',←Bool.not_eq_true,hbb])
 unfold F.zid
 refine ⟨_,Hp.cell_le (Hp.le_trans hl1 hl') h0,?_⟩
 have hx1:=hxx.1
 have hx2:=hxx.2
 have no:∀h'',h'.le h''→¬VR S ps[i]→K5 false h'':=fun h'' hl hn=>hk5 _ _ hl ⟨fun hh=>(by cases hh),fun hh=>absurd hh hn⟩
 simp only
 rw [hx1]
 refine zh5 fun b hb=>?_
 refine za7 (fun h2=>?_) (fun h2=>no _ (Hp.le_refl _) fun hv=>by rw [hb.2 hv.1] at h2; cases h2)
 refine znc hx2 fun h3 hl3=>?_
 refine za7 (fun h4=>?_) (fun h4=>no _ hl3 fun hv=>by obtain ⟨q,hq,_⟩:=hv.2; rw [hq] at h4; cases h4)
 obtain ⟨q,hq⟩:=Option.isSome_iff_exists.1 h4
 rw [hq] at hx2
 refine zu1 (hx2.nr.le hl3) hx2.2.1 (hk5 _ _ hl3 ?_)
 rw [decide_eq_true_iff,posq]
 exact ⟨fun hh=>⟨hb.1 h2,q,hq,hh⟩,fun hh=>by obtain ⟨q',hq',h5⟩:=hh.2; rw [hq] at hq'; cases hq'; exact h5⟩
theorem ztc {ps:List TSegment} {a0:Addr} (hx:LR sgc 2 eqP h l ps) (hlen:ps.length≤1000000) (h0:h.cell a0=some (.int .i64 (S.pts.length:Int))) (H:∀b h',h.le h'→(b=true↔∀p∈ps,VG S p)→Kb b h'):callP (F.zbt l (some a0,())) Kb h:=by
 refine za0 (fun b h'=>(b=true↔∀p∈ps,VG S p)) (fun K' hk=>?_) fun b h' hl hb=>H b h' hl hb
 unfold F.zbt
 refine zd5 fun a h1 hl1 hc1=>?_
 have hl:=hx.len zj9
 refine za0 (fun b h'=>(b=true↔¬∀p∈ps,VG S p)) (fun K2 hk2=>?_) fun b h' hl hb=>hk _ _ (Hp.le_trans hl1 hl) (zjx hb)
 unfold F.zag
 refine za0 (fun r h'=>(0≤r↔¬∀p∈ps,VG S p)) (fun K3 hk3=>?_) fun r h' hl hr=>hk2 _ _ hl (by rw [decide_eq_true_iff]; exact hr)
 unfold F.zah
 refine zj3 (n:=ps.length) (g:=fun i=>∃h:i<ps.length,¬VG S ps[i]) (by omega) (fun i h' k hl' hi' hb=>?_) (fun h' k hk=>za1 (fun hh=>by simp only at hh; omega) (fun _=>hk)) (fun r h' hl hr=>hk3 _ _ hl (by rw [hr,zl6]))
 refine za1 (fun _=>?_) (fun hh=>by simp only at hh; omega)
 refine (hx.le zj9 (Hp.le_trans hl1 hl')).get zj9 i rfl hi' fun b x hxx hc=>?_
 refine ⟨_,hc 0 _ rfl,_,hc 1 _ rfl,?_⟩
 have hxx:x=ps[i]:=hxx
 subst hxx
 refine za0 (fun b h'=>(b=true↔¬VG S ps[i])) (fun K4 hk4=>?_) fun b h'' hl'' hbb=>hb b h'' hl'' (by rw [hbb]; exact ⟨fun hh=>⟨hi',hh⟩,fun ⟨_,hh⟩=>hh⟩)
 unfold F.zca
 refine ⟨_,Hp.cell_le hl' hc1,some a0,rfl,?_⟩
 refine za0 (fun b h'=>(b=true↔VG S ps[i])) (fun K5 hk5=>?_) fun b h'' hl'' hbb=>hk4 _ _ hl'' (by rw [Bool.not_eq_true',←Bool.not_eq_true,hbb])
 unfold F.zie
 have c0:=Hp.cell_le (Hp.le_trans hl1 hl') h0
 have no:¬VG S ps[i]→K5 false h':=fun hn=>hk5 _ _ (Hp.le_refl _) ⟨fun hh=>(by cases hh),fun hh=>absurd hh hn⟩
 refine ⟨_,c0,?_⟩
 refine zh5 fun b hb=>?_
 refine za7 (fun h2=>?_) (fun h2=>no fun hv=>by rw [hb.2 hv.1] at h2; cases h2)
 refine ⟨_,c0,?_⟩
 refine zh5 fun b3 hb3=>?_
 refine za7 (fun h4=>?_) (fun h4=>no fun hv=>by rw [hb3.2 hv.2.1] at h4; cases h4)
 refine hk5 _ _ (Hp.le_refl _) ?_
 rw [bne_iff_ne]
 exact ⟨fun hh=>⟨hb.1 h2,hb3.1 h4,hh⟩,fun hh=>hh.2.2⟩
theorem za35 {i:Int} {K:Int→Prop} (hx:SK h s S) (hi:hasP S.cir.length i) (H:K (cen S i)):idxP s.circles i 5 fun a=>ldL (.int .i64) (a.add 0) K h:=by
 obtain ⟨h0,h1⟩:=hi
 have hk:i.toNat<S.cir.length:=by omega
 refine hx.2.1.get zfk i.toNat (by omega) hk fun a x hxx hc=>⟨_,hc 0 _ rfl,?_⟩
 rw [hxx.1]
 unfold cen at H
 rw [List.getD_eq_getElem?_getD,List.getElem?_eq_getElem hk] at H
 exact H
theorem zr2 {a:TArc} (hx:SK h s S) (H:∀b,(b=true↔VA S a)→Kb b h):callP (F.zg0 s a) Kb h:=by
 refine za0 (fun b h'=>h'=h∧(b=true↔VA S a)) (fun K' hk=>?_) fun b h' _ hb=>by obtain ⟨rfl,hb⟩:=hb; exact H b hb
 unfold F.zg0
 have l1:=hx.1.len zgc
 have l2:=hx.2.1.len zfk
 have no:¬VA S a→K' false h:=fun hn=>hk _ _ (Hp.le_refl _) ⟨rfl,fun hh=>(by cases hh),fun hh=>absurd hh hn⟩
 refine za5 (fun _ h'=>h'=h∧hasP S.cir.length a.circle∧hasP S.pts.length a.a∧hasP S.pts.length a.b) ?_ ?_
 · rintro _ h ⟨rfl,g1,g2,g3⟩
   refine za35 hx g1 ?_
   refine zc9 (fun h1=>hk _ _ (Hp.le_refl _) ⟨rfl,?_⟩) (fun h1=>no fun hv=>hv.2.2.2.1 h1)
   rw [bne_iff_ne]
   exact ⟨fun hh=>⟨g1,g2,g3,h1,hh⟩,fun hh=>hh.2.2.2.2⟩
 · rw [l1,l2]
   refine zh5 fun b hb=>za7 (fun h2=>no fun hv=>by rw [hb.2 hv.1] at h2; cases h2) fun h2=>?_
   refine zh5 fun b3 hb3=>za7 (fun h4=>no fun hv=>by rw [hb3.2 hv.2.1] at h4; cases h4) fun h4=>?_
   refine zh5 fun b5 hb5=>za7 (fun h6=>no fun hv=>by rw [hb5.2 hv.2.2.1] at h6; cases h6) fun h6=>?_
   exact ⟨rfl,hb.1 (by simpa using h2),hb3.1 (by simpa using h4),hb5.1 (by simpa using h6)⟩
def SKC (h:Hp) (a:Addr) (s:TSketch):Prop:=∀i v,([Lf.sl.up s.points,Lf.sl.up s.circles,Lf.sl.up s.segments,Lf.sl.up s.arcs,Lf.sl.up s.chains,Lf.sl.up s.constraints]:List Value)[i]?=some v→h.cell (a.add i)=some v
theorem SKC.le {h h':Hp} {a:Addr} {s:TSketch} (hx:SKC h a s) (hl:h.le h'):SKC h' a s:=fun i v hv=>Hp.cell_le hl (hx i v hv)
theorem zt7 {ps:List TArc} {a0:Addr} (hx:LR arcc 4 eqP h l ps) (hlen:ps.length≤1000000) (h0:SKC h a0 s) (hS:SK h s S) (H:∀b h',h.le h'→(b=true↔∀p∈ps,VA S p)→Kb b h'):callP (F.zc5 l (some a0,())) Kb h:=by
 refine za0 (fun b h'=>(b=true↔∀p∈ps,VA S p)) (fun K' hk=>?_) fun b h' hl hb=>H b h' hl hb
 unfold F.zc5
 refine zd5 fun a h1 hl1 hc1=>?_
 have hl:=hx.len zfm
 refine za0 (fun b h'=>(b=true↔¬∀p∈ps,VA S p)) (fun K2 hk2=>?_) fun b h' hl hb=>hk _ _ (Hp.le_trans hl1 hl) (zjx hb)
 unfold F.zaq
 refine za0 (fun r h'=>(0≤r↔¬∀p∈ps,VA S p)) (fun K3 hk3=>?_) fun r h' hl hr=>hk2 _ _ hl (by rw [decide_eq_true_iff]; exact hr)
 unfold F.zas
 refine zj3 (n:=ps.length) (g:=fun i=>∃h:i<ps.length,¬VA S ps[i]) (by omega) (fun i h' k hl' hi' hb=>?_) (fun h' k hk=>za1 (fun hh=>by simp only at hh; omega) (fun _=>hk)) (fun r h' hl hr=>hk3 _ _ hl (by rw [hr,zl6]))
 refine za1 (fun _=>?_) (fun hh=>by simp only at hh; omega)
 refine (hx.le zfm (Hp.le_trans hl1 hl')).get zfm i rfl hi' fun b x hxx hc=>?_
 refine ⟨_,hc 0 _ rfl,_,hc 1 _ rfl,_,hc 2 _ rfl,_,hc 3 _ rfl,?_⟩
 have hxx:x=ps[i]:=hxx
 subst hxx
 refine za0 (fun b h'=>(b=true↔¬VA S ps[i])) (fun K4 hk4=>?_) fun b h'' hl'' hbb=>hb b h'' hl'' (by rw [hbb]; exact ⟨fun hh=>⟨hi',hh⟩,fun ⟨_,hh⟩=>hh⟩)
 unfold F.zcn
 refine ⟨_,Hp.cell_le hl' hc1,some a0,rfl,?_⟩
 refine za0 (fun b h'=>(b=true↔VA S ps[i])) (fun K5 hk5=>?_) fun b h'' hl'' hbb=>hk4 _ _ hl'' (by rw [Bool.not_eq_true',←Bool.not_eq_true,hbb])
 unfold F.zif
 have c0:=h0.le (Hp.le_trans hl1 hl')
 refine ⟨_,c0 0 _ rfl,_,c0 1 _ rfl,_,c0 2 _ rfl,_,c0 3 _ rfl,_,c0 4 _ rfl,_,c0 5 _ rfl,?_⟩
 exact zr2 (s:=s) (hS.le (Hp.le_trans hl1 hl')) fun b hb=>hk5 _ _ (Hp.le_refl _) hb
theorem zph {ps:List TPiece} (hx:SK h s S) (hc:LR pic 3 eqP h l ps) (hlen:ps.length≤1000) (hs:sSk S) (H:∀b,(b=true↔VCh S ps)→Kb b h):callP (F.zem s l) Kb h:=by
 refine za0 (fun b h'=>h'=h∧(b=true↔VCh S ps)) (fun K' hk=>?_) fun b h' _ hb=>by obtain ⟨rfl,hb⟩:=hb; exact H b hb
 unfold F.zem
 have l3:=hx.2.2.1.len zj9
 have l4:=hx.2.2.2.1.len zfm
 have lc:=hc.len zp9
 have no:¬VCh S ps→K' false h:=fun hn=>hk _ _ (Hp.le_refl _) ⟨rfl,fun hh=>(by cases hh),fun hh=>absurd hh hn⟩
 refine zci (n:=ps.length) (by omega) (fun i a h'=>h'=h∧(∀j (hj:j<ps.length),j<i→okP S ps[j])∧(∀j (hj:j+1<ps.length),j+1<i→(endsP S ps[j]).2=(endsP S ps[j+1]).1)∧∀j (hj:j<ps.length),j+1=i→a=(endsP S ps[j]).2) ⟨rfl,fun j _ hj=>by omega,fun j _ hj=>by omega,fun j _ hj=>by omega⟩ ?_
 rintro i a h hi ⟨rfl,g1,g2,g3⟩ k hk2
 refine za1 (fun h2=>?_) (fun h2=>?_)
 · have hi':i<ps.length:=by simp only at h2; omega
   refine za5 (fun st h'=>h'=h∧okP S ps[i]∧(∀j (hj:j<ps.length),j+1=i→(endsP S ps[j]).2=(endsP S ps[i]).1)∧st.1=(endsP S ps[i]).2) ?_ ?_
   · rintro ⟨z,_⟩ h ⟨rfl,k1,k2,k3⟩
     refine hk2 _ _ hi' ⟨rfl,fun j hj hji=>?_,fun j hj hji=>?_,fun j hj hji=>?_⟩
     · rcases Nat.lt_or_ge j i with h5 | h5
       · exact g1 j hj h5
       · have:j=i:=by omega
         subst this; exact k1
     · rcases Nat.lt_or_ge (j+1) i with h5 | h5
       · exact g2 j hj h5
       · have:j+1=i:=by omega
         subst this; exact k2 j (by omega) rfl
     · have:j=i:=by omega
       subst this; exact k3
   · refine hc.get zp9 i rfl hi' fun b x hxx hcc=>?_
     refine ⟨_,hcc 0 _ rfl,_,hcc 1 _ rfl,_,hcc 2 _ rfl,?_⟩
     have hxx:x=ps[i]:=hxx
     rw [←hxx]
     refine za5 (fun st h'=>h'=h∧st.1=(((if x.arc=true then S.arc.length else S.seg.length):Nat):Int)) ?_ ?_
     · rintro ⟨z,_⟩ h ⟨rfl,hz⟩
       simp only at hz
       subst hz
       refine zh5 fun b hb=>za7 (fun h4=>no fun hv=>?_) fun h4=>?_
       · have:=hv.2.1 _ (List.getElem_mem hi')
         rw [←hxx] at this
         rw [hb.2 this] at h4; cases h4
       have hok:okP S x:=hb.1 (by simpa using h4)
       refine zwc hx (p:=x) hok ?_
       refine za1 (fun h5=>?_) (fun h5=>⟨rfl,hok,fun j hj hji=>by simp only at h5; omega,rfl⟩)
       simp only at h5
       obtain ⟨j,rfl⟩:∃j,i=j+1:=⟨i-1,by omega⟩
       have ha:=g3 j (by omega) rfl
       refine zc9 (fun h6=>no fun hv=>?_) (fun h6=>⟨rfl,hok,fun j' hj' hji=>?_,rfl⟩)
       · have:=hv.2.2 j hi'
         rw [←hxx] at this
         simp only at h6
         rw [ha] at h6
         exact h6 this.symm
       · have:j'=j:=by omega
         subst this
         simp only at h6
         rw [←ha,h6]
     · refine za7 (fun h3=>⟨rfl,?_⟩) (fun h3=>⟨rfl,?_⟩)
       · simp only; rw [if_pos h3,l4]
       · simp only; rw [h3,l3]; rfl
 · have hi':i=ps.length:=by simp only at h2; omega
   subst hi'
   refine hk _ _ (Hp.le_refl _) ⟨rfl,?_⟩
   rw [decide_eq_true_iff]
   constructor
   · intro hh
     refine ⟨fun h0=>by rw [h0] at lc; simp at lc; omega,fun p hp=>?_,fun j hj=>g2 j hj (by omega)⟩
     obtain ⟨j,hj,rfl⟩:=List.mem_iff_getElem.1 hp
     exact g1 j hj hj
   · intro hh
     have:=List.length_pos_iff.2 hh.1
     omega
theorem zt8 {ps:List (List TPiece)} {a0:Addr} (hx:LR slc 1 CHN h l ps) (hlen:ps.length≤1000000) (hp20:∀c∈ps,c.length≤20) (h0:SKC h a0 s) (hS:SK h s S) (hs:sSk S) (H:∀b h',h.le h'→(b=true↔∀p∈ps,VCh S p)→Kb b h'):callP (F.zbz l (some a0,())) Kb h:=by
 refine za0 (fun b h'=>(b=true↔∀p∈ps,VCh S p)) (fun K' hk=>?_) fun b h' hl hb=>H b h' hl hb
 unfold F.zbz
 refine zd5 fun a h1 hl1 hc1=>?_
 have hl:=hx.len zhw
 refine za0 (fun b h'=>(b=true↔¬∀p∈ps,VCh S p)) (fun K2 hk2=>?_) fun b h' hl hb=>hk _ _ (Hp.le_trans hl1 hl) (zjx hb)
 unfold F.zai
 refine za0 (fun r h'=>(0≤r↔¬∀p∈ps,VCh S p)) (fun K3 hk3=>?_) fun r h' hl hr=>hk2 _ _ hl (by rw [decide_eq_true_iff]; exact hr)
 unfold F.zam
 refine zj3 (n:=ps.length) (g:=fun i=>∃h:i<ps.length,¬VCh S ps[i]) (by omega) (fun i h' k hl' hi' hb=>?_) (fun h' k hk=>za1 (fun hh=>by simp only at hh; omega) (fun _=>hk)) (fun r h' hl hr=>hk3 _ _ hl (by rw [hr,zl6]))
 refine za1 (fun _=>?_) (fun hh=>by simp only at hh; omega)
 refine (hx.le zhw (Hp.le_trans hl1 hl')).get zhw i rfl hi' fun b x hxx hc=>?_
 have e0:=hc 0 _ rfl
 rw [zbq] at e0
 refine ⟨_,e0,?_⟩
 refine za0 (fun b h'=>(b=true↔¬VCh S ps[i])) (fun K4 hk4=>?_) fun b h'' hl'' hbb=>hb b h'' hl'' (by rw [hbb]; exact ⟨fun hh=>⟨hi',hh⟩,fun ⟨_,hh⟩=>hh⟩)
 unfold F.zcf
 refine ⟨_,Hp.cell_le hl' hc1,some a0,rfl,?_⟩
 refine za0 (fun b h'=>(b=true↔VCh S ps[i])) (fun K5 hk5=>?_) fun b h'' hl'' hbb=>hk4 _ _ hl'' (by rw [Bool.not_eq_true',←Bool.not_eq_true,hbb])
 unfold F.zig
 have c0:=h0.le (Hp.le_trans hl1 hl')
 refine ⟨_,c0 0 _ rfl,_,c0 1 _ rfl,_,c0 2 _ rfl,_,c0 3 _ rfl,_,c0 4 _ rfl,_,c0 5 _ rfl,?_⟩
 exact zph (s:=s) (hS.le (Hp.le_trans hl1 hl')) hxx (by have:=hp20 _ (List.getElem_mem hi'); omega) hs fun b hb=>hk5 _ _ (Hp.le_refl _) hb
theorem zt9 {ps:List PCon} {a0 a1:Addr} {n m:Int} (hx:LR cc 5 CO h l ps) (hlen:ps.length≤1000000) (hps:∀c∈ps,sC c) (h0:h.cell a0=some (.int .i64 n)) (h1:h.cell a1=some (.int .i64 m)) (ht:GT h) (H:∀b h',h.le h'→(b=true↔∀p∈ps,VC p n m)→Kb b h'):callP (F.zbo l (some a0,some a1,())) Kb h:=by
 refine za0 (fun b h'=>(b=true↔∀p∈ps,VC p n m)) (fun K' hk=>?_) fun b h' hl hb=>H b h' hl hb
 unfold F.zbo
 refine zd5 fun a h2 hl2 hc1=>?_
 have hl:=hx.len zau
 refine za0 (fun b h'=>(b=true↔¬∀p∈ps,VC p n m)) (fun K2 hk2=>?_) fun b h' hl hb=>hk _ _ (Hp.le_trans hl2 hl) (zjx hb)
 unfold F.zad
 refine za0 (fun r h'=>(0≤r↔¬∀p∈ps,VC p n m)) (fun K3 hk3=>?_) fun r h' hl hr=>hk2 _ _ hl (by rw [decide_eq_true_iff]; exact hr)
 unfold F.zaf
 refine zj3 (n:=ps.length) (g:=fun i=>∃h:i<ps.length,¬VC ps[i] n m) (by omega) (fun i h' k hl' hi' hb=>?_) (fun h' k hk=>za1 (fun hh=>by simp only at hh; omega) (fun _=>hk)) (fun r h' hl hr=>hk3 _ _ hl (by rw [hr]; exact zl6 (P:=fun c=>VC c n m)))
 refine za1 (fun _=>?_) (fun hh=>by simp only at hh; omega)
 refine (hx.le zau (Hp.le_trans hl2 hl')).get zau i rfl hi' fun b x hxx hc=>?_
 refine ⟨_,hc 0 _ rfl,_,hc 1 _ rfl,_,hc 2 _ rfl,_,hc 3 _ rfl,_,hc 4 _ rfl,?_⟩
 refine za0 (fun b h'=>(b=true↔¬VC ps[i] n m)) (fun K4 hk4=>?_) fun b h'' hl'' hbb=>hb b h'' hl'' (by rw [hbb]; exact ⟨fun hh=>⟨hi',hh⟩,fun ⟨_,hh⟩=>hh⟩)
 unfold F.zc3
 refine ⟨_,Hp.cell_le hl' hc1,some a0,some a1,rfl,?_⟩
 refine za0 (fun b h'=>(b=true↔VC ps[i] n m)) (fun K5 hk5=>?_) fun b h'' hl'' hbb=>hk4 _ _ hl'' (by rw [Bool.not_eq_true',←Bool.not_eq_true,hbb])
 unfold F.zih
 have hle:=Hp.le_trans hl2 hl'
 refine ⟨_,Hp.cell_le hle h0,_,Hp.cell_le hle h1,?_⟩
 exact zti hxx (hps _ (List.getElem_mem hi')) (ht.le hle) fun b h'' hl hb=>hk5 _ _ hl hb
theorem zsp (hx:SK h s S) (hs:sSk S) (ht:GT h) (H:∀r h',h.le h'→(r=0↔VS S)→(r=0∨r=1)→Ki r h'):callP (F.ze7 s) Ki h:=by
 refine za0 (fun r h'=>(r=0↔VS S)∧(r=0∨r=1)) (fun K' hk0=>?_) fun b h' hl hb=>H b h' hl hb.1 hb.2
 have hk:∀v h',h.le h'→(v=0↔VS S)→(v=0∨v=1)→K' v h':=fun v h' hl h1 h2=>hk0 v h' hl ⟨h1,h2⟩
 unfold F.ze7
 refine zga fun p1 h1 hl1 hc=>?_
 have c0:SKC h1 p1 s:=hc
 have hx1:=hx.le hl1
 refine ⟨_,c0 0 _ rfl,_,c0 1 _ rfl,_,c0 2 _ rfl,_,c0 3 _ rfl,_,c0 4 _ rfl,_,c0 5 _ rfl,?_⟩
 refine zri (s:=s) hx1 hs fun h2 hl2=>zba rfl ?_
 have c2:=c0.le hl2
 refine ⟨_,c2 0 _ rfl,_,c2 1 _ rfl,?_⟩
 refine zd5 fun p6 h3 hl3 e6=>zd5 fun p7 h4 hl4 e7=>?_
 have hle4:=Hp.le_trans hl1 (Hp.le_trans hl2 (Hp.le_trans hl3 hl4))
 have hx4:=hx.le hle4
 have c4:=(c2.le hl3).le hl4
 have l1:=hx.1.len zgc
 have l2:=hx.2.1.len zfk
 obtain ⟨s1,s2,s3,s4,s5,s6,s7,s8⟩:=hs
 have e64:h4.cell p6=some (.int .i64 (S.pts.length:Int)):=by have:=Hp.cell_le hl4 e6; rw [l1] at this; exact this
 have e74:h4.cell p7=some (.int .i64 (S.cir.length:Int)):=by rw [l2] at e7; exact e7
 refine za5 (fun st h'=>h.le h'∧(st.1=true↔VS S)) ?_ ?_
 · rintro ⟨b,_⟩ h5 ⟨hl5,hb⟩
   simp only at hb
   refine za7 (fun h6=>hk _ _ hl5 ⟨fun hh=>(by cases hh),fun hh=>?_⟩ (.inr rfl)) (fun h6=>hk _ _ hl5 ⟨fun _=>hb.1 (by simpa using h6),fun _=>rfl⟩ (.inl rfl))
   simp only at h6
   rw [hb.2 hh] at h6; cases h6
 · have fl:∀(b:Bool) {P:Prop},(b=true↔P)→b=false→¬P:=fun b P hb h0 hp=>by rw [hb.2 hp] at h0; cases h0
   refine ⟨_,c4 0 _ rfl,?_⟩
   refine zta hx4.1 (by omega) fun b1 h5 hl5 hb1=>za7 (fun t1=>?_) (fun t1=>⟨Hp.le_trans hle4 hl5,fun hh=>(by cases hh),fun hv=>absurd hv.1 (fl _ hb1 t1)⟩)
   refine ⟨_,c4.le hl5 1 _ rfl,?_⟩
   refine ztb (S:=S) (hx4.le hl5).2.1 (by omega) (Hp.cell_le hl5 e64) fun b2 h6 hl6 hb2=>za7 (fun t2=>?_) (fun t2=>⟨Hp.le_trans hle4 (Hp.le_trans hl5 hl6),fun hh=>(by cases hh),fun hv=>absurd hv.2.1 (fl _ hb2 t2)⟩)
   have l56:=Hp.le_trans hl5 hl6
   refine ⟨_,c4.le l56 2 _ rfl,?_⟩
   refine ztc (S:=S) (hx4.le l56).2.2.1 (by omega) (Hp.cell_le l56 e64) fun b3 h7 hl7 hb3=>za7 (fun t3=>?_) (fun t3=>⟨Hp.le_trans hle4 (Hp.le_trans l56 hl7),fun hh=>(by cases hh),fun hv=>absurd hv.2.2.1 (fl _ hb3 t3)⟩)
   have l57:=Hp.le_trans l56 hl7
   refine ⟨_,c4.le l57 3 _ rfl,?_⟩
   refine zt7 (s:=s) (S:=S) (hx4.le l57).2.2.2.1 (by omega) (c4.le l57) (hx4.le l57) fun b4 h8 hl8 hb4=>za7 (fun t4=>?_) (fun t4=>⟨Hp.le_trans hle4 (Hp.le_trans l57 hl8),fun hh=>(by cases hh),fun hv=>absurd hv.2.2.2.1 (fl _ hb4 t4)⟩)
   have l58:=Hp.le_trans l57 hl8
   refine ⟨_,c4.le l58 4 _ rfl,?_⟩
   refine zt8 (s:=s) (S:=S) (hx4.le l58).2.2.2.2.1 (by omega) s7 (c4.le l58) (hx4.le l58) ⟨s1,s2,s3,s4,s5,s6,s7,s8⟩ fun b5 h9 hl9 hb5=>za7 (fun t5=>?_) (fun t5=>⟨Hp.le_trans hle4 (Hp.le_trans l58 hl9),fun hh=>(by cases hh),fun hv=>absurd hv.2.2.2.2.1 (fl _ hb5 t5)⟩)
   have l59:=Hp.le_trans l58 hl9
   refine ⟨_,c4.le l59 5 _ rfl,?_⟩
   refine zt9 (hx4.le l59).2.2.2.2.2 (by omega) s8 (Hp.cell_le l59 e64) (Hp.cell_le l59 e74) (ht.le (Hp.le_trans hle4 l59)) fun b6 h10 hl10 hb6=>⟨Hp.le_trans hle4 (Hp.le_trans l59 hl10),?_⟩
   rw [hb6]
   exact ⟨fun hh=>⟨hb1.1 t1,hb2.1 t2,hb3.1 t3,hb4.1 t4,hb5.1 t5,hh⟩,fun hh=>hh.2.2.2.2.2⟩
theorem zkv (hx:SK h s S) (hs:sSk S) (ht:GT h) (H:∀r h',h.le h'→(r=0↔VS S)→Ki r h'):callP (F.ze7 s) Ki h:=zsp hx hs ht fun r h' h1 h2 _=>H r h' h1 h2
end
end Den
end

section
namespace Den
open Go Iv Lx
section
variable {h : Hp} {s : TSketch} {S : PSk} {Kb : Bool → Hp → Prop} {Ki : Int → Hp → Prop} {l : Sl}
theorem upto {α:Type} {l:List α} {P:α→Prop} {i:Nat} (h:∀j (hj:j<l.length),j<i→P l[j]) (hi:i<l.length) (hp:P l[i]):∀j (hj:j<l.length),j<i+1→P l[j]:=fun j hj hji=>by
 rcases Nat.lt_or_ge j i with h5 | h5
 · exact h j hj h5
 · have:j=i:=by omega
   subst this; exact hp
theorem upall {α:Type} {l:List α} {P:α→Prop} {i:Nat} (h:∀j (hj:j<l.length),j<i→P l[j]) (hi:l.length≤i):∀x∈l,P x:=fun x hx=>by
 obtain ⟨j,hj,rfl⟩:=List.mem_iff_getElem.1 hx
 exact h j hj (by omega)
end
end Den
end

section
namespace Den
open Go Iv Lx
section
variable {D h h' : Hp} {n : Nat} {l : Sl} {cs : List Value}
theorem Own.newb {K:Addr→Hp→Prop} {cells:List Value} (ho:Own D h n l cs) (H:∀a D' h',D.le D'→h.le h'→Own D' h' n l cs→(∀i v,cells[i]?=Option.some v→D'.cell (a.add i)=Option.some v)→K a h'):newP cells K h:=by
 intro b e hb
 obtain ⟨g1,g2,g3,g4⟩:=ho
 have hDb:D b=none:=by
  cases hd:D b with
  | none=>rfl
  | some x=>rw [g1 _ _ hd] at hb; cases hb
 refine H _ (D.ins b ⟨cells,e,(0,0)⟩) _ (Hp.le_ins hDb) (Hp.le_ins hb) ⟨?_,g2,g3,?_⟩ fun i v hv=>?_
 · intro k x hk
   by_cases hkb:k=b
   · subst hkb; rw [Hp.ins_same] at hk ⊢; exact hk
   · rw [Hp.ins_ne hkb] at hk ⊢; exact g1 _ _ hk
 · cases ha:l.a with
   | none=>rw [ha] at g4; exact g4
   | some a=>
     rw [ha] at g4
     obtain ⟨k1,k2,k3,x,k4,k5⟩:=g4
     have hne:a.block≠b:=fun hh=>by rw [hh,hb] at k4; cases k4
     exact ⟨k1,k2,by rw [Hp.ins_ne hne]; exact k3,x,by rw [Hp.ins_ne hne]; exact k4,k5⟩
 · unfold Hp.cell
   rw [zb9,zdr rfl,zcm]
   simpa [Hp.ins_same] using hv
theorem Own.preN {x:Sl} {k:Nat} (ho:Own D h n x cs) (hk:k≤x.len):Own D h n (x.cut 0 k n) (cs.take (k*n)):=by
 have hc:=ho.2.2.1
 obtain ⟨g1,g2,g3,g4⟩:=ho
 have hkl:k*n≤cs.length:=by rw [←g2]; exact Nat.mul_le_mul_right _ hk
 have el:(cs.take (k*n)).length=k*n:=by rw [List.length_take]; omega
 refine ⟨g1,?_,?_,?_⟩
 · show (k-0)*n=_
   rw [el,Nat.sub_zero]
 · show k-0≤x.cap-0; omega
 · rw [cut_a]
   cases ha:x.a with
   | none=>
     rw [ha] at g4
     simp only at g4 ⊢
     show x.cap-0=0; omega
   | some a=>
     rw [ha] at g4
     obtain ⟨k1,k2,k3,b,k4,k5,k6,k7⟩:=g4
     refine ⟨k1,k2,k3,b,k4,k5,k6,?_⟩
     rw [el]
     have:=congrArg (List.take (k*n)) k7
     rw [List.take_take,Nat.min_eq_left (by omega)] at this
     exact this
end
section
variable {α β : Type} {c : α → List Value} {n : Nat} {P : Hp → α → β → Prop} {D h h' : Hp} {l : Sl} {ps : List β}
theorem LO.newb {K:Addr→Hp→Prop} {cells:List Value} (hR:Rec c n P) (hx:LO c n P D h l ps) (H:∀a D' h',D.le D'→h.le h'→LO c n P D' h' l ps→(∀i v,cells[i]?=Option.some v→D'.cell (a.add i)=Option.some v)→K a h'):newP cells K h:=by
 obtain ⟨xs,h1,h3,h4⟩:=hx
 exact h1.newb fun a D' h' g1 g2 g3 g4=>H a D' h' g1 g2 ⟨xs,g3,h3,fun k k1 k2=>hR.mono (h4 k k1 k2) g1⟩ g4
theorem LO.le (hx:LO c n P D h l ps) (hl:h.le h'):LO c n P D h' l ps:=by
 obtain ⟨xs,h1,h3,h4⟩:=hx
 exact ⟨xs,h1.le hl,h3,h4⟩
theorem LO.appAll {K:Sl→Hp→Prop} {m:Sl} {qs:List β} {bytes:Nat} {zero:List Value} (hR:Rec c n P) (hx:LO c n P D h l ps) (hm:LR c n P D m qs) (hz:zero.length=n) (hlen:(ps.length+qs.length)*bytes≤140737488355328) (hlen2:ps.length+qs.length≤140737488355328)
 (H:∀y h',LO c n P D h' y (ps++qs)→K y h'):rdO m.a (m.len*n) (fun vs=>appP n bytes zero l m.len vs K h) h:=by
 have hl:=hx.len hR
 have hml:=hm.len hR
 obtain ⟨ys,g1,g2,g3,g4⟩:=hm
 obtain ⟨xs,h1,h3,h4⟩:=hx
 refine ⟨ys.flatMap c,?_,?_⟩
 · have:=(g1.le h1.1).2
   rwa [←g1.1] at this
 · refine zh9 h1 (n:=m.len) (new:=ys.flatMap c) g1.1.symm hz ?_ (by rw [hl,hml]; exact hlen) (by rw [hl,hml]; exact hlen2) fun y h' hy hyl=>H y h' ⟨xs++ys,by rw [List.flatMap_append]; exact hy,by simp [h3,g3],fun k k1 k2=>?_⟩
   · rw [List.all_flatMap,List.all_eq_true]
     exact fun x _=>hR.leaf x
   · rcases Nat.lt_or_ge k xs.length with h5 | h5
     · rw [List.getElem_append_left h5,List.getElem_append_left (by omega)]
       exact h4 k h5 (by omega)
     · rw [List.getElem_append_right h5,List.getElem_append_right (by omega)]
       have e:k-xs.length=k-ps.length:=by omega
       have k1':k-xs.length<ys.length:=by simp at k1; omega
       have:=g4 (k-xs.length) k1' (by omega)
       simp only [e] at this ⊢
       exact this
theorem za5c {K:Addr→Hp→Prop} (H:∀a h',LO c n P h h' ⟨some a,0,0⟩ []→K a h'):newP [] K h:=by
 refine zi6 (n:=0) (size:=n) (by simp) fun b h' hb ho=>H _ _ ⟨[],?_,rfl,fun k h1 _=>by simp at h1⟩
 exact ho
end
section
variable {D h h' : Hp} {l m : Sl} {xs ys : List Int} {K : Sl → Hp → Prop}
theorem OI.le (ho:OI D h l xs) (hl:h.le h'):OI D h' l xs:=Own.le ho hl
theorem OI.base {h0:Hp} (ho:OI D h l xs) (hl:h0.le D):OI h0 h l xs:=Own.base ho hl
end
theorem za5e {z vs:List Value} {K:Addr→Hp→Prop} {h:Hp} (hlen:vs.length=z.length) (hleaf:vs.all Value.leaf=true) (H:newP vs K h):newP z (fun a h'=>stP a vs (K a) h') h:=by
 intro b e hb
 refine ⟨_,Hp.ins_same _ _ _,rfl,rfl,by simp [hlen],hleaf,?_⟩
 have e2:splice z 0 vs=vs:=by unfold splice; simp [hlen]
 simp only [e2]
 rw [Hp.ins_ins]
 exact H b e hb
def onC (c:PCon) (p k:Int):Prop:=c.kind=13∧c.pts=[p]∧c.cir=[k]
instance (c:PCon) (p k:Int):Decidable (onC c p k):=by unfold onC; infer_instance
def mkOn (p k:Int):PCon:=⟨13,[p],[k],[],0⟩
def addOn (con out:List PCon) (p k:Int):List PCon:=if (∃c∈con++out,onC c p k) then out else out++[mkOn p k]
def addArc (con out:List PCon) (a:TArc):List PCon:=addOn con (addOn con out a.a a.circle) a.b a.circle
def impL (con:List PCon) (l:List TArc):List PCon:=l.foldl (addArc con) []
def imp (S:PSk):List PCon:=impL S.con S.arc
def allC (S:PSk):List PCon:=S.con++imp S
def cens (S:PSk):List Int:=S.cir.map (·.1)
theorem zmt {con:List PCon} {l:List TArc} {i:Nat} (hi:i<l.length):impL con (l.take (i+1))=addArc con (impL con (l.take i)) l[i]:=by
 unfold impL
 rw [←List.take_append_getElem hi,List.foldl_append]
 rfl
theorem zmn (con out:List PCon) (p k:Int):(addOn con out p k).length≤out.length+1:=by
 unfold addOn; split<;>simp
theorem zo8 (con:List PCon) (l:List TArc):∀i,i≤l.length→(impL con (l.take i)).length≤2*i
 | 0,_=>by simp [impL]
 | i+1,hi=>by
   rw [zmt (by omega)]
   have:=zo8 con l i (by omega)
   unfold addArc
   have h1:=zmn con (addOn con (impL con (l.take i)) l[i].a l[i].circle) l[i].b l[i].circle
   have h2:=zmn con (impL con (l.take i)) l[i].a l[i].circle
   omega
theorem zps (S:PSk):(imp S).length≤2*S.arc.length:=by
 have:=zo8 S.con S.arc S.arc.length (Nat.le_refl _)
 rwa [List.take_length] at this
def VC1 (c:PCon):Prop:=c.pts.length≤10∧c.cir.length≤10∧(c.kind=13→c.pts.length=1∧c.cir.length=1∧c.vals=[]∧c.side=0)
theorem VC.one {c:PCon} {n m:Int} (hv:VC c n m) (hs:sC c):VC1 c:=⟨hs.1,hs.2.1,fun hk=>by
 obtain ⟨_,h2,h3,h4,_,h6,_⟩:=hv
 rw [hk] at h2 h3 h4 h6
 exact ⟨h2.1,h3.1,List.eq_nil_of_length_eq_zero h4,by simpa [shK,tabK] using h6⟩⟩
theorem vc_on {n m:Nat} {p k:Int} (hp:hasP n p) (hk:hasP m k):VC (mkOn p k) n m:=by
 unfold hasP at hp hk
 refine ⟨⟨by simp [mkOn],by simp [mkOn]⟩,⟨rfl,?_⟩,⟨rfl,?_⟩,rfl,by simp [mkOn],by simp [mkOn,shK,tabK],?_⟩
 · intro x hx
   have:x=p:=by simpa [mkOn] using hx
   omega
 · intro x hx
   have:x=k:=by simpa [mkOn] using hx
   omega
 · rw [if_neg (show ¬fourK (mkOn p k).kind by unfold fourK mkOn; simp only; omega)]
   exact ⟨by simp [mkOn],by simp [mkOn]⟩
theorem sc_on {p k:Int}:sC (mkOn p k):=⟨by simp [mkOn],by simp [mkOn],by simp [mkOn],by simp [mkOn]⟩
theorem zmm {P:PCon→Prop} {con out:List PCon} {p k:Int} (ho:∀c∈out,P c) (hp:P (mkOn p k)):∀c∈addOn con out p k,P c:=by
 unfold addOn
 split
 · exact ho
 · intro c hc
   rcases List.mem_append.1 hc with hc | hc
   · exact ho c hc
   · rw [List.mem_singleton.1 hc]; exact hp
theorem zo7 {P:PCon→Prop} {con:List PCon} {l:List TArc} (hp:∀a∈l,P (mkOn a.a a.circle)∧P (mkOn a.b a.circle)):∀i,i≤l.length→∀c∈impL con (l.take i),P c
 | 0,_=>by simp [impL]
 | i+1,hi=>by
   rw [zmt (by omega)]
   have h1:=zo7 (con:=con) hp i (by omega)
   have h2:=hp _ (List.getElem_mem (show i<l.length by omega))
   exact zmm (zmm h1 h2.1) h2.2
theorem za3h {P:PCon→Prop} {S:PSk} (hp:∀a∈S.arc,P (mkOn a.a a.circle)∧P (mkOn a.b a.circle)):∀c∈imp S,P c:=by
 have:=zo7 (con:=S.con) hp S.arc.length (Nat.le_refl _)
 rwa [List.take_length] at this
theorem zjr {S:PSk} (hv:VS S) (hs:sSk S):∀c∈allC S,VC c S.pts.length S.cir.length∧sC c:=by
 intro c hc
 rcases List.mem_append.1 hc with hc | hc
 · exact ⟨hv.2.2.2.2.2 c hc,hs.2.2.2.2.2.2.2 c hc⟩
 · refine za3h (P:=fun c=>VC c S.pts.length S.cir.length∧sC c) (fun a ha=>?_) c hc
   have:=hv.2.2.2.1 a ha
   exact ⟨⟨vc_on this.2.1 this.1,sc_on⟩,⟨vc_on this.2.2.1 this.1,sc_on⟩⟩
theorem zli {S:PSk} (hs:sSk S):(allC S).length≤40:=by
 have h1:=zps S
 have h2:=hs.2.2.2.1
 have h3:=hs.2.2.2.2.2.1
 unfold allC
 rw [List.length_append]; omega
section
variable {h : Hp} {s : TSketch} {S : PSk} {Kb : Bool → Hp → Prop} {Ki : Int → Hp → Prop} {Ks : Sl → Hp → Prop} {l m : Sl} {xs ys : List Int}
theorem za1e {s:Sl} {ps:List PCon} {g:PCon→Prop} {G:TConstraint→(Bool→Hp→Prop)→Hp→Prop} (hx:LR cc 5 CO h s ps) (hlen:ps.length≤1000000)
 (hG:∀x c h',h.le h'→CO h' x c→c∈ps→∀K:Bool→Hp→Prop,(∀b h'',h'.le h''→(b=true↔g c)→K b h'')→callP (G x) K h') (H:∀r h',h.le h'→(0≤r↔∃c∈ps,g c)→Ki r h') :
 (loopP (S:=Int×Unit) (fun s1 k2 h1=>
 (ifP (decide (s1.1<(s.len:Int)))
 (idxP s s1.1 5 fun a3=>
 (ldL (.int .i64) (a3.add 0) (fun x4_0=>
 (ldL (.sl) (a3.add 1) (fun x4_1=>
 (ldL (.sl) (a3.add 2) (fun x4_2=>
 (ldL (.sl) (a3.add 3) (fun x4_3=>
 (ldL (.int .i64) (a3.add 4) (fun x4_4=>
 (callP (G (⟨x4_0,x4_1,x4_2,x4_3,x4_4⟩:TConstraint)) (fun r5 h2=>
 (ifP r5
 (Ki s1.1 h2)
 (k2 ((IntKind.i64.wrap (s1.1+1)),()) h2))) h1)) h1)) h1)) h1)) h1)) h1))
 (Ki (-1) h1)))
 (0,()) h):=by
  have hl:=hx.len zau
  refine zj3 (n:=ps.length) (g:=fun i=>∃h:i<ps.length,g ps[i]) (by omega) (fun i h' k hl' hi' hb=>?_) (fun h' k hk=>za1 (fun hh=>by simp only at hh; omega) (fun _=>hk)) (fun r h' hl hr=>H _ _ hl (by
   rw [hr]
   constructor
   · rintro ⟨i,hi,hi2,hg⟩; exact ⟨_,List.getElem_mem hi2,hg⟩
   · rintro ⟨c,hc,hg⟩
     obtain ⟨i,hi,rfl⟩:=List.mem_iff_getElem.1 hc
     exact ⟨i,hi,hi,hg⟩))
  refine za1 (fun _=>?_) (fun hh=>by simp only at hh; omega)
  refine (hx.le zau hl').get zau i rfl hi' fun a x hxx hc=>?_
  refine ⟨_,hc 0 _ rfl,_,hc 1 _ rfl,_,hc 2 _ rfl,_,hc 3 _ rfl,_,hc 4 _ rfl,?_⟩
  exact hG _ _ _ hl' hxx (List.getElem_mem _) _ fun b h3 hl3 hbb=>hb b h3 hl3 (by rw [hbb]; exact ⟨fun hh=>⟨hi',hh⟩,fun ⟨_,hh⟩=>hh⟩)
theorem znp (hx:IL h l xs) (hy:IL h m ys) (hlen:xs.length≤1000000) (H:∀b h',h.le h'→(b=true↔xs=ys)→Kb b h'):callP (F.zd2 l m) Kb h:=by
 refine za0 (fun b h'=>b=true↔xs=ys) (fun K' hk=>?_) fun b h' hl hb=>H b h' hl hb
 unfold F.zd2
 have hl:=hx.len
 have hm:=hy.len
 refine zc9 (fun h1=>hk _ _ (Hp.le_refl _) ⟨fun hh=>(by cases hh),fun hh=>?_⟩) (fun h1=>?_)
 · exfalso
   subst hh
   omega
 have hl2:xs.length=ys.length:=by omega
 refine zdy (n:=xs.length) (by omega) (fun i h'=>h'=h∧xs.take i=ys.take i) ⟨rfl,by simp⟩ ?_
 rintro i h hi ⟨rfl,heq⟩ k hk2
 refine za1 (fun h2=>?_) (fun h2=>?_)
 · have hi':i<xs.length:=by simp only at h2; omega
   refine hx.get i rfl hi' (hy.get i rfl (by omega) ?_)
   refine zc9 (fun h3=>hk _ _ (Hp.le_refl _) ⟨fun hh=>(by cases hh),fun hh=>?_⟩) (fun h3=>hk2 _ hi' ⟨rfl,?_⟩)
   · subst hh
     exact absurd rfl h3
   · rw [←List.take_append_getElem hi',←List.take_append_getElem (show i<ys.length by omega),heq,h3]
 · have:i=xs.length:=by simp only at h2; omega
   subst this
   refine hk _ _ (Hp.le_refl _) ⟨fun _=>?_,fun _=>rfl⟩
   rw [List.take_length,hl2,List.take_length] at heq
   exact heq
theorem ztg {x y:TConstraint} {c:PCon} {p k:Int} (hx:CO h x (mkOn p k)) (hy:CO h y c) (hv:VC1 c) (H:∀b h',h.le h'→(b=true↔onC c p k)→Kb b h'):callP (F.zf0 x y) Kb h:=by
 refine za0 (fun b h'=>b=true↔onC c p k) (fun K' hk=>?_) fun b h' hl hb=>H b h' hl hb
 unfold F.zf0
 obtain ⟨x1,x2,x3,x4,x5⟩:=hx
 obtain ⟨y1,y2,y3,y4,y5⟩:=hy
 obtain ⟨v1,v2,v3⟩:=hv
 have no:∀h',h.le h'→¬onC c p k→K' false h':=fun h' hl hn=>hk _ _ hl ⟨fun hh=>(by cases hh),fun hh=>absurd hh hn⟩
 rw [x1,x5,y1,y5]
 refine zae (fun h1=>?_) (fun h1=>no _ (Hp.le_refl _) fun hv=>h1 hv.1.symm)
 have hk13:c.kind=13:=h1.symm
 obtain ⟨w1,w2,w3,w4⟩:=v3 hk13
 refine zae (fun h2=>?_) (fun h2=>absurd (show (mkOn p k).side=c.side by rw [w4]; rfl) h2)
 refine znp x2 y2 (by simp [mkOn]) fun b h3 hl3 hb=>?_
 refine za7 (fun h4=>?_) (fun h4=>no _ hl3 fun hv=>by rw [hb.2 hv.2.1.symm] at h4; cases h4)
 refine znp (x3.le hl3) (y3.le hl3) (by simp [mkOn]) fun b5 h5 hl5 hb5=>?_
 have hle:=Hp.le_trans hl3 hl5
 refine za7 (fun h6=>?_) (fun h6=>no _ hle fun hv=>by rw [hb5.2 hv.2.2.symm] at h6; cases h6)
 refine za0 (fun b h'=>b=true) (fun K2 hk2=>?_) fun b h7 hl7 hb7=>hk _ _ (Hp.le_trans hle hl7) ⟨fun _=>⟨hk13,(hb.1 h4).symm,(hb5.1 h6).symm⟩,fun _=>hb7⟩
 unfold F.zaw
 refine ⟨1,?_⟩
 unfold F.za8
 have e1:=x4.len zfd
 have e2:=y4.len zfd
 rw [w3] at e2
 have e3:x.values.len=0:=e1
 have e4:y.values.len=0:=e2
 refine zc9 (fun h8=>by rw [e3,e4] at h8; exact absurd rfl h8) (fun _=>?_)
 refine zbb (fun st h'=>h'=h5∧st=(0,())) (fun _=>0) ⟨rfl,rfl⟩ ?_
 rintro st h5 ⟨rfl,rfl⟩
 refine za1 (fun h8=>by rw [e3] at h8; exact absurd h8 (by decide)) (fun _=>hk2 _ _ (Hp.le_refl _) rfl)
def CKC (h:Hp) (a:Addr) (x:TConstraint):Prop:=∀i v,(cc x)[i]?=some v→h.cell (a.add i)=some v
theorem zma {s:Sl} {ps:List PCon} {a:Addr} {x:TConstraint} {p k:Int} (hx:LR cc 5 CO h s ps) (hlen:ps.length≤1000000) (hv:∀c∈ps,VC1 c) (ha:CKC h a x) (hc:CO h x (mkOn p k)) (H:∀b h',h.le h'→(b=true↔∃c∈ps,onC c p k)→Kb b h') :
 callP (F.za9 s (some a,())) Kb h:=by
 refine za0 (fun b h'=>(b=true↔∃c∈ps,onC c p k)) (fun K2 hk2=>?_) fun b h' hl hb=>H _ _ hl hb
 unfold F.za9
 refine za0 (fun r h'=>(0≤r↔∃c∈ps,onC c p k)) (fun K3 hk3=>?_) fun r h' hl hr=>hk2 _ _ hl (by rw [decide_eq_true_iff]; exact hr)
 unfold F.zb2
 refine za1e (g:=fun c=>onC c p k) (G:=fun x=>F.zf9 x (some a,()).1) hx hlen (fun y c h' hl' hy hm K hK=>?_) fun r h' hl hr=>hk3 _ _ hl hr
 refine za0 (fun b h'=>(b=true↔onC c p k)) (fun K4 hk4=>?_) fun b h'' hl'' hbb=>hK b h'' hl'' hbb
 unfold F.zf9
 have c0:CKC h' a x:=fun i v hv=>Hp.cell_le hl' (ha i v hv)
 refine ⟨_,c0 0 _ rfl,_,c0 1 _ rfl,_,c0 2 _ rfl,_,c0 3 _ rfl,_,c0 4 _ rfl,?_⟩
 exact ztg (x:=x) (hc.le hl') hy (hv c hm) fun b h'' hl hb=>hk4 _ _ hl hb
theorem zzl {a:Addr} {z:Int} {c:Nat} (hc:h.cell a=some (.int .i64 z)) (hcap:1≤c):IL h ⟨some a,1,c⟩ [z]:=by
 refine ⟨zdw (cells:=[ic z]) (fun i v hv=>?_) rfl,hcap⟩
 cases i with
 | zero=>
   rw [zbq,hc]
   simpa [ic] using hv
 | succ i=>simp at hv
theorem VS.one {c:PCon} (hv:VS S) (hs:sSk S) (hc:c∈S.con):VC1 c:=(hv.2.2.2.2.2 c hc).one (hs.2.2.2.2.2.2.2 c hc)
theorem zsb {p k:Int}:VC1 (mkOn p k):=⟨by simp [mkOn],by simp [mkOn],fun _=>⟨rfl,rfl,rfl,rfl⟩⟩
theorem za3i:∀i,i≤S.arc.length→∀c∈impL S.con (S.arc.take i),VC1 c:=zo7 fun a _=>⟨zsb,zsb⟩
end
end Den
end

section
namespace Den
open Go Iv Lx
def itK (c:PCon) (cs:List Int) (k:Int):List Int:=if c.kind=13∨c.kind=16∨c.kind=17 then [-1-k,cs.getD k.toNat 0] else [-1-k]
def itemsC (c:PCon) (cs:List Int):List Int:=c.pts++c.cir.flatMap (itK c cs)
theorem zup (c:PCon) (cs:List Int) (k:Int):(itK c cs k).length≤2:=by unfold itK; split<;>simp
theorem zoz {c:PCon} {cs:List Int} (hs:sC c):(itemsC c cs).length≤30:=by
 unfold itemsC
 have:∀l:List Int,(l.flatMap (itK c cs)).length≤2*l.length:=by
  intro l
  induction l with
  | nil=>simp
  | cons a r ih=>
    have:=zup c cs a
    simp only [List.flatMap_cons,List.length_append,List.length_cons]
    omega
 have h1:=this c.cir
 have h2:=hs.1
 have h3:=hs.2.1
 rw [List.length_append]; omega
section
variable {h : Hp} {s : TSketch} {S : PSk} {Kb : Bool → Hp → Prop} {Ki : Int → Hp → Prop} {Ks : Sl → Hp → Prop} {l m : Sl} {xs ys : List Int}
theorem co_on {a b:Addr} {p k:Int} {va vs:Sl} (ha:h.cell a=some (.int .i64 p)) (hb:h.cell b=some (.int .i64 k)):CO h ⟨13,⟨some a,1,1⟩,⟨some b,1,1⟩,nilS,0⟩ (mkOn p k):=
 ⟨rfl,zzl ha (by decide),zzl hb (by decide),LR.nil,rfl⟩
theorem za32 {i:Int} {K:Addr→Prop} (hx:SK h s S) (k:Nat) (hi:i=k) (hk:k<S.arc.length) (H:∀a,(∀j v,(arcc S.arc[k])[j]?=some v→h.cell (a.add j)=some v)→K a):idxP s.arcs i 4 K:=
 hx.2.2.2.1.get zfm k hi hk fun a x hxx hc=>H a (by have hxx:x=S.arc[k]:=hxx; rw [←hxx]; exact hc)
theorem zry {A:TArc} {out:List PCon} {p:Int} {y:Sl} {D:Hp} {K:Sl×Unit→Hp→Prop} (hv:VS S) (hs:sSk S) (hlen:out.length≤100) (hone:∀c∈out,VC1 c) (hS:SK D s S) (ho:LO cc 5 CO D h y out)
 (hK:∀y' D' h',D.le D'→LO cc 5 CO D' h' y' (addOn S.con out p A.circle)→K (y',()) h') :
 newP [.int .i64 p] (fun p12 h5=>
 (newP [.int .i64 A.circle] (fun p13 h6=>
 (newP [.int .i64 0,.slice nilS.a nilS.len nilS.cap,.slice nilS.a nilS.len nilS.cap,.slice nilS.a nilS.len nilS.cap,.int .i64 0] (fun p14 h7=>
 (stP p14 [.int .i64 13,.slice (⟨some p12,1,1⟩:Sl).a (⟨some p12,1,1⟩:Sl).len (⟨some p12,1,1⟩:Sl).cap,.slice (⟨some p13,1,1⟩:Sl).a (⟨some p13,1,1⟩:Sl).len (⟨some p13,1,1⟩:Sl).cap,.slice nilS.a nilS.len nilS.cap,.int .i64 0] (fun h8=>
 (callP (F.za9 s.constraints ((some p14),())) (fun r15 h9=>
 (ifP (!r15)
 (callP (F.za9 y ((some p14),())) (fun r16 h10=>
 (ifP (!r16)
 (ldL (.int .i64) (p14.add 0) (fun x17_0=>
 (ldL (.sl) (p14.add 1) (fun x17_1=>
 (ldL (.sl) (p14.add 2) (fun x17_2=>
 (ldL (.sl) (p14.add 3) (fun x17_3=>
 (ldL (.int .i64) (p14.add 4) (fun x17_4=>
 (appP 5 88 [.int .i64 0,.slice nilS.a nilS.len nilS.cap,.slice nilS.a nilS.len nilS.cap,.slice nilS.a nilS.len nilS.cap,.int .i64 0] y 1 [.int .i64 x17_0,.slice x17_1.a x17_1.len x17_1.cap,.slice x17_2.a x17_2.len x17_2.cap,.slice x17_3.a x17_3.len x17_3.cap,.int .i64 x17_4] (fun w18 h11=>
 (K (w18,()) h11)) h10)) h10)) h10)) h10)) h10)) h10)
 (K (y,()) h10))) h9)
 (K (y,()) h9))) h8)) h7)) h6)) h5)) h:=by
  refine ho.newb zau fun p12 D3 h4 d3 l4 ho4 c12=>ho4.newb zau fun p13 D4 h5 d4 l5 ho5 c13=>?_
  refine za5e (vs:=[.int .i64 13,.slice (⟨some p12,1,1⟩:Sl).a (⟨some p12,1,1⟩:Sl).len (⟨some p12,1,1⟩:Sl).cap,.slice (⟨some p13,1,1⟩:Sl).a (⟨some p13,1,1⟩:Sl).len (⟨some p13,1,1⟩:Sl).cap,.slice nilS.a nilS.len nilS.cap,.int .i64 0]) rfl rfl ?_
  refine ho5.newb zau fun p14 D5 h6 d5 l6 ho6 c14=>?_
  have e12:D5.cell p12=some (.int .i64 p):=by
   have:=c12 0 _ rfl
   rw [zbq] at this
   exact Hp.cell_le (Hp.le_trans d4 d5) this
  have e13:D5.cell p13=some (.int .i64 A.circle):=by
   have:=c13 0 _ rfl
   rw [zbq] at this
   exact Hp.cell_le d5 this
  have hDD:D.le D5:=Hp.le_trans d3 (Hp.le_trans d4 d5)
  have hco:CO D5 ⟨13,⟨some p12,1,1⟩,⟨some p13,1,1⟩,nilS,0⟩ (mkOn p A.circle):=co_on (va:=nilS) (vs:=nilS) e12 e13
  have hck:CKC D5 p14 ⟨13,⟨some p12,1,1⟩,⟨some p13,1,1⟩,nilS,0⟩:=c14
  refine ho6.call zau (K1:=fun b h'=>(b=true↔∃c∈S.con,onC c p A.circle)) ?_ fun b D6 h7 d6 ho7 hb=>?_
  · exact zma (hS.le hDD).2.2.2.2.2 (by have:=hs.2.2.2.2.2.1; omega) (fun c hc=>hv.one hs hc) hck hco fun b h' hl hb=>hb
  have hck6:CKC D6 p14 ⟨13,⟨some p12,1,1⟩,⟨some p13,1,1⟩,nilS,0⟩:=fun i v hv=>Hp.cell_le d6 (hck i v hv)
  refine za7 (fun h8=>?_) (fun h8=>?_)
  · have hb':¬∃c∈S.con,onC c p A.circle:=fun hh=>by rw [hb.2 hh] at h8; cases h8
    refine zma (ho7.lr zau) (by omega) hone (fun i v hv=>Hp.cell_le ho7.dle (hck6 i v hv)) ((hco.le d6).le ho7.dle) fun b9 h9 hl9 hb9=>?_
    have ho9:=ho7.le hl9
    refine za7 (fun h10=>?_) (fun h10=>?_)
    · have hb9':¬∃c∈out,onC c p A.circle:=fun hh=>by rw [hb9.2 hh] at h10; cases h10
      have c9:∀i v,(cc ⟨13,⟨some p12,1,1⟩,⟨some p13,1,1⟩,nilS,0⟩)[i]?=some v→h9.cell (p14.add i)=some v:=fun i v hv=>Hp.cell_le ho9.dle (hck6 i v hv)
      refine ⟨_,c9 0 _ rfl,_,c9 1 _ rfl,_,c9 2 _ rfl,_,c9 3 _ rfl,_,c9 4 _ rfl,?_⟩
      refine ho9.app zau (bytes:=88) (zero:=[.int .i64 0,.slice nilS.a nilS.len nilS.cap,.slice nilS.a nilS.len nilS.cap,.slice nilS.a nilS.len nilS.cap,.int .i64 0]) (x:=⟨13,⟨some p12,1,1⟩,⟨some p13,1,1⟩,nilS,0⟩) (b:=mkOn p A.circle) (by rfl) (by omega) (by omega) (hco.le d6) fun y' h11 ho11=>?_
      refine hK y' D6 h11 (Hp.le_trans hDD d6) ?_
      · have:addOn S.con out p A.circle=out++[mkOn p A.circle]:=by
         unfold addOn
         rw [if_neg]
         rintro ⟨c,hc,hon⟩
         rcases List.mem_append.1 hc with hc | hc
         · exact hb' ⟨c,hc,hon⟩
         · exact hb9' ⟨c,hc,hon⟩
        rw [this]; exact ho11
    · have hb9':∃c∈out,onC c p A.circle:=hb9.1 (by simpa using h10)
      refine hK y D6 h9 (Hp.le_trans hDD d6) ?_
      · have:addOn S.con out p A.circle=out:=by
         unfold addOn
         rw [if_pos]
         obtain ⟨c,hc,hon⟩:=hb9'
         exact ⟨c,List.mem_append_right _ hc,hon⟩
        rw [this]; exact ho9
  · have hb':∃c∈S.con,onC c p A.circle:=hb.1 (by simpa using h8)
    refine hK y D6 h7 (Hp.le_trans hDD d6) ?_
    · have:addOn S.con out p A.circle=out:=by
       unfold addOn
       rw [if_pos]
       obtain ⟨c,hc,hon⟩:=hb'
       exact ⟨c,List.mem_append_left _ hc,hon⟩
      rw [this]; exact ho7
theorem zmj (hx:SK h s S) (hv:VS S) (hs:sSk S) (H:∀y h',h.le h'→LR cc 5 CO h' y (imp S)→Ks y h'):callP (F.zev s) Ks h:=by
 refine za0 (fun y h'=>LR cc 5 CO h' y (imp S)) (fun K' hk=>?_) fun b h' hl hb=>H b h' hl hb
 unfold F.zev
 have l4:=hx.2.2.2.1.len zfm
 have s4:=hs.2.2.2.1
 refine zci (n:=S.arc.length) (by omega) (fun i y h'=>∃D,h.le D∧LO cc 5 CO D h' y (impL S.con (S.arc.take i))) ⟨h,Hp.le_refl _,LO.nil⟩ ?_
 rintro i y h1 hi ⟨D,hD,ho⟩ k hk2
 refine za1 (fun h2=>?_) (fun h2=>?_)
 · have hi':i<S.arc.length:=by simp only at h2; omega
   have hlen:=zo8 S.con S.arc i hi
   refine za32 (hx.le (Hp.le_trans hD ho.dle)) i rfl hi' fun a hc=>⟨_,hc 0 _ rfl,_,hc 1 _ rfl,_,hc 2 _ rfl,_,hc 3 _ rfl,?_⟩
   refine ho.newb zau fun p5 D2 h3 d2 l3 ho3 c5=>?_
   have hD2:=Hp.le_trans hD d2
   obtain ⟨A,hA⟩:∃A,A=S.arc[i]:=⟨_,rfl⟩
   rw [←hA] at c5 ⊢
   obtain ⟨out,hout⟩:∃out,out=impL S.con (S.arc.take i):=⟨_,rfl⟩
   rw [←hout] at ho3 hlen
   have hone:∀c∈out,VC1 c:=by rw [hout]; exact za3i i hi
   obtain ⟨st,hst⟩:∃st:Nat→List PCon,st=fun j=>if j=0 then out else if j=1 then addOn S.con out A.a A.circle else addArc S.con out A:=⟨_,rfl⟩
   have st0:st 0=out:=by rw [hst]; rfl
   have st1:st 1=addOn S.con out A.a A.circle:=by rw [hst]; rfl
   have st2:st 2=addArc S.con out A:=by rw [hst]; rfl
   have a1:=zmn S.con out A.a A.circle
   have hl5:IL D2 ⟨some p5,2,2⟩ [A.a,A.b]:=⟨zdw c5 rfl,Nat.le_refl _⟩
   refine zci (n:=2) (by omega) (fun j y h'=>∃D,D2.le D∧LO cc 5 CO D h' y (st j)) ⟨D2,Hp.le_refl _,by rw [st0]; exact ho3⟩ ?_
   rintro j z h4 hj ⟨D3,d3,ho4⟩ k2 hk3
   refine za1 (fun h5=>?_) (fun h5=>?_)
   · have hj':j<2:=by have:(j:Int)<((2:Nat):Int):=h5; omega
     refine za5 (fun s h'=>∃D,D2.le D∧LO cc 5 CO D h' s.1 (st (j+1))) (fun s h' hs=>hk3 _ _ hj' hs) ?_
     refine (hl5.le (Hp.le_trans d3 ho4.dle)).get j rfl hj' ?_
     have fin:∀(p:Int),st (j+1)=addOn S.con (st j) p A.circle→∀y' D' h',D3.le D'→LO cc 5 CO D' h' y' (addOn S.con (st j) p A.circle)→(fun (s:Sl×Unit) h'=>∃D,D2.le D∧LO cc 5 CO D h' s.1 (st (j+1))) (y',()) h':=
      fun p hp y' D' h' hd hl=>⟨D',Hp.le_trans d3 hd,by rw [hp]; exact hl⟩
     have hS3:SK D3 s S:=hx.le (Hp.le_trans hD2 d3)
     rcases (by omega:j=0∨j=1) with rfl | rfl
     · exact zry (A:=A) (K:=fun (s:Sl×Unit) h'=>∃D,D2.le D∧LO cc 5 CO D h' s.1 (st (0+1))) hv hs (by rw [st0]; omega) (by rw [st0]; exact hone) hS3 ho4 (fin A.a (by rw [st1,st0]))
     · exact zry (A:=A) (K:=fun (s:Sl×Unit) h'=>∃D,D2.le D∧LO cc 5 CO D h' s.1 (st (1+1))) hv hs (by rw [st1]; omega) (by rw [st1]; exact zmm hone zsb) hS3 ho4 (fin A.b (by rw [st2,st1]; rfl))
   · have:j=2:=by have:¬(j:Int)<((2:Nat):Int):=h5; omega
     subst this
     refine hk2 _ _ hi' ⟨D3,Hp.le_trans hD2 d3,?_⟩
     rw [zmt hi',←hout,←hA,←st2]
     exact ho4
 · have:i=S.arc.length:=by simp only at h2; omega
   subst this
   rw [List.take_length] at ho
   exact hk _ _ (Hp.le_trans hD ho.dle) (ho.lr zau)
end
end Den
end

section
namespace Den
open Go Iv Lx
def zC:List Value:=[.int .i64 0,.slice nilS.a nilS.len nilS.cap,.slice nilS.a nilS.len nilS.cap,.slice nilS.a nilS.len nilS.cap,.int .i64 0]
section
variable {h : Hp} {s : TSketch} {S : PSk} {Kb : Bool → Hp → Prop} {Ki : Int → Hp → Prop} {Ks : Sl → Hp → Prop} {l m : Sl} {xs ys : List Int}
theorem zug {i:Int} {K:Addr→Prop} (hx:SK h s S) (k:Nat) (hi:i=k) (hk:k<S.cir.length) (H:∀a (x:TRound),x.center=(cens S)[k]'(by unfold cens; simpa using hk)→(∀j v,(rdc x)[j]?=some v→h.cell (a.add j)=some v)→K a):idxP s.circles i 5 K:=
 hx.2.1.get zfk k hi hk fun a x hxx hc=>H a x (by rw [hxx.1]; simp [cens]) hc
theorem zlm:(cens S).length=S.cir.length:=by simp [cens]
theorem zqt (hx:SK h s S) (hs:sSk S) (H:∀y h',h.le h'→OI h h' y (cens S)→Ks y h'):callP (F.zhf s) Ks h:=by
 refine za0 (fun y h'=>OI h h' y (cens S)) (fun K' hk=>?_) fun b h' hl hb=>H b h' hl hb
 unfold F.zhf
 have l2:=hx.2.1.len zfk
 have s2:=hs.2.1
 have cl:=zlm (S:=S)
 refine zci (n:=S.cir.length) (by omega) (fun i y h'=>OI h h' y ((cens S).take i)) (by simpa using OI.nil) ?_
 intro i y h1 hi ho k hk2
 refine za1 (fun h2=>?_) (fun h2=>?_)
 · have hi':i<S.cir.length:=by simp only at h2; omega
   refine zug (hx.le ho.dle) i rfl hi' fun a x hxx hc=>⟨_,hc 0 _ rfl,_,hc 1 _ rfl,_,hc 2 _ rfl,_,hc 3 _ rfl,_,hc 4 _ rfl,?_⟩
   refine ho.app (by rw [List.length_take]; omega) fun z h3 ho3=>hk2 _ _ hi' ?_
   rw [hxx,List.take_append_getElem] at ho3
   exact ho3
 · have:i=S.cir.length:=by simp only at h2; omega
   subst this
   rw [←cl,List.take_length] at ho
   exact hk _ _ ho.dle ho
end
end Den
end

section
namespace Den
open Go Iv Lx
def cirOk (c:PCon) (cs:List Int):Prop:=∀k∈c.cir,0≤k∧k<cs.length
theorem VC.cirOk {c:PCon} {n:Int} {S:PSk} (hv:VC c n S.cir.length):cirOk c (cens S):=fun k hk=>by
 have:=hv.2.2.1.2 k hk
 rw [zlm]; exact this
def withC (c:PCon):Prop:=c.kind=13∨c.kind=16∨c.kind=17
instance (c:PCon):Decidable (withC c):=by unfold withC; infer_instance
theorem zur {c:PCon} {cs:List Int} {k:Int} (h:withC c):itK c cs k=[-1-k,cs.getD k.toNat 0]:=by unfold itK; exact if_pos h
theorem zuq {c:PCon} {cs:List Int} {k:Int} (h:¬withC c):itK c cs k=[-1-k]:=by unfold itK; exact if_neg h
theorem zl7 {c:PCon} {cs:List Int}:∀l:List Int,(l.flatMap (itK c cs)).length≤2*l.length:=by
 intro l
 induction l with
 | nil=>simp
 | cons a r ih=>
   have:=zup c cs a
   simp only [List.flatMap_cons,List.length_append,List.length_cons]
   omega
theorem zhh {c:PCon} {cs:List Int} {l:List Int} {i:Nat} (hi:i<l.length):(l.take (i+1)).flatMap (itK c cs)=(l.take i).flatMap (itK c cs)++itK c cs l[i]:=by
 rw [←List.take_append_getElem hi,List.flatMap_append]
 simp
section
variable {h : Hp} {x : TConstraint} {c : PCon} {cs : List Int} {ce : Sl} {Kb : Bool → Hp → Prop} {Ki : Int → Hp → Prop} {Ks : Sl → Hp → Prop}
theorem zsa {k:Int} {n:Nat} (h0:0≤k) (h1:k<n) (h2:n≤1000000):IntKind.i64.wrap (-1-k)=-1-k:=w64 (by omega)
theorem zth (hx:CO h x c) (hc:IL h ce cs) (hs:sC c) (hok:cirOk c cs) (hcl:cs.length≤1000) (H:∀y h',h.le h'→OI h h' y (itemsC c cs)→Ks y h'):callP (F.zji x ce) Ks h:=by
 refine za0 (fun y h'=>OI h h' y (itemsC c cs)) (fun K' hk=>?_) fun b h' hl hb=>H b h' hl hb
 unfold F.zji
 obtain ⟨x1,x2,x3,x4,x5⟩:=hx
 obtain ⟨s1,s2,s3,s4⟩:=hs
 rw [x1]
 have cl:=x3.len
 refine znq x2 (by omega) fun w3 h2 ho2=>?_
 refine zci (n:=c.cir.length) (by omega) (fun i y h'=>OI h h' y (c.pts++(c.cir.take i).flatMap (itK c cs))) (by simpa using ho2) ?_
 intro i y h3 hi ho k hk2
 have hfl:=zl7 (c:=c) (cs:=cs) (c.cir.take i)
 rw [List.length_take] at hfl
 refine za1 (fun h4=>?_) (fun h4=>?_)
 · have hi':i<c.cir.length:=by simp only at h4; omega
   have hkk:=hok _ (List.getElem_mem hi')
   refine za5 (fun s h'=>OI h h' s.1 (c.pts++(c.cir.take (i+1)).flatMap (itK c cs))) (fun s h' hs=>hk2 _ _ hi' hs) ?_
   refine (x3.le ho.dle).get i rfl hi' ?_
   rw [zsa hkk.1 hkk.2 (by omega)]
   refine ho.app (by rw [List.length_append]; omega) fun w h5 ho5=>?_
   refine za5 (fun s h'=>h'=h5∧s.1=decide (withC c)) ?_ ?_
   · rintro ⟨b,_⟩ h5 ⟨rfl,hb⟩
     simp only at hb
     subst hb
     refine za1 (fun hw=>?_) (fun hw=>?_)
     · refine (hc.le ho5.dle).get c.cir[i].toNat (by omega) (by omega) ?_
       refine ho5.app (by rw [List.length_append,List.length_append,List.length_singleton]; omega) fun w2 h6 ho6=>?_
       show OI _ _ _ _
       rw [zhh hi',zur hw,zbm (by omega)]
       simpa [List.append_assoc] using ho6
     · show OI _ _ _ _
       rw [zhh hi',zuq hw,←List.append_assoc]
       exact ho5
   · refine zae (fun h6=>⟨rfl,?_⟩) (fun h6=>zae (fun h7=>⟨rfl,?_⟩) (fun h7=>⟨rfl,?_⟩))
     · simp only; rw [decide_eq_true (show withC c from .inl h6),h6]; rfl
     · simp only; rw [decide_eq_true (show withC c from .inr (.inl h7)),h7]; rfl
     · simp only
       by_cases h8:c.kind=17
       · rw [decide_eq_true (show withC c from .inr (.inr h8)),h8]; rfl
       · rw [decide_eq_false (show ¬withC c by unfold withC; omega),beq_eq_false_iff_ne]; exact h8
 · have:i=c.cir.length:=by simp only at h4; omega
   subst this
   rw [List.take_length] at ho
   exact hk _ _ ho.dle ho
end
section
variable {h : Hp} {s : TSketch} {S : PSk} {Kb : Bool → Hp → Prop} {Ki : Int → Hp → Prop} {Ks : Sl → Hp → Prop} {l m : Sl} {xs ys : List Int}
theorem ztk {ps:List PCon} (hx:LR cc 5 CO h l ps) (hlen:ps.length≤1000000) (H:∀y h',h.le h'→LO cc 5 CO h h' y ps→Ks y h'):callP (F.zbj l) Ks h:=by
 refine za0 (fun y h'=>LO cc 5 CO h h' y ps) (fun K' hk=>?_) fun b h' hl hb=>H b h' hl hb
 unfold F.zbj
 cases ha:l.a with
 | none=>
   refine zc8 rfl ?_
   obtain ⟨ys,h1,h2,h3,h4⟩:=hx
   have h5:=h1.2
   rw [ha] at h5
   simp only [cellsAtO] at h5
   split at h5
   · rename_i h6
     rw [zls zau.len] at h6
     have:ys=[]:=List.eq_nil_of_length_eq_zero (by omega)
     subst this
     have:ps=[]:=List.eq_nil_of_length_eq_zero (by simpa using h3.symm)
     subst this
     exact hk _ _ (Hp.le_refl _) LO.nil
   · cases h5
 | some a=>
   refine zba rfl ?_
   refine za5c (c:=cc) (n:=5) (P:=CO) fun p1 h1 ho1=>?_
   have key:=ho1.appAll zau (K:=K') (bytes:=88) (zero:=zC) hx rfl (by simp; omega) (by simp; omega) fun w3 h2 ho2=>hk _ _ ho2.dle (by simpa using ho2)
   rw [ha] at key
   exact key
theorem zwt (hx:SK h s S) (hv:VS S) (hs:sSk S) (H:∀y h',h.le h'→LR cc 5 CO h' y (allC S)→Ks y h'):callP (F.zlp s) Ks h:=by
 refine za0 (fun y h'=>LR cc 5 CO h' y (allC S)) (fun K' hk=>?_) fun b h' hl hb=>H b h' hl hb
 unfold F.zlp
 have s6:=hs.2.2.2.2.2.1
 have hi:=zps S
 have s4:=hs.2.2.2.1
 refine ztk hx.2.2.2.2.2 (by omega) fun w3 h2 _ ho2=>?_
 refine ho2.call zau (K1:=fun y h'=>LR cc 5 CO h' y (imp S)) (zmj hx hv hs fun y h' _ hy=>hy) fun r4 D h3 d1 ho3 h4=>?_
 exact ho3.appAll zau (bytes:=88) (zero:=zC) h4 rfl (by omega) (by omega) fun w6 h5 ho5=>hk _ _ (Hp.le_trans d1 ho5.dle) (ho5.lr zau)
theorem zwm {n:Nat} (hn:n≤1000000) (H:∀y h',h.le h'→LO cc 5 CO h h' y []→Ks y h'):callP (F.zbk nilS (n:Int)) Ks h:=by
 refine za0 (fun y h'=>LO cc 5 CO h h' y []) (fun K' hk=>?_) fun b h' hl hb=>H b h' hl hb
 unfold F.zbk
 have e0:IntKind.i64.wrap (((nilS.cap:Nat):Int)-(nilS.len:Int))=0:=by rw [show ((nilS.cap:Nat):Int)-(nilS.len:Int)=0 from rfl]; exact w64 (by omega)
 have e1:IntKind.i64.wrap ((n:Int)-0)=(n:Int):=by rw [Int.sub_zero]; exact w64 (by omega)
 refine za5 (fun _ h'=>h'=h) ?_ (za1 (fun h1=>by omega) (fun _=>rfl))
 rintro _ h rfl
 rw [e0,e1]
 refine za1 (fun h1=>?_) (fun h1=>hk _ _ (Hp.le_refl _) LO.nil)
 refine ⟨by omega,by decide,by decide,by omega,?_⟩
 have hown:Own h h 5 (nilS.cut 0 0 5) ([]:List Value):=⟨Hp.le_refl _,rfl,Nat.le_refl _,rfl⟩
 have ez:repl n zC=(List.replicate n (⟨0,nilS,nilS,nilS,0⟩:TConstraint)).flatMap cc:=by
  unfold repl
  rw [List.flatMap_replicate]
  rfl
 have key:appP 5 88 zC (nilS.cut 0 0 5) n (repl n zC) (fun w4 h2=>slP w4 0 ((nilS.len:Nat):Int) 5 fun c5=>K' c5 h2) h:=by
  refine zh9 hown (n:=n) ?_ rfl ?_ (by show (0+n)*88≤_; omega) (by show 0+n≤_; omega) fun y h' hy hyl=>?_
  · rw [zm3]; rfl
  · rw [ez,List.all_flatMap,List.all_eq_true]
    exact fun x _=>rfl
  · have hcap:=hy.2.2.1
    have e9:nilS.len=0:=rfl
    refine ⟨by decide,by decide,by omega,hk _ _ hy.1 ?_⟩
    have hp:=hy.preN (k:=0) (by omega)
    refine ⟨[],?_,rfl,fun k h1 _=>by simp at h1⟩
    rw [Nat.zero_mul,List.take_zero] at hp
    exact hp
 exact key
theorem zt4 {qs rs:List PCon} {p:Addr} (hl:LR cc 5 CO h l qs) (hm:LR cc 5 CO h m rs) (hlen:qs.length+rs.length≤1000) (hp:Rd h 1 ⟨some p,2,2⟩ [Lf.sl.up l,Lf.sl.up m]) (H:∀y h',h.le h'→LR cc 5 CO h' y (qs++rs)→Ks y h') :
 callP (F.zbf ⟨some p,2,2⟩) Ks h:=by
 refine za0 (fun y h'=>LR cc 5 CO h' y (qs++rs)) (fun K' hk=>?_) fun b h' hl hb=>H b h' hl hb
 unfold F.zbf
 have ll:=hl.len zau
 have ml:=hm.len zau
 have g0:∀{h':Hp} {K:Sl→Prop},h.le h'→K l→idxP (⟨some p,2,2⟩:Sl) ((0:Nat):Int) 1 fun a=>ldL .sl a K h':=fun {h'} {K} hle hK=>zpc 0 (hp.le hle) rfl rfl fun a ha=>⟨l,ha,hK⟩
 have g1:∀{h':Hp} {K:Sl→Prop},h.le h'→K m→idxP (⟨some p,2,2⟩:Sl) ((1:Nat):Int) 1 fun a=>ldL .sl a K h':=fun {h'} {K} hle hK=>zpc 1 (hp.le hle) rfl rfl fun a ha=>⟨m,ha,hK⟩
 refine zci (n:=2) (by omega) (fun i a h'=>h'=h∧a=if i=0 then 0 else if i=1 then (qs.length:Int) else ((qs.length+rs.length:Nat):Int)) ⟨rfl,rfl⟩ ?_
 rintro i a h hi ⟨rfl,ha⟩ k hk2
 refine za1 (fun h1=>?_) (fun h1=>?_)
 · have hi':i<2:=by have:(i:Int)<((2:Nat):Int):=h1; omega
   refine za5 (fun s h'=>h'=h∧s.1=if i+1=0 then 0 else if i+1=1 then (qs.length:Int) else ((qs.length+rs.length:Nat):Int)) (fun s h' hs=>hk2 _ _ hi' hs) ?_
   rcases (by omega:i=0∨i=1) with rfl | rfl
   · refine g0 (Hp.le_refl _) ?_
     have ha:a=0:=ha
     have e:IntKind.i64.wrap (a+(l.len:Int))=(qs.length:Int):=by rw [ha,ll,Int.zero_add]; exact w64 (by omega)
     simp only
     rw [e]
     refine za1 (fun h2=>by omega) (fun _=>⟨by trivial,by trivial⟩)
   · refine g1 (Hp.le_refl _) ?_
     have ha:a=(qs.length:Int):=ha
     have e:IntKind.i64.wrap (a+(m.len:Int))=((qs.length+rs.length:Nat):Int):=by rw [ha,ml]; rw [w64 (by omega)]; omega
     simp only
     rw [e]
     refine za1 (fun h2=>by omega) (fun _=>⟨by trivial,by trivial⟩)
 · have hi':i=2:=by have:¬(i:Int)<((2:Nat):Int):=h1; omega
   subst hi'
   have ha:a=((qs.length+rs.length:Nat):Int):=ha
   simp only
   rw [ha]
   refine zwm (by omega) fun r7 h3 hl3 ho3=>?_
   refine zci (n:=2) (by omega) (fun i y h'=>LO cc 5 CO h h' y (if i=0 then [] else if i=1 then qs else qs++rs)) ho3 ?_
   intro i y h4 hi ho4 k hk3
   refine za1 (fun h5=>?_) (fun h5=>?_)
   · have hi':i<2:=by have:(i:Int)<((2:Nat):Int):=h5; omega
     rcases (by omega:i=0∨i=1) with rfl | rfl
     · refine g0 ho4.dle ?_
       have ho4:LO cc 5 CO h h4 y []:=ho4
       exact ho4.appAll zau (bytes:=88) (zero:=zC) hl rfl (by simp; omega) (by simp; omega) fun w h6 ho6=>hk3 _ _ (by decide) ho6
     · refine g1 ho4.dle ?_
       have ho4:LO cc 5 CO h h4 y qs:=ho4
       exact ho4.appAll zau (bytes:=88) (zero:=zC) hm rfl (by omega) (by omega) fun w h6 ho6=>hk3 _ _ (by decide) ho6
   · have hi':i=2:=by have:¬(i:Int)<((2:Nat):Int):=h5; omega
     subst hi'
     have ho4:LO cc 5 CO h h4 y (qs++rs):=ho4
     exact hk _ _ ho4.dle (ho4.lr zau)
end
end Den
end

section
namespace Den
open Go Iv Lx
def ILP (h:Hp) (x:Sl) (xs:List Int):Prop:=IL h x xs
theorem zi0:Rec slc 1 ILP:=⟨fun _=>rfl,by decide,fun _=>rfl,fun hx hl=>IL.le hx hl⟩
def items9 (s:TSketch) (lS itS ceS:Sl):List Value:=[Lf.sl.up s.points,Lf.sl.up s.circles,Lf.sl.up s.segments,Lf.sl.up s.arcs,Lf.sl.up s.chains,Lf.sl.up s.constraints,Lf.sl.up lS,Lf.sl.up itS,Lf.sl.up ceS]
def MB (h:Hp) (b:Nat) (cs:List Value):Prop:=∃e,h b=some ⟨cs,e,(0,0)⟩
theorem MB.ld {h:Hp} {b:Nat} {cs:List Value} (hb:MB h b cs) (j:Nat) {v:Value} (hv:cs[j]?=some v):h.cell ((⟨b,0,none⟩:Addr).add j)=some v:=by
 obtain ⟨e,hb⟩:=hb
 unfold Hp.cell
 rw [zb9,zdr rfl,zcm]
 simpa [hb] using hv
theorem MB.le {h h':Hp} {b:Nat} {cs:List Value} (hb:MB h b cs) (hl:h.le h'):MB h' b cs:=by
 obtain ⟨e,hb⟩:=hb
 exact ⟨e,hl _ _ hb⟩
theorem MB.st {h:Hp} {b j:Nat} {cs:List Value} {v:Value} {K:Hp→Prop} (hb:MB h b cs) (hj:j<cs.length) (hv:Value.leaf v=true)
 (H:∀h',MB h' b (cs.set j v)→(∀i,i≠b→h' i=h i)→K h'):stP ((⟨b,0,none⟩:Addr).add j) [v] K h:=by
 obtain ⟨e,hb⟩:=hb
 refine ⟨_,by rw [zb9]; exact hb,zdr rfl _,rfl,?_,by simp [hv],?_⟩
 · rw [zcm]; simp; omega
 · rw [zb9,zcm]
   refine H _ ⟨e,?_⟩ fun i hi=>Hp.ins_ne hi
   rw [Hp.ins_same]
   simp only [Nat.zero_add]
   rw [zhv,List.set_eq_take_append_cons_drop,if_pos hj]
theorem zrz {h h':Hp} {b:Nat} {bl:Blk} (hb:h' b=some bl) (hs:∀i,i≠b→h' i=h i):h'=h.ins b bl:=by
 funext i
 by_cases hi:i=b
 · subst hi; rw [Hp.ins_same,hb]
 · rw [Hp.ins_ne hi,hs i hi]
theorem zob {h0 h:Hp} {x:Sl} {cs:List Value} {n m:Nat} {bl:Blk} (ho:Own h0 h m x cs) (hn:h0 n=none) (hne:∀a,x.a=some a→a.block≠n):Own h0 (h.ins n bl) m x cs:=by
 obtain ⟨h1,h2,h3,h4⟩:=ho
 refine ⟨fun k b hk=>?_,h2,h3,?_⟩
 · have:k≠n:=fun hh=>by subst hh; rw [hn] at hk; cases hk
   rw [Hp.ins_ne this]; exact h1 k b hk
 · cases ha:x.a with
   | none=>rw [ha] at h4; exact h4
   | some a=>
     rw [ha] at h4
     obtain ⟨g1,g2,g3,b,g4,g5⟩:=h4
     exact ⟨g1,g2,g3,b,by rw [Hp.ins_ne (hne a ha)]; exact g4,g5⟩
theorem zsf {h0 h D:Hp} {x:Sl} {cs:List Value} {m:Nat} (ho:Own h0 h m x cs) (hD:∀a,x.a=some a→D a.block=h a.block):Rd D m x cs:=by
 have hr:=ho.rd
 obtain ⟨h1,h2,h3,h4⟩:=ho
 refine ⟨hr.1,?_⟩
 cases ha:x.a with
 | none=>have:=hr.2; rw [ha] at this; exact this
 | some a=>
   rw [ha] at h4
   obtain ⟨g1,g2,g3,b,g4,g5,g6,g7⟩:=h4
   have hle:cs.length≤b.cells.length:=by rw [g6,←h2]; exact Nat.mul_le_mul_right _ h3
   simp only [cellsAtO]
   rw [zjb (by rw [hD a ha]; exact g4) g2 (by omega),g1]
   simp [g7]
def PR (h:Hp) (p:Addr) (S:PSk):Prop:=∃s lS itS ceS,SK h s S∧(∀j v,(items9 s lS itS ceS)[j]?=some v→h.cell (p.add j)=some v)∧LR cc 5 CO h lS (allC S)∧LR slc 1 ILP h itS ((allC S).map fun c=>itemsC c (cens S))∧IL h ceS (cens S)
theorem PR.le {h h':Hp} {p:Addr} {S:PSk} (hp:PR h p S) (hl:h.le h'):PR h' p S:=by
 obtain ⟨s,lS,itS,ceS,h1,h2,h3,h4,h5⟩:=hp
 exact ⟨s,lS,itS,ceS,h1.le hl,fun j v hv=>Hp.cell_le hl (h2 j v hv),h3.le zau hl,h4.le zi0 hl,h5.le hl⟩
section
variable {h : Hp} {s : TSketch} {S : PSk} {Kp : Option Addr → Hp → Prop}
theorem zsk (hx:SK h s S) (hv:VS S) (hs:sSk S) (H:∀p h',h.le h'→PR h' p S→Kp (some p) h'):callP (F.zel s) Kp h:=by
 refine za0 (fun y h'=>∃p,y=some p∧PR h' p S) (fun K' hk=>?_) fun b h' hl ⟨p,hp,hb⟩=>by subst hp; exact H p h' hl hb
 unfold F.zel
 have hal:=zli hs
 have hok:=zjr hv hs
 have s6:=hs.2.2.2.2.2.1
 have hi:=zps S
 have s4:=hs.2.2.2.1
 have s2:=hs.2.1
 have cl:=zlm (S:=S)
 refine zmj hx hv hs fun r1 h1 hl1 hr1=>?_
 refine za5d (cells:=[Lf.sl.up s.constraints,Lf.sl.up r1]) 1 2 rfl fun p2 h2 hl2 hp2=>?_
 refine zt4 ((hx.le (Hp.le_trans hl1 hl2)).2.2.2.2.2) (hr1.le zau hl2) (by omega) hp2 fun lS h3 hl3 hL=>?_
 have hle3:=Hp.le_trans hl1 (Hp.le_trans hl2 hl3)
 have hx3:=hx.le hle3
 have hL:LR cc 5 CO h3 lS (allC S):=hL
 intro b e hbf
 have l2:=hx.2.1.len zfk
 have lL:=hL.len zau
 refine zdy (n:=S.cir.length) (by omega) (fun i h'=>∃y,MB h' b (items9 s lS nilS y)∧OI h3 h' y ((cens S).take i)∧∀a,y.a=some a→a.block≠b) ⟨nilS,⟨e,Hp.ins_same _ _ _⟩,by rw [List.take_zero]; exact Own.nil (Hp.le_ins hbf),fun a ha=>by cases ha⟩ ?_
 rintro i h5 hi ⟨y,hm,ho,hab⟩ k hk2
 have h3b:h3 b=none:=hbf
 refine za1 (fun h6=>?_) (fun h6=>?_)
 · have hi':i<S.cir.length:=by simp only at h6; omega
   refine zug (hx3.le ho.dle) i rfl hi' fun a x hxx hc=>⟨_,hc 0 _ rfl,_,hc 1 _ rfl,_,hc 2 _ rfl,_,hc 3 _ rfl,_,hc 4 _ rfl,_,hm.ld 8 rfl,?_⟩
   have hyl:=ho.il.len
   rw [List.length_take] at hyl
   refine zlj ho (n:=1) (new:=[ic x.center]) rfl rfl rfl (by omega) (by omega) fun z h7 hz _ hs7 hb7=>?_
   have hbb:h5 b≠none:=by obtain ⟨e,hm⟩:=hm; rw [hm]; simp
   have hm7:MB h7 b (items9 s lS nilS y):=by
    obtain ⟨e,hm⟩:=hm
    exact ⟨e,by rw [hs7 b hbb fun a ha=>(hab a ha).symm]; exact hm⟩
   have hzb:∀a,z.a=some a→a.block≠b:=fun a ha hh=>by
    rcases hb7 a ha with ⟨a',h8,h9⟩ | h8
    · exact hab a' h8 (by rw [h9]; exact hh)
    · rw [hh] at h8; exact hbb h8
   refine hm7.st (j:=8) (v:=Lf.sl.up z) (by simp [items9]) rfl fun h8 hm8 hs8=>hk2 _ hi' ⟨z,hm8,?_,hzb⟩
   obtain ⟨e8,hm8'⟩:=hm8
   rw [zrz hm8' hs8]
   have:OI h3 h7 z ((cens S).take (i+1)):=by
    unfold OI
    rw [←List.take_append_getElem (show i<(cens S).length by omega),List.map_append,←hxx]
    exact hz
   exact zob this h3b hzb
 · have hi':i=S.cir.length:=by simp only at h6; omega
   subst hi'
   rw [←cl,List.take_length] at ho
   obtain ⟨D0,hD0⟩:∃D0,D0=h5.del b:=⟨_,rfl⟩
   have hD0le:D0.le h5:=by rw [hD0]; exact Hp.del_le _ _
   have h3D:h3.le D0:=fun j bl hj=>by
    rw [hD0]
    unfold Hp.del
    rw [if_neg (fun hh=>by subst hh; rw [h3b] at hj; cases hj)]
    exact ho.dle _ _ hj
   have hce:IL D0 y (cens S):=⟨zsf ho fun a ha=>by rw [hD0]; unfold Hp.del; rw [if_neg (hab a ha)],ho.2.2.1⟩
   refine ⟨_,hm.ld 6 rfl,?_⟩
   have hLD:=hL.le zau h3D
   refine zdy (n:=(allC S).length) (by omega) (fun i h'=>∃z D,MB h' b (items9 s lS z y)∧D0.le D∧D b=none∧LO slc 1 ILP D h' z (((allC S).map fun c=>itemsC c (cens S)).take i)∧∀a,z.a=some a→a.block≠b)
    ⟨nilS,D0,hm,Hp.le_refl _,by rw [hD0]; exact Hp.del_same _ _,⟨[],Own.nil hD0le,by simp,fun k k1 _=>by simp at k1⟩,fun a ha=>by cases ha⟩ ?_
   clear hk2
   rintro i h8 hi ⟨z,D,hm8,hD,hDb,hz,hzb⟩ k hk2
   refine za1 (fun h9=>?_) (fun h9=>?_)
   · have hi':i<(allC S).length:=by simp only at h9; omega
     have hD8:=hz.dle
     refine (hLD.le zau (Hp.le_trans hD hD8)).get zau i rfl hi' fun a x hxx hc=>?_
     refine ⟨_,hc 0 _ rfl,_,hc 1 _ rfl,_,hc 2 _ rfl,_,hc 3 _ rfl,_,hc 4 _ rfl,?_⟩
     obtain ⟨c,hcc⟩:∃c,c=(allC S)[i]:=⟨_,rfl⟩
     rw [←hcc] at hxx
     have hcok:=hok c (by rw [hcc]; exact List.getElem_mem _)
     have hcir:cirOk c (cens S):=hcok.1.cirOk
     have hsc:=hcok.2
     obtain ⟨x1,x2,x3,x4,x5⟩:=hxx
     obtain ⟨c1,c2,c3,c4⟩:=hsc
     have cll:=x3.len
     refine znq x2 (by omega) fun r16 h10 ho10=>?_
     rw [x1]
     refine zci (n:=c.cir.length) (by omega) (fun j w h'=>OI h8 h' w (c.pts++(c.cir.take j).flatMap (itK c (cens S)))) (by simpa using ho10) ?_
     intro j w h11 hj ho11 k11 hk11
     have hfl:=zl7 (c:=c) (cs:=cens S) (c.cir.take j)
     rw [List.length_take] at hfl
     refine za1 (fun h12=>?_) (fun h12=>?_)
     · have hj':j<c.cir.length:=by simp only at h12; omega
       have hkk:=hcir _ (List.getElem_mem hj')
       refine za5 (fun s h'=>OI h8 h' s.1 (c.pts++(c.cir.take (j+1)).flatMap (itK c (cens S)))) (fun s h' hs=>hk11 _ _ hj' hs) ?_
       refine (x3.le ho11.dle).get j rfl hj' ?_
       rw [zsa hkk.1 hkk.2 (by omega)]
       refine ho11.app (by rw [List.length_append]; omega) fun w2 h13 ho13=>?_
       have two:withC c→ldL .sl ((⟨b,0,none⟩:Addr).add 8) (fun x24=>idxP x24 c.cir[j] 1 fun a25=>ldL (.int .i64) a25 (fun x26=>appP 1 8 [.int .i64 0] w2 1 [.int .i64 x26] (fun w27 h13=>OI h8 h13 w27 (c.pts++(c.cir.take (j+1)).flatMap (itK c (cens S)))) h13) h13) h13:=by
        intro hw
        refine ⟨_,(hm8.le ho13.dle).ld 8 rfl,?_⟩
        refine (hce.le (Hp.le_trans hD (Hp.le_trans hD8 ho13.dle))).get c.cir[j].toNat (by omega) (by omega) ?_
        refine ho13.app (by rw [List.length_append,List.length_append,List.length_singleton]; omega) fun w3 h14 ho14=>?_
        rw [zhh hj',zur hw,zbm (by omega)]
        simpa [List.append_assoc] using ho14
       refine zae (fun h6=>two (.inl h6)) (fun h6=>zae (fun h7=>two (.inr (.inl h7))) (fun h7=>zae (fun h8=>two (.inr (.inr h8))) (fun h8=>?_)))
       show OI _ _ _ _
       rw [zhh hj',zuq (by unfold withC; omega),←List.append_assoc]
       exact ho13
     · have hj':j=c.cir.length:=by simp only at h12; omega
       subst hj'
       rw [List.take_length] at ho11
       have ho11:OI h8 h11 w (itemsC c (cens S)):=ho11
       have hm11:=hm8.le ho11.dle
       refine ⟨_,hm11.ld 7 rfl,?_⟩
       have hz11:=hz.le ho11.dle
       have hbb:h11 b≠none:=by obtain ⟨e,hm⟩:=hm11; rw [hm]; simp
       have hwb:∀a,w.a=some a→h8 a.block=none:=fun a ha=>by
        obtain ⟨_,_,_,g4⟩:=ho11
        rw [ha] at g4
        exact g4.2.2.1
       have h8b:h8 b≠none:=by obtain ⟨e,hm⟩:=hm8; rw [hm]; simp
       obtain ⟨zs,q1,q2,q3⟩:=hz11
       have hz8:∀a,z.a=some a→h8 a.block≠none:=fun a ha=>by
        obtain ⟨ys,g1,_,_⟩:=hz
        obtain ⟨_,_,_,g4⟩:=g1
        rw [ha] at g4
        obtain ⟨_,_,_,bl,g5,_⟩:=g4
        rw [g5]; simp
       have hzD:∀a,z.a=some a→D a.block=none:=fun a ha=>by
        obtain ⟨_,_,_,g4⟩:=q1
        rw [ha] at g4
        exact g4.2.2.1
       obtain ⟨D1,hD1⟩:∃D1:Hp,D1=fun j=>if j=b∨(∃a,z.a=some a∧j=a.block) then none else h11 j:=⟨_,rfl⟩
       have hD1h:D1.le h11:=fun j bl hj=>by
        rw [hD1] at hj
        simp only at hj
        split at hj
        · cases hj
        · exact hj
       have hDD1:D.le D1:=fun j bl hj=>by
        rw [hD1]
        simp only
        rw [if_neg]
        · exact Hp.le_trans hD8 ho11.dle _ _ hj
        · rintro (rfl | ⟨a,ha,rfl⟩)
          · rw [hDb] at hj; cases hj
          · rw [hzD a ha] at hj; cases hj
       have hD1b:D1 b=none:=by rw [hD1]; simp
       have hw1:IL D1 w (itemsC c (cens S)):=⟨zsf ho11 fun a ha=>by
        rw [hD1]
        simp only
        rw [if_neg]
        rintro (hh | ⟨a',ha',hh⟩)
        · exact h8b (by rw [←hh]; exact hwb a ha)
        · exact hz8 a' ha' (by rw [←hh]; exact hwb a ha),ho11.2.2.1⟩
       have hz1:Own D1 h11 1 z (zs.flatMap slc):=by
        obtain ⟨g1,g2,g3,g4⟩:=q1
        refine ⟨hD1h,g2,g3,?_⟩
        cases ha:z.a with
        | none=>rw [ha] at g4; exact g4
        | some a=>
          rw [ha] at g4
          obtain ⟨k1,k2,k3,k4⟩:=g4
          exact ⟨k1,k2,by rw [hD1]; simp only; rw [if_pos (.inr ⟨a,ha,rfl⟩)],k4⟩
       have hzl:=hz.len zi0
       rw [List.length_take,List.length_map] at hzl
       refine zlj hz1 (n:=1) (new:=slc w) rfl rfl rfl (by omega) (by omega) fun z2 h15 hz2 _ hs15 hb15=>?_
       have hm15:MB h15 b (items9 s lS z y):=by
        obtain ⟨e,hm⟩:=hm11
        exact ⟨e,by rw [hs15 b hbb fun a ha=>(hzb a ha).symm]; exact hm⟩
       have hz2b:∀a,z2.a=some a→a.block≠b:=fun a ha hh=>by
        rcases hb15 a ha with ⟨a',h8,h9⟩ | h8
        · exact hzb a' h8 (by rw [h9]; exact hh)
        · rw [hh] at h8; exact hbb h8
       refine hm15.st (j:=7) (v:=Lf.sl.up z2) (by simp [items9]) rfl fun h16 hm16 hs16=>hk2 _ hi' ⟨z2,D1,hm16,Hp.le_trans hD hDD1,hD1b,⟨zs++[w],?_,?_,fun j j1 j2=>?_⟩,hz2b⟩
       · obtain ⟨e8,hm8'⟩:=hm16
         rw [zrz hm8' hs16]
         refine zob ?_ hD1b hz2b
         rw [List.flatMap_append]
         simpa using hz2
       · rw [List.length_append,q2,List.length_take,List.length_take]
         simp; omega
       · have hlz:zs.length=i:=by rw [q2]; simp; omega
         rcases Nat.lt_or_ge j i with h5 | h5
         · rw [List.getElem_append_left (by omega),List.getElem_take]
           have:=q3 j (by omega) (by simp; omega)
           rw [List.getElem_take] at this
           exact zi0.mono this hDD1
         · have h6:j=i:=by simp at j1; omega
           subst h6
           rw [List.getElem_append_right (by omega),List.getElem_take]
           simp only [hlz,Nat.sub_self,List.getElem_cons_zero,List.getElem_map]
           rw [←hcc]
           exact hw1
   · have hi':i=(allC S).length:=by simp only at h9; omega
     subst hi'
     have hfull:((allC S).map fun c=>itemsC c (cens S)).take (allC S).length=(allC S).map fun c=>itemsC c (cens S):=List.take_of_length_le (by simp)
     rw [hfull] at hz
     have hD8:=hz.dle
     have h38:h3.le h8:=Hp.le_trans h3D (Hp.le_trans hD hD8)
     refine hk _ _ (Hp.le_trans hle3 h38) ⟨⟨b,0,none⟩,rfl,s,lS,z,y,hx3.le h38,fun j v hv=>hm8.ld j hv,hL.le zau h38,hz.lr zi0,hce.le (Hp.le_trans hD hD8)⟩
end
end Den
end

section
namespace Den
open Go Iv Lx
def cAt (cs:List Int) (c:PCon) (i:Nat):Int:=cs.getD (c.cir.getD i 0).toNat 0
def cnt (l:List Int) (t:Int):Nat:=(l.filter (·==t)).length
def kindP (c:PCon) (cs:List Int) (t:Int):Int:=
 if c.kind=13 then (if (t∈c.pts)↔cAt cs c 0=t then 0 else 2)
 else if c.kind=16 then (if cAt cs c 0=t∧t∉c.pts then 1 else 0)
 else if c.kind=17 then (if cAt cs c 0=t↔cAt cs c 1=t then 0 else 2)
 else if t∉c.pts then 0
 else if c.kind=1∨c.kind=9 then 3
 else if c.kind=2 then 2
 else if c.kind=3∨c.kind=6∨c.kind=11∨c.kind=12 then 1
 else if c.kind=4 then (if c.pts[0]?=some t then 1 else 0)
 else if c.kind=10 then (if c.pts[0]?=some t∨c.pts[1]?=some t then 3 else 0)
 else if c.kind=5∨c.kind=7 then (if cnt c.pts t=2 then 2 else 1)
 else if c.kind=8 then (if cnt c.pts t=2 then 1 else 2)
 else 0
def sizesP (c:PCon) (cs:List Int) (k:Int):Prop:=
 k∈c.cir∧(if c.kind=13∨c.kind=16 then cs.getD k.toNat 0∉c.pts else if c.kind=17 then c.side=1∧cAt cs c 0≠cAt cs c 1 else True)
instance (c:PCon) (cs:List Int) (k:Int):Decidable (sizesP c cs k):=by unfold sizesP; infer_instance
def suitP (c:PCon) (cs:List Int) (item:Int):Prop:=
 if item<0 then sizesP c cs (-1-item) else if eqK c.kind=2 then kindP c cs item=3 else kindP c cs item=1∨kindP c cs item=2
instance (c:PCon) (cs:List Int) (k:Int):Decidable (suitP c cs k):=by unfold suitP; infer_instance
def keepP (l:List Int) (item:Int) (R:List Int):Prop:=item∈l∧∀x∈l,x∉R
instance (l:List Int) (item:Int) (R:List Int):Decidable (keepP l item R):=by unfold keepP; infer_instance
def remN (its:List (List Int)) (item:Int) (R:List Int):Nat→List Int
 | 0=>[]
 | k+1=>remN its item R k++(if keepP (its.getD k []) item R then [(k:Int)] else [])
def remL (its:List (List Int)) (item:Int) (R:List Int):List Int:=remN its item R its.length
theorem zof {its:List (List Int)} {item:Int} {R:List Int}:∀{k:Nat} {j:Int},j∈remN its item R k↔∃i:Nat,i<k∧j=i∧keepP (its.getD i []) item R
 | 0,j=>by simp [remN]
 | k+1,j=>by
   unfold remN
   rw [List.mem_append,zof]
   constructor
   · rintro (⟨i,hi,h1,h2⟩ | h)
     · exact ⟨i,by omega,h1,h2⟩
     · split at h
       · rename_i h3
         exact ⟨k,by omega,List.mem_singleton.1 h,h3⟩
       · cases h
   · rintro ⟨i,hi,h1,h2⟩
     rcases Nat.lt_or_ge i k with h3 | h3
     · exact .inl ⟨i,h3,h1,h2⟩
     · have:i=k:=by omega
       subst this
       right
       rw [if_pos h2]; exact List.mem_singleton.2 h1
theorem zoe (its:List (List Int)) (item:Int) (R:List Int):∀k,(remN its item R k).length≤k
 | 0=>by simp [remN]
 | k+1=>by
   unfold remN
   have:=zoe its item R k
   rw [List.length_append]
   split<;>simp<;>omega
def dC:PCon:=⟨0,[],[],[],0⟩
def wtL (L:List PCon) (l:List Int):Nat:=(l.map fun i=>eqK (L.getD i.toNat dC).kind).sum
def most (item:Int):Nat:=if item<0 then 1 else 2
def canP (L:List PCon) (cs:List Int) (R:List Int) (item:Int):Prop:=
 item∉R∧wtL L (remL (L.map fun c=>itemsC c cs) item R)≤most item∧∀i∈remL (L.map fun c=>itemsC c cs) item R,suitP (L.getD i.toNat dC) cs item
instance (L:List PCon) (cs:List Int) (R:List Int) (item:Int):Decidable (canP L cs R item):=by unfold canP; infer_instance
def allI (n m:Nat):List Int:=(List.range n).map (fun i:Nat=>(i:Int))++(List.range m).map (fun i:Nat=>-1-(i:Int))
theorem za1t {n m:Nat} {x:Int}:x∈allI n m↔(0≤x∧x<n)∨(x<0∧-1-x<m):=by
 unfold allI
 rw [List.mem_append,List.mem_map,List.mem_map]
 constructor
 · rintro (⟨a,ha,rfl⟩ | ⟨a,ha,rfl⟩)
   · rw [List.mem_range] at ha; omega
   · rw [List.mem_range] at ha; omega
 · rintro (⟨h1,h2⟩ | ⟨h1,h2⟩)
   · exact .inl ⟨x.toNat,List.mem_range.2 (by omega),by omega⟩
   · exact .inr ⟨(-1-x).toNat,List.mem_range.2 (by omega),by omega⟩
theorem za17 {n m:Nat}:(allI n m).length=n+m:=by simp [allI]
def peelF (can:List Int→Int→Bool) (pref:List Int):Nat→List Int→List Int
 | 0,R=>R
 | f+1,R=>match pref.find? (can R) with
   | none=>R
   | some i=>peelF can pref f (R++[i])
def peelL (can:List Int→Int→Bool) (pref:List Int):List Int:=peelF can pref pref.length []
def leftL (pref R:List Int):List Int:=pref.filter fun x=>decide (x∉R)
def canB (L:List PCon) (cs:List Int) (R:List Int) (item:Int):Bool:=decide (canP L cs R item)
theorem zvw {pref R:List Int} {i:Int} (hi:i∈pref) (hR:i∉R):(leftL pref (R++[i])).length<(leftL pref R).length:=by
 have e:leftL pref (R++[i])=(leftL pref R).filter fun x=>decide (x≠i):=by
  unfold leftL
  rw [List.filter_filter]
  congr 1
  funext x
  simp only [List.mem_append,List.mem_singleton,not_or]
  by_cases h1:x∈R<;>by_cases h2:x=i<;>simp [h1,h2]
 rw [e]
 refine List.length_filter_lt_length_iff_exists.2 ⟨i,?_,by simp⟩
 unfold leftL
 exact List.mem_filter.2 ⟨hi,by simpa using hR⟩
def lenC (c:PCon):Prop:=c.pts.length=(shK c.kind).1∧c.cir.length=(shK c.kind).2.1∧1≤c.kind∧c.kind≤17∧(fourK c.kind→PairsP c.pts)∧(¬fourK c.kind→c.pts.Nodup)
theorem VC.lenC {c:PCon} {n m:Int} (hv:VC c n m):lenC c:=by
 obtain ⟨h1,h2,h3,h4,h5,h6,h7⟩:=hv
 refine ⟨h2.1,h3.1,h1.1,h1.2,fun h=>?_,fun h=>?_⟩
 · rw [if_pos h] at h7; exact h7
 · rw [if_neg h] at h7; exact h7.1
section
variable {h : Hp} {x : TConstraint} {c : PCon} {cs : List Int} {ce : Sl} {t : Int} {Kb : Bool → Hp → Prop} {Ki : Int → Hp → Prop} {Ks : Sl → Hp → Prop}
def posF (l:List Int) (t:Int):Nat→List Int
 | 0=>[]
 | k+1=>posF l t k++(if l[k]?=some t then [(k:Int)] else [])
theorem zsj (l:List Int) (t:Int):∀k,k≤l.length→(posF l t k).length=cnt (l.take k) t
 | 0,_=>by simp [posF,cnt]
 | k+1,hk=>by
   unfold posF
   rw [List.length_append,zsj l t k (by omega)]
   unfold cnt
   rw [←List.take_append_getElem (show k<l.length by omega),List.filter_append,List.length_append]
   congr 1
   rw [List.getElem?_eq_getElem (by omega)]
   by_cases h:l[k]=t<;>simp [h]
theorem zv0 (l:List Int) (t:Int):∀k,(posF l t k).length≤k
 | 0=>by simp [posF]
 | k+1=>by
   unfold posF
   have:=zv0 l t k
   rw [List.length_append]
   split<;>simp<;>omega
theorem zqn {l:List Int} {t:Int}:∀{k:Nat} (hne:posF l t k≠[]),∃i:Nat,(posF l t k)[0]?=some (i:Int)∧l[i]?=some t∧∀j,j<i→l[j]?≠some t
 | 0,h=>absurd rfl h
 | k+1,h=>by
   unfold posF at h ⊢
   by_cases h0:posF l t k=[]
   · rw [h0,List.nil_append] at h ⊢
     split at h
     · rename_i h3
       rw [if_pos h3]
       refine ⟨k,rfl,h3,fun j hj hh=>?_⟩
       have:(j:Int)∈posF l t k:=by
        have key:∀m,j<m→(j:Int)∈posF l t m:=by
         intro m
         induction m with
         | zero=>intro hm; omega
         | succ m ih=>
           intro hm
           unfold posF
           rcases Nat.lt_or_ge j m with h4 | h4
           · exact List.mem_append_left _ (ih h4)
           · have:j=m:=by omega
             subst this
             rw [if_pos hh]; simp
        exact key k hj
       rw [h0] at this; cases this
     · exact absurd rfl h
   · obtain ⟨i,h1,h2⟩:=zqn h0
     refine ⟨i,?_,h2⟩
     have:0<(posF l t k).length:=List.length_pos_iff.2 h0
     rw [List.getElem?_append_left this]; exact h1
theorem za36 {l:List Int} {t:Int}:cnt l t≠0↔t∈l:=by
 unfold cnt
 rw [←Nat.pos_iff_ne_zero,List.length_pos_iff_exists_mem]
 constructor
 · rintro ⟨a,ha⟩
   have:=List.mem_filter.1 ha
   rw [beq_iff_eq] at this
   rw [←this.2]; exact this.1
 · intro h
   exact ⟨t,List.mem_filter.2 ⟨h,by simp⟩⟩
theorem zu0 (hx:CO h x c) (hs:sC c) (H:∀y h',h.le h'→IL h' y (posF c.pts t c.pts.length)→Ks y h'):callP (F.zhl x t) Ks h:=by
 refine za0 (fun y h'=>IL h' y (posF c.pts t c.pts.length)) (fun K' hk=>?_) fun b h' hl hb=>H b h' hl hb
 unfold F.zhl
 have hp:=hx.2.1
 have hl:=hp.len
 have s1:=hs.1
 refine zci (n:=c.pts.length) (by omega) (fun i y h'=>OI h h' y (posF c.pts t i)) OI.nil ?_
 intro i y h1 hi ho k hk2
 refine za1 (fun h2=>?_) (fun h2=>?_)
 · have hi':i<c.pts.length:=by simp only at h2; omega
   refine za5 (fun s h'=>OI h h' s.1 (posF c.pts t (i+1))) (fun s h' hs=>hk2 _ _ hi' hs) ?_
   refine (hp.le ho.dle).get i rfl hi' ?_
   have hle:=zv0 c.pts t i
   refine zae (fun h3=>?_) (fun h3=>?_)
   · refine ho.app (by omega) fun z h4 ho4=>?_
     show OI _ _ _ _
     unfold posF
     rw [List.getElem?_eq_getElem hi',h3,if_pos rfl]; exact ho4
   · show OI _ _ _ _
     unfold posF
     rw [List.getElem?_eq_getElem hi',if_neg (fun hh=>h3 (Option.some.inj hh)),List.append_nil]; exact ho
 · have:i=c.pts.length:=by simp only at h2; omega
   subst this
   exact hk _ _ ho.dle ho.il
theorem zpl {K:Int→Prop} {i:Nat} (hx:CO h x c) (hc:IL h ce cs) (hok:cirOk c cs) (hi:i<c.cir.length) (H:K (cAt cs c i)):idxP x.circles (i:Int) 1 fun a5=>ldL (.int .i64) a5 (fun x6=>idxP ce x6 1 fun a7=>ldL (.int .i64) a7 K h) h:=by
 refine hx.2.2.1.get i rfl hi ?_
 have hkk:=hok _ (List.getElem_mem hi)
 refine hc.get c.cir[i].toNat (by omega) (by omega) ?_
 unfold cAt at H
 rw [zbm hi,zbm (by omega)] at H
 exact H
theorem zwo (hx:CO h x c) (hc:IL h ce cs) (hs:sC c) (hok:cirOk c cs) (hv:lenC c) (H:∀h',h.le h'→Ki (kindP c cs t) h'):callP (F.zjk x ce t) Ki h:=by
 refine za0 (fun r h'=>r=kindP c cs t) (fun K' hk=>?_) fun b h' hl hb=>by subst hb; exact H h' hl
 unfold F.zjk
 obtain ⟨v1,v2,v3,v4,v5,v6⟩:=hv
 have x1:=hx.1
 have s1:=hs.1
 refine zga fun p1 h1 hl1 c1=>zd5 fun p2 h2 hl2 c2=>zd5 fun p3 h3 hl3 c3=>?_
 have hle:h.le h3:=Hp.le_trans hl1 (Hp.le_trans hl2 hl3)
 have k1:CKC h3 p1 x:=fun i v hv=>Hp.cell_le (Hp.le_trans hl2 hl3) (c1 i v hv)
 refine ⟨_,k1 0 _ rfl,_,k1 1 _ rfl,_,k1 2 _ rfl,_,k1 3 _ rfl,_,k1 4 _ rfl,_,c3,?_⟩
 refine zu0 (x:=x) (hx.le hle) hs fun r6 h4 hl4 hr6=>?_
 have hle4:=Hp.le_trans hle hl4
 have k4:CKC h4 p1 x:=fun i v hv=>Hp.cell_le hl4 (k1 i v hv)
 have hr:=hr6.len
 have hpl:=zsj c.pts t c.pts.length (Nat.le_refl _)
 rw [List.take_length] at hpl
 have hat:(posF c.pts t c.pts.length).length≠0↔t∈c.pts:=by rw [hpl]; exact za36
 have cen:∀i h' (K:Bool→Hp→Prop),i<c.cir.length→h4.le h'→K (decide (cAt cs c i=t)) h'→callP (F.ze4 (i:Int) (some p2) (some p1) (some p3)) K h':=by
  intro i h' K hi hl' hK
  refine zat _ (fun K'' hk''=>?_) hK
  unfold F.ze4
  have hl3':=Hp.le_trans hl4 hl'
  refine ⟨_,Hp.cell_le (Hp.le_trans hl3 hl3') c2,_,Hp.cell_le hl' (k4 2 _ rfl),?_⟩
  refine zpl (x:=x) (ce:=ce) (hx.le (Hp.le_trans hle4 hl')) (hc.le (Hp.le_trans hle4 hl')) hok hi ?_
  refine ⟨_,Hp.cell_le hl3' c3,?_⟩
  have:(cAt cs c i==t)=decide (cAt cs c i=t):=by
   by_cases hh:cAt cs c i=t
   · rw [decide_eq_true hh,hh]; simp
   · rw [decide_eq_false hh,beq_eq_false_iff_ne]; exact hh
  show K'' (cAt cs c i==t) h'
  rw [this]; exact hk''
 refine ⟨_,k4 0 _ rfl,?_⟩
 rw [x1]
 have hk':∀r,r=kindP c cs t→K' r h4:=fun r hr=>hk _ _ hle4 hr
 unfold kindP at hk'
 refine zae (fun e13=>?_) (fun e13=>?_)
 · refine cen 0 h4 _ (by rw [v2,e13]; decide) (Hp.le_refl _) ?_
   rw [if_pos e13] at hk'
   have ha:decide ((r6.len:Int)>0)=decide (t∈c.pts):=decide_eq_decide.2 (by rw [←hat]; omega)
   rw [ha]
   refine za7 (fun h5=>hk' _ ?_) (fun h5=>hk' _ ?_)
   · rw [if_neg]
     intro hh
     by_cases g:t∈c.pts
     · rw [decide_eq_true g,decide_eq_true (hh.1 g)] at h5; cases h5
     · rw [decide_eq_false g,decide_eq_false (fun z=>g (hh.2 z))] at h5; cases h5
   · rw [if_pos]
     by_cases g:t∈c.pts
     · rw [decide_eq_true g] at h5
       exact ⟨fun _=>by simpa using h5,fun _=>g⟩
     · rw [decide_eq_false g] at h5
       exact ⟨fun z=>absurd z g,fun z=>by rw [decide_eq_true z] at h5; cases h5⟩
 rw [if_neg e13] at hk'
 refine zae (fun e16=>?_) (fun e16=>?_)
 · refine cen 0 h4 _ (by rw [v2,e16]; decide) (Hp.le_refl _) ?_
   rw [if_pos e16] at hk'
   refine za1 (fun h5=>zae (fun h6=>hk' _ ?_) (fun h6=>hk' _ ?_)) (fun h5=>hk' _ ?_)
   · rw [if_pos ⟨h5,fun hh=>absurd (hat.2 hh) (by omega)⟩]
   · rw [if_neg (fun hh=>hh.2 (hat.1 (by omega)))]
   · rw [if_neg (fun hh=>h5 hh.1)]
 rw [if_neg e16] at hk'
 refine zae (fun e17=>?_) (fun e17=>?_)
 · refine cen 0 h4 _ (by rw [v2,e17]; decide) (Hp.le_refl _) (cen 1 h4 _ (by rw [v2,e17]; decide) (Hp.le_refl _) ?_)
   rw [if_pos e17] at hk'
   refine za7 (fun h5=>hk' _ ?_) (fun h5=>hk' _ ?_)
   · rw [if_neg]
     intro hh
     have e:decide (cAt cs c 0=t)=decide (cAt cs c 1=t):=decide_eq_decide.2 hh
     rw [e] at h5
     simp at h5
   · rw [if_pos]
     have h6:decide (cAt cs c 0=t)=decide (cAt cs c 1=t):=by simpa using h5
     exact decide_eq_decide.1 h6
 rw [if_neg e17] at hk'
 refine zae (fun e0=>?_) (fun e0=>?_)
 · refine hk' _ ?_
   rw [if_pos (fun hh=>absurd (hat.2 hh) (by omega))]
 have hin:t∈c.pts:=hat.1 (by omega)
 rw [if_neg (fun hh=>hh hin)] at hk'
 have hne:posF c.pts t c.pts.length≠[]:=fun hh=>by rw [hh] at hr; simp at hr; omega
 obtain ⟨i0,hi0,hi1,hi2⟩:=zqn hne
 have hlen0:0<(posF c.pts t c.pts.length).length:=List.length_pos_iff.2 hne
 have hget0:(posF c.pts t c.pts.length)[0]=(i0:Int):=by rw [List.getElem?_eq_getElem hlen0] at hi0; exact Option.some.inj hi0
 refine ⟨_,k4 0 _ rfl,?_⟩
 rw [x1]
 have dk:∀(n:Int),(c.kind==n)=decide (c.kind=n):=fun n=>by
  by_cases hh:c.kind=n
  · rw [decide_eq_true hh,hh]; simp
  · rw [decide_eq_false hh,beq_eq_false_iff_ne]; exact hh
 refine za5 (fun s h'=>h'=h4∧s.1=decide (c.kind=1∨c.kind=9)) ?_ ?_
 · rintro ⟨b,_⟩ h4 ⟨rfl,hb⟩
   simp only at hb
   subst hb
   refine za1 (fun e=>?_) (fun e1=>?_)
   · rw [if_pos e] at hk'; exact hk' _ rfl
   rw [if_neg e1] at hk'
   refine zae (fun e=>?_) (fun e2=>?_)
   · rw [if_pos e] at hk'; exact hk' _ rfl
   rw [if_neg e2] at hk'
   refine za5 (fun s h'=>h'=h4∧s.1=decide (c.kind=3∨c.kind=6∨c.kind=11∨c.kind=12)) ?_ ?_
   · rintro ⟨b,_⟩ h4 ⟨rfl,hb⟩
     simp only at hb
     subst hb
     refine za1 (fun e=>?_) (fun e3=>?_)
     · rw [if_pos e] at hk'; exact hk' _ rfl
     rw [if_neg e3] at hk'
     refine zae (fun e=>?_) (fun e4=>?_)
     · rw [if_pos e] at hk'
       refine hr6.get 0 rfl hlen0 ?_
       rw [hget0]
       refine zae (fun h5=>hk' _ ?_) (fun h5=>hk' _ ?_)
       · have:i0=0:=by omega
         subst this
         rw [if_pos hi1]
       · rw [if_neg (hi2 0 (by omega))]
     rw [if_neg e4] at hk'
     refine zae (fun e=>?_) (fun e5=>?_)
     · rw [if_pos e] at hk'
       refine hr6.get 0 rfl hlen0 ?_
       rw [hget0]
       refine za1 (fun h5=>hk' _ ?_) (fun h5=>hk' _ ?_)
       · have h5:(i0:Int)<2:=h5
         rcases (by omega:i0=0∨i0=1) with rfl | rfl
         · rw [if_pos (.inl hi1)]
         · rw [if_pos (.inr hi1)]
       · have h5:¬(i0:Int)<2:=h5
         rw [if_neg]
         rintro (hh | hh)
         · exact hi2 0 (by omega) hh
         · exact hi2 1 (by omega) hh
     rw [if_neg e5] at hk'
     have hc2:((r6.len:Int)==2)=decide (cnt c.pts t=2):=by
      rw [hr,hpl]
      by_cases hh:cnt c.pts t=2
      · rw [decide_eq_true hh,hh]; rfl
      · rw [decide_eq_false hh,beq_eq_false_iff_ne]; omega
     rw [hc2]
     refine za5 (fun s h'=>h'=h4∧s.1=decide (c.kind=5∨c.kind=7)) ?_ ?_
     · rintro ⟨b,_⟩ h4 ⟨rfl,hb⟩
       simp only at hb
       subst hb
       refine za1 (fun e=>?_) (fun e6=>?_)
       · rw [if_pos e] at hk'
         exact za1 (fun h5=>hk' _ (by rw [if_pos h5])) (fun h5=>hk' _ (by rw [if_neg h5]))
       rw [if_neg e6] at hk'
       refine zae (fun e=>?_) (fun e7=>?_)
       · rw [if_pos e] at hk'
         exact za1 (fun h5=>hk' _ (by rw [if_pos h5])) (fun h5=>hk' _ (by rw [if_neg h5]))
       rw [if_neg e7] at hk'
       exact hk' _ rfl
     · rw [dk 5,dk 7]
       refine za1 (fun e=>⟨rfl,?_⟩) (fun e=>⟨rfl,?_⟩)
       · rw [decide_eq_true e,decide_eq_true (Or.inl e)]
       · exact decide_eq_decide.2 (by omega)
   · rw [dk 3,dk 6,dk 11,dk 12]
     refine za1 (fun e=>⟨rfl,?_⟩) (fun e=>za1 (fun e2=>⟨rfl,?_⟩) (fun e2=>za1 (fun e3=>⟨rfl,?_⟩) (fun e3=>⟨rfl,?_⟩)))
     all_goals exact decide_eq_decide.2 (by omega)
 · rw [dk 1,dk 9]
   refine za1 (fun e=>⟨rfl,?_⟩) (fun e=>⟨rfl,?_⟩)
   all_goals exact decide_eq_decide.2 (by omega)
end
end Den
end

section
namespace Den
open Go Iv Lx
section
variable {h : Hp} {x : TConstraint} {c : PCon} {cs : List Int} {ce : Sl} {t k : Int} {Kb : Bool → Hp → Prop} {Ki : Int → Hp → Prop} {Ks : Sl → Hp → Prop}
theorem za1c (hv:lenC c) (hm:k∈c.cir):c.kind=13∨c.kind=14∨c.kind=15∨c.kind=16∨c.kind=17:=by
 obtain ⟨v1,v2,v3,v4,_⟩:=hv
 have h1:c.cir.length≠0:=fun hh=>by rw [List.eq_nil_of_length_eq_zero hh] at hm; cases hm
 apply Classical.byContradiction
 intro hn
 have:(shK c.kind).2.1=0:=by
  rcases (by omega:c.kind=1∨c.kind=2∨c.kind=3∨c.kind=4∨c.kind=5∨c.kind=6∨c.kind=7∨c.kind=8∨c.kind=9∨c.kind=10∨c.kind=11∨c.kind=12) with e | e | e | e | e | e | e | e | e | e | e | e<;>rw [e]<;>rfl
 omega
theorem zvb (hx:CO h x c) (hc:IL h ce cs) (hs:sC c) (hok:cirOk c cs) (hv:lenC c) (H:∀b h',h.le h'→(b=true↔sizesP c cs k)→Kb b h'):callP (F.zis x ce k) Kb h:=by
 refine za0 (fun b h'=>b=true↔sizesP c cs k) (fun K' hk=>?_) fun b h' hl hb=>H b h' hl hb
 unfold F.zis
 have x1:=hx.1
 have x5:=hx.2.2.2.2
 refine zoy hx.2.2.1 (by have:=hs.2.1; omega) fun r h1 hl1 hr=>?_
 have no:∀h',h.le h'→¬sizesP c cs k→K' false h':=fun h' hl hn=>hk _ _ hl ⟨fun hh=>(by cases hh),fun hh=>absurd hh hn⟩
 refine za1 (fun h2=>no _ hl1 fun hh=>?_) (fun h2=>?_)
 · have:=hr.2 hh.1; omega
 have hm:=hr.1 (by omega)
 have hkd:=za1c hv hm
 have hkk:=hok _ hm
 have dk:∀(n:Int),(c.kind==n)=decide (c.kind=n):=fun n=>by
  by_cases hh:c.kind=n
  · rw [decide_eq_true hh,hh]; simp
  · rw [decide_eq_false hh,beq_eq_false_iff_ne]; exact hh
 rw [x1,x5]
 unfold sizesP at hk no
 refine za5 (fun s h'=>h'=h1∧s.1=decide (c.kind=14∨c.kind=15)) ?_ ?_
 · rintro ⟨b,_⟩ h1 ⟨rfl,hb⟩
   simp only at hb
   subst hb
   refine za1 (fun e=>hk _ _ hl1 ⟨fun _=>⟨hm,?_⟩,fun _=>rfl⟩) (fun e1=>?_)
   · rw [if_neg (by omega),if_neg (by omega)]; trivial
   refine za5 (fun s h'=>h'=h1∧s.1=decide (c.kind=13∨c.kind=16)) ?_ ?_
   · rintro ⟨b,_⟩ h1 ⟨rfl,hb⟩
     simp only at hb
     subst hb
     refine za1 (fun e=>?_) (fun e2=>?_)
     · rw [if_pos e] at hk no
       refine (hc.le hl1).get k.toNat (by omega) (by omega) ?_
       refine zds (hx.2.1.le hl1) (by have:=hs.1; omega) fun h3 hl3=>hk _ _ (Hp.le_trans hl1 hl3) ?_
       rw [zbm (show k.toNat<cs.length by omega)]
       by_cases g:cs[k.toNat]∈c.pts
       · rw [decide_eq_true g]
         exact ⟨fun hh=>(by cases hh),fun hh=>absurd g hh.2⟩
       · rw [decide_eq_false g]
         exact ⟨fun _=>⟨hm,g⟩,fun _=>rfl⟩
     · rw [if_neg e2] at hk no
       refine zae (fun e17=>?_) (fun e17=>by omega)
       rw [if_pos e17] at hk no
       refine zae (fun e5=>?_) (fun e5=>no _ hl1 fun hh=>e5 hh.2.1)
       refine zpl (i:=0) (hx.le hl1) (hc.le hl1) hok (by rw [hv.2.1,e17]; decide) ?_
       refine zpl (i:=1) (hx.le hl1) (hc.le hl1) hok (by rw [hv.2.1,e17]; decide) ?_
       refine hk _ _ hl1 ?_
       rw [bne_iff_ne]
       exact ⟨fun hh=>⟨hm,e5,hh⟩,fun hh=>hh.2.2⟩
   · rw [dk 13,dk 16]
     refine za1 (fun e=>⟨rfl,?_⟩) (fun e=>⟨rfl,?_⟩)
     all_goals exact decide_eq_decide.2 (by omega)
 · rw [dk 14,dk 15]
   refine za1 (fun e=>⟨rfl,?_⟩) (fun e=>⟨rfl,?_⟩)
   all_goals exact decide_eq_decide.2 (by omega)
end
end Den
end

section
namespace Den
open Go Iv Lx
def its (S:PSk):List (List Int):=(allC S).map fun c=>itemsC c (cens S)
theorem zjw {S:PSk}:(its S).length=(allC S).length:=by simp [its]
theorem zz8 (k:Int):eqK k≤2:=by
 unfold eqK shK
 split
 · have:∀i:Nat,(tabK.getD i (0,0,0,0,false)).2.2.2.1≤2:=by
    intro i
    rcases Nat.lt_or_ge i 17 with h | h
    · have:∀i:Fin 17,(tabK.getD i (0,0,0,0,false)).2.2.2.1≤2:=by decide
      exact this ⟨i,h⟩
    · rw [List.getD_eq_getElem?_getD,List.getElem?_eq_none (by exact h)]; decide
   exact this _
 · decide
theorem zt3 {L:List PCon} {l:List Int} {i:Int}:wtL L (l++[i])=wtL L l+eqK (L.getD i.toNat dC).kind:=by simp [wtL]
theorem za11 {L:List PCon}:∀l:List Int,wtL L l≤2*l.length
 | []=>by simp [wtL]
 | a :: r=>by
   have h1:=za11 (L:=L) r
   have h2:=zz8 (L.getD a.toNat dC).kind
   unfold wtL at h1 ⊢
   simp only [List.map_cons,List.sum_cons,List.length_cons]
   omega
theorem za3u {its:List (List Int)} {item:Int} {R:List Int}:(remL its item R).length≤its.length:=zoe _ _ _ _
theorem za3v {its:List (List Int)} {item:Int} {R:List Int} {j:Int} (h:j∈remL its item R):∃k:Nat,k<its.length∧j=k∧keepP (its.getD k []) item R:=zof.1 h
section
variable {h : Hp} {s : TSketch} {S : PSk} {p : Addr} {item : Int} {R : List Int} {rs : Sl} {Kb : Bool → Hp → Prop} {Ki : Int → Hp → Prop} {Ks : Sl → Hp → Prop}
theorem za31 {n m:Nat} {D:Hp} {K:Sl→Hp→Prop} (hn:n≤1000) (hm:m≤1000) (H:∀y h',OI D h' y (allI n m)→K y h') {y:Sl} {h1:Hp} (ho:OI D h1 y ((List.range n).map fun i:Nat=>(i:Int))) :
 (loopP (S:=Sl×Int×Unit) (fun s8 k9 h3=>
 (ifP (decide (s8.2.1<(m:Int)))
 (appP 1 8 [.int .i64 0] s8.1 1 [.int .i64 (IntKind.i64.wrap ((-1)-s8.2.1))] (fun w10 h4=>
 (k9 (w10,(IntKind.i64.wrap (s8.2.1+1)),()) h4)) h3)
 (K s8.1 h3)))
 (y,0,()) h1):=by
  refine zci (n:=m) (by omega) (fun i y h'=>OI D h' y ((List.range n).map (fun i:Nat=>(i:Int))++(List.range i).map fun i:Nat=>-1-(i:Int))) (by simpa using ho) ?_
  intro i z h2 hi ho2 k hk2
  refine za1 (fun h3=>?_) (fun h3=>?_)
  · have hi':i<m:=by simp only at h3; omega
    simp only
    rw [show IntKind.i64.wrap (-1-(i:Int))=-1-(i:Int) from w64 (by omega)]
    refine ho2.app (by simp; omega) fun w h4 ho4=>hk2 _ _ hi' ?_
    rw [List.range_succ,List.map_append,←List.append_assoc]
    exact ho4
  · have:i=m:=by simp only at h3; omega
    subst this
    exact H _ _ ho2
theorem zmz (hp:PR h p S) (hs:sSk S) (H:∀y h',h.le h'→OI h h' y (allI S.pts.length S.cir.length)→Ks y h'):callP (F.y_henneberg_peeler_all (some p)) Ks h:=by
 refine za0 (fun y h'=>OI h h' y (allI S.pts.length S.cir.length)) (fun K' hk=>?_) fun b h' hl hb=>H b h' hl hb
 unfold F.y_henneberg_peeler_all
 obtain ⟨s,lS,itS,ceS,hx,hc,_⟩:=hp
 have l1:=hx.1.len zgc
 have l2:=hx.2.1.len zfk
 have:=hs.1
 have:=hs.2.1
 simp only [ze2,Nat.zero_add]
 refine ⟨_,hc 0 _ rfl,?_⟩
 simp only
 rw [l1]
 refine zci (n:=S.pts.length) (by omega) (fun i y h'=>OI h h' y ((List.range i).map fun i:Nat=>(i:Int))) OI.nil ?_
 intro i y h2 hi ho k hk2
 refine za1 (fun h3=>?_) (fun h3=>?_)
 · have hi':i<S.pts.length:=by simp only at h3; omega
   refine ho.app (by simp; omega) fun w h4 ho4=>hk2 _ _ hi' ?_
   rw [List.range_succ,List.map_append]
   exact ho4
 have:i=S.pts.length:=by simp only at h3; omega
 subst this
 refine ⟨_,Hp.cell_le ho.dle (hc 1 _ rfl),?_⟩
 simp only
 rw [l2]
 exact za31 (n:=S.pts.length) (m:=S.cir.length) (by omega) (by omega) (fun z h2 ho2=>hk _ _ ho2.dle ho2) ho
theorem zpw (hp:PR h p S) (hs:sSk S) (hv:VS S) (hr:IL h rs R) (hR:R.length≤100000) (H:∀y h',h.le h'→OI h h' y (remL (its S) item R)→Ks y h'):callP (F.y_henneberg_peeler_remaining (some p) item rs) Ks h:=by
 refine za0 (fun y h'=>OI h h' y (remL (its S) item R)) (fun K' hk=>?_) fun b h' hl hb=>H b h' hl hb
 unfold F.y_henneberg_peeler_remaining
 obtain ⟨s,lS,itS,ceS,hx,hc,hL,hI,hC⟩:=hp
 have hal:=zli hs
 have hok:=zjr hv hs
 have hIl:=hI.len zi0
 rw [List.length_map] at hIl
 refine zd5 fun p1 h1 hl1 c1=>?_
 refine ⟨_,Hp.cell_le hl1 (hc 7 _ rfl),?_⟩
 refine zci (n:=(allC S).length) (by omega) (fun i y h'=>OI h1 h' y (remN (its S) item R i)) OI.nil ?_
 intro i y h2 hi ho k hk2
 have hle:=Hp.le_trans hl1 ho.dle
 refine za1 (fun h3=>?_) (fun h3=>?_)
 · have hi':i<(allC S).length:=by simp only at h3; omega
   refine za5 (fun s h'=>OI h1 h' s.1 (remN (its S) item R (i+1))) (fun s h' hs=>hk2 _ _ hi' hs) ?_
   refine (hI.le zi0 hle).get zi0 i rfl (by simpa using hi') fun a x hxx hcx=>?_
   have e0:=hcx 0 _ rfl
   rw [zbq] at e0
   refine ⟨_,e0,?_⟩
   rw [List.getElem_map] at hxx
   have hlen:=zoz (cs:=cens S) (hok _ (List.getElem_mem hi')).2
   have hxx:IL h2 x (itemsC (allC S)[i] (cens S)):=hxx
   have hg:(its S).getD i []=itemsC (allC S)[i] (cens S):=by
    rw [zbm (by rw [zjw]; exact hi')]
    simp [its]
   have hstep:remN (its S) item R (i+1)=remN (its S) item R i++(if keepP (itemsC (allC S)[i] (cens S)) item R then [(i:Int)] else []):=by
    conv=>lhs; unfold remN
    rw [hg]
   have hrl:=zoe (its S) item R i
   refine zds hxx (by omega) fun h4 hl4=>?_
   have ho4:=ho.le hl4
   refine za1 (fun h5=>?_) (fun h5=>?_)
   · refine za0 (fun b h'=>b=true↔∃x∈itemsC (allC S)[i] (cens S),x∈R) (fun K2 hk3=>?_) fun b h6 hl6 hb=>?_
     · unfold F.zb6
       refine za0 (fun r h'=>Fnd (fun x=>x∈R) (itemsC (allC S)[i] (cens S)) r) (fun K4 hk4=>?_) fun r h' hl hr=>hk3 _ _ hl (by rw [decide_eq_true_iff]; exact hr.iff)
       unfold F.zbd
       refine zjv (hxx.le hl4) (by omega) (fun x _ h7 hl7 K5 hK5=>?_) fun r h' hl hr=>hk4 _ _ hl hr
       refine za0 (fun b h'=>b=decide (x∈R)) (fun K6 hk6=>?_) fun b h8 hl8 hb=>hK5 _ _ hl8 (by rw [hb,decide_eq_true_iff])
       unfold F.y_henneberg_peeler_remaining_1
       have l7:=Hp.le_trans ho4.dle hl7
       refine ⟨_,Hp.cell_le l7 c1,?_⟩
       exact zds (hr.le (Hp.le_trans hl1 l7)) (by omega) fun h8 hl8=>hk6 _ _ hl8 rfl
     · have ho6:=ho4.le hl6
       refine za7 (fun h7=>?_) (fun h7=>?_)
       · have hkp:keepP (itemsC (allC S)[i] (cens S)) item R:=⟨h5,fun x hx hxR=>by rw [hb.2 ⟨x,hx,hxR⟩] at h7; cases h7⟩
         refine ho6.app (by omega) fun z h8 ho8=>?_
         show OI _ _ _ _
         rw [hstep,if_pos hkp]; exact ho8
       · have hkp:¬keepP (itemsC (allC S)[i] (cens S)) item R:=fun hh=>by
          obtain ⟨x,hx,hxR⟩:=hb.1 (by simpa using h7)
          exact hh.2 x hx hxR
         show OI _ _ _ _
         rw [hstep,if_neg hkp,List.append_nil]; exact ho6
   · show OI _ _ _ _
     rw [hstep,if_neg (fun hh=>h5 hh.1),List.append_nil]; exact ho4
 · have:i=(allC S).length:=by simp only at h3; omega
   subst this
   refine hk _ _ hle ?_
   have ho:=ho.base hl1
   unfold remL
   rw [zjw]; exact ho
theorem zl5 {k:Nat} (hp:PR h p S) (hs:sSk S) (hv:VS S) (ht:GT h) (hk:k<(allC S).length) (H:Ki ((eqK ((allC S).getD k dC).kind:Nat):Int) h):callP (F.y_henneberg_peeler_equations (some p) (k:Int)) Ki h:=by
 refine zat _ (fun K' hkk=>?_) H
 unfold F.y_henneberg_peeler_equations
 obtain ⟨s,lS,itS,ceS,hx,hc,hL,hI,hC⟩:=hp
 refine ⟨_,hc 6 _ rfl,?_⟩
 refine hL.get zau k rfl hk fun a x hxx hcx=>⟨_,hcx 0 _ rfl,?_⟩
 rw [hxx.1]
 have:=(zjr hv hs _ (List.getElem_mem hk)).1.1
 rw [zbm hk] at hkk
 exact zmk ht.2.2 (fun _ _ ln ps=>hkk) (fun hn=>absurd this hn)
theorem znz {l:Sl} {xs:List Int} (hp:PR h p S) (hs:sSk S) (hv:VS S) (ht:GT h) (hl:IL h l xs) (hlen:xs.length≤100000) (hin:∀i∈xs,∃k:Nat,k<(allC S).length∧i=k) (H:∀h',h.le h'→Ki ((wtL (allC S) xs:Nat):Int) h'):callP (F.y_henneberg_peeler_weight (some p) l) Ki h:=by
 refine za0 (fun b h'=>b=((wtL (allC S) xs:Nat):Int)) (fun K' hk=>?_) fun b h' hl hb=>by subst hb; exact H h' hl
 unfold F.y_henneberg_peeler_weight
 have hll:=hl.len
 refine zci (n:=xs.length) (by omega) (fun i a h'=>h.le h'∧a=((wtL (allC S) (xs.take i):Nat):Int)) ⟨Hp.le_refl _,by simp [wtL]⟩ ?_
 rintro i a h2 hi ⟨hl2,ha⟩ k hk2
 refine za1 (fun h3=>?_) (fun h3=>?_)
 · have hi':i<xs.length:=by simp only at h3; omega
   refine (hl.le hl2).get i rfl hi' ?_
   obtain ⟨q,hq1,hq2⟩:=hin _ (List.getElem_mem hi')
   rw [hq2]
   have hw:=za11 (L:=allC S) (xs.take i)
   rw [List.length_take] at hw
   have hw2:=zz8 ((allC S).getD q dC).kind
   refine zl5 (hp.le hl2) hs hv (ht.le hl2) hq1 (hk2 _ _ hi' ⟨hl2,?_⟩)
   rw [←List.take_append_getElem hi',zt3,hq2]
   simp only
   rw [ha,w64 (by omega)]
   rfl
 · have:i=xs.length:=by simp only at h3; omega
   subst this
   rw [List.take_length] at ha
   rw [ha]
   exact hk _ _ hl2 rfl
theorem zw3 {k:Nat} {t:Int} (hp:PR h p S) (hs:sSk S) (hv:VS S) (hk:k<(allC S).length) (H:∀h',h.le h'→Ki (kindP ((allC S).getD k dC) (cens S) t) h'):callP (F.y_henneberg_peeler_kind (some p) (k:Int) t) Ki h:=by
 refine za0 (fun b h'=>b=kindP ((allC S).getD k dC) (cens S) t) (fun K' hkk=>?_) fun b h' hl hb=>by subst hb; exact H h' hl
 unfold F.y_henneberg_peeler_kind
 obtain ⟨s,lS,itS,ceS,hx,hc,hL,hI,hC⟩:=hp
 refine ⟨_,hc 6 _ rfl,?_⟩
 refine hL.get zau k rfl hk fun a x hxx hcx=>⟨_,hcx 0 _ rfl,_,hcx 1 _ rfl,_,hcx 2 _ rfl,_,hcx 3 _ rfl,_,hcx 4 _ rfl,?_⟩
 refine ⟨_,hc 8 _ rfl,?_⟩
 have:=zjr hv hs _ (List.getElem_mem hk)
 rw [zbm hk] at hkk
 exact zwo (x:=x) hxx hC this.2 this.1.cirOk this.1.lenC fun h' hl=>hkk _ _ hl rfl
def smI (item:Int):Prop:=-1000000≤item∧item≤1000000
theorem zpx (hp:PR h p S) (hs:sSk S) (hv:VS S) (ht:GT h) (hr:IL h rs R) (hR:R.length≤100000) (hi:smI item) (H:∀b h',h.le h'→(b=true↔canP (allC S) (cens S) R item)→Kb b h'):callP (F.y_henneberg_peeler_removable (some p) item rs) Kb h:=by
 refine za0 (fun b h'=>b=true↔canP (allC S) (cens S) R item) (fun K' hk=>?_) fun b h' hl hb=>H b h' hl hb
 unfold F.y_henneberg_peeler_removable
 have no:∀h',h.le h'→¬canP (allC S) (cens S) R item→K' false h':=fun h' hl hn=>hk _ _ hl ⟨fun hh=>(by cases hh),fun hh=>absurd hh hn⟩
 have hits:its S=(allC S).map fun c=>itemsC c (cens S):=rfl
 unfold canP at no hk
 rw [←hits] at no hk
 refine zd5 fun p1 h1 hl1 c1=>zd5 fun p2 h2 hl2 c2=>?_
 have hle2:=Hp.le_trans hl1 hl2
 refine ⟨_,c2,?_⟩
 refine zds (hr.le hle2) (by omega) fun h3 hl3=>?_
 have hle3:=Hp.le_trans hle2 hl3
 refine za1 (fun h4=>no _ hle3 fun hh=>hh.1 h4) (fun h4=>?_)
 have d1:∀{h'},h3.le h'→h'.cell p1=some (.pointer (some p)):=fun hl=>Hp.cell_le (Hp.le_trans hl2 (Hp.le_trans hl3 hl)) c1
 have d2:∀{h'},h3.le h'→h'.cell p2=some (.int .i64 item):=fun hl=>Hp.cell_le (Hp.le_trans hl3 hl) c2
 refine ⟨_,d1 (Hp.le_refl _),_,d2 (Hp.le_refl _),?_⟩
 refine zpw (hp.le hle3) hs hv (hr.le hle3) hR fun r7 h5 hl5 ho5=>?_
 have hle5:=Hp.le_trans hle3 hl5
 have hrl:(remL (its S) item R).length≤(its S).length:=za3u
 rw [zjw] at hrl
 have hal:=zli hs
 have hin:∀i∈remL (its S) item R,∃k:Nat,k<(allC S).length∧i=k:=fun i hi=>by
  obtain ⟨k,h1,h2,_⟩:=za3v hi
  rw [zjw] at h1
  exact ⟨k,h1,h2⟩
 refine ⟨_,d2 hl5,?_⟩
 obtain ⟨s,lS,itS,ceS,hpp⟩:=hp
 have hp:PR h p S:=⟨s,lS,itS,ceS,hpp⟩
 obtain ⟨hx,hc,hL,hI,hC⟩:=hpp
 refine za1 (fun h6=>?_) (fun h6=>?_)
 · have h6:item<0:=h6
   refine ⟨_,d1 hl5,?_⟩
   refine znz (hp.le hle5) hs hv (ht.le hle5) ho5.il (by omega) hin fun h7 hl7=>?_
   have hle7:=Hp.le_trans hle5 hl7
   have hm:most item=1:=by unfold most; rw [if_pos h6]
   refine za1 (fun h8=>?_) (fun h8=>no _ hle7 fun hh=>by have:=hh.2.1; omega)
   refine za0 (fun b h'=>b=true↔∃i∈remL (its S) item R,¬suitP ((allC S).getD i.toNat dC) (cens S) item) (fun K2 hk3=>?_) fun b h9 hl9 hb=>hk _ _ (Hp.le_trans hle7 hl9) ?_
   · unfold F.zb7
     refine za0 (fun r h'=>Fnd (fun i=>¬suitP ((allC S).getD i.toNat dC) (cens S) item) (remL (its S) item R) r) (fun K4 hk4=>?_) fun r h' hl hr=>hk3 _ _ hl (by rw [decide_eq_true_iff]; exact hr.iff)
     unfold F.zbe
     refine zjv (ho5.il.le hl7) (by omega) (fun i hi2 h9 hl9 K5 hK5=>?_) fun r h' hl hr=>hk4 _ _ hl hr
     refine za0 (fun b h'=>b=true↔¬suitP ((allC S).getD i.toNat dC) (cens S) item) (fun K6 hk6=>?_) fun b h8 hl8 hb=>hK5 _ _ hl8 hb
     unfold F.y_henneberg_peeler_removable_1
     obtain ⟨k,hk1,rfl⟩:=hin i hi2
     have hle9:=Hp.le_trans hle7 hl9
     have l39:=Hp.le_trans hl5 (Hp.le_trans hl7 hl9)
     refine ⟨_,d1 l39,_,Hp.cell_le hle9 (hc 6 _ rfl),?_⟩
     refine (hL.le zau hle9).get zau k rfl hk1 fun a x hxx hcx=>⟨_,hcx 0 _ rfl,_,hcx 1 _ rfl,_,hcx 2 _ rfl,_,hcx 3 _ rfl,_,hcx 4 _ rfl,?_⟩
     refine ⟨_,d1 l39,_,Hp.cell_le hle9 (hc 8 _ rfl),_,d2 l39,?_⟩
     have hok:=zjr hv hs _ (List.getElem_mem hk1)
     have e1:IntKind.i64.wrap (-1-item)=-1-item:=by unfold smI at hi; exact w64 (by omega)
     simp only
     rw [e1]
     refine zvb (x:=x) hxx (hC.le hle9) hok.2 hok.1.cirOk hok.1.lenC fun b h' hl hb=>hk6 _ _ hl ?_
     rw [show ((k:Nat):Int).toNat=k from rfl,zbm hk1]
     unfold suitP
     rw [if_pos h6,←hb]
     cases b<;>simp
   · rw [Bool.not_eq_true',←Bool.not_eq_true,hb]
     constructor
     · intro hh
       exact ⟨h4,by omega,fun i hi=>Classical.byContradiction fun hn=>hh ⟨i,hi,hn⟩⟩
     · rintro ⟨_,_,h10⟩ ⟨i,hi,hn⟩
       exact hn (h10 i hi)
 · have h6:¬item<0:=h6
   refine ⟨_,d1 hl5,?_⟩
   refine znz (hp.le hle5) hs hv (ht.le hle5) ho5.il (by omega) hin fun h7 hl7=>?_
   have hle7:=Hp.le_trans hle5 hl7
   have hm:most item=2:=by unfold most; rw [if_neg h6]
   refine za1 (fun h8=>no _ hle7 fun hh=>by have:=hh.2.1; omega) (fun h8=>?_)
   have hr7:=ho5.il.le hl7
   have hr7l:=hr7.len
   refine zdy (n:=(remL (its S) item R).length) (by omega) (fun i h'=>h7.le h'∧∀j (hj:j<(remL (its S) item R).length),j<i→suitP ((allC S).getD (remL (its S) item R)[j].toNat dC) (cens S) item) ⟨Hp.le_refl _,fun j _ hj=>by omega⟩ ?_
   rintro i h9 hi9 ⟨hl9,hno⟩ kk hk2
   have hle9:=Hp.le_trans hle7 hl9
   have l39:=Hp.le_trans hl5 (Hp.le_trans hl7 hl9)
   refine za1 (fun h10=>?_) (fun h10=>?_)
   · have hi':i<(remL (its S) item R).length:=by simp only at h10; omega
     refine (hr7.le hl9).get i rfl hi' ?_
     obtain ⟨k,hk1,hk2e⟩:=hin _ (List.getElem_mem hi')
     rw [hk2e]
     refine ⟨_,d1 l39,_,d2 l39,?_⟩
     refine zw3 (hp.le hle9) hs hv hk1 fun h11 hl11=>?_
     have hle11:=Hp.le_trans hle9 hl11
     have l311:=Hp.le_trans l39 hl11
     obtain ⟨kd,hkd⟩:∃kd,kd=kindP ((allC S).getD k dC) (cens S) item:=⟨_,rfl⟩
     have hsuit:suitP ((allC S).getD (remL (its S) item R)[i].toNat dC) (cens S) item↔(if eqK ((allC S).getD k dC).kind=2 then kd=3 else kd=1∨kd=2):=by
      rw [hk2e,hkd]
      unfold suitP
      rw [if_neg h6]
      rfl
     rw [←hkd]
     refine za5 (fun s h'=>h'=h11∧s.1=decide (kd=1∨kd=2)) ?_ ?_
     · rintro ⟨b,_⟩ h11 ⟨rfl,hb⟩
       simp only at hb
       subst hb
       refine za5 (fun s h'=>h'=h11∧(s.1=true↔suitP ((allC S).getD (remL (its S) item R)[i].toNat dC) (cens S) item)) ?_ ?_
       · rintro ⟨b,_⟩ h11 ⟨rfl,hb⟩
         simp only at hb
         refine za7 (fun h12=>no _ hle11 fun hh=>?_) (fun h12=>hk2 _ hi' ⟨Hp.le_trans hl9 hl11,?_⟩)
         · rw [hb.2 (hh.2.2 _ (List.getElem_mem hi'))] at h12; cases h12
         · exact upto (P:=fun i:Int=>suitP ((allC S).getD i.toNat dC) (cens S) item) hno hi' (hb.1 (by simpa using h12))
       · refine ⟨_,d1 l311,?_⟩
         refine zl5 (hp.le hle11) hs hv (ht.le hle11) hk1 ?_
         refine zae (fun h12=>⟨rfl,?_⟩) (fun h12=>⟨rfl,?_⟩)
         · rw [hsuit,if_pos (by omega)]
           simp
         · rw [hsuit,if_neg (by omega)]
           simp
     · refine zae (fun h12=>⟨rfl,?_⟩) (fun h12=>⟨rfl,?_⟩)
       · rw [h12]; rfl
       · by_cases h13:kd=2
         · rw [h13]; rfl
         · rw [decide_eq_false (by omega)]; simpa using h13
   · refine hk _ _ hle9 ⟨fun _=>⟨h4,by omega,?_⟩,fun _=>rfl⟩
     exact upall (P:=fun i:Int=>suitP ((allC S).getD i.toNat dC) (cens S) item) hno (by simp only at h10; omega)
end
end Den
end

section
namespace Den
open Go Iv Lx
section
variable {h : Hp} {s : TSketch} {S : PSk} {x : TConstraint} {c : PCon} {cs : List Int} {ce : Sl} {item : Int} {R : List Int} {rs : Sl} {Kb : Bool → Hp → Prop} {Ki : Int → Hp → Prop} {Ks : Sl → Hp → Prop}
end
theorem zhc {can:List Int→Int→Bool} {pref:List Int} (hc:∀R i,can R i=true→i∉R):∀{f:Nat} {R:List Int},(leftL pref R).length≤f→pref.find? (can R)=none→peelF can pref f R=R
 | 0,R,_,_=>rfl
 | f+1,R,_,h=>by unfold peelF; rw [h]
theorem zj7 {can:List Int→Int→Bool} {pref:List Int} (hc:∀R i,can R i=true→i∉R) {f:Nat} {R:List Int} {i:Int} (hf:(leftL pref R).length≤f) (h:pref.find? (can R)=some i) :
 ∃g,f=g+1∧peelF can pref f R=peelF can pref g (R++[i])∧(leftL pref (R++[i])).length≤g:=by
 have h1:=List.find?_some h
 have h2:=List.mem_of_find?_eq_some h
 have h3:=zvw h2 (hc _ _ h1)
 obtain ⟨g,rfl⟩:∃g,f=g+1:=⟨f-1,by omega⟩
 refine ⟨g,rfl,?_,by omega⟩
 conv=>lhs; unfold peelF
 rw [h]
theorem zrd {L:List PCon} {cs:List Int}:∀R i,canB L cs R i=true→i∉R:=fun R i h=>(of_decide_eq_true h).1
def peelS (S:PSk) (pref:List Int):List Int:=peelL (canB (allC S) (cens S)) pref
theorem zzc {can:Int→Bool} {l:List Int} {i:Nat} (hi:i<l.length) (hno:∀j (hj:j<l.length),j<i→can l[j]=false) (h:can l[i]=true):l.find? can=some l[i]:=by
 rw [List.find?_eq_some_iff_append]
 refine ⟨h,l.take i,l.drop (i+1),?_,fun a ha=>?_⟩
 · rw [List.getElem_cons_drop,List.take_append_drop]
 · obtain ⟨j,hj,rfl⟩:=List.mem_take_iff_getElem.1 ha
   rw [hno j (by omega) (by omega)]; rfl
section
variable {h : Hp} {s : TSketch} {S : PSk} {l : Sl} {pref : List Int} {K : (Sl × Sl) → Hp → Prop}
end
end Den
end

section
namespace Den
open Go Iv Lx
theorem Own.clr {h0 h:Hp} {x:Sl} {cs:List Value} {n:Nat} {K:Hp→Prop} (ho:Own h0 h 1 x cs) (hn:n≤cs.length) (H:∀h',Own h0 h' 1 (x.cut 0 n 1) (cs.take n)→K h'):clrP (x.cut n x.len 1) [.int .i64 0] K h:=by
 have hlen:=ho.2.1
 have hcap:=ho.2.2.1
 refine ⟨fun h1=>H h (ho.pre (by omega)),fun h1=>?_⟩
 have hl:(x.cut n x.len 1).len=x.len-n:=rfl
 have hlt:n<x.len:=by omega
 have ho':=ho
 obtain ⟨g1,g2,g3,g4⟩:=ho
 cases ha:x.a with
 | none=>rw [ha] at g4; simp only at g4; omega
 | some a=>
   rw [ha] at g4
   obtain ⟨k1,k2,k3,b,k4,k5,k6,k7⟩:=g4
   have hca:(x.cut n x.len 1).a=Option.some (a.add (n*1)):=by
    show (if x.cap=n then x.a else x.a.map (·.add (n*1)))=_
    rw [if_neg (by omega),ha]; rfl
   rw [hca]
   simp only [stO]
   rw [zbq]
   have hrl:(repl (x.cut n x.len 1).len [Value.int .i64 0]).length=x.len-n:=by rw [zm3,hl]; simp
   refine ⟨b,by rw [zb9]; exact k4,zdr k2 _,k5,?_,?_,?_⟩
   · rw [zcm,hrl]; omega
   · unfold repl
     rw [List.all_flatten,List.all_eq_true]
     intro l hl
     rw [(List.mem_replicate.1 hl).2]; rfl
   · rw [zb9,zcm,k1,Nat.zero_add,Nat.mul_one]
     refine H _ ⟨?_,?_,?_,?_⟩
     · intro kk bk hkk
       rw [Hp.ins_ne (fun hh=>by subst hh; rw [k3] at hkk; cases hkk)]
       exact g1 kk bk hkk
     · show (n-0)*1=_
       rw [List.length_take]; omega
     · show n-0≤x.cap-0; omega
     · rw [cut_a,ha]
       refine ⟨k1,k2,k3,_,Hp.ins_same _ _ _,k5,?_,?_⟩
       · show (splice b.cells n _).length=(x.cap-0)*1
         rw [zdh (by omega)]
         exact k6
       · have e:(cs.take n).length=n:=by rw [List.length_take]; omega
         rw [e]
         show (splice b.cells n _).take n=_
         unfold splice
         rw [List.append_assoc,List.take_append_of_le_length (by rw [List.length_take]; omega),List.take_take,Nat.min_self]
         have:=congrArg (List.take n) k7
         rw [List.take_take,Nat.min_eq_left (by omega)] at this
         exact this
def kept (xs R:List Int) (j:Nat):List Int:=(xs.take j).filter fun x=>decide (x∉R)
theorem zmv {xs R:List Int} {j:Nat} (hj:j<xs.length):kept xs R (j+1)=kept xs R j++(if xs[j]∈R then [] else [xs[j]]):=by
 unfold kept
 rw [←List.take_append_getElem hj,List.filter_append]
 congr 1
 by_cases hm:xs[j]∈R<;>simp [List.filter,hm]
section
variable {h D : Hp} {S : PSk} {p p1 p2 : Addr} {rs l : Sl} {xs R : List Int} {Kb : Bool → Hp → Prop} {Ki : Int → Hp → Prop} {Ks : Sl → Hp → Prop} {K : (Sl × Sl) → Hp → Prop}
theorem zwz {G:Int→(Bool→Hp→Prop)→Hp→Prop} {r:Int} (ho:OI D h l xs) (hlen:xs.length≤1000)
 (hG:∀x h',D.le h'→∀K:Bool→Hp→Prop,(∀h'',h'.le h''→K (decide (x∈R)) h'')→callP (G x) K h') (hr:Fnd (fun x=>x∈R) xs r) (H:∀y h',OI D h' y (xs.filter fun x=>decide (x∉R))→Ks y h') :
 (ifP (r==(-1))
 (Ks l h)
 (loopP (S:=Int×Int×Unit) (fun s2 k3 h2=>
 (ifP (decide (s2.2.1<(l.len:Int)))
 (joinP (S:=Int×Unit) (fun s4 h3=>
 (k3 (s4.1,(IntKind.i64.wrap (s2.2.1+1)),()) h3))
 (fun k5=>
 (idxP l s2.2.1 1 fun a6=>
 (ldL (.int .i64) a6 (fun x7=>
 (callP (G x7) (fun r8 h4=>
 (ifP (!r8)
 (idxP l s2.1 1 fun a9=>
 (stP a9 [.int .i64 x7] (fun h5=>
 (k5 ((IntKind.i64.wrap (s2.1+1)),()) h5)) h4))
 (k5 (s2.1,()) h4))) h2)) h2))))
 (slP l s2.1 (l.len:Int) 1 fun c10=>
 (clrP c10 [.int .i64 0] (fun h6=>
 (slP l 0 s2.1 1 fun c11=>
 (Ks c11 h6))) h2))))
 (r,(IntKind.i64.wrap (r+1)),()) h)):=by
  have hll:=ho.il.len
  have hcap:=ho.2.2.1
  rcases hr with ⟨rfl,hno⟩ | ⟨k,hk,rfl,hk1,hk2⟩
  · refine zc8 rfl (H _ _ ?_)
    have:xs.filter (fun x=>decide (x∉R))=xs:=by
     rw [List.filter_eq_self]
     exact fun a ha=>decide_eq_true (hno a ha)
    rw [this]; exact ho
  · refine zba (by rw [beq_eq_false_iff_ne]; omega) ?_
    have hkk:kept xs R k=xs.take k:=by
     unfold kept
     rw [List.filter_eq_self]
     intro a ha
     obtain ⟨j,hj,rfl⟩:=List.mem_take_iff_getElem.1 ha
     exact decide_eq_true (hk2 j (by omega) (by omega))
    have hks:kept xs R (k+1)=xs.take k:=by
     rw [zmv hk,if_pos hk1,List.append_nil,hkk]
    refine zbb (fun st h'=>∃(j m:Nat) (ys:List Int),st=((m:Int),(j:Int),())∧k<j∧j≤xs.length∧OI D h' l ys∧ys.length=xs.length∧m=(kept xs R j).length∧m≤j∧ys.take m=kept xs R j∧ys.drop j=xs.drop j)
     (fun st=>(xs.length-st.2.1).toNat) ⟨k+1,k,xs,by rw [w64 (by omega)]; rfl,by omega,by omega,ho,rfl,by rw [hks]; simp; omega,by omega,by rw [hks],rfl⟩ ?_
    rintro _ h2 ⟨j,m,ys,rfl,hkj,hj,ho2,hyl,hm,hmj,htk,hdr⟩
    refine za1 (fun h3=>?_) (fun h3=>?_)
    · have hj':j<xs.length:=by simp only at h3; omega
      have hyj:ys[j]'(by omega)=xs[j]:=by
       have:=congrArg (fun l:List Int=>l[0]?) hdr
       simp only [List.getElem?_drop,Nat.add_zero] at this
       rw [List.getElem?_eq_getElem (by omega),List.getElem?_eq_getElem hj'] at this
       exact Option.some.inj this
      refine za5 (fun st h'=>∃(m':Nat) (ys':List Int),st.1=(m':Int)∧OI D h' l ys'∧ys'.length=xs.length∧m'=(kept xs R (j+1)).length∧m'≤j+1∧ys'.take m'=kept xs R (j+1)∧ys'.drop (j+1)=xs.drop (j+1)) ?_ ?_
      · rintro ⟨_,_⟩ h4 ⟨m',ys',rfl,g1,g2,g3,g4,g5,g6⟩
        exact ⟨⟨j+1,m',ys',by simp only; rw [w64 (by omega)]; rfl,by omega,by omega,g1,g2,g3,g4,g5,g6⟩,by simp only; rw [w64 (by omega)]; omega⟩
      · refine ho2.il.get j rfl (by omega) ?_
        have hdr1:ys.drop (j+1)=xs.drop (j+1):=by
         have:=congrArg (List.drop 1) hdr
         rw [List.drop_drop,List.drop_drop] at this
         exact this
        refine hG _ _ ho2.dle _ fun h4 hl4=>?_
        have ho4:=ho2.le hl4
        rw [hyj]
        refine za7 (fun h5=>?_) (fun h5=>?_)
        · have hx:xs[j]∉R:=by simpa using h5
          have hs:=zmv (xs:=xs) (R:=R) hj'
          rw [if_neg hx] at hs
          refine zsu m ho4 rfl (by omega) rfl (by decide) rfl fun h6 ho6=>⟨m+1,ys.set m xs[j],by simp only; rw [w64 (by omega)]; rfl,?_,by simpa using hyl,by rw [hs]; simp; omega,by omega,?_,?_⟩
          · rw [Nat.mul_one] at ho6
            have e:splice (ys.map ic) m [Value.int .i64 xs[j]]=(ys.set m xs[j]).map ic:=by
             rw [zhv,List.map_set,List.set_eq_take_append_cons_drop,if_pos (by simp; omega)]
             rfl
            unfold OI
            rw [←e]; exact ho6
          · rw [hs,←htk,List.take_add_one,List.take_set_of_le (Nat.le_refl _),List.getElem?_set_self (by omega)]
            rfl
          · rw [List.drop_set_of_lt (by omega)]; exact hdr1
        · have hx:xs[j]∈R:=by simpa using h5
          have hs:=zmv (xs:=xs) (R:=R) hj'
          rw [if_pos hx,List.append_nil] at hs
          exact ⟨m,ys,rfl,ho4,hyl,by rw [hs]; exact hm,by omega,by rw [hs]; exact htk,hdr1⟩
    · have:j=xs.length:=by simp only at h3; omega
      subst this
      have hl2:=ho2.il.len
      refine ⟨by omega,by simp only; omega,by omega,?_⟩
      have e1:((l.len:Nat):Int).toNat=l.len:=rfl
      have e2:((m:Nat):Int).toNat=m:=rfl
      simp only
      rw [e1,e2]
      refine Own.clr ho2 (n:=m) (by simp; omega) fun h6 ho6=>⟨by decide,by omega,by omega,?_⟩
      have e3:(0:Int).toNat=0:=rfl
      rw [e3,e2]
      refine H _ _ ?_
      unfold OI
      have:xs.filter (fun x=>decide (x∉R))=ys.take m:=by
       rw [htk]
       unfold kept
       rw [List.take_length]
      rw [this,List.map_take]
      exact ho6
theorem zp8 {x:Int} (hc:h.cell p2=some (Lf.sl.up rs)) (hr:IL h rs R) (hlen:R.length≤1000) (H:∀h',h.le h'→Kb (decide (x∈R)) h'):callP (F.y_henneberg_peeler_peel_2 x (some p2)) Kb h:=by
 refine za0 (fun b h'=>b=decide (x∈R)) (fun K' hk=>?_) fun b h' hl hb=>by subst hb; exact H h' hl
 unfold F.y_henneberg_peeler_peel_2
 exact ⟨_,hc,zds hr (by omega) fun h' hl=>hk _ _ hl rfl⟩
theorem ztq (ho:OI D h l xs) (hxl:xs.length≤1000) (hc:D.cell p2=some (Lf.sl.up rs)) (hr:IL D rs R) (hlen:R.length≤1000) (H:∀y h',OI D h' y (xs.filter fun x=>decide (x∉R))→Ks y h'):callM (F.zb3 l (some p2,())) Ks h:=by
 refine zg2 ?_
 unfold F.zb3
 refine za0 (fun r h'=>Fnd (fun x=>x∈R) xs r) (fun K2 hk=>?_) fun r h1 hl1 hr1=>?_
 · unfold F.zbp
   refine zjv ho.il (by omega) (fun x _ h5 hl5 K5 hK5=>?_) fun r h' hl hr=>hk _ _ hl hr
   have hD5:=Hp.le_trans ho.dle hl5
   exact zp8 (Hp.cell_le hD5 hc) (hr.le hD5) hlen fun h6 hl6=>hK5 _ _ hl6 (by rw [decide_eq_true_iff])
 · exact zwz (G:=fun x=>F.y_henneberg_peeler_peel_2 x (some p2,()).1) (ho.le hl1) hxl (fun x h' hl' K' hK'=>zp8 (Hp.cell_le hl' hc) (hr.le hl') hlen hK') hr1 H
end
end Den
end

section
namespace Den
open Go Iv Lx
theorem za02 {can:List Int→Int→Bool} {pref:List Int} (hcn:∀R i,can R i=true→i∉R):∀(f1 f2:Nat) (Q:List Int),(leftL pref Q).length≤f1→(leftL pref Q).length≤f2→peelF can pref f1 Q=peelF can pref f2 Q:=by
 intro f1
 induction f1 with
 | zero=>
   intro f2 Q h1 h2
   cases hq:pref.find? (can Q) with
   | none=>rw [zhc hcn h1 hq,zhc hcn h2 hq]
   | some z=>
     obtain ⟨g,hg,_⟩:=zj7 hcn h1 hq
     omega
 | succ f1 ih=>
   intro f2 Q h1 h2
   cases hq:pref.find? (can Q) with
   | none=>rw [zhc hcn h1 hq,zhc hcn h2 hq]
   | some z=>
     obtain ⟨g,hg,e1,e2⟩:=zj7 hcn h1 hq
     obtain ⟨g',hg',e1',e2'⟩:=zj7 hcn h2 hq
     rw [e1,e1']
     have:g=f1:=by omega
     subst this
     exact ih g' _ e2 e2'
def allS (S:PSk):List Int:=allI S.pts.length S.cir.length
theorem zr7 {S:PSk} (hs:sSk S):(allS S).length≤20:=by
 unfold allS
 rw [za17]
 have:=hs.1
 have:=hs.2.1
 omega
theorem za30 {S:PSk} (hs:sSk S) {x:Int} (hx:x∈allS S):smI x:=by
 have:=za1t.1 hx
 have:=hs.1
 have:=hs.2.1
 unfold smI; omega
section
variable {h D : Hp} {s : TSketch} {S : PSk} {p p1 p2 : Addr} {rs l : Sl} {xs R : List Int} {Kb : Bool → Hp → Prop} {Ki : Int → Hp → Prop} {Ks : Sl → Hp → Prop} {K : (Sl × Sl) → Hp → Prop}
theorem zw5 (hp:PR h p S) (hs:sSk S) (hv:VS S) (ht:GT h) (c1:h.cell p1=some (.pointer (some p))) (c2:h.cell p2=some (Lf.sl.up rs)) (hr:IL h rs R) (hR:R.length≤100000) (hl:IL h l xs) (hxl:xs.length≤1000) (hsm:∀x∈xs,smI x)
 (H:∀r h',h.le h'→Fnd (fun x=>canB (allC S) (cens S) R x=true) xs r→Ki r h'):callP (F.zb4 l (some p1,some p2,())) Ki h:=by
 refine za0 (fun r h'=>Fnd (fun x=>canB (allC S) (cens S) R x=true) xs r) (fun K' hk=>?_) fun b h' hl hb=>H b h' hl hb
 unfold F.zb4
 refine zjv hl (by omega) (fun x hx h5 hl5 K5 hK5=>?_) fun r h' hl hr=>hk _ _ hl hr
 refine za0 (fun b h'=>b=true↔canB (allC S) (cens S) R x=true) (fun K6 hk6=>?_) fun b h8 hl8 hb=>hK5 _ _ hl8 hb
 unfold F.y_henneberg_peeler_peel_1
 refine ⟨_,Hp.cell_le hl5 c1,_,Hp.cell_le hl5 c2,?_⟩
 exact zpx (hp.le hl5) hs hv (ht.le hl5) (hr.le hl5) hR (hsm x hx) fun b h' hl hb=>hk6 _ _ hl (by rw [hb]; unfold canB; rw [decide_eq_true_iff])
theorem za1p {can:Int→Bool} {xs:List Int} {r:Int} (hf:Fnd (fun x=>can x=true) xs r):(r=-1∧xs.find? can=none)∨∃k,∃hk:k<xs.length,r=(k:Int)∧xs.find? can=some xs[k]:=by
 rcases hf with ⟨h1,h2⟩ | ⟨k,hk,h1,h2,h3⟩
 · exact .inl ⟨h1,by rw [List.find?_eq_none]; exact fun x hx=>by simpa using h2 x hx⟩
 · exact .inr ⟨k,hk,h1,zzc hk (fun j hj hjk=>by simpa using h3 j hj hjk) h2⟩
theorem za01 (hp:PR h p S) (hs:sSk S) (hv:VS S) (ht:GT h) (H:∀a b h',h.le h'→IL h' a (peelS S (allS S))→IL h' b (leftL (allS S) (peelS S (allS S)))→K (a,b) h'):callP (F.y_henneberg_peeler_peel (some p)) K h:=by
 refine za0 (fun r h'=>IL h' r.1 (peelS S (allS S))∧IL h' r.2 (leftL (allS S) (peelS S (allS S)))) (fun K' hk=>?_) fun r h' hl hr=>H r.1 r.2 h' hl hr.1 hr.2
 unfold F.y_henneberg_peeler_peel
 obtain ⟨can,hcan⟩:∃can,can=canB (allC S) (cens S):=⟨_,rfl⟩
 have hcn:∀R i,can R i=true→i∉R:=by rw [hcan]; exact zrd
 have hal:=zr7 hs
 refine zd5 fun p1 h1 hl1 c1=>?_
 intro b e hbf
 have hp1:=hp.le hl1
 have ht1:=ht.le hl1
 refine zn7 (fun f st h'=>∃(R:List Int) (y:Sl) (D:Hp),st=(some ⟨b,0,none⟩,())∧h1.le D∧D b=none∧MB h' b [Lf.sl.up y]∧OI D h' y R∧(∀a,y.a=some a→a.block≠b)∧R.length+(leftL (allS S) R).length≤(allS S).length∧(leftL (allS S) R).length≤f ∧
  peelF can (allS S) (leftL (allS S) R).length R=peelS S (allS S)) (n0:=(allS S).length)
  ⟨[],nilS,h1,rfl,Hp.le_refl _,hbf,⟨e,Hp.ins_same _ _ _⟩,Own.nil (Hp.le_ins hbf),fun a ha=>(by cases ha),?_⟩ ?_
 · have e:leftL (allS S) []=allS S:=by unfold leftL; rw [List.filter_eq_self]; simp
   rw [e]
   exact ⟨by simp,Nat.le_refl _,by rw [hcan]; rfl⟩
 rintro f _ h2 ⟨R,y,D,rfl,hD,hDb,hm,ho,hyb,hRl,hf,hpf⟩ K2 hK2
 have hD2:=ho.dle
 have hle2:h1.le h2:=Hp.le_trans hD hD2
 refine ⟨_,Hp.cell_le hle2 c1,?_⟩
 refine zmz (hp1.le hle2) hs fun r6 h3 hl3 ho6=>?_
 have hle3:=Hp.le_trans hle2 hl3
 have hm3:=hm.le hl3
 have ho3:=ho.le hl3
 have c2:∀{h':Hp},MB h' b [Lf.sl.up y]→h'.cell ⟨b,0,none⟩=some (Lf.sl.up y):=fun hm=>by
  have:=hm.ld 0 rfl
  rwa [zbq] at this
 refine zw5 (hp1.le hle3) hs hv (ht1.le hle3) (Hp.cell_le hle3 c1) (c2 hm3) ho3.il (by omega) (xs:=allS S) ho6.il (by omega) (fun x hx=>za30 hs hx) fun r7 h4 hl4 hr7=>?_
 have hle4:=Hp.le_trans hle3 hl4
 have hm4:=hm3.le hl4
 have ho4:=ho3.le hl4
 rw [←hcan] at hr7
 rcases za1p hr7 with ⟨hr,hnone⟩ | ⟨k,hk0,hr,hsome⟩
 · refine zc8 (decide_eq_true (by omega)) ?_
   have hRp:R=peelS S (allS S):=by rw [←hpf,zhc hcn (Nat.le_refl _) hnone]
   refine ⟨_,Hp.cell_le hle4 c1,?_⟩
   refine zmz (hp1.le hle4) hs fun r9 h5 hl5 ho9=>?_
   have hm5:=hm4.le hl5
   have ho5:=ho4.le hl5
   refine ztq (D:=h4) (xs:=allS S) (R:=R) (rs:=y) ho9 (by omega) (c2 hm4) ho4.il (by omega) fun z h6 ho6z=>?_
   have l46:h4.le h6:=ho6z.dle
   have hm6:=hm4.le l46
   refine ⟨_,c2 hm6,?_⟩
   refine hk _ _ (Hp.le_trans hl1 (Hp.le_trans hle4 l46)) ⟨?_,?_⟩
   · rw [←hRp]
     exact (ho4.le l46).il
   · have:leftL (allS S) (peelS S (allS S))=(allS S).filter fun x=>decide (x∉R):=by rw [←hRp]; rfl
     rw [this]
     exact ho6z.il
 · refine zba (decide_eq_false (by omega)) ?_
   refine ⟨_,c2 hm4,_,Hp.cell_le hle4 c1,?_⟩
   refine zmz (hp1.le hle4) hs fun r16 h5 hl5 ho16=>?_
   have hm5:=hm4.le hl5
   have ho5:=ho4.le hl5
   rw [hr]
   refine ho16.il.get (xs:=allS S) k rfl hk0 ?_
   have hyl:=ho5.il.len
   have hbb:h5 b≠none:=by obtain ⟨e,hm⟩:=hm5; rw [hm]; simp
   refine zlj ho5 (n:=1) (new:=[ic (allS S)[k]]) rfl rfl rfl (by omega) (by omega) fun w h6 hw _ hs6 hb6=>?_
   have hm6:MB h6 b [Lf.sl.up y]:=by
    obtain ⟨e,hm⟩:=hm5
    exact ⟨e,by rw [hs6 b hbb fun a ha=>(hyb a ha).symm]; exact hm⟩
   have hwb:∀a,w.a=some a→a.block≠b:=fun a ha hh=>by
    rcases hb6 a ha with ⟨a',h8,h9⟩ | h8
    · exact hyb a' h8 (by rw [h9]; exact hh)
    · rw [hh] at h8; exact hbb h8
   obtain ⟨g,hg1,hg2,hg3⟩:=zj7 hcn (Nat.le_refl _) hsome
   have hlt:(leftL (allS S) (R++[(allS S)[k]])).length<(leftL (allS S) R).length:=by omega
   have key:=hm6.st (j:=0) (v:=Lf.sl.up w) (K:=fun h=>K2 (some ⟨b,0,none⟩,()) h) (by simp) rfl fun h8 hm8 hs8=>hK2 (leftL (allS S) (R++[(allS S)[k]])).length _ _ (by omega) ⟨R++[(allS S)[k]],w,D,rfl,hD,hDb,hm8,?_,hwb,by simp; omega,Nat.le_refl _,?_⟩
   · rw [zbq] at key
     exact key
   · obtain ⟨e8,hm8'⟩:=hm8
     rw [zrz hm8' hs8]
     have:OI D h6 w (R++[(allS S)[k]]):=by
      unfold OI
      rw [List.map_append]
      exact hw
     exact zob this hDb hwb
   · rw [←hpf,hg2]
     exact za02 hcn _ _ _ (Nat.le_refl _) hg3
theorem zq5 (hx:SK h s S) (hs:sSk S) (ht:GT h) (H0:∀h',h.le h'→¬VS S→K (nilS,nilS) h') (H:∀a b h',h.le h'→VS S→IL h' a (peelS S (allS S))→IL h' b (leftL (allS S) (peelS S (allS S)))→K (a,b) h'):callP (F.zep s) K h:=by
 refine za0 (fun r h'=>(¬VS S∧r=(nilS,nilS))∨(VS S∧IL h' r.1 (peelS S (allS S))∧IL h' r.2 (leftL (allS S) (peelS S (allS S))))) (fun K' hk=>?_) fun r h' hl hr=>by
  rcases hr with ⟨h1,rfl⟩ | ⟨h1,h2,h3⟩
  · exact H0 h' hl h1
  · exact H r.1 r.2 h' hl h1 h2 h3
 unfold F.zep
 refine zkv hx hs ht fun r h1 hl1 hr=>?_
 refine zc9 (fun h2=>hk _ _ hl1 (.inl ⟨fun hv=>h2 (hr.2 hv),rfl⟩)) (fun h2=>?_)
 have hv:=hr.1 h2
 refine zsk (hx.le hl1) hv hs fun p h3 hl3 hp=>?_
 refine za01 hp hs hv (ht.le (Hp.le_trans hl1 hl3)) fun a b h4 hl4 ha hb=>hk _ _ (Hp.le_trans hl1 (Hp.le_trans hl3 hl4)) (.inr ⟨hv,ha,hb⟩)
end
end Den
end

section
namespace Den
open Go Iv Lx
theorem zzf {α:Type} {l m:List α} {d:α} {k:Nat} (h:k<l.length):(l++m).getD k d=l.getD k d:=by
 rw [List.getD_eq_getElem?_getD,List.getD_eq_getElem?_getD,List.getElem?_append_left h]
theorem zzg {α:Type} {l m:List α} {d:α} {k:Nat} (h:l.length≤k):(l++m).getD k d=m.getD (k-l.length) d:=by
 rw [List.getD_eq_getElem?_getD,List.getD_eq_getElem?_getD,List.getElem?_append_right h]
theorem zsh {can:List Int→Int→Bool} {pref:List Int}:∀{f:Nat} {R:List Int},(∀k,k<R.length→can (R.take k) (R.getD k 0)=true∧R.getD k 0∈pref)→∀k,k<(peelF can pref f R).length→can ((peelF can pref f R).take k) ((peelF can pref f R).getD k 0)=true∧(peelF can pref f R).getD k 0∈pref
 | 0,R,h=>h
 | f+1,R,h=>by
   unfold peelF
   cases hq:pref.find? (can R) with
   | none=>exact h
   | some i=>
     refine zsh fun k hk=>?_
     rw [List.length_append,List.length_singleton] at hk
     rcases Nat.lt_or_ge k R.length with h1 | h1
     · have:=h k h1
       rw [List.take_append_of_le_length (by omega),zzf h1]
       exact this
     · have:k=R.length:=by omega
       subst this
       rw [List.take_append_of_le_length (Nat.le_refl _),List.take_length,zzg (Nat.le_refl _)]
       simp only [Nat.sub_self,List.getD_cons_zero]
       exact ⟨List.find?_some hq,List.mem_of_find?_eq_some hq⟩
theorem za25 {S:PSk} {pref:List Int} {k:Nat} (hk:k<(peelS S pref).length):canP (allC S) (cens S) ((peelS S pref).take k) ((peelS S pref).getD k 0)∧(peelS S pref).getD k 0∈pref:=by
 have:=zsh (can:=canB (allC S) (cens S)) (pref:=pref) (f:=pref.length) (R:=[]) (fun k hk=>by simp at hk) k hk
 exact ⟨of_decide_eq_true this.1,this.2⟩
section
variable {h : Hp} {s : TSketch} {S : PSk} {p : Addr} {item : Int} {us : Sl} {u : List Int} {Kb : Bool → Hp → Prop} {Ki : Int → Hp → Prop} {K : TStep → Hp → Prop}
end
section
variable {h : Hp} {s : TSketch} {S : PSk} {p : Addr} {K : (TPlan × Int) → Hp → Prop} {Kb : Bool → Hp → Prop}
end
end Den
end

section
namespace Den
open Go Iv Lx
section
variable {α β γ δ : Type} {c : α → List Value} {n : Nat} {P : Hp → α → β → Prop} {c2 : γ → List Value} {n2 : Nat} {P2 : Hp → γ → δ → Prop} {D h h' : Hp} {l m : Sl} {ps : List β} {qs : List δ}
end
theorem zo2 {z:Int} (h:z.natAbs<4294967296):BR 1 ((z:Int):Rat):=⟨by rw [Rat.num_intCast]; unfold Lt; rw [Nat.pow_one]; exact h,by rw [Rat.den_intCast]; unfold Lt; decide⟩
def numE (x:TRat) (z:Int):PEx:=.mk 1 x (some ((z:Int):Rat)) emptyS []
def shortX (x:TRat):Prop:=x.num.mag.len≤4∧x.den.mag.len≤4
theorem za21 {h:Hp} {x:TRat} {z:Int} (hz:z.natAbs<4294967296) (hx:NR h x ((z:Int):Rat)):shortX x:=by
 have hb:=zo2 hz
 have h1:=zc2.2 hb.1
 have h2:=zc2.2 hb.2
 have e1:=hx.1.len
 have e2:=hx.2.len
 exact ⟨by omega,by omega⟩
theorem za5f {x:TRat} {z:Int} (hx:shortX x):sE (numE x z):=by
 refine ⟨?_,?_⟩
 · unfold numE smE smEL
   exact ⟨by simp,by decide,hx.1,hx.2,trivial⟩
 · unfold numE dep depL; decide
theorem dec1:decOk (some ((1:Int):Rat))=true:=by decide +kernel
theorem za19:BS emptyS=[]:=rfl
theorem za5g {x:TRat} {z:Int} (hz:decOk (some ((z:Int):Rat))=true):vE (numE x z)=true:=by
 unfold vE numE
 simp [fmd,fmdL,dep,depL,shp,hz,za19]
def DC (z:Int) (c:PCon) (e:Int×Int):Prop:=∃x:TRat,shortX x∧c=⟨2,[e.1,e.2],[],[numE x z],0⟩
def DCL (z:Int):List PCon→List (Int×Int)→Prop
 | [],[]=>True
 | c :: r,e :: q=>DC z c e∧DCL z r q
 | _,_=>False
theorem DCL.snoc {z:Int} {c:PCon} {e:Int×Int} (hc:DC z c e):∀{l:List PCon} {q:List (Int×Int)},DCL z l q→DCL z (l++[c]) (q++[e])
 | [],[],_=>⟨hc,trivial⟩
 | a :: r,b :: q,h=>⟨h.1,DCL.snoc hc h.2⟩
 | [],_ :: _,h=>h.elim
 | _ :: _,[],h=>h.elim
theorem DCL.len {z:Int}:∀{l:List PCon} {q:List (Int×Int)},DCL z l q→l.length=q.length
 | [],[],_=>rfl
 | a :: r,b :: q,h=>by rw [List.length_cons,List.length_cons,DCL.len h.2]
 | [],_ :: _,h=>h.elim
 | _ :: _,[],h=>h.elim
theorem DCL.all {z:Int} {Q:PCon→Prop}:∀{l:List PCon} {q:List (Int×Int)},DCL z l q→(∀c e,e∈q→DC z c e→Q c)→∀c∈l,Q c
 | [],[],_,_,c,hc=>by simp at hc
 | a :: r,b :: q,h,H,c,hc=>by
   rcases List.mem_cons.1 hc with rfl | hc
   · exact H _ b (by simp) h.1
   · exact DCL.all h.2 (fun c e he=>H c e (List.mem_cons_of_mem _ he)) c hc
 | [],_ :: _,h,_,_,_=>h.elim
 | _ :: _,[],h,_,_,_=>h.elim
theorem DC.sc {z:Int} {c:PCon} {e:Int×Int} (h:DC z c e):sC c:=by
 obtain ⟨x,hx,rfl⟩:=h
 refine ⟨by simp,by simp,by simp,fun v hv=>?_⟩
 simp only [List.mem_singleton] at hv
 subst hv
 exact za5f hx
theorem DC.vc {z:Int} (hz:decOk (some ((z:Int):Rat))=true) {c:PCon} {e:Int×Int} {n m:Int} (h:DC z c e) (h1:0≤e.1∧e.1<n) (h2:0≤e.2∧e.2<n) (h3:e.1≠e.2):VC c n m:=by
 obtain ⟨x,hx,rfl⟩:=h
 refine ⟨⟨by show (1:Int)≤2; decide,by show (2:Int)≤17; decide⟩,⟨rfl,fun y hy=>?_⟩,⟨rfl,fun y hy=>by simp at hy⟩,rfl,fun v hv=>?_,rfl,?_⟩
 · simp only [List.mem_cons,List.not_mem_nil,or_false] at hy
   rcases hy with rfl | rfl
   · exact h1
   · exact h2
 · simp only [List.mem_singleton] at hv
   subst hv
   exact za5g hz
 · rw [if_neg (by simp [fourK])]
   exact ⟨by simp [h3],by simp⟩
def DSK (z:Int) (S:PSk) (n:Nat) (prs:List (Int×Int)):Prop:=S.pts.length=n∧(∀p∈S.pts,VP p)∧S.cir=[]∧S.seg=[]∧S.arc=[]∧S.chn=[]∧DCL z S.con prs
theorem DSK.vs {z:Int} (hz:decOk (some ((z:Int):Rat))=true) {S:PSk} {n:Nat} {prs:List (Int×Int)} (h:DSK z S n prs) (hp:∀e∈prs,0≤e.1∧e.1<e.2∧e.2<n):VS S:=by
 obtain ⟨h1,h2,h3,h4,h5,h6,h7⟩:=h
 refine ⟨h2,by simp [h3],by simp [h4],by simp [h5],by simp [h6],?_⟩
 exact h7.all fun c e he hd=>by
  have:=hp e he
  exact hd.vc hz (by omega) (by omega) (by omega)
theorem DSK.ss {z:Int} {S:PSk} {n:Nat} {prs:List (Int×Int)} (h:DSK z S n prs) (hn:n≤10) (hp:prs.length≤20):sSk S:=by
 obtain ⟨h1,h2,h3,h4,h5,h6,h7⟩:=h
 exact ⟨by omega,by simp [h3],by simp [h4],by simp [h5],by simp [h6],by rw [h7.len]; exact hp,by simp [h6],h7.all fun c e _ hd=>hd.sc⟩
def prs:Nat→List (Int×Int)
 | 0=>[]
 | i+1=>prs i++(List.range i).map fun k:Nat=>((k:Int),(i:Int))
section
variable {h : Hp} {K : TSketch → Hp → Prop}
theorem za37 {h:Hp} {a b:Addr} {p q z:Int} {x:TRat} (ha:∀i v,([.int .i64 p,.int .i64 q]:List Value)[i]?=some v→h.cell (a.add i)=some v)
 (hb:∀i v,([.int .i64 1,.bool x.num.neg,.slice x.num.mag.a x.num.mag.len x.num.mag.cap,.bool x.den.neg,.slice x.den.mag.a x.den.mag.len x.den.mag.cap,.string emptyS,.slice nilS.a nilS.len nilS.cap]:List Value)[i]?=some v→h.cell (b.add i)=some v)
 (hz:z.natAbs<4294967296) (hx:NR h x ((z:Int):Rat)):CO h ⟨2,⟨some a,2,2⟩,nilS,⟨some b,1,1⟩,0⟩ ⟨2,[p,q],[],[numE x z],0⟩:=by
 refine ⟨rfl,⟨zdw (size:=1) (n:=2) ha rfl,Nat.le_refl _⟩,IL.nil,⟨[⟨1,x,emptyS,nilS⟩],zdw (size:=7) (n:=1) hb rfl,Nat.le_refl _,rfl,fun k k1 k2=>?_⟩,rfl⟩
 have:k=0:=by simp at k1; omega
 subst this
 exact EX.mk ⟨1,x,emptyS,nilS⟩ (some ((z:Int):Rat)) [] [] (hx.or (zo2 hz) (by decide)) Rd.nil (Nat.le_refl _) rfl (fun k h1 _=>by simp at h1)
end
section
variable {h : Hp} {s : TSketch} {S : PSk} {Kb : Bool → Hp → Prop}
end
end Den
end

section
namespace Den
open Go Iv Lx
theorem zqk {can:List Int→Int→Bool} {pref:List Int} (hcn:∀R i,can R i=true→i∉R):∀{f:Nat} {R:List Int},(leftL pref R).length≤f→pref.find? (can (peelF can pref f R))=none
 | 0,R,h=>by
   unfold peelF
   rw [List.find?_eq_none]
   intro x hx hc
   have h1:=hcn _ _ hc
   have:x∈leftL pref R:=List.mem_filter.2 ⟨hx,by simpa using h1⟩
   have:=List.length_pos_of_mem this
   omega
 | f+1,R,h=>by
   cases hq:pref.find? (can R) with
   | none=>rw [zhc hcn h hq]; exact hq
   | some i=>
     obtain ⟨g,hg,e1,e2⟩:=zj7 hcn h hq
     have:g=f:=by omega
     subst this
     rw [e1]; exact zqk hcn e2
theorem za00 {S:PSk} {pref:List Int} {x:Int} (hx:x∈pref):¬canP (allC S) (cens S) (peelS S pref) x:=by
 have e:leftL pref []=pref:=by unfold leftL; rw [List.filter_eq_self]; simp
 have:=zqk (can:=canB (allC S) (cens S)) (pref:=pref) zrd (f:=pref.length) (R:=[]) (by rw [e]; exact Nat.le_refl _)
 rw [List.find?_eq_none] at this
 intro hc
 exact this x hx (decide_eq_true hc)
end Den
end

section
namespace Den
open Go Iv Lx
theorem OI.set {D h:Hp} {l:Sl} {xs:List Int} {i v:Int} {K:Hp→Prop} (k:Nat) (ho:OI D h l xs) (hi:i=k) (hk:k<xs.length) (H:∀h',OI D h' l (xs.set k v)→K h'):idxP l i 1 fun a=>stP a [.int .i64 v] K h:=by
 have e:∀ys:List Int,ys.map ic=ys.flatMap fun z=>[ic z]:=fun ys=>by induction ys<;>simp_all
 unfold OI at ho
 rw [e] at ho
 refine zv1 (c:=fun z:Int=>[ic z]) (n:=1) (fun _=>rfl) (by decide) k ho hi hk rfl fun h' h1 _=>H h' ?_
 unfold OI
 rw [e]; exact h1
section
variable {h : Hp} {s : TSketch} {S : PSk} {K : Bool → Hp → Prop}
end
end Den
end

section
namespace Den
open Go Iv Lx Go.Proofs
open Go.ChangeShapes Go.WideShapes Go.ChangeAt Go.RowKit
section
variable {H : Type} {enc : TypeId × Value → H} {w : World} {cs : List Value}
end
end Den
end

section
namespace Den
open Go Iv Lx
def keepT (l:List Int) (item:Int) (T:List Int):Prop:=item∈l∧∀x∈l,x∈T
instance (l:List Int) (item:Int) (T:List Int):Decidable (keepT l item T):=by unfold keepT; infer_instance
def remTN (its:List (List Int)) (item:Int) (T:List Int):Nat→List Int
 | 0=>[]
 | k+1=>remTN its item T k++(if keepT (its.getD k []) item T then [(k:Int)] else [])
theorem zvu {α:Type} {p:α→Bool} {i:α}:[i].filter p=if p i=true then [i] else []:=by
 cases h:p i<;>simp [List.filter,h]
section
variable {h : Hp} {s : TSketch} {S : PSk} {x : TConstraint} {c : PCon} {cs : List Int} {ce : Sl} {item : Int} {T : List Int} {ts : Sl} {Kb : Bool → Hp → Prop} {Ki : Int → Hp → Prop} {Ks : Sl → Hp → Prop} {K : (Sl × Sl) → Hp → Prop}
def coreS (S:PSk):List Int:=leftL (allS S) (peelS S (allS S))
theorem zq7 {S:PSk} (hs:sSk S):(coreS S).length≤20:=Nat.le_trans (List.length_filter_le _ _) (zr7 hs)
def inAll (l T:List Int):Prop:=∀x∈l,x∈T
instance (l T:List Int):Decidable (inAll l T):=by unfold inAll; infer_instance
def wiN (its:List (List Int)) (T:List Int):Nat→List Int
 | 0=>[]
 | k+1=>wiN its T k++(if inAll (its.getD k []) T then [(k:Int)] else [])
def wiS (S:PSk) (T:List Int):List Int:=wiN (its S) T (its S).length
theorem zv6 (its:List (List Int)) (T:List Int):∀k,(wiN its T k).length≤k
 | 0=>by simp [wiN]
 | k+1=>by
   unfold wiN
   have:=zv6 its T k
   rw [List.length_append]
   split<;>simp<;>omega
def CORE (h:Hp) (S:PSk) (r:Sl×Sl):Prop:=(VS S∧coreS S≠[]∧IL h r.1 (coreS S)∧IL h r.2 (wiS S (coreS S)))∨((¬VS S∨coreS S=[])∧r=(nilS,nilS))
end
end Den
end

section
namespace Den
open Go Iv Lx
section
variable {h D : Hp} {s : TSketch} {S : PSk} {x : TConstraint} {c : PCon} {cs : List Int} {ce l rs : Sl} {item : Int} {R xs : List Int} {p1 p2 : Addr} {Kb : Bool → Hp → Prop} {Ki : Int → Hp → Prop} {Ks : Sl → Hp → Prop} {K : (Sl × Sl) → Hp → Prop}
theorem zua (hx:SK h s S) (hs:sSk S) (hv:VS S) (hl:IL h l xs) (hlen:xs.length≤1000) (H:∀y h',h.le h'→IL h' y (wiS S xs)→Ks y h'):callP (F.zim s l) Ks h:=by
 refine za0 (fun y h'=>IL h' y (wiS S xs)) (fun K' hk=>?_) fun b h' hl hb=>H b h' hl hb
 unfold F.zim
 have hal:=zli hs
 have hok:=zjr hv hs
 have hcl:=zlm (S:=S)
 have s2:=hs.2.1
 refine zd5 fun p1 h1 hl1 c1=>?_
 refine zqt (hx.le hl1) hs fun r2 h2 hl2 hC=>?_
 have hle2:=Hp.le_trans hl1 hl2
 refine zwt (hx.le hle2) hv hs fun r3 h3 hl3 hL=>?_
 have hle3:=Hp.le_trans hle2 hl3
 have hLl:=hL.len zau
 refine zci (n:=(allC S).length) (by omega) (fun i y h'=>OI h3 h' y (wiN (its S) xs i)) OI.nil ?_
 intro i z h4 hi ho k hk2
 have hle:=Hp.le_trans hle3 ho.dle
 refine za1 (fun h5=>?_) (fun h5=>?_)
 · have hi':i<(allC S).length:=by simp only at h5; omega
   refine za5 (fun s h'=>OI h3 h' s.1 (wiN (its S) xs (i+1))) (fun s h' hs=>hk2 _ _ hi' hs) ?_
   refine (hL.le zau ho.dle).get zau i rfl hi' fun a x hxx hcx=>⟨_,hcx 0 _ rfl,_,hcx 1 _ rfl,_,hcx 2 _ rfl,_,hcx 3 _ rfl,_,hcx 4 _ rfl,?_⟩
   have hg:(its S).getD i []=itemsC (allC S)[i] (cens S):=by
    rw [zbm (by rw [zjw]; exact hi')]
    simp [its]
   have hstep:wiN (its S) xs (i+1)=wiN (its S) xs i++(if inAll (itemsC (allC S)[i] (cens S)) xs then [(i:Int)] else []):=by
    conv=>lhs; unfold wiN
    rw [hg]
   have hrl:=zv6 (its S) xs i
   have hokc:=hok _ (List.getElem_mem hi')
   have hlen2:=zoz (cs:=cens S) hokc.2
   refine zth (x:=x) hxx (hC.il.le (Hp.le_trans hl3 ho.dle)) hokc.2 hokc.1.cirOk (by omega) fun r10 h6 hl6 ho6=>?_
   have hoz:=ho.le hl6
   have l16:h1.le h6:=Hp.le_trans hl2 (Hp.le_trans hl3 hoz.dle)
   refine za0 (fun b h'=>b=true↔∃x∈itemsC (allC S)[i] (cens S),x∉xs) (fun K2 hk3=>?_) fun b h7 hl7 hb=>?_
   · unfold F.zc6
     refine za0 (fun r h'=>Fnd (fun x=>x∉xs) (itemsC (allC S)[i] (cens S)) r) (fun K4 hk4=>?_) fun r h' hl hr=>hk3 _ _ hl (by rw [decide_eq_true_iff]; exact hr.iff)
     unfold F.zcd
     refine zjv ho6.il (by omega) (fun x _ h7 hl7 K5 hK5=>?_) fun r h' hl hr=>hk4 _ _ hl hr
     refine za0 (fun b h'=>b=true↔x∉xs) (fun K6 hk6=>?_) fun b h8 hl8 hb=>hK5 _ _ hl8 hb
     unfold F.zjc
     have l17:=Hp.le_trans l16 hl7
     refine ⟨_,Hp.cell_le l17 c1,?_⟩
     exact zds (hl.le (Hp.le_trans hl1 l17)) (by omega) fun h8 hl8=>hk6 _ _ hl8 (by simp)
   · have ho7:=hoz.le hl7
     refine za7 (fun h8=>?_) (fun h8=>?_)
     · have hkp:inAll (itemsC (allC S)[i] (cens S)) xs:=fun x hx=>Classical.byContradiction fun hn=>by rw [hb.2 ⟨x,hx,hn⟩] at h8; cases h8
       refine ho7.app (by omega) fun z h11 ho11=>?_
       show OI _ _ _ _
       rw [hstep,if_pos hkp]; exact ho11
     · have hkp:¬inAll (itemsC (allC S)[i] (cens S)) xs:=fun hh=>by
        obtain ⟨x,hx,hn⟩:=hb.1 (by simpa using h8)
        exact hn (hh x hx)
       show OI _ _ _ _
       rw [hstep,if_neg hkp,List.append_nil]; exact ho7
 · have:i=(allC S).length:=by simp only at h5; omega
   subst this
   refine hk _ _ hle ?_
   unfold wiS
   rw [zjw]; exact ho.il
theorem zq3 (hx:SK h s S) (hs:sSk S) (ht:GT h) (H:∀r h',h.le h'→CORE h' S r→K r h'):callP (F.zj1 s) K h:=by
 refine za0 (fun r h'=>CORE h' S r) (fun K' hk=>?_) fun y h' hl hb=>H y h' hl hb
 unfold F.zj1
 refine zkv hx hs ht fun r h1 hl1 hr=>?_
 refine zc9 (fun h2=>hk _ _ hl1 (.inr ⟨.inl fun hv=>h2 (hr.2 hv),rfl⟩)) (fun h2=>?_)
 have hv:=hr.1 h2
 refine zq5 (hx.le hl1) hs (ht.le hl1) (fun _ _ hn=>absurd hv hn) fun a b h3 hl3 _ ha hb=>?_
 have hle3:=Hp.le_trans hl1 hl3
 have hb:IL h3 b (coreS S):=hb
 have hbl:=hb.len
 have hcl:=zq7 hs
 refine zae (fun h4=>hk _ _ hle3 (.inr ⟨.inr (List.eq_nil_of_length_eq_zero (by simp only at h4; omega)),rfl⟩)) (fun h4=>?_)
 refine zua (hx.le hle3) hs hv hb (by omega) fun y h5 hl5 hy=>hk _ _ (Hp.le_trans hle3 hl5) (.inl ⟨hv,fun hh=>h4 ?_,hb.le hl5,hy⟩)
 rw [hh] at hbl
 simp only
 rw [hbl]; rfl
theorem zmi (hx:SK h s S) (hs:sSk S) (ht:GT h) (H:∀b h',h.le h'→(b=true↔VS S∧coreS S=[])→Kb b h'):callP (F.zeb s) Kb h:=by
 refine za0 (fun b h'=>b=true↔VS S∧coreS S=[]) (fun K' hk=>?_) fun y h' hl hb=>H y h' hl hb
 unfold F.zeb
 refine zkv hx hs ht fun r h1 hl1 hr=>?_
 refine zc9 (fun h2=>hk _ _ hl1 ⟨fun hh=>(by cases hh),fun hh=>absurd (hr.2 hh.1) h2⟩) (fun h2=>?_)
 have hv:=hr.1 h2
 refine zq5 (hx.le hl1) hs (ht.le hl1) (fun _ _ hn=>absurd hv hn) fun a b h3 hl3 _ ha hb=>hk _ _ (Hp.le_trans hl1 hl3) ?_
 have hb:IL h3 b (coreS S):=hb
 have hbl:=hb.len
 rw [beq_iff_eq]
 simp only
 constructor
 · intro h4
   exact ⟨hv,List.eq_nil_of_length_eq_zero (by omega)⟩
 · rintro ⟨_,h4⟩
   rw [h4] at hbl
   rw [hbl]; rfl
end
end Den
end

section
namespace Den
open Go Iv Lx
theorem za23 {D h:Hp} {n:Nat} {l:Sl} {cs:List Value} (ho:Own D h n l cs) {a:Addr} (ha:l.a=some a):D a.block=none:=by
 obtain ⟨_,_,_,g4⟩:=ho
 rw [ha] at g4
 exact g4.2.2.1
section
variable {h D : Hp} {s : TSketch} {S : PSk} {l rs : Sl} {item a b : Int} {R xs : List Int} {p1 p2 : Addr} {Kb : Bool → Hp → Prop} {Ki : Int → Hp → Prop} {Ks : Sl → Hp → Prop}
end
end Den
end

section
namespace Den
open Go Iv Lx
def a2c (e:A2_Int):List Value:=[.int .i64 e.c0,.int .i64 e.c1]
def A2P (h:Hp) (x:A2_Int) (b:Int×Int):Prop:=x.c0=b.1∧x.c1=b.2
theorem zaz:Rec a2c 2 A2P:=⟨fun _=>rfl,by decide,fun _=>rfl,fun hx _=>hx⟩
def befE (a b:Int×Int):Prop:=a.1<b.1∨a.1=b.1∧a.2<b.2
def GV (n:Int) (es:List (Int×Int)):Prop:=(0≤n∧n≤60)∧(∀e∈es,0≤e.1∧e.1<e.2∧e.2<n)∧∀j (hj:j+1<es.length),befE es[j] es[j+1]
def degL (es:List (Int×Int)) (T:List Int) (i:Int):Nat:=es.countP fun e=>decide (e.1∈T)&&decide (e.2∈T)&&(e.1==i||e.2==i)
theorem zq9 {es:List (Int×Int)} {C T:List Int} {i:Int} (h:∀x∈C,x∈T):degL es C i≤degL es T i:=by
 unfold degL
 refine List.countP_mono_left fun e _ he=>?_
 simp only [Bool.and_eq_true,decide_eq_true_iff] at he ⊢
 exact ⟨⟨h _ he.1.1,h _ he.1.2⟩,he.2⟩
def rngI (n:Nat):List Int:=(List.range n).map fun i:Nat=>(i:Int)
theorem zi3 {n:Nat} {x:Int}:x∈rngI n↔0≤x∧x<n:=by
 unfold rngI
 rw [List.mem_map]
 constructor
 · rintro ⟨a,ha,rfl⟩
   rw [List.mem_range] at ha; omega
 · rintro ⟨h1,h2⟩
   exact ⟨x.toNat,List.mem_range.2 (by omega),by omega⟩
structure IsCore (n:Nat) (es:List (Int×Int)) (T:List Int):Prop where
 sub:T=(rngI n).filter fun x=>decide (x∈T)
 deg:∀i∈T,3≤degL es T i
 great:∀C:List Int,(∀i∈C,0≤i∧i<n)→(∀i∈C,3≤degL es C i)→∀i∈C,i∈T
theorem IsCore.mem {n:Nat} {es:List (Int×Int)} {T:List Int} (h:IsCore n es T) {i:Int} (hi:i∈T):0≤i∧i<n:=by
 have h1:=h.sub
 rw [h1] at hi
 exact zi3.1 (List.mem_filter.1 hi).1
theorem IsCore.unique {n:Nat} {es:List (Int×Int)} {T Q:List Int} (h:IsCore n es T) (k:IsCore n es Q):T=Q:=by
 have h1:=h.great Q (fun i hi=>k.mem hi) k.deg
 have h2:=k.great T (fun i hi=>h.mem hi) h.deg
 rw [h.sub,k.sub]
 exact List.filter_congr fun x _=>by
  have:x∈T↔x∈Q:=⟨h2 x,h1 x⟩
  simp only [this]
theorem IsCore.len {n:Nat} {es:List (Int×Int)} {T:List Int} (h:IsCore n es T):T.length≤n:=by
 rw [h.sub]
 refine Nat.le_trans (List.length_filter_le _ _) ?_
 simp [rngI]
theorem zms {es:List (Int×Int)} {C T:List Int} {x:Int} (hC:∀i∈C,3≤degL es C i) (hT:∀i∈C,i∈T) (hx:degL es T x≤2):x∉C:=fun hm=>by
 have h1:=hC x hm
 have h2:=zq9 (es:=es) (i:=x) hT
 omega
section
variable {h D : Hp} {g : TGraph} {es : List (Int × Int)} {Kb : Bool → Hp → Prop} {Ki : Int → Hp → Prop} {Ks : Sl → Hp → Prop}
theorem zqx {a b:A2_Int} (H:∀r h',h.le h'→(r<0↔befE (a.c0,a.c1) (b.c0,b.c1))→Ki r h'):callP (F.zgy a b) Ki h:=by
 refine za0 (fun r h'=>r<0↔befE (a.c0,a.c1) (b.c0,b.c1)) (fun K' hk=>?_) fun b h' hl hb=>H b h' hl hb
 unfold F.zgy
 refine zil (zil ?_)
 obtain ⟨r1,hr1⟩:∃r1:Int,r1=if a.c0<b.c0 then -1 else if b.c0<a.c0 then 1 else 0:=⟨_,rfl⟩
 obtain ⟨r2,hr2⟩:∃r2:Int,r2=if a.c1<b.c1 then -1 else if b.c1<a.c1 then 1 else 0:=⟨_,rfl⟩
 rw [←hr1,←hr2]
 refine zga fun p3 h3 hl3 c3=>?_
 have hi:IL h3 ⟨some p3,2,2⟩ [r1,r2]:=⟨zdw (size:=1) (n:=2) c3 rfl,Nat.le_refl _⟩
 have q1:(r1<0↔a.c0<b.c0)∧(r1=0↔a.c0=b.c0):=by rw [hr1]; split<;>(try split)<;>constructor<;>constructor<;>intro _<;>omega
 have q2:r2<0↔a.c1<b.c1:=by rw [hr2]; split<;>(try split)<;>constructor<;>intro _<;>omega
 have key:∀r:Int,(r1≠0→r=r1)→(r1=0→r2≠0→r=r2)→(r1=0→r2=0→r=0)→(r<0↔befE (a.c0,a.c1) (b.c0,b.c1)):=by
  intro r k1 k2 k3
  unfold befE
  simp only
  rw [←q1.1,←q1.2,←q2]
  by_cases e1:r1=0
  · by_cases e2:r2=0
    · have:=k3 e1 e2; omega
    · have:=k2 e1 e2; omega
  · have:=k1 e1; omega
 refine za0 (fun r h'=>(r1≠0→r=r1)∧(r1=0→r2≠0→r=r2)∧(r1=0→r2=0→r=0)) (fun K2 hk2=>?_) fun r h' hl hr=>hk _ _ (Hp.le_trans hl3 hl) (key r hr.1 hr.2.1 hr.2.2)
 unfold F.zlo
 refine zdy (n:=2) (by omega) (fun i h'=>h'=h3∧(0<i→r1=0)∧(1<i→r2=0)) ⟨rfl,by omega,by omega⟩ ?_
 rintro i h4 hi2 ⟨rfl,z1,z2⟩ k hk4
 refine za1 (fun h5=>?_) (fun h5=>?_)
 · have hi':i<2:=by have:(i:Int)<((2:Nat):Int):=h5; omega
   rcases (by omega:i=0∨i=1) with rfl | rfl
   · refine hi.get 0 rfl (by simp) ?_
     simp only [List.getElem_cons_zero]
     refine zc9 (fun h6=>hk2 _ _ (Hp.le_refl _) ⟨fun _=>rfl,fun hh=>absurd hh h6,fun hh=>absurd hh h6⟩) (fun h6=>hk4 _ hi' ⟨rfl,fun _=>h6,by omega⟩)
   · have z:=z1 (by omega)
     refine hi.get 1 rfl (by simp) ?_
     simp only [List.getElem_cons_succ,List.getElem_cons_zero]
     refine zc9 (fun h6=>hk2 _ _ (Hp.le_refl _) ⟨fun hh=>absurd z hh,fun _ _=>rfl,fun _ hh=>absurd hh h6⟩) (fun h6=>hk4 _ hi' ⟨rfl,fun _=>z,fun _=>h6⟩)
 · have:i=2:=by have:¬(i:Int)<((2:Nat):Int):=h5; omega
   subst this
   exact hk2 _ _ (Hp.le_refl _) ⟨fun hh=>absurd (z1 (by omega)) hh,fun _ hh=>absurd (z2 (by omega)) hh,fun _ _=>rfl⟩
theorem zul {n i:Int} (H:∀b,(b=true↔0≤i∧i<n)→Kb b h):callP (F.zj5 n i) Kb h:=by
 refine zkh (fun b=>b=true↔0≤i∧i<n) (fun K' hk=>?_) H
 unfold F.zj5
 exact za1 (fun h1=>hk _ (by rw [decide_eq_true_iff]; omega)) (fun h1=>hk _ ⟨fun hh=>(by cases hh),fun hh=>by omega⟩)
theorem ztv (hg:LR a2c 2 A2P h g.edges es) (hlen:es.length≤140737488355328) (H:∀b h',h.le h'→(b=true↔GV g.n es)→Kb b h'):callP (F.zio g) Kb h:=by
 refine za0 (fun b h'=>b=true↔GV g.n es) (fun K' hk=>?_) fun b h' hl hb=>H b h' hl hb
 unfold F.zio
 have no:∀h',h.le h'→¬GV g.n es→K' false h':=fun h' hl hn=>hk _ _ hl ⟨fun hh=>(by cases hh),fun hh=>absurd hh hn⟩
 have hl:=hg.len zaz
 refine za5 (fun _ h'=>h'=h∧0≤g.n∧g.n≤60) ?_ ?_
 · rintro _ h0 ⟨rfl,n0,n1⟩
   refine zdy (n:=es.length) hlen (fun i h'=>h0.le h'∧(∀j (hj:j<es.length),j<i→0≤es[j].1∧es[j].1<es[j].2∧es[j].2<g.n)∧∀j (hj:j+1<es.length),j+1<i→befE es[j] es[j+1]) ⟨Hp.le_refl _,fun j _ hj=>by omega,fun j _ hj=>by omega⟩ ?_
   rintro i h2 hi ⟨hl2,hno,hbe⟩ k hk2
   refine za1 (fun h3=>?_) (fun h3=>?_)
   · have hi':i<es.length:=by simp only at h3; omega
     have nx:¬(0≤es[i].1∧es[i].1<es[i].2∧es[i].2<g.n)→¬GV g.n es:=fun hn hh=>hn (hh.2.1 _ (List.getElem_mem hi'))
     refine za5 (fun _ h'=>h0.le h'∧(0≤es[i].1∧es[i].1<es[i].2∧es[i].2<g.n)∧(∀hj:0<i,befE (es[i-1]'(by omega)) es[i])) (fun _ h' hh=>hk2 _ hi' ⟨hh.1,upto (P:=fun e:Int×Int=>0≤e.1∧e.1<e.2∧e.2<g.n) hno hi' hh.2.1,fun j hj hji=>?_⟩) ?_
     · rcases Nat.lt_or_ge (j+1) i with h5 | h5
       · exact hbe j hj h5
       · have:i=j+1:=by omega
         subst this
         exact hh.2.2 (by omega)
     refine (hg.le zaz hl2).get zaz i rfl hi' fun a x hxx hcx=>⟨_,hcx 0 _ rfl,_,hcx 1 _ rfl,?_⟩
     obtain ⟨x1,x2⟩:=hxx
     rw [x1,x2]
     refine zul fun b hb=>za7 (fun h4=>no _ hl2 (nx fun hh=>by rw [hb.2 ⟨hh.1,by omega⟩] at h4; cases h4)) (fun h4=>?_)
     have b1:=hb.1 (by simpa using h4)
     refine zul fun b2 hb2=>za7 (fun h5=>no _ hl2 (nx fun hh=>by rw [hb2.2 ⟨by omega,hh.2.2⟩] at h5; cases h5)) (fun h5=>?_)
     have b2':=hb2.1 (by simpa using h5)
     refine za1 (fun h6=>no _ hl2 (nx fun hh=>by have h6:es[i].1≥es[i].2:=h6; omega)) (fun h6=>?_)
     have h6:¬es[i].1≥es[i].2:=h6
     have ok:0≤es[i].1∧es[i].1<es[i].2∧es[i].2<g.n:=by omega
     refine za1 (fun h7=>?_) (fun h7=>⟨hl2,ok,fun hj=>by simp only at h7; omega⟩)
     have hi0:0<i:=by simp only at h7; omega
     simp only
     rw [show IntKind.i64.wrap ((i:Int)-1)=((i-1:Nat):Int) from by rw [w64 (by omega)]; omega]
     refine (hg.le zaz hl2).get zaz (i-1) rfl (by omega) fun a2 y hyy hcy=>⟨_,hcy 0 _ rfl,_,hcy 1 _ rfl,?_⟩
     obtain ⟨y1,y2⟩:=hyy
     refine zqx (a:=⟨y.c0,y.c1⟩) (b:=⟨es[i].1,es[i].2⟩) fun r h8 hl8 hr=>?_
     have hle8:=Hp.le_trans hl2 hl8
     simp only at hr
     rw [y1,y2] at hr
     refine za1 (fun h9=>no _ hle8 fun hh=>?_) (fun h9=>⟨hle8,ok,fun _=>hr.1 (by omega)⟩)
     have:=hh.2.2 (i-1) (by omega)
     have e:i-1+1=i:=by omega
     simp only [e] at this
     have:=hr.2 this
     omega
   · refine hk _ _ hl2 ⟨fun _=>⟨⟨n0,n1⟩,upall (P:=fun e:Int×Int=>0≤e.1∧e.1<e.2∧e.2<g.n) hno (by simp only at h3; omega),fun j hj=>hbe j hj (by simp only at h3; omega)⟩,fun _=>rfl⟩
 · refine za1 (fun h1=>no _ (Hp.le_refl _) fun hh=>by have:=hh.1.1; omega) (fun h1=>za1 (fun h2=>no _ (Hp.le_refl _) fun hh=>by have:=hh.1.2; omega) (fun h2=>⟨rfl,by omega,by omega⟩))
theorem zjf (hg:LR a2c 2 A2P h g.edges es) (hlen:es.length≤140737488355328) (H:∀b h',h.le h'→(b=true↔GV g.n es)→Kb b h'):callP (F.zfs g) Kb h:=by
 refine za0 (fun b h'=>b=true↔GV g.n es) (fun K' hk=>?_) fun b h' hl hb=>H b h' hl hb
 unfold F.zfs
 have no:∀h',h.le h'→¬GV g.n es→K' false h':=fun h' hl hn=>hk _ _ hl ⟨fun hh=>(by cases hh),fun hh=>absurd hh hn⟩
 have hl:=hg.len zaz
 refine za5 (fun _ h'=>h'=h∧0≤g.n∧g.n≤60) ?_ ?_
 · rintro _ h0 ⟨rfl,n0,n1⟩
   refine zdy (n:=es.length) hlen (fun i h'=>h0.le h'∧(∀j (hj:j<es.length),j<i→0≤es[j].1∧es[j].1<es[j].2∧es[j].2<g.n)∧∀j (hj:j+1<es.length),j+1<i→befE es[j] es[j+1]) ⟨Hp.le_refl _,fun j _ hj=>by omega,fun j _ hj=>by omega⟩ ?_
   rintro i h2 hi ⟨hl2,hno,hbe⟩ k hk2
   refine za1 (fun h3=>?_) (fun h3=>?_)
   · have hi':i<es.length:=by simp only at h3; omega
     have nx:¬(0≤es[i].1∧es[i].1<es[i].2∧es[i].2<g.n)→¬GV g.n es:=fun hn hh=>hn (hh.2.1 _ (List.getElem_mem hi'))
     refine za5 (fun _ h'=>h0.le h'∧(0≤es[i].1∧es[i].1<es[i].2∧es[i].2<g.n)∧(∀hj:0<i,befE (es[i-1]'(by omega)) es[i])) (fun _ h' hh=>hk2 _ hi' ⟨hh.1,upto (P:=fun e:Int×Int=>0≤e.1∧e.1<e.2∧e.2<g.n) hno hi' hh.2.1,fun j hj hji=>?_⟩) ?_
     · rcases Nat.lt_or_ge (j+1) i with h5 | h5
       · exact hbe j hj h5
       · have:i=j+1:=by omega
         subst this
         exact hh.2.2 (by omega)
     refine (hg.le zaz hl2).get zaz i rfl hi' fun a x hxx hcx=>⟨_,hcx 0 _ rfl,_,hcx 1 _ rfl,?_⟩
     obtain ⟨x1,x2⟩:=hxx
     rw [x1,x2]
     refine za1 (fun h4=>no _ hl2 (nx fun hh=>by have h4:es[i].1<0:=h4; omega)) (fun h4=>?_)
     refine za1 (fun h5=>no _ hl2 (nx fun hh=>by have h5:es[i].1≥es[i].2:=h5; omega)) (fun h5=>?_)
     refine za1 (fun h6=>no _ hl2 (nx fun hh=>by have h6:es[i].2≥g.n:=h6; omega)) (fun h6=>?_)
     have h4:¬es[i].1<0:=h4
     have h5:¬es[i].1≥es[i].2:=h5
     have h6:¬es[i].2≥g.n:=h6
     have ok:0≤es[i].1∧es[i].1<es[i].2∧es[i].2<g.n:=by omega
     refine za1 (fun h7=>?_) (fun h7=>⟨hl2,ok,fun hj=>by simp only at h7; omega⟩)
     have hi0:0<i:=by simp only at h7; omega
     simp only
     rw [show IntKind.i64.wrap ((i:Int)-1)=((i-1:Nat):Int) from by rw [w64 (by omega)]; omega]
     refine (hg.le zaz hl2).get zaz (i-1) rfl (by omega) fun a2 y hyy hcy=>⟨_,hcy 0 _ rfl,_,hcy 1 _ rfl,?_⟩
     obtain ⟨y1,y2⟩:=hyy
     rw [y1,y2]
     have hb:∀Kb':Bool→Hp→Prop,(∀b,(b=true↔befE (es[i-1]'(by omega)) es[i])→Kb' b h2)→callP (F.zhs (⟨(es[i-1]'(by omega)).1,(es[i-1]'(by omega)).2⟩:A2_Int) (⟨es[i].1,es[i].2⟩:A2_Int)) Kb' h2:=by
      intro Kb' hkb
      refine zkh (fun b=>b=true↔befE (es[i-1]'(by omega)) es[i]) (fun K2 hk3=>?_) hkb
      unfold F.zhs
      unfold befE at hk3
      refine za1 (fun h1=>hk3 _ ⟨fun _=>.inl h1,fun _=>rfl⟩) (fun h1=>zae (fun h2=>hk3 _ ?_) (fun h2=>hk3 _ ⟨fun hh=>(by cases hh),fun hh=>?_⟩))
      · rw [decide_eq_true_iff]
        exact ⟨fun hh=>.inr ⟨h2,hh⟩,fun hh=>by rcases hh with hh | hh; exact absurd hh h1; exact hh.2⟩
      · rcases hh with hh | hh
        · exact absurd hh h1
        · exact absurd hh.1 h2
     refine hb _ fun b hbb=>?_
     refine za7 (fun h9=>no _ hl2 fun hh=>?_) (fun h9=>⟨hl2,ok,fun _=>hbb.1 (by simpa using h9)⟩)
     have:=hh.2.2 (i-1) (by omega)
     have e:i-1+1=i:=by omega
     simp only [e] at this
     rw [hbb.2 this] at h9; cases h9
   · refine hk _ _ hl2 ⟨fun _=>⟨⟨n0,n1⟩,upall (P:=fun e:Int×Int=>0≤e.1∧e.1<e.2∧e.2<g.n) hno (by simp only at h3; omega),fun j hj=>hbe j hj (by simp only at h3; omega)⟩,fun _=>rfl⟩
 · refine za1 (fun h1=>no _ (Hp.le_refl _) fun hh=>by have:=hh.1.1; omega) (fun h1=>za1 (fun h2=>no _ (Hp.le_refl _) fun hh=>by have:=hh.1.2; omega) (fun h2=>⟨rfl,by omega,by omega⟩))
theorem zkj {es:List (Int×Int)} {e:Int×Int} {T:List Int} {i:Int}:degL (es++[e]) T i=degL es T i+(if e.1∈T∧e.2∈T∧(e.1=i∨e.2=i) then 1 else 0):=by
 unfold degL
 rw [List.countP_append]
 congr 1
 rw [List.countP_singleton]
 by_cases h:e.1∈T∧e.2∈T∧(e.1=i∨e.2=i)
 · rw [if_pos h,if_pos (by simp [h.1,h.2.1]; exact h.2.2)]
 · rw [if_neg h,if_neg]
   intro hh
   simp only [Bool.and_eq_true,decide_eq_true_iff,Bool.or_eq_true,beq_iff_eq] at hh
   exact h ⟨hh.1.1,hh.1.2,hh.2⟩
theorem zui {es:List (Int×Int)} {T:List Int} {i:Int}:degL es T i≤es.length:=List.countP_le_length
theorem zz9 {T A:List Int} {z:Int} (h:T=A.filter fun x=>decide (x∈T)):(T.filter fun x=>x != z)=A.filter fun x=>decide (x∈T.filter fun x=>x != z):=by
 have e:=congrArg (List.filter fun x=>x != z) h
 rw [List.filter_filter] at e
 rw [e]
 refine List.filter_congr fun x hx=>?_
 rw [←e,Bool.eq_iff_iff]
 simp [List.mem_filter,and_comm]
theorem znv (hg:LR a2c 2 A2P h g.edges es) (hlen:es.length≤1000000) (H0:∀h',h.le h'→¬GV g.n es→Ks nilS h') (H:∀y T h',h.le h'→GV g.n es→IL h' y T→IsCore g.n.toNat es T→Ks y h'):callP (F.zit g) Ks h:=by
 refine za0 (fun y h'=>(¬GV g.n es∧y=nilS)∨(GV g.n es∧∃T,IL h' y T∧IsCore g.n.toNat es T)) (fun K' hk=>?_) fun y h' hl hb=>by
  rcases hb with ⟨h1,rfl⟩ | ⟨h1,T,h2,h3⟩
  · exact H0 h' hl h1
  · exact H y T h' hl h1 h2 h3
 unfold F.zit
 refine zjf hg (by omega) fun b h1 hl1 hb=>?_
 refine za7 (fun h2=>hk _ _ hl1 (.inl ⟨fun hv=>(by rw [hb.2 hv] at h2; cases h2),rfl⟩)) (fun h2=>?_)
 have hv:=hb.1 (by simpa using h2)
 obtain ⟨N,hN⟩:∃N:Nat,g.n=N:=⟨g.n.toNat,by have:=hv.1.1; omega⟩
 have hN60:N≤60:=by have:=hv.1.2; omega
 rw [hN,show ((N:Nat):Int).toNat=N from rfl] at hk
 rw [hN] at hv
 rw [hN]
 have hgl:=hg.len zaz
 refine zci (n:=N) (by omega) (fun i y h'=>OI h1 h' y (rngI i)) OI.nil ?_
 intro i y0 h3 hi ho3 k hk2
 refine za1 (fun h4=>?_) (fun h4=>?_)
 · have hi':i<N:=by simp only at h4; omega
   refine ho3.app (by simp [rngI]; omega) fun w h5 ho5=>hk2 _ _ hi' ?_
   unfold rngI
   rw [List.range_succ,List.map_append]
   exact ho5
 have hiN:i=N:=by simp only at h4; omega
 subst hiN
 have h0l:=ho3.il.len
 have hrl:(rngI i).length=i:=by simp [rngI]
 have hle3:=Hp.le_trans hl1 ho3.dle
 simp only
 rw [show IntKind.i64.wrap ((y0.len:Int)-1)=(y0.len:Int)-1 from w64 (by omega)]
 refine zn7 (fun f st h'=>∃(T:List Int) (y:Sl) (n:Nat),st=(y,(n:Int)-1,())∧h3.le h'∧IL h' y T∧(T=(rngI i).filter fun x=>decide (x∈T)) ∧
  (∀C:List Int,(∀x∈C,0≤x∧x<i)→(∀x∈C,3≤degL es C x)→∀x∈C,x∈T)∧n≤T.length∧(∀j (hj:j<T.length),n≤j→3≤degL es T T[j])∧T.length*100+n≤f) (n0:=7000)
  ⟨rngI i,y0,i,by rw [h0l,hrl],Hp.le_refl _,ho3.il,by rw [eq_comm,List.filter_eq_self]; simp,fun C hC _ x hx=>zi3.2 (hC x hx),by omega,fun j hj hn=>by omega,by omega⟩ ?_
 rintro f _ h5 ⟨T,y,n,rfl,hl5,hI,hsub,hgr,hn,hno,hf⟩ K2 hK2
 have hTl:T.length≤i:=by rw [hsub]; exact Nat.le_trans (List.length_filter_le _ _) (by omega)
 have hIl:=hI.len
 have hle5:=Hp.le_trans hle3 hl5
 refine za1 (fun h6=>?_) (fun h6=>?_)
 · obtain ⟨m,rfl⟩:∃m,n=m+1:=⟨n-1,by simp only at h6; omega⟩
   have him:(((m+1:Nat):Int)-1)=(m:Int):=by omega
   simp only [him]
   have hm:m<T.length:=by omega
   refine za5 (fun st h'=>∃(T':List Int) (y':Sl) (n':Nat),st=(y',(n':Int),())∧h3.le h'∧IL h' y' T'∧(T'=(rngI i).filter fun x=>decide (x∈T')) ∧
    (∀C:List Int,(∀x∈C,0≤x∧x<i)→(∀x∈C,3≤degL es C x)→∀x∈C,x∈T')∧n'≤T'.length∧(∀j (hj:j<T'.length),n'≤j→3≤degL es T' T'[j])∧T'.length*100+n'<f) ?_ ?_
   · rintro _ h7 ⟨T',y',n',rfl,g1,g2,g3,g4,g5,g6,g7⟩
     have hTl':T'.length≤i:=by rw [g3]; exact Nat.le_trans (List.length_filter_le _ _) (by omega)
     refine hK2 _ _ _ g7 ⟨T',y',n',?_,g1,g2,g3,g4,g5,g6,Nat.le_refl _⟩
     simp only
     rw [w64 (by omega)]
   refine zci (n:=es.length) (by omega) (fun q a h'=>h5.le h'∧a=((degL (es.take q) T T[m]:Nat):Int)) ⟨Hp.le_refl _,by simp [degL]⟩ ?_
   rintro q a h7 hq ⟨hl7,ha⟩ k7 hk7
   have hle7:=Hp.le_trans hle5 hl7
   refine za1 (fun h8=>?_) (fun h8=>?_)
   · have hq':q<es.length:=by simp only at h8; omega
     have hst:degL (es.take (q+1)) T T[m]=degL (es.take q) T T[m]+(if es[q].1∈T∧es[q].2∈T∧(es[q].1=T[m]∨es[q].2=T[m]) then 1 else 0):=by
      rw [←List.take_append_getElem hq',zkj]
     have hdl:degL (es.take q) T T[m]≤q:=Nat.le_trans zui (by rw [List.length_take]; omega)
     refine za5 (fun s h'=>h5.le h'∧s.1=((degL (es.take (q+1)) T T[m]:Nat):Int)) (fun s h' hs=>hk7 _ _ hq' hs) ?_
     refine (hg.le zaz hle7).get zaz q rfl hq' fun a13 x hxx hcx=>⟨_,hcx 0 _ rfl,_,hcx 1 _ rfl,?_⟩
     obtain ⟨x1,x2⟩:=hxx
     rw [x1,x2]
     have same:∀h',h5.le h'→¬(es[q].1∈T∧es[q].2∈T∧(es[q].1=T[m]∨es[q].2=T[m]))→h5.le h'∧a=((degL (es.take (q+1)) T T[m]:Nat):Int):=fun h' hl hn=>⟨hl,by rw [hst,if_neg hn]; exact ha⟩
     have more:∀h',h5.le h'→(es[q].1∈T∧es[q].2∈T∧(es[q].1=T[m]∨es[q].2=T[m]))→h5.le h'∧IntKind.i64.wrap (a+1)=((degL (es.take (q+1)) T T[m]:Nat):Int):=fun h' hl hn=>⟨hl,by rw [hst,if_pos hn,ha,w64 (by omega)]; omega⟩
     refine zjp (hI.le hl7) (by omega) fun h9 hl9=>?_
     have l9:=Hp.le_trans hl7 hl9
     refine za1 (fun h10=>?_) (fun h10=>same _ l9 fun hh=>h10 hh.1)
     refine zjp (hI.le l9) (by omega) fun h11 hl11=>?_
     have l11:=Hp.le_trans l9 hl11
     refine za1 (fun h12=>?_) (fun h12=>same _ l11 fun hh=>h12 hh.2.1)
     refine (hI.le l11).get m rfl hm ?_
     refine zae (fun h13=>more _ l11 ⟨h10,h12,.inl h13⟩) (fun h13=>?_)
     refine (hI.le l11).get m rfl hm ?_
     exact zae (fun h14=>more _ l11 ⟨h10,h12,.inr h14⟩) (fun h14=>same _ l11 fun hh=>hh.2.2.elim h13 h14)
   · have:q=es.length:=by simp only at h8; omega
     subst this
     rw [List.take_length] at ha
     have hI7:=hI.le hl7
     refine za1 (fun h9=>?_) (fun h9=>?_)
     · have hd:degL es T T[m]≤2:=by simp only at h9; omega
       refine hI7.get m rfl hm ?_
       refine zq0 hI7 (by omega) fun y6 h10 ho10=>?_
       have hlt:(T.filter fun x=>x != T[m]).length<T.length:=List.length_filter_lt_length_iff_exists.2 ⟨T[m],List.getElem_mem hm,by simp⟩
       have h6l:=ho10.il.len
       refine ⟨_,y6,(T.filter fun x=>x != T[m]).length,by rw [h6l],Hp.le_trans hl5 (Hp.le_trans hl7 ho10.dle),ho10.il,?_,fun C hC hC3 x hx=>?_,Nat.le_refl _,fun j hj hn=>by omega,by omega⟩
       · exact zz9 hsub
       · have hx2:=hgr C hC hC3 x hx
         refine List.mem_filter.2 ⟨hx2,?_⟩
         have:=zms hC3 (hgr C hC hC3) hd
         simp only [bne_iff_ne,ne_eq]
         rintro rfl
         exact this hx
     · refine ⟨T,y,m,rfl,Hp.le_trans hl5 hl7,hI7,hsub,hgr,by omega,fun j hj hmj=>?_,by omega⟩
       rcases Nat.lt_or_ge m j with h10 | h10
       · exact hno j hj (by omega)
       · have:j=m:=by omega
         subst this
         simp only at h9
         omega
 · have:n=0:=by simp only at h6; omega
   subst this
   refine hk _ _ hle5 (.inr ⟨hv,T,hI,hsub,fun x hx=>?_,hgr⟩)
   obtain ⟨j,hj,rfl⟩:=List.mem_iff_getElem.1 hx
   exact hno j hj (by omega)
end
end Den
end

section
namespace Den
open Go Iv Lx Go.Proofs
open Go.ChangeShapes Go.WideShapes Go.ChangeAt Go.RowKit
section
variable {H : Type} {enc : TypeId × Value → H} {w : World} {cs : List Value}
theorem c_gr:Tryz.prog.cellsOf 55=2:=by kernel_rfl
theorem c_a2:Tryz.prog.cellsOf 108=2:=by kernel_rfl
theorem by_a2:Tryz.prog.bytesOf 108=16:=by kernel_rfl
theorem c_sa2:Tryz.prog.cellsOf 53=1:=by kernel_rfl
set_option maxRecDepth 10000 in
theorem za5i (h:Okt enc Tryz.prog w 108 cs):∃(x:A2_Int) (b:Int×Int),cs=a2c x∧A2P (hpW w) x b:=by
 obtain ⟨hl,hf⟩:=h.items Tryz.underlying108
 rw [c_a2] at hl
 have h0:=hf 0 (by decide)
 have h1:=hf 1 (by decide)
 rw [c_int] at h0 h1
 obtain ⟨a,e0,_⟩:=h0.int Tryz.underlying3
 obtain ⟨b,e1,_⟩:=h1.int Tryz.underlying3
 have e0':(cs.drop 0).take 1=[Value.int .i64 a]:=by simpa using e0
 have e1':(cs.drop 1).take 1=[Value.int .i64 b]:=by simpa using e1
 exact ⟨⟨a,b⟩,(a,b),zcy e0' (zcy e1' (zmo hl)),rfl,rfl⟩
def GRA (h:Hp) (g:TGraph):Prop:=∃es:List (Int×Int),LR a2c 2 A2P h g.edges es∧es.length≤140737488355328
theorem za82 (h:Okt enc Tryz.prog w 55 cs):∃x:TGraph,cs=[.int .i64 x.n,Lf.sl.up x.edges]∧GRA (hpW w) x:=by
 obtain ⟨hl,hf⟩:=h.fields Tryz.underlying55
 rw [c_gr] at hl
 have h0:Okt enc Tryz.prog w 3 ((cs.drop 0).take (Tryz.prog.cellsOf 3)):=hf 0 _ rfl
 have h1:Okt enc Tryz.prog w 53 ((cs.drop 1).take (Tryz.prog.cellsOf 53)):=hf 1 _ rfl
 rw [c_int] at h0
 rw [c_sa2] at h1
 obtain ⟨n,e0,_⟩:=h0.int Tryz.underlying3
 obtain ⟨s,hs,k1,k2,css,k3,k4,k5⟩:=h1.slice Tryz.underlying53
 obtain ⟨xs,ps,g1,g2,g3,g4⟩:=zus (c:=a2c) (Q:=A2P (hpW w)) (fun _ h=>za5i h) (fun d hd=>(k4 d hd).2)
 rw [c_a2,g1] at k5
 rw [by_a2,show reachBytes=140737488351232 from rfl] at k2
 exact ⟨⟨n,s⟩,zcy e0 (zcy hs (zmo hl)),ps,⟨xs,k5,k1,g2,g4⟩,by omega⟩
end
end Den
end

section
namespace Den
open Go
noncomputable def bd (fn:Func):Code:=match fn.body with | some c=>c | none=>.skip
section
variable {α ρ : Type} {A : ArgT α} {R : Ty ρ} {F : α → (ρ → Hp → Prop) → Hp → Prop} {g : Nat} {fn : Func}
theorem eo (C:Cfg) (an:An) (hf:C.P.funcs[g]?=some fn) (hC:Tab C C.tab) (hBk:BackTab C.P C.backs:=by exact trivial)
 (hb:fn.body=some (bd fn):=by exact rfl) (hn:fn.ntmps=C.n:=by exact rfl) (hname:(fn.name == "runtime.NumGoroutine")=false:=by decide) (ha:∀a,Nat.ble (A.up a).length C.n=true:=by exact fun _=>rfl)
 (hF:∀a K D,denF C fn (bd fn) an (A.up a) (fun v h=>R.dn v fun r=>K r h) D=F a K D:=by intro a K D; kernel_rfl):Entry C.P g (mkE A R F) false:=za1m hC hBk hf hb hn hname ha hF
theorem eoM (C:Cfg) (an:An) (hf:C.P.funcs[g]?=some fn) (hC:Tab C C.tab) (hBk:BackTab C.P C.backs:=by exact trivial)
 (hb:fn.body=some (bd fn):=by exact rfl) (hn:fn.ntmps=C.n:=by exact rfl) (hname:(fn.name == "runtime.NumGoroutine")=false:=by decide) (ha:∀a,Nat.ble (A.up a).length C.n=true:=by exact fun _=>rfl)
 (hF:∀a K D,denF C fn (bd fn) an (A.up a) (fun v h=>R.dn v fun r=>K r h) D=F a K D:=by intro a K D; kernel_rfl):Entry C.P g (mkM A R F) true:=zz7 hC hBk hf hb hn hname ha hF
end
end Den
end

section
namespace Den
open Go Go.RowKit Go.Shelf
open Go.Proofs
attribute [local go_sem] Oper.semAt_some
set_option maxRecDepth 100000 in
set_option maxHeartbeats 2000000 in
theorem zwq:BackFn Tryz.prog 257 (.leaf (.int .u32)):=by
 refine ⟨enters_of Tryz.func257 (by kernel_rfl) rfl,?_⟩
 rintro l ab ⟨xa,xl,xc⟩ J w hxl h0 hbox hround
 simp only at hxl h0 hbox hround
 have hb0:=hbox _ _ h0
 refine callsIn_of_wp Tryz.func257 rfl trivial ?_ rfl
 simp only [Tryz.ntmps257,List.size_toArray,List.length_cons,List.length_nil,Nat.reduceAdd,Nat.reduceSub,Array.replicate_succ,Array.replicate_zero,List.push_toArray,List.append_toArray,List.nil_append,List.cons_append]
 gi_wp2
 gi_loopw [3] (fun i wr=>∃k:Nat,k≤xl∧i=.int .i64 ((k:Int)-1)∧J k wr) (fun i _=>(intOf i+1).toNat)
 case atStart=>exact ⟨xl,Nat.le_refl _,rfl,h0⟩
 case round=>
  obtain ⟨k,hk,rfl,hJ⟩:=hrel
  have hbx:=hbox _ _ hJ
  cases k with
  | zero=>
    gi_wp2
    go_end0
    exact ⟨⟨_,rfl⟩,hJ⟩
  | succ j=>
    obtain ⟨ad,v,hxa,hcells,f,tmps1,asg,body,hy,hR⟩:=hround j wr (by omega) hJ
    subst hxa
    have hc0:wr.cell? (ad.add j)=some (.int .u32 v):=by
     have:=hcells 0 (.int .u32 v) rfl
     simpa [STy.size] using this
    have hkj:(((j+1:Nat):Int)-1)=(j:Int):=by omega
    rw [hkj]
    simp only [STy.val,Lf.up] at hy
    gi_wp2
    refine ⟨rfl,hR.mono ?_⟩
    rintro e W3 ⟨rfl,hJ3⟩
    gi_wp2
    go_roundw
    case rel=>exact ⟨j,by omega,by simp,hJ3⟩
    case measure=>simp [intOf]
end Den
end

section
set_option maxRecDepth 100000
namespace Den
open Go Go.Proofs.Tryz
noncomputable section
noncomputable def e_x0:FSem:=mkE (ArgT.cons (Ty.leaf .sl) ArgT.nil) (Ty.leaf .bool) fun a=>F.zh8 a.1
theorem t_x0:Entry prog 169 e_x0 false:=eo { P:=prog,n:=6,tab:=[] } (.seq .leaf (.seq .leaf .leaf)) func169 trivial
noncomputable def e_x1:FSem:=mkE (ArgT.cons (Ty.leaf .sl) (ArgT.fn 169 ArgT.nil)) (Ty.leaf (.int .i64)) fun a=>F.zbh a.1
theorem t_x1:Entry prog 210 e_x1 false:=eo { P:=prog,n:=19,tab:=[(169,e_x0)] } (.seq .leaf (.seq (.seq .leaf (.block (.loop [(8,.leaf (.int .i64))] (.seq .leaf (.seq (.cond .leaf .leaf) (.seq (.block (.seq .leaf (.seq .leaf (.cond (.seq .leaf .leaf) .leaf)))) .leaf)))))) (.seq .leaf .leaf))) func210 ⟨t_x0,trivial⟩
noncomputable def e_x2:FSem:=mkE (ArgT.cons (Ty.leaf .sl) (ArgT.fn 169 ArgT.nil)) (Ty.leaf .bool) fun a=>F.zb8 a.1
theorem t_x2:Entry prog 168 e_x2 false:=eo { P:=prog,n:=9,tab:=[(210,e_x1)] } (.seq .leaf (.seq .leaf .leaf)) func168 ⟨t_x1,trivial⟩
noncomputable def e_x3:FSem:=mkE (ArgT.cons tyTSketch ArgT.nil) (Ty.leaf .bool) fun a=>F.zgo a.1
theorem t_x3:Entry prog 113 e_x3 false:=eo { P:=prog,n:=35,tab:=[(168,e_x2)],rtL:=[(5,1),(8,1),(11,1),(14,1),(17,1),(20,1),(32,1)],locL:=[1] } (.seq .leaf (.seq (.seq .leaf (.block (.loop [(25,.leaf (.int .i64))] (.seq .leaf (.seq (.cond .leaf .leaf) (.seq (.block (.seq .leaf (.seq .leaf (.cond (.seq .leaf .leaf) .leaf)))) .leaf)))))) (.seq .leaf .leaf))) func113 ⟨t_x2,trivial⟩
noncomputable def e_x4:FSem:=mkE (ArgT.cons tyTInt ArgT.nil) (Ty.leaf .bool) fun a=>F.zff a.1
theorem t_x4:Entry prog 172 e_x4 false:=eo { P:=prog,n:=27,tab:=[],rtL:=[(4,1),(10,1),(18,1)],locL:=[1] } (.seq .leaf (.seq .leaf (.seq .leaf .leaf))) func172 trivial
noncomputable def e_x5:FSem:=mkE (ArgT.cons (Ty.leaf .sl) ArgT.nil) (Ty.leaf .sl) fun a=>F.zac a.1
theorem t_x5:Entry prog 212 e_x5 false:=eo { P:=prog,n:=21,tab:=[] } (.seq .leaf (.seq (.block (.loop [(0,.leaf (.sl))] (.join [] (.seq .leaf (.cond .leaf .leaf)) (.block .leaf)))) (.seq .leaf .leaf))) func212 trivial
noncomputable def e_x6:FSem:=mkE (ArgT.cons tyTInt ArgT.nil) (Ty.leaf (.int .i64)) fun a=>F.zdm a.1
theorem t_x6:Entry prog 173 e_x6 false:=eo { P:=prog,n:=12,tab:=[(212,e_x5)],rtL:=[(4,1),(10,1)],locL:=[1] } (.seq .leaf (.seq (.block (.seq .leaf (.cond (.seq .leaf .leaf) (.seq .leaf (.cond (.seq .leaf .leaf) .leaf))))) (.seq .leaf .leaf))) func173 ⟨t_x5,trivial⟩
noncomputable def e_x7:FSem:=mkE (ArgT.cons (Ty.leaf .sl) ArgT.nil) (Ty.leaf .sl) fun a=>F.zax a.1
theorem t_x7:Entry prog 215 e_x7 false:=eo { P:=prog,n:=8,tab:=[] } (.seq .leaf (.seq (.seq .leaf (.cond (.seq .leaf .leaf) .leaf)) (.seq .leaf .leaf))) func215 trivial
noncomputable def e_x8:FSem:=mkE (ArgT.cons (Ty.leaf .bool) (ArgT.cons (Ty.leaf .sl) ArgT.nil)) tyTInt fun a=>F.zbv a.1 a.2.1
theorem t_x8:Entry prog 214 e_x8 false:=eo { P:=prog,n:=14,tab:=[(212,e_x5)],locL:=[4] } (.seq .leaf (.seq .leaf (.seq (.seq .leaf (.cond (.seq .leaf .leaf) .leaf)) (.seq .leaf .leaf)))) func214 ⟨t_x5,trivial⟩
noncomputable def e_x9:FSem:=mkE (ArgT.cons (Ty.leaf .sl) ArgT.nil) (Ty.clo 257) fun a=>F.zbn a.1
theorem t_x9:Entry prog 246 e_x9 false:=eo { P:=prog,n:=4,tab:=[] } (.seq .leaf (.seq .leaf .leaf)) func246 trivial
noncomputable def e_x10:FSem:=mkE (ArgT.cons (Ty.leaf .sl) ArgT.nil) (Ty.leaf (.int .u64)) fun a=>F.zcr a.1
theorem t_x10:Entry prog 216 e_x10 false:=eo { P:=prog,n:=16,tab:=[(246,e_x9)],locL:=[3],backs:=[(257,(.leaf (.int .u32)))] } (.seq .leaf (.seq .leaf (.seq (.seq .leaf (.block (.back [(3,.box [.int .u64])] .leaf (.block .leaf)))) (.seq .leaf .leaf)))) func216 ⟨t_x9,trivial⟩ ⟨zwq,trivial⟩
noncomputable def e_x11:FSem:=mkE (ArgT.cons (Ty.leaf (.int .u64)) ArgT.nil) (Ty.leaf .sl) fun a=>F.zbx a.1
theorem t_x11:Entry prog 217 e_x11 false:=eo { P:=prog,n:=10,tab:=[(212,e_x5)] } (.seq .leaf (.seq .leaf .leaf)) func217 ⟨t_x5,trivial⟩
noncomputable def e_x12:FSem:=mkE (ArgT.cons (Ty.leaf (.int .i64)) ArgT.nil) (Ty.leaf .bool) fun a=>F.zfb a.1
theorem t_x12:Entry prog 209 e_x12 false:=eo { P:=prog,n:=6,tab:=[] } (.seq .leaf (.seq .leaf .leaf)) func209 trivial
noncomputable def e_x13:FSem:=mkE (ArgT.cons (Ty.leaf (.int .i64)) (ArgT.cons (Ty.leaf (.int .i64)) ArgT.nil)) (Ty.leaf (.int .i64)) fun a=>F.zcu a.1 a.2.1
theorem t_x13:Entry prog 163 e_x13 false:=eo { P:=prog,n:=20,tab:=[(209,e_x12)] } (.seq .leaf (.seq .leaf (.seq .leaf (.seq (.seq .leaf (.cond (.seq (.seq .leaf (.cond (.seq .leaf .leaf) .leaf)) (.seq .leaf .leaf)) .leaf)) (.seq (.seq .leaf (.cond (.seq .leaf .leaf) .leaf)) (.seq (.seq .leaf (.cond (.seq .leaf .leaf) .leaf)) (.seq (.seq .leaf (.cond (.seq .leaf .leaf) .leaf)) (.seq .leaf .leaf)))))))) func163 ⟨t_x12,trivial⟩
noncomputable def e_x14:FSem:=mkE (ArgT.cons (Ty.leaf (.int .u32)) ArgT.nil) (Ty.leaf .bool) fun a=>F.ze3 a.1
theorem t_x14:Entry prog 272 e_x14 false:=eo { P:=prog,n:=6,tab:=[] } (.seq .leaf (.seq .leaf .leaf)) func272 trivial
noncomputable def e_x15:FSem:=mkE (ArgT.cons (Ty.leaf (.int .u32)) (ArgT.cons (Ty.leaf (.int .u32)) ArgT.nil)) (Ty.leaf (.int .i64)) fun a=>F.ze9 a.1 a.2.1
theorem t_x15:Entry prog 255 e_x15 false:=eo { P:=prog,n:=20,tab:=[(272,e_x14)] } (.seq .leaf (.seq .leaf (.seq .leaf (.seq (.seq .leaf (.cond (.seq (.seq .leaf (.cond (.seq .leaf .leaf) .leaf)) (.seq .leaf .leaf)) .leaf)) (.seq (.seq .leaf (.cond (.seq .leaf .leaf) .leaf)) (.seq (.seq .leaf (.cond (.seq .leaf .leaf) .leaf)) (.seq (.seq .leaf (.cond (.seq .leaf .leaf) .leaf)) (.seq .leaf .leaf)))))))) func255 ⟨t_x14,trivial⟩
noncomputable def e_x16:FSem:=mkE (ArgT.cons (Ty.leaf .sl) (ArgT.cons (Ty.leaf .sl) ArgT.nil)) (Ty.leaf (.int .i64)) fun a=>F.zdq a.1 a.2.1
theorem t_x16:Entry prog 239 e_x16 false:=eo { P:=prog,n:=41,tab:=[(163,e_x13),(255,e_x15)] } (.seq .leaf (.seq (.seq .leaf (.cond (.seq .leaf .leaf) .leaf)) (.seq (.seq .leaf (.block (.loop [(5,.leaf (.int .i64))] (.seq (.seq .leaf (.cond .leaf .leaf)) (.seq (.block (.seq (.draw [0,1,2,3,4,5,6,7,8]) (.cond (.seq (.draw [0,1,2,3,4,5,6,7,8,9]) .leaf) .leaf))) .leaf))))) (.seq .leaf .leaf)))) func239 ⟨t_x13,t_x15,trivial⟩
noncomputable def e_x17:FSem:=mkE (ArgT.cons (Ty.leaf .sl) (ArgT.cons (Ty.leaf (.int .u32)) ArgT.nil)) (Ty.tup (.cons (Ty.leaf .sl) (.cons (Ty.leaf .sl) .nil)) (fun x=>(x.1,x.2,())) (fun y=>(y.1,y.2.1)) (fun _=>rfl) (fun _=>rfl)) fun a=>F.zec a.1 a.2.1
theorem t_x17:Entry prog 240 e_x17 false:=eo { P:=prog,n:=43,tab:=[(212,e_x5),(217,e_x11)] } (.seq .leaf (.seq .leaf (.seq .leaf (.seq (.seq .leaf (.block (.loop [(7,.leaf (.int .u64)),(8,.leaf (.int .i64))] (.seq (.seq .leaf (.cond .leaf .leaf)) (.seq (.block (.seq .leaf (.seq .leaf .leaf))) .leaf))))) (.seq .leaf .leaf))))) func240 ⟨t_x5,t_x11,trivial⟩
noncomputable def e_x18:FSem:=mkE (ArgT.cons (Ty.leaf (.int .u32)) ArgT.nil) (Ty.leaf (.int .i64)) fun a=>F.zfx a.1
theorem t_x18:Entry prog 256 e_x18 false:=eo { P:=prog,n:=19,tab:=[] } (.seq .leaf (.join [(0,.leaf (.int .u32)),(2,.leaf (.int .i64))] (.seq .leaf (.cond (.seq .leaf .leaf) .leaf)) (.join [(0,.leaf (.int .u32)),(2,.leaf (.int .i64))] (.seq .leaf (.cond (.seq .leaf .leaf) .leaf)) (.seq .leaf .leaf)))) func256 trivial
noncomputable def e_x19:FSem:=mkE (ArgT.cons (Ty.leaf (.int .u32)) ArgT.nil) (Ty.leaf (.int .i64)) fun a=>F.zcz a.1
theorem t_x19:Entry prog 241 e_x19 false:=eo { P:=prog,n:=6,tab:=[(256,e_x18)] } (.seq .leaf (.seq .leaf .leaf)) func241 ⟨t_x18,trivial⟩
noncomputable def e_x20:FSem:=mkE (ArgT.cons (Ty.leaf .sl) (ArgT.cons (Ty.leaf (.int .i64)) ArgT.nil)) (Ty.leaf .sl) fun a=>F.zd4 a.1 a.2.1
theorem t_x20:Entry prog 242 e_x20 false:=eo { P:=prog,n:=41,tab:=[] } (.seq .leaf (.seq .leaf (.seq (.seq .leaf (.block (.loop [(15,.leaf (.int .i64))] (.seq .leaf (.seq (.cond .leaf .leaf) (.seq (.block (.seq .leaf (.seq .leaf (.seq .leaf .leaf)))) .leaf)))))) (.seq .leaf .leaf)))) func242 trivial
noncomputable def e_x21:FSem:=mkM (ArgT.cons (Ty.leaf .sl) (ArgT.cons (Ty.leaf .sl) (ArgT.cons (Ty.leaf (.int .u64)) ArgT.nil))) (Ty.leaf .bool) fun a=>F.zf6 a.1 a.2.1 a.2.2.1
theorem t_x21:Entry prog 243 e_x21 true:=eoM { P:=prog,n:=63,tab:=[] } (.seq .leaf (.seq .leaf (.seq (.seq .leaf (.block (.loop [(7,.leaf (.int .u64)),(15,.leaf (.int .i64))] (.seq .leaf (.seq (.cond .leaf .leaf) (.seq (.block (.seq .leaf (.seq .leaf (.seq .leaf (.seq .leaf .leaf))))) .leaf)))))) (.seq .leaf (.seq .leaf (.seq .leaf .leaf)))))) func243 trivial
noncomputable def e_x22:FSem:=mkM (ArgT.cons (Ty.leaf .sl) (ArgT.cons (Ty.leaf .sl) ArgT.nil)) Ty.unit fun a=>F.zfw a.1 a.2.1
theorem t_x22:Entry prog 244 e_x22 true:=eoM { P:=prog,n:=41,tab:=[] } (.seq .leaf (.seq (.seq .leaf (.block (.loop [(4,.leaf (.int .u64)),(9,.leaf (.int .i64))] (.seq .leaf (.seq (.cond .leaf .leaf) (.seq (.block (.seq .leaf (.seq .leaf (.seq .leaf .leaf)))) .leaf)))))) .leaf)) func244 trivial
noncomputable def e_x23:FSem:=mkE (ArgT.cons (Ty.leaf .sl) (ArgT.cons (Ty.leaf (.int .i64)) ArgT.nil)) (Ty.leaf .sl) fun a=>F.zed a.1 a.2.1
theorem t_x23:Entry prog 245 e_x23 false:=eo { P:=prog,n:=47,tab:=[] } (.seq .leaf (.seq .leaf (.seq (.seq .leaf (.block (.loop [(13,.leaf (.int .i64))] (.seq .leaf (.seq (.cond .leaf .leaf) (.join [] (.block (.seq .leaf (.seq .leaf (.seq .leaf (.cond (.draw [0,1,2,3,4,5,6,7,8,9,10,11,12,13,14,15,16]) .leaf))))) .leaf)))))) (.seq .leaf .leaf)))) func245 trivial
noncomputable def e_x24:FSem:=mkE (ArgT.cons (Ty.leaf .sl) (ArgT.cons (Ty.leaf .sl) ArgT.nil)) (Ty.tup (.cons (Ty.leaf .sl) (.cons (Ty.leaf .sl) .nil)) (fun x=>(x.1,x.2,())) (fun y=>(y.1,y.2.1)) (fun _=>rfl) (fun _=>rfl)) fun a=>F.zdb a.1 a.2.1
theorem t_x24:Entry prog 213 e_x24 false:=eo { P:=prog,n:=177,tab:=[(239,e_x16),(215,e_x7),(216,e_x10),(217,e_x11),(240,e_x17),(241,e_x19),(242,e_x20),(212,e_x5),(243,e_x21),(244,e_x22),(245,e_x23)],mutL:=[243,244] } (.seq .leaf (.seq (.block (.seq .leaf (.cond (.seq .leaf .leaf) (.seq .leaf (.cond (.seq .leaf (.seq (.draw [0,1,2,4,5,6,3,7,8,9]) .leaf)) (.seq .leaf (.cond (.seq .leaf .leaf) .leaf))))))) (.seq .leaf (.seq .leaf (.seq .leaf (.seq .leaf (.seq (.draw [0,1,2,3,4,5,6,7,8,9,10,11,12,13]) (.seq (.seq .leaf (.block (.loop [(15,.leaf (.int .i64))] (.seq (.seq .leaf (.cond .leaf .leaf)) (.seq (.block (.seq (.draw [0,1,2,3,4,5,6,7,8,9,10,11,12,13,14,15,16,17]) (.seq (.draw [0,1,2,3,4,5,6,7]) (.join [(17,.leaf (.int .u64))] (.block (.loop [(17,.leaf (.int .u64)),(18,.leaf (.int .u64))] (.join [] (.seq .leaf (.cond .leaf .leaf)) (.block (.seq .leaf (.seq .leaf (.seq .leaf (.cond .leaf .leaf)))))))) (.join [(17,.leaf (.int .u64))] (.seq .leaf (.cond (.seq .leaf .leaf) .leaf)) .leaf))))) .leaf))))) (.seq (.draw [0,2,3,4,6,1,5,7,8,9,10]) .leaf))))))))) func213 ⟨t_x16,t_x7,t_x10,t_x11,t_x17,t_x19,t_x20,t_x5,t_x21,t_x22,t_x23,trivial⟩
noncomputable def e_x25:FSem:=mkE (ArgT.cons tyTInt (ArgT.cons tyTInt ArgT.nil)) tyTInt fun a=>F.zfo a.1 a.2.1
theorem t_x25:Entry prog 175 e_x25 false:=eo { P:=prog,n:=57,tab:=[(212,e_x5),(215,e_x7),(214,e_x8),(216,e_x10),(217,e_x11),(213,e_x24)],rtL:=[(11,2),(14,3)],locL:=[2,3,4] } (.seq .leaf (.seq (.draw [0,1,3,4,2,5,6,7]) (.join [(5,.leaf (.sl)),(6,.leaf (.sl))] (.block (.loop [(5,.leaf (.sl)),(6,.leaf (.sl))] (.join [] (.seq .leaf (.cond .leaf .leaf)) (.block (.seq .leaf .leaf))))) (.seq (.seq .leaf (.cond (.seq .leaf .leaf) .leaf)) (.seq .leaf (.seq (.block (.loop [(9,.leaf (.int .u64)),(10,.leaf (.int .u64))] (.seq (.seq .leaf (.cond .leaf .leaf)) (.block (.draw [0,1,2,3,4,5]))))) (.seq .leaf .leaf))))))) func175 ⟨t_x5,t_x7,t_x8,t_x10,t_x11,t_x24,trivial⟩
noncomputable def e_x26:FSem:=mkE (ArgT.cons tyTInt ArgT.nil) (Ty.leaf .bool) fun a=>F.zdc a.1
theorem t_x26:Entry prog 174 e_x26 false:=eo { P:=prog,n:=19,tab:=[],rtL:=[(3,1),(7,1),(13,1)],locL:=[1] } (.seq .leaf (.seq .leaf .leaf)) func174 trivial
noncomputable def e_x27:FSem:=mkE (ArgT.cons tyTRat ArgT.nil) (Ty.leaf .bool) fun a=>F.zcs a.1
theorem t_x27:Entry prog 116 e_x27 false:=eo { P:=prog,n:=25,tab:=[(172,e_x4),(173,e_x6),(175,e_x25),(174,e_x26)],rtL:=[(3,1),(7,1),(12,1),(18,1),(20,1)],locL:=[1] } (.seq .leaf (.seq .leaf .leaf)) func116 ⟨t_x4,t_x6,t_x25,t_x26,trivial⟩
noncomputable def e_x28:FSem:=mkE (ArgT.cons tyTPoint ArgT.nil) (Ty.leaf .bool) fun a=>F.zic a.1
theorem t_x28:Entry prog 115 e_x28 false:=eo { P:=prog,n:=11,tab:=[(116,e_x27)],rtL:=[(3,1),(7,1)],locL:=[1] } (.seq .leaf (.seq .leaf .leaf)) func115 ⟨t_x27,trivial⟩
noncomputable def e_x29:FSem:=mkE (ArgT.cons tyTPoint (ArgT.cons (Ty.leaf .ptr) ArgT.nil)) (Ty.leaf .bool) fun a=>F.zcg a.1 a.2.1
theorem t_x29:Entry prog 171 e_x29 false:=eo { P:=prog,n:=8,tab:=[(115,e_x28)],locL:=[2],fnL:=[(4,115,0)] } (.seq .leaf (.seq .leaf .leaf)) func171 ⟨t_x28,trivial⟩
noncomputable def e_x30:FSem:=mkE (ArgT.cons (Ty.leaf .sl) (ArgT.fnc 171 1 ArgT.nil)) (Ty.leaf (.int .i64)) fun a=>F.zan a.1 a.2.1
theorem t_x30:Entry prog 211 e_x30 false:=eo { P:=prog,n:=19,tab:=[(171,e_x29)] } (.seq .leaf (.seq (.seq .leaf (.block (.loop [(8,.leaf (.int .i64))] (.seq .leaf (.seq (.cond .leaf .leaf) (.seq (.block (.seq .leaf (.seq .leaf (.cond (.seq .leaf .leaf) .leaf)))) .leaf)))))) (.seq .leaf .leaf))) func211 ⟨t_x29,trivial⟩
noncomputable def e_x31:FSem:=mkE (ArgT.cons (Ty.leaf .sl) (ArgT.fnc 171 1 ArgT.nil)) (Ty.leaf .bool) fun a=>F.zaj a.1 a.2.1
theorem t_x31:Entry prog 170 e_x31 false:=eo { P:=prog,n:=9,tab:=[(211,e_x30)] } (.seq .leaf (.seq .leaf .leaf)) func170 ⟨t_x30,trivial⟩
noncomputable def e_x32:FSem:=mkE (ArgT.cons (Ty.leaf .sl) (ArgT.fn 115 ArgT.nil)) (Ty.leaf .bool) fun a=>F.zc0 a.1
theorem t_x32:Entry prog 114 e_x32 false:=eo { P:=prog,n:=9,tab:=[(170,e_x31)] } (.seq .leaf (.seq .leaf .leaf)) func114 ⟨t_x31,trivial⟩
noncomputable def e_x33:FSem:=mkE (ArgT.cons (Ty.leaf (.int .i64)) (ArgT.cons (Ty.leaf (.int .i64)) ArgT.nil)) (Ty.leaf .bool) fun a=>F.zdg a.1 a.2.1
theorem t_x33:Entry prog 119 e_x33 false:=eo { P:=prog,n:=12,tab:=[] } (.seq .leaf (.seq .leaf .leaf)) func119 trivial
noncomputable def e_x34:FSem:=mkE (ArgT.cons tyTRat ArgT.nil) (Ty.leaf (.int .i64)) fun a=>F.ze8 a.1
theorem t_x34:Entry prog 120 e_x34 false:=eo { P:=prog,n:=6,tab:=[(173,e_x6)],rtL:=[(3,1)],locL:=[1] } (.seq .leaf (.seq .leaf .leaf)) func120 ⟨t_x6,trivial⟩
noncomputable def e_x35:FSem:=mkE (ArgT.cons tyTRound (ArgT.cons (Ty.leaf .ptr) ArgT.nil)) (Ty.leaf .bool) fun a=>F.zid a.1 a.2.1
theorem t_x35:Entry prog 118 e_x35 false:=eo { P:=prog,n:=19,tab:=[(119,e_x33),(116,e_x27),(120,e_x34)],rtL:=[(5,2),(9,2),(14,2)],locL:=[2] } (.seq .leaf (.seq .leaf .leaf)) func118 ⟨t_x33,t_x27,t_x34,trivial⟩
noncomputable def e_x36:FSem:=mkE (ArgT.cons tyTRound (ArgT.cons (Ty.leaf .ptr) ArgT.nil)) (Ty.leaf .bool) fun a=>F.zch a.1 a.2.1
theorem t_x36:Entry prog 177 e_x36 false:=eo { P:=prog,n:=8,tab:=[(118,e_x35)],locL:=[2],fnL:=[(4,118,1)] } (.seq .leaf (.seq .leaf .leaf)) func177 ⟨t_x35,trivial⟩
noncomputable def e_x37:FSem:=mkE (ArgT.cons (Ty.leaf .sl) (ArgT.fnc 177 1 ArgT.nil)) (Ty.leaf (.int .i64)) fun a=>F.zao a.1 a.2.1
theorem t_x37:Entry prog 218 e_x37 false:=eo { P:=prog,n:=19,tab:=[(177,e_x36)] } (.seq .leaf (.seq (.seq .leaf (.block (.loop [(8,.leaf (.int .i64))] (.seq .leaf (.seq (.cond .leaf .leaf) (.seq (.block (.seq .leaf (.seq .leaf (.cond (.seq .leaf .leaf) .leaf)))) .leaf)))))) (.seq .leaf .leaf))) func218 ⟨t_x36,trivial⟩
noncomputable def e_x38:FSem:=mkE (ArgT.cons (Ty.leaf .sl) (ArgT.fnc 177 1 ArgT.nil)) (Ty.leaf .bool) fun a=>F.zak a.1 a.2.1
theorem t_x38:Entry prog 176 e_x38 false:=eo { P:=prog,n:=9,tab:=[(218,e_x37)] } (.seq .leaf (.seq .leaf .leaf)) func176 ⟨t_x37,trivial⟩
noncomputable def e_x39:FSem:=mkE (ArgT.cons (Ty.leaf .sl) (ArgT.fnc 118 1 ArgT.nil)) (Ty.leaf .bool) fun a=>F.zc1 a.1 a.2.1
theorem t_x39:Entry prog 117 e_x39 false:=eo { P:=prog,n:=9,tab:=[(176,e_x38)] } (.seq .leaf (.seq .leaf .leaf)) func117 ⟨t_x38,trivial⟩
end
end Den
end

section
set_option maxRecDepth 100000
namespace Den
open Go Go.Proofs.Tryz
noncomputable section
noncomputable def e_x40:FSem:=mkE (ArgT.cons tyTSegment (ArgT.cons (Ty.leaf .ptr) ArgT.nil)) (Ty.leaf .bool) fun a=>F.zie a.1 a.2.1
theorem t_x40:Entry prog 122 e_x40 false:=eo { P:=prog,n:=21,tab:=[(119,e_x33)],rtL:=[(5,2),(10,2),(15,2),(17,2)],locL:=[2] } (.seq .leaf (.seq .leaf .leaf)) func122 ⟨t_x33,trivial⟩
noncomputable def e_x41:FSem:=mkE (ArgT.cons tyTSegment (ArgT.cons (Ty.leaf .ptr) ArgT.nil)) (Ty.leaf .bool) fun a=>F.zca a.1 a.2.1
theorem t_x41:Entry prog 179 e_x41 false:=eo { P:=prog,n:=8,tab:=[(122,e_x40)],locL:=[2],fnL:=[(4,122,1)] } (.seq .leaf (.seq .leaf .leaf)) func179 ⟨t_x40,trivial⟩
noncomputable def e_x42:FSem:=mkE (ArgT.cons (Ty.leaf .sl) (ArgT.fnc 179 1 ArgT.nil)) (Ty.leaf (.int .i64)) fun a=>F.zah a.1 a.2.1
theorem t_x42:Entry prog 219 e_x42 false:=eo { P:=prog,n:=19,tab:=[(179,e_x41)] } (.seq .leaf (.seq (.seq .leaf (.block (.loop [(8,.leaf (.int .i64))] (.seq .leaf (.seq (.cond .leaf .leaf) (.seq (.block (.seq .leaf (.seq .leaf (.cond (.seq .leaf .leaf) .leaf)))) .leaf)))))) (.seq .leaf .leaf))) func219 ⟨t_x41,trivial⟩
noncomputable def e_x43:FSem:=mkE (ArgT.cons (Ty.leaf .sl) (ArgT.fnc 179 1 ArgT.nil)) (Ty.leaf .bool) fun a=>F.zag a.1 a.2.1
theorem t_x43:Entry prog 178 e_x43 false:=eo { P:=prog,n:=9,tab:=[(219,e_x42)] } (.seq .leaf (.seq .leaf .leaf)) func178 ⟨t_x42,trivial⟩
noncomputable def e_x44:FSem:=mkE (ArgT.cons (Ty.leaf .sl) (ArgT.fnc 122 1 ArgT.nil)) (Ty.leaf .bool) fun a=>F.zbt a.1 a.2.1
theorem t_x44:Entry prog 121 e_x44 false:=eo { P:=prog,n:=9,tab:=[(178,e_x43)] } (.seq .leaf (.seq .leaf .leaf)) func121 ⟨t_x43,trivial⟩
noncomputable def e_x45:FSem:=mkE (ArgT.cons tyTSketch (ArgT.cons tyTArc ArgT.nil)) (Ty.leaf .bool) fun a=>F.zg0 a.1 a.2.1
theorem t_x45:Entry prog 125 e_x45 false:=eo { P:=prog,n:=48,tab:=[(119,e_x33)],rtL:=[(6,2),(9,3),(14,2),(17,3),(23,2),(26,3),(31,2),(33,3),(38,3),(43,3)],locL:=[2,3] } (.seq .leaf (.join [] (.seq .leaf (.cond (.seq .leaf .leaf) .leaf)) (.seq .leaf (.seq .leaf .leaf)))) func125 ⟨t_x33,trivial⟩
noncomputable def e_x46:FSem:=mkE (ArgT.cons tyTArc (ArgT.cons (Ty.leaf .ptr) ArgT.nil)) (Ty.leaf .bool) fun a=>F.zif a.1 a.2.1
theorem t_x46:Entry prog 124 e_x46 false:=eo { P:=prog,n:=7,tab:=[(125,e_x45)],locL:=[2] } (.seq .leaf (.seq .leaf .leaf)) func124 ⟨t_x45,trivial⟩
noncomputable def e_x47:FSem:=mkE (ArgT.cons tyTArc (ArgT.cons (Ty.leaf .ptr) ArgT.nil)) (Ty.leaf .bool) fun a=>F.zcn a.1 a.2.1
theorem t_x47:Entry prog 181 e_x47 false:=eo { P:=prog,n:=8,tab:=[(124,e_x46)],locL:=[2],fnL:=[(4,124,1)] } (.seq .leaf (.seq .leaf .leaf)) func181 ⟨t_x46,trivial⟩
noncomputable def e_x48:FSem:=mkE (ArgT.cons (Ty.leaf .sl) (ArgT.fnc 181 1 ArgT.nil)) (Ty.leaf (.int .i64)) fun a=>F.zas a.1 a.2.1
theorem t_x48:Entry prog 220 e_x48 false:=eo { P:=prog,n:=19,tab:=[(181,e_x47)] } (.seq .leaf (.seq (.seq .leaf (.block (.loop [(8,.leaf (.int .i64))] (.seq .leaf (.seq (.cond .leaf .leaf) (.seq (.block (.seq .leaf (.seq .leaf (.cond (.seq .leaf .leaf) .leaf)))) .leaf)))))) (.seq .leaf .leaf))) func220 ⟨t_x47,trivial⟩
noncomputable def e_x49:FSem:=mkE (ArgT.cons (Ty.leaf .sl) (ArgT.fnc 181 1 ArgT.nil)) (Ty.leaf .bool) fun a=>F.zaq a.1 a.2.1
theorem t_x49:Entry prog 180 e_x49 false:=eo { P:=prog,n:=9,tab:=[(220,e_x48)] } (.seq .leaf (.seq .leaf .leaf)) func180 ⟨t_x48,trivial⟩
noncomputable def e_x50:FSem:=mkE (ArgT.cons (Ty.leaf .sl) (ArgT.fnc 124 1 ArgT.nil)) (Ty.leaf .bool) fun a=>F.zc5 a.1 a.2.1
theorem t_x50:Entry prog 123 e_x50 false:=eo { P:=prog,n:=9,tab:=[(180,e_x49)] } (.seq .leaf (.seq .leaf .leaf)) func123 ⟨t_x49,trivial⟩
noncomputable def e_x51:FSem:=mkE (ArgT.cons tyTSketch (ArgT.cons tyTPiece ArgT.nil)) (Ty.tup (.cons (Ty.leaf (.int .i64)) (.cons (Ty.leaf (.int .i64)) .nil)) (fun x=>(x.1,x.2,())) (fun y=>(y.1,y.2.1)) (fun _=>rfl) (fun _=>rfl)) fun a=>F.zgu a.1 a.2.1
theorem t_x51:Entry prog 183 e_x51 false:=eo { P:=prog,n:=44,tab:=[],rtL:=[(8,3),(10,2),(12,3),(17,2),(19,3),(24,2),(26,3),(31,2),(33,3),(38,3)],locL:=[2,3] } (.seq .leaf (.seq .leaf (.join [(6,.leaf (.int .i64)),(7,.leaf (.int .i64))] (.seq .leaf (.cond (.draw [0,1,2,3,4,5,6,7,8,9,10,11,12,13,14,15]) (.draw [0,1,2,3,4,5,6,7,8,9,10,11,12,13,14,15]))) (.seq (.seq .leaf (.cond (.seq .leaf .leaf) .leaf)) (.seq .leaf .leaf))))) func183 trivial
noncomputable def e_x52:FSem:=mkE (ArgT.cons tyTSketch (ArgT.cons (Ty.leaf .sl) ArgT.nil)) (Ty.leaf .bool) fun a=>F.zem a.1 a.2.1
theorem t_x52:Entry prog 128 e_x52 false:=eo { P:=prog,n:=49,tab:=[(119,e_x33),(183,e_x51)],rtL:=[(18,2),(21,7),(23,2),(27,7)],locL:=[2,7] } (.seq .leaf (.seq .leaf (.seq (.seq .leaf (.block (.loop [(5,.leaf (.int .i64)),(13,.leaf (.int .i64))] (.seq .leaf (.seq (.cond .leaf .leaf) (.join [(5,.leaf (.int .i64))] (.block (.seq .leaf (.seq .leaf (.join [(8,.leaf (.int .i64))] (.seq .leaf (.cond .leaf .leaf)) (.seq (.seq .leaf (.cond (.seq .leaf .leaf) .leaf)) (.seq .leaf (.seq (.seq .leaf (.cond (.seq .leaf .leaf) .leaf)) .leaf))))))) .leaf)))))) (.seq .leaf .leaf)))) func128 ⟨t_x33,t_x51,trivial⟩
noncomputable def e_x53:FSem:=mkE (ArgT.cons (Ty.leaf .sl) (ArgT.cons (Ty.leaf .ptr) ArgT.nil)) (Ty.leaf .bool) fun a=>F.zig a.1 a.2.1
theorem t_x53:Entry prog 127 e_x53 false:=eo { P:=prog,n:=7,tab:=[(128,e_x52)] } (.seq .leaf (.seq .leaf .leaf)) func127 ⟨t_x52,trivial⟩
noncomputable def e_x54:FSem:=mkE (ArgT.cons (Ty.leaf .sl) (ArgT.cons (Ty.leaf .ptr) ArgT.nil)) (Ty.leaf .bool) fun a=>F.zcf a.1 a.2.1
theorem t_x54:Entry prog 182 e_x54 false:=eo { P:=prog,n:=8,tab:=[(127,e_x53)],fnL:=[(4,127,1)] } (.seq .leaf (.seq .leaf .leaf)) func182 ⟨t_x53,trivial⟩
noncomputable def e_x55:FSem:=mkE (ArgT.cons (Ty.leaf .sl) (ArgT.fnc 182 1 ArgT.nil)) (Ty.leaf (.int .i64)) fun a=>F.zam a.1 a.2.1
theorem t_x55:Entry prog 210 e_x55 false:=eo { P:=prog,n:=19,tab:=[(182,e_x54)] } (.seq .leaf (.seq (.seq .leaf (.block (.loop [(8,.leaf (.int .i64))] (.seq .leaf (.seq (.cond .leaf .leaf) (.seq (.block (.seq .leaf (.seq .leaf (.cond (.seq .leaf .leaf) .leaf)))) .leaf)))))) (.seq .leaf .leaf))) func210 ⟨t_x54,trivial⟩
noncomputable def e_x56:FSem:=mkE (ArgT.cons (Ty.leaf .sl) (ArgT.fnc 182 1 ArgT.nil)) (Ty.leaf .bool) fun a=>F.zai a.1 a.2.1
theorem t_x56:Entry prog 168 e_x56 false:=eo { P:=prog,n:=9,tab:=[(210,e_x55)] } (.seq .leaf (.seq .leaf .leaf)) func168 ⟨t_x55,trivial⟩
noncomputable def e_x57:FSem:=mkE (ArgT.cons (Ty.leaf .sl) (ArgT.fnc 127 1 ArgT.nil)) (Ty.leaf .bool) fun a=>F.zbz a.1 a.2.1
theorem t_x57:Entry prog 126 e_x57 false:=eo { P:=prog,n:=9,tab:=[(168,e_x56)] } (.seq .leaf (.seq .leaf .leaf)) func126 ⟨t_x56,trivial⟩
noncomputable def e_x58:FSem:=mkE (ArgT.cons (Ty.leaf (.int .i64)) ArgT.nil) (Ty.tup (.cons zmg (.cons (Ty.leaf .bool) .nil)) (fun x=>(x.1,x.2,())) (fun y=>(y.1,y.2.1)) (fun _=>rfl) (fun _=>rfl)) fun a=>F.zdk a.1
theorem t_x58:Entry prog 109 e_x58 false:=eo { P:=prog,n:=15,tab:=[],locL:=[2] } (.seq .leaf (.join [(2,.box [.int .i64,.int .i64,.int .i64,.int .i64,.bool,.bool,.bool])] (.seq .leaf (.cond (.seq .leaf .leaf) .leaf)) (.seq .leaf .leaf))) func109 trivial
noncomputable def e_x59:FSem:=mkE (ArgT.cons (Ty.leaf (.int .i64)) ArgT.nil) tyTInt fun a=>F.zdp a.1
theorem t_x59:Entry prog 259 e_x59 false:=eo { P:=prog,n:=15,tab:=[(217,e_x11),(214,e_x8)],locL:=[2] } (.seq .leaf (.seq .leaf (.join [(3,.leaf (.int .u64))] (.seq .leaf (.cond .leaf .leaf)) (.seq .leaf .leaf)))) func259 ⟨t_x11,t_x8,trivial⟩
noncomputable def e_x60:FSem:=mkE ArgT.nil tyTInt fun a=>F.zgd
theorem t_x60:Entry prog 273 e_x60 false:=eo { P:=prog,n:=2,tab:=[(259,e_x59)],locL:=[0] } (.seq .leaf (.seq .leaf .leaf)) func273 ⟨t_x59,trivial⟩
noncomputable def e_x61:FSem:=mkE (ArgT.cons (Ty.leaf (.int .i64)) ArgT.nil) tyTRat fun a=>F.zf8 a.1
theorem t_x61:Entry prog 258 e_x61 false:=eo { P:=prog,n:=7,tab:=[(259,e_x59),(273,e_x60)],locL:=[2] } (.seq .leaf (.seq .leaf .leaf)) func258 ⟨t_x59,t_x60,trivial⟩
noncomputable def e_x62:FSem:=mkE (ArgT.cons tyTInt (ArgT.cons tyTInt ArgT.nil)) (Ty.leaf (.int .i64)) fun a=>F.ziq a.1 a.2.1
theorem t_x62:Entry prog 260 e_x62 false:=eo { P:=prog,n:=26,tab:=[(173,e_x6),(163,e_x13),(212,e_x5),(239,e_x16)],rtL:=[(18,2),(21,3)],locL:=[2,3] } (.seq .leaf (.seq (.draw [0,2,1,3,4,5]) (.seq (.seq .leaf (.cond (.seq .leaf .leaf) .leaf)) (.seq (.draw [0,1,2,4,5,3,6,7,8,9]) .leaf)))) func260 ⟨t_x6,t_x13,t_x5,t_x16,trivial⟩
noncomputable def e_x63:FSem:=mkE (ArgT.cons (Ty.leaf .sl) (ArgT.cons (Ty.leaf .sl) ArgT.nil)) (Ty.leaf .sl) fun a=>F.zfh a.1 a.2.1
theorem t_x63:Entry prog 289 e_x63 false:=eo { P:=prog,n:=75,tab:=[(212,e_x5)] } (.seq .leaf (.join [] (.seq .leaf (.cond (.seq .leaf .leaf) .leaf)) (.seq .leaf (.seq (.seq .leaf (.block (.loop [(27,.leaf (.int .i64))] (.seq .leaf (.seq (.cond .leaf .leaf) (.seq (.block (.seq .leaf (.seq .leaf (.seq (.seq .leaf (.block (.loop [(8,.leaf (.int .u64)),(34,.leaf (.int .i64))] (.seq .leaf (.seq (.cond .leaf .leaf) (.seq (.block (.seq .leaf (.seq .leaf (.seq .leaf .leaf)))) .leaf)))))) .leaf)))) .leaf)))))) (.seq .leaf .leaf))))) func289 ⟨t_x5,trivial⟩
noncomputable def e_x64:FSem:=mkE (ArgT.cons tyTInt (ArgT.cons tyTInt ArgT.nil)) tyTInt fun a=>F.zfp a.1 a.2.1
theorem t_x64:Entry prog 274 e_x64 false:=eo { P:=prog,n:=18,tab:=[(212,e_x5),(289,e_x63),(214,e_x8)],rtL:=[(5,2),(7,3),(10,2),(13,3)],locL:=[2,3,4] } (.seq .leaf (.seq (.draw [0,1,2,3,4,5,6,8,9,7,10,11,12,13]) .leaf)) func274 ⟨t_x5,t_x63,t_x8,trivial⟩
noncomputable def e_x65:FSem:=mkE (ArgT.cons (Ty.leaf .sl) (ArgT.cons (Ty.leaf .sl) ArgT.nil)) (Ty.leaf .sl) fun a=>F.zg8 a.1 a.2.1
theorem t_x65:Entry prog 308 e_x65 false:=eo { P:=prog,n:=58,tab:=[],locL:=[45,55] } (.seq .leaf (.join [(0,.leaf (.sl)),(1,.leaf (.sl))] (.seq .leaf (.cond .leaf .leaf)) (.seq .leaf (.seq .leaf (.seq (.seq .leaf (.block (.loop [(5,.leaf (.sl)),(6,.leaf (.int .u64)),(22,.leaf (.int .i64))] (.seq .leaf (.seq (.cond .leaf .leaf) (.seq (.block (.seq .leaf (.seq .leaf (.join [(6,.leaf (.int .u64))] (.seq .leaf (.cond .leaf .leaf)) (.seq .leaf .leaf))))) .leaf)))))) (.seq (.seq .leaf (.cond .leaf .leaf)) (.seq .leaf .leaf))))))) func308 trivial
noncomputable def e_x66:FSem:=mkE (ArgT.cons (Ty.leaf .sl) (ArgT.cons (Ty.leaf .sl) ArgT.nil)) (Ty.leaf .sl) fun a=>F.zfg a.1 a.2.1
theorem t_x66:Entry prog 309 e_x66 false:=eo { P:=prog,n:=45,tab:=[(212,e_x5)] } (.seq .leaf (.seq .leaf (.seq .leaf (.seq (.seq .leaf (.block (.loop [(6,.leaf (.int .u64)),(15,.leaf (.int .i64))] (.seq .leaf (.seq (.cond .leaf .leaf) (.seq (.block (.seq .leaf (.seq .leaf (.join [(9,.leaf (.int .u64))] (.seq .leaf (.cond .leaf .leaf)) (.seq .leaf .leaf))))) .leaf)))))) (.seq .leaf .leaf))))) func309 ⟨t_x5,trivial⟩
noncomputable def e_x67:FSem:=mkE (ArgT.cons tyTInt (ArgT.cons tyTInt ArgT.nil)) (Ty.tup (.cons tyTInt (.cons tyTInt (.cons (Ty.leaf (.int .i64)) .nil))) (fun x=>(x.1,x.2.1,x.2.2,())) (fun y=>(y.1,y.2.1,y.2.2.1)) (fun _=>rfl) (fun _=>rfl)) fun a=>F.zgk a.1 a.2.1
theorem t_x67:Entry prog 299 e_x67 false:=eo { P:=prog,n:=53,tab:=[(212,e_x5),(213,e_x24),(214,e_x8),(308,e_x65),(309,e_x66)],rtL:=[(10,3),(19,2),(26,2),(28,3),(42,2),(44,3),(49,3)],locL:=[2,3,4,5] } (.seq .leaf (.seq .leaf (.seq (.seq .leaf (.cond (.seq .leaf .leaf) .leaf)) (.seq .leaf (.join [(8,.leaf (.sl)),(9,.leaf (.sl))] (.seq .leaf (.cond (.seq .leaf .leaf) .leaf)) (.seq (.draw [0,1,2,3,4,5,7,8,9,6,10,11,12,13]) .leaf)))))) func299 ⟨t_x5,t_x24,t_x8,t_x65,t_x66,trivial⟩
noncomputable def e_x68:FSem:=mkE (ArgT.cons tyTInt (ArgT.cons tyTInt ArgT.nil)) tyTInt fun a=>F.zge a.1 a.2.1
theorem t_x68:Entry prog 291 e_x68 false:=eo { P:=prog,n:=19,tab:=[(174,e_x26),(299,e_x67)],locL:=[2,3,4,5,6] } (.seq .leaf (.seq (.seq .leaf (.cond (.seq .leaf .leaf) .leaf)) (.seq .leaf (.seq .leaf .leaf)))) func291 ⟨t_x26,t_x67,trivial⟩
noncomputable def e_x69:FSem:=mkE (ArgT.cons tyTInt ArgT.nil) tyTInt fun a=>F.zir a.1
theorem t_x69:Entry prog 290 e_x69 false:=eo { P:=prog,n:=11,tab:=[(212,e_x5),(215,e_x7),(214,e_x8)],rtL:=[(3,1),(6,1)],locL:=[1,2] } (.seq .leaf (.seq (.draw [0,1,2,3,4,5,6,7,8]) .leaf)) func290 ⟨t_x5,t_x7,t_x8,trivial⟩
noncomputable def e_x70:FSem:=mkE (ArgT.cons tyTInt (ArgT.cons tyTInt ArgT.nil)) tyTRat fun a=>F.zfz a.1 a.2.1
theorem t_x70:Entry prog 275 e_x70 false:=eo { P:=prog,n:=20,tab:=[(175,e_x25),(291,e_x68),(290,e_x69)],rtL:=[(9,3)],locL:=[2,3,4,5] } (.seq .leaf (.seq .leaf (.join [(5,.box [.bool,.sl])] (.seq .leaf (.cond .leaf .leaf)) (.seq (.draw [0,1,3,4,2,5,6,7]) .leaf)))) func275 ⟨t_x25,t_x68,t_x69,trivial⟩
noncomputable def e_x71:FSem:=mkE (ArgT.cons tyTRat (ArgT.cons tyTRat ArgT.nil)) tyTRat fun a=>F.zhq a.1 a.2.1
theorem t_x71:Entry prog 261 e_x71 false:=eo { P:=prog,n:=31,tab:=[(274,e_x64),(275,e_x70),(174,e_x26),(273,e_x60)],rtL:=[(5,2),(9,3),(13,2),(15,3),(20,2),(22,3),(25,2),(27,3)],locL:=[2,3,4] } (.seq .leaf (.join [(4,.box [.bool,.sl,.bool,.sl])] (.seq .leaf (.cond (.seq .leaf .leaf) .leaf)) (.seq (.draw [0,1,2,3,5,6,7,8,4,9,10,11]) .leaf))) func261 ⟨t_x64,t_x70,t_x26,t_x60,trivial⟩
noncomputable def e_x72:FSem:=mkE (ArgT.cons (Ty.leaf (.int .i64)) ArgT.nil) (Ty.leaf .str) fun a=>F.zek a.1
theorem t_x72:Entry prog 301 e_x72 false:=eo { P:=prog,n:=15,tab:=[] } (.seq .leaf (.seq (.seq .leaf (.cond (.seq .leaf .leaf) .leaf)) (.seq .leaf .leaf))) func301 trivial
noncomputable def e_x73:FSem:=mkE (ArgT.cons (Ty.leaf (.int .u64)) ArgT.nil) (Ty.leaf (.int .i64)) fun a=>F.zfy a.1
theorem t_x73:Entry prog 311 e_x73 false:=eo { P:=prog,n:=25,tab:=[] } (.seq .leaf (.join [(0,.leaf (.int .u64)),(2,.leaf (.int .i64))] (.seq .leaf (.cond (.seq .leaf .leaf) .leaf)) (.join [(0,.leaf (.int .u64)),(2,.leaf (.int .i64))] (.seq .leaf (.cond (.seq .leaf .leaf) .leaf)) (.join [(0,.leaf (.int .u64)),(2,.leaf (.int .i64))] (.seq .leaf (.cond (.seq .leaf .leaf) .leaf)) (.seq .leaf .leaf))))) func311 trivial
noncomputable def e_x74:FSem:=mkE (ArgT.cons (Ty.leaf (.int .i64)) ArgT.nil) (Ty.leaf (.int .i64)) fun a=>F.zdu a.1
theorem t_x74:Entry prog 310 e_x74 false:=eo { P:=prog,n:=6,tab:=[] } (.seq .leaf (.seq .leaf .leaf)) func310 trivial
noncomputable def e_x75:FSem:=mkE (ArgT.cons (Ty.leaf .bool) ArgT.nil) (Ty.leaf (.int .i64)) fun a=>F.zdt a.1
theorem t_x75:Entry prog 312 e_x75 false:=eo { P:=prog,n:=4,tab:=[] } (.seq .leaf (.seq (.seq .leaf (.cond (.seq .leaf .leaf) .leaf)) (.seq .leaf .leaf))) func312 trivial
noncomputable def e_x76:FSem:=mkE (ArgT.cons (Ty.leaf (.int .u64)) ArgT.nil) (Ty.leaf (.int .i64)) fun a=>F.zcq a.1
theorem t_x76:Entry prog 302 e_x76 false:=eo { P:=prog,n:=15,tab:=[(311,e_x73),(310,e_x74),(312,e_x75)] } (.seq .leaf (.seq .leaf (.seq .leaf .leaf))) func302 ⟨t_x73,t_x74,t_x75,trivial⟩
noncomputable def e_x77:FSem:=mkM (ArgT.cons (Ty.leaf .sl) (ArgT.cons (Ty.leaf (.int .u64)) ArgT.nil)) Ty.unit fun a=>F.zcj a.1 a.2.1
theorem t_x77:Entry prog 303 e_x77 true:=eoM { P:=prog,n:=167,tab:=[] } (.seq .leaf (.seq (.block (.loop [(1,.leaf (.int .u64)),(4,.leaf (.int .i64))] (.seq (.seq .leaf (.cond .leaf .leaf)) (.block (.seq .leaf (.seq .leaf (.seq .leaf (.seq .leaf (.seq .leaf (.seq (.draw [0,1,2,3,4,5,6,7,8,9,10,11,12,13,14]) (.seq (.draw [0,1,2,3,4,5,6,7,8,9,10,11,12,13,14]) (.seq (.draw [0,1,2,3,4,5,6,7,8,9,10,11,12,13,14]) (.seq (.draw [0,1,2,3,4,5,6,7,8,9,10,11,12,13,14]) .leaf))))))))))))) (.seq .leaf (.join [(4,.leaf (.int .i64)),(12,.leaf (.int .u32))] (.seq .leaf (.cond (.seq .leaf (.seq .leaf (.seq .leaf (.seq (.draw [0,1,2,3,4,5,6,7,8,9,10,11,12,13,14]) (.seq (.draw [0,1,2,3,4,5,6,7,8,9,10,11,12,13,14]) .leaf))))) .leaf)) (.join [(4,.leaf (.int .i64)),(12,.leaf (.int .u32))] (.seq .leaf (.cond (.seq .leaf (.seq .leaf (.seq (.draw [0,1,2,3,4,5,6,7,8,9,10,11,12,13,14]) .leaf))) .leaf)) (.seq .leaf (.cond .leaf .leaf))))))) func303 trivial
noncomputable def e_x78:FSem:=mkE (ArgT.cons (Ty.leaf (.int .u64)) (ArgT.cons (Ty.leaf (.int .i64)) ArgT.nil)) (Ty.leaf .str) fun a=>F.zdn a.1 a.2.1
theorem t_x78:Entry prog 293 e_x78 false:=eo { P:=prog,n:=32,tab:=[(301,e_x72),(302,e_x76),(303,e_x77)],mutL:=[303] } (.seq .leaf (.seq (.seq .leaf (.cond (.seq (.seq .leaf (.cond (.seq .leaf .leaf) .leaf)) (.seq .leaf (.seq .leaf (.seq .leaf (.seq .leaf .leaf))))) .leaf)) (.seq .leaf (.seq .leaf .leaf)))) func293 ⟨t_x72,t_x76,t_x77,trivial⟩
noncomputable def e_x79:FSem:=mkE (ArgT.cons (Ty.leaf (.int .u64)) (ArgT.cons (Ty.leaf (.int .i64)) ArgT.nil)) (Ty.leaf .str) fun a=>F.zdo a.1 a.2.1
theorem t_x79:Entry prog 277 e_x79 false:=eo { P:=prog,n:=8,tab:=[(293,e_x78)] } (.seq .leaf (.seq .leaf .leaf)) func277 ⟨t_x78,trivial⟩
end
end Den
end

section
set_option maxRecDepth 100000
namespace Den
open Go Go.Proofs.Tryz
noncomputable section
noncomputable def zix:ArgT ((Option Addr)×Unit):=(ArgT.cons (Ty.leaf .ptr) ArgT.nil)
noncomputable def zdj:Ty Unit:=Ty.unit
noncomputable def zdl:FSem:=mkM zix zdj (fun a=>F.zct a.1)
set_option maxHeartbeats 1000000 in
set_option maxRecDepth 100000 in
theorem zib (b:Nat) (w:World) (h0:w.cell? ⟨b,0,none⟩=some (.pointer (some ⟨b,0,none⟩))) :
 Calls Go.Proofs.Tryz.prog 292 #[.pointer (some ⟨b,0,none⟩)] w fun e w'=>e=.returned (.tuple #[])∧w'=w:=by
 obtain ⟨j,hj,_⟩:=Option.map_eq_some_iff.1 (show (Go.Proofs.Tryz.prog.info? 239).map (·.size)=some 2 by kernel_rfl)
 go_enter Go.Proofs.Tryz.func292,Go.Proofs.Tryz.ntmps292
 go_wp2
 rw [Lib.run_neq_ptr_same w _ Go.Proofs.Tryz.underlying237 hj]
 go_wp2
 go_end0
 exact ⟨rfl,rfl⟩
set_option maxHeartbeats 1000000 in
set_option maxRecDepth 100000 in
theorem zia (b:Nat) (w:World) (h0:w.cell? ⟨b,0,none⟩=some (.pointer none)) (hsh:w.shape? b=some (239,2)) (hfz:w.frozen? ⟨b,0,none⟩=false) :
 Calls Go.Proofs.Tryz.prog 292 #[.pointer (some ⟨b,0,none⟩)] w fun e w'=>e=.returned (.tuple #[])∧w'=w.setCell ⟨b,0,none⟩ (.pointer (some ⟨b,0,none⟩)):=by
 obtain ⟨j,hj,hjs⟩:=Option.map_eq_some_iff.1 (show (Go.Proofs.Tryz.prog.info? 239).map (·.size)=some 2 by kernel_rfl)
 have hli:liesAt Go.Proofs.Tryz.prog Go.Proofs.Tryz.prog.depth 239 (2/Go.Proofs.Tryz.prog.cellsOf 239) 0 239 1=true:=by kernel_rfl
 go_enter Go.Proofs.Tryz.func292,Go.Proofs.Tryz.ntmps292
 go_wp2
 rw [Lib.run_to_unsafe w ⟨b,0,none⟩ Go.Proofs.Tryz.underlying237 Go.Proofs.Tryz.underlying259 hj (by rw [hjs]; decide) hsh (Nat.zero_lt_succ 1)]
 simp only [Result.andThen]
 rw [Oper.upon_value]
 go_wp2
 rw [run_callFunc_extern Go.Proofs.Tryz.func300 (by kernel_rfl) (by kernel_rfl) (by kernel_rfl) (e:=Extern.AbiNoEscape.same) (by kernel_rfl)]
 rw [Lib.run_noEscape]
 simp only [Result.andThen]
 rw [Oper.upon_value]
 go_wp2
 rw [Lib.run_from_unsafe w ⟨b,0,none⟩ Go.Proofs.Tryz.underlying259 Go.Proofs.Tryz.underlying237 hj hsh hli]
 simp only [Result.andThen]
 rw [Oper.upon_value]
 go_wp2
 go_end0
 exact ⟨rfl,rfl⟩
theorem zey:Entry Go.Proofs.Tryz.prog 292 zdl true:=
 zmw ⟨_,Go.Proofs.Tryz.func292,rfl,by decide⟩ (fun a K D w hs hk=>by
  obtain ⟨p,u⟩:=a
  obtain ⟨b,bl,hp,hb,he,hf,hl,hc⟩:=hk
  simp only at hp
  subst hp
  have hw:=hs _ _ hb
  have hlt:=zck hw
  rw [he,hf] at hw
  rcases hc with ⟨h0,hK⟩ | ⟨h0,hK⟩
  · have c0:w.cell? ⟨b,0,none⟩=some (.pointer none):=by unfold World.cell?; simp only [hw]; simp [h0]
    refine (zia b w c0 (by simp [World.shape?,hw,hl]) (by unfold World.frozen?; simp only [hw]; simp)).mono ?_
    rintro e w' ⟨rfl,rfl⟩
    refine ⟨_,_,rfl,(zdj.cmp _ _).2 hK,?_,?_,?_⟩
    · intro k c hk
      rw [zkw hw]
      by_cases hkb:k=b
      · subst hkb
        rw [Hp.ins_same] at hk; cases hk
        rw [zft hlt]
        simp [he,hf]
      · rw [Hp.ins_ne hkb] at hk; rw [zgg hkb]; exact hs k c hk
    · rw [zkw hw]
      refine ⟨by rw [zgt]; exact Nat.le_refl _,fun k hk1 hk2=>?_,rfl,rfl,rfl,Nat.le_refl _⟩
      exact zgg fun hh=>by rw [hh,hb] at hk2; cases hk2
    · intro k hk1 hk2
      have hkb:k≠b:=fun hh=>by rw [hh,hb] at hk2; cases hk2
      rw [Hp.ins_ne hkb] at hk1; exact absurd hk2 hk1
  · have c0:w.cell? ⟨b,0,none⟩=some (.pointer (some ⟨b,0,none⟩)):=by unfold World.cell?; simp only [hw]; simp [h0]
    refine (zib b w c0).mono ?_
    rintro e w' ⟨rfl,rfl⟩
    exact ⟨_,D,rfl,(zdj.cmp _ _).2 hK,hs,Fr.refl _ _,fun k h1 h2=>absurd h2 h1⟩)
noncomputable def e_x80:FSem:=mkM (ArgT.cons (Ty.leaf .ptr) (ArgT.cons (Ty.leaf .str) ArgT.nil)) (Ty.tup (.cons (Ty.leaf (.int .i64)) (.cons (Ty.leaf .val) .nil)) (fun x=>(x.1,x.2,())) (fun y=>(y.1,y.2.1)) (fun _=>rfl) (fun _=>rfl)) fun a=>F.zav a.1 a.2.1
theorem t_x80:Entry prog 278 e_x80 true:=eoM { P:=prog,n:=19,tab:=[(292,zdl)],mutL:=[292],tyL:=[5] } (.seq .leaf (.seq .leaf (.seq .leaf (.seq .leaf .leaf)))) func278 ⟨zey,trivial⟩
noncomputable def e_x81:FSem:=mkE (ArgT.cons (Ty.leaf (.int .u64)) (ArgT.cons (Ty.leaf (.int .u64)) ArgT.nil)) (Ty.tup (.cons (Ty.leaf (.int .u64)) (.cons (Ty.leaf (.int .u64)) .nil)) (fun x=>(x.1,x.2,())) (fun y=>(y.1,y.2.1)) (fun _=>rfl) (fun _=>rfl)) fun a=>F.zhn a.1 a.2.1
theorem t_x81:Entry prog 295 e_x81 false:=eo { P:=prog,n:=51,tab:=[] } (.seq .leaf (.seq .leaf (.seq .leaf (.seq .leaf (.seq .leaf (.seq .leaf (.seq .leaf (.seq .leaf (.seq .leaf (.seq .leaf (.seq .leaf (.seq .leaf .leaf)))))))))))) func295 trivial
noncomputable def e_x82:FSem:=mkE (ArgT.cons (Ty.leaf (.int .u64)) (ArgT.cons (Ty.leaf (.int .u64)) ArgT.nil)) (Ty.tup (.cons (Ty.leaf (.int .u64)) (.cons (Ty.leaf (.int .u64)) .nil)) (fun x=>(x.1,x.2,())) (fun y=>(y.1,y.2.1)) (fun _=>rfl) (fun _=>rfl)) fun a=>F.zh0 a.1 a.2.1
theorem t_x82:Entry prog 280 e_x82 false:=eo { P:=prog,n:=30,tab:=[(295,e_x81)] } (.seq .leaf (.seq (.cond (.seq .leaf (.seq .leaf .leaf)) .leaf) (.seq .leaf (.seq .leaf .leaf)))) func280 ⟨t_x81,trivial⟩
noncomputable def e_x83:FSem:=mkE (ArgT.cons (Ty.leaf .str) (ArgT.cons (Ty.leaf .str) ArgT.nil)) (Ty.leaf .bool) fun a=>F.zcx a.1 a.2.1
theorem t_x83:Entry prog 296 e_x83 false:=eo { P:=prog,n:=18,tab:=[] } (.seq .leaf (.seq .leaf .leaf)) func296 trivial
noncomputable def e_x84:FSem:=mkE (ArgT.cons (Ty.leaf .str) (ArgT.cons (Ty.leaf .str) ArgT.nil)) (Ty.leaf .bool) fun a=>F.za6 a.1 a.2.1
theorem t_x84:Entry prog 281 e_x84 false:=eo { P:=prog,n:=8,tab:=[(296,e_x83)] } (.seq .leaf (.seq .leaf .leaf)) func281 ⟨t_x83,trivial⟩
noncomputable def e_x85:FSem:=mkE (ArgT.cons (Ty.leaf .str) (ArgT.cons (Ty.leaf (.int .i64)) ArgT.nil)) (Ty.leaf .str) fun a=>F.ze0 a.1 a.2.1
theorem t_x85:Entry prog 263 e_x85 false:=eo { P:=prog,n:=125,tab:=[(280,e_x82),(281,e_x84)],tyL:=[239] } (.seq .leaf (.seq (.seq .leaf (.block (.seq .leaf (.cond (.seq .leaf .leaf) (.seq .leaf (.cond (.seq .leaf .leaf) .leaf)))))) (.join [] (.seq .leaf (.cond .leaf .leaf)) (.seq .leaf (.join [] (.seq .leaf (.cond .leaf .leaf)) (.seq .leaf (.seq (.seq .leaf (.cond (.seq .leaf .leaf) .leaf)) (.join [] (.seq .leaf (.block (.join [(43,.leaf (.bool))] (.seq .leaf (.cond .leaf (.seq .leaf (.cond .leaf (.seq .leaf (.cond .leaf (.seq .leaf (.cond .leaf .leaf)))))))) (.cond (.block (.seq .leaf (.cond (.seq .leaf .leaf) (.seq .leaf (.cond (.seq .leaf .leaf) (.seq .leaf (.cond (.seq .leaf .leaf) (.seq .leaf (.cond (.seq .leaf .leaf) (.seq .leaf (.cond (.seq .leaf .leaf) .leaf))))))))))) .leaf)))) (.seq .leaf (.join [(8,.leaf (.int .i64))] (.seq .leaf (.cond (.seq .leaf (.seq .leaf (.cond .leaf .leaf))) .leaf)) (.seq .leaf (.seq .leaf (.seq .leaf (.seq (.block (.loop [] (.seq (.seq .leaf (.cond .leaf .leaf)) (.block (.seq .leaf .leaf))))) (.seq .leaf .leaf))))))))))))))) func263 ⟨t_x82,t_x84,trivial⟩
noncomputable def zk0:ArgT ((Option Addr)×Unit):=(ArgT.cons (Ty.leaf .ptr) ArgT.nil)
noncomputable def ze1:Ty ByteArray:=(Ty.leaf .str)
noncomputable def zg4:FSem:=mkM zk0 ze1 (fun a=>F.zdi a.1)
set_option maxHeartbeats 2000000 in
set_option maxRecDepth 100000 in
theorem zjm (b:Nat) (p:Value) (w:World) (hbk:w.heap[b]?=some (.cells #[p,.slice none 0 0] 239 (0,0))) :
 Calls Go.Proofs.Tryz.prog 279 #[.pointer (some ⟨b,0,none⟩)] w fun e w'=>e=.returned (.string ⟨#[]⟩)∧w'=w.drew:=by
 have hUS:∀(W:World) (q:Option Addr),(Builtin.unsafeString_ #[252,3] 9 #[.pointer q,.int .i64 0]).run Go.Proofs.Tryz.prog W=.ok (.string .empty) W:=fun W q=>Lib.run_unsafeString_none W _ _ _ q
 have c1:w.drew.cell? ⟨b,1,none⟩=some (.slice none 0 0):=by
  have:w.drew.heap[b]?=some (.cells #[p,.slice none 0 0] 239 (0,0)):=hbk
  rw [Lib.cell_of_heap this]; rfl
 have hSD:(Builtin.unsafeSliceData_ #[44] 252 #[.slice none 0 0]).run Go.Proofs.Tryz.prog w.drew=.ok (.pointer none) w.drew:=rfl
 go_enter Go.Proofs.Tryz.func279,Go.Proofs.Tryz.ntmps279
 go_wp2
 go_region
 all_goals (go_wp2; go_ret; exact ⟨rfl,rfl⟩)
set_option maxHeartbeats 2000000 in
set_option maxRecDepth 100000 in
theorem zjn (b g cap cells:Nat) (p:Value) (l:List UInt8) (w:World) (h0:l≠[]) (hbk:w.heap[b]?=some (.cells #[p,.slice (some ⟨g,0,none⟩) l.length cap] 239 (0,0))) (hc:l.length≤cap) (hsh:w.shape? g=some (5,cells)) (hn:l.length≤cells) (h63:l.length≤140737488355328)
 (hcell:∀j x,l[j]?=some x→w.cell? ((⟨g,0,none⟩:Addr).add j)=some (.int .u8 x.toNat)) :
 Calls Go.Proofs.Tryz.prog 279 #[.pointer (some ⟨b,0,none⟩)] w fun e w'=>e=.returned (.string ⟨l.toArray⟩)∧w'=w.drew.freeze ⟨g,0,none⟩ l.length:=by
 have hl0:l.length≠0:=by simpa using h0
 have c1:w.drew.cell? ⟨b,1,none⟩=some (.slice (some ⟨g,0,none⟩) l.length cap):=by
  have:w.drew.heap[b]?=some (.cells #[p,.slice (some ⟨g,0,none⟩) l.length cap] 239 (0,0)):=hbk
  rw [Lib.cell_of_heap this]; rfl
 have hSD:(Builtin.unsafeSliceData_ #[44] 252 #[.slice (some ⟨g,0,none⟩) l.length cap]).run Go.Proofs.Tryz.prog w.drew=.ok (.pointer (some ⟨g,0,none⟩)) w.drew:=
  Lib.run_unsafeSliceData_row _ _ _ _ _ _ (by omega)
 have hUS:(Builtin.unsafeString_ #[252,3] 9 #[.pointer (some ⟨g,0,none⟩),.int .i64 l.length]).run Go.Proofs.Tryz.prog w.drew=.ok (.string ⟨l.toArray⟩) (w.drew.freeze ⟨g,0,none⟩ l.length):=
  Lib.run_unsafeString_row w.drew 252 3 9 5 Go.Proofs.Tryz.underlying252 (by kernel_rfl) g cells hsh l h0 hn (by omega) hcell
 go_enter Go.Proofs.Tryz.func279,Go.Proofs.Tryz.ntmps279
 go_wp2
 go_region
 all_goals (go_wp2; go_ret; exact ⟨rfl,rfl⟩)
theorem zkd:Entry Go.Proofs.Tryz.prog 279 zg4 true:=
 zmw ⟨_,Go.Proofs.Tryz.func279,rfl,by decide⟩ (fun a K D w hs hk=>by
  obtain ⟨q,u⟩:=a
  obtain ⟨b,bl,p,hp,hb,he,hf,hc⟩:=hk
  simp only at hp
  subst hp
  have hw:=hs _ _ hb
  rw [he,hf] at hw
  rcases hc with ⟨hcs,hK⟩ | ⟨g,c,l,bg,h0,hcs,hlc,hg,hge,hlg,h63,hall,hK⟩
  · rw [hcs] at hw
    refine (zjm b p w hw).mono ?_
    rintro e w' ⟨rfl,rfl⟩
    exact ⟨_,D,rfl,(ze1.cmp _ _).2 hK,hs,zl4 D w,fun k h1 h2=>absurd h2 h1⟩
  · rw [hcs] at hw
    have hwg:=hs _ _ hg
    rw [hge] at hwg
    have hltg:=zck hwg
    refine (zjn b g c bg.cells.length p l w h0 hw hlc (by simp [World.shape?,hwg]) hlg h63 (fun j x hj=>?_)).mono ?_
    · rw [zei,Nat.zero_add]
      unfold World.cell?
      simp only [hwg]
      simp [hall j x hj]
    · rintro e w' ⟨rfl,rfl⟩
      have hsz:(w.drew.freeze ⟨g,0,none⟩ l.length).heap.size=w.heap.size:=by
       unfold World.freeze
       split
       · rfl
       · simp only [Array.size_modify]
         rfl
      have hne:∀k,k≠g→(w.drew.freeze ⟨g,0,none⟩ l.length).heap[k]?=w.heap[k]?:=fun k hk=>by
       unfold World.freeze
       split
       · rfl
       · simp only [Array.getElem?_modify]
         rw [if_neg (fun hh=>hk hh.symm)]
         rfl
      refine ⟨_,_,rfl,(ze1.cmp _ _).2 hK,?_,?_,?_⟩
      · intro k cb hk
        by_cases hkg:k=g
        · simp [hkg] at hk
        · simp only [if_neg hkg] at hk
          rw [hne k hkg]; exact hs k cb hk
      · refine ⟨Nat.le_of_eq hsz.symm,fun k hk1 hk2=>?_,?_,?_,?_,?_⟩
        · exact hne k fun hh=>by rw [hh,hg] at hk2; cases hk2
        · unfold World.freeze; split<;>rfl
        · unfold World.freeze; split<;>rfl
        · unfold World.freeze; split<;>rfl
        · unfold World.freeze; split<;>exact Nat.le_succ _
      · intro k hk1 hk2
        by_cases hkg:k=g
        · simp [hkg] at hk1
        · simp only [if_neg hkg] at hk1; exact absurd hk2 hk1)
noncomputable def e_x86:FSem:=mkM (ArgT.cons (Ty.leaf .ptr) (ArgT.cons (Ty.leaf (.int .u8)) ArgT.nil)) (Ty.leaf .val) fun a=>F.zg1 a.1 a.2.1
theorem t_x86:Entry prog 276 e_x86 true:=eoM { P:=prog,n:=17,tab:=[(292,zdl)],mutL:=[292],locL:=[13],tyL:=[5] } (.seq .leaf (.seq .leaf (.seq .leaf (.seq .leaf .leaf)))) func276 ⟨zey,trivial⟩
noncomputable def e_x87:FSem:=mkE (ArgT.cons tyTInt ArgT.nil) (Ty.leaf .str) fun a=>F.zgl a.1
theorem t_x87:Entry prog 262 e_x87 false:=eo { P:=prog,n:=74,tab:=[(212,e_x5),(215,e_x7),(246,e_x9),(277,e_x79),(278,e_x80),(263,e_x85),(279,zg4),(276,e_x86)],mutL:=[278,279,276],rtL:=[(11,1),(51,1)],locL:=[1,4,49],backs:=[(257,(.leaf (.int .u32)))],tyL:=[239] } (.seq .leaf (.seq .leaf (.seq (.seq .leaf (.cond (.seq .leaf .leaf) .leaf)) (.seq .leaf (.seq (.block (.loop [(3,.leaf (.sl)),(4,.box [.sl])] (.seq (.seq .leaf (.cond .leaf .leaf)) (.block (.seq .leaf (.seq (.seq .leaf (.block (.loop [(5,.leaf (.int .u64)),(6,.leaf (.int .i64))] (.seq (.seq .leaf (.cond .leaf .leaf)) (.seq (.block (.seq .leaf (.seq .leaf .leaf))) .leaf))))) (.seq .leaf .leaf))))))) (.seq .leaf (.join [] (.seq .leaf (.cond .leaf .leaf)) (.seq (.seq .leaf (.block (.back [] (.seq .leaf .leaf) (.block (.seq .leaf (.join [] (.seq .leaf (.cond .leaf .leaf)) .leaf)))))) (.seq .leaf .leaf))))))))) func262 ⟨t_x5,t_x7,t_x9,t_x79,t_x80,t_x85,zkd,t_x86,trivial⟩ ⟨zwq,trivial⟩
noncomputable def e_x88:FSem:=mkE (ArgT.cons tyTRat ArgT.nil) (Ty.tup (.cons (Ty.leaf .str) (.cons (Ty.leaf .bool) .nil)) (fun x=>(x.1,x.2,())) (fun y=>(y.1,y.2.1)) (fun _=>rfl) (fun _=>rfl)) fun a=>F.zfv a.1
theorem t_x88:Entry prog 247 e_x88 false:=eo { P:=prog,n:=65,tab:=[(258,e_x61),(259,e_x59),(260,e_x62),(261,e_x71),(262,e_x87),(263,e_x85),(116,e_x27),(120,e_x34)],rtL:=[(23,1),(31,1)],locL:=[1,4,5] } (.seq .leaf (.join [] (.seq .leaf (.cond (.seq .leaf .leaf) .leaf)) (.seq .leaf (.seq .leaf (.seq (.seq .leaf (.block (.loop [(1,.box [.bool,.sl,.bool,.sl]),(6,.leaf (.int .i64))] (.seq (.seq .leaf (.cond .leaf .leaf)) (.seq (.block (.seq (.seq .leaf (.cond (.seq .leaf .leaf) .leaf)) (.seq .leaf (.join [(7,.leaf (.str))] (.seq .leaf (.cond (.join [(7,.leaf (.str))] (.seq .leaf (.seq .leaf (.cond .leaf .leaf))) (.draw [0,1,2,3,4,5,6,7,8,9,10,11,12,13,14])) .leaf)) (.seq .leaf .leaf))))) .leaf))))) (.seq .leaf .leaf)))))) func247 ⟨t_x61,t_x59,t_x62,t_x71,t_x87,t_x85,t_x27,t_x34,trivial⟩
noncomputable def e_x89:FSem:=mkE (ArgT.cons (Ty.leaf (.int .u8)) ArgT.nil) (Ty.leaf .bool) fun a=>F.zer a.1
theorem t_x89:Entry prog 264 e_x89 false:=eo { P:=prog,n:=17,tab:=[] } (.seq .leaf (.seq .leaf .leaf)) func264 trivial
noncomputable def e_x90:FSem:=mkE (ArgT.cons (Ty.leaf (.int .u8)) ArgT.nil) (Ty.leaf .bool) fun a=>F.zfi a.1
theorem t_x90:Entry prog 284 e_x90 false:=eo { P:=prog,n:=9,tab:=[] } (.seq .leaf (.seq .leaf .leaf)) func284 trivial
noncomputable def e_x91:FSem:=mkE (ArgT.cons (Ty.leaf (.int .u8)) ArgT.nil) (Ty.leaf .bool) fun a=>F.zhk a.1
theorem t_x91:Entry prog 266 e_x91 false:=eo { P:=prog,n:=13,tab:=[(264,e_x89),(284,e_x90)] } (.seq .leaf (.seq .leaf .leaf)) func266 ⟨t_x89,t_x90,trivial⟩
noncomputable def e_x92:FSem:=mkE (ArgT.cons (Ty.leaf .str) (ArgT.fn 266 ArgT.nil)) (Ty.leaf (.int .i64)) fun a=>F.zd6 a.1
theorem t_x92:Entry prog 265 e_x92 false:=eo { P:=prog,n:=20,tab:=[(266,e_x91)] } (.seq .leaf (.seq .leaf (.seq (.block (.loop [(5,.leaf (.int .i64))] (.join [] (.seq .leaf (.cond .leaf .leaf)) (.block .leaf)))) (.seq .leaf .leaf)))) func265 ⟨t_x91,trivial⟩
noncomputable def e_x93:FSem:=mkE (ArgT.cons (Ty.leaf .str) ArgT.nil) (Ty.leaf .bool) fun a=>F.zeq a.1
theorem t_x93:Entry prog 248 e_x93 false:=eo { P:=prog,n:=22,tab:=[(264,e_x89),(265,e_x92)] } (.seq .leaf (.seq .leaf .leaf)) func248 ⟨t_x89,t_x92,trivial⟩
noncomputable def e_x94:FSem:=mkE (ArgT.cons tyTRat ArgT.nil) (Ty.leaf .bool) fun a=>F.zg5 a.1
theorem t_x94:Entry prog 249 e_x94 false:=eo { P:=prog,n:=27,tab:=[],rtL:=[(3,1),(4,1),(9,1),(10,1),(16,1),(17,1),(22,1),(23,1)],locL:=[1] } (.seq .leaf (.seq .leaf .leaf)) func249 trivial
noncomputable def A_x98:ArgT (TExpr×Unit):=(ArgT.cons tyTExpr ArgT.nil)
noncomputable def R_x98:Ty Bool:=(Ty.leaf .bool)
noncomputable def A_x95:ArgT (TExpr×Unit):=(ArgT.cons tyTExpr ArgT.nil)
noncomputable def R_x95:Ty Bool:=(Ty.leaf .bool)
noncomputable def e_x95 (Q_formula_formed:TExpr→(Bool→Hp→Prop)→Hp→Prop):FSem:=mkE A_x95 R_x95 fun a=>F.zf5 Q_formula_formed a.1
theorem t_x95 (Q_formula_formed:TExpr→(Bool→Hp→Prop)→Hp→Prop) (h_formula_formed:Entry prog 224 (mkE A_x98 R_x98 (fun a=>Q_formula_formed a.1)) false):Entry prog 250 (e_x95 Q_formula_formed) false:=eo { P:=prog,n:=6,tab:=[(224,mkE A_x98 R_x98 (fun a=>Q_formula_formed a.1))],locL:=[1] } (.seq .leaf (.seq .leaf .leaf)) func250 ⟨h_formula_formed,trivial⟩
noncomputable def A_x96:ArgT (Sl×Unit):=(ArgT.cons (Ty.leaf .sl) (ArgT.fn 250 ArgT.nil))
noncomputable def R_x96:Ty Int:=(Ty.leaf (.int .i64))
noncomputable def e_x96 (Q_formula_formed:TExpr→(Bool→Hp→Prop)→Hp→Prop):FSem:=mkE A_x96 R_x96 fun a=>F.zbl Q_formula_formed a.1
theorem t_x96 (Q_formula_formed:TExpr→(Bool→Hp→Prop)→Hp→Prop) (h_formula_formed:Entry prog 224 (mkE A_x98 R_x98 (fun a=>Q_formula_formed a.1)) false):Entry prog 223 (e_x96 Q_formula_formed) false:=eo { P:=prog,n:=19,tab:=[(250,(e_x95 Q_formula_formed))] } (.seq .leaf (.seq (.seq .leaf (.block (.loop [(8,.leaf (.int .i64))] (.seq .leaf (.seq (.cond .leaf .leaf) (.seq (.block (.seq .leaf (.seq .leaf (.cond (.seq .leaf .leaf) .leaf)))) .leaf)))))) (.seq .leaf .leaf))) func223 ⟨(t_x95 Q_formula_formed h_formula_formed),trivial⟩
noncomputable def A_x97:ArgT (Sl×Unit):=(ArgT.cons (Ty.leaf .sl) (ArgT.fn 250 ArgT.nil))
noncomputable def R_x97:Ty Bool:=(Ty.leaf .bool)
noncomputable def e_x97 (Q_formula_formed:TExpr→(Bool→Hp→Prop)→Hp→Prop):FSem:=mkE A_x97 R_x97 fun a=>F.zbc Q_formula_formed a.1
theorem t_x97 (Q_formula_formed:TExpr→(Bool→Hp→Prop)→Hp→Prop) (h_formula_formed:Entry prog 224 (mkE A_x98 R_x98 (fun a=>Q_formula_formed a.1)) false):Entry prog 187 (e_x97 Q_formula_formed) false:=eo { P:=prog,n:=9,tab:=[(223,(e_x96 Q_formula_formed))] } (.seq .leaf (.seq .leaf .leaf)) func187 ⟨(t_x96 Q_formula_formed h_formula_formed),trivial⟩
noncomputable def e_x98:FSem:=mkE A_x98 R_x98 fun a=>F.zgj a.1
noncomputable def c_x98 (n:Nat):Cfg:={ P:=prog,n:=68,tab:=[(247,e_x88),(248,e_x93),(249,e_x94),(187,(e_x97 (F.zce n)))],rtL:=[(5,1),(9,1),(14,1),(17,1),(23,1),(28,1),(35,1),(39,1),(46,1),(50,1),(54,1),(58,1),(63,1)],locL:=[1] }
theorem u_x98:∃fn,prog.funcs[224]?=some fn∧fn.body.isNone=false∧(fn.name == "runtime.NumGoroutine")=false:=⟨_,func224,rfl,by decide⟩
theorem v_x98:∀n a K D w,Sub D w→F.zce n a.1 K D→Calls prog 224 (A_x98.up a).toArray w (Post (fun v h=>R_x98.dn v fun r=>K r h) D w)
 | 0,_,_,_,_,_,h=>h.elim
 | n+1,a,K,D,w,hs,h=>zl0 (C:=c_x98 n) (F:=fun a=>F.zce (n+1) a.1) (fn:=f224) (c:=bd f224) (an:=(.seq .leaf (.join [] (.seq (.draw [0,1,2,3,4,5,6,7,8,9,10,11,12,13,14,15,16,17]) (.cond (.seq .leaf .leaf) .leaf)) (.seq (.seq .leaf (.block (.seq .leaf (.cond (.seq .leaf (.seq .leaf .leaf)) (.seq .leaf (.cond (.seq .leaf .leaf) .leaf)))))) (.seq .leaf .leaf))))) ⟨t_x88,t_x93,t_x94,(t_x97 (F.zce n) (zg9 u_x98 (v_x98 n))),trivial⟩ trivial func224 rfl rfl (fun _=>rfl) (by intro a K D; kernel_rfl) a K D w hs h
theorem t_x98:Entry prog 224 e_x98 false:=zg9 u_x98 (fun a K D w hs h=>h.elim fun m h=>v_x98 m a K D w hs h)
noncomputable def A_x99:ArgT (TExpr×Unit):=(ArgT.cons tyTExpr ArgT.nil)
noncomputable def R_x99:Ty Int:=(Ty.leaf (.int .i64))
noncomputable def e_x99:FSem:=mkE A_x99 R_x99 fun a=>F.zgw a.1
noncomputable def c_x99 (n:Nat):Cfg:={ P:=prog,n:=20,tab:=[(225,mkE A_x99 R_x99 (fun a=>F.zda n a.1))],rtL:=[(6,1)],locL:=[1,5] }
theorem u_x99:∃fn,prog.funcs[225]?=some fn∧fn.body.isNone=false∧(fn.name == "runtime.NumGoroutine")=false:=⟨_,func225,rfl,by decide⟩
theorem v_x99:∀n a K D w,Sub D w→F.zda n a.1 K D→Calls prog 225 (A_x99.up a).toArray w (Post (fun v h=>R_x99.dn v fun r=>K r h) D w)
 | 0,_,_,_,_,_,h=>h.elim
 | n+1,a,K,D,w,hs,h=>zl0 (C:=c_x99 n) (F:=fun a=>F.zda (n+1) a.1) (fn:=f225) (c:=bd f225) (an:=(.seq .leaf (.seq .leaf (.seq (.seq .leaf (.block (.loop [(3,.leaf (.int .i64)),(9,.leaf (.int .i64))] (.seq .leaf (.seq (.cond .leaf .leaf) (.seq (.block (.seq .leaf .leaf)) .leaf)))))) (.seq .leaf .leaf))))) ⟨(zg9 u_x99 (v_x99 n)),trivial⟩ trivial func225 rfl rfl (fun _=>rfl) (by intro a K D; kernel_rfl) a K D w hs h
theorem t_x99:Entry prog 225 e_x99 false:=zg9 u_x99 (fun a K D w hs h=>h.elim fun m h=>v_x99 m a K D w hs h)
noncomputable def zx6:FSem:=mkE (ArgT.cons tyTExpr ArgT.nil) (Ty.leaf (.int .i64)) fun a=>F.zgx a.1
theorem za5r:Entry prog 189 zx6 false:=eo { P:=prog,n:=11,tab:=[(224,e_x98),(225,e_x99)],locL:=[1] } (.seq .leaf (.seq (.block (.seq .leaf (.cond (.seq .leaf .leaf) (.seq .leaf (.cond (.seq .leaf .leaf) .leaf))))) (.seq .leaf .leaf))) func189 ⟨t_x98,t_x99,trivial⟩
noncomputable def zx7:FSem:=mkE (ArgT.cons tyTExpr ArgT.nil) (Ty.leaf .bool) fun a=>F.zea a.1
theorem za5s:Entry prog 188 zx7 false:=eo { P:=prog,n:=6,tab:=[(189,zx6)],locL:=[1] } (.seq .leaf (.seq .leaf .leaf)) func188 ⟨za5r,trivial⟩
noncomputable def zx8:FSem:=mkE (ArgT.cons (Ty.leaf .sl) (ArgT.fn 188 ArgT.nil)) (Ty.leaf (.int .i64)) fun a=>F.zbg a.1
theorem za5t:Entry prog 223 zx8 false:=eo { P:=prog,n:=19,tab:=[(188,zx7)] } (.seq .leaf (.seq (.seq .leaf (.block (.loop [(8,.leaf (.int .i64))] (.seq .leaf (.seq (.cond .leaf .leaf) (.seq (.block (.seq .leaf (.seq .leaf (.cond (.seq .leaf .leaf) .leaf)))) .leaf)))))) (.seq .leaf .leaf))) func223 ⟨za5s,trivial⟩
noncomputable def zx9:FSem:=mkE (ArgT.cons (Ty.leaf .sl) (ArgT.fn 188 ArgT.nil)) (Ty.leaf .bool) fun a=>F.zar a.1
theorem za5u:Entry prog 187 zx9 false:=eo { P:=prog,n:=9,tab:=[(223,zx8)] } (.seq .leaf (.seq .leaf .leaf)) func187 ⟨za5t,trivial⟩
noncomputable def zxa:FSem:=mkE (ArgT.cons (Ty.leaf .sl) ArgT.nil) (Ty.leaf .bool) fun a=>F.zf2 a.1
theorem za5v:Entry prog 190 zxa false:=eo { P:=prog,n:=49,tab:=[] } (.seq .leaf (.seq (.draw [0,1,2,3,4,5,6,7,8,9,10,11,12,13,14,15]) (.seq .leaf .leaf))) func190 trivial
noncomputable def zrk:FSem:=mkE (ArgT.cons (Ty.leaf .sl) (ArgT.cons (Ty.leaf (.int .i64)) ArgT.nil)) (Ty.leaf (.int .i64)) fun a=>F.zd3 a.1 a.2.1
theorem za0i:Entry prog 162 zrk false:=eo { P:=prog,n:=19,tab:=[] } (.seq .leaf (.seq (.seq .leaf (.block (.loop [(8,.leaf (.int .i64))] (.seq .leaf (.seq (.cond .leaf .leaf) (.seq (.block (.seq .leaf (.seq .leaf (.cond (.seq .leaf .leaf) .leaf)))) .leaf)))))) (.seq .leaf .leaf))) func162 trivial
noncomputable def zj2:FSem:=mkE (ArgT.cons (Ty.leaf .sl) (ArgT.cons (Ty.leaf (.int .i64)) ArgT.nil)) (Ty.leaf .bool) fun a=>F.zb1 a.1 a.2.1
theorem zke:Entry prog 98 zj2 false:=eo { P:=prog,n:=9,tab:=[(162,zrk)] } (.seq .leaf (.seq .leaf .leaf)) func98 ⟨za0i,trivial⟩
noncomputable def zxb:FSem:=mkE (ArgT.cons (Ty.leaf .sl) ArgT.nil) (Ty.leaf .bool) fun a=>F.zcv a.1
theorem za5w:Entry prog 191 zxb false:=eo { P:=prog,n:=18,tab:=[(98,zj2)] } (.seq .leaf (.seq (.seq .leaf (.block (.loop [(7,.leaf (.int .i64))] (.seq .leaf (.seq (.cond .leaf .leaf) (.seq (.block (.seq .leaf (.seq .leaf (.cond (.seq .leaf .leaf) .leaf)))) .leaf)))))) (.seq .leaf .leaf))) func191 ⟨zke,trivial⟩
noncomputable def zxc:FSem:=mkE (ArgT.cons (Ty.leaf (.int .i64)) (ArgT.cons (Ty.leaf .ptr) ArgT.nil)) (Ty.leaf .bool) fun a=>F.zfu a.1 a.2.1
theorem za5x:Entry prog 222 zxc false:=eo { P:=prog,n:=11,tab:=[] } (.seq .leaf (.seq .leaf .leaf)) func222 trivial
noncomputable def zxd:FSem:=mkE (ArgT.cons (Ty.leaf .sl) (ArgT.fnc 222 1 ArgT.nil)) (Ty.leaf (.int .i64)) fun a=>F.zby a.1 a.2.1
theorem za5y:Entry prog 135 zxd false:=eo { P:=prog,n:=19,tab:=[(222,zxc)] } (.seq .leaf (.seq (.seq .leaf (.block (.loop [(8,.leaf (.int .i64))] (.seq .leaf (.seq (.cond .leaf .leaf) (.seq (.block (.seq .leaf (.seq .leaf (.cond (.seq .leaf .leaf) .leaf)))) .leaf)))))) (.seq .leaf .leaf))) func135 ⟨za5x,trivial⟩
noncomputable def zxe:FSem:=mkE (ArgT.cons (Ty.leaf .sl) (ArgT.fnc 222 1 ArgT.nil)) (Ty.leaf .bool) fun a=>F.zbs a.1 a.2.1
theorem za5z:Entry prog 102 zxe false:=eo { P:=prog,n:=9,tab:=[(135,zxd)] } (.seq .leaf (.seq .leaf .leaf)) func102 ⟨za5y,trivial⟩
noncomputable def zxf:FSem:=mkE (ArgT.cons (Ty.leaf .sl) (ArgT.cons (Ty.leaf (.int .i64)) (ArgT.cons (Ty.leaf (.int .i64)) ArgT.nil))) (Ty.leaf .bool) fun a=>F.zdx a.1 a.2.1 a.2.2.1
theorem za60:Entry prog 186 zxf false:=eo { P:=prog,n:=17,tab:=[(102,zxe)] } (.seq .leaf (.seq .leaf .leaf)) func186 ⟨za5z,trivial⟩
noncomputable def zxg:FSem:=mkE (ArgT.cons tyTConstraint (ArgT.cons (Ty.leaf (.int .i64)) (ArgT.cons (Ty.leaf (.int .i64)) ArgT.nil))) (Ty.leaf .bool) fun a=>F.zf1 a.1 a.2.1 a.2.2.1
theorem za61:Entry prog 131 zxg false:=eo { P:=prog,n:=86,tab:=[(109,e_x58),(187,zx9),(190,zxa),(191,zxb),(186,zxf)],rtL:=[(10,3),(18,3),(20,7),(27,3),(29,7),(36,3),(39,7),(43,3),(46,7),(49,3),(54,3),(59,7),(63,3),(68,3),(75,3),(78,3),(82,3)],locL:=[3,7] } (.seq .leaf (.seq .leaf (.join [] (.seq .leaf (.cond (.seq .leaf .leaf) .leaf)) (.seq (.seq .leaf (.cond (.seq .leaf .leaf) .leaf)) (.join [] (.seq .leaf (.cond (.seq .leaf .leaf) .leaf)) (.seq (.seq .leaf (.block (.join [(70,.leaf (.bool))] (.seq .leaf (.cond .leaf (.seq .leaf (.cond .leaf (.seq .leaf (.cond .leaf .leaf)))))) (.cond (.seq .leaf .leaf) .leaf)))) (.seq .leaf .leaf))))))) func131 ⟨t_x58,za5u,za5v,za5w,za60,trivial⟩
noncomputable def zxh:FSem:=mkE (ArgT.cons tyTConstraint (ArgT.cons (Ty.leaf .ptr) (ArgT.cons (Ty.leaf .ptr) ArgT.nil))) (Ty.leaf .bool) fun a=>F.zih a.1 a.2.1 a.2.2.1
theorem za62:Entry prog 130 zxh false:=eo { P:=prog,n:=9,tab:=[(131,zxg)],locL:=[3] } (.seq .leaf (.seq .leaf .leaf)) func130 ⟨za61,trivial⟩
noncomputable def zxi:FSem:=mkE (ArgT.cons tyTConstraint (ArgT.cons (Ty.leaf .ptr) ArgT.nil)) (Ty.leaf .bool) fun a=>F.zc3 a.1 a.2.1
theorem za63:Entry prog 185 zxi false:=eo { P:=prog,n:=8,tab:=[(130,zxh)],locL:=[2],fnL:=[(4,130,2)] } (.seq .leaf (.seq .leaf .leaf)) func185 ⟨za62,trivial⟩
noncomputable def zxj:FSem:=mkE (ArgT.cons (Ty.leaf .sl) (ArgT.fnc 185 1 ArgT.nil)) (Ty.leaf (.int .i64)) fun a=>F.zaf a.1 a.2.1
theorem za64:Entry prog 221 zxj false:=eo { P:=prog,n:=19,tab:=[(185,zxi)] } (.seq .leaf (.seq (.seq .leaf (.block (.loop [(8,.leaf (.int .i64))] (.seq .leaf (.seq (.cond .leaf .leaf) (.seq (.block (.seq .leaf (.seq .leaf (.cond (.seq .leaf .leaf) .leaf)))) .leaf)))))) (.seq .leaf .leaf))) func221 ⟨za63,trivial⟩
noncomputable def zxk:FSem:=mkE (ArgT.cons (Ty.leaf .sl) (ArgT.fnc 185 1 ArgT.nil)) (Ty.leaf .bool) fun a=>F.zad a.1 a.2.1
theorem za65:Entry prog 184 zxk false:=eo { P:=prog,n:=9,tab:=[(221,zxj)] } (.seq .leaf (.seq .leaf .leaf)) func184 ⟨za64,trivial⟩
noncomputable def zxl:FSem:=mkE (ArgT.cons (Ty.leaf .sl) (ArgT.fnc 130 2 ArgT.nil)) (Ty.leaf .bool) fun a=>F.zbo a.1 a.2.1
theorem za66:Entry prog 129 zxl false:=eo { P:=prog,n:=9,tab:=[(184,zxk)] } (.seq .leaf (.seq .leaf .leaf)) func129 ⟨za65,trivial⟩
end
end Den
end
