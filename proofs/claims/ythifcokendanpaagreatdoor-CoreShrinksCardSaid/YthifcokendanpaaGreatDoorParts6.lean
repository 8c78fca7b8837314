/-
  Part 6 of the tools and contracts from which the statement is proved.
-/
import Derived.Test.YthifcokendanpaaGreatDoorParts5
import Derived.Test.YthifcokendanpaaGreatDoorProg
import Derived.RangeFuncBox
import Derived.RangeFuncLeaves
import Derived.Shelf.Abstract
import Derived.WalkKit
import Derived.OwnWalkIn
import Derived.TacticsInMore
import Derived.LoopNIn
import Derived.LoopIn
import Derived.Laws.Externs
import Derived.Lib.Builder
import Derived.Lib.UnsafeStr
import Derived.ProofKit
set_option linter.all false
section
namespace Den
open Go Iv Lx
def cAt (cs:List Int) (c:PCon) (i:Nat):Int:=cs.getD (c.cir.getD i 0).toNat 0
def cnt (l:List Int) (t:Int):Nat:=(l.filter (·==t)).length
def kindP (c:PCon) (cs:List Int) (t:Int):Int:=
 if c.kind=13 then (if (t∈c.pts)↔cAt cs c 0=t then 0 else 2)
 else if c.kind=16 then (if cAt cs c 0=t∧t∉c.pts then 1 else 0)
 else if c.kind=17 then (if cAt cs c 0=t↔cAt cs c 1=t then 0 else 2)
 else if t∉c.pts then 0
 else if c.kind=1∨c.kind=9 then 3
 else if c.kind=2 then 2
 else if c.kind=3∨c.kind=6∨c.kind=11∨c.kind=12 then 1
 else if c.kind=4 then (if c.pts[0]?=some t then 1 else 0)
 else if c.kind=10 then (if c.pts[0]?=some t∨c.pts[1]?=some t then 3 else 0)
 else if c.kind=5∨c.kind=7 then (if cnt c.pts t=2 then 2 else 1)
 else if c.kind=8 then (if cnt c.pts t=2 then 1 else 2)
 else 0
def sizesP (c:PCon) (cs:List Int) (k:Int):Prop:=
 k∈c.cir∧(if c.kind=13∨c.kind=16 then cs.getD k.toNat 0∉c.pts else if c.kind=17 then c.side=1∧cAt cs c 0≠cAt cs c 1 else True)
instance (c:PCon) (cs:List Int) (k:Int):Decidable (sizesP c cs k):=by unfold sizesP; infer_instance
def suitP (c:PCon) (cs:List Int) (item:Int):Prop:=
 if item<0 then sizesP c cs (-1-item) else if eqK c.kind=2 then kindP c cs item=3 else kindP c cs item=1∨kindP c cs item=2
instance (c:PCon) (cs:List Int) (k:Int):Decidable (suitP c cs k):=by unfold suitP; infer_instance
def keepP (l:List Int) (item:Int) (R:List Int):Prop:=item∈l∧∀x∈l,x∉R
instance (l:List Int) (item:Int) (R:List Int):Decidable (keepP l item R):=by unfold keepP; infer_instance
def remN (its:List (List Int)) (item:Int) (R:List Int):Nat→List Int
 | 0=>[]
 | k+1=>remN its item R k++(if keepP (its.getD k []) item R then [(k:Int)] else [])
def remL (its:List (List Int)) (item:Int) (R:List Int):List Int:=remN its item R its.length
theorem zm4 {its:List (List Int)} {item:Int} {R:List Int}:∀{k:Nat} {j:Int},j∈remN its item R k↔∃i:Nat,i<k∧j=i∧keepP (its.getD i []) item R
 | 0,j=>by simp [remN]
 | k+1,j=>by
   unfold remN
   rw [List.mem_append,zm4]
   constructor
   · rintro (⟨i,hi,h1,h2⟩ | h)
     · exact ⟨i,by omega,h1,h2⟩
     · split at h
       · rename_i h3
         exact ⟨k,by omega,List.mem_singleton.1 h,h3⟩
       · cases h
   · rintro ⟨i,hi,h1,h2⟩
     rcases Nat.lt_or_ge i k with h3 | h3
     · exact .inl ⟨i,h3,h1,h2⟩
     · have:i=k:=by omega
       subst this
       right
       rw [if_pos h2]; exact List.mem_singleton.2 h1
theorem zqy (its:List (List Int)) (item:Int) (R:List Int):∀k,(remN its item R k).length≤k
 | 0=>by simp [remN]
 | k+1=>by
   unfold remN
   have:=zqy its item R k
   rw [List.length_append]
   split<;>simp<;>omega
def dC:PCon:=⟨0,[],[],[],0⟩
def wtL (L:List PCon) (l:List Int):Nat:=(l.map fun i=>eqK (L.getD i.toNat dC).kind).sum
def most (item:Int):Nat:=if item<0 then 1 else 2
def canP (L:List PCon) (cs:List Int) (R:List Int) (item:Int):Prop:=
 item∉R∧wtL L (remL (L.map fun c=>itemsC c cs) item R)≤most item∧∀i∈remL (L.map fun c=>itemsC c cs) item R,suitP (L.getD i.toNat dC) cs item
instance (L:List PCon) (cs:List Int) (R:List Int) (item:Int):Decidable (canP L cs R item):=by unfold canP; infer_instance
def allI (n m:Nat):List Int:=(List.range n).map (fun i:Nat=>(i:Int))++(List.range m).map (fun i:Nat=>-1-(i:Int))
theorem za7v {n m:Nat} {x:Int}:x∈allI n m↔(0≤x∧x<n)∨(x<0∧-1-x<m):=by
 unfold allI
 rw [List.mem_append,List.mem_map,List.mem_map]
 constructor
 · rintro (⟨a,ha,rfl⟩ | ⟨a,ha,rfl⟩)
   · rw [List.mem_range] at ha; omega
   · rw [List.mem_range] at ha; omega
 · rintro (⟨h1,h2⟩ | ⟨h1,h2⟩)
   · exact .inl ⟨x.toNat,List.mem_range.2 (by omega),by omega⟩
   · exact .inr ⟨(-1-x).toNat,List.mem_range.2 (by omega),by omega⟩
theorem za79 {n m:Nat}:(allI n m).length=n+m:=by simp [allI]
def peelF (can:List Int→Int→Bool) (pref:List Int):Nat→List Int→List Int
 | 0,R=>R
 | f+1,R=>match pref.find? (can R) with
   | none=>R
   | some i=>peelF can pref f (R++[i])
def peelL (can:List Int→Int→Bool) (pref:List Int):List Int:=peelF can pref pref.length []
def leftL (pref R:List Int):List Int:=pref.filter fun x=>decide (x∉R)
def canB (L:List PCon) (cs:List Int) (R:List Int) (item:Int):Bool:=decide (canP L cs R item)
theorem za0k {pref R:List Int} {i:Int} (hi:i∈pref) (hR:i∉R):(leftL pref (R++[i])).length<(leftL pref R).length:=by
 have e:leftL pref (R++[i])=(leftL pref R).filter fun x=>decide (x≠i):=by
  unfold leftL
  rw [List.filter_filter]
  congr 1
  funext x
  simp only [List.mem_append,List.mem_singleton,not_or]
  by_cases h1:x∈R<;>by_cases h2:x=i<;>simp [h1,h2]
 rw [e]
 refine List.length_filter_lt_length_iff_exists.2 ⟨i,?_,by simp⟩
 unfold leftL
 exact List.mem_filter.2 ⟨hi,by simpa using hR⟩
def lenC (c:PCon):Prop:=c.pts.length=(shK c.kind).1∧c.cir.length=(shK c.kind).2.1∧1≤c.kind∧c.kind≤17∧(fourK c.kind→PairsP c.pts)∧(¬fourK c.kind→c.pts.Nodup)
theorem VC.lenC {c:PCon} {n m:Int} (hv:VC c n m):lenC c:=by
 obtain ⟨h1,h2,h3,h4,h5,h6,h7⟩:=hv
 refine ⟨h2.1,h3.1,h1.1,h1.2,fun h=>?_,fun h=>?_⟩
 · rw [if_pos h] at h7; exact h7
 · rw [if_neg h] at h7; exact h7.1
section
variable {h : Hp} {x : TConstraint} {c : PCon} {cs : List Int} {ce : Sl} {t : Int} {Kb : Bool → Hp → Prop} {Ki : Int → Hp → Prop} {Ks : Sl → Hp → Prop}
def posF (l:List Int) (t:Int):Nat→List Int
 | 0=>[]
 | k+1=>posF l t k++(if l[k]?=some t then [(k:Int)] else [])
theorem zwg (l:List Int) (t:Int):∀k,k≤l.length→(posF l t k).length=cnt (l.take k) t
 | 0,_=>by simp [posF,cnt]
 | k+1,hk=>by
   unfold posF
   rw [List.length_append,zwg l t k (by omega)]
   unfold cnt
   rw [←List.take_append_getElem (show k<l.length by omega),List.filter_append,List.length_append]
   congr 1
   rw [List.getElem?_eq_getElem (by omega)]
   by_cases h:l[k]=t<;>simp [h]
theorem zzn (l:List Int) (t:Int):∀k,(posF l t k).length≤k
 | 0=>by simp [posF]
 | k+1=>by
   unfold posF
   have:=zzn l t k
   rw [List.length_append]
   split<;>simp<;>omega
theorem ztu {l:List Int} {t:Int}:∀{k:Nat} (hne:posF l t k≠[]),∃i:Nat,(posF l t k)[0]?=some (i:Int)∧l[i]?=some t∧∀j,j<i→l[j]?≠some t
 | 0,h=>absurd rfl h
 | k+1,h=>by
   unfold posF at h ⊢
   by_cases h0:posF l t k=[]
   · rw [h0,List.nil_append] at h ⊢
     split at h
     · rename_i h3
       rw [if_pos h3]
       refine ⟨k,rfl,h3,fun j hj hh=>?_⟩
       have:(j:Int)∈posF l t k:=by
        have key:∀m,j<m→(j:Int)∈posF l t m:=by
         intro m
         induction m with
         | zero=>intro hm; omega
         | succ m ih=>
           intro hm
           unfold posF
           rcases Nat.lt_or_ge j m with h4 | h4
           · exact List.mem_append_left _ (ih h4)
           · have:j=m:=by omega
             subst this
             rw [if_pos hh]; simp
        exact key k hj
       rw [h0] at this; cases this
     · exact absurd rfl h
   · obtain ⟨i,h1,h2⟩:=ztu h0
     refine ⟨i,?_,h2⟩
     have:0<(posF l t k).length:=List.length_pos_iff.2 h0
     rw [List.getElem?_append_left this]; exact h1
theorem za9b {l:List Int} {t:Int}:cnt l t≠0↔t∈l:=by
 unfold cnt
 rw [←Nat.pos_iff_ne_zero,List.length_pos_iff_exists_mem]
 constructor
 · rintro ⟨a,ha⟩
   have:=List.mem_filter.1 ha
   rw [beq_iff_eq] at this
   rw [←this.2]; exact this.1
 · intro h
   exact ⟨t,List.mem_filter.2 ⟨h,by simp⟩⟩
theorem zyf (hx:CO h x c) (hs:sC c) (H:∀y h',h.le h'→IL h' y (posF c.pts t c.pts.length)→Ks y h'):callP (F.zj3 x t) Ks h:=by
 refine za1 (fun y h'=>IL h' y (posF c.pts t c.pts.length)) (fun K' hk=>?_) fun b h' hl hb=>H b h' hl hb
 unfold F.zj3
 have hp:=hx.2.1
 have hl:=hp.len
 have s1:=hs.1
 refine zcv (n:=c.pts.length) (by omega) (fun i y h'=>OI h h' y (posF c.pts t i)) OI.nil ?_
 intro i y h1 hi ho k hk2
 refine za0 (fun h2=>?_) (fun h2=>?_)
 · have hi':i<c.pts.length:=by simp only at h2; omega
   refine za3 (fun s h'=>OI h h' s.1 (posF c.pts t (i+1))) (fun s h' hs=>hk2 _ _ hi' hs) ?_
   refine (hp.le ho.dle).get i rfl hi' ?_
   have hle:=zzn c.pts t i
   refine zab (fun h3=>?_) (fun h3=>?_)
   · refine ho.app (by omega) fun z h4 ho4=>?_
     show OI _ _ _ _
     unfold posF
     rw [List.getElem?_eq_getElem hi',h3,if_pos rfl]; exact ho4
   · show OI _ _ _ _
     unfold posF
     rw [List.getElem?_eq_getElem hi',if_neg (fun hh=>h3 (Option.some.inj hh)),List.append_nil]; exact ho
 · have:i=c.pts.length:=by simp only at h2; omega
   subst this
   exact hk _ _ ho.dle ho.il
theorem zsk {K:Int→Prop} {i:Nat} (hx:CO h x c) (hc:IL h ce cs) (hok:cirOk c cs) (hi:i<c.cir.length) (H:K (cAt cs c i)):idxP x.circles (i:Int) 1 fun a5=>ldL (.int .i64) a5 (fun x6=>idxP ce x6 1 fun a7=>ldL (.int .i64) a7 K h) h:=by
 refine hx.2.2.1.get i rfl hi ?_
 have hkk:=hok _ (List.getElem_mem hi)
 refine hc.get c.cir[i].toNat (by omega) (by omega) ?_
 unfold cAt at H
 rw [zb9 hi,zb9 (by omega)] at H
 exact H
theorem za1f (hx:CO h x c) (hc:IL h ce cs) (hs:sC c) (hok:cirOk c cs) (hv:lenC c) (H:∀h',h.le h'→Ki (kindP c cs t) h'):callP (F.zl6 x ce t) Ki h:=by
 refine za1 (fun r h'=>r=kindP c cs t) (fun K' hk=>?_) fun b h' hl hb=>by subst hb; exact H h' hl
 unfold F.zl6
 obtain ⟨v1,v2,v3,v4,v5,v6⟩:=hv
 have x1:=hx.1
 have s1:=hs.1
 refine zh9 fun p1 h1 hl1 c1=>zdl fun p2 h2 hl2 c2=>zdl fun p3 h3 hl3 c3=>?_
 have hle:h.le h3:=Hp.le_trans hl1 (Hp.le_trans hl2 hl3)
 have k1:CKC h3 p1 x:=fun i v hv=>Hp.cell_le (Hp.le_trans hl2 hl3) (c1 i v hv)
 refine ⟨_,k1 0 _ rfl,_,k1 1 _ rfl,_,k1 2 _ rfl,_,k1 3 _ rfl,_,k1 4 _ rfl,_,c3,?_⟩
 refine zyf (x:=x) (hx.le hle) hs fun r6 h4 hl4 hr6=>?_
 have hle4:=Hp.le_trans hle hl4
 have k4:CKC h4 p1 x:=fun i v hv=>Hp.cell_le hl4 (k1 i v hv)
 have hr:=hr6.len
 have hpl:=zwg c.pts t c.pts.length (Nat.le_refl _)
 rw [List.take_length] at hpl
 have hat:(posF c.pts t c.pts.length).length≠0↔t∈c.pts:=by rw [hpl]; exact za9b
 have cen:∀i h' (K:Bool→Hp→Prop),i<c.cir.length→h4.le h'→K (decide (cAt cs c i=t)) h'→callP (F.zf3 (i:Int) (some p2) (some p1) (some p3)) K h':=by
  intro i h' K hi hl' hK
  refine zaf _ (fun K'' hk''=>?_) hK
  unfold F.zf3
  have hl3':=Hp.le_trans hl4 hl'
  refine ⟨_,Hp.cell_le (Hp.le_trans hl3 hl3') c2,_,Hp.cell_le hl' (k4 2 _ rfl),?_⟩
  refine zsk (x:=x) (ce:=ce) (hx.le (Hp.le_trans hle4 hl')) (hc.le (Hp.le_trans hle4 hl')) hok hi ?_
  refine ⟨_,Hp.cell_le hl3' c3,?_⟩
  have:(cAt cs c i==t)=decide (cAt cs c i=t):=by
   by_cases hh:cAt cs c i=t
   · rw [decide_eq_true hh,hh]; simp
   · rw [decide_eq_false hh,beq_eq_false_iff_ne]; exact hh
  show K'' (cAt cs c i==t) h'
  rw [this]; exact hk''
 refine ⟨_,k4 0 _ rfl,?_⟩
 rw [x1]
 have hk':∀r,r=kindP c cs t→K' r h4:=fun r hr=>hk _ _ hle4 hr
 unfold kindP at hk'
 refine zab (fun e13=>?_) (fun e13=>?_)
 · refine cen 0 h4 _ (by rw [v2,e13]; decide) (Hp.le_refl _) ?_
   rw [if_pos e13] at hk'
   have ha:decide ((r6.len:Int)>0)=decide (t∈c.pts):=decide_eq_decide.2 (by rw [←hat]; omega)
   rw [ha]
   refine za2 (fun h5=>hk' _ ?_) (fun h5=>hk' _ ?_)
   · rw [if_neg]
     intro hh
     by_cases g:t∈c.pts
     · rw [decide_eq_true g,decide_eq_true (hh.1 g)] at h5; cases h5
     · rw [decide_eq_false g,decide_eq_false (fun z=>g (hh.2 z))] at h5; cases h5
   · rw [if_pos]
     by_cases g:t∈c.pts
     · rw [decide_eq_true g] at h5
       exact ⟨fun _=>by simpa using h5,fun _=>g⟩
     · rw [decide_eq_false g] at h5
       exact ⟨fun z=>absurd z g,fun z=>by rw [decide_eq_true z] at h5; cases h5⟩
 rw [if_neg e13] at hk'
 refine zab (fun e16=>?_) (fun e16=>?_)
 · refine cen 0 h4 _ (by rw [v2,e16]; decide) (Hp.le_refl _) ?_
   rw [if_pos e16] at hk'
   refine za0 (fun h5=>zab (fun h6=>hk' _ ?_) (fun h6=>hk' _ ?_)) (fun h5=>hk' _ ?_)
   · rw [if_pos ⟨h5,fun hh=>absurd (hat.2 hh) (by omega)⟩]
   · rw [if_neg (fun hh=>hh.2 (hat.1 (by omega)))]
   · rw [if_neg (fun hh=>h5 hh.1)]
 rw [if_neg e16] at hk'
 refine zab (fun e17=>?_) (fun e17=>?_)
 · refine cen 0 h4 _ (by rw [v2,e17]; decide) (Hp.le_refl _) (cen 1 h4 _ (by rw [v2,e17]; decide) (Hp.le_refl _) ?_)
   rw [if_pos e17] at hk'
   refine za2 (fun h5=>hk' _ ?_) (fun h5=>hk' _ ?_)
   · rw [if_neg]
     intro hh
     have e:decide (cAt cs c 0=t)=decide (cAt cs c 1=t):=decide_eq_decide.2 hh
     rw [e] at h5
     simp at h5
   · rw [if_pos]
     have h6:decide (cAt cs c 0=t)=decide (cAt cs c 1=t):=by simpa using h5
     exact decide_eq_decide.1 h6
 rw [if_neg e17] at hk'
 refine zab (fun e0=>?_) (fun e0=>?_)
 · refine hk' _ ?_
   rw [if_pos (fun hh=>absurd (hat.2 hh) (by omega))]
 have hin:t∈c.pts:=hat.1 (by omega)
 rw [if_neg (fun hh=>hh hin)] at hk'
 have hne:posF c.pts t c.pts.length≠[]:=fun hh=>by rw [hh] at hr; simp at hr; omega
 obtain ⟨i0,hi0,hi1,hi2⟩:=ztu hne
 have hlen0:0<(posF c.pts t c.pts.length).length:=List.length_pos_iff.2 hne
 have hget0:(posF c.pts t c.pts.length)[0]=(i0:Int):=by rw [List.getElem?_eq_getElem hlen0] at hi0; exact Option.some.inj hi0
 refine ⟨_,k4 0 _ rfl,?_⟩
 rw [x1]
 have dk:∀(n:Int),(c.kind==n)=decide (c.kind=n):=fun n=>by
  by_cases hh:c.kind=n
  · rw [decide_eq_true hh,hh]; simp
  · rw [decide_eq_false hh,beq_eq_false_iff_ne]; exact hh
 refine za3 (fun s h'=>h'=h4∧s.1=decide (c.kind=1∨c.kind=9)) ?_ ?_
 · rintro ⟨b,_⟩ h4 ⟨rfl,hb⟩
   simp only at hb
   subst hb
   refine za0 (fun e=>?_) (fun e1=>?_)
   · rw [if_pos e] at hk'; exact hk' _ rfl
   rw [if_neg e1] at hk'
   refine zab (fun e=>?_) (fun e2=>?_)
   · rw [if_pos e] at hk'; exact hk' _ rfl
   rw [if_neg e2] at hk'
   refine za3 (fun s h'=>h'=h4∧s.1=decide (c.kind=3∨c.kind=6∨c.kind=11∨c.kind=12)) ?_ ?_
   · rintro ⟨b,_⟩ h4 ⟨rfl,hb⟩
     simp only at hb
     subst hb
     refine za0 (fun e=>?_) (fun e3=>?_)
     · rw [if_pos e] at hk'; exact hk' _ rfl
     rw [if_neg e3] at hk'
     refine zab (fun e=>?_) (fun e4=>?_)
     · rw [if_pos e] at hk'
       refine hr6.get 0 rfl hlen0 ?_
       rw [hget0]
       refine zab (fun h5=>hk' _ ?_) (fun h5=>hk' _ ?_)
       · have:i0=0:=by omega
         subst this
         rw [if_pos hi1]
       · rw [if_neg (hi2 0 (by omega))]
     rw [if_neg e4] at hk'
     refine zab (fun e=>?_) (fun e5=>?_)
     · rw [if_pos e] at hk'
       refine hr6.get 0 rfl hlen0 ?_
       rw [hget0]
       refine za0 (fun h5=>hk' _ ?_) (fun h5=>hk' _ ?_)
       · have h5:(i0:Int)<2:=h5
         rcases (by omega:i0=0∨i0=1) with rfl | rfl
         · rw [if_pos (.inl hi1)]
         · rw [if_pos (.inr hi1)]
       · have h5:¬(i0:Int)<2:=h5
         rw [if_neg]
         rintro (hh | hh)
         · exact hi2 0 (by omega) hh
         · exact hi2 1 (by omega) hh
     rw [if_neg e5] at hk'
     have hc2:((r6.len:Int)==2)=decide (cnt c.pts t=2):=by
      rw [hr,hpl]
      by_cases hh:cnt c.pts t=2
      · rw [decide_eq_true hh,hh]; rfl
      · rw [decide_eq_false hh,beq_eq_false_iff_ne]; omega
     rw [hc2]
     refine za3 (fun s h'=>h'=h4∧s.1=decide (c.kind=5∨c.kind=7)) ?_ ?_
     · rintro ⟨b,_⟩ h4 ⟨rfl,hb⟩
       simp only at hb
       subst hb
       refine za0 (fun e=>?_) (fun e6=>?_)
       · rw [if_pos e] at hk'
         exact za0 (fun h5=>hk' _ (by rw [if_pos h5])) (fun h5=>hk' _ (by rw [if_neg h5]))
       rw [if_neg e6] at hk'
       refine zab (fun e=>?_) (fun e7=>?_)
       · rw [if_pos e] at hk'
         exact za0 (fun h5=>hk' _ (by rw [if_pos h5])) (fun h5=>hk' _ (by rw [if_neg h5]))
       rw [if_neg e7] at hk'
       exact hk' _ rfl
     · rw [dk 5,dk 7]
       refine za0 (fun e=>⟨rfl,?_⟩) (fun e=>⟨rfl,?_⟩)
       · rw [decide_eq_true e,decide_eq_true (Or.inl e)]
       · exact decide_eq_decide.2 (by omega)
   · rw [dk 3,dk 6,dk 11,dk 12]
     refine za0 (fun e=>⟨rfl,?_⟩) (fun e=>za0 (fun e2=>⟨rfl,?_⟩) (fun e2=>za0 (fun e3=>⟨rfl,?_⟩) (fun e3=>⟨rfl,?_⟩)))
     all_goals exact decide_eq_decide.2 (by omega)
 · rw [dk 1,dk 9]
   refine za0 (fun e=>⟨rfl,?_⟩) (fun e=>⟨rfl,?_⟩)
   all_goals exact decide_eq_decide.2 (by omega)
end
end Den
end

section
namespace Den
open Go Iv Lx
section
variable {h : Hp} {x : TConstraint} {c : PCon} {cs : List Int} {ce : Sl} {t k : Int} {Kb : Bool → Hp → Prop} {Ki : Int → Hp → Prop} {Ks : Sl → Hp → Prop}
theorem za7g (hv:lenC c) (hm:k∈c.cir):c.kind=13∨c.kind=14∨c.kind=15∨c.kind=16∨c.kind=17:=by
 obtain ⟨v1,v2,v3,v4,_⟩:=hv
 have h1:c.cir.length≠0:=fun hh=>by rw [List.eq_nil_of_length_eq_zero hh] at hm; cases hm
 apply Classical.byContradiction
 intro hn
 have:(shK c.kind).2.1=0:=by
  rcases (by omega:c.kind=1∨c.kind=2∨c.kind=3∨c.kind=4∨c.kind=5∨c.kind=6∨c.kind=7∨c.kind=8∨c.kind=9∨c.kind=10∨c.kind=11∨c.kind=12) with e | e | e | e | e | e | e | e | e | e | e | e<;>rw [e]<;>rfl
 omega
theorem za00 (hx:CO h x c) (hc:IL h ce cs) (hs:sC c) (hok:cirOk c cs) (hv:lenC c) (H:∀b h',h.le h'→(b=true↔sizesP c cs k)→Kb b h'):callP (F.zk9 x ce k) Kb h:=by
 refine za1 (fun b h'=>b=true↔sizesP c cs k) (fun K' hk=>?_) fun b h' hl hb=>H b h' hl hb
 unfold F.zk9
 have x1:=hx.1
 have x5:=hx.2.2.2.2
 refine zrp hx.2.2.1 (by have:=hs.2.1; omega) fun r h1 hl1 hr=>?_
 have no:∀h',h.le h'→¬sizesP c cs k→K' false h':=fun h' hl hn=>hk _ _ hl ⟨fun hh=>(by cases hh),fun hh=>absurd hh hn⟩
 refine za0 (fun h2=>no _ hl1 fun hh=>?_) (fun h2=>?_)
 · have:=hr.2 hh.1; omega
 have hm:=hr.1 (by omega)
 have hkd:=za7g hv hm
 have hkk:=hok _ hm
 have dk:∀(n:Int),(c.kind==n)=decide (c.kind=n):=fun n=>by
  by_cases hh:c.kind=n
  · rw [decide_eq_true hh,hh]; simp
  · rw [decide_eq_false hh,beq_eq_false_iff_ne]; exact hh
 rw [x1,x5]
 unfold sizesP at hk no
 refine za3 (fun s h'=>h'=h1∧s.1=decide (c.kind=14∨c.kind=15)) ?_ ?_
 · rintro ⟨b,_⟩ h1 ⟨rfl,hb⟩
   simp only at hb
   subst hb
   refine za0 (fun e=>hk _ _ hl1 ⟨fun _=>⟨hm,?_⟩,fun _=>rfl⟩) (fun e1=>?_)
   · rw [if_neg (by omega),if_neg (by omega)]; trivial
   refine za3 (fun s h'=>h'=h1∧s.1=decide (c.kind=13∨c.kind=16)) ?_ ?_
   · rintro ⟨b,_⟩ h1 ⟨rfl,hb⟩
     simp only at hb
     subst hb
     refine za0 (fun e=>?_) (fun e2=>?_)
     · rw [if_pos e] at hk no
       refine (hc.le hl1).get k.toNat (by omega) (by omega) ?_
       refine zek (hx.2.1.le hl1) (by have:=hs.1; omega) fun h3 hl3=>hk _ _ (Hp.le_trans hl1 hl3) ?_
       rw [zb9 (show k.toNat<cs.length by omega)]
       by_cases g:cs[k.toNat]∈c.pts
       · rw [decide_eq_true g]
         exact ⟨fun hh=>(by cases hh),fun hh=>absurd g hh.2⟩
       · rw [decide_eq_false g]
         exact ⟨fun _=>⟨hm,g⟩,fun _=>rfl⟩
     · rw [if_neg e2] at hk no
       refine zab (fun e17=>?_) (fun e17=>by omega)
       rw [if_pos e17] at hk no
       refine zab (fun e5=>?_) (fun e5=>no _ hl1 fun hh=>e5 hh.2.1)
       refine zsk (i:=0) (hx.le hl1) (hc.le hl1) hok (by rw [hv.2.1,e17]; decide) ?_
       refine zsk (i:=1) (hx.le hl1) (hc.le hl1) hok (by rw [hv.2.1,e17]; decide) ?_
       refine hk _ _ hl1 ?_
       rw [bne_iff_ne]
       exact ⟨fun hh=>⟨hm,e5,hh⟩,fun hh=>hh.2.2⟩
   · rw [dk 13,dk 16]
     refine za0 (fun e=>⟨rfl,?_⟩) (fun e=>⟨rfl,?_⟩)
     all_goals exact decide_eq_decide.2 (by omega)
 · rw [dk 14,dk 15]
   refine za0 (fun e=>⟨rfl,?_⟩) (fun e=>⟨rfl,?_⟩)
   all_goals exact decide_eq_decide.2 (by omega)
end
end Den
end

section
namespace Den
open Go Iv Lx
def its (S:PSk):List (List Int):=(allC S).map fun c=>itemsC c (cens S)
theorem zlo {S:PSk}:(its S).length=(allC S).length:=by simp [its]
theorem za4s (k:Int):eqK k≤2:=by
 unfold eqK shK
 split
 · have:∀i:Nat,(tabK.getD i (0,0,0,0,false)).2.2.2.1≤2:=by
    intro i
    rcases Nat.lt_or_ge i 17 with h | h
    · have:∀i:Fin 17,(tabK.getD i (0,0,0,0,false)).2.2.2.1≤2:=by decide
      exact this ⟨i,h⟩
    · rw [List.getD_eq_getElem?_getD,List.getElem?_eq_none (by exact h)]; decide
   exact this _
 · decide
theorem zr2 {L:List PCon} {l:List Int} {i:Int}:wtL L (l++[i])=wtL L l+eqK (L.getD i.toNat dC).kind:=by simp [wtL]
theorem za74 {L:List PCon}:∀l:List Int,wtL L l≤2*l.length
 | []=>by simp [wtL]
 | a :: r=>by
   have h1:=za74 (L:=L) r
   have h2:=za4s (L.getD a.toNat dC).kind
   unfold wtL at h1 ⊢
   simp only [List.map_cons,List.sum_cons,List.length_cons]
   omega
theorem zaa1 {its:List (List Int)} {item:Int} {R:List Int}:(remL its item R).length≤its.length:=zqy _ _ _ _
theorem zaa2 {its:List (List Int)} {item:Int} {R:List Int} {j:Int} (h:j∈remL its item R):∃k:Nat,k<its.length∧j=k∧keepP (its.getD k []) item R:=zm4.1 h
section
variable {h : Hp} {s : TSketch} {S : PSk} {p : Addr} {item : Int} {R : List Int} {rs : Sl} {Kb : Bool → Hp → Prop} {Ki : Int → Hp → Prop} {Ks : Sl → Hp → Prop}
theorem za95 {n m:Nat} {D:Hp} {K:Sl→Hp→Prop} (hn:n≤1000) (hm:m≤1000) (H:∀y h',OI D h' y (allI n m)→K y h') {y:Sl} {h1:Hp} (ho:OI D h1 y ((List.range n).map fun i:Nat=>(i:Int))) :
 (loopP (S:=Sl×Int×Unit) (fun s8 k9 h3=>
 (ifP (decide (s8.2.1<(m:Int)))
 (appP 1 8 [.int .i64 0] s8.1 1 [.int .i64 (IntKind.i64.wrap ((-1)-s8.2.1))] (fun w10 h4=>
 (k9 (w10,(IntKind.i64.wrap (s8.2.1+1)),()) h4)) h3)
 (K s8.1 h3)))
 (y,0,()) h1):=by
  refine zcv (n:=m) (by omega) (fun i y h'=>OI D h' y ((List.range n).map (fun i:Nat=>(i:Int))++(List.range i).map fun i:Nat=>-1-(i:Int))) (by simpa using ho) ?_
  intro i z h2 hi ho2 k hk2
  refine za0 (fun h3=>?_) (fun h3=>?_)
  · have hi':i<m:=by simp only at h3; omega
    simp only
    rw [show IntKind.i64.wrap (-1-(i:Int))=-1-(i:Int) from w64 (by omega)]
    refine ho2.app (by simp; omega) fun w h4 ho4=>hk2 _ _ hi' ?_
    rw [List.range_succ,List.map_append,←List.append_assoc]
    exact ho4
  · have:i=m:=by simp only at h3; omega
    subst this
    exact H _ _ ho2
theorem zp9 (hp:PR h p S) (hs:sSk S) (H:∀y h',h.le h'→OI h h' y (allI S.pts.length S.cir.length)→Ks y h'):callP (F.y_henneberg_peeler_all (some p)) Ks h:=by
 refine za1 (fun y h'=>OI h h' y (allI S.pts.length S.cir.length)) (fun K' hk=>?_) fun b h' hl hb=>H b h' hl hb
 unfold F.y_henneberg_peeler_all
 obtain ⟨s,lS,itS,ceS,hx,hc,_⟩:=hp
 have l1:=hx.1.len zdq
 have l2:=hx.2.1.len zef
 have:=hs.1
 have:=hs.2.1
 simp only [zci,Nat.zero_add]
 refine ⟨_,hc 0 _ rfl,?_⟩
 simp only
 rw [l1]
 refine zcv (n:=S.pts.length) (by omega) (fun i y h'=>OI h h' y ((List.range i).map fun i:Nat=>(i:Int))) OI.nil ?_
 intro i y h2 hi ho k hk2
 refine za0 (fun h3=>?_) (fun h3=>?_)
 · have hi':i<S.pts.length:=by simp only at h3; omega
   refine ho.app (by simp; omega) fun w h4 ho4=>hk2 _ _ hi' ?_
   rw [List.range_succ,List.map_append]
   exact ho4
 have:i=S.pts.length:=by simp only at h3; omega
 subst this
 refine ⟨_,Hp.cell_le ho.dle (hc 1 _ rfl),?_⟩
 simp only
 rw [l2]
 exact za95 (n:=S.pts.length) (m:=S.cir.length) (by omega) (by omega) (fun z h2 ho2=>hk _ _ ho2.dle ho2) ho
theorem zsu (hp:PR h p S) (hs:sSk S) (hv:VS S) (hr:IL h rs R) (hR:R.length≤100000) (H:∀y h',h.le h'→OI h h' y (remL (its S) item R)→Ks y h'):callP (F.y_henneberg_peeler_remaining (some p) item rs) Ks h:=by
 refine za1 (fun y h'=>OI h h' y (remL (its S) item R)) (fun K' hk=>?_) fun b h' hl hb=>H b h' hl hb
 unfold F.y_henneberg_peeler_remaining
 obtain ⟨s,lS,itS,ceS,hx,hc,hL,hI,hC⟩:=hp
 have hal:=zno hs
 have hok:=zlk hv hs
 have hIl:=hI.len zjl
 rw [List.length_map] at hIl
 refine zdl fun p1 h1 hl1 c1=>?_
 refine ⟨_,Hp.cell_le hl1 (hc 7 _ rfl),?_⟩
 refine zcv (n:=(allC S).length) (by omega) (fun i y h'=>OI h1 h' y (remN (its S) item R i)) OI.nil ?_
 intro i y h2 hi ho k hk2
 have hle:=Hp.le_trans hl1 ho.dle
 refine za0 (fun h3=>?_) (fun h3=>?_)
 · have hi':i<(allC S).length:=by simp only at h3; omega
   refine za3 (fun s h'=>OI h1 h' s.1 (remN (its S) item R (i+1))) (fun s h' hs=>hk2 _ _ hi' hs) ?_
   refine (hI.le zjl hle).get zjl i rfl (by simpa using hi') fun a x hxx hcx=>?_
   have e0:=hcx 0 _ rfl
   rw [zb7] at e0
   refine ⟨_,e0,?_⟩
   rw [List.getElem_map] at hxx
   have hlen:=zrr (cs:=cens S) (hok _ (List.getElem_mem hi')).2
   have hxx:IL h2 x (itemsC (allC S)[i] (cens S)):=hxx
   have hg:(its S).getD i []=itemsC (allC S)[i] (cens S):=by
    rw [zb9 (by rw [zlo]; exact hi')]
    simp [its]
   have hstep:remN (its S) item R (i+1)=remN (its S) item R i++(if keepP (itemsC (allC S)[i] (cens S)) item R then [(i:Int)] else []):=by
    conv=>lhs; unfold remN
    rw [hg]
   have hrl:=zqy (its S) item R i
   refine zek hxx (by omega) fun h4 hl4=>?_
   have ho4:=ho.le hl4
   refine za0 (fun h5=>?_) (fun h5=>?_)
   · refine za1 (fun b h'=>b=true↔∃x∈itemsC (allC S)[i] (cens S),x∈R) (fun K2 hk3=>?_) fun b h6 hl6 hb=>?_
     · unfold F.zbd
       refine za1 (fun r h'=>Fnd (fun x=>x∈R) (itemsC (allC S)[i] (cens S)) r) (fun K4 hk4=>?_) fun r h' hl hr=>hk3 _ _ hl (by rw [decide_eq_true_iff]; exact hr.iff)
       unfold F.zbi
       refine zln (hxx.le hl4) (by omega) (fun x _ h7 hl7 K5 hK5=>?_) fun r h' hl hr=>hk4 _ _ hl hr
       refine za1 (fun b h'=>b=decide (x∈R)) (fun K6 hk6=>?_) fun b h8 hl8 hb=>hK5 _ _ hl8 (by rw [hb,decide_eq_true_iff])
       unfold F.y_henneberg_peeler_remaining_1
       have l7:=Hp.le_trans ho4.dle hl7
       refine ⟨_,Hp.cell_le l7 c1,?_⟩
       exact zek (hr.le (Hp.le_trans hl1 l7)) (by omega) fun h8 hl8=>hk6 _ _ hl8 rfl
     · have ho6:=ho4.le hl6
       refine za2 (fun h7=>?_) (fun h7=>?_)
       · have hkp:keepP (itemsC (allC S)[i] (cens S)) item R:=⟨h5,fun x hx hxR=>by rw [hb.2 ⟨x,hx,hxR⟩] at h7; cases h7⟩
         refine ho6.app (by omega) fun z h8 ho8=>?_
         show OI _ _ _ _
         rw [hstep,if_pos hkp]; exact ho8
       · have hkp:¬keepP (itemsC (allC S)[i] (cens S)) item R:=fun hh=>by
          obtain ⟨x,hx,hxR⟩:=hb.1 (by simpa using h7)
          exact hh.2 x hx hxR
         show OI _ _ _ _
         rw [hstep,if_neg hkp,List.append_nil]; exact ho6
   · show OI _ _ _ _
     rw [hstep,if_neg (fun hh=>h5 hh.1),List.append_nil]; exact ho4
 · have:i=(allC S).length:=by simp only at h3; omega
   subst this
   refine hk _ _ hle ?_
   have ho:=ho.base hl1
   unfold remL
   rw [zlo]; exact ho
theorem zna {k:Nat} (hp:PR h p S) (hs:sSk S) (hv:VS S) (ht:GT h) (hk:k<(allC S).length) (H:Ki ((eqK ((allC S).getD k dC).kind:Nat):Int) h):callP (F.y_henneberg_peeler_equations (some p) (k:Int)) Ki h:=by
 refine zaf _ (fun K' hkk=>?_) H
 unfold F.y_henneberg_peeler_equations
 obtain ⟨s,lS,itS,ceS,hx,hc,hL,hI,hC⟩:=hp
 refine ⟨_,hc 6 _ rfl,?_⟩
 refine hL.get zai k rfl hk fun a x hxx hcx=>⟨_,hcx 0 _ rfl,?_⟩
 rw [hxx.1]
 have:=(zlk hv hs _ (List.getElem_mem hk)).1.1
 rw [zb9 hk] at hkk
 exact zoq ht.2.2 (fun _ _ ln ps=>hkk) (fun hn=>absurd this hn)
theorem zqg {l:Sl} {xs:List Int} (hp:PR h p S) (hs:sSk S) (hv:VS S) (ht:GT h) (hl:IL h l xs) (hlen:xs.length≤100000) (hin:∀i∈xs,∃k:Nat,k<(allC S).length∧i=k) (H:∀h',h.le h'→Ki ((wtL (allC S) xs:Nat):Int) h'):callP (F.y_henneberg_peeler_weight (some p) l) Ki h:=by
 refine za1 (fun b h'=>b=((wtL (allC S) xs:Nat):Int)) (fun K' hk=>?_) fun b h' hl hb=>by subst hb; exact H h' hl
 unfold F.y_henneberg_peeler_weight
 have hll:=hl.len
 refine zcv (n:=xs.length) (by omega) (fun i a h'=>h.le h'∧a=((wtL (allC S) (xs.take i):Nat):Int)) ⟨Hp.le_refl _,by simp [wtL]⟩ ?_
 rintro i a h2 hi ⟨hl2,ha⟩ k hk2
 refine za0 (fun h3=>?_) (fun h3=>?_)
 · have hi':i<xs.length:=by simp only at h3; omega
   refine (hl.le hl2).get i rfl hi' ?_
   obtain ⟨q,hq1,hq2⟩:=hin _ (List.getElem_mem hi')
   rw [hq2]
   have hw:=za74 (L:=allC S) (xs.take i)
   rw [List.length_take] at hw
   have hw2:=za4s ((allC S).getD q dC).kind
   refine zna (hp.le hl2) hs hv (ht.le hl2) hq1 (hk2 _ _ hi' ⟨hl2,?_⟩)
   rw [←List.take_append_getElem hi',zr2,hq2]
   simp only
   rw [ha,w64 (by omega)]
   rfl
 · have:i=xs.length:=by simp only at h3; omega
   subst this
   rw [List.take_length] at ha
   rw [ha]
   exact hk _ _ hl2 rfl
theorem za0q {k:Nat} {t:Int} (hp:PR h p S) (hs:sSk S) (hv:VS S) (hk:k<(allC S).length) (H:∀h',h.le h'→Ki (kindP ((allC S).getD k dC) (cens S) t) h'):callP (F.y_henneberg_peeler_kind (some p) (k:Int) t) Ki h:=by
 refine za1 (fun b h'=>b=kindP ((allC S).getD k dC) (cens S) t) (fun K' hkk=>?_) fun b h' hl hb=>by subst hb; exact H h' hl
 unfold F.y_henneberg_peeler_kind
 obtain ⟨s,lS,itS,ceS,hx,hc,hL,hI,hC⟩:=hp
 refine ⟨_,hc 6 _ rfl,?_⟩
 refine hL.get zai k rfl hk fun a x hxx hcx=>⟨_,hcx 0 _ rfl,_,hcx 1 _ rfl,_,hcx 2 _ rfl,_,hcx 3 _ rfl,_,hcx 4 _ rfl,?_⟩
 refine ⟨_,hc 8 _ rfl,?_⟩
 have:=zlk hv hs _ (List.getElem_mem hk)
 rw [zb9 hk] at hkk
 exact za1f (x:=x) hxx hC this.2 this.1.cirOk this.1.lenC fun h' hl=>hkk _ _ hl rfl
def smI (item:Int):Prop:=-1000000≤item∧item≤1000000
theorem zsv (hp:PR h p S) (hs:sSk S) (hv:VS S) (ht:GT h) (hr:IL h rs R) (hR:R.length≤100000) (hi:smI item) (H:∀b h',h.le h'→(b=true↔canP (allC S) (cens S) R item)→Kb b h'):callP (F.y_henneberg_peeler_removable (some p) item rs) Kb h:=by
 refine za1 (fun b h'=>b=true↔canP (allC S) (cens S) R item) (fun K' hk=>?_) fun b h' hl hb=>H b h' hl hb
 unfold F.y_henneberg_peeler_removable
 have no:∀h',h.le h'→¬canP (allC S) (cens S) R item→K' false h':=fun h' hl hn=>hk _ _ hl ⟨fun hh=>(by cases hh),fun hh=>absurd hh hn⟩
 have hits:its S=(allC S).map fun c=>itemsC c (cens S):=rfl
 unfold canP at no hk
 rw [←hits] at no hk
 refine zdl fun p1 h1 hl1 c1=>zdl fun p2 h2 hl2 c2=>?_
 have hle2:=Hp.le_trans hl1 hl2
 refine ⟨_,c2,?_⟩
 refine zek (hr.le hle2) (by omega) fun h3 hl3=>?_
 have hle3:=Hp.le_trans hle2 hl3
 refine za0 (fun h4=>no _ hle3 fun hh=>hh.1 h4) (fun h4=>?_)
 have d1:∀{h'},h3.le h'→h'.cell p1=some (.pointer (some p)):=fun hl=>Hp.cell_le (Hp.le_trans hl2 (Hp.le_trans hl3 hl)) c1
 have d2:∀{h'},h3.le h'→h'.cell p2=some (.int .i64 item):=fun hl=>Hp.cell_le (Hp.le_trans hl3 hl) c2
 refine ⟨_,d1 (Hp.le_refl _),_,d2 (Hp.le_refl _),?_⟩
 refine zsu (hp.le hle3) hs hv (hr.le hle3) hR fun r7 h5 hl5 ho5=>?_
 have hle5:=Hp.le_trans hle3 hl5
 have hrl:(remL (its S) item R).length≤(its S).length:=zaa1
 rw [zlo] at hrl
 have hal:=zno hs
 have hin:∀i∈remL (its S) item R,∃k:Nat,k<(allC S).length∧i=k:=fun i hi=>by
  obtain ⟨k,h1,h2,_⟩:=zaa2 hi
  rw [zlo] at h1
  exact ⟨k,h1,h2⟩
 refine ⟨_,d2 hl5,?_⟩
 obtain ⟨s,lS,itS,ceS,hpp⟩:=hp
 have hp:PR h p S:=⟨s,lS,itS,ceS,hpp⟩
 obtain ⟨hx,hc,hL,hI,hC⟩:=hpp
 refine za0 (fun h6=>?_) (fun h6=>?_)
 · have h6:item<0:=h6
   refine ⟨_,d1 hl5,?_⟩
   refine zqg (hp.le hle5) hs hv (ht.le hle5) ho5.il (by omega) hin fun h7 hl7=>?_
   have hle7:=Hp.le_trans hle5 hl7
   have hm:most item=1:=by unfold most; rw [if_pos h6]
   refine za0 (fun h8=>?_) (fun h8=>no _ hle7 fun hh=>by have:=hh.2.1; omega)
   refine za1 (fun b h'=>b=true↔∃i∈remL (its S) item R,¬suitP ((allC S).getD i.toNat dC) (cens S) item) (fun K2 hk3=>?_) fun b h9 hl9 hb=>hk _ _ (Hp.le_trans hle7 hl9) ?_
   · unfold F.zbe
     refine za1 (fun r h'=>Fnd (fun i=>¬suitP ((allC S).getD i.toNat dC) (cens S) item) (remL (its S) item R) r) (fun K4 hk4=>?_) fun r h' hl hr=>hk3 _ _ hl (by rw [decide_eq_true_iff]; exact hr.iff)
     unfold F.zbj
     refine zln (ho5.il.le hl7) (by omega) (fun i hi2 h9 hl9 K5 hK5=>?_) fun r h' hl hr=>hk4 _ _ hl hr
     refine za1 (fun b h'=>b=true↔¬suitP ((allC S).getD i.toNat dC) (cens S) item) (fun K6 hk6=>?_) fun b h8 hl8 hb=>hK5 _ _ hl8 hb
     unfold F.y_henneberg_peeler_removable_1
     obtain ⟨k,hk1,rfl⟩:=hin i hi2
     have hle9:=Hp.le_trans hle7 hl9
     have l39:=Hp.le_trans hl5 (Hp.le_trans hl7 hl9)
     refine ⟨_,d1 l39,_,Hp.cell_le hle9 (hc 6 _ rfl),?_⟩
     refine (hL.le zai hle9).get zai k rfl hk1 fun a x hxx hcx=>⟨_,hcx 0 _ rfl,_,hcx 1 _ rfl,_,hcx 2 _ rfl,_,hcx 3 _ rfl,_,hcx 4 _ rfl,?_⟩
     refine ⟨_,d1 l39,_,Hp.cell_le hle9 (hc 8 _ rfl),_,d2 l39,?_⟩
     have hok:=zlk hv hs _ (List.getElem_mem hk1)
     have e1:IntKind.i64.wrap (-1-item)=-1-item:=by unfold smI at hi; exact w64 (by omega)
     simp only
     rw [e1]
     refine za00 (x:=x) hxx (hC.le hle9) hok.2 hok.1.cirOk hok.1.lenC fun b h' hl hb=>hk6 _ _ hl ?_
     rw [show ((k:Nat):Int).toNat=k from rfl,zb9 hk1]
     unfold suitP
     rw [if_pos h6,←hb]
     cases b<;>simp
   · rw [Bool.not_eq_true',←Bool.not_eq_true,hb]
     constructor
     · intro hh
       exact ⟨h4,by omega,fun i hi=>Classical.byContradiction fun hn=>hh ⟨i,hi,hn⟩⟩
     · rintro ⟨_,_,h10⟩ ⟨i,hi,hn⟩
       exact hn (h10 i hi)
 · have h6:¬item<0:=h6
   refine ⟨_,d1 hl5,?_⟩
   refine zqg (hp.le hle5) hs hv (ht.le hle5) ho5.il (by omega) hin fun h7 hl7=>?_
   have hle7:=Hp.le_trans hle5 hl7
   have hm:most item=2:=by unfold most; rw [if_neg h6]
   refine za0 (fun h8=>no _ hle7 fun hh=>by have:=hh.2.1; omega) (fun h8=>?_)
   have hr7:=ho5.il.le hl7
   have hr7l:=hr7.len
   refine zbr (n:=(remL (its S) item R).length) (by omega) (fun i h'=>h7.le h'∧∀j (hj:j<(remL (its S) item R).length),j<i→suitP ((allC S).getD (remL (its S) item R)[j].toNat dC) (cens S) item) ⟨Hp.le_refl _,fun j _ hj=>by omega⟩ ?_
   rintro i h9 hi9 ⟨hl9,hno⟩ kk hk2
   have hle9:=Hp.le_trans hle7 hl9
   have l39:=Hp.le_trans hl5 (Hp.le_trans hl7 hl9)
   refine za0 (fun h10=>?_) (fun h10=>?_)
   · have hi':i<(remL (its S) item R).length:=by simp only at h10; omega
     refine (hr7.le hl9).get i rfl hi' ?_
     obtain ⟨k,hk1,hk2e⟩:=hin _ (List.getElem_mem hi')
     rw [hk2e]
     refine ⟨_,d1 l39,_,d2 l39,?_⟩
     refine za0q (hp.le hle9) hs hv hk1 fun h11 hl11=>?_
     have hle11:=Hp.le_trans hle9 hl11
     have l311:=Hp.le_trans l39 hl11
     obtain ⟨kd,hkd⟩:∃kd,kd=kindP ((allC S).getD k dC) (cens S) item:=⟨_,rfl⟩
     have hsuit:suitP ((allC S).getD (remL (its S) item R)[i].toNat dC) (cens S) item↔(if eqK ((allC S).getD k dC).kind=2 then kd=3 else kd=1∨kd=2):=by
      rw [hk2e,hkd]
      unfold suitP
      rw [if_neg h6]
      rfl
     rw [←hkd]
     refine za3 (fun s h'=>h'=h11∧s.1=decide (kd=1∨kd=2)) ?_ ?_
     · rintro ⟨b,_⟩ h11 ⟨rfl,hb⟩
       simp only at hb
       subst hb
       refine za3 (fun s h'=>h'=h11∧(s.1=true↔suitP ((allC S).getD (remL (its S) item R)[i].toNat dC) (cens S) item)) ?_ ?_
       · rintro ⟨b,_⟩ h11 ⟨rfl,hb⟩
         simp only at hb
         refine za2 (fun h12=>no _ hle11 fun hh=>?_) (fun h12=>hk2 _ hi' ⟨Hp.le_trans hl9 hl11,?_⟩)
         · rw [hb.2 (hh.2.2 _ (List.getElem_mem hi'))] at h12; cases h12
         · exact upto (P:=fun i:Int=>suitP ((allC S).getD i.toNat dC) (cens S) item) hno hi' (hb.1 (by simpa using h12))
       · refine ⟨_,d1 l311,?_⟩
         refine zna (hp.le hle11) hs hv (ht.le hle11) hk1 ?_
         refine zab (fun h12=>⟨rfl,?_⟩) (fun h12=>⟨rfl,?_⟩)
         · rw [hsuit,if_pos (by omega)]
           simp
         · rw [hsuit,if_neg (by omega)]
           simp
     · refine zab (fun h12=>⟨rfl,?_⟩) (fun h12=>⟨rfl,?_⟩)
       · rw [h12]; rfl
       · by_cases h13:kd=2
         · rw [h13]; rfl
         · rw [decide_eq_false (by omega)]; simpa using h13
   · refine hk _ _ hle9 ⟨fun _=>⟨h4,by omega,?_⟩,fun _=>rfl⟩
     exact upall (P:=fun i:Int=>suitP ((allC S).getD i.toNat dC) (cens S) item) hno (by simp only at h10; omega)
end
end Den
end

section
namespace Den
open Go Iv Lx
section
variable {h : Hp} {s : TSketch} {S : PSk} {x : TConstraint} {c : PCon} {cs : List Int} {ce : Sl} {item : Int} {R : List Int} {rs : Sl} {Kb : Bool → Hp → Prop} {Ki : Int → Hp → Prop} {Ks : Sl → Hp → Prop}
end
theorem zis {can:List Int→Int→Bool} {pref:List Int} (hc:∀R i,can R i=true→i∉R):∀{f:Nat} {R:List Int},(leftL pref R).length≤f→pref.find? (can R)=none→peelF can pref f R=R
 | 0,R,_,_=>rfl
 | f+1,R,_,h=>by unfold peelF; rw [h]
theorem zku {can:List Int→Int→Bool} {pref:List Int} (hc:∀R i,can R i=true→i∉R) {f:Nat} {R:List Int} {i:Int} (hf:(leftL pref R).length≤f) (h:pref.find? (can R)=some i) :
 ∃g,f=g+1∧peelF can pref f R=peelF can pref g (R++[i])∧(leftL pref (R++[i])).length≤g:=by
 have h1:=List.find?_some h
 have h2:=List.mem_of_find?_eq_some h
 have h3:=za0k h2 (hc _ _ h1)
 obtain ⟨g,rfl⟩:∃g,f=g+1:=⟨f-1,by omega⟩
 refine ⟨g,rfl,?_,by omega⟩
 conv=>lhs; unfold peelF
 rw [h]
theorem zuu {L:List PCon} {cs:List Int}:∀R i,canB L cs R i=true→i∉R:=fun R i h=>(of_decide_eq_true h).1
def peelS (S:PSk) (pref:List Int):List Int:=peelL (canB (allC S) (cens S)) pref
theorem za4v {can:Int→Bool} {l:List Int} {i:Nat} (hi:i<l.length) (hno:∀j (hj:j<l.length),j<i→can l[j]=false) (h:can l[i]=true):l.find? can=some l[i]:=by
 rw [List.find?_eq_some_iff_append]
 refine ⟨h,l.take i,l.drop (i+1),?_,fun a ha=>?_⟩
 · rw [List.getElem_cons_drop,List.take_append_drop]
 · obtain ⟨j,hj,rfl⟩:=List.mem_take_iff_getElem.1 ha
   rw [hno j (by omega) (by omega)]; rfl
section
variable {h : Hp} {s : TSketch} {S : PSk} {l : Sl} {pref : List Int} {K : (Sl × Sl) → Hp → Prop}
end
end Den
end

section
namespace Den
open Go Iv Lx
theorem Own.clr {h0 h:Hp} {x:Sl} {cs:List Value} {n:Nat} {K:Hp→Prop} (ho:Own h0 h 1 x cs) (hn:n≤cs.length) (H:∀h',Own h0 h' 1 (x.cut 0 n 1) (cs.take n)→K h'):clrP (x.cut n x.len 1) [.int .i64 0] K h:=by
 have hlen:=ho.2.1
 have hcap:=ho.2.2.1
 refine ⟨fun h1=>H h (ho.pre (by omega)),fun h1=>?_⟩
 have hl:(x.cut n x.len 1).len=x.len-n:=rfl
 have hlt:n<x.len:=by omega
 have ho':=ho
 obtain ⟨g1,g2,g3,g4⟩:=ho
 cases ha:x.a with
 | none=>rw [ha] at g4; simp only at g4; omega
 | some a=>
   rw [ha] at g4
   obtain ⟨k1,k2,k3,b,k4,k5,k6,k7⟩:=g4
   have hca:(x.cut n x.len 1).a=Option.some (a.add (n*1)):=by
    show (if x.cap=n then x.a else x.a.map (·.add (n*1)))=_
    rw [if_neg (by omega),ha]; rfl
   rw [hca]
   simp only [stO]
   rw [zb7]
   have hrl:(repl (x.cut n x.len 1).len [Value.int .i64 0]).length=x.len-n:=by rw [zo9,hl]; simp
   refine ⟨b,by rw [zbg]; exact k4,zej k2 _,k5,?_,?_,?_⟩
   · rw [zct,hrl]; omega
   · unfold repl
     rw [List.all_flatten,List.all_eq_true]
     intro l hl
     rw [(List.mem_replicate.1 hl).2]; rfl
   · rw [zbg,zct,k1,Nat.zero_add,Nat.mul_one]
     refine H _ ⟨?_,?_,?_,?_⟩
     · intro kk bk hkk
       rw [Hp.ins_ne (fun hh=>by subst hh; rw [k3] at hkk; cases hkk)]
       exact g1 kk bk hkk
     · show (n-0)*1=_
       rw [List.length_take]; omega
     · show n-0≤x.cap-0; omega
     · rw [cut_a,ha]
       refine ⟨k1,k2,k3,_,Hp.ins_same _ _ _,k5,?_,?_⟩
       · show (splice b.cells n _).length=(x.cap-0)*1
         rw [ze4 (by omega)]
         exact k6
       · have e:(cs.take n).length=n:=by rw [List.length_take]; omega
         rw [e]
         show (splice b.cells n _).take n=_
         unfold splice
         rw [List.append_assoc,List.take_append_of_le_length (by rw [List.length_take]; omega),List.take_take,Nat.min_self]
         have:=congrArg (List.take n) k7
         rw [List.take_take,Nat.min_eq_left (by omega)] at this
         exact this
def kept (xs R:List Int) (j:Nat):List Int:=(xs.take j).filter fun x=>decide (x∉R)
theorem zp5 {xs R:List Int} {j:Nat} (hj:j<xs.length):kept xs R (j+1)=kept xs R j++(if xs[j]∈R then [] else [xs[j]]):=by
 unfold kept
 rw [←List.take_append_getElem hj,List.filter_append]
 congr 1
 by_cases hm:xs[j]∈R<;>simp [List.filter,hm]
section
variable {h D : Hp} {S : PSk} {p p1 p2 : Addr} {rs l : Sl} {xs R : List Int} {Kb : Bool → Hp → Prop} {Ki : Int → Hp → Prop} {Ks : Sl → Hp → Prop} {K : (Sl × Sl) → Hp → Prop}
theorem za1u {G:Int→(Bool→Hp→Prop)→Hp→Prop} {r:Int} (ho:OI D h l xs) (hlen:xs.length≤1000)
 (hG:∀x h',D.le h'→∀K:Bool→Hp→Prop,(∀h'',h'.le h''→K (decide (x∈R)) h'')→callP (G x) K h') (hr:Fnd (fun x=>x∈R) xs r) (H:∀y h',OI D h' y (xs.filter fun x=>decide (x∉R))→Ks y h') :
 (ifP (r==(-1))
 (Ks l h)
 (loopP (S:=Int×Int×Unit) (fun s2 k3 h2=>
 (ifP (decide (s2.2.1<(l.len:Int)))
 (joinP (S:=Int×Unit) (fun s4 h3=>
 (k3 (s4.1,(IntKind.i64.wrap (s2.2.1+1)),()) h3))
 (fun k5=>
 (idxP l s2.2.1 1 fun a6=>
 (ldL (.int .i64) a6 (fun x7=>
 (callP (G x7) (fun r8 h4=>
 (ifP (!r8)
 (idxP l s2.1 1 fun a9=>
 (stP a9 [.int .i64 x7] (fun h5=>
 (k5 ((IntKind.i64.wrap (s2.1+1)),()) h5)) h4))
 (k5 (s2.1,()) h4))) h2)) h2))))
 (slP l s2.1 (l.len:Int) 1 fun c10=>
 (clrP c10 [.int .i64 0] (fun h6=>
 (slP l 0 s2.1 1 fun c11=>
 (Ks c11 h6))) h2))))
 (r,(IntKind.i64.wrap (r+1)),()) h)):=by
  have hll:=ho.il.len
  have hcap:=ho.2.2.1
  rcases hr with ⟨rfl,hno⟩ | ⟨k,hk,rfl,hk1,hk2⟩
  · refine zbu rfl (H _ _ ?_)
    have:xs.filter (fun x=>decide (x∉R))=xs:=by
     rw [List.filter_eq_self]
     exact fun a ha=>decide_eq_true (hno a ha)
    rw [this]; exact ho
  · refine zaq (by rw [beq_eq_false_iff_ne]; omega) ?_
    have hkk:kept xs R k=xs.take k:=by
     unfold kept
     rw [List.filter_eq_self]
     intro a ha
     obtain ⟨j,hj,rfl⟩:=List.mem_take_iff_getElem.1 ha
     exact decide_eq_true (hk2 j (by omega) (by omega))
    have hks:kept xs R (k+1)=xs.take k:=by
     rw [zp5 hk,if_pos hk1,List.append_nil,hkk]
    refine zak (fun st h'=>∃(j m:Nat) (ys:List Int),st=((m:Int),(j:Int),())∧k<j∧j≤xs.length∧OI D h' l ys∧ys.length=xs.length∧m=(kept xs R j).length∧m≤j∧ys.take m=kept xs R j∧ys.drop j=xs.drop j)
     (fun st=>(xs.length-st.2.1).toNat) ⟨k+1,k,xs,by rw [w64 (by omega)]; rfl,by omega,by omega,ho,rfl,by rw [hks]; simp; omega,by omega,by rw [hks],rfl⟩ ?_
    rintro _ h2 ⟨j,m,ys,rfl,hkj,hj,ho2,hyl,hm,hmj,htk,hdr⟩
    refine za0 (fun h3=>?_) (fun h3=>?_)
    · have hj':j<xs.length:=by simp only at h3; omega
      have hyj:ys[j]'(by omega)=xs[j]:=by
       have:=congrArg (fun l:List Int=>l[0]?) hdr
       simp only [List.getElem?_drop,Nat.add_zero] at this
       rw [List.getElem?_eq_getElem (by omega),List.getElem?_eq_getElem hj'] at this
       exact Option.some.inj this
      refine za3 (fun st h'=>∃(m':Nat) (ys':List Int),st.1=(m':Int)∧OI D h' l ys'∧ys'.length=xs.length∧m'=(kept xs R (j+1)).length∧m'≤j+1∧ys'.take m'=kept xs R (j+1)∧ys'.drop (j+1)=xs.drop (j+1)) ?_ ?_
      · rintro ⟨_,_⟩ h4 ⟨m',ys',rfl,g1,g2,g3,g4,g5,g6⟩
        exact ⟨⟨j+1,m',ys',by simp only; rw [w64 (by omega)]; rfl,by omega,by omega,g1,g2,g3,g4,g5,g6⟩,by simp only; rw [w64 (by omega)]; omega⟩
      · refine ho2.il.get j rfl (by omega) ?_
        have hdr1:ys.drop (j+1)=xs.drop (j+1):=by
         have:=congrArg (List.drop 1) hdr
         rw [List.drop_drop,List.drop_drop] at this
         exact this
        refine hG _ _ ho2.dle _ fun h4 hl4=>?_
        have ho4:=ho2.le hl4
        rw [hyj]
        refine za2 (fun h5=>?_) (fun h5=>?_)
        · have hx:xs[j]∉R:=by simpa using h5
          have hs:=zp5 (xs:=xs) (R:=R) hj'
          rw [if_neg hx] at hs
          refine zx2 m ho4 rfl (by omega) rfl (by decide) rfl fun h6 ho6=>⟨m+1,ys.set m xs[j],by simp only; rw [w64 (by omega)]; rfl,?_,by simpa using hyl,by rw [hs]; simp; omega,by omega,?_,?_⟩
          · rw [Nat.mul_one] at ho6
            have e:splice (ys.map ic) m [Value.int .i64 xs[j]]=(ys.set m xs[j]).map ic:=by
             rw [zji,List.map_set,List.set_eq_take_append_cons_drop,if_pos (by simp; omega)]
             rfl
            unfold OI
            rw [←e]; exact ho6
          · rw [hs,←htk,List.take_add_one,List.take_set_of_le (Nat.le_refl _),List.getElem?_set_self (by omega)]
            rfl
          · rw [List.drop_set_of_lt (by omega)]; exact hdr1
        · have hx:xs[j]∈R:=by simpa using h5
          have hs:=zp5 (xs:=xs) (R:=R) hj'
          rw [if_pos hx,List.append_nil] at hs
          exact ⟨m,ys,rfl,ho4,hyl,by rw [hs]; exact hm,by omega,by rw [hs]; exact htk,hdr1⟩
    · have:j=xs.length:=by simp only at h3; omega
      subst this
      have hl2:=ho2.il.len
      refine ⟨by omega,by simp only; omega,by omega,?_⟩
      have e1:((l.len:Nat):Int).toNat=l.len:=rfl
      have e2:((m:Nat):Int).toNat=m:=rfl
      simp only
      rw [e1,e2]
      refine Own.clr ho2 (n:=m) (by simp; omega) fun h6 ho6=>⟨by decide,by omega,by omega,?_⟩
      have e3:(0:Int).toNat=0:=rfl
      rw [e3,e2]
      refine H _ _ ?_
      unfold OI
      have:xs.filter (fun x=>decide (x∉R))=ys.take m:=by
       rw [htk]
       unfold kept
       rw [List.take_length]
      rw [this,List.map_take]
      exact ho6
theorem zry {x:Int} (hc:h.cell p2=some (Lf.sl.up rs)) (hr:IL h rs R) (hlen:R.length≤1000) (H:∀h',h.le h'→Kb (decide (x∈R)) h'):callP (F.y_henneberg_peeler_peel_2 x (some p2)) Kb h:=by
 refine za1 (fun b h'=>b=decide (x∈R)) (fun K' hk=>?_) fun b h' hl hb=>by subst hb; exact H h' hl
 unfold F.y_henneberg_peeler_peel_2
 exact ⟨_,hc,zek hr (by omega) fun h' hl=>hk _ _ hl rfl⟩
theorem zy5 (ho:OI D h l xs) (hxl:xs.length≤1000) (hc:D.cell p2=some (Lf.sl.up rs)) (hr:IL D rs R) (hlen:R.length≤1000) (H:∀y h',OI D h' y (xs.filter fun x=>decide (x∉R))→Ks y h'):callM (F.zb6 l (some p2,())) Ks h:=by
 refine zh2 ?_
 unfold F.zb6
 refine za1 (fun r h'=>Fnd (fun x=>x∈R) xs r) (fun K2 hk=>?_) fun r h1 hl1 hr1=>?_
 · unfold F.zbw
   refine zln ho.il (by omega) (fun x _ h5 hl5 K5 hK5=>?_) fun r h' hl hr=>hk _ _ hl hr
   have hD5:=Hp.le_trans ho.dle hl5
   exact zry (Hp.cell_le hD5 hc) (hr.le hD5) hlen fun h6 hl6=>hK5 _ _ hl6 (by rw [decide_eq_true_iff])
 · exact za1u (G:=fun x=>F.y_henneberg_peeler_peel_2 x (some p2,()).1) (ho.le hl1) hxl (fun x h' hl' K' hK'=>zry (Hp.cell_le hl' hc) (hr.le hl') hlen hK') hr1 H
end
end Den
end

section
namespace Den
open Go Iv Lx
theorem za5l {can:List Int→Int→Bool} {pref:List Int} (hcn:∀R i,can R i=true→i∉R):∀(f1 f2:Nat) (Q:List Int),(leftL pref Q).length≤f1→(leftL pref Q).length≤f2→peelF can pref f1 Q=peelF can pref f2 Q:=by
 intro f1
 induction f1 with
 | zero=>
   intro f2 Q h1 h2
   cases hq:pref.find? (can Q) with
   | none=>rw [zis hcn h1 hq,zis hcn h2 hq]
   | some z=>
     obtain ⟨g,hg,_⟩:=zku hcn h1 hq
     omega
 | succ f1 ih=>
   intro f2 Q h1 h2
   cases hq:pref.find? (can Q) with
   | none=>rw [zis hcn h1 hq,zis hcn h2 hq]
   | some z=>
     obtain ⟨g,hg,e1,e2⟩:=zku hcn h1 hq
     obtain ⟨g',hg',e1',e2'⟩:=zku hcn h2 hq
     rw [e1,e1']
     have:g=f1:=by omega
     subst this
     exact ih g' _ e2 e2'
def allS (S:PSk):List Int:=allI S.pts.length S.cir.length
theorem zur {S:PSk} (hs:sSk S):(allS S).length≤20:=by
 unfold allS
 rw [za79]
 have:=hs.1
 have:=hs.2.1
 omega
theorem za94 {S:PSk} (hs:sSk S) {x:Int} (hx:x∈allS S):smI x:=by
 have:=za7v.1 hx
 have:=hs.1
 have:=hs.2.1
 unfold smI; omega
section
variable {h D : Hp} {s : TSketch} {S : PSk} {p p1 p2 : Addr} {rs l : Sl} {xs R : List Int} {Kb : Bool → Hp → Prop} {Ki : Int → Hp → Prop} {Ks : Sl → Hp → Prop} {K : (Sl × Sl) → Hp → Prop}
theorem za0s (hp:PR h p S) (hs:sSk S) (hv:VS S) (ht:GT h) (c1:h.cell p1=some (.pointer (some p))) (c2:h.cell p2=some (Lf.sl.up rs)) (hr:IL h rs R) (hR:R.length≤100000) (hl:IL h l xs) (hxl:xs.length≤1000) (hsm:∀x∈xs,smI x)
 (H:∀r h',h.le h'→Fnd (fun x=>canB (allC S) (cens S) R x=true) xs r→Ki r h'):callP (F.zba l (some p1,some p2,())) Ki h:=by
 refine za1 (fun r h'=>Fnd (fun x=>canB (allC S) (cens S) R x=true) xs r) (fun K' hk=>?_) fun b h' hl hb=>H b h' hl hb
 unfold F.zba
 refine zln hl (by omega) (fun x hx h5 hl5 K5 hK5=>?_) fun r h' hl hr=>hk _ _ hl hr
 refine za1 (fun b h'=>b=true↔canB (allC S) (cens S) R x=true) (fun K6 hk6=>?_) fun b h8 hl8 hb=>hK5 _ _ hl8 hb
 unfold F.y_henneberg_peeler_peel_1
 refine ⟨_,Hp.cell_le hl5 c1,_,Hp.cell_le hl5 c2,?_⟩
 exact zsv (hp.le hl5) hs hv (ht.le hl5) (hr.le hl5) hR (hsm x hx) fun b h' hl hb=>hk6 _ _ hl (by rw [hb]; unfold canB; rw [decide_eq_true_iff])
theorem za7s {can:Int→Bool} {xs:List Int} {r:Int} (hf:Fnd (fun x=>can x=true) xs r):(r=-1∧xs.find? can=none)∨∃k,∃hk:k<xs.length,r=(k:Int)∧xs.find? can=some xs[k]:=by
 rcases hf with ⟨h1,h2⟩ | ⟨k,hk,h1,h2,h3⟩
 · exact .inl ⟨h1,by rw [List.find?_eq_none]; exact fun x hx=>by simpa using h2 x hx⟩
 · exact .inr ⟨k,hk,h1,za4v hk (fun j hj hjk=>by simpa using h3 j hj hjk) h2⟩
theorem za5k (hp:PR h p S) (hs:sSk S) (hv:VS S) (ht:GT h) (H:∀a b h',h.le h'→IL h' a (peelS S (allS S))→IL h' b (leftL (allS S) (peelS S (allS S)))→K (a,b) h'):callP (F.y_henneberg_peeler_peel (some p)) K h:=by
 refine za1 (fun r h'=>IL h' r.1 (peelS S (allS S))∧IL h' r.2 (leftL (allS S) (peelS S (allS S)))) (fun K' hk=>?_) fun r h' hl hr=>H r.1 r.2 h' hl hr.1 hr.2
 unfold F.y_henneberg_peeler_peel
 obtain ⟨can,hcan⟩:∃can,can=canB (allC S) (cens S):=⟨_,rfl⟩
 have hcn:∀R i,can R i=true→i∉R:=by rw [hcan]; exact zuu
 have hal:=zur hs
 refine zdl fun p1 h1 hl1 c1=>?_
 intro b e hbf
 have hp1:=hp.le hl1
 have ht1:=ht.le hl1
 refine zpp (fun f st h'=>∃(R:List Int) (y:Sl) (D:Hp),st=(some ⟨b,0,none⟩,())∧h1.le D∧D b=none∧MB h' b [Lf.sl.up y]∧OI D h' y R∧(∀a,y.a=some a→a.block≠b)∧R.length+(leftL (allS S) R).length≤(allS S).length∧(leftL (allS S) R).length≤f ∧
  peelF can (allS S) (leftL (allS S) R).length R=peelS S (allS S)) (n0:=(allS S).length)
  ⟨[],nilS,h1,rfl,Hp.le_refl _,hbf,⟨e,Hp.ins_same _ _ _⟩,Own.nil (Hp.le_ins hbf),fun a ha=>(by cases ha),?_⟩ ?_
 · have e:leftL (allS S) []=allS S:=by unfold leftL; rw [List.filter_eq_self]; simp
   rw [e]
   exact ⟨by simp,Nat.le_refl _,by rw [hcan]; rfl⟩
 rintro f _ h2 ⟨R,y,D,rfl,hD,hDb,hm,ho,hyb,hRl,hf,hpf⟩ K2 hK2
 have hD2:=ho.dle
 have hle2:h1.le h2:=Hp.le_trans hD hD2
 refine ⟨_,Hp.cell_le hle2 c1,?_⟩
 refine zp9 (hp1.le hle2) hs fun r6 h3 hl3 ho6=>?_
 have hle3:=Hp.le_trans hle2 hl3
 have hm3:=hm.le hl3
 have ho3:=ho.le hl3
 have c2:∀{h':Hp},MB h' b [Lf.sl.up y]→h'.cell ⟨b,0,none⟩=some (Lf.sl.up y):=fun hm=>by
  have:=hm.ld 0 rfl
  rwa [zb7] at this
 refine za0s (hp1.le hle3) hs hv (ht1.le hle3) (Hp.cell_le hle3 c1) (c2 hm3) ho3.il (by omega) (xs:=allS S) ho6.il (by omega) (fun x hx=>za94 hs hx) fun r7 h4 hl4 hr7=>?_
 have hle4:=Hp.le_trans hle3 hl4
 have hm4:=hm3.le hl4
 have ho4:=ho3.le hl4
 rw [←hcan] at hr7
 rcases za7s hr7 with ⟨hr,hnone⟩ | ⟨k,hk0,hr,hsome⟩
 · refine zbu (decide_eq_true (by omega)) ?_
   have hRp:R=peelS S (allS S):=by rw [←hpf,zis hcn (Nat.le_refl _) hnone]
   refine ⟨_,Hp.cell_le hle4 c1,?_⟩
   refine zp9 (hp1.le hle4) hs fun r9 h5 hl5 ho9=>?_
   have hm5:=hm4.le hl5
   have ho5:=ho4.le hl5
   refine zy5 (D:=h4) (xs:=allS S) (R:=R) (rs:=y) ho9 (by omega) (c2 hm4) ho4.il (by omega) fun z h6 ho6z=>?_
   have l46:h4.le h6:=ho6z.dle
   have hm6:=hm4.le l46
   refine ⟨_,c2 hm6,?_⟩
   refine hk _ _ (Hp.le_trans hl1 (Hp.le_trans hle4 l46)) ⟨?_,?_⟩
   · rw [←hRp]
     exact (ho4.le l46).il
   · have:leftL (allS S) (peelS S (allS S))=(allS S).filter fun x=>decide (x∉R):=by rw [←hRp]; rfl
     rw [this]
     exact ho6z.il
 · refine zaq (decide_eq_false (by omega)) ?_
   refine ⟨_,c2 hm4,_,Hp.cell_le hle4 c1,?_⟩
   refine zp9 (hp1.le hle4) hs fun r16 h5 hl5 ho16=>?_
   have hm5:=hm4.le hl5
   have ho5:=ho4.le hl5
   rw [hr]
   refine ho16.il.get (xs:=allS S) k rfl hk0 ?_
   have hyl:=ho5.il.len
   have hbb:h5 b≠none:=by obtain ⟨e,hm⟩:=hm5; rw [hm]; simp
   refine znq ho5 (n:=1) (new:=[ic (allS S)[k]]) rfl rfl rfl (by omega) (by omega) fun w h6 hw _ hs6 hb6=>?_
   have hm6:MB h6 b [Lf.sl.up y]:=by
    obtain ⟨e,hm⟩:=hm5
    exact ⟨e,by rw [hs6 b hbb fun a ha=>(hyb a ha).symm]; exact hm⟩
   have hwb:∀a,w.a=some a→a.block≠b:=fun a ha hh=>by
    rcases hb6 a ha with ⟨a',h8,h9⟩ | h8
    · exact hyb a' h8 (by rw [h9]; exact hh)
    · rw [hh] at h8; exact hbb h8
   obtain ⟨g,hg1,hg2,hg3⟩:=zku hcn (Nat.le_refl _) hsome
   have hlt:(leftL (allS S) (R++[(allS S)[k]])).length<(leftL (allS S) R).length:=by omega
   have key:=hm6.st (j:=0) (v:=Lf.sl.up w) (K:=fun h=>K2 (some ⟨b,0,none⟩,()) h) (by simp) rfl fun h8 hm8 hs8=>hK2 (leftL (allS S) (R++[(allS S)[k]])).length _ _ (by omega) ⟨R++[(allS S)[k]],w,D,rfl,hD,hDb,hm8,?_,hwb,by simp; omega,Nat.le_refl _,?_⟩
   · rw [zb7] at key
     exact key
   · obtain ⟨e8,hm8'⟩:=hm8
     rw [zvq hm8' hs8]
     have:OI D h6 w (R++[(allS S)[k]]):=by
      unfold OI
      rw [List.map_append]
      exact hw
     exact zqw this hDb hwb
   · rw [←hpf,hg2]
     exact za5l hcn _ _ _ (Nat.le_refl _) hg3
theorem zt5 (hx:SK h s S) (hs:sSk S) (ht:GT h) (H0:∀h',h.le h'→¬VS S→K (nilS,nilS) h') (H:∀a b h',h.le h'→VS S→IL h' a (peelS S (allS S))→IL h' b (leftL (allS S) (peelS S (allS S)))→K (a,b) h'):callP (F.zfr s) K h:=by
 refine za1 (fun r h'=>(¬VS S∧r=(nilS,nilS))∨(VS S∧IL h' r.1 (peelS S (allS S))∧IL h' r.2 (leftL (allS S) (peelS S (allS S))))) (fun K' hk=>?_) fun r h' hl hr=>by
  rcases hr with ⟨h1,rfl⟩ | ⟨h1,h2,h3⟩
  · exact H0 h' hl h1
  · exact H r.1 r.2 h' hl h1 h2 h3
 unfold F.zfr
 refine zn1 hx hs ht fun r h1 hl1 hr=>?_
 refine zbq (fun h2=>hk _ _ hl1 (.inl ⟨fun hv=>h2 (hr.2 hv),rfl⟩)) (fun h2=>?_)
 have hv:=hr.1 h2
 refine zwh (hx.le hl1) hv hs fun p h3 hl3 hp=>?_
 refine za5k hp hs hv (ht.le (Hp.le_trans hl1 hl3)) fun a b h4 hl4 ha hb=>hk _ _ (Hp.le_trans hl1 (Hp.le_trans hl3 hl4)) (.inr ⟨hv,ha,hb⟩)
end
end Den
end

section
namespace Den
open Go Iv Lx
theorem za4w {α:Type} {l m:List α} {d:α} {k:Nat} (h:k<l.length):(l++m).getD k d=l.getD k d:=by
 rw [List.getD_eq_getElem?_getD,List.getD_eq_getElem?_getD,List.getElem?_append_left h]
theorem za4x {α:Type} {l m:List α} {d:α} {k:Nat} (h:l.length≤k):(l++m).getD k d=m.getD (k-l.length) d:=by
 rw [List.getD_eq_getElem?_getD,List.getD_eq_getElem?_getD,List.getElem?_append_right h]
theorem zwd {can:List Int→Int→Bool} {pref:List Int}:∀{f:Nat} {R:List Int},(∀k,k<R.length→can (R.take k) (R.getD k 0)=true∧R.getD k 0∈pref)→∀k,k<(peelF can pref f R).length→can ((peelF can pref f R).take k) ((peelF can pref f R).getD k 0)=true∧(peelF can pref f R).getD k 0∈pref
 | 0,R,h=>h
 | f+1,R,h=>by
   unfold peelF
   cases hq:pref.find? (can R) with
   | none=>exact h
   | some i=>
     refine zwd fun k hk=>?_
     rw [List.length_append,List.length_singleton] at hk
     rcases Nat.lt_or_ge k R.length with h1 | h1
     · have:=h k h1
       rw [List.take_append_of_le_length (by omega),za4w h1]
       exact this
     · have:k=R.length:=by omega
       subst this
       rw [List.take_append_of_le_length (Nat.le_refl _),List.take_length,za4x (Nat.le_refl _)]
       simp only [Nat.sub_self,List.getD_cons_zero]
       exact ⟨List.find?_some hq,List.mem_of_find?_eq_some hq⟩
theorem zwe {S:PSk} {pref:List Int} {k:Nat} (hk:k<(peelS S pref).length):canP (allC S) (cens S) ((peelS S pref).take k) ((peelS S pref).getD k 0)∧(peelS S pref).getD k 0∈pref:=by
 have:=zwd (can:=canB (allC S) (cens S)) (pref:=pref) (f:=pref.length) (R:=[]) (fun k hk=>by simp at hk) k hk
 exact ⟨of_decide_eq_true this.1,this.2⟩
section
variable {h : Hp} {s : TSketch} {S : PSk} {p : Addr} {item : Int} {us : Sl} {u : List Int} {Kb : Bool → Hp → Prop} {Ki : Int → Hp → Prop} {K : TStep → Hp → Prop}
end
section
variable {h : Hp} {s : TSketch} {S : PSk} {p : Addr} {K : (TPlan × Int) → Hp → Prop} {Kb : Bool → Hp → Prop}
end
end Den
end

section
namespace Den
open Go Iv Lx
section
variable {α β γ δ : Type} {c : α → List Value} {n : Nat} {P : Hp → α → β → Prop} {c2 : γ → List Value} {n2 : Nat} {P2 : Hp → γ → δ → Prop} {D h h' : Hp} {l m : Sl} {ps : List β} {qs : List δ}
end
theorem zql {z:Int} (h:z.natAbs<4294967296):BR 1 ((z:Int):Rat):=⟨by rw [Rat.num_intCast]; unfold Lt; rw [Nat.pow_one]; exact h,by rw [Rat.den_intCast]; unfold Lt; decide⟩
def numE (x:TRat) (z:Int):PEx:=.mk 1 x (some ((z:Int):Rat)) emptyS []
def shortX (x:TRat):Prop:=x.num.mag.len≤4∧x.den.mag.len≤4
theorem za81 {h:Hp} {x:TRat} {z:Int} (hz:z.natAbs<4294967296) (hx:NR h x ((z:Int):Rat)):shortX x:=by
 have hb:=zql hz
 have h1:=zb8.2 hb.1
 have h2:=zb8.2 hb.2
 have e1:=hx.1.len
 have e2:=hx.2.len
 exact ⟨by omega,by omega⟩
theorem zabl {x:TRat} {z:Int} (hx:shortX x):sE (numE x z):=by
 refine ⟨?_,?_⟩
 · unfold numE smE smEL
   exact ⟨by simp,by decide,hx.1,hx.2,trivial⟩
 · unfold numE dep depL; decide
theorem dec1:decOk (some ((1:Int):Rat))=true:=by decide +kernel
theorem za7c:BS emptyS=[]:=rfl
theorem zabm {x:TRat} {z:Int} (hz:decOk (some ((z:Int):Rat))=true):vE (numE x z)=true:=by
 unfold vE numE
 simp [fmd,fmdL,dep,depL,shp,hz,za7c]
def DC (z:Int) (c:PCon) (e:Int×Int):Prop:=∃x:TRat,shortX x∧c=⟨2,[e.1,e.2],[],[numE x z],0⟩
def DCL (z:Int):List PCon→List (Int×Int)→Prop
 | [],[]=>True
 | c :: r,e :: q=>DC z c e∧DCL z r q
 | _,_=>False
theorem DCL.snoc {z:Int} {c:PCon} {e:Int×Int} (hc:DC z c e):∀{l:List PCon} {q:List (Int×Int)},DCL z l q→DCL z (l++[c]) (q++[e])
 | [],[],_=>⟨hc,trivial⟩
 | a :: r,b :: q,h=>⟨h.1,DCL.snoc hc h.2⟩
 | [],_ :: _,h=>h.elim
 | _ :: _,[],h=>h.elim
theorem DCL.len {z:Int}:∀{l:List PCon} {q:List (Int×Int)},DCL z l q→l.length=q.length
 | [],[],_=>rfl
 | a :: r,b :: q,h=>by rw [List.length_cons,List.length_cons,DCL.len h.2]
 | [],_ :: _,h=>h.elim
 | _ :: _,[],h=>h.elim
theorem DCL.all {z:Int} {Q:PCon→Prop}:∀{l:List PCon} {q:List (Int×Int)},DCL z l q→(∀c e,e∈q→DC z c e→Q c)→∀c∈l,Q c
 | [],[],_,_,c,hc=>by simp at hc
 | a :: r,b :: q,h,H,c,hc=>by
   rcases List.mem_cons.1 hc with rfl | hc
   · exact H _ b (by simp) h.1
   · exact DCL.all h.2 (fun c e he=>H c e (List.mem_cons_of_mem _ he)) c hc
 | [],_ :: _,h,_,_,_=>h.elim
 | _ :: _,[],h,_,_,_=>h.elim
theorem DC.sc {z:Int} {c:PCon} {e:Int×Int} (h:DC z c e):sC c:=by
 obtain ⟨x,hx,rfl⟩:=h
 refine ⟨by simp,by simp,by simp,fun v hv=>?_⟩
 simp only [List.mem_singleton] at hv
 subst hv
 exact zabl hx
theorem DC.vc {z:Int} (hz:decOk (some ((z:Int):Rat))=true) {c:PCon} {e:Int×Int} {n m:Int} (h:DC z c e) (h1:0≤e.1∧e.1<n) (h2:0≤e.2∧e.2<n) (h3:e.1≠e.2):VC c n m:=by
 obtain ⟨x,hx,rfl⟩:=h
 refine ⟨⟨by show (1:Int)≤2; decide,by show (2:Int)≤17; decide⟩,⟨rfl,fun y hy=>?_⟩,⟨rfl,fun y hy=>by simp at hy⟩,rfl,fun v hv=>?_,rfl,?_⟩
 · simp only [List.mem_cons,List.not_mem_nil,or_false] at hy
   rcases hy with rfl | rfl
   · exact h1
   · exact h2
 · simp only [List.mem_singleton] at hv
   subst hv
   exact zabm hz
 · rw [if_neg (by simp [fourK])]
   exact ⟨by simp [h3],by simp⟩
def DSK (z:Int) (S:PSk) (n:Nat) (prs:List (Int×Int)):Prop:=S.pts.length=n∧(∀p∈S.pts,VP p)∧S.cir=[]∧S.seg=[]∧S.arc=[]∧S.chn=[]∧DCL z S.con prs
theorem DSK.vs {z:Int} (hz:decOk (some ((z:Int):Rat))=true) {S:PSk} {n:Nat} {prs:List (Int×Int)} (h:DSK z S n prs) (hp:∀e∈prs,0≤e.1∧e.1<e.2∧e.2<n):VS S:=by
 obtain ⟨h1,h2,h3,h4,h5,h6,h7⟩:=h
 refine ⟨h2,by simp [h3],by simp [h4],by simp [h5],by simp [h6],?_⟩
 exact h7.all fun c e he hd=>by
  have:=hp e he
  exact hd.vc hz (by omega) (by omega) (by omega)
theorem DSK.ss {z:Int} {S:PSk} {n:Nat} {prs:List (Int×Int)} (h:DSK z S n prs) (hn:n≤10) (hp:prs.length≤20):sSk S:=by
 obtain ⟨h1,h2,h3,h4,h5,h6,h7⟩:=h
 exact ⟨by omega,by simp [h3],by simp [h4],by simp [h5],by simp [h6],by rw [h7.len]; exact hp,by simp [h6],h7.all fun c e _ hd=>hd.sc⟩
def prs:Nat→List (Int×Int)
 | 0=>[]
 | i+1=>prs i++(List.range i).map fun k:Nat=>((k:Int),(i:Int))
section
variable {h : Hp} {K : TSketch → Hp → Prop}
theorem za9c {h:Hp} {a b:Addr} {p q z:Int} {x:TRat} (ha:∀i v,([.int .i64 p,.int .i64 q]:List Value)[i]?=some v→h.cell (a.add i)=some v)
 (hb:∀i v,([.int .i64 1,.bool x.num.neg,.slice x.num.mag.a x.num.mag.len x.num.mag.cap,.bool x.den.neg,.slice x.den.mag.a x.den.mag.len x.den.mag.cap,.string emptyS,.slice nilS.a nilS.len nilS.cap]:List Value)[i]?=some v→h.cell (b.add i)=some v)
 (hz:z.natAbs<4294967296) (hx:NR h x ((z:Int):Rat)):CO h ⟨2,⟨some a,2,2⟩,nilS,⟨some b,1,1⟩,0⟩ ⟨2,[p,q],[],[numE x z],0⟩:=by
 refine ⟨rfl,⟨zeo (size:=1) (n:=2) ha rfl,Nat.le_refl _⟩,IL.nil,⟨[⟨1,x,emptyS,nilS⟩],zeo (size:=7) (n:=1) hb rfl,Nat.le_refl _,rfl,fun k k1 k2=>?_⟩,rfl⟩
 have:k=0:=by simp at k1; omega
 subst this
 exact EX.mk ⟨1,x,emptyS,nilS⟩ (some ((z:Int):Rat)) [] [] (hx.or (zql hz) (by decide)) Rd.nil (Nat.le_refl _) rfl (fun k h1 _=>by simp at h1)
end
section
variable {h : Hp} {s : TSketch} {S : PSk} {Kb : Bool → Hp → Prop}
end
end Den
end

section
namespace Den
open Go Iv Lx
theorem keepP.mono {l:List Int} {item:Int} {R Q:List Int} (hs:∀x∈R,x∈Q) (h:keepP l item Q):keepP l item R:=⟨h.1,fun x hx hr=>h.2 x hx (hs x hr)⟩
theorem zwp {its:List (List Int)} {item:Int} {R Q:List Int} (hs:∀x∈R,x∈Q):∀k,(remN its item Q k).Sublist (remN its item R k)
 | 0=>List.Sublist.refl _
 | k+1=>by
   unfold remN
   refine List.Sublist.append (zwp hs k) ?_
   by_cases h:keepP (its.getD k []) item Q
   · rw [if_pos h,if_pos (h.mono hs)]; exact List.Sublist.refl _
   · rw [if_neg h]; exact List.nil_sublist _
theorem zaad {L:List PCon} {l m:List Int} (h:l.Sublist m):wtL L l≤wtL L m:=by
 unfold wtL
 induction h with
 | slnil=>exact Nat.le_refl _
 | cons a _ ih=>simp only [List.map_cons,List.sum_cons]; omega
 | cons_cons a _ ih=>simp only [List.map_cons,List.sum_cons]; omega
theorem canP.mono {L:List PCon} {cs:List Int} {R Q:List Int} {item:Int} (h:canP L cs R item) (hs:∀x∈R,x∈Q) (hq:item∉Q):canP L cs Q item:=by
 have hsub:(remL (L.map fun c=>itemsC c cs) item Q).Sublist (remL (L.map fun c=>itemsC c cs) item R):=zwp hs _
 exact ⟨hq,Nat.le_trans (zaad hsub) h.2.1,fun i hi=>h.2.2 i (hsub.subset hi)⟩
theorem ztq {can:List Int→Int→Bool} {pref:List Int} (hcn:∀R i,can R i=true→i∉R):∀{f:Nat} {R:List Int},(leftL pref R).length≤f→pref.find? (can (peelF can pref f R))=none
 | 0,R,h=>by
   unfold peelF
   rw [List.find?_eq_none]
   intro x hx hc
   have h1:=hcn _ _ hc
   have:x∈leftL pref R:=List.mem_filter.2 ⟨hx,by simpa using h1⟩
   have:=List.length_pos_of_mem this
   omega
 | f+1,R,h=>by
   cases hq:pref.find? (can R) with
   | none=>rw [zis hcn h hq]; exact hq
   | some i=>
     obtain ⟨g,hg,e1,e2⟩:=zku hcn h hq
     have:g=f:=by omega
     subst this
     rw [e1]; exact ztq hcn e2
theorem ztr {S:PSk} {pref:List Int} {x:Int} (hx:x∈pref):¬canP (allC S) (cens S) (peelS S pref) x:=by
 have e:leftL pref []=pref:=by unfold leftL; rw [List.filter_eq_self]; simp
 have:=ztq (can:=canB (allC S) (cens S)) (pref:=pref) zuu (f:=pref.length) (R:=[]) (by rw [e]; exact Nat.le_refl _)
 rw [List.find?_eq_none] at this
 intro hc
 exact this x hx (decide_eq_true hc)
end Den
end

section
namespace Den
open Go Iv Lx
theorem OI.set {D h:Hp} {l:Sl} {xs:List Int} {i v:Int} {K:Hp→Prop} (k:Nat) (ho:OI D h l xs) (hi:i=k) (hk:k<xs.length) (H:∀h',OI D h' l (xs.set k v)→K h'):idxP l i 1 fun a=>stP a [.int .i64 v] K h:=by
 have e:∀ys:List Int,ys.map ic=ys.flatMap fun z=>[ic z]:=fun ys=>by induction ys<;>simp_all
 unfold OI at ho
 rw [e] at ho
 refine zzo (c:=fun z:Int=>[ic z]) (n:=1) (fun _=>rfl) (by decide) k ho hi hk rfl fun h' h1 _=>H h' ?_
 unfold OI
 rw [e]; exact h1
section
variable {h : Hp} {s : TSketch} {S : PSk} {K : Bool → Hp → Prop}
theorem za9t {h0:Hp} {l:Sl} {xs:List Int} {x:Int} {T:Bool×Int×Unit→Hp→Prop} (hl:IL h0 l xs) (hlen:xs.length≤1000000) (H:∀st,st.1=decide (x∈xs)→T st h0) :
 (loopP (S:=Bool×Int×Unit) (fun s15 k16 h8=>
 (ifP (decide (s15.2.1<(l.len:Int)))
 (joinP (S:=Bool×Unit) (fun s17 h9=>
 (k16 (s17.1,(IntKind.i64.wrap (s15.2.1+1)),()) h9))
 (fun k18=>
 (idxP l s15.2.1 1 fun a19=>
 (ldL (.int .i64) a19 (fun x20=>
 (ifP s15.1
 (k18 (true,()) h8)
 (k18 ((x==x20),()) h8))) h8))))
 (T s15 h8)))
 (false,0,()) h0):=by
  have hll:=hl.len
  refine zcv (n:=xs.length) (by omega) (fun i b h'=>h'=h0∧b=decide (x∈xs.take i)) ⟨rfl,by simp⟩ ?_
  rintro i b h1 hi ⟨rfl,hb⟩ k hk2
  refine za0 (fun h2=>?_) (fun h2=>?_)
  · have hi':i<xs.length:=by simp only at h2; omega
    refine za3 (fun s h'=>h'=h1∧s.1=decide (x∈xs.take (i+1))) (fun s h' hs=>hk2 _ _ hi' hs) ?_
    refine hl.get i rfl hi' ?_
    have e:(x∈xs.take (i+1))↔x∈xs.take i∨x=xs[i]:=by rw [←List.take_append_getElem hi',List.mem_append,List.mem_singleton]
    refine za2 (fun h3=>⟨rfl,?_⟩) (fun h3=>⟨rfl,?_⟩)
    · simp only at h3
      rw [hb] at h3
      exact (decide_eq_true (e.2 (.inl (of_decide_eq_true h3)))).symm
    · simp only at h3
      rw [hb] at h3
      have hn:=of_decide_eq_false h3
      show (x==xs[i])=_
      rw [Bool.eq_iff_iff,beq_iff_eq,decide_eq_true_iff,e]
      exact ⟨fun hh=>.inr hh,fun hh=>hh.resolve_left hn⟩
  · have:i=xs.length:=by simp only at h2; omega
    subst this
    rw [List.take_length] at hb
    exact H _ hb
end
end Den
end

section
namespace Den
open Go Iv Lx Go.Proofs
open Go.ChangeShapes Go.WideShapes Go.ChangeAt Go.RowKit
section
variable {H : Type} {enc : TypeId × Value → H} {w : World} {cs : List Value}
end
end Den
end

section
namespace Den
open Go Iv Lx
def keepT (l:List Int) (item:Int) (T:List Int):Prop:=item∈l∧∀x∈l,x∈T
instance (l:List Int) (item:Int) (T:List Int):Decidable (keepT l item T):=by unfold keepT; infer_instance
def remTN (its:List (List Int)) (item:Int) (T:List Int):Nat→List Int
 | 0=>[]
 | k+1=>remTN its item T k++(if keepT (its.getD k []) item T then [(k:Int)] else [])
theorem zrn {α:Type} {p:α→Bool} {i:α}:[i].filter p=if p i=true then [i] else []:=by
 cases h:p i<;>simp [List.filter,h]
section
variable {h : Hp} {s : TSketch} {S : PSk} {x : TConstraint} {c : PCon} {cs : List Int} {ce : Sl} {item : Int} {T : List Int} {ts : Sl} {Kb : Bool → Hp → Prop} {Ki : Int → Hp → Prop} {Ks : Sl → Hp → Prop} {K : (Sl × Sl) → Hp → Prop}
def SeqR (S:PSk) (R:List Int):Prop:=∀k,k<R.length→canP (allC S) (cens S) (R.take k) (R.getD k 0)∧R.getD k 0∈allS S
theorem zaa4 {S:PSk} {R Q:List Int} (h:SeqR S R) (hQ:∀x∈allS S,¬canP (allC S) (cens S) Q x):∀x∈R,x∈Q:=by
 suffices H:∀k,k≤R.length→∀x∈R.take k,x∈Q by
  intro x hx
  have:=H _ (Nat.le_refl _)
  rw [List.take_length] at this
  exact this x hx
 intro k
 induction k with
 | zero=>intro _ x hx; simp at hx
 | succ k ih=>
   intro hk x hx
   have hk':k<R.length:=by omega
   rw [←List.take_append_getElem hk',List.mem_append] at hx
   rcases hx with hx | hx
   · exact ih (by omega) x hx
   · rw [List.mem_singleton] at hx
     obtain ⟨h1,h2⟩:=h k hk'
     rw [zb9 hk',←hx] at h1 h2
     exact Classical.byContradiction fun hn=>hQ _ h2 (h1.mono (ih (by omega)) hn)
def coreS (S:PSk):List Int:=leftL (allS S) (peelS S (allS S))
theorem zox {S:PSk} (hs:sSk S):(coreS S).length≤20:=Nat.le_trans (List.length_filter_le _ _) (zur hs)
def inAll (l T:List Int):Prop:=∀x∈l,x∈T
instance (l T:List Int):Decidable (inAll l T):=by unfold inAll; infer_instance
def wiN (its:List (List Int)) (T:List Int):Nat→List Int
 | 0=>[]
 | k+1=>wiN its T k++(if inAll (its.getD k []) T then [(k:Int)] else [])
def wiS (S:PSk) (T:List Int):List Int:=wiN (its S) T (its S).length
theorem zzu (its:List (List Int)) (T:List Int):∀k,(wiN its T k).length≤k
 | 0=>by simp [wiN]
 | k+1=>by
   unfold wiN
   have:=zzu its T k
   rw [List.length_append]
   split<;>simp<;>omega
def CORE (h:Hp) (S:PSk) (r:Sl×Sl):Prop:=(VS S∧coreS S≠[]∧IL h r.1 (coreS S)∧IL h r.2 (wiS S (coreS S)))∨((¬VS S∨coreS S=[])∧r=(nilS,nilS))
end
end Den
end

section
namespace Den
open Go Iv Lx
section
variable {h D : Hp} {s : TSketch} {S : PSk} {x : TConstraint} {c : PCon} {cs : List Int} {ce l rs : Sl} {item : Int} {R xs : List Int} {p1 p2 : Addr} {Kb : Bool → Hp → Prop} {Ki : Int → Hp → Prop} {Ks : Sl → Hp → Prop} {K : (Sl × Sl) → Hp → Prop}
theorem zyv (hx:SK h s S) (hs:sSk S) (hv:VS S) (hl:IL h l xs) (hlen:xs.length≤1000) (H:∀y h',h.le h'→IL h' y (wiS S xs)→Ks y h'):callP (F.zk3 s l) Ks h:=by
 refine za1 (fun y h'=>IL h' y (wiS S xs)) (fun K' hk=>?_) fun b h' hl hb=>H b h' hl hb
 unfold F.zk3
 have hal:=zno hs
 have hok:=zlk hv hs
 have hcl:=znt (S:=S)
 have s2:=hs.2.1
 refine zdl fun p1 h1 hl1 c1=>?_
 refine zu3 (hx.le hl1) hs fun r2 h2 hl2 hC=>?_
 have hle2:=Hp.le_trans hl1 hl2
 refine za1n (hx.le hle2) hv hs fun r3 h3 hl3 hL=>?_
 have hle3:=Hp.le_trans hle2 hl3
 have hLl:=hL.len zai
 refine zcv (n:=(allC S).length) (by omega) (fun i y h'=>OI h3 h' y (wiN (its S) xs i)) OI.nil ?_
 intro i z h4 hi ho k hk2
 have hle:=Hp.le_trans hle3 ho.dle
 refine za0 (fun h5=>?_) (fun h5=>?_)
 · have hi':i<(allC S).length:=by simp only at h5; omega
   refine za3 (fun s h'=>OI h3 h' s.1 (wiN (its S) xs (i+1))) (fun s h' hs=>hk2 _ _ hi' hs) ?_
   refine (hL.le zai ho.dle).get zai i rfl hi' fun a x hxx hcx=>⟨_,hcx 0 _ rfl,_,hcx 1 _ rfl,_,hcx 2 _ rfl,_,hcx 3 _ rfl,_,hcx 4 _ rfl,?_⟩
   have hg:(its S).getD i []=itemsC (allC S)[i] (cens S):=by
    rw [zb9 (by rw [zlo]; exact hi')]
    simp [its]
   have hstep:wiN (its S) xs (i+1)=wiN (its S) xs i++(if inAll (itemsC (allC S)[i] (cens S)) xs then [(i:Int)] else []):=by
    conv=>lhs; unfold wiN
    rw [hg]
   have hrl:=zzu (its S) xs i
   have hokc:=hok _ (List.getElem_mem hi')
   have hlen2:=zrr (cs:=cens S) hokc.2
   refine zxw (x:=x) hxx (hC.il.le (Hp.le_trans hl3 ho.dle)) hokc.2 hokc.1.cirOk (by omega) fun r10 h6 hl6 ho6=>?_
   have hoz:=ho.le hl6
   have l16:h1.le h6:=Hp.le_trans hl2 (Hp.le_trans hl3 hoz.dle)
   refine za1 (fun b h'=>b=true↔∃x∈itemsC (allC S)[i] (cens S),x∉xs) (fun K2 hk3=>?_) fun b h7 hl7 hb=>?_
   · unfold F.zcf
     refine za1 (fun r h'=>Fnd (fun x=>x∉xs) (itemsC (allC S)[i] (cens S)) r) (fun K4 hk4=>?_) fun r h' hl hr=>hk3 _ _ hl (by rw [decide_eq_true_iff]; exact hr.iff)
     unfold F.zcl
     refine zln ho6.il (by omega) (fun x _ h7 hl7 K5 hK5=>?_) fun r h' hl hr=>hk4 _ _ hl hr
     refine za1 (fun b h'=>b=true↔x∉xs) (fun K6 hk6=>?_) fun b h8 hl8 hb=>hK5 _ _ hl8 hb
     unfold F.zl2
     have l17:=Hp.le_trans l16 hl7
     refine ⟨_,Hp.cell_le l17 c1,?_⟩
     exact zek (hl.le (Hp.le_trans hl1 l17)) (by omega) fun h8 hl8=>hk6 _ _ hl8 (by simp)
   · have ho7:=hoz.le hl7
     refine za2 (fun h8=>?_) (fun h8=>?_)
     · have hkp:inAll (itemsC (allC S)[i] (cens S)) xs:=fun x hx=>Classical.byContradiction fun hn=>by rw [hb.2 ⟨x,hx,hn⟩] at h8; cases h8
       refine ho7.app (by omega) fun z h11 ho11=>?_
       show OI _ _ _ _
       rw [hstep,if_pos hkp]; exact ho11
     · have hkp:¬inAll (itemsC (allC S)[i] (cens S)) xs:=fun hh=>by
        obtain ⟨x,hx,hn⟩:=hb.1 (by simpa using h8)
        exact hn (hh x hx)
       show OI _ _ _ _
       rw [hstep,if_neg hkp,List.append_nil]; exact ho7
 · have:i=(allC S).length:=by simp only at h5; omega
   subst this
   refine hk _ _ hle ?_
   unfold wiS
   rw [zlo]; exact ho.il
theorem zoo (hx:SK h s S) (hs:sSk S) (ht:GT h) (H:∀r h',h.le h'→CORE h' S r→K r h'):callP (F.zin s) K h:=by
 refine za1 (fun r h'=>CORE h' S r) (fun K' hk=>?_) fun y h' hl hb=>H y h' hl hb
 unfold F.zin
 refine zn1 hx hs ht fun r h1 hl1 hr=>?_
 refine zbq (fun h2=>hk _ _ hl1 (.inr ⟨.inl fun hv=>h2 (hr.2 hv),rfl⟩)) (fun h2=>?_)
 have hv:=hr.1 h2
 refine zt5 (hx.le hl1) hs (ht.le hl1) (fun _ _ hn=>absurd hv hn) fun a b h3 hl3 _ ha hb=>?_
 have hle3:=Hp.le_trans hl1 hl3
 have hb:IL h3 b (coreS S):=hb
 have hbl:=hb.len
 have hcl:=zox hs
 refine zab (fun h4=>hk _ _ hle3 (.inr ⟨.inr (List.eq_nil_of_length_eq_zero (by simp only at h4; omega)),rfl⟩)) (fun h4=>?_)
 refine zyv (hx.le hle3) hs hv hb (by omega) fun y h5 hl5 hy=>hk _ _ (Hp.le_trans hle3 hl5) (.inl ⟨hv,fun hh=>h4 ?_,hb.le hl5,hy⟩)
 rw [hh] at hbl
 simp only
 rw [hbl]; rfl
theorem zon (hx:SK h s S) (hs:sSk S) (ht:GT h) (H:∀b h',h.le h'→(b=true↔VS S∧coreS S=[])→Kb b h'):callP (F.zf9 s) Kb h:=by
 refine za1 (fun b h'=>b=true↔VS S∧coreS S=[]) (fun K' hk=>?_) fun y h' hl hb=>H y h' hl hb
 unfold F.zf9
 refine zn1 hx hs ht fun r h1 hl1 hr=>?_
 refine zbq (fun h2=>hk _ _ hl1 ⟨fun hh=>(by cases hh),fun hh=>absurd (hr.2 hh.1) h2⟩) (fun h2=>?_)
 have hv:=hr.1 h2
 refine zt5 (hx.le hl1) hs (ht.le hl1) (fun _ _ hn=>absurd hv hn) fun a b h3 hl3 _ ha hb=>hk _ _ (Hp.le_trans hl1 hl3) ?_
 have hb:IL h3 b (coreS S):=hb
 have hbl:=hb.len
 rw [beq_iff_eq]
 simp only
 constructor
 · intro h4
   exact ⟨hv,List.eq_nil_of_length_eq_zero (by omega)⟩
 · rintro ⟨_,h4⟩
   rw [h4] at hbl
   rw [hbl]; rfl
end
end Den
end

section
namespace Den
open Go Iv Lx
theorem za83 {D h:Hp} {n:Nat} {l:Sl} {cs:List Value} (ho:Own D h n l cs) {a:Addr} (ha:l.a=some a):D a.block=none:=by
 obtain ⟨_,_,_,g4⟩:=ho
 rw [ha] at g4
 exact g4.2.2.1
section
variable {h D : Hp} {s : TSketch} {S : PSk} {l rs : Sl} {item a b : Int} {R xs : List Int} {p1 p2 : Addr} {Kb : Bool → Hp → Prop} {Ki : Int → Hp → Prop} {Ks : Sl → Hp → Prop}
end
end Den
end

section
namespace Den
open Go Iv Lx
def a2c (e:A2_Int):List Value:=[.int .i64 e.c0,.int .i64 e.c1]
def A2P (h:Hp) (x:A2_Int) (b:Int×Int):Prop:=x.c0=b.1∧x.c1=b.2
theorem zf0:Rec a2c 2 A2P:=⟨fun _=>rfl,by decide,fun _=>rfl,fun hx _=>hx⟩
def befE (a b:Int×Int):Prop:=a.1<b.1∨a.1=b.1∧a.2<b.2
def GV (n:Int) (es:List (Int×Int)):Prop:=(0≤n∧n≤60)∧(∀e∈es,0≤e.1∧e.1<e.2∧e.2<n)∧∀j (hj:j+1<es.length),befE es[j] es[j+1]
def degL (es:List (Int×Int)) (T:List Int) (i:Int):Nat:=es.countP fun e=>decide (e.1∈T)&&decide (e.2∈T)&&(e.1==i||e.2==i)
theorem zta {es:List (Int×Int)} {C T:List Int} {i:Int} (h:∀x∈C,x∈T):degL es C i≤degL es T i:=by
 unfold degL
 refine List.countP_mono_left fun e _ he=>?_
 simp only [Bool.and_eq_true,decide_eq_true_iff] at he ⊢
 exact ⟨⟨h _ he.1.1,h _ he.1.2⟩,he.2⟩
def rngI (n:Nat):List Int:=(List.range n).map fun i:Nat=>(i:Int)
theorem zlz {n:Nat} {x:Int}:x∈rngI n↔0≤x∧x<n:=by
 unfold rngI
 rw [List.mem_map]
 constructor
 · rintro ⟨a,ha,rfl⟩
   rw [List.mem_range] at ha; omega
 · rintro ⟨h1,h2⟩
   exact ⟨x.toNat,List.mem_range.2 (by omega),by omega⟩
structure IsCore (n:Nat) (es:List (Int×Int)) (T:List Int):Prop where
 sub:T=(rngI n).filter fun x=>decide (x∈T)
 deg:∀i∈T,3≤degL es T i
 great:∀C:List Int,(∀i∈C,0≤i∧i<n)→(∀i∈C,3≤degL es C i)→∀i∈C,i∈T
theorem IsCore.mem {n:Nat} {es:List (Int×Int)} {T:List Int} (h:IsCore n es T) {i:Int} (hi:i∈T):0≤i∧i<n:=by
 have h1:=h.sub
 rw [h1] at hi
 exact zlz.1 (List.mem_filter.1 hi).1
theorem IsCore.unique {n:Nat} {es:List (Int×Int)} {T Q:List Int} (h:IsCore n es T) (k:IsCore n es Q):T=Q:=by
 have h1:=h.great Q (fun i hi=>k.mem hi) k.deg
 have h2:=k.great T (fun i hi=>h.mem hi) h.deg
 rw [h.sub,k.sub]
 exact List.filter_congr fun x _=>by
  have:x∈T↔x∈Q:=⟨h2 x,h1 x⟩
  simp only [this]
theorem ztf {es:List (Int×Int)} {C T:List Int} {x:Int} (hC:∀i∈C,3≤degL es C i) (hT:∀i∈C,i∈T) (hx:degL es T x≤2):x∉C:=fun hm=>by
 have h1:=hC x hm
 have h2:=zta (es:=es) (i:=x) hT
 omega
section
variable {h D : Hp} {g : TGraph} {es : List (Int × Int)} {Kb : Bool → Hp → Prop} {Ki : Int → Hp → Prop} {Ks : Sl → Hp → Prop}
theorem zu7 {a b:A2_Int} (H:∀r h',h.le h'→(r<0↔befE (a.c0,a.c1) (b.c0,b.c1))→Ki r h'):callP (F.zia a b) Ki h:=by
 refine za1 (fun r h'=>r<0↔befE (a.c0,a.c1) (b.c0,b.c1)) (fun K' hk=>?_) fun b h' hl hb=>H b h' hl hb
 unfold F.zia
 refine zk2 (zk2 ?_)
 obtain ⟨r1,hr1⟩:∃r1:Int,r1=if a.c0<b.c0 then -1 else if b.c0<a.c0 then 1 else 0:=⟨_,rfl⟩
 obtain ⟨r2,hr2⟩:∃r2:Int,r2=if a.c1<b.c1 then -1 else if b.c1<a.c1 then 1 else 0:=⟨_,rfl⟩
 rw [←hr1,←hr2]
 refine zh9 fun p3 h3 hl3 c3=>?_
 have hi:IL h3 ⟨some p3,2,2⟩ [r1,r2]:=⟨zeo (size:=1) (n:=2) c3 rfl,Nat.le_refl _⟩
 have q1:(r1<0↔a.c0<b.c0)∧(r1=0↔a.c0=b.c0):=by rw [hr1]; split<;>(try split)<;>constructor<;>constructor<;>intro _<;>omega
 have q2:r2<0↔a.c1<b.c1:=by rw [hr2]; split<;>(try split)<;>constructor<;>intro _<;>omega
 have key:∀r:Int,(r1≠0→r=r1)→(r1=0→r2≠0→r=r2)→(r1=0→r2=0→r=0)→(r<0↔befE (a.c0,a.c1) (b.c0,b.c1)):=by
  intro r k1 k2 k3
  unfold befE
  simp only
  rw [←q1.1,←q1.2,←q2]
  by_cases e1:r1=0
  · by_cases e2:r2=0
    · have:=k3 e1 e2; omega
    · have:=k2 e1 e2; omega
  · have:=k1 e1; omega
 refine za1 (fun r h'=>(r1≠0→r=r1)∧(r1=0→r2≠0→r=r2)∧(r1=0→r2=0→r=0)) (fun K2 hk2=>?_) fun r h' hl hr=>hk _ _ (Hp.le_trans hl3 hl) (key r hr.1 hr.2.1 hr.2.2)
 unfold F.znv
 refine zbr (n:=2) (by omega) (fun i h'=>h'=h3∧(0<i→r1=0)∧(1<i→r2=0)) ⟨rfl,by omega,by omega⟩ ?_
 rintro i h4 hi2 ⟨rfl,z1,z2⟩ k hk4
 refine za0 (fun h5=>?_) (fun h5=>?_)
 · have hi':i<2:=by have:(i:Int)<((2:Nat):Int):=h5; omega
   rcases (by omega:i=0∨i=1) with rfl | rfl
   · refine hi.get 0 rfl (by simp) ?_
     simp only [List.getElem_cons_zero]
     refine zbq (fun h6=>hk2 _ _ (Hp.le_refl _) ⟨fun _=>rfl,fun hh=>absurd hh h6,fun hh=>absurd hh h6⟩) (fun h6=>hk4 _ hi' ⟨rfl,fun _=>h6,by omega⟩)
   · have z:=z1 (by omega)
     refine hi.get 1 rfl (by simp) ?_
     simp only [List.getElem_cons_succ,List.getElem_cons_zero]
     refine zbq (fun h6=>hk2 _ _ (Hp.le_refl _) ⟨fun hh=>absurd z hh,fun _ _=>rfl,fun _ hh=>absurd hh h6⟩) (fun h6=>hk4 _ hi' ⟨rfl,fun _=>z,fun _=>h6⟩)
 · have:i=2:=by have:¬(i:Int)<((2:Nat):Int):=h5; omega
   subst this
   exact hk2 _ _ (Hp.le_refl _) ⟨fun hh=>absurd (z1 (by omega)) hh,fun _ hh=>absurd (z2 (by omega)) hh,fun _ _=>rfl⟩
theorem zza {n i:Int} (H:∀b,(b=true↔0≤i∧i<n)→Kb b h):callP (F.zkq n i) Kb h:=by
 refine zkm (fun b=>b=true↔0≤i∧i<n) (fun K' hk=>?_) H
 unfold F.zkq
 exact za0 (fun h1=>hk _ (by rw [decide_eq_true_iff]; omega)) (fun h1=>hk _ ⟨fun hh=>(by cases hh),fun hh=>by omega⟩)
theorem zya (hg:LR a2c 2 A2P h g.edges es) (hlen:es.length≤140737488355328) (H:∀b h',h.le h'→(b=true↔GV g.n es)→Kb b h'):callP (F.zk5 g) Kb h:=by
 refine za1 (fun b h'=>b=true↔GV g.n es) (fun K' hk=>?_) fun b h' hl hb=>H b h' hl hb
 unfold F.zk5
 have no:∀h',h.le h'→¬GV g.n es→K' false h':=fun h' hl hn=>hk _ _ hl ⟨fun hh=>(by cases hh),fun hh=>absurd hh hn⟩
 have hl:=hg.len zf0
 refine za3 (fun _ h'=>h'=h∧0≤g.n∧g.n≤60) ?_ ?_
 · rintro _ h0 ⟨rfl,n0,n1⟩
   refine zbr (n:=es.length) hlen (fun i h'=>h0.le h'∧(∀j (hj:j<es.length),j<i→0≤es[j].1∧es[j].1<es[j].2∧es[j].2<g.n)∧∀j (hj:j+1<es.length),j+1<i→befE es[j] es[j+1]) ⟨Hp.le_refl _,fun j _ hj=>by omega,fun j _ hj=>by omega⟩ ?_
   rintro i h2 hi ⟨hl2,hno,hbe⟩ k hk2
   refine za0 (fun h3=>?_) (fun h3=>?_)
   · have hi':i<es.length:=by simp only at h3; omega
     have nx:¬(0≤es[i].1∧es[i].1<es[i].2∧es[i].2<g.n)→¬GV g.n es:=fun hn hh=>hn (hh.2.1 _ (List.getElem_mem hi'))
     refine za3 (fun _ h'=>h0.le h'∧(0≤es[i].1∧es[i].1<es[i].2∧es[i].2<g.n)∧(∀hj:0<i,befE (es[i-1]'(by omega)) es[i])) (fun _ h' hh=>hk2 _ hi' ⟨hh.1,upto (P:=fun e:Int×Int=>0≤e.1∧e.1<e.2∧e.2<g.n) hno hi' hh.2.1,fun j hj hji=>?_⟩) ?_
     · rcases Nat.lt_or_ge (j+1) i with h5 | h5
       · exact hbe j hj h5
       · have:i=j+1:=by omega
         subst this
         exact hh.2.2 (by omega)
     refine (hg.le zf0 hl2).get zf0 i rfl hi' fun a x hxx hcx=>⟨_,hcx 0 _ rfl,_,hcx 1 _ rfl,?_⟩
     obtain ⟨x1,x2⟩:=hxx
     rw [x1,x2]
     refine zza fun b hb=>za2 (fun h4=>no _ hl2 (nx fun hh=>by rw [hb.2 ⟨hh.1,by omega⟩] at h4; cases h4)) (fun h4=>?_)
     have b1:=hb.1 (by simpa using h4)
     refine zza fun b2 hb2=>za2 (fun h5=>no _ hl2 (nx fun hh=>by rw [hb2.2 ⟨by omega,hh.2.2⟩] at h5; cases h5)) (fun h5=>?_)
     have b2':=hb2.1 (by simpa using h5)
     refine za0 (fun h6=>no _ hl2 (nx fun hh=>by have h6:es[i].1≥es[i].2:=h6; omega)) (fun h6=>?_)
     have h6:¬es[i].1≥es[i].2:=h6
     have ok:0≤es[i].1∧es[i].1<es[i].2∧es[i].2<g.n:=by omega
     refine za0 (fun h7=>?_) (fun h7=>⟨hl2,ok,fun hj=>by simp only at h7; omega⟩)
     have hi0:0<i:=by simp only at h7; omega
     simp only
     rw [show IntKind.i64.wrap ((i:Int)-1)=((i-1:Nat):Int) from by rw [w64 (by omega)]; omega]
     refine (hg.le zf0 hl2).get zf0 (i-1) rfl (by omega) fun a2 y hyy hcy=>⟨_,hcy 0 _ rfl,_,hcy 1 _ rfl,?_⟩
     obtain ⟨y1,y2⟩:=hyy
     refine zu7 (a:=⟨y.c0,y.c1⟩) (b:=⟨es[i].1,es[i].2⟩) fun r h8 hl8 hr=>?_
     have hle8:=Hp.le_trans hl2 hl8
     simp only at hr
     rw [y1,y2] at hr
     refine za0 (fun h9=>no _ hle8 fun hh=>?_) (fun h9=>⟨hle8,ok,fun _=>hr.1 (by omega)⟩)
     have:=hh.2.2 (i-1) (by omega)
     have e:i-1+1=i:=by omega
     simp only [e] at this
     have:=hr.2 this
     omega
   · refine hk _ _ hl2 ⟨fun _=>⟨⟨n0,n1⟩,upall (P:=fun e:Int×Int=>0≤e.1∧e.1<e.2∧e.2<g.n) hno (by simp only at h3; omega),fun j hj=>hbe j hj (by simp only at h3; omega)⟩,fun _=>rfl⟩
 · refine za0 (fun h1=>no _ (Hp.le_refl _) fun hh=>by have:=hh.1.1; omega) (fun h1=>za0 (fun h2=>no _ (Hp.le_refl _) fun hh=>by have:=hh.1.2; omega) (fun h2=>⟨rfl,by omega,by omega⟩))
theorem zoy {es:List (Int×Int)} {e:Int×Int} {T:List Int} {i:Int}:degL (es++[e]) T i=degL es T i+(if e.1∈T∧e.2∈T∧(e.1=i∨e.2=i) then 1 else 0):=by
 unfold degL
 rw [List.countP_append]
 congr 1
 rw [List.countP_singleton]
 by_cases h:e.1∈T∧e.2∈T∧(e.1=i∨e.2=i)
 · rw [if_pos h,if_pos (by simp [h.1,h.2.1]; exact h.2.2)]
 · rw [if_neg h,if_neg]
   intro hh
   simp only [Bool.and_eq_true,decide_eq_true_iff,Bool.or_eq_true,beq_iff_eq] at hh
   exact h ⟨hh.1.1,hh.1.2,hh.2⟩
theorem za9d {es:List (Int×Int)} {T:List Int} {i:Int}:degL es T i≤es.length:=List.countP_le_length
end
end Den
end

section
namespace Den
open Go Iv Lx Go.Proofs
open Go.ChangeShapes Go.WideShapes Go.ChangeAt Go.RowKit
section
variable {H : Type} {enc : TypeId × Value → H} {w : World} {cs : List Value}
end
end Den
end

section
namespace Den
open Go
noncomputable def bd (fn:Func):Code:=match fn.body with | some c=>c | none=>.skip
section
variable {α ρ : Type} {A : ArgT α} {R : Ty ρ} {F : α → (ρ → Hp → Prop) → Hp → Prop} {g : Nat} {fn : Func}
theorem eo (C:Cfg) (an:An) (hf:C.P.funcs[g]?=some fn) (hC:Tab C C.tab) (hBk:BackTab C.P C.backs:=by exact trivial)
 (hb:fn.body=some (bd fn):=by exact rfl) (hn:fn.ntmps=C.n:=by exact rfl) (hname:(fn.name == "runtime.NumGoroutine")=false:=by decide) (ha:∀a,Nat.ble (A.up a).length C.n=true:=by exact fun _=>rfl)
 (hF:∀a K D,denF C fn (bd fn) an (A.up a) (fun v h=>R.dn v fun r=>K r h) D=F a K D:=by intro a K D; kernel_rfl):Entry C.P g (mkE A R F) false:=za7q hC hBk hf hb hn hname ha hF
theorem eoM (C:Cfg) (an:An) (hf:C.P.funcs[g]?=some fn) (hC:Tab C C.tab) (hBk:BackTab C.P C.backs:=by exact trivial)
 (hb:fn.body=some (bd fn):=by exact rfl) (hn:fn.ntmps=C.n:=by exact rfl) (hname:(fn.name == "runtime.NumGoroutine")=false:=by decide) (ha:∀a,Nat.ble (A.up a).length C.n=true:=by exact fun _=>rfl)
 (hF:∀a K D,denF C fn (bd fn) an (A.up a) (fun v h=>R.dn v fun r=>K r h) D=F a K D:=by intro a K D; kernel_rfl):Entry C.P g (mkM A R F) true:=za4r hC hBk hf hb hn hname ha hF
end
end Den
end

section
namespace Den
open Go Go.RowKit Go.Shelf
open Go.Proofs
attribute [local go_sem] Oper.semAt_some
set_option maxRecDepth 100000 in
set_option maxHeartbeats 2000000 in
theorem za1k:BackFn Tryz.prog 257 (.leaf (.int .u32)):=by
 refine ⟨enters_of Tryz.func257 (by kernel_rfl) rfl,?_⟩
 rintro l ab ⟨xa,xl,xc⟩ J w hxl h0 hbox hround
 simp only at hxl h0 hbox hround
 have hb0:=hbox _ _ h0
 refine callsIn_of_wp Tryz.func257 rfl trivial ?_ rfl
 simp only [Tryz.ntmps257,List.size_toArray,List.length_cons,List.length_nil,Nat.reduceAdd,Nat.reduceSub,Array.replicate_succ,Array.replicate_zero,List.push_toArray,List.append_toArray,List.nil_append,List.cons_append]
 gi_wp2
 gi_loopw [3] (fun i wr=>∃k:Nat,k≤xl∧i=.int .i64 ((k:Int)-1)∧J k wr) (fun i _=>(intOf i+1).toNat)
 case atStart=>exact ⟨xl,Nat.le_refl _,rfl,h0⟩
 case round=>
  obtain ⟨k,hk,rfl,hJ⟩:=hrel
  have hbx:=hbox _ _ hJ
  cases k with
  | zero=>
    gi_wp2
    go_end0
    exact ⟨⟨_,rfl⟩,hJ⟩
  | succ j=>
    obtain ⟨ad,v,hxa,hcells,f,tmps1,asg,body,hy,hR⟩:=hround j wr (by omega) hJ
    subst hxa
    have hc0:wr.cell? (ad.add j)=some (.int .u32 v):=by
     have:=hcells 0 (.int .u32 v) rfl
     simpa [STy.size] using this
    have hkj:(((j+1:Nat):Int)-1)=(j:Int):=by omega
    rw [hkj]
    simp only [STy.val,Lf.up] at hy
    gi_wp2
    refine ⟨rfl,hR.mono ?_⟩
    rintro e W3 ⟨rfl,hJ3⟩
    gi_wp2
    go_roundw
    case rel=>exact ⟨j,by omega,by simp,hJ3⟩
    case measure=>simp [intOf]
end Den
end

section
set_option maxRecDepth 100000
namespace Den
open Go Go.Proofs.Tryz
noncomputable section
noncomputable def e_x0:FSem:=mkE (ArgT.cons (Ty.leaf .sl) ArgT.nil) (Ty.leaf .bool) fun a=>F.zik a.1
theorem t_x0:Entry prog 169 e_x0 false:=eo { P:=prog,n:=6,tab:=[] } (.seq .leaf (.seq .leaf .leaf)) func169 trivial
noncomputable def e_x1:FSem:=mkE (ArgT.cons (Ty.leaf .sl) (ArgT.fn 169 ArgT.nil)) (Ty.leaf (.int .i64)) fun a=>F.zbn a.1
theorem t_x1:Entry prog 210 e_x1 false:=eo { P:=prog,n:=19,tab:=[(169,e_x0)] } (.seq .leaf (.seq (.seq .leaf (.block (.loop [(8,.leaf (.int .i64))] (.seq .leaf (.seq (.cond .leaf .leaf) (.seq (.block (.seq .leaf (.seq .leaf (.cond (.seq .leaf .leaf) .leaf)))) .leaf)))))) (.seq .leaf .leaf))) func210 ⟨t_x0,trivial⟩
noncomputable def e_x2:FSem:=mkE (ArgT.cons (Ty.leaf .sl) (ArgT.fn 169 ArgT.nil)) (Ty.leaf .bool) fun a=>F.zbf a.1
theorem t_x2:Entry prog 168 e_x2 false:=eo { P:=prog,n:=9,tab:=[(210,e_x1)] } (.seq .leaf (.seq .leaf .leaf)) func168 ⟨t_x1,trivial⟩
noncomputable def e_x3:FSem:=mkE (ArgT.cons tyTSketch ArgT.nil) (Ty.leaf .bool) fun a=>F.zhy a.1
theorem t_x3:Entry prog 113 e_x3 false:=eo { P:=prog,n:=35,tab:=[(168,e_x2)],rtL:=[(5,1),(8,1),(11,1),(14,1),(17,1),(20,1),(32,1)],locL:=[1] } (.seq .leaf (.seq (.seq .leaf (.block (.loop [(25,.leaf (.int .i64))] (.seq .leaf (.seq (.cond .leaf .leaf) (.seq (.block (.seq .leaf (.seq .leaf (.cond (.seq .leaf .leaf) .leaf)))) .leaf)))))) (.seq .leaf .leaf))) func113 ⟨t_x2,trivial⟩
noncomputable def e_x4:FSem:=mkE (ArgT.cons tyTInt ArgT.nil) (Ty.leaf .bool) fun a=>F.zgh a.1
theorem t_x4:Entry prog 172 e_x4 false:=eo { P:=prog,n:=27,tab:=[],rtL:=[(4,1),(10,1),(18,1)],locL:=[1] } (.seq .leaf (.seq .leaf (.seq .leaf .leaf))) func172 trivial
noncomputable def e_x5:FSem:=mkE (ArgT.cons (Ty.leaf .sl) ArgT.nil) (Ty.leaf .sl) fun a=>F.zad a.1
theorem t_x5:Entry prog 212 e_x5 false:=eo { P:=prog,n:=21,tab:=[] } (.seq .leaf (.seq (.block (.loop [(0,.leaf (.sl))] (.join [] (.seq .leaf (.cond .leaf .leaf)) (.block .leaf)))) (.seq .leaf .leaf))) func212 trivial
noncomputable def e_x6:FSem:=mkE (ArgT.cons tyTInt ArgT.nil) (Ty.leaf (.int .i64)) fun a=>F.zeb a.1
theorem t_x6:Entry prog 173 e_x6 false:=eo { P:=prog,n:=12,tab:=[(212,e_x5)],rtL:=[(4,1),(10,1)],locL:=[1] } (.seq .leaf (.seq (.block (.seq .leaf (.cond (.seq .leaf .leaf) (.seq .leaf (.cond (.seq .leaf .leaf) .leaf))))) (.seq .leaf .leaf))) func173 ⟨t_x5,trivial⟩
noncomputable def e_x7:FSem:=mkE (ArgT.cons (Ty.leaf .sl) ArgT.nil) (Ty.leaf .sl) fun a=>F.zb1 a.1
theorem t_x7:Entry prog 215 e_x7 false:=eo { P:=prog,n:=8,tab:=[] } (.seq .leaf (.seq (.seq .leaf (.cond (.seq .leaf .leaf) .leaf)) (.seq .leaf .leaf))) func215 trivial
noncomputable def e_x8:FSem:=mkE (ArgT.cons (Ty.leaf .bool) (ArgT.cons (Ty.leaf .sl) ArgT.nil)) tyTInt fun a=>F.zc4 a.1 a.2.1
theorem t_x8:Entry prog 214 e_x8 false:=eo { P:=prog,n:=14,tab:=[(212,e_x5)],locL:=[4] } (.seq .leaf (.seq .leaf (.seq (.seq .leaf (.cond (.seq .leaf .leaf) .leaf)) (.seq .leaf .leaf)))) func214 ⟨t_x5,trivial⟩
noncomputable def e_x9:FSem:=mkE (ArgT.cons (Ty.leaf .sl) ArgT.nil) (Ty.clo 257) fun a=>F.zbt a.1
theorem t_x9:Entry prog 246 e_x9 false:=eo { P:=prog,n:=4,tab:=[] } (.seq .leaf (.seq .leaf .leaf)) func246 trivial
noncomputable def e_x10:FSem:=mkE (ArgT.cons (Ty.leaf .sl) ArgT.nil) (Ty.leaf (.int .u64)) fun a=>F.zd3 a.1
theorem t_x10:Entry prog 216 e_x10 false:=eo { P:=prog,n:=16,tab:=[(246,e_x9)],locL:=[3],backs:=[(257,(.leaf (.int .u32)))] } (.seq .leaf (.seq .leaf (.seq (.seq .leaf (.block (.back [(3,.box [.int .u64])] .leaf (.block .leaf)))) (.seq .leaf .leaf)))) func216 ⟨t_x9,trivial⟩ ⟨za1k,trivial⟩
noncomputable def e_x11:FSem:=mkE (ArgT.cons (Ty.leaf (.int .u64)) ArgT.nil) (Ty.leaf .sl) fun a=>F.zc8 a.1
theorem t_x11:Entry prog 217 e_x11 false:=eo { P:=prog,n:=10,tab:=[(212,e_x5)] } (.seq .leaf (.seq .leaf .leaf)) func217 ⟨t_x5,trivial⟩
noncomputable def e_x12:FSem:=mkE (ArgT.cons (Ty.leaf (.int .i64)) ArgT.nil) (Ty.leaf .bool) fun a=>F.zge a.1
theorem t_x12:Entry prog 209 e_x12 false:=eo { P:=prog,n:=6,tab:=[] } (.seq .leaf (.seq .leaf .leaf)) func209 trivial
noncomputable def e_x13:FSem:=mkE (ArgT.cons (Ty.leaf (.int .i64)) (ArgT.cons (Ty.leaf (.int .i64)) ArgT.nil)) (Ty.leaf (.int .i64)) fun a=>F.zd8 a.1 a.2.1
theorem t_x13:Entry prog 163 e_x13 false:=eo { P:=prog,n:=20,tab:=[(209,e_x12)] } (.seq .leaf (.seq .leaf (.seq .leaf (.seq (.seq .leaf (.cond (.seq (.seq .leaf (.cond (.seq .leaf .leaf) .leaf)) (.seq .leaf .leaf)) .leaf)) (.seq (.seq .leaf (.cond (.seq .leaf .leaf) .leaf)) (.seq (.seq .leaf (.cond (.seq .leaf .leaf) .leaf)) (.seq (.seq .leaf (.cond (.seq .leaf .leaf) .leaf)) (.seq .leaf .leaf)))))))) func163 ⟨t_x12,trivial⟩
noncomputable def e_x14:FSem:=mkE (ArgT.cons (Ty.leaf (.int .u32)) ArgT.nil) (Ty.leaf .bool) fun a=>F.zf1 a.1
theorem t_x14:Entry prog 272 e_x14 false:=eo { P:=prog,n:=6,tab:=[] } (.seq .leaf (.seq .leaf .leaf)) func272 trivial
noncomputable def e_x15:FSem:=mkE (ArgT.cons (Ty.leaf (.int .u32)) (ArgT.cons (Ty.leaf (.int .u32)) ArgT.nil)) (Ty.leaf (.int .i64)) fun a=>F.zf7 a.1 a.2.1
theorem t_x15:Entry prog 255 e_x15 false:=eo { P:=prog,n:=20,tab:=[(272,e_x14)] } (.seq .leaf (.seq .leaf (.seq .leaf (.seq (.seq .leaf (.cond (.seq (.seq .leaf (.cond (.seq .leaf .leaf) .leaf)) (.seq .leaf .leaf)) .leaf)) (.seq (.seq .leaf (.cond (.seq .leaf .leaf) .leaf)) (.seq (.seq .leaf (.cond (.seq .leaf .leaf) .leaf)) (.seq (.seq .leaf (.cond (.seq .leaf .leaf) .leaf)) (.seq .leaf .leaf)))))))) func255 ⟨t_x14,trivial⟩
noncomputable def e_x16:FSem:=mkE (ArgT.cons (Ty.leaf .sl) (ArgT.cons (Ty.leaf .sl) ArgT.nil)) (Ty.leaf (.int .i64)) fun a=>F.zei a.1 a.2.1
theorem t_x16:Entry prog 239 e_x16 false:=eo { P:=prog,n:=41,tab:=[(163,e_x13),(255,e_x15)] } (.seq .leaf (.seq (.seq .leaf (.cond (.seq .leaf .leaf) .leaf)) (.seq (.seq .leaf (.block (.loop [(5,.leaf (.int .i64))] (.seq (.seq .leaf (.cond .leaf .leaf)) (.seq (.block (.seq (.draw [0,1,2,3,4,5,6,7,8]) (.cond (.seq (.draw [0,1,2,3,4,5,6,7,8,9]) .leaf) .leaf))) .leaf))))) (.seq .leaf .leaf)))) func239 ⟨t_x13,t_x15,trivial⟩
noncomputable def e_x17:FSem:=mkE (ArgT.cons (Ty.leaf .sl) (ArgT.cons (Ty.leaf (.int .u32)) ArgT.nil)) (Ty.tup (.cons (Ty.leaf .sl) (.cons (Ty.leaf .sl) .nil)) (fun x=>(x.1,x.2,())) (fun y=>(y.1,y.2.1)) (fun _=>rfl) (fun _=>rfl)) fun a=>F.zfb a.1 a.2.1
theorem t_x17:Entry prog 240 e_x17 false:=eo { P:=prog,n:=43,tab:=[(212,e_x5),(217,e_x11)] } (.seq .leaf (.seq .leaf (.seq .leaf (.seq (.seq .leaf (.block (.loop [(7,.leaf (.int .u64)),(8,.leaf (.int .i64))] (.seq (.seq .leaf (.cond .leaf .leaf)) (.seq (.block (.seq .leaf (.seq .leaf .leaf))) .leaf))))) (.seq .leaf .leaf))))) func240 ⟨t_x5,t_x11,trivial⟩
noncomputable def e_x18:FSem:=mkE (ArgT.cons (Ty.leaf (.int .u32)) ArgT.nil) (Ty.leaf (.int .i64)) fun a=>F.zgv a.1
theorem t_x18:Entry prog 256 e_x18 false:=eo { P:=prog,n:=19,tab:=[] } (.seq .leaf (.join [(0,.leaf (.int .u32)),(2,.leaf (.int .i64))] (.seq .leaf (.cond (.seq .leaf .leaf) .leaf)) (.join [(0,.leaf (.int .u32)),(2,.leaf (.int .i64))] (.seq .leaf (.cond (.seq .leaf .leaf) .leaf)) (.seq .leaf .leaf)))) func256 trivial
noncomputable def e_x19:FSem:=mkE (ArgT.cons (Ty.leaf (.int .u32)) ArgT.nil) (Ty.leaf (.int .i64)) fun a=>F.zdc a.1
theorem t_x19:Entry prog 241 e_x19 false:=eo { P:=prog,n:=6,tab:=[(256,e_x18)] } (.seq .leaf (.seq .leaf .leaf)) func241 ⟨t_x18,trivial⟩
noncomputable def e_x20:FSem:=mkE (ArgT.cons (Ty.leaf .sl) (ArgT.cons (Ty.leaf (.int .i64)) ArgT.nil)) (Ty.leaf .sl) fun a=>F.zdk a.1 a.2.1
theorem t_x20:Entry prog 242 e_x20 false:=eo { P:=prog,n:=41,tab:=[] } (.seq .leaf (.seq .leaf (.seq (.seq .leaf (.block (.loop [(15,.leaf (.int .i64))] (.seq .leaf (.seq (.cond .leaf .leaf) (.seq (.block (.seq .leaf (.seq .leaf (.seq .leaf .leaf)))) .leaf)))))) (.seq .leaf .leaf)))) func242 trivial
noncomputable def e_x21:FSem:=mkM (ArgT.cons (Ty.leaf .sl) (ArgT.cons (Ty.leaf .sl) (ArgT.cons (Ty.leaf (.int .u64)) ArgT.nil))) (Ty.leaf .bool) fun a=>F.zg9 a.1 a.2.1 a.2.2.1
theorem t_x21:Entry prog 243 e_x21 true:=eoM { P:=prog,n:=63,tab:=[] } (.seq .leaf (.seq .leaf (.seq (.seq .leaf (.block (.loop [(7,.leaf (.int .u64)),(15,.leaf (.int .i64))] (.seq .leaf (.seq (.cond .leaf .leaf) (.seq (.block (.seq .leaf (.seq .leaf (.seq .leaf (.seq .leaf .leaf))))) .leaf)))))) (.seq .leaf (.seq .leaf (.seq .leaf .leaf)))))) func243 trivial
noncomputable def e_x22:FSem:=mkM (ArgT.cons (Ty.leaf .sl) (ArgT.cons (Ty.leaf .sl) ArgT.nil)) Ty.unit fun a=>F.zgu a.1 a.2.1
theorem t_x22:Entry prog 244 e_x22 true:=eoM { P:=prog,n:=41,tab:=[] } (.seq .leaf (.seq (.seq .leaf (.block (.loop [(4,.leaf (.int .u64)),(9,.leaf (.int .i64))] (.seq .leaf (.seq (.cond .leaf .leaf) (.seq (.block (.seq .leaf (.seq .leaf (.seq .leaf .leaf)))) .leaf)))))) .leaf)) func244 trivial
noncomputable def e_x23:FSem:=mkE (ArgT.cons (Ty.leaf .sl) (ArgT.cons (Ty.leaf (.int .i64)) ArgT.nil)) (Ty.leaf .sl) fun a=>F.zfc a.1 a.2.1
theorem t_x23:Entry prog 245 e_x23 false:=eo { P:=prog,n:=47,tab:=[] } (.seq .leaf (.seq .leaf (.seq (.seq .leaf (.block (.loop [(13,.leaf (.int .i64))] (.seq .leaf (.seq (.cond .leaf .leaf) (.join [] (.block (.seq .leaf (.seq .leaf (.seq .leaf (.cond (.draw [0,1,2,3,4,5,6,7,8,9,10,11,12,13,14,15,16]) .leaf))))) .leaf)))))) (.seq .leaf .leaf)))) func245 trivial
noncomputable def e_x24:FSem:=mkE (ArgT.cons (Ty.leaf .sl) (ArgT.cons (Ty.leaf .sl) ArgT.nil)) (Ty.tup (.cons (Ty.leaf .sl) (.cons (Ty.leaf .sl) .nil)) (fun x=>(x.1,x.2,())) (fun y=>(y.1,y.2.1)) (fun _=>rfl) (fun _=>rfl)) fun a=>F.zdu a.1 a.2.1
theorem t_x24:Entry prog 213 e_x24 false:=eo { P:=prog,n:=177,tab:=[(239,e_x16),(215,e_x7),(216,e_x10),(217,e_x11),(240,e_x17),(241,e_x19),(242,e_x20),(212,e_x5),(243,e_x21),(244,e_x22),(245,e_x23)],mutL:=[243,244] } (.seq .leaf (.seq (.block (.seq .leaf (.cond (.seq .leaf .leaf) (.seq .leaf (.cond (.seq .leaf (.seq (.draw [0,1,2,4,5,6,3,7,8,9]) .leaf)) (.seq .leaf (.cond (.seq .leaf .leaf) .leaf))))))) (.seq .leaf (.seq .leaf (.seq .leaf (.seq .leaf (.seq (.draw [0,1,2,3,4,5,6,7,8,9,10,11,12,13]) (.seq (.seq .leaf (.block (.loop [(15,.leaf (.int .i64))] (.seq (.seq .leaf (.cond .leaf .leaf)) (.seq (.block (.seq (.draw [0,1,2,3,4,5,6,7,8,9,10,11,12,13,14,15,16,17]) (.seq (.draw [0,1,2,3,4,5,6,7]) (.join [(17,.leaf (.int .u64))] (.block (.loop [(17,.leaf (.int .u64)),(18,.leaf (.int .u64))] (.join [] (.seq .leaf (.cond .leaf .leaf)) (.block (.seq .leaf (.seq .leaf (.seq .leaf (.cond .leaf .leaf)))))))) (.join [(17,.leaf (.int .u64))] (.seq .leaf (.cond (.seq .leaf .leaf) .leaf)) .leaf))))) .leaf))))) (.seq (.draw [0,2,3,4,6,1,5,7,8,9,10]) .leaf))))))))) func213 ⟨t_x16,t_x7,t_x10,t_x11,t_x17,t_x19,t_x20,t_x5,t_x21,t_x22,t_x23,trivial⟩
noncomputable def e_x25:FSem:=mkE (ArgT.cons tyTInt (ArgT.cons tyTInt ArgT.nil)) tyTInt fun a=>F.zgn a.1 a.2.1
theorem t_x25:Entry prog 175 e_x25 false:=eo { P:=prog,n:=57,tab:=[(212,e_x5),(215,e_x7),(214,e_x8),(216,e_x10),(217,e_x11),(213,e_x24)],rtL:=[(11,2),(14,3)],locL:=[2,3,4] } (.seq .leaf (.seq (.draw [0,1,3,4,2,5,6,7]) (.join [(5,.leaf (.sl)),(6,.leaf (.sl))] (.block (.loop [(5,.leaf (.sl)),(6,.leaf (.sl))] (.join [] (.seq .leaf (.cond .leaf .leaf)) (.block (.seq .leaf .leaf))))) (.seq (.seq .leaf (.cond (.seq .leaf .leaf) .leaf)) (.seq .leaf (.seq (.block (.loop [(9,.leaf (.int .u64)),(10,.leaf (.int .u64))] (.seq (.seq .leaf (.cond .leaf .leaf)) (.block (.draw [0,1,2,3,4,5]))))) (.seq .leaf .leaf))))))) func175 ⟨t_x5,t_x7,t_x8,t_x10,t_x11,t_x24,trivial⟩
noncomputable def e_x26:FSem:=mkE (ArgT.cons tyTInt ArgT.nil) (Ty.leaf .bool) fun a=>F.zdv a.1
theorem t_x26:Entry prog 174 e_x26 false:=eo { P:=prog,n:=19,tab:=[],rtL:=[(3,1),(7,1),(13,1)],locL:=[1] } (.seq .leaf (.seq .leaf .leaf)) func174 trivial
noncomputable def e_x27:FSem:=mkE (ArgT.cons tyTRat ArgT.nil) (Ty.leaf .bool) fun a=>F.zd5 a.1
theorem t_x27:Entry prog 116 e_x27 false:=eo { P:=prog,n:=25,tab:=[(172,e_x4),(173,e_x6),(175,e_x25),(174,e_x26)],rtL:=[(3,1),(7,1),(12,1),(18,1),(20,1)],locL:=[1] } (.seq .leaf (.seq .leaf .leaf)) func116 ⟨t_x4,t_x6,t_x25,t_x26,trivial⟩
noncomputable def e_x28:FSem:=mkE (ArgT.cons tyTPoint ArgT.nil) (Ty.leaf .bool) fun a=>F.zjt a.1
theorem t_x28:Entry prog 115 e_x28 false:=eo { P:=prog,n:=11,tab:=[(116,e_x27)],rtL:=[(3,1),(7,1)],locL:=[1] } (.seq .leaf (.seq .leaf .leaf)) func115 ⟨t_x27,trivial⟩
noncomputable def e_x29:FSem:=mkE (ArgT.cons tyTPoint (ArgT.cons (Ty.leaf .ptr) ArgT.nil)) (Ty.leaf .bool) fun a=>F.zco a.1 a.2.1
theorem t_x29:Entry prog 171 e_x29 false:=eo { P:=prog,n:=8,tab:=[(115,e_x28)],locL:=[2],fnL:=[(4,115,0)] } (.seq .leaf (.seq .leaf .leaf)) func171 ⟨t_x28,trivial⟩
noncomputable def e_x30:FSem:=mkE (ArgT.cons (Ty.leaf .sl) (ArgT.fnc 171 1 ArgT.nil)) (Ty.leaf (.int .i64)) fun a=>F.zat a.1 a.2.1
theorem t_x30:Entry prog 211 e_x30 false:=eo { P:=prog,n:=19,tab:=[(171,e_x29)] } (.seq .leaf (.seq (.seq .leaf (.block (.loop [(8,.leaf (.int .i64))] (.seq .leaf (.seq (.cond .leaf .leaf) (.seq (.block (.seq .leaf (.seq .leaf (.cond (.seq .leaf .leaf) .leaf)))) .leaf)))))) (.seq .leaf .leaf))) func211 ⟨t_x29,trivial⟩
noncomputable def e_x31:FSem:=mkE (ArgT.cons (Ty.leaf .sl) (ArgT.fnc 171 1 ArgT.nil)) (Ty.leaf .bool) fun a=>F.zao a.1 a.2.1
theorem t_x31:Entry prog 170 e_x31 false:=eo { P:=prog,n:=9,tab:=[(211,e_x30)] } (.seq .leaf (.seq .leaf .leaf)) func170 ⟨t_x30,trivial⟩
noncomputable def e_x32:FSem:=mkE (ArgT.cons (Ty.leaf .sl) (ArgT.fn 115 ArgT.nil)) (Ty.leaf .bool) fun a=>F.zcb a.1
theorem t_x32:Entry prog 114 e_x32 false:=eo { P:=prog,n:=9,tab:=[(170,e_x31)] } (.seq .leaf (.seq .leaf .leaf)) func114 ⟨t_x31,trivial⟩
noncomputable def e_x33:FSem:=mkE (ArgT.cons (Ty.leaf (.int .i64)) (ArgT.cons (Ty.leaf (.int .i64)) ArgT.nil)) (Ty.leaf .bool) fun a=>F.ze3 a.1 a.2.1
theorem t_x33:Entry prog 119 e_x33 false:=eo { P:=prog,n:=12,tab:=[] } (.seq .leaf (.seq .leaf .leaf)) func119 trivial
noncomputable def e_x34:FSem:=mkE (ArgT.cons tyTRat ArgT.nil) (Ty.leaf (.int .i64)) fun a=>F.zf6 a.1
theorem t_x34:Entry prog 120 e_x34 false:=eo { P:=prog,n:=6,tab:=[(173,e_x6)],rtL:=[(3,1)],locL:=[1] } (.seq .leaf (.seq .leaf .leaf)) func120 ⟨t_x6,trivial⟩
noncomputable def e_x35:FSem:=mkE (ArgT.cons tyTRound (ArgT.cons (Ty.leaf .ptr) ArgT.nil)) (Ty.leaf .bool) fun a=>F.zju a.1 a.2.1
theorem t_x35:Entry prog 118 e_x35 false:=eo { P:=prog,n:=19,tab:=[(119,e_x33),(116,e_x27),(120,e_x34)],rtL:=[(5,2),(9,2),(14,2)],locL:=[2] } (.seq .leaf (.seq .leaf .leaf)) func118 ⟨t_x33,t_x27,t_x34,trivial⟩
noncomputable def e_x36:FSem:=mkE (ArgT.cons tyTRound (ArgT.cons (Ty.leaf .ptr) ArgT.nil)) (Ty.leaf .bool) fun a=>F.zcp a.1 a.2.1
theorem t_x36:Entry prog 177 e_x36 false:=eo { P:=prog,n:=8,tab:=[(118,e_x35)],locL:=[2],fnL:=[(4,118,1)] } (.seq .leaf (.seq .leaf .leaf)) func177 ⟨t_x35,trivial⟩
noncomputable def e_x37:FSem:=mkE (ArgT.cons (Ty.leaf .sl) (ArgT.fnc 177 1 ArgT.nil)) (Ty.leaf (.int .i64)) fun a=>F.zau a.1 a.2.1
theorem t_x37:Entry prog 218 e_x37 false:=eo { P:=prog,n:=19,tab:=[(177,e_x36)] } (.seq .leaf (.seq (.seq .leaf (.block (.loop [(8,.leaf (.int .i64))] (.seq .leaf (.seq (.cond .leaf .leaf) (.seq (.block (.seq .leaf (.seq .leaf (.cond (.seq .leaf .leaf) .leaf)))) .leaf)))))) (.seq .leaf .leaf))) func218 ⟨t_x36,trivial⟩
noncomputable def e_x38:FSem:=mkE (ArgT.cons (Ty.leaf .sl) (ArgT.fnc 177 1 ArgT.nil)) (Ty.leaf .bool) fun a=>F.zap a.1 a.2.1
theorem t_x38:Entry prog 176 e_x38 false:=eo { P:=prog,n:=9,tab:=[(218,e_x37)] } (.seq .leaf (.seq .leaf .leaf)) func176 ⟨t_x37,trivial⟩
noncomputable def e_x39:FSem:=mkE (ArgT.cons (Ty.leaf .sl) (ArgT.fnc 118 1 ArgT.nil)) (Ty.leaf .bool) fun a=>F.zcc a.1 a.2.1
theorem t_x39:Entry prog 117 e_x39 false:=eo { P:=prog,n:=9,tab:=[(176,e_x38)] } (.seq .leaf (.seq .leaf .leaf)) func117 ⟨t_x38,trivial⟩
end
end Den
end

section
set_option maxRecDepth 100000
namespace Den
open Go Go.Proofs.Tryz
noncomputable section
noncomputable def e_x40:FSem:=mkE (ArgT.cons tyTSegment (ArgT.cons (Ty.leaf .ptr) ArgT.nil)) (Ty.leaf .bool) fun a=>F.zjv a.1 a.2.1
theorem t_x40:Entry prog 122 e_x40 false:=eo { P:=prog,n:=21,tab:=[(119,e_x33)],rtL:=[(5,2),(10,2),(15,2),(17,2)],locL:=[2] } (.seq .leaf (.seq .leaf .leaf)) func122 ⟨t_x33,trivial⟩
noncomputable def e_x41:FSem:=mkE (ArgT.cons tyTSegment (ArgT.cons (Ty.leaf .ptr) ArgT.nil)) (Ty.leaf .bool) fun a=>F.zcj a.1 a.2.1
theorem t_x41:Entry prog 179 e_x41 false:=eo { P:=prog,n:=8,tab:=[(122,e_x40)],locL:=[2],fnL:=[(4,122,1)] } (.seq .leaf (.seq .leaf .leaf)) func179 ⟨t_x40,trivial⟩
noncomputable def e_x42:FSem:=mkE (ArgT.cons (Ty.leaf .sl) (ArgT.fnc 179 1 ArgT.nil)) (Ty.leaf (.int .i64)) fun a=>F.zal a.1 a.2.1
theorem t_x42:Entry prog 219 e_x42 false:=eo { P:=prog,n:=19,tab:=[(179,e_x41)] } (.seq .leaf (.seq (.seq .leaf (.block (.loop [(8,.leaf (.int .i64))] (.seq .leaf (.seq (.cond .leaf .leaf) (.seq (.block (.seq .leaf (.seq .leaf (.cond (.seq .leaf .leaf) .leaf)))) .leaf)))))) (.seq .leaf .leaf))) func219 ⟨t_x41,trivial⟩
noncomputable def e_x43:FSem:=mkE (ArgT.cons (Ty.leaf .sl) (ArgT.fnc 179 1 ArgT.nil)) (Ty.leaf .bool) fun a=>F.zaj a.1 a.2.1
theorem t_x43:Entry prog 178 e_x43 false:=eo { P:=prog,n:=9,tab:=[(219,e_x42)] } (.seq .leaf (.seq .leaf .leaf)) func178 ⟨t_x42,trivial⟩
noncomputable def e_x44:FSem:=mkE (ArgT.cons (Ty.leaf .sl) (ArgT.fnc 122 1 ArgT.nil)) (Ty.leaf .bool) fun a=>F.zc2 a.1 a.2.1
theorem t_x44:Entry prog 121 e_x44 false:=eo { P:=prog,n:=9,tab:=[(178,e_x43)] } (.seq .leaf (.seq .leaf .leaf)) func121 ⟨t_x43,trivial⟩
noncomputable def e_x45:FSem:=mkE (ArgT.cons tyTSketch (ArgT.cons tyTArc ArgT.nil)) (Ty.leaf .bool) fun a=>F.zgz a.1 a.2.1
theorem t_x45:Entry prog 125 e_x45 false:=eo { P:=prog,n:=48,tab:=[(119,e_x33)],rtL:=[(6,2),(9,3),(14,2),(17,3),(23,2),(26,3),(31,2),(33,3),(38,3),(43,3)],locL:=[2,3] } (.seq .leaf (.join [] (.seq .leaf (.cond (.seq .leaf .leaf) .leaf)) (.seq .leaf (.seq .leaf .leaf)))) func125 ⟨t_x33,trivial⟩
noncomputable def e_x46:FSem:=mkE (ArgT.cons tyTArc (ArgT.cons (Ty.leaf .ptr) ArgT.nil)) (Ty.leaf .bool) fun a=>F.zjw a.1 a.2.1
theorem t_x46:Entry prog 124 e_x46 false:=eo { P:=prog,n:=7,tab:=[(125,e_x45)],locL:=[2] } (.seq .leaf (.seq .leaf .leaf)) func124 ⟨t_x45,trivial⟩
noncomputable def e_x47:FSem:=mkE (ArgT.cons tyTArc (ArgT.cons (Ty.leaf .ptr) ArgT.nil)) (Ty.leaf .bool) fun a=>F.zcu a.1 a.2.1
theorem t_x47:Entry prog 181 e_x47 false:=eo { P:=prog,n:=8,tab:=[(124,e_x46)],locL:=[2],fnL:=[(4,124,1)] } (.seq .leaf (.seq .leaf .leaf)) func181 ⟨t_x46,trivial⟩
noncomputable def e_x48:FSem:=mkE (ArgT.cons (Ty.leaf .sl) (ArgT.fnc 181 1 ArgT.nil)) (Ty.leaf (.int .i64)) fun a=>F.zay a.1 a.2.1
theorem t_x48:Entry prog 220 e_x48 false:=eo { P:=prog,n:=19,tab:=[(181,e_x47)] } (.seq .leaf (.seq (.seq .leaf (.block (.loop [(8,.leaf (.int .i64))] (.seq .leaf (.seq (.cond .leaf .leaf) (.seq (.block (.seq .leaf (.seq .leaf (.cond (.seq .leaf .leaf) .leaf)))) .leaf)))))) (.seq .leaf .leaf))) func220 ⟨t_x47,trivial⟩
noncomputable def e_x49:FSem:=mkE (ArgT.cons (Ty.leaf .sl) (ArgT.fnc 181 1 ArgT.nil)) (Ty.leaf .bool) fun a=>F.zaw a.1 a.2.1
theorem t_x49:Entry prog 180 e_x49 false:=eo { P:=prog,n:=9,tab:=[(220,e_x48)] } (.seq .leaf (.seq .leaf .leaf)) func180 ⟨t_x48,trivial⟩
noncomputable def e_x50:FSem:=mkE (ArgT.cons (Ty.leaf .sl) (ArgT.fnc 124 1 ArgT.nil)) (Ty.leaf .bool) fun a=>F.zce a.1 a.2.1
theorem t_x50:Entry prog 123 e_x50 false:=eo { P:=prog,n:=9,tab:=[(180,e_x49)] } (.seq .leaf (.seq .leaf .leaf)) func123 ⟨t_x49,trivial⟩
noncomputable def e_x51:FSem:=mkE (ArgT.cons tyTSketch (ArgT.cons tyTPiece ArgT.nil)) (Ty.tup (.cons (Ty.leaf (.int .i64)) (.cons (Ty.leaf (.int .i64)) .nil)) (fun x=>(x.1,x.2,())) (fun y=>(y.1,y.2.1)) (fun _=>rfl) (fun _=>rfl)) fun a=>F.zi6 a.1 a.2.1
theorem t_x51:Entry prog 183 e_x51 false:=eo { P:=prog,n:=44,tab:=[],rtL:=[(8,3),(10,2),(12,3),(17,2),(19,3),(24,2),(26,3),(31,2),(33,3),(38,3)],locL:=[2,3] } (.seq .leaf (.seq .leaf (.join [(6,.leaf (.int .i64)),(7,.leaf (.int .i64))] (.seq .leaf (.cond (.draw [0,1,2,3,4,5,6,7,8,9,10,11,12,13,14,15]) (.draw [0,1,2,3,4,5,6,7,8,9,10,11,12,13,14,15]))) (.seq (.seq .leaf (.cond (.seq .leaf .leaf) .leaf)) (.seq .leaf .leaf))))) func183 trivial
noncomputable def e_x52:FSem:=mkE (ArgT.cons tyTSketch (ArgT.cons (Ty.leaf .sl) ArgT.nil)) (Ty.leaf .bool) fun a=>F.zfq a.1 a.2.1
theorem t_x52:Entry prog 128 e_x52 false:=eo { P:=prog,n:=49,tab:=[(119,e_x33),(183,e_x51)],rtL:=[(18,2),(21,7),(23,2),(27,7)],locL:=[2,7] } (.seq .leaf (.seq .leaf (.seq (.seq .leaf (.block (.loop [(5,.leaf (.int .i64)),(13,.leaf (.int .i64))] (.seq .leaf (.seq (.cond .leaf .leaf) (.join [(5,.leaf (.int .i64))] (.block (.seq .leaf (.seq .leaf (.join [(8,.leaf (.int .i64))] (.seq .leaf (.cond .leaf .leaf)) (.seq (.seq .leaf (.cond (.seq .leaf .leaf) .leaf)) (.seq .leaf (.seq (.seq .leaf (.cond (.seq .leaf .leaf) .leaf)) .leaf))))))) .leaf)))))) (.seq .leaf .leaf)))) func128 ⟨t_x33,t_x51,trivial⟩
noncomputable def e_x53:FSem:=mkE (ArgT.cons (Ty.leaf .sl) (ArgT.cons (Ty.leaf .ptr) ArgT.nil)) (Ty.leaf .bool) fun a=>F.zjx a.1 a.2.1
theorem t_x53:Entry prog 127 e_x53 false:=eo { P:=prog,n:=7,tab:=[(128,e_x52)] } (.seq .leaf (.seq .leaf .leaf)) func127 ⟨t_x52,trivial⟩
noncomputable def e_x54:FSem:=mkE (ArgT.cons (Ty.leaf .sl) (ArgT.cons (Ty.leaf .ptr) ArgT.nil)) (Ty.leaf .bool) fun a=>F.zcn a.1 a.2.1
theorem t_x54:Entry prog 182 e_x54 false:=eo { P:=prog,n:=8,tab:=[(127,e_x53)],fnL:=[(4,127,1)] } (.seq .leaf (.seq .leaf .leaf)) func182 ⟨t_x53,trivial⟩
noncomputable def e_x55:FSem:=mkE (ArgT.cons (Ty.leaf .sl) (ArgT.fnc 182 1 ArgT.nil)) (Ty.leaf (.int .i64)) fun a=>F.zas a.1 a.2.1
theorem t_x55:Entry prog 210 e_x55 false:=eo { P:=prog,n:=19,tab:=[(182,e_x54)] } (.seq .leaf (.seq (.seq .leaf (.block (.loop [(8,.leaf (.int .i64))] (.seq .leaf (.seq (.cond .leaf .leaf) (.seq (.block (.seq .leaf (.seq .leaf (.cond (.seq .leaf .leaf) .leaf)))) .leaf)))))) (.seq .leaf .leaf))) func210 ⟨t_x54,trivial⟩
noncomputable def e_x56:FSem:=mkE (ArgT.cons (Ty.leaf .sl) (ArgT.fnc 182 1 ArgT.nil)) (Ty.leaf .bool) fun a=>F.zan a.1 a.2.1
theorem t_x56:Entry prog 168 e_x56 false:=eo { P:=prog,n:=9,tab:=[(210,e_x55)] } (.seq .leaf (.seq .leaf .leaf)) func168 ⟨t_x55,trivial⟩
noncomputable def e_x57:FSem:=mkE (ArgT.cons (Ty.leaf .sl) (ArgT.fnc 127 1 ArgT.nil)) (Ty.leaf .bool) fun a=>F.zca a.1 a.2.1
theorem t_x57:Entry prog 126 e_x57 false:=eo { P:=prog,n:=9,tab:=[(168,e_x56)] } (.seq .leaf (.seq .leaf .leaf)) func126 ⟨t_x56,trivial⟩
noncomputable def e_x58:FSem:=mkE (ArgT.cons (Ty.leaf (.int .i64)) ArgT.nil) (Ty.tup (.cons zom (.cons (Ty.leaf .bool) .nil)) (fun x=>(x.1,x.2,())) (fun y=>(y.1,y.2.1)) (fun _=>rfl) (fun _=>rfl)) fun a=>F.ze8 a.1
theorem t_x58:Entry prog 109 e_x58 false:=eo { P:=prog,n:=15,tab:=[],locL:=[2] } (.seq .leaf (.join [(2,.box [.int .i64,.int .i64,.int .i64,.int .i64,.bool,.bool,.bool])] (.seq .leaf (.cond (.seq .leaf .leaf) .leaf)) (.seq .leaf .leaf))) func109 trivial
noncomputable def e_x59:FSem:=mkE (ArgT.cons (Ty.leaf (.int .i64)) ArgT.nil) tyTInt fun a=>F.zeh a.1
theorem t_x59:Entry prog 259 e_x59 false:=eo { P:=prog,n:=15,tab:=[(217,e_x11),(214,e_x8)],locL:=[2] } (.seq .leaf (.seq .leaf (.join [(3,.leaf (.int .u64))] (.seq .leaf (.cond .leaf .leaf)) (.seq .leaf .leaf)))) func259 ⟨t_x11,t_x8,trivial⟩
noncomputable def e_x60:FSem:=mkE ArgT.nil tyTInt fun a=>F.zhc
theorem t_x60:Entry prog 273 e_x60 false:=eo { P:=prog,n:=2,tab:=[(259,e_x59)],locL:=[0] } (.seq .leaf (.seq .leaf .leaf)) func273 ⟨t_x59,trivial⟩
noncomputable def e_x61:FSem:=mkE (ArgT.cons (Ty.leaf (.int .i64)) ArgT.nil) tyTRat fun a=>F.zgb a.1
theorem t_x61:Entry prog 258 e_x61 false:=eo { P:=prog,n:=7,tab:=[(259,e_x59),(273,e_x60)],locL:=[2] } (.seq .leaf (.seq .leaf .leaf)) func258 ⟨t_x59,t_x60,trivial⟩
noncomputable def e_x62:FSem:=mkE (ArgT.cons tyTInt (ArgT.cons tyTInt ArgT.nil)) (Ty.leaf (.int .i64)) fun a=>F.zk6 a.1 a.2.1
theorem t_x62:Entry prog 260 e_x62 false:=eo { P:=prog,n:=26,tab:=[(173,e_x6),(163,e_x13),(212,e_x5),(239,e_x16)],rtL:=[(18,2),(21,3)],locL:=[2,3] } (.seq .leaf (.seq (.draw [0,2,1,3,4,5]) (.seq (.seq .leaf (.cond (.seq .leaf .leaf) .leaf)) (.seq (.draw [0,1,2,4,5,3,6,7,8,9]) .leaf)))) func260 ⟨t_x6,t_x13,t_x5,t_x16,trivial⟩
noncomputable def e_x63:FSem:=mkE (ArgT.cons (Ty.leaf .sl) (ArgT.cons (Ty.leaf .sl) ArgT.nil)) (Ty.leaf .sl) fun a=>F.zgj a.1 a.2.1
theorem t_x63:Entry prog 289 e_x63 false:=eo { P:=prog,n:=75,tab:=[(212,e_x5)] } (.seq .leaf (.join [] (.seq .leaf (.cond (.seq .leaf .leaf) .leaf)) (.seq .leaf (.seq (.seq .leaf (.block (.loop [(27,.leaf (.int .i64))] (.seq .leaf (.seq (.cond .leaf .leaf) (.seq (.block (.seq .leaf (.seq .leaf (.seq (.seq .leaf (.block (.loop [(8,.leaf (.int .u64)),(34,.leaf (.int .i64))] (.seq .leaf (.seq (.cond .leaf .leaf) (.seq (.block (.seq .leaf (.seq .leaf (.seq .leaf .leaf)))) .leaf)))))) .leaf)))) .leaf)))))) (.seq .leaf .leaf))))) func289 ⟨t_x5,trivial⟩
noncomputable def e_x64:FSem:=mkE (ArgT.cons tyTInt (ArgT.cons tyTInt ArgT.nil)) tyTInt fun a=>F.zgo a.1 a.2.1
theorem t_x64:Entry prog 274 e_x64 false:=eo { P:=prog,n:=18,tab:=[(212,e_x5),(289,e_x63),(214,e_x8)],rtL:=[(5,2),(7,3),(10,2),(13,3)],locL:=[2,3,4] } (.seq .leaf (.seq (.draw [0,1,2,3,4,5,6,8,9,7,10,11,12,13]) .leaf)) func274 ⟨t_x5,t_x63,t_x8,trivial⟩
noncomputable def e_x65:FSem:=mkE (ArgT.cons (Ty.leaf .sl) (ArgT.cons (Ty.leaf .sl) ArgT.nil)) (Ty.leaf .sl) fun a=>F.zh8 a.1 a.2.1
theorem t_x65:Entry prog 308 e_x65 false:=eo { P:=prog,n:=58,tab:=[],locL:=[45,55] } (.seq .leaf (.join [(0,.leaf (.sl)),(1,.leaf (.sl))] (.seq .leaf (.cond .leaf .leaf)) (.seq .leaf (.seq .leaf (.seq (.seq .leaf (.block (.loop [(5,.leaf (.sl)),(6,.leaf (.int .u64)),(22,.leaf (.int .i64))] (.seq .leaf (.seq (.cond .leaf .leaf) (.seq (.block (.seq .leaf (.seq .leaf (.join [(6,.leaf (.int .u64))] (.seq .leaf (.cond .leaf .leaf)) (.seq .leaf .leaf))))) .leaf)))))) (.seq (.seq .leaf (.cond .leaf .leaf)) (.seq .leaf .leaf))))))) func308 trivial
noncomputable def e_x66:FSem:=mkE (ArgT.cons (Ty.leaf .sl) (ArgT.cons (Ty.leaf .sl) ArgT.nil)) (Ty.leaf .sl) fun a=>F.zgi a.1 a.2.1
theorem t_x66:Entry prog 309 e_x66 false:=eo { P:=prog,n:=45,tab:=[(212,e_x5)] } (.seq .leaf (.seq .leaf (.seq .leaf (.seq (.seq .leaf (.block (.loop [(6,.leaf (.int .u64)),(15,.leaf (.int .i64))] (.seq .leaf (.seq (.cond .leaf .leaf) (.seq (.block (.seq .leaf (.seq .leaf (.join [(9,.leaf (.int .u64))] (.seq .leaf (.cond .leaf .leaf)) (.seq .leaf .leaf))))) .leaf)))))) (.seq .leaf .leaf))))) func309 ⟨t_x5,trivial⟩
noncomputable def e_x67:FSem:=mkE (ArgT.cons tyTInt (ArgT.cons tyTInt ArgT.nil)) (Ty.tup (.cons tyTInt (.cons tyTInt (.cons (Ty.leaf (.int .i64)) .nil))) (fun x=>(x.1,x.2.1,x.2.2,())) (fun y=>(y.1,y.2.1,y.2.2.1)) (fun _=>rfl) (fun _=>rfl)) fun a=>F.zhq a.1 a.2.1
theorem t_x67:Entry prog 299 e_x67 false:=eo { P:=prog,n:=53,tab:=[(212,e_x5),(213,e_x24),(214,e_x8),(308,e_x65),(309,e_x66)],rtL:=[(10,3),(19,2),(26,2),(28,3),(42,2),(44,3),(49,3)],locL:=[2,3,4,5] } (.seq .leaf (.seq .leaf (.seq (.seq .leaf (.cond (.seq .leaf .leaf) .leaf)) (.seq .leaf (.join [(8,.leaf (.sl)),(9,.leaf (.sl))] (.seq .leaf (.cond (.seq .leaf .leaf) .leaf)) (.seq (.draw [0,1,2,3,4,5,7,8,9,6,10,11,12,13]) .leaf)))))) func299 ⟨t_x5,t_x24,t_x8,t_x65,t_x66,trivial⟩
noncomputable def e_x68:FSem:=mkE (ArgT.cons tyTInt (ArgT.cons tyTInt ArgT.nil)) tyTInt fun a=>F.zhd a.1 a.2.1
theorem t_x68:Entry prog 291 e_x68 false:=eo { P:=prog,n:=19,tab:=[(174,e_x26),(299,e_x67)],locL:=[2,3,4,5,6] } (.seq .leaf (.seq (.seq .leaf (.cond (.seq .leaf .leaf) .leaf)) (.seq .leaf (.seq .leaf .leaf)))) func291 ⟨t_x26,t_x67,trivial⟩
noncomputable def e_x69:FSem:=mkE (ArgT.cons tyTInt ArgT.nil) tyTInt fun a=>F.zk7 a.1
theorem t_x69:Entry prog 290 e_x69 false:=eo { P:=prog,n:=11,tab:=[(212,e_x5),(215,e_x7),(214,e_x8)],rtL:=[(3,1),(6,1)],locL:=[1,2] } (.seq .leaf (.seq (.draw [0,1,2,3,4,5,6,7,8]) .leaf)) func290 ⟨t_x5,t_x7,t_x8,trivial⟩
noncomputable def e_x70:FSem:=mkE (ArgT.cons tyTInt (ArgT.cons tyTInt ArgT.nil)) tyTRat fun a=>F.zgy a.1 a.2.1
theorem t_x70:Entry prog 275 e_x70 false:=eo { P:=prog,n:=20,tab:=[(175,e_x25),(291,e_x68),(290,e_x69)],rtL:=[(9,3)],locL:=[2,3,4,5] } (.seq .leaf (.seq .leaf (.join [(5,.box [.bool,.sl])] (.seq .leaf (.cond .leaf .leaf)) (.seq (.draw [0,1,3,4,2,5,6,7]) .leaf)))) func275 ⟨t_x25,t_x68,t_x69,trivial⟩
noncomputable def e_x71:FSem:=mkE (ArgT.cons tyTRat (ArgT.cons tyTRat ArgT.nil)) tyTRat fun a=>F.zj8 a.1 a.2.1
theorem t_x71:Entry prog 261 e_x71 false:=eo { P:=prog,n:=31,tab:=[(274,e_x64),(275,e_x70),(174,e_x26),(273,e_x60)],rtL:=[(5,2),(9,3),(13,2),(15,3),(20,2),(22,3),(25,2),(27,3)],locL:=[2,3,4] } (.seq .leaf (.join [(4,.box [.bool,.sl,.bool,.sl])] (.seq .leaf (.cond (.seq .leaf .leaf) .leaf)) (.seq (.draw [0,1,2,3,5,6,7,8,4,9,10,11]) .leaf))) func261 ⟨t_x64,t_x70,t_x26,t_x60,trivial⟩
noncomputable def e_x72:FSem:=mkE (ArgT.cons (Ty.leaf (.int .i64)) ArgT.nil) (Ty.leaf .str) fun a=>F.zfl a.1
theorem t_x72:Entry prog 301 e_x72 false:=eo { P:=prog,n:=15,tab:=[] } (.seq .leaf (.seq (.seq .leaf (.cond (.seq .leaf .leaf) .leaf)) (.seq .leaf .leaf))) func301 trivial
noncomputable def e_x73:FSem:=mkE (ArgT.cons (Ty.leaf (.int .u64)) ArgT.nil) (Ty.leaf (.int .i64)) fun a=>F.zgw a.1
theorem t_x73:Entry prog 311 e_x73 false:=eo { P:=prog,n:=25,tab:=[] } (.seq .leaf (.join [(0,.leaf (.int .u64)),(2,.leaf (.int .i64))] (.seq .leaf (.cond (.seq .leaf .leaf) .leaf)) (.join [(0,.leaf (.int .u64)),(2,.leaf (.int .i64))] (.seq .leaf (.cond (.seq .leaf .leaf) .leaf)) (.join [(0,.leaf (.int .u64)),(2,.leaf (.int .i64))] (.seq .leaf (.cond (.seq .leaf .leaf) .leaf)) (.seq .leaf .leaf))))) func311 trivial
noncomputable def e_x74:FSem:=mkE (ArgT.cons (Ty.leaf (.int .i64)) ArgT.nil) (Ty.leaf (.int .i64)) fun a=>F.zem a.1
theorem t_x74:Entry prog 310 e_x74 false:=eo { P:=prog,n:=6,tab:=[] } (.seq .leaf (.seq .leaf .leaf)) func310 trivial
noncomputable def e_x75:FSem:=mkE (ArgT.cons (Ty.leaf .bool) ArgT.nil) (Ty.leaf (.int .i64)) fun a=>F.zel a.1
theorem t_x75:Entry prog 312 e_x75 false:=eo { P:=prog,n:=4,tab:=[] } (.seq .leaf (.seq (.seq .leaf (.cond (.seq .leaf .leaf) .leaf)) (.seq .leaf .leaf))) func312 trivial
noncomputable def e_x76:FSem:=mkE (ArgT.cons (Ty.leaf (.int .u64)) ArgT.nil) (Ty.leaf (.int .i64)) fun a=>F.zcy a.1
theorem t_x76:Entry prog 302 e_x76 false:=eo { P:=prog,n:=15,tab:=[(311,e_x73),(310,e_x74),(312,e_x75)] } (.seq .leaf (.seq .leaf (.seq .leaf .leaf))) func302 ⟨t_x73,t_x74,t_x75,trivial⟩
noncomputable def e_x77:FSem:=mkM (ArgT.cons (Ty.leaf .sl) (ArgT.cons (Ty.leaf (.int .u64)) ArgT.nil)) Ty.unit fun a=>F.zcq a.1 a.2.1
theorem t_x77:Entry prog 303 e_x77 true:=eoM { P:=prog,n:=167,tab:=[] } (.seq .leaf (.seq (.block (.loop [(1,.leaf (.int .u64)),(4,.leaf (.int .i64))] (.seq (.seq .leaf (.cond .leaf .leaf)) (.block (.seq .leaf (.seq .leaf (.seq .leaf (.seq .leaf (.seq .leaf (.seq (.draw [0,1,2,3,4,5,6,7,8,9,10,11,12,13,14]) (.seq (.draw [0,1,2,3,4,5,6,7,8,9,10,11,12,13,14]) (.seq (.draw [0,1,2,3,4,5,6,7,8,9,10,11,12,13,14]) (.seq (.draw [0,1,2,3,4,5,6,7,8,9,10,11,12,13,14]) .leaf))))))))))))) (.seq .leaf (.join [(4,.leaf (.int .i64)),(12,.leaf (.int .u32))] (.seq .leaf (.cond (.seq .leaf (.seq .leaf (.seq .leaf (.seq (.draw [0,1,2,3,4,5,6,7,8,9,10,11,12,13,14]) (.seq (.draw [0,1,2,3,4,5,6,7,8,9,10,11,12,13,14]) .leaf))))) .leaf)) (.join [(4,.leaf (.int .i64)),(12,.leaf (.int .u32))] (.seq .leaf (.cond (.seq .leaf (.seq .leaf (.seq (.draw [0,1,2,3,4,5,6,7,8,9,10,11,12,13,14]) .leaf))) .leaf)) (.seq .leaf (.cond .leaf .leaf))))))) func303 trivial
noncomputable def e_x78:FSem:=mkE (ArgT.cons (Ty.leaf (.int .u64)) (ArgT.cons (Ty.leaf (.int .i64)) ArgT.nil)) (Ty.leaf .str) fun a=>F.zec a.1 a.2.1
theorem t_x78:Entry prog 293 e_x78 false:=eo { P:=prog,n:=32,tab:=[(301,e_x72),(302,e_x76),(303,e_x77)],mutL:=[303] } (.seq .leaf (.seq (.seq .leaf (.cond (.seq (.seq .leaf (.cond (.seq .leaf .leaf) .leaf)) (.seq .leaf (.seq .leaf (.seq .leaf (.seq .leaf .leaf))))) .leaf)) (.seq .leaf (.seq .leaf .leaf)))) func293 ⟨t_x72,t_x76,t_x77,trivial⟩
noncomputable def e_x79:FSem:=mkE (ArgT.cons (Ty.leaf (.int .u64)) (ArgT.cons (Ty.leaf (.int .i64)) ArgT.nil)) (Ty.leaf .str) fun a=>F.zeg a.1 a.2.1
theorem t_x79:Entry prog 277 e_x79 false:=eo { P:=prog,n:=8,tab:=[(293,e_x78)] } (.seq .leaf (.seq .leaf .leaf)) func277 ⟨t_x78,trivial⟩
end
end Den
end

section
set_option maxRecDepth 100000
namespace Den
open Go Go.Proofs.Tryz
noncomputable section
noncomputable def zkj:ArgT ((Option Addr)×Unit):=(ArgT.cons (Ty.leaf .ptr) ArgT.nil)
noncomputable def ze6:Ty Unit:=Ty.unit
noncomputable def zea:FSem:=mkM zkj ze6 (fun a=>F.zd6 a.1)
set_option maxHeartbeats 1000000 in
set_option maxRecDepth 100000 in
theorem zjs (b:Nat) (w:World) (h0:w.cell? ⟨b,0,none⟩=some (.pointer (some ⟨b,0,none⟩))) :
 Calls Go.Proofs.Tryz.prog 292 #[.pointer (some ⟨b,0,none⟩)] w fun e w'=>e=.returned (.tuple #[])∧w'=w:=by
 obtain ⟨j,hj,_⟩:=Option.map_eq_some_iff.1 (show (Go.Proofs.Tryz.prog.info? 239).map (·.size)=some 2 by kernel_rfl)
 go_enter Go.Proofs.Tryz.func292,Go.Proofs.Tryz.ntmps292
 go_wp2
 rw [Lib.run_neq_ptr_same w _ Go.Proofs.Tryz.underlying237 hj]
 go_wp2
 go_end0
 exact ⟨rfl,rfl⟩
set_option maxHeartbeats 1000000 in
set_option maxRecDepth 100000 in
theorem zjr (b:Nat) (w:World) (h0:w.cell? ⟨b,0,none⟩=some (.pointer none)) (hsh:w.shape? b=some (239,2)) (hfz:w.frozen? ⟨b,0,none⟩=false) :
 Calls Go.Proofs.Tryz.prog 292 #[.pointer (some ⟨b,0,none⟩)] w fun e w'=>e=.returned (.tuple #[])∧w'=w.setCell ⟨b,0,none⟩ (.pointer (some ⟨b,0,none⟩)):=by
 obtain ⟨j,hj,hjs⟩:=Option.map_eq_some_iff.1 (show (Go.Proofs.Tryz.prog.info? 239).map (·.size)=some 2 by kernel_rfl)
 have hli:liesAt Go.Proofs.Tryz.prog Go.Proofs.Tryz.prog.depth 239 (2/Go.Proofs.Tryz.prog.cellsOf 239) 0 239 1=true:=by kernel_rfl
 go_enter Go.Proofs.Tryz.func292,Go.Proofs.Tryz.ntmps292
 go_wp2
 rw [Lib.run_to_unsafe w ⟨b,0,none⟩ Go.Proofs.Tryz.underlying237 Go.Proofs.Tryz.underlying259 hj (by rw [hjs]; decide) hsh (Nat.zero_lt_succ 1)]
 simp only [Result.andThen]
 rw [Oper.upon_value]
 go_wp2
 rw [run_callFunc_extern Go.Proofs.Tryz.func300 (by kernel_rfl) (by kernel_rfl) (by kernel_rfl) (e:=Extern.AbiNoEscape.same) (by kernel_rfl)]
 rw [Lib.run_noEscape]
 simp only [Result.andThen]
 rw [Oper.upon_value]
 go_wp2
 rw [Lib.run_from_unsafe w ⟨b,0,none⟩ Go.Proofs.Tryz.underlying259 Go.Proofs.Tryz.underlying237 hj hsh hli]
 simp only [Result.andThen]
 rw [Oper.upon_value]
 go_wp2
 go_end0
 exact ⟨rfl,rfl⟩
theorem zg1:Entry Go.Proofs.Tryz.prog 292 zea true:=
 zp6 ⟨_,Go.Proofs.Tryz.func292,rfl,by decide⟩ (fun a K D w hs hk=>by
  obtain ⟨p,u⟩:=a
  obtain ⟨b,bl,hp,hb,he,hf,hl,hc⟩:=hk
  simp only at hp
  subst hp
  have hw:=hs _ _ hb
  have hlt:=zcr hw
  rw [he,hf] at hw
  rcases hc with ⟨h0,hK⟩ | ⟨h0,hK⟩
  · have c0:w.cell? ⟨b,0,none⟩=some (.pointer none):=by unfold World.cell?; simp only [hw]; simp [h0]
    refine (zjr b w c0 (by simp [World.shape?,hw,hl]) (by unfold World.frozen?; simp only [hw]; simp)).mono ?_
    rintro e w' ⟨rfl,rfl⟩
    refine ⟨_,_,rfl,(ze6.cmp _ _).2 hK,?_,?_,?_⟩
    · intro k c hk
      rw [zn2 hw]
      by_cases hkb:k=b
      · subst hkb
        rw [Hp.ins_same] at hk; cases hk
        rw [zgr hlt]
        simp [he,hf]
      · rw [Hp.ins_ne hkb] at hk; rw [zhj hkb]; exact hs k c hk
    · rw [zn2 hw]
      refine ⟨by rw [zi5]; exact Nat.le_refl _,fun k hk1 hk2=>?_,rfl,rfl,rfl,Nat.le_refl _⟩
      exact zhj fun hh=>by rw [hh,hb] at hk2; cases hk2
    · intro k hk1 hk2
      have hkb:k≠b:=fun hh=>by rw [hh,hb] at hk2; cases hk2
      rw [Hp.ins_ne hkb] at hk1; exact absurd hk2 hk1
  · have c0:w.cell? ⟨b,0,none⟩=some (.pointer (some ⟨b,0,none⟩)):=by unfold World.cell?; simp only [hw]; simp [h0]
    refine (zjs b w c0).mono ?_
    rintro e w' ⟨rfl,rfl⟩
    exact ⟨_,D,rfl,(ze6.cmp _ _).2 hK,hs,Fr.refl _ _,fun k h1 h2=>absurd h2 h1⟩)
noncomputable def e_x80:FSem:=mkM (ArgT.cons (Ty.leaf .ptr) (ArgT.cons (Ty.leaf .str) ArgT.nil)) (Ty.tup (.cons (Ty.leaf (.int .i64)) (.cons (Ty.leaf .val) .nil)) (fun x=>(x.1,x.2,())) (fun y=>(y.1,y.2.1)) (fun _=>rfl) (fun _=>rfl)) fun a=>F.zaz a.1 a.2.1
theorem t_x80:Entry prog 278 e_x80 true:=eoM { P:=prog,n:=19,tab:=[(292,zea)],mutL:=[292],tyL:=[5] } (.seq .leaf (.seq .leaf (.seq .leaf (.seq .leaf .leaf)))) func278 ⟨zg1,trivial⟩
noncomputable def e_x81:FSem:=mkE (ArgT.cons (Ty.leaf (.int .u64)) (ArgT.cons (Ty.leaf (.int .u64)) ArgT.nil)) (Ty.tup (.cons (Ty.leaf (.int .u64)) (.cons (Ty.leaf (.int .u64)) .nil)) (fun x=>(x.1,x.2,())) (fun y=>(y.1,y.2.1)) (fun _=>rfl) (fun _=>rfl)) fun a=>F.zj5 a.1 a.2.1
theorem t_x81:Entry prog 295 e_x81 false:=eo { P:=prog,n:=51,tab:=[] } (.seq .leaf (.seq .leaf (.seq .leaf (.seq .leaf (.seq .leaf (.seq .leaf (.seq .leaf (.seq .leaf (.seq .leaf (.seq .leaf (.seq .leaf (.seq .leaf .leaf)))))))))))) func295 trivial
noncomputable def e_x82:FSem:=mkE (ArgT.cons (Ty.leaf (.int .u64)) (ArgT.cons (Ty.leaf (.int .u64)) ArgT.nil)) (Ty.tup (.cons (Ty.leaf (.int .u64)) (.cons (Ty.leaf (.int .u64)) .nil)) (fun x=>(x.1,x.2,())) (fun y=>(y.1,y.2.1)) (fun _=>rfl) (fun _=>rfl)) fun a=>F.zic a.1 a.2.1
theorem t_x82:Entry prog 280 e_x82 false:=eo { P:=prog,n:=30,tab:=[(295,e_x81)] } (.seq .leaf (.seq (.cond (.seq .leaf (.seq .leaf .leaf)) .leaf) (.seq .leaf (.seq .leaf .leaf)))) func280 ⟨t_x81,trivial⟩
noncomputable def e_x83:FSem:=mkE (ArgT.cons (Ty.leaf .str) (ArgT.cons (Ty.leaf .str) ArgT.nil)) (Ty.leaf .bool) fun a=>F.zdb a.1 a.2.1
theorem t_x83:Entry prog 296 e_x83 false:=eo { P:=prog,n:=18,tab:=[] } (.seq .leaf (.seq .leaf .leaf)) func296 trivial
noncomputable def e_x84:FSem:=mkE (ArgT.cons (Ty.leaf .str) (ArgT.cons (Ty.leaf .str) ArgT.nil)) (Ty.leaf .bool) fun a=>F.za7 a.1 a.2.1
theorem t_x84:Entry prog 281 e_x84 false:=eo { P:=prog,n:=8,tab:=[(296,e_x83)] } (.seq .leaf (.seq .leaf .leaf)) func281 ⟨t_x83,trivial⟩
noncomputable def e_x85:FSem:=mkE (ArgT.cons (Ty.leaf .str) (ArgT.cons (Ty.leaf (.int .i64)) ArgT.nil)) (Ty.leaf .str) fun a=>F.zey a.1 a.2.1
theorem t_x85:Entry prog 263 e_x85 false:=eo { P:=prog,n:=125,tab:=[(280,e_x82),(281,e_x84)],tyL:=[239] } (.seq .leaf (.seq (.seq .leaf (.block (.seq .leaf (.cond (.seq .leaf .leaf) (.seq .leaf (.cond (.seq .leaf .leaf) .leaf)))))) (.join [] (.seq .leaf (.cond .leaf .leaf)) (.seq .leaf (.join [] (.seq .leaf (.cond .leaf .leaf)) (.seq .leaf (.seq (.seq .leaf (.cond (.seq .leaf .leaf) .leaf)) (.join [] (.seq .leaf (.block (.join [(43,.leaf (.bool))] (.seq .leaf (.cond .leaf (.seq .leaf (.cond .leaf (.seq .leaf (.cond .leaf (.seq .leaf (.cond .leaf .leaf)))))))) (.cond (.block (.seq .leaf (.cond (.seq .leaf .leaf) (.seq .leaf (.cond (.seq .leaf .leaf) (.seq .leaf (.cond (.seq .leaf .leaf) (.seq .leaf (.cond (.seq .leaf .leaf) (.seq .leaf (.cond (.seq .leaf .leaf) .leaf))))))))))) .leaf)))) (.seq .leaf (.join [(8,.leaf (.int .i64))] (.seq .leaf (.cond (.seq .leaf (.seq .leaf (.cond .leaf .leaf))) .leaf)) (.seq .leaf (.seq .leaf (.seq .leaf (.seq (.block (.loop [] (.seq (.seq .leaf (.cond .leaf .leaf)) (.block (.seq .leaf .leaf))))) (.seq .leaf .leaf))))))))))))))) func263 ⟨t_x82,t_x84,trivial⟩
noncomputable def zls:ArgT ((Option Addr)×Unit):=(ArgT.cons (Ty.leaf .ptr) ArgT.nil)
noncomputable def zez:Ty ByteArray:=(Ty.leaf .str)
noncomputable def zh4:FSem:=mkM zls zez (fun a=>F.ze5 a.1)
set_option maxHeartbeats 2000000 in
set_option maxRecDepth 100000 in
theorem zla (b:Nat) (p:Value) (w:World) (hbk:w.heap[b]?=some (.cells #[p,.slice none 0 0] 239 (0,0))) :
 Calls Go.Proofs.Tryz.prog 279 #[.pointer (some ⟨b,0,none⟩)] w fun e w'=>e=.returned (.string ⟨#[]⟩)∧w'=w.drew:=by
 have hUS:∀(W:World) (q:Option Addr),(Builtin.unsafeString_ #[252,3] 9 #[.pointer q,.int .i64 0]).run Go.Proofs.Tryz.prog W=.ok (.string .empty) W:=fun W q=>Lib.run_unsafeString_none W _ _ _ q
 have c1:w.drew.cell? ⟨b,1,none⟩=some (.slice none 0 0):=by
  have:w.drew.heap[b]?=some (.cells #[p,.slice none 0 0] 239 (0,0)):=hbk
  rw [Lib.cell_of_heap this]; rfl
 have hSD:(Builtin.unsafeSliceData_ #[44] 252 #[.slice none 0 0]).run Go.Proofs.Tryz.prog w.drew=.ok (.pointer none) w.drew:=rfl
 go_enter Go.Proofs.Tryz.func279,Go.Proofs.Tryz.ntmps279
 go_wp2
 go_region
 all_goals (go_wp2; go_ret; exact ⟨rfl,rfl⟩)
set_option maxHeartbeats 2000000 in
set_option maxRecDepth 100000 in
theorem zlb (b g cap cells:Nat) (p:Value) (l:List UInt8) (w:World) (h0:l≠[]) (hbk:w.heap[b]?=some (.cells #[p,.slice (some ⟨g,0,none⟩) l.length cap] 239 (0,0))) (hc:l.length≤cap) (hsh:w.shape? g=some (5,cells)) (hn:l.length≤cells) (h63:l.length≤140737488355328)
 (hcell:∀j x,l[j]?=some x→w.cell? ((⟨g,0,none⟩:Addr).add j)=some (.int .u8 x.toNat)) :
 Calls Go.Proofs.Tryz.prog 279 #[.pointer (some ⟨b,0,none⟩)] w fun e w'=>e=.returned (.string ⟨l.toArray⟩)∧w'=w.drew.freeze ⟨g,0,none⟩ l.length:=by
 have hl0:l.length≠0:=by simpa using h0
 have c1:w.drew.cell? ⟨b,1,none⟩=some (.slice (some ⟨g,0,none⟩) l.length cap):=by
  have:w.drew.heap[b]?=some (.cells #[p,.slice (some ⟨g,0,none⟩) l.length cap] 239 (0,0)):=hbk
  rw [Lib.cell_of_heap this]; rfl
 have hSD:(Builtin.unsafeSliceData_ #[44] 252 #[.slice (some ⟨g,0,none⟩) l.length cap]).run Go.Proofs.Tryz.prog w.drew=.ok (.pointer (some ⟨g,0,none⟩)) w.drew:=
  Lib.run_unsafeSliceData_row _ _ _ _ _ _ (by omega)
 have hUS:(Builtin.unsafeString_ #[252,3] 9 #[.pointer (some ⟨g,0,none⟩),.int .i64 l.length]).run Go.Proofs.Tryz.prog w.drew=.ok (.string ⟨l.toArray⟩) (w.drew.freeze ⟨g,0,none⟩ l.length):=
  Lib.run_unsafeString_row w.drew 252 3 9 5 Go.Proofs.Tryz.underlying252 (by kernel_rfl) g cells hsh l h0 hn (by omega) hcell
 go_enter Go.Proofs.Tryz.func279,Go.Proofs.Tryz.ntmps279
 go_wp2
 go_region
 all_goals (go_wp2; go_ret; exact ⟨rfl,rfl⟩)
theorem zma:Entry Go.Proofs.Tryz.prog 279 zh4 true:=
 zp6 ⟨_,Go.Proofs.Tryz.func279,rfl,by decide⟩ (fun a K D w hs hk=>by
  obtain ⟨q,u⟩:=a
  obtain ⟨b,bl,p,hp,hb,he,hf,hc⟩:=hk
  simp only at hp
  subst hp
  have hw:=hs _ _ hb
  rw [he,hf] at hw
  rcases hc with ⟨hcs,hK⟩ | ⟨g,c,l,bg,h0,hcs,hlc,hg,hge,hlg,h63,hall,hK⟩
  · rw [hcs] at hw
    refine (zla b p w hw).mono ?_
    rintro e w' ⟨rfl,rfl⟩
    exact ⟨_,D,rfl,(zez.cmp _ _).2 hK,hs,zn8 D w,fun k h1 h2=>absurd h2 h1⟩
  · rw [hcs] at hw
    have hwg:=hs _ _ hg
    rw [hge] at hwg
    have hltg:=zcr hwg
    refine (zlb b g c bg.cells.length p l w h0 hw hlc (by simp [World.shape?,hwg]) hlg h63 (fun j x hj=>?_)).mono ?_
    · rw [zfi,Nat.zero_add]
      unfold World.cell?
      simp only [hwg]
      simp [hall j x hj]
    · rintro e w' ⟨rfl,rfl⟩
      have hsz:(w.drew.freeze ⟨g,0,none⟩ l.length).heap.size=w.heap.size:=by
       unfold World.freeze
       split
       · rfl
       · simp only [Array.size_modify]
         rfl
      have hne:∀k,k≠g→(w.drew.freeze ⟨g,0,none⟩ l.length).heap[k]?=w.heap[k]?:=fun k hk=>by
       unfold World.freeze
       split
       · rfl
       · simp only [Array.getElem?_modify]
         rw [if_neg (fun hh=>hk hh.symm)]
         rfl
      refine ⟨_,_,rfl,(zez.cmp _ _).2 hK,?_,?_,?_⟩
      · intro k cb hk
        by_cases hkg:k=g
        · simp [hkg] at hk
        · simp only [if_neg hkg] at hk
          rw [hne k hkg]; exact hs k cb hk
      · refine ⟨Nat.le_of_eq hsz.symm,fun k hk1 hk2=>?_,?_,?_,?_,?_⟩
        · exact hne k fun hh=>by rw [hh,hg] at hk2; cases hk2
        · unfold World.freeze; split<;>rfl
        · unfold World.freeze; split<;>rfl
        · unfold World.freeze; split<;>rfl
        · unfold World.freeze; split<;>exact Nat.le_succ _
      · intro k hk1 hk2
        by_cases hkg:k=g
        · simp [hkg] at hk1
        · simp only [if_neg hkg] at hk1; exact absurd hk2 hk1)
noncomputable def e_x86:FSem:=mkM (ArgT.cons (Ty.leaf .ptr) (ArgT.cons (Ty.leaf (.int .u8)) ArgT.nil)) (Ty.leaf .val) fun a=>F.zh0 a.1 a.2.1
theorem t_x86:Entry prog 276 e_x86 true:=eoM { P:=prog,n:=17,tab:=[(292,zea)],mutL:=[292],locL:=[13],tyL:=[5] } (.seq .leaf (.seq .leaf (.seq .leaf (.seq .leaf .leaf)))) func276 ⟨zg1,trivial⟩
noncomputable def e_x87:FSem:=mkE (ArgT.cons tyTInt ArgT.nil) (Ty.leaf .str) fun a=>F.zhr a.1
theorem t_x87:Entry prog 262 e_x87 false:=eo { P:=prog,n:=74,tab:=[(212,e_x5),(215,e_x7),(246,e_x9),(277,e_x79),(278,e_x80),(263,e_x85),(279,zh4),(276,e_x86)],mutL:=[278,279,276],rtL:=[(11,1),(51,1)],locL:=[1,4,49],backs:=[(257,(.leaf (.int .u32)))],tyL:=[239] } (.seq .leaf (.seq .leaf (.seq (.seq .leaf (.cond (.seq .leaf .leaf) .leaf)) (.seq .leaf (.seq (.block (.loop [(3,.leaf (.sl)),(4,.box [.sl])] (.seq (.seq .leaf (.cond .leaf .leaf)) (.block (.seq .leaf (.seq (.seq .leaf (.block (.loop [(5,.leaf (.int .u64)),(6,.leaf (.int .i64))] (.seq (.seq .leaf (.cond .leaf .leaf)) (.seq (.block (.seq .leaf (.seq .leaf .leaf))) .leaf))))) (.seq .leaf .leaf))))))) (.seq .leaf (.join [] (.seq .leaf (.cond .leaf .leaf)) (.seq (.seq .leaf (.block (.back [] (.seq .leaf .leaf) (.block (.seq .leaf (.join [] (.seq .leaf (.cond .leaf .leaf)) .leaf)))))) (.seq .leaf .leaf))))))))) func262 ⟨t_x5,t_x7,t_x9,t_x79,t_x80,t_x85,zma,t_x86,trivial⟩ ⟨za1k,trivial⟩
noncomputable def e_x88:FSem:=mkE (ArgT.cons tyTRat ArgT.nil) (Ty.tup (.cons (Ty.leaf .str) (.cons (Ty.leaf .bool) .nil)) (fun x=>(x.1,x.2,())) (fun y=>(y.1,y.2.1)) (fun _=>rfl) (fun _=>rfl)) fun a=>F.zgt a.1
theorem t_x88:Entry prog 247 e_x88 false:=eo { P:=prog,n:=65,tab:=[(258,e_x61),(259,e_x59),(260,e_x62),(261,e_x71),(262,e_x87),(263,e_x85),(116,e_x27),(120,e_x34)],rtL:=[(23,1),(31,1)],locL:=[1,4,5] } (.seq .leaf (.join [] (.seq .leaf (.cond (.seq .leaf .leaf) .leaf)) (.seq .leaf (.seq .leaf (.seq (.seq .leaf (.block (.loop [(1,.box [.bool,.sl,.bool,.sl]),(6,.leaf (.int .i64))] (.seq (.seq .leaf (.cond .leaf .leaf)) (.seq (.block (.seq (.seq .leaf (.cond (.seq .leaf .leaf) .leaf)) (.seq .leaf (.join [(7,.leaf (.str))] (.seq .leaf (.cond (.join [(7,.leaf (.str))] (.seq .leaf (.seq .leaf (.cond .leaf .leaf))) (.draw [0,1,2,3,4,5,6,7,8,9,10,11,12,13,14])) .leaf)) (.seq .leaf .leaf))))) .leaf))))) (.seq .leaf .leaf)))))) func247 ⟨t_x61,t_x59,t_x62,t_x71,t_x87,t_x85,t_x27,t_x34,trivial⟩
noncomputable def e_x89:FSem:=mkE (ArgT.cons (Ty.leaf (.int .u8)) ArgT.nil) (Ty.leaf .bool) fun a=>F.zft a.1
theorem t_x89:Entry prog 264 e_x89 false:=eo { P:=prog,n:=17,tab:=[] } (.seq .leaf (.seq .leaf .leaf)) func264 trivial
noncomputable def e_x90:FSem:=mkE (ArgT.cons (Ty.leaf (.int .u8)) ArgT.nil) (Ty.leaf .bool) fun a=>F.zgk a.1
theorem t_x90:Entry prog 284 e_x90 false:=eo { P:=prog,n:=9,tab:=[] } (.seq .leaf (.seq .leaf .leaf)) func284 trivial
noncomputable def e_x91:FSem:=mkE (ArgT.cons (Ty.leaf (.int .u8)) ArgT.nil) (Ty.leaf .bool) fun a=>F.zj2 a.1
theorem t_x91:Entry prog 266 e_x91 false:=eo { P:=prog,n:=13,tab:=[(264,e_x89),(284,e_x90)] } (.seq .leaf (.seq .leaf .leaf)) func266 ⟨t_x89,t_x90,trivial⟩
noncomputable def e_x92:FSem:=mkE (ArgT.cons (Ty.leaf .str) (ArgT.fn 266 ArgT.nil)) (Ty.leaf (.int .i64)) fun a=>F.zdn a.1
theorem t_x92:Entry prog 265 e_x92 false:=eo { P:=prog,n:=20,tab:=[(266,e_x91)] } (.seq .leaf (.seq .leaf (.seq (.block (.loop [(5,.leaf (.int .i64))] (.join [] (.seq .leaf (.cond .leaf .leaf)) (.block .leaf)))) (.seq .leaf .leaf)))) func265 ⟨t_x91,trivial⟩
noncomputable def e_x93:FSem:=mkE (ArgT.cons (Ty.leaf .str) ArgT.nil) (Ty.leaf .bool) fun a=>F.zfs a.1
theorem t_x93:Entry prog 248 e_x93 false:=eo { P:=prog,n:=22,tab:=[(264,e_x89),(265,e_x92)] } (.seq .leaf (.seq .leaf .leaf)) func248 ⟨t_x89,t_x92,trivial⟩
noncomputable def e_x94:FSem:=mkE (ArgT.cons tyTRat ArgT.nil) (Ty.leaf .bool) fun a=>F.zh5 a.1
theorem t_x94:Entry prog 249 e_x94 false:=eo { P:=prog,n:=27,tab:=[],rtL:=[(3,1),(4,1),(9,1),(10,1),(16,1),(17,1),(22,1),(23,1)],locL:=[1] } (.seq .leaf (.seq .leaf .leaf)) func249 trivial
noncomputable def A_x98:ArgT (TExpr×Unit):=(ArgT.cons tyTExpr ArgT.nil)
noncomputable def R_x98:Ty Bool:=(Ty.leaf .bool)
noncomputable def A_x95:ArgT (TExpr×Unit):=(ArgT.cons tyTExpr ArgT.nil)
noncomputable def R_x95:Ty Bool:=(Ty.leaf .bool)
noncomputable def e_x95 (Q_formula_formed:TExpr→(Bool→Hp→Prop)→Hp→Prop):FSem:=mkE A_x95 R_x95 fun a=>F.zg7 Q_formula_formed a.1
theorem t_x95 (Q_formula_formed:TExpr→(Bool→Hp→Prop)→Hp→Prop) (h_formula_formed:Entry prog 224 (mkE A_x98 R_x98 (fun a=>Q_formula_formed a.1)) false):Entry prog 250 (e_x95 Q_formula_formed) false:=eo { P:=prog,n:=6,tab:=[(224,mkE A_x98 R_x98 (fun a=>Q_formula_formed a.1))],locL:=[1] } (.seq .leaf (.seq .leaf .leaf)) func250 ⟨h_formula_formed,trivial⟩
noncomputable def A_x96:ArgT (Sl×Unit):=(ArgT.cons (Ty.leaf .sl) (ArgT.fn 250 ArgT.nil))
noncomputable def R_x96:Ty Int:=(Ty.leaf (.int .i64))
noncomputable def e_x96 (Q_formula_formed:TExpr→(Bool→Hp→Prop)→Hp→Prop):FSem:=mkE A_x96 R_x96 fun a=>F.zbs Q_formula_formed a.1
theorem t_x96 (Q_formula_formed:TExpr→(Bool→Hp→Prop)→Hp→Prop) (h_formula_formed:Entry prog 224 (mkE A_x98 R_x98 (fun a=>Q_formula_formed a.1)) false):Entry prog 223 (e_x96 Q_formula_formed) false:=eo { P:=prog,n:=19,tab:=[(250,(e_x95 Q_formula_formed))] } (.seq .leaf (.seq (.seq .leaf (.block (.loop [(8,.leaf (.int .i64))] (.seq .leaf (.seq (.cond .leaf .leaf) (.seq (.block (.seq .leaf (.seq .leaf (.cond (.seq .leaf .leaf) .leaf)))) .leaf)))))) (.seq .leaf .leaf))) func223 ⟨(t_x95 Q_formula_formed h_formula_formed),trivial⟩
noncomputable def A_x97:ArgT (Sl×Unit):=(ArgT.cons (Ty.leaf .sl) (ArgT.fn 250 ArgT.nil))
noncomputable def R_x97:Ty Bool:=(Ty.leaf .bool)
noncomputable def e_x97 (Q_formula_formed:TExpr→(Bool→Hp→Prop)→Hp→Prop):FSem:=mkE A_x97 R_x97 fun a=>F.zbh Q_formula_formed a.1
theorem t_x97 (Q_formula_formed:TExpr→(Bool→Hp→Prop)→Hp→Prop) (h_formula_formed:Entry prog 224 (mkE A_x98 R_x98 (fun a=>Q_formula_formed a.1)) false):Entry prog 187 (e_x97 Q_formula_formed) false:=eo { P:=prog,n:=9,tab:=[(223,(e_x96 Q_formula_formed))] } (.seq .leaf (.seq .leaf .leaf)) func187 ⟨(t_x96 Q_formula_formed h_formula_formed),trivial⟩
noncomputable def e_x98:FSem:=mkE A_x98 R_x98 fun a=>F.zhp a.1
noncomputable def c_x98 (n:Nat):Cfg:={ P:=prog,n:=68,tab:=[(247,e_x88),(248,e_x93),(249,e_x94),(187,(e_x97 (F.zcm n)))],rtL:=[(5,1),(9,1),(14,1),(17,1),(23,1),(28,1),(35,1),(39,1),(46,1),(50,1),(54,1),(58,1),(63,1)],locL:=[1] }
theorem u_x98:∃fn,prog.funcs[224]?=some fn∧fn.body.isNone=false∧(fn.name == "runtime.NumGoroutine")=false:=⟨_,func224,rfl,by decide⟩
theorem v_x98:∀n a K D w,Sub D w→F.zcm n a.1 K D→Calls prog 224 (A_x98.up a).toArray w (Post (fun v h=>R_x98.dn v fun r=>K r h) D w)
 | 0,_,_,_,_,_,h=>h.elim
 | n+1,a,K,D,w,hs,h=>zim (C:=c_x98 n) (F:=fun a=>F.zcm (n+1) a.1) (fn:=f224) (c:=bd f224) (an:=(.seq .leaf (.join [] (.seq (.draw [0,1,2,3,4,5,6,7,8,9,10,11,12,13,14,15,16,17]) (.cond (.seq .leaf .leaf) .leaf)) (.seq (.seq .leaf (.block (.seq .leaf (.cond (.seq .leaf (.seq .leaf .leaf)) (.seq .leaf (.cond (.seq .leaf .leaf) .leaf)))))) (.seq .leaf .leaf))))) ⟨t_x88,t_x93,t_x94,(t_x97 (F.zcm n) (zd4 u_x98 (v_x98 n))),trivial⟩ trivial func224 rfl rfl (fun _=>rfl) (by intro a K D; kernel_rfl) a K D w hs h
theorem t_x98:Entry prog 224 e_x98 false:=zd4 u_x98 (fun a K D w hs h=>h.elim fun m h=>v_x98 m a K D w hs h)
noncomputable def A_x99:ArgT (TExpr×Unit):=(ArgT.cons tyTExpr ArgT.nil)
noncomputable def R_x99:Ty Int:=(Ty.leaf (.int .i64))
noncomputable def e_x99:FSem:=mkE A_x99 R_x99 fun a=>F.zi8 a.1
noncomputable def c_x99 (n:Nat):Cfg:={ P:=prog,n:=20,tab:=[(225,mkE A_x99 R_x99 (fun a=>F.zdt n a.1))],rtL:=[(6,1)],locL:=[1,5] }
theorem u_x99:∃fn,prog.funcs[225]?=some fn∧fn.body.isNone=false∧(fn.name == "runtime.NumGoroutine")=false:=⟨_,func225,rfl,by decide⟩
theorem v_x99:∀n a K D w,Sub D w→F.zdt n a.1 K D→Calls prog 225 (A_x99.up a).toArray w (Post (fun v h=>R_x99.dn v fun r=>K r h) D w)
 | 0,_,_,_,_,_,h=>h.elim
 | n+1,a,K,D,w,hs,h=>zim (C:=c_x99 n) (F:=fun a=>F.zdt (n+1) a.1) (fn:=f225) (c:=bd f225) (an:=(.seq .leaf (.seq .leaf (.seq (.seq .leaf (.block (.loop [(3,.leaf (.int .i64)),(9,.leaf (.int .i64))] (.seq .leaf (.seq (.cond .leaf .leaf) (.seq (.block (.seq .leaf .leaf)) .leaf)))))) (.seq .leaf .leaf))))) ⟨(zd4 u_x99 (v_x99 n)),trivial⟩ trivial func225 rfl rfl (fun _=>rfl) (by intro a K D; kernel_rfl) a K D w hs h
theorem t_x99:Entry prog 225 e_x99 false:=zd4 u_x99 (fun a K D w hs h=>h.elim fun m h=>v_x99 m a K D w hs h)
noncomputable def za20:FSem:=mkE (ArgT.cons tyTExpr ArgT.nil) (Ty.leaf (.int .i64)) fun a=>F.zi9 a.1
theorem zabt:Entry prog 189 za20 false:=eo { P:=prog,n:=11,tab:=[(224,e_x98),(225,e_x99)],locL:=[1] } (.seq .leaf (.seq (.block (.seq .leaf (.cond (.seq .leaf .leaf) (.seq .leaf (.cond (.seq .leaf .leaf) .leaf))))) (.seq .leaf .leaf))) func189 ⟨t_x98,t_x99,trivial⟩
noncomputable def za21:FSem:=mkE (ArgT.cons tyTExpr ArgT.nil) (Ty.leaf .bool) fun a=>F.zf8 a.1
theorem zabu:Entry prog 188 za21 false:=eo { P:=prog,n:=6,tab:=[(189,za20)],locL:=[1] } (.seq .leaf (.seq .leaf .leaf)) func188 ⟨zabt,trivial⟩
noncomputable def za22:FSem:=mkE (ArgT.cons (Ty.leaf .sl) (ArgT.fn 188 ArgT.nil)) (Ty.leaf (.int .i64)) fun a=>F.zbm a.1
theorem zabv:Entry prog 223 za22 false:=eo { P:=prog,n:=19,tab:=[(188,za21)] } (.seq .leaf (.seq (.seq .leaf (.block (.loop [(8,.leaf (.int .i64))] (.seq .leaf (.seq (.cond .leaf .leaf) (.seq (.block (.seq .leaf (.seq .leaf (.cond (.seq .leaf .leaf) .leaf)))) .leaf)))))) (.seq .leaf .leaf))) func223 ⟨zabu,trivial⟩
noncomputable def za23:FSem:=mkE (ArgT.cons (Ty.leaf .sl) (ArgT.fn 188 ArgT.nil)) (Ty.leaf .bool) fun a=>F.zax a.1
theorem zabw:Entry prog 187 za23 false:=eo { P:=prog,n:=9,tab:=[(223,za22)] } (.seq .leaf (.seq .leaf .leaf)) func187 ⟨zabv,trivial⟩
noncomputable def za24:FSem:=mkE (ArgT.cons (Ty.leaf .sl) ArgT.nil) (Ty.leaf .bool) fun a=>F.zg5 a.1
theorem zabx:Entry prog 190 za24 false:=eo { P:=prog,n:=49,tab:=[] } (.seq .leaf (.seq (.draw [0,1,2,3,4,5,6,7,8,9,10,11,12,13,14,15]) (.seq .leaf .leaf))) func190 trivial
noncomputable def zv4:FSem:=mkE (ArgT.cons (Ty.leaf .sl) (ArgT.cons (Ty.leaf (.int .i64)) ArgT.nil)) (Ty.leaf (.int .i64)) fun a=>F.zdi a.1 a.2.1
theorem za66:Entry prog 162 zv4 false:=eo { P:=prog,n:=19,tab:=[] } (.seq .leaf (.seq (.seq .leaf (.block (.loop [(8,.leaf (.int .i64))] (.seq .leaf (.seq (.cond .leaf .leaf) (.seq (.block (.seq .leaf (.seq .leaf (.cond (.seq .leaf .leaf) .leaf)))) .leaf)))))) (.seq .leaf .leaf))) func162 trivial
noncomputable def zkn:FSem:=mkE (ArgT.cons (Ty.leaf .sl) (ArgT.cons (Ty.leaf (.int .i64)) ArgT.nil)) (Ty.leaf .bool) fun a=>F.zb4 a.1 a.2.1
theorem zmb:Entry prog 98 zkn false:=eo { P:=prog,n:=9,tab:=[(162,zv4)] } (.seq .leaf (.seq .leaf .leaf)) func98 ⟨za66,trivial⟩
noncomputable def za25:FSem:=mkE (ArgT.cons (Ty.leaf .sl) ArgT.nil) (Ty.leaf .bool) fun a=>F.zd9 a.1
theorem zaby:Entry prog 191 za25 false:=eo { P:=prog,n:=18,tab:=[(98,zkn)] } (.seq .leaf (.seq (.seq .leaf (.block (.loop [(7,.leaf (.int .i64))] (.seq .leaf (.seq (.cond .leaf .leaf) (.seq (.block (.seq .leaf (.seq .leaf (.cond (.seq .leaf .leaf) .leaf)))) .leaf)))))) (.seq .leaf .leaf))) func191 ⟨zmb,trivial⟩
noncomputable def za26:FSem:=mkE (ArgT.cons (Ty.leaf (.int .i64)) (ArgT.cons (Ty.leaf .ptr) ArgT.nil)) (Ty.leaf .bool) fun a=>F.zgs a.1 a.2.1
theorem zabz:Entry prog 222 za26 false:=eo { P:=prog,n:=11,tab:=[] } (.seq .leaf (.seq .leaf .leaf)) func222 trivial
noncomputable def za27:FSem:=mkE (ArgT.cons (Ty.leaf .sl) (ArgT.fnc 222 1 ArgT.nil)) (Ty.leaf (.int .i64)) fun a=>F.zc9 a.1 a.2.1
theorem zac0:Entry prog 135 za27 false:=eo { P:=prog,n:=19,tab:=[(222,za26)] } (.seq .leaf (.seq (.seq .leaf (.block (.loop [(8,.leaf (.int .i64))] (.seq .leaf (.seq (.cond .leaf .leaf) (.seq (.block (.seq .leaf (.seq .leaf (.cond (.seq .leaf .leaf) .leaf)))) .leaf)))))) (.seq .leaf .leaf))) func135 ⟨zabz,trivial⟩
noncomputable def za28:FSem:=mkE (ArgT.cons (Ty.leaf .sl) (ArgT.fnc 222 1 ArgT.nil)) (Ty.leaf .bool) fun a=>F.zc0 a.1 a.2.1
theorem zac1:Entry prog 102 za28 false:=eo { P:=prog,n:=9,tab:=[(135,za27)] } (.seq .leaf (.seq .leaf .leaf)) func102 ⟨zac0,trivial⟩
noncomputable def za29:FSem:=mkE (ArgT.cons (Ty.leaf .sl) (ArgT.cons (Ty.leaf (.int .i64)) (ArgT.cons (Ty.leaf (.int .i64)) ArgT.nil))) (Ty.leaf .bool) fun a=>F.zes a.1 a.2.1 a.2.2.1
theorem zac2:Entry prog 186 za29 false:=eo { P:=prog,n:=17,tab:=[(102,za28)] } (.seq .leaf (.seq .leaf .leaf)) func186 ⟨zac1,trivial⟩
noncomputable def za2a:FSem:=mkE (ArgT.cons tyTConstraint (ArgT.cons (Ty.leaf (.int .i64)) (ArgT.cons (Ty.leaf (.int .i64)) ArgT.nil))) (Ty.leaf .bool) fun a=>F.zg4 a.1 a.2.1 a.2.2.1
theorem zac3:Entry prog 131 za2a false:=eo { P:=prog,n:=86,tab:=[(109,e_x58),(187,za23),(190,za24),(191,za25),(186,za29)],rtL:=[(10,3),(18,3),(20,7),(27,3),(29,7),(36,3),(39,7),(43,3),(46,7),(49,3),(54,3),(59,7),(63,3),(68,3),(75,3),(78,3),(82,3)],locL:=[3,7] } (.seq .leaf (.seq .leaf (.join [] (.seq .leaf (.cond (.seq .leaf .leaf) .leaf)) (.seq (.seq .leaf (.cond (.seq .leaf .leaf) .leaf)) (.join [] (.seq .leaf (.cond (.seq .leaf .leaf) .leaf)) (.seq (.seq .leaf (.block (.join [(70,.leaf (.bool))] (.seq .leaf (.cond .leaf (.seq .leaf (.cond .leaf (.seq .leaf (.cond .leaf .leaf)))))) (.cond (.seq .leaf .leaf) .leaf)))) (.seq .leaf .leaf))))))) func131 ⟨t_x58,zabw,zabx,zaby,zac2,trivial⟩
noncomputable def za2b:FSem:=mkE (ArgT.cons tyTConstraint (ArgT.cons (Ty.leaf .ptr) (ArgT.cons (Ty.leaf .ptr) ArgT.nil))) (Ty.leaf .bool) fun a=>F.zjy a.1 a.2.1 a.2.2.1
theorem zac4:Entry prog 130 za2b false:=eo { P:=prog,n:=9,tab:=[(131,za2a)],locL:=[3] } (.seq .leaf (.seq .leaf .leaf)) func130 ⟨zac3,trivial⟩
noncomputable def za2c:FSem:=mkE (ArgT.cons tyTConstraint (ArgT.cons (Ty.leaf .ptr) ArgT.nil)) (Ty.leaf .bool) fun a=>F.zcd a.1 a.2.1
theorem zac5:Entry prog 185 za2c false:=eo { P:=prog,n:=8,tab:=[(130,za2b)],locL:=[2],fnL:=[(4,130,2)] } (.seq .leaf (.seq .leaf .leaf)) func185 ⟨zac4,trivial⟩
noncomputable def za2d:FSem:=mkE (ArgT.cons (Ty.leaf .sl) (ArgT.fnc 185 1 ArgT.nil)) (Ty.leaf (.int .i64)) fun a=>F.zah a.1 a.2.1
theorem zac6:Entry prog 221 za2d false:=eo { P:=prog,n:=19,tab:=[(185,za2c)] } (.seq .leaf (.seq (.seq .leaf (.block (.loop [(8,.leaf (.int .i64))] (.seq .leaf (.seq (.cond .leaf .leaf) (.seq (.block (.seq .leaf (.seq .leaf (.cond (.seq .leaf .leaf) .leaf)))) .leaf)))))) (.seq .leaf .leaf))) func221 ⟨zac5,trivial⟩
noncomputable def za2e:FSem:=mkE (ArgT.cons (Ty.leaf .sl) (ArgT.fnc 185 1 ArgT.nil)) (Ty.leaf .bool) fun a=>F.zag a.1 a.2.1
theorem zac7:Entry prog 184 za2e false:=eo { P:=prog,n:=9,tab:=[(221,za2d)] } (.seq .leaf (.seq .leaf .leaf)) func184 ⟨zac6,trivial⟩
noncomputable def za2f:FSem:=mkE (ArgT.cons (Ty.leaf .sl) (ArgT.fnc 130 2 ArgT.nil)) (Ty.leaf .bool) fun a=>F.zbv a.1 a.2.1
theorem zac8:Entry prog 129 za2f false:=eo { P:=prog,n:=9,tab:=[(184,za2e)] } (.seq .leaf (.seq .leaf .leaf)) func129 ⟨zac7,trivial⟩
end
end Den
end

section
set_option maxRecDepth 100000
namespace Den
open Go Go.Proofs.Tryz
noncomputable section
noncomputable def zrg:FSem:=mkE (ArgT.cons tyTSketch ArgT.nil) (Ty.leaf (.int .i64)) fun a=>F.zf5 a.1
theorem zx5:Entry prog 56 zrg false:=eo { P:=prog,n:=49,tab:=[(113,e_x3),(114,e_x32),(117,e_x39),(121,e_x44),(123,e_x50),(126,e_x57),(129,za2f)],locL:=[3,4] } (.seq .leaf (.seq (.seq .leaf (.cond (.seq .leaf .leaf) .leaf)) (.seq (.drawP [0,1,2,3,4,5,6,7,8,9] [3,4]) (.join [(5,.leaf (.bool))] .leaf (.seq (.seq .leaf (.cond (.seq .leaf .leaf) .leaf)) (.seq .leaf .leaf)))))) func56 ⟨t_x3,t_x32,t_x39,t_x44,t_x50,t_x57,zac8,trivial⟩
noncomputable def za2g:FSem:=mkE (ArgT.cons (Ty.leaf .sl) (ArgT.cons (Ty.leaf .sl) ArgT.nil)) (Ty.leaf .bool) fun a=>F.zdh a.1 a.2.1
theorem zac9:Entry prog 95 za2g false:=eo { P:=prog,n:=26,tab:=[] } (.seq .leaf (.seq (.seq .leaf (.cond (.seq .leaf .leaf) .leaf)) (.seq (.seq .leaf (.block (.loop [(13,.leaf (.int .i64))] (.seq .leaf (.seq (.cond .leaf .leaf) (.seq (.block (.seq .leaf (.seq (.draw [0,1,2,3,4,5,6,7,8]) (.cond (.seq .leaf .leaf) .leaf)))) .leaf)))))) (.seq .leaf .leaf)))) func95 trivial
noncomputable def za2h:FSem:=mkE (ArgT.cons (Ty.leaf .sl) (ArgT.cons (Ty.leaf .sl) ArgT.nil)) (Ty.leaf .bool) fun a=>F.zgl a.1 a.2.1
theorem zaca:Entry prog 267 za2h false:=eo { P:=prog,n:=26,tab:=[] } (.seq .leaf (.seq (.seq .leaf (.cond (.seq .leaf .leaf) .leaf)) (.seq (.seq .leaf (.block (.loop [(13,.leaf (.int .i64))] (.seq .leaf (.seq (.cond .leaf .leaf) (.seq (.block (.seq .leaf (.seq (.draw [0,1,2,3,4,5,6,7,8]) (.cond (.seq .leaf .leaf) .leaf)))) .leaf)))))) (.seq .leaf .leaf)))) func267 trivial
noncomputable def za2i:FSem:=mkE (ArgT.cons tyTInt (ArgT.cons tyTInt ArgT.nil)) (Ty.leaf .bool) fun a=>F.zii a.1 a.2.1
theorem zacb:Entry prog 251 za2i false:=eo { P:=prog,n:=17,tab:=[(267,za2h)],rtL:=[(5,2),(7,3),(11,2),(13,3)],locL:=[2,3] } (.seq .leaf (.seq .leaf .leaf)) func251 ⟨zaca,trivial⟩
noncomputable def zr3:ArgT (Sl×Sl×Unit):=(ArgT.cons (Ty.leaf .sl) (ArgT.cons (Ty.leaf .sl) (ArgT.fn 227 ArgT.nil)))
noncomputable def zr6:Ty Bool:=(Ty.leaf .bool)
noncomputable def zaaf:ArgT (TExpr×TExpr×Unit):=(ArgT.cons tyTExpr (ArgT.cons tyTExpr ArgT.nil))
noncomputable def zaah:Ty Bool:=(Ty.leaf .bool)
noncomputable def za2j (Q_slices_EqualFunc_api_Expr_api_Expr_api_Expr_api_Expr_formula_Equal:Sl→Sl→(Bool→Hp→Prop)→Hp→Prop):FSem:=mkE zaaf zaah fun a=>F.zoh Q_slices_EqualFunc_api_Expr_api_Expr_api_Expr_api_Expr_formula_Equal a.1 a.2.1
theorem zacc (Q_slices_EqualFunc_api_Expr_api_Expr_api_Expr_api_Expr_formula_Equal:Sl→Sl→(Bool→Hp→Prop)→Hp→Prop) (h_slices_EqualFunc_api_Expr_api_Expr_api_Expr_api_Expr_formula_Equal:Entry prog 226 (mkE zr3 zr6 (fun a=>Q_slices_EqualFunc_api_Expr_api_Expr_api_Expr_api_Expr_formula_Equal a.1 a.2.1)) false):Entry prog 227 (za2j Q_slices_EqualFunc_api_Expr_api_Expr_api_Expr_api_Expr_formula_Equal) false:=eo { P:=prog,n:=42,tab:=[(251,za2i),(226,mkE zr3 zr6 (fun a=>Q_slices_EqualFunc_api_Expr_api_Expr_api_Expr_api_Expr_formula_Equal a.1 a.2.1))],rtL:=[(5,2),(7,3),(11,2),(13,3),(18,2),(19,2),(21,3),(22,3),(27,2),(28,2),(30,3),(31,3),(36,2),(38,3)],locL:=[2,3] } (.seq .leaf (.seq .leaf .leaf)) func227 ⟨zacb,h_slices_EqualFunc_api_Expr_api_Expr_api_Expr_api_Expr_formula_Equal,trivial⟩
noncomputable def za2k:FSem:=mkE zr3 zr6 fun a=>F.zb0 a.1 a.2.1
noncomputable def zaal (n:Nat):Cfg:={ P:=prog,n:=32,tab:=[(227,(za2j (F.za8 n)))],locL:=[8,9] }
theorem za6p:∃fn,prog.funcs[226]?=some fn∧fn.body.isNone=false∧(fn.name == "runtime.NumGoroutine")=false:=⟨_,func226,rfl,by decide⟩
theorem za6v:∀n a K D w,Sub D w→F.za8 n a.1 a.2.1 K D→Calls prog 226 (zr3.up a).toArray w (Post (fun v h=>zr6.dn v fun r=>K r h) D w)
 | 0,_,_,_,_,_,h=>h.elim
 | n+1,a,K,D,w,hs,h=>zim (C:=zaal n) (F:=fun a=>F.za8 (n+1) a.1 a.2.1) (fn:=f226) (c:=bd f226) (an:=(.seq .leaf (.seq (.seq .leaf (.cond (.seq .leaf .leaf) .leaf)) (.seq (.seq .leaf (.block (.loop [(17,.leaf (.int .i64))] (.seq .leaf (.seq (.cond .leaf .leaf) (.seq (.block (.seq .leaf (.seq .leaf (.seq .leaf (.cond (.seq .leaf .leaf) .leaf))))) .leaf)))))) (.seq .leaf .leaf))))) ⟨(zacc (F.za8 n) (zd4 za6p (za6v n))),trivial⟩ trivial func226 rfl rfl (fun _=>rfl) (by intro a K D; kernel_rfl) a K D w hs h
theorem zacd:Entry prog 226 za2k false:=zd4 za6p (fun a K D w hs h=>h.elim fun m h=>za6v m a K D w hs h)
noncomputable def za2l:FSem:=mkE (ArgT.cons tyTConstraint (ArgT.cons tyTConstraint ArgT.nil)) (Ty.leaf .bool) fun a=>F.zg3 a.1 a.2.1
theorem zace:Entry prog 194 za2l false:=eo { P:=prog,n:=38,tab:=[(95,za2g),(226,za2k)],rtL:=[(5,2),(7,3),(11,2),(13,3),(18,2),(20,3),(25,2),(27,3),(32,2),(34,3)],locL:=[2,3] } (.seq .leaf (.seq .leaf .leaf)) func194 ⟨zac9,zacd,trivial⟩
noncomputable def za2m:FSem:=mkE (ArgT.cons tyTConstraint (ArgT.cons (Ty.leaf .ptr) ArgT.nil)) (Ty.leaf .bool) fun a=>F.zgc a.1 a.2.1
theorem zacf:Entry prog 193 za2m false:=eo { P:=prog,n:=7,tab:=[(194,za2l)],locL:=[2] } (.seq .leaf (.seq .leaf .leaf)) func193 ⟨zace,trivial⟩
noncomputable def za2n:FSem:=mkE (ArgT.cons (Ty.leaf .sl) (ArgT.fnc 193 1 ArgT.nil)) (Ty.leaf (.int .i64)) fun a=>F.zb5 a.1 a.2.1
theorem zacg:Entry prog 221 za2n false:=eo { P:=prog,n:=19,tab:=[(193,za2m)] } (.seq .leaf (.seq (.seq .leaf (.block (.loop [(8,.leaf (.int .i64))] (.seq .leaf (.seq (.cond .leaf .leaf) (.seq (.block (.seq .leaf (.seq .leaf (.cond (.seq .leaf .leaf) .leaf)))) .leaf)))))) (.seq .leaf .leaf))) func221 ⟨zacf,trivial⟩
noncomputable def za2o:FSem:=mkE (ArgT.cons (Ty.leaf .sl) (ArgT.fnc 193 1 ArgT.nil)) (Ty.leaf .bool) fun a=>F.za9 a.1 a.2.1
theorem zach:Entry prog 184 za2o false:=eo { P:=prog,n:=9,tab:=[(221,za2n)] } (.seq .leaf (.seq .leaf .leaf)) func184 ⟨zacg,trivial⟩
noncomputable def zv5:FSem:=mkE (ArgT.cons tyTSketch ArgT.nil) (Ty.leaf .sl) fun a=>F.zfx a.1
theorem za67:Entry prog 133 zv5 false:=eo { P:=prog,n:=52,tab:=[(184,za2o)],rtL:=[(10,1),(17,5),(19,5),(29,5),(34,1)],locL:=[1,5,47] } (.seq .leaf (.seq .leaf (.seq (.seq .leaf (.block (.loop [(3,.leaf (.sl)),(13,.leaf (.int .i64))] (.seq .leaf (.seq (.cond .leaf .leaf) (.seq (.block (.seq .leaf (.seq .leaf (.block (.loop [(3,.leaf (.sl)),(23,.leaf (.int .i64))] (.seq .leaf (.seq (.cond .leaf .leaf) (.join [(3,.leaf (.sl))] (.block (.seq .leaf (.seq .leaf (.seq .leaf (.seq .leaf (.cond .leaf .leaf)))))) .leaf)))))))) .leaf)))))) (.seq .leaf .leaf)))) func133 ⟨zach,trivial⟩
noncomputable def za2p:FSem:=mkE (ArgT.cons (Ty.leaf .sl) (ArgT.cons (Ty.leaf (.int .i64)) ArgT.nil)) (Ty.leaf .sl) fun a=>F.zbp a.1 a.2.1
theorem zaci:Entry prog 192 za2p false:=eo { P:=prog,n:=27,tab:=[] } (.seq .leaf (.join [] (.seq .leaf (.cond .leaf .leaf)) (.seq (.seq .leaf (.seq .leaf (.cond .leaf .leaf))) (.seq .leaf .leaf)))) func192 trivial
noncomputable def za2q:FSem:=mkE (ArgT.cons (Ty.leaf .sl) ArgT.nil) (Ty.leaf .sl) fun a=>F.zbl a.1
theorem zacj:Entry prog 132 za2q false:=eo { P:=prog,n:=36,tab:=[(192,za2p)] } (.seq .leaf (.seq .leaf (.seq (.seq .leaf (.block (.loop [(3,.leaf (.int .i64)),(11,.leaf (.int .i64))] (.seq .leaf (.seq (.cond .leaf .leaf) (.join [(3,.leaf (.int .i64))] (.block (.seq .leaf (.seq .leaf (.seq .leaf (.cond .leaf .leaf))))) .leaf)))))) (.seq .leaf (.seq (.seq .leaf (.block (.loop [(6,.leaf (.sl)),(27,.leaf (.int .i64))] (.seq .leaf (.seq (.cond .leaf .leaf) (.seq (.block (.seq .leaf .leaf)) .leaf)))))) (.seq .leaf .leaf)))))) func132 ⟨zaci,trivial⟩
noncomputable def zv6:FSem:=mkE (ArgT.cons (Ty.leaf .sl) ArgT.nil) (Ty.leaf .sl) fun a=>F.zdg a.1
theorem za68:Entry prog 134 zv6 false:=eo { P:=prog,n:=8,tab:=[] } (.seq .leaf (.seq (.seq .leaf (.cond (.seq .leaf .leaf) .leaf)) (.seq .leaf .leaf))) func134 trivial
noncomputable def za2r:FSem:=mkE (ArgT.cons tyTSketch ArgT.nil) (Ty.leaf .ptr) fun a=>F.zfp a.1
theorem zack:Entry prog 57 za2r false:=eo { P:=prog,n:=99,tab:=[(133,zv5),(132,za2q),(134,zv6)],rtL:=[(12,1),(20,1),(32,5),(48,7),(51,7),(63,7),(67,7),(72,7)],locL:=[1,5,7,34,61,84,93] } (.seq .leaf (.seq (.draw [0,1,2,3,4,5,6,7,8,9]) (.seq (.seq .leaf (.block (.loop [(23,.leaf (.int .i64))] (.seq .leaf (.seq (.cond .leaf .leaf) (.seq (.block (.seq .leaf (.draw [0,1,2,3,4,5,6,7,8,9,10,11]))) .leaf)))))) (.seq (.seq .leaf (.block (.loop [(44,.leaf (.int .i64))] (.seq .leaf (.seq (.cond .leaf .leaf) (.seq (.block (.seq .leaf (.seq .leaf (.seq (.seq .leaf (.block (.loop [(8,.leaf (.sl)),(54,.leaf (.int .i64))] (.seq .leaf (.seq (.cond .leaf .leaf) (.join [(8,.leaf (.sl))] (.block (.seq .leaf (.seq .leaf (.seq .leaf (.cond .leaf .leaf))))) .leaf)))))) .leaf)))) .leaf)))))) (.seq .leaf .leaf))))) func57 ⟨za67,zacj,za68,trivial⟩
noncomputable def za2s:FSem:=mkE (ArgT.cons (Ty.leaf .ptr) ArgT.nil) (Ty.leaf .sl) fun a=>F.y_henneberg_peeler_all a.1
theorem zacl:Entry prog 136 za2s false:=eo { P:=prog,n:=36,tab:=[],locL:=[17,32] } (.seq .leaf (.seq .leaf (.seq (.seq .leaf (.block (.loop [(3,.leaf (.sl)),(12,.leaf (.int .i64))] (.seq .leaf (.seq (.cond .leaf .leaf) (.seq (.block (.seq .leaf .leaf)) .leaf)))))) (.seq (.seq .leaf (.block (.loop [(3,.leaf (.sl)),(26,.leaf (.int .i64))] (.seq .leaf (.seq (.cond .leaf .leaf) (.seq (.block (.seq .leaf .leaf)) .leaf)))))) (.seq .leaf .leaf))))) func136 trivial
noncomputable def za2t:FSem:=mkE (ArgT.cons (Ty.leaf (.int .i64)) (ArgT.cons (Ty.leaf .ptr) ArgT.nil)) (Ty.leaf .bool) fun a=>F.y_henneberg_peeler_remaining_1 a.1 a.2.1
theorem zacm:Entry prog 141 za2t false:=eo { P:=prog,n:=7,tab:=[(98,zkn)] } (.seq .leaf (.seq .leaf .leaf)) func141 ⟨zmb,trivial⟩
noncomputable def za2u:FSem:=mkE (ArgT.cons (Ty.leaf .sl) (ArgT.fnc 141 1 ArgT.nil)) (Ty.leaf (.int .i64)) fun a=>F.zbi a.1 a.2.1
theorem zacn:Entry prog 135 za2u false:=eo { P:=prog,n:=19,tab:=[(141,za2t)] } (.seq .leaf (.seq (.seq .leaf (.block (.loop [(8,.leaf (.int .i64))] (.seq .leaf (.seq (.cond .leaf .leaf) (.seq (.block (.seq .leaf (.seq .leaf (.cond (.seq .leaf .leaf) .leaf)))) .leaf)))))) (.seq .leaf .leaf))) func135 ⟨zacm,trivial⟩
noncomputable def za2v:FSem:=mkE (ArgT.cons (Ty.leaf .sl) (ArgT.fnc 141 1 ArgT.nil)) (Ty.leaf .bool) fun a=>F.zbd a.1 a.2.1
theorem zaco:Entry prog 102 za2v false:=eo { P:=prog,n:=9,tab:=[(135,za2u)] } (.seq .leaf (.seq .leaf .leaf)) func102 ⟨zacn,trivial⟩
noncomputable def za2w:FSem:=mkE (ArgT.cons (Ty.leaf .ptr) (ArgT.cons (Ty.leaf (.int .i64)) (ArgT.cons (Ty.leaf .sl) ArgT.nil))) (Ty.leaf .sl) fun a=>F.y_henneberg_peeler_remaining a.1 a.2.1 a.2.2.1
theorem zacp:Entry prog 60 za2w false:=eo { P:=prog,n:=35,tab:=[(98,zkn),(102,za2v)],locL:=[31] } (.seq .leaf (.seq .leaf (.seq (.seq .leaf (.block (.loop [(7,.leaf (.sl)),(15,.leaf (.int .i64))] (.seq .leaf (.seq (.cond .leaf .leaf) (.join [(7,.leaf (.sl))] (.block (.seq .leaf (.seq .leaf (.cond .leaf .leaf)))) .leaf)))))) (.seq .leaf .leaf)))) func60 ⟨zmb,zaco,trivial⟩
noncomputable def zv7:FSem:=mkE (ArgT.cons (Ty.leaf .ptr) (ArgT.cons (Ty.leaf (.int .i64)) ArgT.nil)) (Ty.leaf (.int .i64)) fun a=>F.y_henneberg_peeler_equations a.1 a.2.1
theorem za69:Entry prog 140 zv7 false:=eo { P:=prog,n:=21,tab:=[(109,e_x58)],rtL:=[(19,5)],locL:=[5] } (.seq .leaf (.seq .leaf (.seq .leaf .leaf))) func140 ⟨t_x58,trivial⟩
noncomputable def za2x:FSem:=mkE (ArgT.cons (Ty.leaf .ptr) (ArgT.cons (Ty.leaf .sl) ArgT.nil)) (Ty.leaf (.int .i64)) fun a=>F.y_henneberg_peeler_weight a.1 a.2.1
theorem zacq:Entry prog 76 za2x false:=eo { P:=prog,n:=21,tab:=[(140,zv7)] } (.seq .leaf (.seq .leaf (.seq (.seq .leaf (.block (.loop [(5,.leaf (.int .i64)),(10,.leaf (.int .i64))] (.seq .leaf (.seq (.cond .leaf .leaf) (.seq (.block (.seq .leaf .leaf)) .leaf)))))) (.seq .leaf .leaf)))) func76 ⟨za69,trivial⟩
noncomputable def za2y:FSem:=mkE (ArgT.cons tyTConstraint (ArgT.cons (Ty.leaf .sl) (ArgT.cons (Ty.leaf (.int .i64)) ArgT.nil))) (Ty.leaf .bool) fun a=>F.zk9 a.1 a.2.1 a.2.2.1
theorem zacr:Entry prog 154 za2y false:=eo { P:=prog,n:=52,tab:=[(162,zv4),(98,zkn)],rtL:=[(8,3),(14,3),(22,3),(32,3),(37,3),(44,3)],locL:=[3] } (.seq .leaf (.seq .leaf (.seq (.seq .leaf (.cond (.seq .leaf .leaf) .leaf)) (.seq (.seq .leaf (.block (.join [(16,.leaf (.bool))] (.seq .leaf (.cond .leaf .leaf)) (.cond (.seq .leaf .leaf) (.join [(19,.leaf (.bool))] (.seq .leaf (.cond .leaf .leaf)) (.cond (.seq (.draw [0,1,2,3,4,5,6,7,8]) .leaf) (.seq .leaf (.cond (.seq (.draw [0,1,2,3,4,5,6,7,8,9,10,11,12,13,14,15,16,17,18,19,20]) .leaf) .leaf)))))))) (.seq .leaf .leaf))))) func154 ⟨za66,zmb,trivial⟩
noncomputable def za2z:FSem:=mkE (ArgT.cons (Ty.leaf (.int .i64)) (ArgT.cons (Ty.leaf .ptr) (ArgT.cons (Ty.leaf .ptr) ArgT.nil))) (Ty.leaf .bool) fun a=>F.y_henneberg_peeler_removable_1 a.1 a.2.1 a.2.2.1
theorem zacs:Entry prog 153 za2z false:=eo { P:=prog,n:=20,tab:=[(154,za2y)] } (.seq .leaf (.seq (.draw [0,1,2,3,4,5,6,7,8,9,10,11,12,13,14,15]) .leaf)) func153 ⟨zacr,trivial⟩
noncomputable def za30:FSem:=mkE (ArgT.cons (Ty.leaf .sl) (ArgT.fnc 153 2 ArgT.nil)) (Ty.leaf (.int .i64)) fun a=>F.zbj a.1 a.2.1
theorem zact:Entry prog 135 za30 false:=eo { P:=prog,n:=19,tab:=[(153,za2z)] } (.seq .leaf (.seq (.seq .leaf (.block (.loop [(8,.leaf (.int .i64))] (.seq .leaf (.seq (.cond .leaf .leaf) (.seq (.block (.seq .leaf (.seq .leaf (.cond (.seq .leaf .leaf) .leaf)))) .leaf)))))) (.seq .leaf .leaf))) func135 ⟨zacs,trivial⟩
noncomputable def za31:FSem:=mkE (ArgT.cons (Ty.leaf .sl) (ArgT.fnc 153 2 ArgT.nil)) (Ty.leaf .bool) fun a=>F.zbe a.1 a.2.1
theorem zacu:Entry prog 102 za31 false:=eo { P:=prog,n:=9,tab:=[(135,za30)] } (.seq .leaf (.seq .leaf .leaf)) func102 ⟨zact,trivial⟩
noncomputable def za32:FSem:=mkE (ArgT.cons tyTConstraint (ArgT.cons (Ty.leaf (.int .i64)) ArgT.nil)) (Ty.leaf .sl) fun a=>F.zj3 a.1 a.2.1
theorem zacv:Entry prog 207 za32 false:=eo { P:=prog,n:=25,tab:=[],rtL:=[(8,2)],locL:=[2,21] } (.seq .leaf (.seq .leaf (.seq (.seq .leaf (.block (.loop [(5,.leaf (.sl)),(11,.leaf (.int .i64))] (.seq .leaf (.seq (.cond .leaf .leaf) (.join [(5,.leaf (.sl))] (.block (.seq .leaf (.seq .leaf (.cond .leaf .leaf)))) .leaf)))))) (.seq .leaf .leaf)))) func207 trivial
noncomputable def za33:FSem:=mkE (ArgT.cons (Ty.leaf (.int .i64)) (ArgT.cons (Ty.leaf .ptr) (ArgT.cons (Ty.leaf .ptr) (ArgT.cons (Ty.leaf .ptr) ArgT.nil)))) (Ty.leaf .bool) fun a=>F.zf3 a.1 a.2.1 a.2.2.1 a.2.2.2.1
theorem zacw:Entry prog 208 za33 false:=eo { P:=prog,n:=16,tab:=[] } (.seq .leaf (.seq (.draw [0,1,2,3,4,5,6,7,8,9,10]) .leaf)) func208 trivial
noncomputable def za34:FSem:=mkE (ArgT.cons tyTConstraint (ArgT.cons (Ty.leaf .sl) (ArgT.cons (Ty.leaf (.int .i64)) ArgT.nil))) (Ty.leaf (.int .i64)) fun a=>F.zl6 a.1 a.2.1 a.2.2.1
theorem zacx:Entry prog 161 za34 false:=eo { P:=prog,n:=77,tab:=[(207,za32),(208,za33)] } (.seq .leaf (.seq .leaf (.seq .leaf (.seq (.seq .leaf (.block (.seq .leaf (.cond (.seq (.seq .leaf (.cond (.seq .leaf .leaf) .leaf)) (.seq .leaf .leaf)) (.seq .leaf (.cond (.seq (.seq .leaf (.cond (.seq .leaf .leaf) .leaf)) (.seq .leaf .leaf)) (.seq .leaf (.cond (.seq (.seq .leaf (.cond (.seq .leaf .leaf) .leaf)) (.seq .leaf .leaf)) .leaf)))))))) (.seq (.seq .leaf (.cond (.seq .leaf .leaf) .leaf)) (.seq (.seq .leaf (.block (.join [(44,.leaf (.bool))] (.seq .leaf (.cond .leaf .leaf)) (.cond (.seq .leaf .leaf) (.seq .leaf (.cond (.seq .leaf .leaf) (.join [(49,.leaf (.bool))] (.seq .leaf (.cond .leaf (.seq .leaf (.cond .leaf (.seq .leaf (.cond .leaf .leaf)))))) (.cond (.seq .leaf .leaf) (.seq .leaf (.cond (.seq .leaf (.cond (.seq .leaf .leaf) .leaf)) (.seq .leaf (.cond (.seq .leaf (.cond (.seq .leaf .leaf) .leaf)) (.join [(66,.leaf (.bool))] (.seq .leaf (.cond .leaf .leaf)) (.cond (.seq (.seq .leaf (.cond (.seq .leaf .leaf) .leaf)) (.seq .leaf .leaf)) (.seq .leaf (.cond (.seq (.seq .leaf (.cond (.seq .leaf .leaf) .leaf)) (.seq .leaf .leaf)) .leaf)))))))))))))))) (.seq .leaf .leaf))))))) func161 ⟨zacv,zacw,trivial⟩
noncomputable def za35:FSem:=mkE (ArgT.cons (Ty.leaf .ptr) (ArgT.cons (Ty.leaf (.int .i64)) (ArgT.cons (Ty.leaf (.int .i64)) ArgT.nil))) (Ty.leaf (.int .i64)) fun a=>F.y_henneberg_peeler_kind a.1 a.2.1 a.2.2.1
theorem zacy:Entry prog 139 za35 false:=eo { P:=prog,n:=20,tab:=[(161,za34)] } (.seq .leaf (.seq (.draw [0,1,2,3,4,5,6,7,8,9,10,11,12,13]) .leaf)) func139 ⟨zacx,trivial⟩
noncomputable def za36:FSem:=mkE (ArgT.cons (Ty.leaf .ptr) (ArgT.cons (Ty.leaf (.int .i64)) (ArgT.cons (Ty.leaf .sl) ArgT.nil))) (Ty.leaf .bool) fun a=>F.y_henneberg_peeler_removable a.1 a.2.1 a.2.2.1
theorem zacz:Entry prog 71 za36 false:=eo { P:=prog,n:=60,tab:=[(98,zkn),(60,za2w),(76,za2x),(102,za31),(139,za35),(140,zv7)] } (.seq .leaf (.seq (.seq .leaf (.cond (.seq .leaf .leaf) .leaf)) (.seq .leaf (.seq (.seq .leaf (.cond (.seq .leaf .leaf) .leaf)) (.seq (.seq .leaf (.cond (.seq .leaf .leaf) .leaf)) (.seq (.seq .leaf (.block (.loop [(37,.leaf (.int .i64))] (.seq .leaf (.seq (.cond .leaf .leaf) (.seq (.block (.seq .leaf (.seq .leaf (.join [(11,.leaf (.bool))] .leaf (.join [(11,.leaf (.bool))] (.seq .leaf (.cond .leaf .leaf)) (.seq .leaf (.cond (.seq .leaf .leaf) .leaf))))))) .leaf)))))) (.seq .leaf .leaf))))))) func71 ⟨zmb,zacp,zacq,zacu,zacy,za69,trivial⟩
noncomputable def za37:FSem:=mkE (ArgT.cons (Ty.leaf (.int .i64)) (ArgT.cons (Ty.leaf .ptr) (ArgT.cons (Ty.leaf .ptr) ArgT.nil))) (Ty.leaf .bool) fun a=>F.y_henneberg_peeler_peel_1 a.1 a.2.1 a.2.2.1
theorem zad0:Entry prog 137 za37 false:=eo { P:=prog,n:=9,tab:=[(71,za36)] } (.seq .leaf (.seq .leaf .leaf)) func137 ⟨zacz,trivial⟩
noncomputable def za38:FSem:=mkE (ArgT.cons (Ty.leaf .sl) (ArgT.fnc 137 2 ArgT.nil)) (Ty.leaf (.int .i64)) fun a=>F.zba a.1 a.2.1
theorem zad1:Entry prog 135 za38 false:=eo { P:=prog,n:=19,tab:=[(137,za37)] } (.seq .leaf (.seq (.seq .leaf (.block (.loop [(8,.leaf (.int .i64))] (.seq .leaf (.seq (.cond .leaf .leaf) (.seq (.block (.seq .leaf (.seq .leaf (.cond (.seq .leaf .leaf) .leaf)))) .leaf)))))) (.seq .leaf .leaf))) func135 ⟨zad0,trivial⟩
noncomputable def zv8:FSem:=mkE (ArgT.cons (Ty.leaf (.int .i64)) (ArgT.cons (Ty.leaf .ptr) ArgT.nil)) (Ty.leaf .bool) fun a=>F.y_henneberg_peeler_peel_2 a.1 a.2.1
theorem za6a:Entry prog 138 zv8 false:=eo { P:=prog,n:=7,tab:=[(98,zkn)] } (.seq .leaf (.seq .leaf .leaf)) func138 ⟨zmb,trivial⟩
noncomputable def za39:FSem:=mkE (ArgT.cons (Ty.leaf .sl) (ArgT.fnc 138 1 ArgT.nil)) (Ty.leaf (.int .i64)) fun a=>F.zbw a.1 a.2.1
theorem zad2:Entry prog 135 za39 false:=eo { P:=prog,n:=19,tab:=[(138,zv8)] } (.seq .leaf (.seq (.seq .leaf (.block (.loop [(8,.leaf (.int .i64))] (.seq .leaf (.seq (.cond .leaf .leaf) (.seq (.block (.seq .leaf (.seq .leaf (.cond (.seq .leaf .leaf) .leaf)))) .leaf)))))) (.seq .leaf .leaf))) func135 ⟨za6a,trivial⟩
noncomputable def za3a:FSem:=mkM (ArgT.cons (Ty.leaf .sl) (ArgT.fnc 138 1 ArgT.nil)) (Ty.leaf .sl) fun a=>F.zb6 a.1 a.2.1
theorem zad3:Entry prog 100 za3a true:=eoM { P:=prog,n:=42,tab:=[(135,za39),(138,zv8)] } (.seq .leaf (.seq .leaf (.seq (.seq .leaf (.cond (.seq .leaf .leaf) .leaf)) (.seq (.seq .leaf (.block (.loop [(5,.leaf (.int .i64)),(6,.leaf (.int .i64))] (.seq (.seq .leaf (.cond .leaf .leaf)) (.join [(5,.leaf (.int .i64))] (.block (.seq .leaf (.seq .leaf (.cond (.seq .leaf .leaf) .leaf)))) .leaf))))) (.seq .leaf (.seq .leaf .leaf)))))) func100 ⟨zad2,za6a,trivial⟩
noncomputable def za3b:FSem:=mkE (ArgT.cons (Ty.leaf .ptr) ArgT.nil) (Ty.tup (.cons (Ty.leaf .sl) (.cons (Ty.leaf .sl) .nil)) (fun x=>(x.1,x.2,())) (fun y=>(y.1,y.2.1)) (fun _=>rfl) (fun _=>rfl)) fun a=>F.y_henneberg_peeler_peel a.1
theorem zad4:Entry prog 58 za3b false:=eo { P:=prog,n:=27,tab:=[(136,za2s),(135,za38),(100,za3a)],mutL:=[100],locL:=[19] } (.seq .leaf (.seq .leaf (.seq (.block (.loop [(4,.leaf (.ptr))] (.block (.seq .leaf (.seq (.seq .leaf (.cond .leaf .leaf)) (.draw [0,1,3,2,4,5,6,7,8])))))) (.seq .leaf (.seq .leaf .leaf))))) func58 ⟨zacl,zad1,zad3,trivial⟩
noncomputable def zv9:FSem:=mkE (ArgT.cons tyTSketch ArgT.nil) (Ty.tup (.cons (Ty.leaf .sl) (.cons (Ty.leaf .sl) .nil)) (fun x=>(x.1,x.2,())) (fun y=>(y.1,y.2.1)) (fun _=>rfl) (fun _=>rfl)) fun a=>F.zfr a.1
theorem za6b:Entry prog 19 zv9 false:=eo { P:=prog,n:=12,tab:=[(56,zrg),(57,za2r),(58,za3b)],locL:=[1] } (.seq .leaf (.seq (.seq .leaf (.cond (.seq .leaf .leaf) .leaf)) (.seq .leaf .leaf))) func19 ⟨zx5,zack,zad4,trivial⟩
noncomputable def za3c:FSem:=mkE (ArgT.cons tyTSketch ArgT.nil) (Ty.leaf .bool) fun a=>F.zlg a.1
theorem zad5:Entry prog 63 za3c false:=eo { P:=prog,n:=52,tab:=[],rtL:=[(5,1),(11,1),(18,1),(23,1),(29,1),(35,1),(41,1),(47,1)],locL:=[1] } (.seq .leaf (.seq (.seq .leaf (.block (.loop [(3,.leaf (.int .i64))] (.seq (.seq .leaf (.cond .leaf .leaf)) (.seq (.block (.seq .leaf (.cond (.seq .leaf .leaf) .leaf))) .leaf))))) (.seq .leaf .leaf))) func63 trivial
end
end Den
end

section
set_option maxRecDepth 100000
namespace Den
open Go Go.Proofs.Tryz
noncomputable section
noncomputable def zgf:FSem:=mkE (ArgT.cons (Ty.leaf .sl) ArgT.nil) (Ty.leaf .sl) fun a=>F.zbc a.1
theorem zhm:Entry prog 196 zgf false:=eo { P:=prog,n:=21,tab:=[] } (.seq .leaf (.seq (.block (.loop [(0,.leaf (.sl))] (.join [] (.seq .leaf (.cond .leaf .leaf)) (.block .leaf)))) (.seq .leaf .leaf))) func196 trivial
noncomputable def za3d:FSem:=mkE (ArgT.cons tyTInt ArgT.nil) (Ty.leaf .bool) fun a=>F.zi3 a.1
theorem zad6:Entry prog 144 za3d false:=eo { P:=prog,n:=22,tab:=[(196,zgf)],rtL:=[(3,1),(7,1),(12,1),(16,1)],locL:=[1] } (.seq .leaf (.seq (.draw [0,1,4,5,6,2,3,7,8,9,10,11,12,13,14,15,16,17,18,19]) .leaf)) func144 ⟨zhm,trivial⟩
noncomputable def zko:FSem:=mkE (ArgT.cons (Ty.leaf .bool) (ArgT.cons (Ty.leaf .sl) ArgT.nil)) tyTInt fun a=>F.zby a.1 a.2.1
theorem zmc:Entry prog 199 zko false:=eo { P:=prog,n:=15,tab:=[(196,zgf)],locL:=[4] } (.seq .leaf (.seq .leaf (.seq .leaf .leaf))) func199 ⟨zhm,trivial⟩
noncomputable def zn9:FSem:=mkE (ArgT.cons tyTInt ArgT.nil) tyTInt fun a=>F.zcz a.1
theorem zph:Entry prog 197 zn9 false:=eo { P:=prog,n:=8,tab:=[(199,zko)],rtL:=[(3,1),(5,1)],locL:=[1,2] } (.seq .leaf (.seq .leaf .leaf)) func197 ⟨zmc,trivial⟩
noncomputable def zrh:FSem:=mkE (ArgT.cons tyTInt ArgT.nil) (Ty.leaf (.int .i64)) fun a=>F.zff a.1
theorem zx6:Entry prog 145 zrh false:=eo { P:=prog,n:=11,tab:=[(197,zn9)],rtL:=[(5,1),(9,1)],locL:=[1] } (.seq .leaf (.seq .leaf (.seq (.seq .leaf (.cond (.seq .leaf .leaf) .leaf)) (.seq (.seq .leaf (.cond (.seq .leaf .leaf) .leaf)) (.seq .leaf .leaf))))) func145 ⟨zph,trivial⟩
noncomputable def zp2:FSem:=mkE (ArgT.cons (Ty.leaf .sl) (ArgT.cons (Ty.leaf .sl) ArgT.nil)) (Ty.leaf (.int .i64)) fun a=>F.zdm a.1 a.2.1
theorem zsc:Entry prog 230 zp2 false:=eo { P:=prog,n:=41,tab:=[] } (.seq .leaf (.seq (.seq .leaf (.cond (.seq (.seq .leaf (.cond (.seq .leaf .leaf) .leaf)) (.seq .leaf .leaf)) .leaf)) (.seq (.seq .leaf (.block (.loop [(5,.leaf (.int .i64))] (.seq (.seq .leaf (.cond .leaf .leaf)) (.seq (.block (.seq (.seq (.draw [0,1,2,3,4,5,6,7,8]) (.cond (.seq .leaf .leaf) .leaf)) (.seq (.draw [0,1,2,3,4,5,6,7,8]) (.cond (.seq .leaf .leaf) .leaf)))) .leaf))))) (.seq .leaf .leaf)))) func230 trivial
noncomputable def za3e:FSem:=mkE (ArgT.cons (Ty.leaf .sl) ArgT.nil) (Ty.leaf (.int .u64)) fun a=>F.zgq a.1
theorem zad7:Entry prog 231 za3e false:=eo { P:=prog,n:=21,tab:=[] } (.seq .leaf (.seq .leaf (.seq (.seq .leaf (.block (.loop [(3,.leaf (.int .u64)),(4,.leaf (.int .i64))] (.seq (.seq .leaf (.cond .leaf .leaf)) (.seq (.block .leaf) .leaf))))) (.seq .leaf .leaf)))) func231 trivial
noncomputable def zva:FSem:=mkE (ArgT.cons (Ty.leaf (.int .u64)) ArgT.nil) (Ty.leaf .sl) fun a=>F.ze1 a.1
theorem za6c:Entry prog 206 zva false:=eo { P:=prog,n:=10,tab:=[(196,zgf)] } (.seq .leaf (.seq .leaf .leaf)) func206 ⟨zhm,trivial⟩
noncomputable def zvb:FSem:=mkE (ArgT.cons (Ty.leaf .sl) (ArgT.cons (Ty.leaf (.int .u32)) ArgT.nil)) (Ty.tup (.cons (Ty.leaf .sl) (.cons (Ty.leaf (.int .u32)) .nil)) (fun x=>(x.1,x.2,())) (fun y=>(y.1,y.2.1)) (fun _=>rfl) (fun _=>rfl)) fun a=>F.zm3 a.1 a.2.1
theorem za6d:Entry prog 232 zvb false:=eo { P:=prog,n:=43,tab:=[(196,zgf)] } (.seq .leaf (.seq .leaf (.seq .leaf (.seq (.seq .leaf (.block (.loop [(7,.leaf (.int .u64)),(8,.leaf (.int .i64))] (.seq (.seq .leaf (.cond .leaf .leaf)) (.seq (.block (.seq .leaf (.seq .leaf .leaf))) .leaf))))) (.seq .leaf .leaf))))) func232 ⟨zhm,trivial⟩
noncomputable def za3f:FSem:=mkE (ArgT.cons (Ty.leaf .sl) ArgT.nil) (Ty.leaf (.int .i64)) fun a=>F.zhg a.1
theorem zad8:Entry prog 233 za3f false:=eo { P:=prog,n:=26,tab:=[] } (.seq .leaf (.seq (.seq .leaf (.cond (.seq .leaf .leaf) .leaf)) (.seq .leaf (.seq (.seq .leaf (.block (.loop [(3,.leaf (.int .i64)),(4,.leaf (.int .u32))] (.seq (.seq .leaf (.cond .leaf .leaf)) (.seq (.block .leaf) .leaf))))) (.seq .leaf .leaf))))) func233 trivial
noncomputable def za3g:FSem:=mkE (ArgT.cons (Ty.leaf .sl) (ArgT.cons (Ty.leaf (.int .i64)) ArgT.nil)) (Ty.leaf .sl) fun a=>F.zif a.1 a.2.1
theorem zad9:Entry prog 234 za3g false:=eo { P:=prog,n:=43,tab:=[] } (.seq .leaf (.seq .leaf (.seq (.seq .leaf (.block (.loop [(6,.leaf (.int .i64))] (.seq (.seq .leaf (.cond .leaf .leaf)) (.seq (.block (.seq .leaf (.seq .leaf .leaf))) .leaf))))) (.seq .leaf .leaf)))) func234 trivial
noncomputable def zvc:FSem:=mkE (ArgT.cons (Ty.leaf .sl) (ArgT.cons (Ty.leaf .sl) ArgT.nil)) (Ty.leaf .sl) fun a=>F.zfm a.1 a.2.1
theorem za6e:Entry prog 252 zvc false:=eo { P:=prog,n:=67,tab:=[(196,zgf)] } (.seq .leaf (.seq .leaf (.seq (.seq .leaf (.block (.loop [(6,.leaf (.int .i64))] (.seq (.seq .leaf (.cond .leaf .leaf)) (.seq (.block (.seq .leaf (.seq (.seq .leaf (.block (.loop [(7,.leaf (.int .u64)),(8,.leaf (.int .i64))] (.seq (.seq .leaf (.cond .leaf .leaf)) (.seq (.block (.seq (.draw [0,1,2,3,4,5,6,7,8,9,10,11,12,13,14,15,16,17,18,19,20,21]) (.seq .leaf .leaf))) .leaf))))) .leaf))) .leaf))))) (.seq .leaf .leaf)))) func252 ⟨zhm,trivial⟩
noncomputable def zri:FSem:=mkE (ArgT.cons (Ty.leaf .sl) (ArgT.cons (Ty.leaf .sl) ArgT.nil)) (Ty.leaf .sl) fun a=>F.ze0 a.1 a.2.1
theorem zx7:Entry prog 236 zri false:=eo { P:=prog,n:=48,tab:=[(196,zgf)] } (.seq .leaf (.seq .leaf (.seq .leaf (.seq (.seq .leaf (.block (.loop [(6,.leaf (.int .u64)),(7,.leaf (.int .i64))] (.seq (.seq .leaf (.cond .leaf .leaf)) (.seq (.block (.seq .leaf (.join [(8,.leaf (.int .u64))] (.seq .leaf (.cond .leaf .leaf)) (.seq .leaf (.seq .leaf .leaf))))) .leaf))))) (.seq .leaf .leaf))))) func236 ⟨zhm,trivial⟩
noncomputable def za3h:FSem:=mkE (ArgT.cons (Ty.leaf .sl) (ArgT.cons (Ty.leaf .sl) ArgT.nil)) (Ty.tup (.cons (Ty.leaf (.int .u32)) (.cons (Ty.leaf .sl) .nil)) (fun x=>(x.1,x.2,())) (fun y=>(y.1,y.2.1)) (fun _=>rfl) (fun _=>rfl)) fun a=>F.zka a.1 a.2.1
theorem zada:Entry prog 235 za3h false:=eo { P:=prog,n:=51,tab:=[(252,zvc),(196,zgf),(230,zp2),(236,zri)] } (.seq .leaf (.seq .leaf (.seq (.draw [0,1,2,3,4,5,6,7,8,9,10,11,12,13,14,15,16,17,18,19,20]) (.join [(7,.leaf (.int .u64))] (.seq .leaf (.cond .leaf .leaf)) (.seq .leaf (.seq (.block (.loop [(7,.leaf (.int .u64)),(8,.leaf (.sl))] (.seq (.seq .leaf (.cond .leaf .leaf)) (.block (.seq .leaf .leaf))))) (.seq .leaf .leaf))))))) func235 ⟨za6e,zhm,zsc,zx7,trivial⟩
noncomputable def za3i:FSem:=mkE (ArgT.cons (Ty.leaf .sl) (ArgT.cons (Ty.leaf (.int .i64)) ArgT.nil)) (Ty.leaf .sl) fun a=>F.zld a.1 a.2.1
theorem zadb:Entry prog 237 za3i false:=eo { P:=prog,n:=45,tab:=[(196,zgf)] } (.seq .leaf (.seq .leaf (.seq (.seq .leaf (.block (.loop [(6,.leaf (.int .i64))] (.seq (.seq .leaf (.cond .leaf .leaf)) (.seq (.block (.seq .leaf (.join [(7,.leaf (.int .u64))] (.seq .leaf (.cond .leaf .leaf)) .leaf))) .leaf))))) (.seq .leaf .leaf)))) func237 ⟨zhm,trivial⟩
noncomputable def zvd:FSem:=mkE (ArgT.cons (Ty.leaf .sl) (ArgT.cons (Ty.leaf .sl) ArgT.nil)) (Ty.tup (.cons (Ty.leaf .sl) (.cons (Ty.leaf .sl) .nil)) (fun x=>(x.1,x.2,())) (fun y=>(y.1,y.2.1)) (fun _=>rfl) (fun _=>rfl)) fun a=>F.zfu a.1 a.2.1
theorem za6f:Entry prog 198 zvd false:=eo { P:=prog,n:=128,tab:=[(230,zp2),(231,za3e),(206,zva),(232,zvb),(233,za3f),(234,za3g),(196,zgf),(235,za3h),(236,zri),(237,za3i)] } (.seq .leaf (.seq (.seq .leaf (.cond (.seq .leaf .leaf) .leaf)) (.seq (.seq .leaf (.cond (.seq .leaf (.seq (.draw [0,1,2,4,5,6,3,7,8,9]) .leaf)) .leaf)) (.seq (.seq .leaf (.cond (.seq .leaf (.seq .leaf .leaf)) .leaf)) (.seq .leaf (.seq .leaf (.seq .leaf (.seq (.seq .leaf (.block (.loop [(14,.leaf (.int .i64))] (.seq (.seq .leaf (.cond .leaf .leaf)) (.seq (.block (.seq .leaf (.seq .leaf (.seq .leaf (.seq .leaf (.seq .leaf (.block (.loop [(19,.leaf (.int .i64))] (.seq (.seq .leaf (.cond .leaf .leaf)) (.join [] (.block (.seq .leaf (.seq .leaf (.cond .leaf .leaf)))) .leaf)))))))))) .leaf))))) (.seq .leaf .leaf))))))))) func198 ⟨zsc,zad7,za6c,za6d,zad8,zad9,zhm,zada,zx7,zadb,trivial⟩
noncomputable def zve:FSem:=mkE (ArgT.cons tyTInt (ArgT.cons tyTInt ArgT.nil)) tyTInt fun a=>F.zhe a.1 a.2.1
theorem za6g:Entry prog 147 zve false:=eo { P:=prog,n:=28,tab:=[(196,zgf),(198,zvd),(199,zko)],rtL:=[(9,2),(12,3)],locL:=[2,3,4] } (.seq .leaf (.seq (.draw [0,1,3,4,2,5,6,7]) (.seq (.block (.loop [(5,.leaf (.sl)),(6,.leaf (.sl))] (.seq (.seq .leaf (.cond .leaf .leaf)) (.block (.seq .leaf .leaf))))) (.seq .leaf .leaf)))) func147 ⟨zhm,za6f,zmc,trivial⟩
noncomputable def zvf:FSem:=mkE (ArgT.cons tyTInt ArgT.nil) (Ty.leaf .bool) fun a=>F.ziv a.1
theorem za6h:Entry prog 146 zvf false:=eo { P:=prog,n:=19,tab:=[],rtL:=[(3,1),(8,1),(15,1)],locL:=[1] } (.seq .leaf (.seq .leaf .leaf)) func146 trivial
noncomputable def zrj:FSem:=mkE (ArgT.cons tyTRat ArgT.nil) (Ty.leaf .bool) fun a=>F.ze2 a.1
theorem zx8:Entry prog 64 zrj false:=eo { P:=prog,n:=25,tab:=[(144,za3d),(145,zrh),(147,zve),(146,zvf)],rtL:=[(3,1),(7,1),(12,1),(18,1),(20,1)],locL:=[1] } (.seq .leaf (.seq .leaf .leaf)) func64 ⟨zad6,zx6,za6g,za6h,trivial⟩
noncomputable def zvg:FSem:=mkE (ArgT.cons (Ty.leaf (.int .i64)) (ArgT.cons (Ty.leaf (.int .i64)) ArgT.nil)) (Ty.leaf .bool) fun a=>F.zee a.1 a.2.1
theorem za6i:Entry prog 65 zvg false:=eo { P:=prog,n:=12,tab:=[] } (.seq .leaf (.seq .leaf .leaf)) func65 trivial
noncomputable def zvh:FSem:=mkE (ArgT.cons tyTRat ArgT.nil) (Ty.leaf (.int .i64)) fun a=>F.zhv a.1
theorem za6j:Entry prog 66 zvh false:=eo { P:=prog,n:=6,tab:=[(145,zrh)],rtL:=[(3,1)],locL:=[1] } (.seq .leaf (.seq .leaf .leaf)) func66 ⟨zx6,trivial⟩
noncomputable def za3j:FSem:=mkE (ArgT.cons tyTSketch (ArgT.cons tyTPiece ArgT.nil)) (Ty.tup (.cons (Ty.leaf (.int .i64)) (.cons (Ty.leaf (.int .i64)) .nil)) (fun x=>(x.1,x.2,())) (fun y=>(y.1,y.2.1)) (fun _=>rfl) (fun _=>rfl)) fun a=>F.zlf a.1 a.2.1
theorem zadc:Entry prog 148 za3j false:=eo { P:=prog,n:=44,tab:=[],rtL:=[(8,3),(10,2),(12,3),(17,2),(19,3),(24,2),(26,3),(31,2),(33,3),(38,3)],locL:=[2,3] } (.seq .leaf (.seq .leaf (.join [(6,.leaf (.int .i64)),(7,.leaf (.int .i64))] (.seq .leaf (.cond (.draw [0,1,2,3,4,5,6,7,8,9,10,11,12,13,14,15]) (.draw [0,1,2,3,4,5,6,7,8,9,10,11,12,13,14,15]))) (.seq (.seq .leaf (.cond (.seq .leaf .leaf) .leaf)) (.seq .leaf .leaf))))) func148 trivial
noncomputable def za3k:FSem:=mkE (ArgT.cons tyTSketch (ArgT.cons (Ty.leaf .sl) ArgT.nil)) (Ty.leaf .bool) fun a=>F.zkg a.1 a.2.1
theorem zadd:Entry prog 67 za3k false:=eo { P:=prog,n:=80,tab:=[(148,za3j),(65,zvg)],rtL:=[(22,2),(41,2)],locL:=[2] } (.seq .leaf (.seq (.seq .leaf (.block (.loop [(5,.leaf (.int .i64))] (.seq (.seq .leaf (.cond .leaf .leaf)) (.join [] (.block (.join [] (.seq (.draw [0,1,2,3,4,5,6,7,8,9,10,11,12,13,14,15,16,17,18,19,20,21,22,23,24,25,26,27,28,29,30,31,32,33,34,35,36]) (.cond (.seq .leaf .leaf) .leaf)) (.seq .leaf (.cond (.seq (.draw [0,1,2,3,4,5,6,7,8,9,10,11]) (.seq (.draw [0,1,2,3,4,5,6,7,8,9,10]) (.seq .leaf (.cond (.seq .leaf .leaf) .leaf)))) .leaf)))) .leaf))))) (.seq .leaf .leaf))) func67 ⟨zadc,za6i,trivial⟩
noncomputable def za3l:FSem:=mkE ArgT.nil (Ty.leaf .sl) fun a=>F.zje
theorem zade:Entry prog 200 za3l false:=eo { P:=prog,n:=19,tab:=[] } (.seq .leaf (.seq .leaf .leaf)) func200 trivial
noncomputable def za3m:FSem:=mkE (ArgT.cons (Ty.leaf (.int .i64)) ArgT.nil) (Ty.tup (.cons znm (.cons (Ty.leaf .bool) .nil)) (fun x=>(x.1,x.2,())) (fun y=>(y.1,y.2.1)) (fun _=>rfl) (fun _=>rfl)) fun a=>F.zo7 a.1
theorem zadf:Entry prog 149 za3m false:=eo { P:=prog,n:=18,tab:=[(200,za3l)],locL:=[2] } (.seq .leaf (.join [(2,.box [.str,.int .i64,.int .i64,.int .i64,.int .i64,.int .i64,.bool])] (.seq .leaf (.cond (.seq .leaf .leaf) .leaf)) (.seq .leaf .leaf))) func149 ⟨zade,trivial⟩
noncomputable def zrk:FSem:=mkE (ArgT.cons (Ty.leaf (.int .i64)) ArgT.nil) tyTInt fun a=>F.zep a.1
theorem zx9:Entry prog 160 zrk false:=eo { P:=prog,n:=14,tab:=[(206,zva),(199,zko)],locL:=[2] } (.seq .leaf (.seq (.seq .leaf (.cond (.seq .leaf .leaf) .leaf)) (.seq .leaf .leaf))) func160 ⟨za6c,zmc,trivial⟩
noncomputable def zrl:FSem:=mkE (ArgT.cons (Ty.leaf (.int .i64)) ArgT.nil) tyTRat fun a=>F.zeq a.1
theorem zxa:Entry prog 86 zrl false:=eo { P:=prog,n:=7,tab:=[(160,zrk)],locL:=[2] } (.seq .leaf (.seq .leaf .leaf)) func86 ⟨zx9,trivial⟩
noncomputable def za3n:FSem:=mkE (ArgT.cons tyTInt (ArgT.cons tyTInt ArgT.nil)) (Ty.leaf .bool) fun a=>F.zlc a.1 a.2.1
theorem zadg:Entry prog 268 za3n false:=eo { P:=prog,n:=18,tab:=[(230,zp2)],rtL:=[(5,2),(7,3),(11,2),(13,3)],locL:=[2,3] } (.seq .leaf (.seq .leaf .leaf)) func268 ⟨zsc,trivial⟩
noncomputable def za3o:FSem:=mkE (ArgT.cons tyTInt ArgT.nil) (Ty.leaf .str) fun a=>F.zja a.1
theorem zadh:Entry prog 269 za3o false:=eo { P:=prog,n:=34,tab:=[(197,zn9),(232,zvb)],rtL:=[(9,1),(29,1)],locL:=[1] } (.seq .leaf (.seq .leaf (.seq .leaf (.seq .leaf (.seq (.block (.loop [(3,.leaf (.str)),(4,.leaf (.sl))] (.seq (.seq .leaf (.cond .leaf .leaf)) (.block (.seq .leaf (.seq .leaf .leaf)))))) (.seq (.seq .leaf (.cond (.seq .leaf .leaf) .leaf)) (.seq (.seq .leaf (.cond (.seq .leaf .leaf) .leaf)) (.seq .leaf .leaf)))))))) func269 ⟨zph,za6d,trivial⟩
noncomputable def zvi:FSem:=mkE (ArgT.cons tyTInt (ArgT.cons tyTInt ArgT.nil)) tyTInt fun a=>F.zhf a.1 a.2.1
theorem za6k:Entry prog 285 zvi false:=eo { P:=prog,n:=20,tab:=[(197,zn9),(252,zvc),(199,zko)],rtL:=[(9,2),(11,3),(14,2),(16,3)],locL:=[2,3,4] } (.seq .leaf (.seq (.draw [0,2,1,3,4,5]) (.seq (.draw [0,1,2,3,4,5,6,7,8,9,10,11]) .leaf))) func285 ⟨zph,za6e,zmc,trivial⟩
noncomputable def za3p:FSem:=mkE (ArgT.cons tyTInt ArgT.nil) tyTInt fun a=>F.zml a.1
theorem zadi:Entry prog 315 za3p false:=eo { P:=prog,n:=9,tab:=[(199,zko)],rtL:=[(3,1),(6,1)],locL:=[1,2] } (.seq .leaf (.seq .leaf .leaf)) func315 ⟨zmc,trivial⟩
noncomputable def za3q:FSem:=mkE (ArgT.cons (Ty.leaf .sl) (ArgT.cons (Ty.leaf .sl) ArgT.nil)) (Ty.leaf .sl) fun a=>F.zjb a.1 a.2.1
theorem zadj:Entry prog 316 za3q false:=eo { P:=prog,n:=58,tab:=[(196,zgf)] } (.seq .leaf (.join [(0,.leaf (.sl)),(1,.leaf (.sl))] (.seq .leaf (.cond .leaf .leaf)) (.seq .leaf (.seq .leaf (.seq (.seq .leaf (.block (.loop [(6,.leaf (.int .u64)),(7,.leaf (.int .i64))] (.seq (.seq .leaf (.cond .leaf .leaf)) (.seq (.block (.seq .leaf (.join [(6,.leaf (.int .u64))] (.seq .leaf (.cond .leaf .leaf)) (.seq .leaf .leaf)))) .leaf))))) (.seq .leaf (.seq .leaf .leaf))))))) func316 ⟨zhm,trivial⟩
noncomputable def zvj:FSem:=mkE (ArgT.cons tyTInt (ArgT.cons tyTInt ArgT.nil)) tyTInt fun a=>F.zkw a.1 a.2.1
theorem za6l:Entry prog 307 zvj false:=eo { P:=prog,n:=44,tab:=[(197,zn9),(316,za3q),(199,zko),(230,zp2),(236,zri)],rtL:=[(9,2),(11,3),(14,2),(16,2),(18,3),(22,2),(24,3),(28,2),(30,2),(32,3),(36,3),(38,3),(40,2)],locL:=[2,3,4] } (.seq .leaf (.seq (.draw [0,2,1,3,4,5]) (.seq (.seq .leaf (.cond (.seq (.draw [0,1,2,3,4,5,6,7,8]) .leaf) .leaf)) (.seq (.seq .leaf (.cond (.seq (.draw [0,1,2,3,4,5,6,7,8]) .leaf) .leaf)) (.seq (.draw [0,1,2,3,4,5,6,7,8]) .leaf))))) func307 ⟨zph,zadj,zmc,zsc,zx7,trivial⟩
noncomputable def za3r:FSem:=mkE (ArgT.cons tyTInt (ArgT.cons tyTInt ArgT.nil)) tyTInt fun a=>F.zkx a.1 a.2.1
theorem zadk:Entry prog 306 za3r false:=eo { P:=prog,n:=9,tab:=[(315,za3p),(307,zvj)],locL:=[2,3,4] } (.seq .leaf (.seq (.draw [0,1,2,3,4]) .leaf)) func306 ⟨zadi,za6l,trivial⟩
noncomputable def za3s:FSem:=mkE (ArgT.cons tyTInt (ArgT.cons tyTInt ArgT.nil)) (Ty.tup (.cons tyTInt (.cons tyTInt (.cons (Ty.leaf (.int .i64)) .nil))) (fun x=>(x.1,x.2.1,x.2.2,())) (fun y=>(y.1,y.2.1,y.2.2.1)) (fun _=>rfl) (fun _=>rfl)) fun a=>F.zj9 a.1 a.2.1
theorem zadl:Entry prog 298 za3s false:=eo { P:=prog,n:=55,tab:=[(197,zn9),(198,zvd),(199,zko),(285,zvi),(306,za3r),(145,zrh),(160,zrk),(307,zvj)],rtL:=[(15,3),(22,2),(24,3),(29,2),(31,3)],locL:=[2,3,4,5,9,10] } (.seq .leaf (.seq (.draw [0,2,1,3,4,5]) (.seq (.seq .leaf (.cond (.seq .leaf .leaf) .leaf)) (.seq .leaf (.seq .leaf (.seq (.draw [0,1,2,5,3,4,6]) (.join [(9,.box [.bool,.sl]),(10,.box [.bool,.sl])] (.seq (.draw [0,2,1,3,4,5]) (.cond (.seq (.draw [0,1,2,3]) .leaf) .leaf)) (.seq (.draw [0,1,2,3,4]) .leaf)))))))) func298 ⟨zph,za6f,zmc,za6k,zadk,zx6,zx9,za6l,trivial⟩
noncomputable def za3t:FSem:=mkE (ArgT.cons tyTInt (ArgT.cons tyTInt ArgT.nil)) tyTInt fun a=>F.zhh a.1 a.2.1
theorem zadm:Entry prog 286 za3t false:=eo { P:=prog,n:=16,tab:=[(298,za3s)],locL:=[2,3,4,5,6] } (.seq .leaf (.seq .leaf (.seq .leaf .leaf))) func286 ⟨zadl,trivial⟩
noncomputable def za3u:FSem:=mkE (ArgT.cons tyTRat (ArgT.cons tyTRat ArgT.nil)) tyTRat fun a=>F.zmm a.1 a.2.1
theorem zadn:Entry prog 270 za3u false:=eo { P:=prog,n:=65,tab:=[(147,zve),(286,za3t),(285,zvi),(146,zvf),(86,zrl)],rtL:=[(7,2),(8,2),(13,3),(14,3),(20,2),(24,3),(28,2),(30,3),(33,2),(36,2),(38,3),(41,3),(43,2),(46,2),(50,3),(55,2),(59,3)],locL:=[2,3,4,5,6] } (.seq .leaf (.join [(4,.box [.bool,.sl,.bool,.sl])] (.seq .leaf (.cond (.seq .leaf .leaf) .leaf)) (.join [(4,.box [.bool,.sl,.bool,.sl])] (.seq .leaf (.cond (.seq (.draw [0,1,2,3,5,6,4,7,8]) .leaf) .leaf)) (.seq (.draw [0,1,2,3,5,6,7,8,10,11,4,9,12,13]) (.seq (.draw [0,1,2,4,5,6,9,10,11,13,14,15,3,7,8,12,16,17,18,19]) .leaf))))) func270 ⟨za6g,zadm,za6k,za6h,zxa,trivial⟩
noncomputable def za3v:FSem:=mkE (ArgT.cons tyTRat ArgT.nil) (Ty.tup (.cons (Ty.leaf .str) (.cons (Ty.leaf .bool) .nil)) (fun x=>(x.1,x.2,())) (fun y=>(y.1,y.2.1)) (fun _=>rfl) (fun _=>rfl)) fun a=>F.zig a.1
theorem zado:Entry prog 253 za3v false:=eo { P:=prog,n:=60,tab:=[(86,zrl),(160,zrk),(268,za3n),(269,za3o),(270,za3u),(64,zrj),(66,zvh)],rtL:=[(24,6),(28,6)],locL:=[1,4,5,6] } (.seq .leaf (.join [] (.seq .leaf (.cond (.seq .leaf .leaf) .leaf)) (.seq .leaf (.seq .leaf (.seq .leaf (.seq (.seq .leaf (.block (.loop [(6,.box [.bool,.sl,.bool,.sl]),(7,.leaf (.int .i64))] (.seq (.seq .leaf (.cond .leaf .leaf)) (.seq (.block (.seq (.seq .leaf (.cond (.seq .leaf (.seq (.block (.loop [(8,.leaf (.str))] (.seq (.seq .leaf (.cond .leaf .leaf)) (.block .leaf)))) (.join [(8,.leaf (.str))] (.seq .leaf (.cond (.draw [0,1,2,3,4,5,6,7,8,9,10,11,12,13,14]) .leaf)) (.seq .leaf .leaf)))) .leaf)) .leaf)) .leaf))))) (.seq .leaf .leaf))))))) func253 ⟨zxa,zx9,zadg,zadh,zadn,zx8,za6j,trivial⟩
noncomputable def za3w:FSem:=mkE (ArgT.cons (Ty.leaf (.int .u8)) ArgT.nil) (Ty.leaf .bool) fun a=>F.zjc a.1
theorem zadp:Entry prog 287 za3w false:=eo { P:=prog,n:=17,tab:=[] } (.seq .leaf (.seq .leaf .leaf)) func287 trivial
noncomputable def za3x:FSem:=mkE (ArgT.cons (Ty.leaf (.int .u8)) ArgT.nil) (Ty.leaf .bool) fun a=>F.zmx a.1
theorem zadq:Entry prog 288 za3x false:=eo { P:=prog,n:=9,tab:=[] } (.seq .leaf (.seq .leaf .leaf)) func288 trivial
end
end Den
end

section
set_option maxRecDepth 100000
namespace Den
open Go Go.Proofs.Tryz
noncomputable section
noncomputable def za3y:FSem:=mkE (ArgT.cons (Ty.leaf .str) (ArgT.cons (Ty.leaf (.int .i64)) ArgT.nil)) (Ty.leaf (.int .i64)) fun a=>F.zle a.1 a.2.1
theorem zadr:Entry prog 271 za3y false:=eo { P:=prog,n:=42,tab:=[(287,za3w),(288,za3x)] } (.seq .leaf (.join [] (.seq .leaf (.cond (.seq .leaf .leaf) .leaf)) (.seq (.block (.loop [(1,.leaf (.int .i64))] (.join [] (.seq .leaf (.cond .leaf .leaf)) (.block .leaf)))) (.seq .leaf .leaf)))) func271 ⟨zadp,zadq,trivial⟩
noncomputable def za3z:FSem:=mkE (ArgT.cons (Ty.leaf .str) ArgT.nil) (Ty.leaf .bool) fun a=>F.zfv a.1
theorem zads:Entry prog 254 za3z false:=eo { P:=prog,n:=17,tab:=[(271,za3y)] } (.seq .leaf (.seq .leaf .leaf)) func254 ⟨zadr,trivial⟩
noncomputable def za40:FSem:=mkE (ArgT.cons tyTExpr ArgT.nil) (Ty.leaf .bool) fun a=>F.zkd a.1
theorem zadt:Entry prog 238 za40 false:=eo { P:=prog,n:=106,tab:=[(253,za3v),(254,za3z)],rtL:=[(6,1),(7,1),(8,1),(12,1),(13,1),(14,1),(19,1),(20,1),(21,1),(27,1),(28,1),(29,1),(34,1),(39,1),(46,1),(50,1),(56,1),(65,1),(70,1),(79,1),(84,1),(96,1),(101,1)],locL:=[1] } (.seq .leaf (.join [(3,.leaf (.bool))] .leaf (.seq (.seq .leaf (.block (.seq .leaf (.cond (.seq .leaf (.seq .leaf .leaf)) (.seq .leaf (.cond (.seq .leaf .leaf) (.seq .leaf (.cond (.seq .leaf .leaf) (.join [(89,.leaf (.bool))] (.seq .leaf (.cond .leaf (.seq .leaf (.cond .leaf (.seq .leaf (.cond .leaf .leaf)))))) (.cond (.seq .leaf .leaf) .leaf)))))))))) (.seq .leaf .leaf)))) func238 ⟨zado,zads,trivial⟩
noncomputable def zui:ArgT (TExpr×Unit):=(ArgT.cons tyTExpr ArgT.nil)
noncomputable def zun:Ty Bool:=(Ty.leaf .bool)
noncomputable def za41:FSem:=mkE zui zun fun a=>F.zjd a.1
noncomputable def zaam (n:Nat):Cfg:={ P:=prog,n:=21,tab:=[(238,za40),(201,mkE zui zun (fun a=>F.zer n a.1))],rtL:=[(8,1),(14,1)],locL:=[1] }
theorem za6q:∃fn,prog.funcs[201]?=some fn∧fn.body.isNone=false∧(fn.name == "runtime.NumGoroutine")=false:=⟨_,func201,rfl,by decide⟩
theorem za6w:∀n a K D w,Sub D w→F.zer n a.1 K D→Calls prog 201 (zui.up a).toArray w (Post (fun v h=>zun.dn v fun r=>K r h) D w)
 | 0,_,_,_,_,_,h=>h.elim
 | n+1,a,K,D,w,hs,h=>zim (C:=zaam n) (F:=fun a=>F.zer (n+1) a.1) (fn:=f201) (c:=bd f201) (an:=(.seq .leaf (.seq (.seq .leaf (.cond (.seq .leaf .leaf) .leaf)) (.seq (.seq .leaf (.block (.loop [(3,.leaf (.int .i64))] (.seq (.seq .leaf (.cond .leaf .leaf)) (.seq (.block (.seq .leaf (.cond (.seq .leaf .leaf) .leaf))) .leaf))))) (.seq .leaf .leaf))))) ⟨zadt,(zd4 za6q (za6w n)),trivial⟩ trivial func201 rfl rfl (fun _=>rfl) (by intro a K D; kernel_rfl) a K D w hs h
theorem zadu:Entry prog 201 za41 false:=zd4 za6q (fun a K D w hs h=>h.elim fun m h=>za6w m a K D w hs h)
noncomputable def zuj:ArgT (TExpr×Unit):=(ArgT.cons tyTExpr ArgT.nil)
noncomputable def zuo:Ty Int:=(Ty.leaf (.int .i64))
noncomputable def za42:FSem:=mkE zuj zuo fun a=>F.zkb a.1
noncomputable def zaan (n:Nat):Cfg:={ P:=prog,n:=22,tab:=[(202,mkE zuj zuo (fun a=>F.zde n a.1))],rtL:=[(6,1),(13,1)],locL:=[1] }
theorem za6r:∃fn,prog.funcs[202]?=some fn∧fn.body.isNone=false∧(fn.name == "runtime.NumGoroutine")=false:=⟨_,func202,rfl,by decide⟩
theorem za6x:∀n a K D w,Sub D w→F.zde n a.1 K D→Calls prog 202 (zuj.up a).toArray w (Post (fun v h=>zuo.dn v fun r=>K r h) D w)
 | 0,_,_,_,_,_,h=>h.elim
 | n+1,a,K,D,w,hs,h=>zim (C:=zaan n) (F:=fun a=>F.zde (n+1) a.1) (fn:=f202) (c:=bd f202) (an:=(.seq .leaf (.seq .leaf (.seq (.seq .leaf (.block (.loop [(3,.leaf (.int .i64)),(4,.leaf (.int .i64))] (.seq (.seq .leaf (.cond .leaf .leaf)) (.seq (.block .leaf) .leaf))))) (.seq .leaf .leaf))))) ⟨(zd4 za6r (za6x n)),trivial⟩ trivial func202 rfl rfl (fun _=>rfl) (by intro a K D; kernel_rfl) a K D w hs h
theorem zadv:Entry prog 202 za42 false:=zd4 za6r (fun a K D w hs h=>h.elim fun m h=>za6x m a K D w hs h)
noncomputable def za43:FSem:=mkE (ArgT.cons tyTExpr ArgT.nil) (Ty.leaf (.int .i64)) fun a=>F.zkc a.1
theorem zadw:Entry prog 151 za43 false:=eo { P:=prog,n:=9,tab:=[(201,za41),(202,za42)],locL:=[1] } (.seq .leaf (.seq (.seq .leaf (.cond (.seq .leaf .leaf) .leaf)) (.seq (.seq .leaf (.cond (.seq .leaf .leaf) .leaf)) (.seq .leaf .leaf)))) func151 ⟨zadu,zadv,trivial⟩
noncomputable def za44:FSem:=mkE (ArgT.cons (Ty.leaf .sl) ArgT.nil) (Ty.leaf .bool) fun a=>F.zfg a.1
theorem zadx:Entry prog 152 za44 false:=eo { P:=prog,n:=25,tab:=[] } (.seq .leaf (.seq (.seq .leaf (.block (.loop [(3,.leaf (.int .i64))] (.seq (.seq .leaf (.cond .leaf .leaf)) (.seq (.block (.seq .leaf (.block (.loop [(4,.leaf (.int .i64))] (.seq (.seq .leaf (.cond .leaf .leaf)) (.seq (.block (.seq (.draw [0,1,2,3,4,5,6,7,8]) (.cond (.seq .leaf .leaf) .leaf))) .leaf)))))) .leaf))))) (.seq .leaf .leaf))) func152 trivial
noncomputable def za45:FSem:=mkE (ArgT.cons (Ty.leaf .sl) (ArgT.cons (Ty.leaf (.int .i64)) ArgT.nil)) (Ty.leaf .bool) fun a=>F.zhi a.1 a.2.1
theorem zady:Entry prog 150 za45 false:=eo { P:=prog,n:=25,tab:=[] } (.seq .leaf (.seq (.seq .leaf (.block (.loop [(5,.leaf (.int .i64))] (.seq (.seq .leaf (.cond .leaf .leaf)) (.join [] (.block (.seq .leaf (.cond (.seq .leaf .leaf) .leaf))) .leaf))))) (.seq .leaf .leaf))) func150 trivial
noncomputable def za46:FSem:=mkE (ArgT.cons tyTConstraint (ArgT.cons (Ty.leaf (.int .i64)) (ArgT.cons (Ty.leaf (.int .i64)) ArgT.nil))) (Ty.leaf .bool) fun a=>F.zke a.1 a.2.1 a.2.2.1
theorem zadz:Entry prog 68 za46 false:=eo { P:=prog,n:=164,tab:=[(149,za3m),(151,za43),(152,za44),(150,za45)],rtL:=[(13,3),(21,3),(24,7),(29,3),(32,7),(37,3),(40,7),(45,3),(52,3),(59,3),(65,3),(72,7),(75,3),(80,3),(85,7),(89,3),(94,3),(96,3),(160,3)],locL:=[3,7] } (.seq .leaf (.seq .leaf (.join [] (.seq .leaf (.cond (.seq .leaf .leaf) .leaf)) (.seq (.seq .leaf (.block (.loop [(9,.leaf (.int .i64))] (.seq (.seq .leaf (.cond .leaf .leaf)) (.seq (.block (.seq .leaf (.cond (.seq .leaf .leaf) .leaf))) .leaf))))) (.join [] (.seq .leaf (.cond (.seq .leaf .leaf) .leaf)) (.seq .leaf (.seq (.seq .leaf (.block (.join [(98,.leaf (.bool))] (.seq .leaf (.cond .leaf (.seq .leaf (.cond .leaf (.seq .leaf (.cond .leaf .leaf)))))) (.cond (.join [(11,.leaf (.bool))] (.draw [0,1,2,3,4,5,6,7,8,9,10,11,12,13,14,15,16,17,18,19,20,21,22,23,24,25,26,27,28,29,30,31,32,33,34]) (.seq (.draw [0,1,2,3,4,5,6,7,8,9,10,11,12,13,14,15,16,17,18,19,20]) .leaf)) .leaf)))) (.seq .leaf .leaf)))))))) func68 ⟨zadf,zadw,zadx,zady,trivial⟩
noncomputable def za47:FSem:=mkE (ArgT.cons tyTSketch ArgT.nil) (Ty.leaf (.int .i64)) fun a=>F.zi4 a.1
theorem zae0:Entry prog 25 za47 false:=eo { P:=prog,n:=191,tab:=[(63,za3c),(64,zrj),(65,zvg),(66,zvh),(67,za3k),(68,za46)],rtL:=[(15,1),(23,1),(32,1),(42,1),(48,1),(54,6),(59,6),(65,6),(71,1),(77,1),(83,8),(89,8),(95,8),(97,8),(102,1),(108,1),(113,1),(116,10),(122,10),(129,10),(135,10),(137,1),(139,10),(147,10),(149,1),(151,10),(159,1),(166,1),(174,1),(180,1),(186,1)],locL:=[1,6,8,10] } (.seq .leaf (.seq (.seq .leaf (.cond (.seq .leaf .leaf) .leaf)) (.seq .leaf (.seq (.seq .leaf (.block (.loop [(4,.leaf (.int .i64))] (.seq (.seq .leaf (.cond .leaf .leaf)) (.join [] (.block (.seq .leaf (.cond (.seq .leaf .leaf) .leaf))) .leaf))))) (.seq (.seq .leaf (.block (.loop [(5,.leaf (.int .i64))] (.seq (.seq .leaf (.cond .leaf .leaf)) (.join [] (.block (.seq .leaf (.seq .leaf (.cond (.seq .leaf .leaf) .leaf)))) .leaf))))) (.seq (.seq .leaf (.block (.loop [(7,.leaf (.int .i64))] (.seq (.seq .leaf (.cond .leaf .leaf)) (.join [] (.block (.seq .leaf (.seq .leaf (.cond (.seq .leaf .leaf) .leaf)))) .leaf))))) (.seq (.seq .leaf (.block (.loop [(9,.leaf (.int .i64))] (.seq (.seq .leaf (.cond .leaf .leaf)) (.join [] (.block (.seq .leaf (.seq (.draw [0,1,2,3,4,5,6,7,8,9,10,11,12,13,14,15,16,17,18,19,20,21,22,23,24,25,26,27,28,29,30,31,32,33,34,35,36,37,38,39,40,41,42,43,44]) (.cond (.seq .leaf .leaf) .leaf)))) .leaf))))) (.seq (.seq .leaf (.block (.loop [(11,.leaf (.int .i64))] (.seq (.seq .leaf (.cond .leaf .leaf)) (.seq (.block (.seq (.draw [0,1,2,3,4,5,6,7]) (.cond (.seq .leaf .leaf) .leaf))) .leaf))))) (.seq (.seq .leaf (.block (.loop [(12,.leaf (.int .i64))] (.seq (.seq .leaf (.cond .leaf .leaf)) (.seq (.block (.seq (.draw [0,1,2,3,4,5,6,7,8,9,10]) (.cond (.seq .leaf .leaf) .leaf))) .leaf))))) (.seq .leaf .leaf)))))))))) func25 ⟨zad5,zx8,za6i,za6j,zadd,zadz,trivial⟩
noncomputable def za48:FSem:=mkE (ArgT.cons tyTRat (ArgT.cons (Ty.leaf (.int .i64)) ArgT.nil)) (Ty.leaf .bool) fun a=>F.ziu a.1 a.2.1
theorem zae1:Entry prog 111 za48 false:=eo { P:=prog,n:=23,tab:=[(64,zrj)],rtL:=[(5,2),(6,2),(12,2),(13,2)],locL:=[2] } (.seq .leaf (.seq .leaf .leaf)) func111 ⟨zx8,trivial⟩
noncomputable def zuk:ArgT (TExpr×Int×Unit):=(ArgT.cons tyTExpr (ArgT.cons (Ty.leaf (.int .i64)) ArgT.nil))
noncomputable def zup:Ty Int:=(Ty.leaf (.int .i64))
noncomputable def za49:FSem:=mkE zuk zup fun a=>F.zlh a.1 a.2.1
noncomputable def zaao (n:Nat):Cfg:={ P:=prog,n:=59,tab:=[(112,mkE zuk zup (fun a=>F.zfn n a.1 a.2.1))],rtL:=[(10,2),(16,2),(22,2),(23,2),(24,2),(30,2),(31,2),(32,2),(38,2),(49,2)],locL:=[2] }
theorem za6s:∃fn,prog.funcs[112]?=some fn∧fn.body.isNone=false∧(fn.name == "runtime.NumGoroutine")=false:=⟨_,func112,rfl,by decide⟩
theorem za6y:∀n a K D w,Sub D w→F.zfn n a.1 a.2.1 K D→Calls prog 112 (zuk.up a).toArray w (Post (fun v h=>zup.dn v fun r=>K r h) D w)
 | 0,_,_,_,_,_,h=>h.elim
 | n+1,a,K,D,w,hs,h=>zim (C:=zaao n) (F:=fun a=>F.zfn (n+1) a.1 a.2.1) (fn:=f112) (c:=bd f112) (an:=(.seq .leaf (.join [] (.seq .leaf (.cond (.seq .leaf .leaf) .leaf)) (.seq .leaf (.seq (.seq .leaf (.block (.loop [(5,.leaf (.int .i64)),(6,.leaf (.int .i64))] (.join [] (.seq .leaf (.cond .leaf .leaf)) (.seq (.block .leaf) .leaf))))) (.seq .leaf .leaf)))))) ⟨(zd4 za6s (za6y n)),trivial⟩ trivial func112 rfl rfl (fun _=>rfl) (by intro a K D; kernel_rfl) a K D w hs h
theorem zae2:Entry prog 112 za49 false:=zd4 za6s (fun a K D w hs h=>h.elim fun m h=>za6y m a K D w hs h)
noncomputable def za4a:FSem:=mkE (ArgT.cons tyTSketch ArgT.nil) (Ty.leaf .bool) fun a=>F.zkf a.1
theorem zae3:Entry prog 55 za4a false:=eo { P:=prog,n:=139,tab:=[(111,za48),(112,za49)],rtL:=[(9,1),(14,1),(20,1),(26,1),(32,1),(38,1),(44,1),(50,1),(59,1),(69,1),(75,1),(84,1),(90,1),(98,1),(104,1),(109,7),(114,7),(120,7),(126,7),(132,7)],locL:=[1,7] } (.seq .leaf (.join [] (.seq .leaf (.cond (.seq .leaf .leaf) .leaf)) (.seq (.seq .leaf (.block (.loop [(3,.leaf (.int .i64))] (.seq (.seq .leaf (.cond .leaf .leaf)) (.join [] (.block (.seq .leaf (.cond (.seq .leaf .leaf) .leaf))) .leaf))))) (.seq (.seq .leaf (.block (.loop [(4,.leaf (.int .i64))] (.seq (.seq .leaf (.cond .leaf .leaf)) (.seq (.block (.seq .leaf (.cond (.seq .leaf .leaf) .leaf))) .leaf))))) (.seq (.seq .leaf (.block (.loop [(5,.leaf (.int .i64))] (.seq (.seq .leaf (.cond .leaf .leaf)) (.seq (.block (.seq .leaf (.cond (.seq .leaf .leaf) .leaf))) .leaf))))) (.seq (.seq .leaf (.block (.loop [(6,.leaf (.int .i64))] (.seq (.seq .leaf (.cond .leaf .leaf)) (.seq (.block (.seq .leaf (.join [] (.seq .leaf (.cond (.seq .leaf .leaf) .leaf)) (.seq .leaf (.block (.loop [(8,.leaf (.int .i64))] (.seq (.seq .leaf (.cond .leaf .leaf)) (.seq (.block (.seq .leaf (.cond (.seq .leaf .leaf) .leaf))) .leaf)))))))) .leaf))))) (.seq .leaf .leaf))))))) func55 ⟨zae1,zae2,trivial⟩
end
end Den
end

section
set_option maxRecDepth 100000
namespace Den
open Go Go.Proofs.Tryz
noncomputable section
noncomputable def za4b:FSem:=mkE (ArgT.cons tyTSketch ArgT.nil) (Ty.leaf .sl) fun a=>F.ziy a.1
theorem zae4:Entry prog 107 za4b false:=eo { P:=prog,n:=20,tab:=[],rtL:=[(6,1),(14,5)],locL:=[1,5,16] } (.seq .leaf (.seq .leaf (.seq (.seq .leaf (.block (.loop [(3,.leaf (.sl)),(9,.leaf (.int .i64))] (.seq .leaf (.seq (.cond .leaf .leaf) (.seq (.block (.seq .leaf .leaf)) .leaf)))))) (.seq .leaf .leaf)))) func107 trivial
noncomputable def za4c:FSem:=mkE (ArgT.cons (Ty.leaf .sl) ArgT.nil) (Ty.leaf .sl) fun a=>F.zbo a.1
theorem zae5:Entry prog 167 za4c false:=eo { P:=prog,n:=8,tab:=[] } (.seq .leaf (.seq (.seq .leaf (.cond (.seq .leaf .leaf) .leaf)) (.seq .leaf .leaf))) func167 trivial
noncomputable def za4d:FSem:=mkE (ArgT.cons tyTSketch ArgT.nil) (Ty.leaf .sl) fun a=>F.znw a.1
theorem zae6:Entry prog 106 za4d false:=eo { P:=prog,n:=9,tab:=[(167,za4c),(133,zv5)],rtL:=[(3,1)],locL:=[1] } (.seq .leaf (.seq (.draw [0,1,3,2,4,5,6]) .leaf)) func106 ⟨zae5,za67,trivial⟩
noncomputable def za4e:FSem:=mkE (ArgT.cons tyTConstraint (ArgT.cons (Ty.leaf .sl) ArgT.nil)) (Ty.leaf .sl) fun a=>F.zl4 a.1 a.2.1
theorem zae7:Entry prog 108 za4e false:=eo { P:=prog,n:=38,tab:=[(134,zv6)],rtL:=[(8,2),(11,2),(23,2)],locL:=[2,21,34] } (.seq .leaf (.seq .leaf (.seq (.seq .leaf (.block (.loop [(5,.leaf (.sl)),(14,.leaf (.int .i64))] (.seq .leaf (.seq (.cond .leaf .leaf) (.join [(5,.leaf (.sl))] (.block (.seq .leaf (.seq .leaf (.seq .leaf (.block (.join [(25,.leaf (.bool))] (.seq .leaf (.cond .leaf (.seq .leaf (.cond .leaf .leaf)))) (.cond .leaf .leaf))))))) .leaf)))))) (.seq .leaf .leaf)))) func108 ⟨za68,trivial⟩
noncomputable def za4f:FSem:=mkE (ArgT.cons (Ty.leaf (.int .i64)) (ArgT.cons (Ty.leaf .ptr) ArgT.nil)) (Ty.leaf .bool) fun a=>F.zl2 a.1 a.2.1
theorem zae8:Entry prog 156 za4f false:=eo { P:=prog,n:=8,tab:=[(98,zkn)] } (.seq .leaf (.seq .leaf .leaf)) func156 ⟨zmb,trivial⟩
noncomputable def za4g:FSem:=mkE (ArgT.cons (Ty.leaf .sl) (ArgT.fnc 156 1 ArgT.nil)) (Ty.leaf (.int .i64)) fun a=>F.zcl a.1 a.2.1
theorem zae9:Entry prog 135 za4g false:=eo { P:=prog,n:=19,tab:=[(156,za4f)] } (.seq .leaf (.seq (.seq .leaf (.block (.loop [(8,.leaf (.int .i64))] (.seq .leaf (.seq (.cond .leaf .leaf) (.seq (.block (.seq .leaf (.seq .leaf (.cond (.seq .leaf .leaf) .leaf)))) .leaf)))))) (.seq .leaf .leaf))) func135 ⟨zae8,trivial⟩
noncomputable def za4h:FSem:=mkE (ArgT.cons (Ty.leaf .sl) (ArgT.fnc 156 1 ArgT.nil)) (Ty.leaf .bool) fun a=>F.zcf a.1 a.2.1
theorem zaea:Entry prog 102 za4h false:=eo { P:=prog,n:=9,tab:=[(135,za4g)] } (.seq .leaf (.seq .leaf .leaf)) func102 ⟨zae9,trivial⟩
noncomputable def za4i:FSem:=mkE (ArgT.cons tyTSketch (ArgT.cons (Ty.leaf .sl) ArgT.nil)) (Ty.leaf .sl) fun a=>F.zk3 a.1 a.2.1
theorem zaeb:Entry prog 77 za4i false:=eo { P:=prog,n:=33,tab:=[(107,za4b),(106,za4d),(108,za4e),(102,za4h)],locL:=[2,8,29] } (.seq .leaf (.seq .leaf (.seq .leaf (.seq (.seq .leaf (.block (.loop [(5,.leaf (.sl)),(15,.leaf (.int .i64))] (.seq .leaf (.seq (.cond .leaf .leaf) (.join [(5,.leaf (.sl))] (.block (.seq .leaf (.seq .leaf (.seq .leaf (.cond .leaf .leaf))))) .leaf)))))) (.seq .leaf .leaf))))) func77 ⟨zae4,zae6,zae7,zaea,trivial⟩
noncomputable def zvk:FSem:=mkE (ArgT.cons tyTSketch ArgT.nil) (Ty.tup (.cons (Ty.leaf .sl) (.cons (Ty.leaf .sl) .nil)) (fun x=>(x.1,x.2,())) (fun y=>(y.1,y.2.1)) (fun _=>rfl) (fun _=>rfl)) fun a=>F.zin a.1
theorem za6m:Entry prog 34 zvk false:=eo { P:=prog,n:=21,tab:=[(56,zrg),(19,zv9),(77,za4i)],locL:=[1] } (.seq .leaf (.seq (.seq .leaf (.cond (.seq .leaf .leaf) .leaf)) (.seq .leaf (.seq (.seq .leaf (.cond (.seq .leaf .leaf) .leaf)) (.seq .leaf .leaf))))) func34 ⟨zx5,za6b,zaeb,trivial⟩
noncomputable def za4j:FSem:=mkE (ArgT.cons (Ty.leaf .sl) (ArgT.cons (Ty.leaf .sl) ArgT.nil)) (Ty.leaf .bool) fun a=>F.zo8 a.1 a.2.1
theorem zaec:Entry prog 81 za4j false:=eo { P:=prog,n:=26,tab:=[] } (.seq .leaf (.seq (.seq .leaf (.cond (.seq .leaf .leaf) .leaf)) (.seq (.seq .leaf (.block (.loop [(5,.leaf (.int .i64))] (.seq (.seq .leaf (.cond .leaf .leaf)) (.seq (.block (.seq (.draw [0,1,2,3,4,5,6,7,8]) (.cond (.seq .leaf .leaf) .leaf))) .leaf))))) (.seq .leaf .leaf)))) func81 trivial
noncomputable def zp1:FSem:=mkE (ArgT.cons (Ty.leaf .sl) (ArgT.cons (Ty.leaf .sl) ArgT.nil)) (Ty.leaf .bool) fun a=>F.zhs a.1 a.2.1
theorem zx4:Entry prog 36 zp1 false:=eo { P:=prog,n:=8,tab:=[(81,za4j)] } (.seq .leaf (.seq .leaf .leaf)) func36 ⟨zaec,trivial⟩
noncomputable def za4k:FSem:=mkE (ArgT.cons tyTSketch ArgT.nil) (Ty.leaf .bool) fun a=>F.zf9 a.1
theorem zaed:Entry prog 37 za4k false:=eo { P:=prog,n:=16,tab:=[(56,zrg),(19,zv9)],locL:=[1] } (.seq .leaf (.seq (.seq .leaf (.cond (.seq .leaf .leaf) .leaf)) (.seq .leaf (.seq .leaf .leaf)))) func37 ⟨zx5,za6b,trivial⟩
noncomputable def zof:FSem:=mkE ArgT.nil tyTExpr fun a=>F.zi2
theorem zug:Entry prog 43 zof false:=eo { P:=prog,n:=3,tab:=[(86,zrl)],locL:=[0] } (.seq .leaf (.seq .leaf .leaf)) func43 ⟨zxa,trivial⟩
noncomputable def za4l:FSem:=mkE (ArgT.cons tyTGraph (ArgT.cons tyTExpr ArgT.nil)) tyTSketch fun a=>F.zjf a.1 a.2.1
theorem zaee:Entry prog 42 za4l false:=eo { P:=prog,n:=53,tab:=[],rtL:=[(9,2),(14,5),(16,3),(18,3),(23,5),(25,2),(31,5),(33,2),(39,2),(51,5)],locL:=[2,3,4,5,21,49] } (.seq .leaf (.seq .leaf (.seq (.seq .leaf (.block (.loop [(5,.box [.sl,.sl,.sl,.sl,.sl,.sl]),(6,.leaf (.int .i64))] (.seq (.seq .leaf (.cond .leaf .leaf)) (.seq (.block .leaf) .leaf))))) (.seq (.seq .leaf (.block (.loop [(5,.box [.sl,.sl,.sl,.sl,.sl,.sl]),(7,.leaf (.int .i64))] (.seq (.seq .leaf (.cond .leaf .leaf)) (.seq (.block (.draw [0,1,2,3,4,5,6,7,8,9,10,11,12,13,15,14,16,17,18,19,20,21])) .leaf))))) (.seq .leaf .leaf))))) func42 trivial
noncomputable def za4m:FSem:=mkE (ArgT.cons (Ty.leaf (.int .i64)) (ArgT.cons (Ty.leaf (.int .i64)) ArgT.nil)) (Ty.leaf .bool) fun a=>F.zkq a.1 a.2.1
theorem zaef:Entry prog 158 za4m false:=eo { P:=prog,n:=12,tab:=[] } (.seq .leaf (.seq .leaf .leaf)) func158 trivial
noncomputable def za4n:FSem:=mkE (ArgT.cons (Ty.leaf .sl) ArgT.nil) (Ty.leaf (.int .i64)) fun a=>F.znv a.1
theorem zaeg:Entry prog 205 za4n false:=eo { P:=prog,n:=18,tab:=[] } (.seq .leaf (.seq .leaf (.seq (.seq .leaf (.block (.loop [(8,.leaf (.int .i64))] (.seq .leaf (.seq (.cond .leaf .leaf) (.seq (.block (.seq .leaf (.seq .leaf (.cond (.seq .leaf .leaf) .leaf)))) .leaf)))))) (.seq .leaf .leaf)))) func205 trivial
noncomputable def za4o:FSem:=mkE (ArgT.cons zxe (ArgT.cons zxe ArgT.nil)) (Ty.leaf (.int .i64)) fun a=>F.zia a.1 a.2.1
theorem zaeh:Entry prog 159 za4o false:=eo { P:=prog,n:=17,tab:=[(163,e_x13),(205,za4n)],rtL:=[(5,2),(7,3),(10,2),(12,3)],locL:=[2,3] } (.seq .leaf (.seq (.draw [0,1,2,3,5,6,7,8,4,9,10,11,12]) .leaf)) func159 ⟨t_x13,zaeg,trivial⟩
end
end Den
end

section
set_option maxRecDepth 100000
namespace Den
open Go Go.Proofs.Tryz
noncomputable section
noncomputable def za4p:FSem:=mkE (ArgT.cons tyTGraph ArgT.nil) (Ty.leaf .bool) fun a=>F.zk5 a.1
theorem zaei:Entry prog 82 za4p false:=eo { P:=prog,n:=58,tab:=[(158,za4m),(159,za4o)],rtL:=[(5,1),(9,1),(13,1),(21,1),(23,4),(28,1),(30,4),(36,4),(38,4),(46,1)],locL:=[1,4] } (.seq .leaf (.join [] (.seq .leaf (.cond (.seq .leaf .leaf) .leaf)) (.seq (.seq .leaf (.block (.loop [(16,.leaf (.int .i64))] (.seq .leaf (.seq (.cond .leaf .leaf) (.join [] (.block (.seq .leaf (.seq (.draw [0,1,2,3,4,5,6,7,8,9,10,11,12,13,14,15,16,17,18,19,20,21,22,23,24,25,26,27,28,29,30,31,32,33,34,35]) (.cond (.seq .leaf .leaf) .leaf)))) .leaf)))))) (.seq .leaf .leaf)))) func82 ⟨zaef,zaeh,trivial⟩
noncomputable def za4q:FSem:=mkE (ArgT.cons tyTGraph ArgT.nil) (Ty.leaf .sl) fun a=>F.zix a.1
theorem zaej:Entry prog 39 za4q false:=eo { P:=prog,n:=94,tab:=[(82,za4p)],rtL:=[(14,1),(18,1),(21,1),(29,7),(36,7),(43,7),(50,7)],locL:=[1,7,90] } (.seq .leaf (.seq (.seq .leaf (.cond (.seq .leaf .leaf) .leaf)) (.seq .leaf (.seq (.seq .leaf (.block (.loop [(4,.leaf (.bool))] (.seq (.seq .leaf (.cond .leaf .leaf)) (.block (.seq .leaf (.seq .leaf (.seq (.seq .leaf (.block (.loop [(24,.leaf (.int .i64))] (.seq .leaf (.seq (.cond .leaf .leaf) (.join [] (.block (.seq .leaf (.seq .leaf (.cond (.seq .leaf .leaf) .leaf)))) .leaf)))))) (.seq .leaf (.block (.loop [(4,.leaf (.bool)),(59,.leaf (.int .i64))] (.seq .leaf (.seq (.cond .leaf .leaf) (.join [(4,.leaf (.bool))] (.block (.seq .leaf (.seq .leaf (.cond .leaf .leaf)))) .leaf)))))))))))))) (.seq .leaf (.seq (.seq .leaf (.block (.loop [(9,.leaf (.sl)),(80,.leaf (.int .i64))] (.seq .leaf (.seq (.cond .leaf .leaf) (.join [(9,.leaf (.sl))] (.block (.seq .leaf (.seq .leaf (.cond .leaf .leaf)))) .leaf)))))) (.seq .leaf .leaf))))))) func39 ⟨zaei,trivial⟩
noncomputable def zod:FSem:=mkE ArgT.nil (Ty.leaf .bool) fun a=>F.zd7
theorem zue:Entry prog 32 zod false:=eo { P:=prog,n:=51,tab:=[(43,zof),(42,za4l),(34,zvk),(36,zp1),(37,za4k),(39,za4q)],locL:=[1,2] } (.seq .leaf (.seq .leaf (.seq .leaf (.seq (.draw [0,1,2,3,4,5,6,7,8]) (.seq (.draw [0,1,2,3,4,5,6,7,8,9,10,11,12,13,14,15,16,17,18,19,20,21,22,23,24,25,26]) .leaf))))) func32 ⟨zug,zaee,za6m,zx4,zaed,zaej,trivial⟩
noncomputable def zoe:FSem:=mkE (ArgT.cons tyTSketch ArgT.nil) (Ty.leaf .bool) fun a=>F.zk8 a.1
theorem zuf:Entry prog 33 zoe false:=eo { P:=prog,n:=23,tab:=[(55,za4a)],rtL:=[(6,1),(12,1),(18,1)],locL:=[1] } (.seq .leaf (.seq .leaf .leaf)) func33 ⟨zae3,trivial⟩
noncomputable def zol:FSem:=mkE (ArgT.cons tyTSketch (ArgT.cons (Ty.leaf (.int .u8)) ArgT.nil)) (Ty.leaf .bool) fun a=>F.zi1 a.1 a.2.1
theorem za1c:Entry prog 10 zol false:=eo { P:=prog,n:=93,tab:=[(34,zvk),(32,zod),(33,zoe),(25,za47)],rtL:=[(29,2),(35,2),(44,2),(49,2),(54,2),(60,5)],locL:=[2,5] } (.seq .leaf (.join [] (.seq .leaf (.cond (.seq .leaf .leaf) .leaf)) (.seq .leaf (.seq .leaf (.seq (.draw [1,2,3,4,6,7,8,9,10,0,5,11,12,13]) (.seq .leaf (.seq .leaf (.seq (.seq .leaf (.block (.loop [(73,.leaf (.int .i64))] (.seq .leaf (.seq (.cond .leaf .leaf) (.seq (.block (.seq .leaf (.seq .leaf (.seq (.seq .leaf (.block (.loop [(13,.leaf (.bool)),(79,.leaf (.int .i64))] (.seq .leaf (.seq (.cond .leaf .leaf) (.join [(13,.leaf (.bool))] (.block (.seq .leaf .leaf)) .leaf)))))) (.seq .leaf (.cond (.seq .leaf .leaf) .leaf)))))) .leaf)))))) (.seq .leaf .leaf))))))))) func10 ⟨za6m,zue,zuf,zae0,trivial⟩
end
end Den
end

section
set_option maxRecDepth 100000
namespace Den
open Go Go.Proofs.Tryz
noncomputable section
end
end Den
end

section
namespace Den
open Go Iv Lx
def bc (b:Bool):Value:=.bool b
theorem zo0 {α:Type} {f:α→Value}:∀ys:List α,ys.map f=ys.flatMap fun z=>[f z]
 | []=>rfl
 | a :: r=>by rw [List.map_cons,List.flatMap_cons,zo0 r]; rfl
def gl (gn:List Bool):List Int:=((List.range gn.length).filter fun i=>!(gn.getD i true)).map fun i:Nat=>(i:Int)
theorem znf {gn:List Bool} {x:Int}:x∈gl gn↔∃i:Nat,x=i∧∃h:i<gn.length,gn[i]=false:=by
 unfold gl
 rw [List.mem_map]
 constructor
 · rintro ⟨i,hi,rfl⟩
   rw [List.mem_filter,List.mem_range] at hi
   refine ⟨i,rfl,hi.1,?_⟩
   have:=hi.2
   rw [zb9 hi.1] at this
   simpa using this
 · rintro ⟨i,rfl,hi,hg⟩
   refine ⟨i,List.mem_filter.2 ⟨List.mem_range.2 hi,?_⟩,rfl⟩
   rw [zb9 hi,hg]; rfl
theorem zfd {gn:List Bool} {i:Nat} (hi:i<gn.length):(i:Int)∈gl gn↔gn[i]=false:=by
 rw [znf]
 constructor
 · rintro ⟨j,hj,h1,h2⟩
   have:j=i:=by omega
   subst this; exact h2
 · intro h; exact ⟨i,rfl,hi,h⟩
theorem zabg {gn:List Bool} {N:Nat} (hN:gn.length=N):gl gn=(rngI N).filter fun x=>decide (x∈gl gn):=by
 conv=>lhs; unfold gl
 unfold rngI
 rw [List.filter_map,hN]
 congr 1
 refine List.filter_congr fun i hi=>?_
 have hi':i<gn.length:=by rw [hN]; exact List.mem_range.1 hi
 rw [Bool.eq_iff_iff,Function.comp_apply,decide_eq_true_iff,zfd hi',zb9 hi']
 simp
def cntF (gn:List Bool):Nat:=gn.countP fun b=>!b
theorem za7h {gn:List Bool}:∀{i:Nat} (hi:i<gn.length),gn[i]=false→cntF (gn.set i true)+1=cntF gn:=by
 induction gn with
 | nil=>intro i hi; simp at hi
 | cons a r ih=>
   intro i hi hg
   cases i with
   | zero=>
     simp only [List.getElem_cons_zero] at hg
     subst hg
     simp [cntF]
   | succ i=>
     have:=ih (i:=i) (by simpa using hi) (by simpa using hg)
     unfold cntF at this ⊢
     simp only [List.set_cons_succ,List.countP_cons]
     omega
section
variable {h D : Hp} {g : TGraph} {es : List (Int × Int)} {l m : Sl} {gn : List Bool} {ds : List Int} {Kb : Bool → Hp → Prop} {Ki : Int → Hp → Prop} {Ks : Sl → Hp → Prop}
def OB (D h:Hp) (l:Sl) (gn:List Bool):Prop:=Own D h 1 l (gn.map bc)
theorem OB.len (ho:OB D h l gn):l.len=gn.length:=by have:=ho.2.1; simp at this; omega
theorem OB.get {i:Int} {K:Bool→Prop} (ho:OB D h l gn) (k:Nat) (hi:i=k) (hk:k<gn.length) (H:K gn[k]):idxP l i 1 fun a=>ldL .bool a K h:=by
 have hr:Rd h 1 l (gn.flatMap fun z=>[bc z]):=by rw [←zo0]; exact ho.rd
 refine rd_el (c:=fun z:Bool=>[bc z]) (n:=1) (fun _=>rfl) (by decide) hr k hi hk fun a ha=>?_
 have:=ha 0 _ (by decide) rfl
 rw [zb7] at this
 exact ⟨_,this,H⟩
theorem OB.set {i:Int} {v:Bool} {K:Hp→Prop} (k:Nat) (ho:OB D h l gn) (hi:i=k) (hk:k<gn.length) (H:∀h',OB D h' l (gn.set k v)→(∀j,(∀a,l.a=some a→j≠a.block)→h' j=h j)→K h'):idxP l i 1 fun a=>stP a [.bool v] K h:=by
 unfold OB at ho
 rw [zo0] at ho
 refine zzo (c:=fun z:Bool=>[bc z]) (n:=1) (fun _=>rfl) (by decide) k ho hi hk rfl fun h' h1 h2=>H h' ?_ h2
 unfold OB
 rw [zo0]; exact h1
theorem zqz {α:Type} {f:α→Value} {x:α}:∀n,repl n [f x]=(List.replicate n x).map f
 | 0=>rfl
 | n+1=>by
   have:=zqz (f:=f) (x:=x) n
   unfold repl at this ⊢
   rw [List.replicate_succ,List.flatten_cons,this,List.replicate_succ,List.map_cons]
   rfl
theorem za9u {h':Hp} {n1 n2:Nat} {cs1 cs2:List Value} (h1:Own D h n1 l cs1) (h2:Own h h' n2 m cs2):Apt l m:=fun a b ha hb hh=>by
 have h3:=za83 h2 hb
 obtain ⟨_,_,_,g4⟩:=h1
 rw [ha] at g4
 obtain ⟨_,_,_,x,g5,_⟩:=g4
 rw [←hh,g5] at h3; cases h3
def degs (es:List (Int×Int)) (T:List Int) (N:Nat):List Int:=(List.range N).map fun i:Nat=>((degL es T (i:Int):Nat):Int)
theorem znx {es:List (Int×Int)} {T:List Int} {N i:Nat} (hi:i<N):(degs es T N)[i]?=some ((degL es T (i:Int):Nat):Int):=by
 unfold degs
 rw [List.getElem?_map,List.getElem?_range hi]
 rfl
theorem zdr {es:List (Int×Int)} {T:List Int} {N:Nat}:(degs es T N).length=N:=by simp [degs]
theorem za7p {es:List (Int×Int)} {T:List Int} {N:Nat} {e:Int×Int} (hn:¬(e.1∈T∧e.2∈T)):degs (es++[e]) T N=degs es T N:=by
 unfold degs
 refine List.map_congr_left fun i _=>?_
 rw [zoy,if_neg (fun hh=>hn ⟨hh.1,hh.2.1⟩)]
 rfl
theorem za9e {es:List (Int×Int)} {T:List Int} {N a b:Nat} (ha:a<N) (hb:b<N) (hab:a≠b) (hT:(a:Int)∈T∧(b:Int)∈T) :
 ((degs es T N).set a (((degL es T (a:Int):Nat):Int)+1)).set b (((degL es T (b:Int):Nat):Int)+1)=degs (es++[((a:Int),(b:Int))]) T N:=by
 refine List.ext_getElem? fun i=>?_
 rcases Nat.lt_or_ge i N with h1 | h1
 · rw [znx h1,zoy]
   simp only [hT.1,hT.2,true_and]
   rw [List.getElem?_set]
   by_cases hib:b=i
   · subst hib
     rw [if_pos rfl,if_pos (by simp [zdr]; exact h1),if_pos (.inr rfl)]
     rfl
   · rw [if_neg hib,List.getElem?_set]
     by_cases hia:a=i
     · subst hia
       rw [if_pos rfl,if_pos (by simp [zdr]; exact h1),if_pos (.inl rfl)]
       rfl
     · rw [if_neg hia,znx h1,if_neg (by omega)]
       rfl
 · rw [List.getElem?_eq_none (by simp [zdr]; exact h1),List.getElem?_eq_none (by rw [zdr]; exact h1)]
theorem zr5 (hg:LR a2c 2 A2P h g.edges es) (hlen:es.length≤1000000) (H0:∀h',h.le h'→¬GV g.n es→Ks nilS h') (H:∀y T h',h.le h'→GV g.n es→IL h' y T→IsCore g.n.toNat es T→Ks y h'):callP (F.zix g) Ks h:=by
 refine za1 (fun y h'=>(¬GV g.n es∧y=nilS)∨(GV g.n es∧∃T,IL h' y T∧IsCore g.n.toNat es T)) (fun K' hk=>?_) fun y h' hl hb=>by
  rcases hb with ⟨h1,rfl⟩ | ⟨h1,T,h2,h3⟩
  · exact H0 h' hl h1
  · exact H y T h' hl h1 h2 h3
 unfold F.zix
 refine zya hg (by omega) fun b h1 hl1 hb=>?_
 refine za2 (fun h2=>hk _ _ hl1 (.inl ⟨fun hv=>(by rw [hb.2 hv] at h2; cases h2),rfl⟩)) (fun h2=>?_)
 have hv:=hb.1 (by simpa using h2)
 obtain ⟨N,hN⟩:∃N:Nat,g.n=N:=⟨g.n.toNat,by have:=hv.1.1; omega⟩
 have hN60:N≤60:=by have:=hv.1.2; omega
 rw [hN,show ((N:Nat):Int).toNat=N from rfl] at hk
 rw [hN] at hv
 rw [hN]
 have hgl:=hg.len zf0
 have hes:=hv.2.1
 refine zw0 (size:=1) N N rfl rfl (Nat.le_refl _) (by omega) (by omega) rfl fun m2 h3 hm2 _ ho3=>?_
 have ho3:OB h1 h3 m2 (List.replicate N false):=by unfold OB; rw [←zqz]; exact ho3
 refine zpp (fun f st h'=>∃gn:List Bool,OB h1 h' m2 gn∧gn.length=N∧(∀C:List Int,(∀x∈C,0≤x∧x<N)→(∀x∈C,3≤degL es C x)→∀x∈C,x∈gl gn) ∧
  (st.1=false→∀x∈gl gn,3≤degL es (gl gn) x)∧cntF gn*2+(if st.1=true then 1 else 0)≤f) (n0:=cntF (List.replicate N false)*2+1)
  ⟨_,ho3,by simp,fun C hC _ x hx=>?_,fun hh=>(by cases hh),by simp⟩ ?_
 · obtain ⟨c1,c2⟩:=hC x hx
   obtain ⟨i,rfl⟩:∃i:Nat,x=i:=⟨x.toNat,by omega⟩
   rw [zfd (by simp; omega)]
   simp
 rintro f ⟨ch,_⟩ h4 ⟨gn,ho,hgn,hgr,hst,hf⟩ K2 hK2
 simp only at hst hf
 have hle4:=Hp.le_trans hl1 ho.1
 have hml:=ho.len
 refine za2 (fun h5=>?_) (fun h5=>?_)
 ·
  simp only at h5
  rw [if_pos h5] at hf
  refine zw0 (size:=1) N N rfl rfl (Nat.le_refl _) (by omega) (by omega) rfl fun m5 h6 hm5 _ ho6=>?_
  have ho6:OI h4 h6 m5 (degs [] (gl gn) N):=by
   have e:degs [] (gl gn) N=List.replicate N 0:=by
    unfold degs
    refine List.ext_getElem (by simp) fun i h1 h2=>?_
    simp [degL]
   unfold OI
   rw [e,←zqz]; exact ho6
  refine zbr (n:=es.length) (by omega) (fun i h'=>OI h4 h' m5 (degs (es.take i) (gl gn) N)) (by simpa using ho6) ?_
  intro q h7 hq ho7 k hk2
  have hle7:=Hp.le_trans hle4 ho7.dle
  have hob7:OB h1 h7 m2 gn:=Own.le ho ho7.dle
  refine za0 (fun h8=>?_) (fun h8=>?_)
  · have hq':q<es.length:=by simp only at h8; omega
    have heq:=hes _ (List.getElem_mem hq')
    obtain ⟨a,ha⟩:∃a:Nat,es[q].1=a:=⟨es[q].1.toNat,by omega⟩
    obtain ⟨b,hb'⟩:∃b:Nat,es[q].2=b:=⟨es[q].2.toNat,by omega⟩
    have haN:a<N:=by omega
    have hbN:b<N:=by omega
    have hst:es.take (q+1)=es.take q++[es[q]]:=(List.take_append_getElem hq').symm
    refine za3 (fun _ h'=>OI h4 h' m5 (degs (es.take (q+1)) (gl gn) N)) (fun _ h' hh=>hk2 _ hq' hh) ?_
    refine (hg.le zf0 hle7).get zf0 q rfl hq' fun a10 x hxx hcx=>⟨_,hcx 0 _ rfl,_,hcx 1 _ rfl,?_⟩
    obtain ⟨x1,x2⟩:=hxx
    rw [x1,x2,ha,hb']
    have same:¬(es[q].1∈gl gn∧es[q].2∈gl gn)→OI h4 h7 m5 (degs (es.take (q+1)) (gl gn) N):=fun hn=>by rw [hst,za7p hn]; exact ho7
    refine hob7.get a rfl (by omega) ?_
    refine za2 (fun h9=>?_) (fun h9=>same fun hh=>?_)
    · refine hob7.get b rfl (by omega) ?_
      refine za2 (fun h10=>?_) (fun h10=>same fun hh=>?_)
      · have hT:(a:Int)∈gl gn∧(b:Int)∈gl gn:=⟨(zfd (by omega)).2 (by simpa using h9),(zfd (by omega)).2 (by simpa using h10)⟩
        have hdl:∀i,degL (es.take q) (gl gn) i≤es.length:=fun i=>Nat.le_trans za9d (by rw [List.length_take]; omega)
        have hga:∀{i:Nat} (hi:i<N) (hh:i<(degs (es.take q) (gl gn) N).length),(degs (es.take q) (gl gn) N)[i]=((degL (es.take q) (gl gn) (i:Int):Nat):Int):=fun hi hh=>by
         have:=znx (es:=es.take q) (T:=gl gn) hi
         rw [List.getElem?_eq_getElem hh] at this
         exact Option.some.inj this
        refine ho7.il.get a rfl (by rw [zdr]; exact haN) ?_
        rw [hga haN (by rw [zdr]; exact haN)]
        have d1:=hdl (a:Int)
        have d2:=hdl (b:Int)
        rw [w64 (by omega)]
        refine ho7.set a rfl (by rw [zdr]; exact haN) fun h11 ho11=>?_
        refine ho11.il.get b rfl (by rw [List.length_set,zdr]; exact hbN) ?_
        have hab:a≠b:=by omega
        rw [List.getElem_set_ne hab,hga hbN (by rw [zdr]; exact hbN),w64 (by omega)]
        refine ho11.set b rfl (by rw [List.length_set,zdr]; exact hbN) fun h12 ho12=>?_
        show OI _ _ _ _
        rw [hst]
        have he2:es[q]=((a:Int),(b:Int)):=Prod.ext ha hb'
        rw [he2,←za9e haN hbN hab hT]
        exact ho12
      · rw [hb',zfd (by omega)] at hh
        rw [hh.2] at h10; cases h10
    · rw [ha,zfd (by omega)] at hh
      rw [hh.1] at h9; cases h9
  · have:q=es.length:=by simp only at h8; omega
    subst this
    rw [List.take_length] at ho7
    have hap:Apt m2 m5:=za9u ho ho7
    have hod:OI h1 h7 m5 (degs es (gl gn) N):=OI.base ho7 ho.1
    have hml7:=hob7.len
    refine zak (fun st h'=>∃(i:Nat) (gn':List Bool),st.2.1=(i:Int)∧i≤N∧OB h1 h' m2 gn'∧OI h1 h' m5 (degs es (gl gn) N)∧gn'.length=N ∧
     (∀j (hj:j<N),i≤j→gn'.getD j true=gn.getD j true)∧(∀j (hj:j<N),gn'.getD j true=true→gn.getD j true=true∨degL es (gl gn) (j:Int)≤2)∧(∀j (hj:j<N),gn.getD j true=true→gn'.getD j true=true) ∧
     (∀j (hj:j<N),j<i→gn'.getD j true=false→3≤degL es (gl gn) (j:Int))∧(st.1=false→gn'=gn)∧(st.1=true→cntF gn'<cntF gn)∧cntF gn'≤cntF gn) (fun st=>(N-st.2.1).toNat)
     ⟨0,gn,rfl,by omega,hob7,hod,hgn,fun j hj _=>rfl,fun j hj hh=>.inl hh,fun j hj hh=>hh,fun j hj hji=>by omega,fun _=>rfl,fun hh=>(by cases hh),Nat.le_refl _⟩ ?_
    clear hob7 hod ho7 hk2
    rintro ⟨c9,i9,_⟩ h9 ⟨i,gn',hi9,hi,hob,hod,hgn',r1,r2,r3,r4,r5,r6,r7⟩
    simp only at hi9
    subst hi9
    have hobl:=hob.len
    refine za0 (fun h10=>?_) (fun h10=>?_)
    · have hi':i<N:=by simp only at h10; omega
      have hcur:=r1 i hi' (Nat.le_refl _)
      rw [zb9 (by omega)] at hcur
      refine za3 (fun s h'=>∃gn'':List Bool,OB h1 h' m2 gn''∧OI h1 h' m5 (degs es (gl gn) N)∧gn''.length=N ∧
       (∀j (hj:j<N),i+1≤j→gn''.getD j true=gn.getD j true)∧(∀j (hj:j<N),gn''.getD j true=true→gn.getD j true=true∨degL es (gl gn) (j:Int)≤2)∧(∀j (hj:j<N),gn.getD j true=true→gn''.getD j true=true) ∧
       (∀j (hj:j<N),j<i+1→gn''.getD j true=false→3≤degL es (gl gn) (j:Int))∧(s.1=false→gn''=gn)∧(s.1=true→cntF gn''<cntF gn)∧cntF gn''≤cntF gn) ?_ ?_
      · rintro ⟨c,_⟩ h11 ⟨gn'',q1,q2,q3,q4,q5,q6,q7,q8,q9,q10⟩
        exact ⟨⟨i+1,gn'',by (try simp only); rw [w64 (by omega)]; rfl,by omega,q1,q2,q3,q4,q5,q6,q7,q8,q9,q10⟩,by (try simp only); rw [w64 (by omega)]; omega⟩
      · refine hob.get i rfl (by omega) ?_
        have hd3:∀j (hj:j<N),j<i+1→gn'.getD j true=false→(j=i→3≤degL es (gl gn) (i:Int))→3≤degL es (gl gn) (j:Int):=fun j hj hji hh hc=>by
         rcases Nat.lt_or_ge j i with h1 | h1
         · exact r4 j hj h1 hh
         · have:j=i:=by omega
           subst this; exact hc rfl
        refine za2 (fun h11=>?_) (fun h11=>⟨gn',hob,hod,hgn',fun j hj hij=>r1 j hj (by omega),r2,r3,fun j hj hji hh=>hd3 j hj hji hh fun e=>?_,r5,r6,r7⟩)
        · refine hod.il.get i rfl (by rw [zdr]; exact hi') ?_
          have hgi:(degs es (gl gn) N)[i]'(by rw [zdr]; exact hi')=((degL es (gl gn) (i:Int):Nat):Int):=by
           have:=znx (es:=es) (T:=gl gn) hi'
           rw [List.getElem?_eq_getElem (by rw [zdr]; exact hi')] at this
           exact Option.some.inj this
          rw [hgi]
          have hfal:gn'[i]'(by omega)=false:=by simpa using h11
          refine za0 (fun h12=>?_) (fun h12=>⟨gn',hob,hod,hgn',fun j hj hij=>r1 j hj (by omega),r2,r3,fun j hj hji hh=>hd3 j hj hji hh fun e=>by have h12:¬((degL es (gl gn) (i:Int):Nat):Int)≤2:=h12; omega,r5,r6,r7⟩)
          have h12:((degL es (gl gn) (i:Int):Nat):Int)≤2:=h12
          refine hob.set i rfl (by omega) fun h13 hob13 hs13=>?_
          have hod13:OI h1 h13 m5 (degs es (gl gn) N):=za84 hod hap hob13.1 hs13
          have hcs:=za7h (gn:=gn') (i:=i) (by omega) hfal
          have gd:∀j,(gn'.set i true).getD j true=if j=i then true else gn'.getD j true:=fun j=>by
           rw [List.getD_eq_getElem?_getD,List.getElem?_set]
           by_cases hji:i=j
           · subst hji
             rw [if_pos rfl,if_pos (by omega),if_pos rfl]
             rfl
           · rw [if_neg hji,if_neg (fun h=>hji h.symm),List.getD_eq_getElem?_getD]
          refine ⟨gn'.set i true,hob13,hod13,by simpa using hgn',fun j hj hij=>?_,fun j hj hh=>?_,fun j hj hh=>?_,fun j hj hji hh=>?_,fun hh=>(by cases hh),fun _=>by omega,by omega⟩
          · rw [gd,if_neg (by omega)]; exact r1 j hj (by omega)
          · rw [gd] at hh
            split at hh
            · rename_i e; subst e; exact .inr (by omega)
            · exact r2 j hj hh
          · rw [gd]
            split
            · rfl
            · exact r3 j hj hh
          · rw [gd] at hh
            split at hh
            · cases hh
            · exact hd3 j hj hji hh fun e=>by rename_i e2; exact absurd e e2
        · subst e
          have hh2:gn'[j]'(by omega)=false:=by rw [zb9 (by omega)] at hh; exact hh
          rw [hh2] at h11; cases h11
    · have hiN:i=N:=by simp only at h10; omega
      subst hiN
      have sub:∀x,x∈gl gn'→x∈gl gn:=fun x hx=>by
       obtain ⟨j,rfl,hj,hg2⟩:=znf.1 hx
       rw [zfd (by omega)]
       cases hgj:gn[j]'(by omega) with
       | false=>rfl
       | true=>
         have:=r3 j (by omega) (by rw [zb9 (by omega)]; exact hgj)
         rw [zb9 (by omega),hg2] at this; cases this
      have hgr':∀C:List Int,(∀x∈C,0≤x∧x<i)→(∀x∈C,3≤degL es C x)→∀x∈C,x∈gl gn':=fun C hC hC3 x hx=>by
       have hx2:=hgr C hC hC3 x hx
       obtain ⟨j,rfl,hj,hg2⟩:=znf.1 hx2
       rw [zfd (by omega)]
       cases hgj:gn'[j]'(by omega) with
       | false=>rfl
       | true=>
         rcases r2 j (by omega) (by rw [zb9 (by omega)]; exact hgj) with h1 | h1
         · rw [zb9 (by omega),hg2] at h1; cases h1
         · exact absurd hx (ztf hC3 (hgr C hC hC3) h1)
      cases hc:c9 with
      | false=>
        have e:=r5 hc
        subst e
        refine hK2 (cntF gn'*2) _ _ (by omega) ⟨gn',hob,hgn,hgr',fun _ x hx=>?_,by simp⟩
        obtain ⟨j,rfl,hj,hg2⟩:=znf.1 hx
        exact r4 j (by omega) (by omega) (by rw [zb9 (by omega)]; exact hg2)
      | true=>
        have e:=r6 hc
        exact hK2 (cntF gn'*2+1) _ _ (by omega) ⟨gn',hob,hgn',hgr',fun hh=>(by cases hh),by simp⟩
 · simp only at h5
   have hdeg:=hst h5
   refine zcv (n:=N) (by omega) (fun i y h'=>OI h4 h' y ((gl gn).filter fun x=>decide (x<i))) (by
    have e:(gl gn).filter (fun x=>decide (x<((0:Nat):Int)))=[]:=by
     rw [List.filter_eq_nil_iff]
     intro x hx
     obtain ⟨j,rfl,_⟩:=znf.1 hx
     simp
    rw [e]; exact OI.nil) ?_
   intro i y h6 hi ho6 k hk2
   have hob6:OB h1 h6 m2 gn:=Own.le ho ho6.dle
   have hob6l:=hob6.len
   refine za0 (fun h7=>?_) (fun h7=>?_)
   · have hi':i<N:=by simp only at h7; omega
     have hstep:(gl gn).filter (fun x=>decide (x<((i+1:Nat):Int)))=(gl gn).filter (fun x=>decide (x<(i:Int)))++(if gn[i]'(by omega)=false then [(i:Int)] else []):=by
      have key:∀n:Nat,(gl gn).filter (fun x=>decide (x<(n:Int)))=((List.range gn.length).filter fun j=>!(gn.getD j true)&&decide (j<n)).map fun j:Nat=>(j:Int):=fun n=>by
       unfold gl
       rw [List.filter_map,List.filter_filter]
       congr 1
       refine List.filter_congr fun j _=>?_
       simp only [Function.comp_apply]
       rw [Bool.and_comm]
       congr 1
       simp
      have key2:∀n:Nat,n≤gn.length→(List.range gn.length).filter (fun j=>!(gn.getD j true)&&decide (j<n))=(List.range n).filter fun j=>!(gn.getD j true):=fun n hn=>by
       have e1:(List.range gn.length).filter (fun j=>!(gn.getD j true)&&decide (j<n))=((List.range gn.length).filter fun j=>decide (j<n)).filter fun j=>!(gn.getD j true):=by rw [List.filter_filter]
       have e2:(List.range gn.length).filter (fun j=>decide (j<n))=List.range n:=by
        obtain ⟨d,hd⟩:∃d,gn.length=n+d:=⟨gn.length-n,by omega⟩
        rw [hd,List.range_add,List.filter_append]
        have f1:(List.range n).filter (fun j=>decide (j<n))=List.range n:=by
         rw [List.filter_eq_self]; intro j hj; exact decide_eq_true (List.mem_range.1 hj)
        have f2:((List.range d).map (n+·)).filter (fun j=>decide (j<n))=[]:=by
         rw [List.filter_eq_nil_iff]; intro j hj
         obtain ⟨q,_,rfl⟩:=List.mem_map.1 hj
         simp
        rw [f1,f2,List.append_nil]
       rw [e1,e2]
      rw [key,key,key2 _ (by omega),key2 _ (by omega),List.range_succ,List.filter_append,List.map_append]
      congr 1
      have hgi:gn.getD i true=gn[i]'(by omega):=zb9 (by omega)
      rw [zrn,hgi]
      cases hg2:gn[i]'(by omega)<;>rfl
     have hfl:((gl gn).filter fun x=>decide (x<(i:Int))).length≤60:=by
      refine Nat.le_trans (List.length_filter_le _ _) ?_
      unfold gl
      rw [List.length_map]
      refine Nat.le_trans (List.length_filter_le _ _) ?_
      rw [List.length_range]; omega
     refine za3 (fun s h'=>OI h4 h' s.1 ((gl gn).filter fun x=>decide (x<((i+1:Nat):Int)))) (fun s h' hs=>hk2 _ _ hi' hs) ?_
     refine hob6.get i rfl (by omega) ?_
     refine za2 (fun h8=>?_) (fun h8=>?_)
     · refine ho6.app (by omega) fun w h9 ho9=>?_
       show OI _ _ _ _
       rw [hstep,if_pos (by simpa using h8)]; exact ho9
     · show OI _ _ _ _
       rw [hstep,if_neg (by simpa using h8),List.append_nil]; exact ho6
   · have:i=N:=by simp only at h7; omega
     subst this
     have e:(gl gn).filter (fun x=>decide (x<(i:Int)))=gl gn:=by
      rw [List.filter_eq_self]
      intro x hx
      obtain ⟨j,rfl,hj,_⟩:=znf.1 hx
      exact decide_eq_true (by omega)
     rw [e] at ho6
     exact hk _ _ (Hp.le_trans hle4 ho6.dle) (.inr ⟨hv,gl gn,ho6.il,zabg hgn,hdeg,hgr⟩)
end
end Den
end
