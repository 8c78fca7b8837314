/-
  Part 5 of the tools and contracts from which the statement is proved.
-/
import Derived.Test.YtlddjhibbccljaaGreatPartr4
import Derived.Test.YtlddjhibbccljaaGreatProg
import Derived.Laws.Externs
import Derived.RangeFuncBox
import Derived.RangeFuncLeaves
import Derived.Shelf.Abstract
import Derived.WalkKit
import Derived.OwnWalkIn
import Derived.TacticsInMore
import Derived.LoopNIn
import Derived.LoopIn
set_option linter.unusedVariables false
section
set_option linter.unusedVariables false
namespace Den
open Go Iv Pq
/-- A variable that is set at once. -/
theorem var_set {h : Hp} {v w : Value} {K : Addr → Hp → Prop} (hw : ([w] : List Value).all Value.leaf = true) (H : ∀ p h', h.le h' → h'.cell p = some w → K p h') : newP [v] (fun p h1 => stP p [w] (fun h2 => K p h2) h1) h := by
  refine new_own (n := 1) (size := 1) rfl fun b h1 hb ho => ?_
  have key := (st_own (i := 0) (vs := [w]) (K := fun h2 => K ⟨b, 0, none⟩ h2) 0 ho rfl Nat.one_pos rfl (by decide) hw fun h' ho' => H _ h' ho'.1 ?_).2.2
  · exact key
  · have h2 := ho'.rd.2
    have e : splice [v] (0 * 1) [w] = [w] := rfl
    rw [e] at h2
    have h3 : cellsAt h' (⟨b, 0, none⟩ : Addr) 1 = some [w] := h2
    simp only [cellsAt] at h3
    split at h3
    · rename_i l e1
      have e2 : l = w := by simpa using h3
      rw [← e2, ← e1]; rfl
    · simp at h3
theorem b1_BR {c : Rat} (h : b1 [c] = true) : BR 1 c := by
  have h3 := of_decide_eq_true (List.all_eq_true.1 h c (by simp))
  refine ⟨?_, ?_⟩
  · unfold Lt; rw [Nat.pow_one, W_eq]; exact h3.1
  · unfold Lt; rw [Nat.pow_one, W_eq]; show ((c).den : Int).natAbs < 4294967296; omega
def small1 (ps : List (List Rat)) (c : Rat) : Bool := ps.all fun p => decide (p.length ≤ 7) && b1 ((List.range 8).map fun i => ev (p.drop i) c)
theorem small1_BR {ps : List (List Rat)} {c : Rat} (h : small1 ps c = true) : (∀ p ∈ ps, p.length ≤ 1000) ∧ ∀ p ∈ ps, ∀ i, BR 1 (ev (p.drop i) c) := by
  have key : ∀ p ∈ ps, p.length ≤ 7 ∧ ∀ i, i < 8 → BR 1 (ev (p.drop i) c) := by
    intro p hp
    have h1 := List.all_eq_true.1 h p hp
    rw [Bool.and_eq_true, decide_eq_true_eq] at h1
    refine ⟨h1.1, fun i hi => ?_⟩
    have h2 := List.all_eq_true.1 h1.2 (ev (p.drop i) c) (List.mem_map.2 ⟨i, List.mem_range.2 hi, rfl⟩)
    have h3 := of_decide_eq_true h2
    refine ⟨?_, ?_⟩
    · unfold Lt; rw [Nat.pow_one, W_eq]; exact h3.1
    · unfold Lt; rw [Nat.pow_one, W_eq]; show ((ev (p.drop i) c).den : Int).natAbs < 4294967296; omega
  refine ⟨fun p hp => Nat.le_trans (key p hp).1 (by decide), fun p hp i => ?_⟩
  rcases Nat.lt_or_ge i 8 with hi | hi
  · exact (key p hp).2 i hi
  · have := (key p hp).2 7 (by decide)
    have e : ∀ j, p.length ≤ j → p.drop j = [] := fun j hj => List.drop_of_length_le hj
    rw [e 7 (key p hp).1] at this
    rw [e i (Nat.le_trans (key p hp).1 (by omega))]; exact this
section
variable {h : Hp} {A B C : Nat} {l m : Sl} {p q : List Rat} {ps : List (List Rat)} {K : Sl → Hp → Prop} {Ki : Int → Hp → Prop} {Kb : Bool → Hp → Prop} {c : Rat} {x : TRat}
theorem changes_lit {n : Nat} (hq : QQL h 1 l ps) (hx : NR h x c) (bc : b1 [c] = true) (hlen : ps.length ≤ 1000) (hs : small1 ps c = true) (hn : chN ps c = n) (H : ∀ h', h.le h' → Ki (n : Int) h') : callP (F.sturm_Changes l x) Ki h :=
  pChanges_call hq hx (b1_BR bc) hlen (by decide) (by decide) (small1_BR hs).1 (small1_BR hs).2 (by decide) fun h' hl => by rw [hn]; exact H h' hl
theorem awake1_call {a : Addr} {i : Int} {n : Nat} (hc : h.cell a = some (slc l)) (hq : QQL h 1 l ps) (hi : -9223372036854775808 ≤ i ∧ i ≤ 9223372036854775807) (bi : b1 [(i : Rat)] = true) (hlen : ps.length ≤ 1000) (hs : small1 ps (i : Rat) = true) (hn : chN ps (i : Rat) = n) (H : ∀ h', h.le h' → Ki (n : Int) h') : callP (F.law05_awake_1 i (some a)) Ki h := by
  refine callP_of (fun v h' => v = (n : Int)) (fun K' hk => ?_) fun v h' hl hv => by subst hv; exact H h' hl
  unfold F.law05_awake_1
  refine ⟨l, hc, ?_⟩
  refine rqFromInt_call hi.1 hi.2 fun y h1 hl1 hy => ?_
  exact changes_lit (hq.le hl1) hy bi hlen hs hn fun h2 hl2 => hk _ _ (Hp.le_trans hl1 hl2) rfl
theorem total_lit {P M D E0 q10 r10 c10 q20 Q W E q1 r1 c q2 : List Rat} {b : Rat} {n1 n2 : Nat} (hok : sqfOk P M D E0 q10 r10 c10 q20 Q W = true) (hok2 : chainOk P W E q1 r1 c q2 = true) (hb : bndQ P = b) (bb : b1 [b] = true) (bb2 : b1 [-b] = true) (hpos : cmpQ (-b) b = -1) (hlen : P.length ≤ 7)
    (hs1 : small1 [W, E, c] (-b) = true) (hs2 : small1 [W, E, c] b = true) (hn1 : chN [W, E, c] (-b) = n1) (hn2 : chN [W, E, c] b = n2) (hn : n2 ≤ n1) (hbig : n1 ≤ 1000)
    (hp : PL h 1 l P) (H : ∀ h', h.le h' → Ki ((n1 - n2 : Nat) : Int) h') : callP (F.sturm_Total l) Ki h := by
  refine callP_of (fun v h' => v = ((n1 - n2 : Nat) : Int)) (fun K' hk => ?_) fun v h' hl hv => by subst hv; exact H h' hl
  unfold F.sturm_Total
  refine callP_of (fun v h' => NR h' v.low (-b) ∧ NR h' v.high b) (fun K1 hk1 => ?_) fun v h1 hl1 ⟨hv1, hv2⟩ => ?_
  · unfold F.sturm_around
    refine pBound_call hp (by omega) (by decide) fun r1 h1 hl1 hr1 => ?_
    rw [hb] at hr1
    refine qNeg_call hr1 (b1_BR bb) (by decide) fun r2 h2 hl2 hr2 => hk1 _ _ (Hp.le_trans hl1 hl2) ⟨hr2, hr1.le hl2⟩
  · refine callP_of (fun v h' => v = ((n1 - n2 : Nat) : Int)) (fun K1 hk1 => ?_) fun v h' hl hv => hk _ _ (Hp.le_trans hl1 hl) hv
    unfold F.sturm_Count
    refine qCmp_call hv1 hv2 (b1_BR bb2) (b1_BR bb) (by decide) (by decide) fun h2 hl2 => ?_
    rw [hpos]
    refine ifP_false rfl ?_
    refine chain_lit hok hok2 (hp.le (Hp.le_trans hl1 hl2)) fun y h3 hl3 hy => ?_
    have hl23 := Hp.le_trans hl2 hl3
    refine callP_of (fun v h' => v = ((n1 - n2 : Nat) : Int)) (fun K2 hk2 => ?_) fun v h' hl hv => hk1 _ _ (Hp.le_trans hl23 hl) hv
    unfold F.sturm_between
    refine changes_lit hy (hv1.le hl23) bb2 (Nat.le_of_ble_eq_true rfl) hs1 hn1 fun h4 hl4 => ?_
    refine changes_lit (hy.le hl4) ((hv2.le hl23).le hl4) bb (Nat.le_of_ble_eq_true rfl) hs2 hn2 fun h5 hl5 => hk2 _ _ (Hp.le_trans hl4 hl5) ?_
    rw [w64 (by omega)]; omega
theorem awake5_call (H : ∀ h', h.le h' → Kb true h') : callP F.law05_awake Kb h := by
  refine callP_of (fun b h' => b = true) (fun K' hk => ?_) fun b h' hl hb => by subst hb; exact H h' hl
  unfold F.law05_awake
  refine poly5_lit [-2, 0, 1] [-2, 0, 1] rfl rfl (by decide) (by decide +kernel) (by decide) fun r2 h2 hl2 hr2 => ?_
  refine chain_lit sqf_x chain_x hr2 fun r3 h3 hl3 hr3 => ?_
  refine var_set rfl fun a h4 hl4 hc4 => ?_
  refine ⟨r3, hc4, ?_⟩
  refine poly5_lit [-2, 0, 1] [-2, 0, 1] rfl rfl (by decide) (by decide +kernel) (by decide) fun r7 h7 hl7 hr7 => ?_
  refine poly5_lit [0, 2] [0, 2] rfl rfl (by decide) (by decide +kernel) (by decide) fun r9 h9 hl9 hr9 => ?_
  refine poly5_lit [2] [2] rfl rfl (by decide) (by decide +kernel) (by decide) fun r11 h11 hl11 hr11 => ?_
  refine new_own (n := 3) (size := 1) rfl fun b h12 hb ho => ?_
  have l4 : h4.le h12 := Hp.le_trans hl7 (Hp.le_trans hl9 (Hp.le_trans hl11 ho.1))
  have hq : QQL h12 1 r3 [[-2, 0, 1], [0, 2], [2]] := (hr3.le hl4).le l4
  have hl2' : PL h12 1 r7 [-2, 0, 1] := ((hr7.le hl9).le hl11).le ho.1
  have hl3' : PL h12 1 r9 [0, 2] := (hr9.le hl11).le ho.1
  have hl4' : PL h12 1 r11 [2] := hr11.le ho.1
  have hq2 : QQL h12 1 ⟨some ⟨b, 0, none⟩, 3, 3⟩ [[-2, 0, 1], [0, 2], [2]] := ⟨[r7, r9, r11], ho.rd, rfl, fun k g1 g2 => by
    match k, g1 with
    | 0, _ => exact hl2'
    | 1, _ => exact hl3'
    | 2, _ => exact hl4'⟩
  have hc12 : h12.cell a = some (slc r3) := Hp.cell_le l4 hc4
  refine same5_call hq hq2 rfl (by decide) (by decide) fun h13 hl13 => ifP_true rfl ?_
  refine awake1_call (n := 1) (Hp.cell_le hl13 hc12) (hq.le hl13) (by decide) (by decide +kernel) (by decide) (by decide +kernel) (by decide +kernel) fun h14 hl14 => ifP_true rfl ?_
  have l14 := Hp.le_trans hl13 hl14
  refine awake1_call (n := 0) (Hp.cell_le l14 hc12) (hq.le l14) (by decide) (by decide +kernel) (by decide) (by decide +kernel) (by decide +kernel) fun h15 hl15 => ifP_true rfl ?_
  refine poly5_lit [3, -5, 1, 1] [3, -5, 1, 1] rfl rfl (by decide) (by decide +kernel) (by decide) fun r17 h17 hl17 hr17 => ?_
  refine total_lit (n1 := 2) (n2 := 0) (b := 6) sqf_y chain_y (by decide +kernel) (by decide +kernel) (by decide +kernel) (by decide +kernel) (by decide) (by decide +kernel) (by decide +kernel) (by decide +kernel) (by decide +kernel) (by decide) (by decide) hr17 fun h18 hl18 => ?_
  exact hk _ _ (Hp.le_trans hl2 (Hp.le_trans hl3 (Hp.le_trans hl4 (Hp.le_trans l4 (Hp.le_trans l14 (Hp.le_trans hl15 (Hp.le_trans hl17 hl18))))))) rfl

/-- Any value of the type, with numbers that can stand in memory. -/
def ARX (h : Hp) (x : TRat) : Prop := AR h x ∧ x.num.mag.len ≤ 35184372087808 ∧ x.den.mag.len ≤ 35184372087808
def AQX (h : Hp) (l : Sl) : Prop := ∃ xs, RdQ h l xs ∧ (∀ x ∈ xs, ARX h x) ∧ l.len ≤ l.cap ∧ l.len ≤ 35184372088832
theorem ARX.le {h h' : Hp} {x : TRat} (ha : ARX h x) (hl : h.le h') : ARX h' x := ⟨ha.1.le hl, ha.2⟩
theorem AQX.le {h h' : Hp} {l : Sl} (ha : AQX h l) (hl : h.le h') : AQX h' l := by
  obtain ⟨xs, h1, h2, h3⟩ := ha
  exact ⟨xs, h1.le hl, fun x hx => (h2 x hx).le hl, h3⟩
theorem rShort5_call (hx : ARX h x) (H1 : ∀ v h', h.le h' → NR h x v → BR 3 v → Kb true h') (H0 : ∀ h', h.le h' → Kb false h') : callP (F.ref05_Short x) Kb h := by
  refine callP_of (fun b h' => (b = true ∧ ∃ v, NR h x v ∧ BR 3 v) ∨ b = false) (fun K' hk => ?_) fun b h' hl hv => by
    rcases hv with ⟨rfl, v, h1, h2⟩ | rfl
    · exact H1 v h' hl h1 h2
    · exact H0 h' hl
  unfold F.ref05_Short
  refine rqValid_call hx.1 hx.2.1 hx.2.2 (fun v h3 hl3 hv => ifP_true rfl (ifP_dec (fun h1 => ?_) (fun h1 => hk _ _ hl3 (.inr rfl)))) (fun h3 hl3 _ => ifP_false rfl (hk _ _ hl3 (.inr rfl)))
  refine hk _ _ hl3 ?_
  rcases Bool.eq_false_or_eq_true (decide ((x.den.mag.len : Int) ≤ 3)) with h5 | h5
  · have h6 := of_decide_eq_true h5
    exact .inl ⟨h5, v, hv, NR_BR hv (by omega) (by omega)⟩
  · exact .inr h5
theorem rSmall5_call (ha : AQX h l) (H1 : ∀ vs h', h.le h' → PL h 3 l vs → vs.length ≤ 8 → Kb true h') (H0 : ∀ h', h.le h' → Kb false h') : callP (F.ref05_Small l) Kb h := by
  refine callP_of (fun b h' => (b = true ∧ ∃ vs, PL h 3 l vs ∧ vs.length ≤ 8) ∨ b = false) (fun K' hk => ?_) fun b h' hl hv => by
    rcases hv with ⟨rfl, v, h1, h2⟩ | rfl
    · exact H1 v h' hl h1 h2
    · exact H0 h' hl
  unfold F.ref05_Small
  obtain ⟨xs, h1, h2, h3, h3b⟩ := ha
  have hl := RdQ.len h1
  refine loopP_of (fun st h' => h.le h' ∧ ∃ i : Nat, st.1 = (i : Int) ∧ i ≤ xs.length ∧ ∃ vs, QL h 3 (xs.take i) vs) (fun st => (xs.length - st.1).toNat) ⟨Hp.le_refl _, 0, rfl, Nat.zero_le _, [], rfl, fun k g1 _ => by simp at g1⟩ ?_
  rintro ⟨_, _⟩ h5 ⟨hl5, i, hi, hi2, vs, hq⟩
  simp only at hi
  subst hi
  refine ifP_dec (fun h6 => ?_) (fun h6 => ?_)
  · simp only at h6
    have hi' : i < xs.length := by omega
    refine rd_rat i (h1.le hl5) rfl hi' ?_
    refine callP_sub hl5 (K1 := fun b _ => (b = true ∧ ∃ v, NR h xs[i] v ∧ BR 3 v) ∨ b = false) (rShort5_call (h2 _ (List.getElem_mem hi')) (fun v h' _ hv hb => .inl ⟨rfl, v, hv, hb⟩) (fun h' _ => .inr rfl)) fun b D' h7 hl7 hl8 hfr hb => ?_
    have hh7 : h.le h7 := Hp.le_trans hl7 hl8
    rcases hb with ⟨rfl, v, hv, hb⟩ | rfl
    · refine ifP_false rfl ⟨⟨hh7, i + 1, ?_, hi', vs ++ [v], ?_⟩, ?_⟩
      · simp only; rw [w64 (by omega)]; rfl
      · rw [List.take_succ_eq_append_getElem hi']
        exact QL.snoc hq hv hb
      · simp only; rw [w64 (by omega)]; omega
    · exact ifP_true rfl (hk _ _ hh7 (.inr rfl))
  · simp only at h6
    have hi' : i = xs.length := by omega
    subst hi'
    rw [List.take_length] at hq
    refine hk _ _ hl5 ?_
    rcases Bool.eq_false_or_eq_true (decide ((l.len : Int) ≤ 8)) with h7 | h7
    · have h8 := of_decide_eq_true h7
      exact .inl ⟨h7, vs, ⟨xs, h1, hq, h3⟩, by rw [← hq.1]; omega⟩
    · exact .inr h7
end
end Den
end

section
set_option linter.unusedVariables false
namespace Den
open Go Iv Pq
/-- Any list of lists of numbers. -/
def AQQX (h : Hp) (l : Sl) : Prop := ∃ ss : List Sl, Rd h 1 l (ss.map slc) ∧ (∀ s ∈ ss, AQX h s) ∧ l.len ≤ 35184372088832
theorem AQQX.le {h h' : Hp} {l : Sl} (ha : AQQX h l) (hl : h.le h') : AQQX h' l := by
  obtain ⟨xs, h1, h2, h3⟩ := ha
  exact ⟨xs, h1.le hl, fun x hx => (h2 x hx).le hl, h3⟩
section
variable {h : Hp} {A B C : Nat} {l m : Sl} {K Kb : Bool → Hp → Prop} {x : TRat}
theorem small5_call {ss : List Sl} (hr : Rd h 1 l (ss.map slc)) (ha : ∀ s ∈ ss, AQX h s) (hlen : ss.length ≤ 100) (H1 : ∀ h', h.le h' → (∀ s ∈ ss, ∃ vs, PL h 3 s vs ∧ vs.length ≤ 8) → Kb true h') (H0 : ∀ h', h.le h' → Kb false h') : callP (F.law05_small l) Kb h := by
  refine callP_of (fun b h' => (b = true ∧ ∀ s ∈ ss, ∃ vs, PL h 3 s vs ∧ vs.length ≤ 8) ∨ b = false) (fun K' hk => ?_) fun b h' hl hv => by
    rcases hv with ⟨rfl, h1⟩ | rfl
    · exact H1 h' hl h1
    · exact H0 h' hl
  unfold F.law05_small
  have hl : l.len = ss.length := by have := hr.1; simp at this; omega
  refine loopP_of (fun st h' => h.le h' ∧ ∃ i : Nat, st.1 = (i : Int) ∧ i ≤ ss.length ∧ ∀ s ∈ ss.take i, ∃ vs, PL h 3 s vs ∧ vs.length ≤ 8) (fun st => (ss.length - st.1).toNat) ⟨Hp.le_refl _, 0, rfl, Nat.zero_le _, fun s hs => by simp at hs⟩ ?_
  rintro ⟨_, _⟩ h5 ⟨hl5, i, hi, hi2, hall⟩
  simp only at hi
  subst hi
  refine ifP_dec (fun h6 => ?_) (fun h6 => ?_)
  · simp only at h6
    have hi' : i < ss.length := by omega
    refine rd_one i (hr.le hl5) rfl (v := slc ss[i]) (by rw [List.getElem?_map, List.getElem?_eq_getElem hi']; rfl) fun a hc => ⟨ss[i], hc, ?_⟩
    refine callP_sub hl5 (K1 := fun b _ => (b = true ∧ ∃ vs, PL h 3 ss[i] vs ∧ vs.length ≤ 8) ∨ b = false) (rSmall5_call (ha _ (List.getElem_mem hi')) (fun vs h' _ hv hb => .inl ⟨rfl, vs, hv, hb⟩) (fun h' _ => .inr rfl)) fun b D' h7 hl7 hl8 hfr hb => ?_
    have hh7 : h.le h7 := Hp.le_trans hl7 hl8
    rcases hb with ⟨rfl, hv⟩ | rfl
    · refine ifP_false rfl ⟨⟨hh7, i + 1, ?_, hi', ?_⟩, ?_⟩
      · simp only; rw [w64 (by omega)]; rfl
      · rw [List.take_succ_eq_append_getElem hi']
        intro s hs
        rcases List.mem_append.1 hs with hs | hs
        · exact hall s hs
        · rw [List.mem_singleton.1 hs]; exact hv
      · simp only; rw [w64 (by omega)]; omega
    · exact ifP_true rfl (hk _ _ hh7 (.inr rfl))
  · simp only at h6
    have hi' : i = ss.length := by omega
    subst hi'
    rw [List.take_length] at hall
    exact hk _ _ hl5 (.inl ⟨rfl, hall⟩)
end
end Den
end

section
set_option linter.unusedVariables false
namespace Den
open Go Iv Go.Proofs
open Go.ChangeShapes Go.WideShapes Go.ChangeAt Go.RowKit
section
variable {H : Type} {enc : TypeId × Value → H} {w : World} {s : Sl} {cs : List Value}
theorem okt_RX (h : Okt enc Tryz.prog w 39 cs) : ∃ x : TRat, cs = [.bool x.num.neg, Lf.sl.up x.num.mag, .bool x.den.neg, Lf.sl.up x.den.mag] ∧ True ∧ ARX (hpW w) x := by
  obtain ⟨x, h1, h2, h3⟩ := okt_RS h
  exact ⟨x, h1, trivial, h3, h2⟩
theorem qcX_of : ∀ {css : List (List Value)}, (∀ c ∈ css, c.length = 4 ∧ Okt enc Tryz.prog w 39 c) → ∃ xs : List TRat, css.flatten = xs.flatMap qc ∧ ∀ x ∈ xs, ARX (hpW w) x
  | [], _ => ⟨[], rfl, fun d hd => by simp at hd⟩
  | c :: r, h => by
    obtain ⟨l, h1, h2⟩ := qcX_of (css := r) fun x hx => h x (List.mem_cons_of_mem _ hx)
    obtain ⟨x, hx, _, ax⟩ := okt_RX (h c (by simp)).2
    refine ⟨x :: l, ?_, fun d hd => ?_⟩
    · rw [List.flatten_cons, h1, hx]; rfl
    · rcases List.mem_cons.1 hd with rfl | hd
      · exact ax
      · exact h2 d hd
theorem okt_QX (h : Okt enc Tryz.prog w 22 [Lf.sl.up s]) : AQX (hpW w) s ∧ s.len ≤ 35184372088832 := by
  obtain ⟨s', hs, h1, h2, css, h3, h4, h5⟩ := h.slice Tryz.underlying22
  have e : s = s' := by
    simp only [List.cons.injEq, and_true] at hs
    exact Lf.up_inj hs
  subst e
  rw [c_R] at h4 h5
  rw [by_R, show reachBytes = 140737488351232 from rfl] at h2
  obtain ⟨xs, hx, ax⟩ := qcX_of h4
  rw [hx] at h5
  exact ⟨⟨xs, h5, ax, h1, by omega⟩, by omega⟩
end
end Den
end

section
set_option maxRecDepth 100000
set_option linter.unusedVariables false
namespace Den
open Go
noncomputable def A_ref01_trim : ArgT (Sl × Unit) := (ArgT.cons (Ty.leaf .sl) ArgT.nil)
noncomputable def R_ref01_trim : Ty Sl := (Ty.leaf .sl)
noncomputable def e_ref01_trim : FSem := mkE A_ref01_trim R_ref01_trim (fun a => F.ref01_trim a.1)
noncomputable def c_ref01_trim : Cfg := { P := Go.Proofs.Tryz.prog, n := 21, tab := [], mutL := [], rtL := [], locL := [] }
noncomputable def b_ref01_trim : Code := match Go.Proofs.Tryz.f136.body with | some c => c | none => .skip
noncomputable def a_ref01_trim : An := (.seq .leaf (.seq (.block (.loop [(0, .leaf (.sl))] (.join [] (.seq .leaf (.cond .leaf .leaf)) (.block .leaf)))) (.seq .leaf .leaf)))
theorem t_ref01_trim : Entry Go.Proofs.Tryz.prog 136 e_ref01_trim false :=
  entry_of (C := c_ref01_trim) (fn := Go.Proofs.Tryz.f136) (c := b_ref01_trim) (an := a_ref01_trim) trivial trivial Go.Proofs.Tryz.func136 rfl rfl (by decide) (fun _ => rfl) (by intro a K D; kernel_rfl)
noncomputable def A_ref01_words : ArgT (Int × Unit) := (ArgT.cons (Ty.leaf (.int .u64)) ArgT.nil)
noncomputable def R_ref01_words : Ty Sl := (Ty.leaf .sl)
noncomputable def e_ref01_words : FSem := mkE A_ref01_words R_ref01_words (fun a => F.ref01_words a.1)
noncomputable def c_ref01_words : Cfg := { P := Go.Proofs.Tryz.prog, n := 10, tab := [(136, e_ref01_trim)], mutL := [], rtL := [], locL := [] }
noncomputable def b_ref01_words : Code := match Go.Proofs.Tryz.f147.body with | some c => c | none => .skip
noncomputable def a_ref01_words : An := (.seq .leaf (.seq .leaf .leaf))
theorem t_ref01_words : Entry Go.Proofs.Tryz.prog 147 e_ref01_words false :=
  entry_of (C := c_ref01_words) (fn := Go.Proofs.Tryz.f147) (c := b_ref01_words) (an := a_ref01_words) ⟨t_ref01_trim, trivial⟩ trivial Go.Proofs.Tryz.func147 rfl rfl (by decide) (fun _ => rfl) (by intro a K D; kernel_rfl)
noncomputable def A_ref01_signed : ArgT (Bool × Sl × Unit) := (ArgT.cons (Ty.leaf .bool) (ArgT.cons (Ty.leaf .sl) ArgT.nil))
noncomputable def R_ref01_signed : Ty TInt := tyTInt
noncomputable def e_ref01_signed : FSem := mkE A_ref01_signed R_ref01_signed (fun a => F.ref01_signed a.1 a.2.1)
noncomputable def c_ref01_signed : Cfg := { P := Go.Proofs.Tryz.prog, n := 15, tab := [(136, e_ref01_trim)], mutL := [], rtL := [], locL := [4] }
noncomputable def b_ref01_signed : Code := match Go.Proofs.Tryz.f146.body with | some c => c | none => .skip
noncomputable def a_ref01_signed : An := (.seq .leaf (.seq .leaf (.seq .leaf .leaf)))
theorem t_ref01_signed : Entry Go.Proofs.Tryz.prog 146 e_ref01_signed false :=
  entry_of (C := c_ref01_signed) (fn := Go.Proofs.Tryz.f146) (c := b_ref01_signed) (an := a_ref01_signed) ⟨t_ref01_trim, trivial⟩ trivial Go.Proofs.Tryz.func146 rfl rfl (by decide) (fun _ => rfl) (by intro a K D; kernel_rfl)
noncomputable def A_ref01_FromInt : ArgT (Int × Unit) := (ArgT.cons (Ty.leaf (.int .i64)) ArgT.nil)
noncomputable def R_ref01_FromInt : Ty TInt := tyTInt
noncomputable def e_ref01_FromInt : FSem := mkE A_ref01_FromInt R_ref01_FromInt (fun a => F.ref01_FromInt a.1)
noncomputable def c_ref01_FromInt : Cfg := { P := Go.Proofs.Tryz.prog, n := 14, tab := [(147, e_ref01_words), (146, e_ref01_signed)], mutL := [], rtL := [], locL := [2] }
noncomputable def b_ref01_FromInt : Code := match Go.Proofs.Tryz.f88.body with | some c => c | none => .skip
noncomputable def a_ref01_FromInt : An := (.seq .leaf (.seq (.seq .leaf (.cond (.seq .leaf .leaf) .leaf)) (.seq .leaf .leaf)))
theorem t_ref01_FromInt : Entry Go.Proofs.Tryz.prog 88 e_ref01_FromInt false :=
  entry_of (C := c_ref01_FromInt) (fn := Go.Proofs.Tryz.f88) (c := b_ref01_FromInt) (an := a_ref01_FromInt) ⟨t_ref01_words, t_ref01_signed, trivial⟩ trivial Go.Proofs.Tryz.func88 rfl rfl (by decide) (fun _ => rfl) (by intro a K D; kernel_rfl)
noncomputable def A_ref02_FromInt : ArgT (Int × Unit) := (ArgT.cons (Ty.leaf (.int .i64)) ArgT.nil)
noncomputable def R_ref02_FromInt : Ty TRat := tyTRat
noncomputable def e_ref02_FromInt : FSem := mkE A_ref02_FromInt R_ref02_FromInt (fun a => F.ref02_FromInt a.1)
noncomputable def c_ref02_FromInt : Cfg := { P := Go.Proofs.Tryz.prog, n := 7, tab := [(88, e_ref01_FromInt)], mutL := [], rtL := [], locL := [2] }
noncomputable def b_ref02_FromInt : Code := match Go.Proofs.Tryz.f81.body with | some c => c | none => .skip
noncomputable def a_ref02_FromInt : An := (.seq .leaf (.seq .leaf .leaf))
theorem t_ref02_FromInt : Entry Go.Proofs.Tryz.prog 81 e_ref02_FromInt false :=
  entry_of (C := c_ref02_FromInt) (fn := Go.Proofs.Tryz.f81) (c := b_ref02_FromInt) (an := a_ref02_FromInt) ⟨t_ref01_FromInt, trivial⟩ trivial Go.Proofs.Tryz.func81 rfl rfl (by decide) (fun _ => rfl) (by intro a K D; kernel_rfl)
noncomputable def A_ref01_compare : ArgT (Sl × Sl × Unit) := (ArgT.cons (Ty.leaf .sl) (ArgT.cons (Ty.leaf .sl) ArgT.nil))
noncomputable def R_ref01_compare : Ty Int := (Ty.leaf (.int .i64))
noncomputable def e_ref01_compare : FSem := mkE A_ref01_compare R_ref01_compare (fun a => F.ref01_compare a.1 a.2.1)
noncomputable def c_ref01_compare : Cfg := { P := Go.Proofs.Tryz.prog, n := 41, tab := [], mutL := [], rtL := [], locL := [] }
noncomputable def b_ref01_compare : Code := match Go.Proofs.Tryz.f174.body with | some c => c | none => .skip
noncomputable def a_ref01_compare : An := (.seq .leaf (.seq (.seq .leaf (.cond (.seq (.seq .leaf (.cond (.seq .leaf .leaf) .leaf)) (.seq .leaf .leaf)) .leaf)) (.seq (.seq .leaf (.block (.loop [(5, .leaf (.int .i64))] (.seq (.seq .leaf (.cond .leaf .leaf)) (.seq (.block (.seq (.seq (.draw [0, 1, 2, 3, 4, 5, 6, 7, 8]) (.cond (.seq .leaf .leaf) .leaf)) (.seq (.draw [0, 1, 2, 3, 4, 5, 6, 7, 8]) (.cond (.seq .leaf .leaf) .leaf)))) .leaf))))) (.seq .leaf .leaf))))
theorem t_ref01_compare : Entry Go.Proofs.Tryz.prog 174 e_ref01_compare false :=
  entry_of (C := c_ref01_compare) (fn := Go.Proofs.Tryz.f174) (c := b_ref01_compare) (an := a_ref01_compare) trivial trivial Go.Proofs.Tryz.func174 rfl rfl (by decide) (fun _ => rfl) (by intro a K D; kernel_rfl)
noncomputable def A_ref01_short : ArgT (Sl × Unit) := (ArgT.cons (Ty.leaf .sl) ArgT.nil)
noncomputable def R_ref01_short : Ty Int := (Ty.leaf (.int .u64))
noncomputable def e_ref01_short : FSem := mkE A_ref01_short R_ref01_short (fun a => F.ref01_short a.1)
noncomputable def c_ref01_short : Cfg := { P := Go.Proofs.Tryz.prog, n := 21, tab := [], mutL := [], rtL := [], locL := [] }
noncomputable def b_ref01_short : Code := match Go.Proofs.Tryz.f175.body with | some c => c | none => .skip
noncomputable def a_ref01_short : An := (.seq .leaf (.seq .leaf (.seq (.seq .leaf (.block (.loop [(3, .leaf (.int .u64)), (4, .leaf (.int .i64))] (.seq (.seq .leaf (.cond .leaf .leaf)) (.seq (.block .leaf) .leaf))))) (.seq .leaf .leaf))))
theorem t_ref01_short : Entry Go.Proofs.Tryz.prog 175 e_ref01_short false :=
  entry_of (C := c_ref01_short) (fn := Go.Proofs.Tryz.f175) (c := b_ref01_short) (an := a_ref01_short) trivial trivial Go.Proofs.Tryz.func175 rfl rfl (by decide) (fun _ => rfl) (by intro a K D; kernel_rfl)
noncomputable def A_ref01_by : ArgT (Sl × Int × Unit) := (ArgT.cons (Ty.leaf .sl) (ArgT.cons (Ty.leaf (.int .u32)) ArgT.nil))
noncomputable def R_ref01_by : Ty (Sl × Int) := (Ty.tup (.cons (Ty.leaf .sl) (.cons (Ty.leaf (.int .u32)) .nil)) (fun x => (x.1, x.2, ())) (fun y => (y.1, y.2.1)) (fun _ => rfl) (fun _ => rfl))
noncomputable def e_ref01_by : FSem := mkE A_ref01_by R_ref01_by (fun a => F.ref01_by a.1 a.2.1)
noncomputable def c_ref01_by : Cfg := { P := Go.Proofs.Tryz.prog, n := 43, tab := [(136, e_ref01_trim)], mutL := [], rtL := [], locL := [] }
noncomputable def b_ref01_by : Code := match Go.Proofs.Tryz.f176.body with | some c => c | none => .skip
noncomputable def a_ref01_by : An := (.seq .leaf (.seq .leaf (.seq .leaf (.seq (.seq .leaf (.block (.loop [(7, .leaf (.int .u64)), (8, .leaf (.int .i64))] (.seq (.seq .leaf (.cond .leaf .leaf)) (.seq (.block (.seq .leaf (.seq .leaf .leaf))) .leaf))))) (.seq .leaf .leaf)))))
theorem t_ref01_by : Entry Go.Proofs.Tryz.prog 176 e_ref01_by false :=
  entry_of (C := c_ref01_by) (fn := Go.Proofs.Tryz.f176) (c := b_ref01_by) (an := a_ref01_by) ⟨t_ref01_trim, trivial⟩ trivial Go.Proofs.Tryz.func176 rfl rfl (by decide) (fun _ => rfl) (by intro a K D; kernel_rfl)
noncomputable def A_ref01_length : ArgT (Sl × Unit) := (ArgT.cons (Ty.leaf .sl) ArgT.nil)
noncomputable def R_ref01_length : Ty Int := (Ty.leaf (.int .i64))
noncomputable def e_ref01_length : FSem := mkE A_ref01_length R_ref01_length (fun a => F.ref01_length a.1)
noncomputable def c_ref01_length : Cfg := { P := Go.Proofs.Tryz.prog, n := 26, tab := [], mutL := [], rtL := [], locL := [] }
noncomputable def b_ref01_length : Code := match Go.Proofs.Tryz.f135.body with | some c => c | none => .skip
noncomputable def a_ref01_length : An := (.seq .leaf (.seq (.seq .leaf (.cond (.seq .leaf .leaf) .leaf)) (.seq .leaf (.seq (.seq .leaf (.block (.loop [(3, .leaf (.int .i64)), (4, .leaf (.int .u32))] (.seq (.seq .leaf (.cond .leaf .leaf)) (.seq (.block .leaf) .leaf))))) (.seq .leaf .leaf)))))
theorem t_ref01_length : Entry Go.Proofs.Tryz.prog 135 e_ref01_length false :=
  entry_of (C := c_ref01_length) (fn := Go.Proofs.Tryz.f135) (c := b_ref01_length) (an := a_ref01_length) trivial trivial Go.Proofs.Tryz.func135 rfl rfl (by decide) (fun _ => rfl) (by intro a K D; kernel_rfl)
noncomputable def A_ref01_shifted : ArgT (Sl × Int × Unit) := (ArgT.cons (Ty.leaf .sl) (ArgT.cons (Ty.leaf (.int .i64)) ArgT.nil))
noncomputable def R_ref01_shifted : Ty Sl := (Ty.leaf .sl)
noncomputable def e_ref01_shifted : FSem := mkE A_ref01_shifted R_ref01_shifted (fun a => F.ref01_shifted a.1 a.2.1)
noncomputable def c_ref01_shifted : Cfg := { P := Go.Proofs.Tryz.prog, n := 43, tab := [], mutL := [], rtL := [], locL := [] }
noncomputable def b_ref01_shifted : Code := match Go.Proofs.Tryz.f177.body with | some c => c | none => .skip
noncomputable def a_ref01_shifted : An := (.seq .leaf (.seq .leaf (.seq (.seq .leaf (.block (.loop [(6, .leaf (.int .i64))] (.seq (.seq .leaf (.cond .leaf .leaf)) (.seq (.block (.seq .leaf (.seq .leaf .leaf))) .leaf))))) (.seq .leaf .leaf))))
theorem t_ref01_shifted : Entry Go.Proofs.Tryz.prog 177 e_ref01_shifted false :=
  entry_of (C := c_ref01_shifted) (fn := Go.Proofs.Tryz.f177) (c := b_ref01_shifted) (an := a_ref01_shifted) trivial trivial Go.Proofs.Tryz.func177 rfl rfl (by decide) (fun _ => rfl) (by intro a K D; kernel_rfl)
noncomputable def A_ref01_times : ArgT (Sl × Sl × Unit) := (ArgT.cons (Ty.leaf .sl) (ArgT.cons (Ty.leaf .sl) ArgT.nil))
noncomputable def R_ref01_times : Ty Sl := (Ty.leaf .sl)
noncomputable def e_ref01_times : FSem := mkE A_ref01_times R_ref01_times (fun a => F.ref01_times a.1 a.2.1)
noncomputable def c_ref01_times : Cfg := { P := Go.Proofs.Tryz.prog, n := 67, tab := [(136, e_ref01_trim)], mutL := [], rtL := [], locL := [] }
noncomputable def b_ref01_times : Code := match Go.Proofs.Tryz.f152.body with | some c => c | none => .skip
noncomputable def a_ref01_times : An := (.seq .leaf (.seq .leaf (.seq (.seq .leaf (.block (.loop [(6, .leaf (.int .i64))] (.seq (.seq .leaf (.cond .leaf .leaf)) (.seq (.block (.seq .leaf (.seq (.seq .leaf (.block (.loop [(7, .leaf (.int .u64)), (8, .leaf (.int .i64))] (.seq (.seq .leaf (.cond .leaf .leaf)) (.seq (.block (.seq (.draw [0, 1, 2, 3, 4, 5, 6, 7, 8, 9, 10, 11, 12, 13, 14, 15, 16, 17, 18, 19, 20, 21]) (.seq .leaf .leaf))) .leaf))))) .leaf))) .leaf))))) (.seq .leaf .leaf))))
theorem t_ref01_times : Entry Go.Proofs.Tryz.prog 152 e_ref01_times false :=
  entry_of (C := c_ref01_times) (fn := Go.Proofs.Tryz.f152) (c := b_ref01_times) (an := a_ref01_times) ⟨t_ref01_trim, trivial⟩ trivial Go.Proofs.Tryz.func152 rfl rfl (by decide) (fun _ => rfl) (by intro a K D; kernel_rfl)
noncomputable def A_ref01_minus : ArgT (Sl × Sl × Unit) := (ArgT.cons (Ty.leaf .sl) (ArgT.cons (Ty.leaf .sl) ArgT.nil))
noncomputable def R_ref01_minus : Ty Sl := (Ty.leaf .sl)
noncomputable def e_ref01_minus : FSem := mkE A_ref01_minus R_ref01_minus (fun a => F.ref01_minus a.1 a.2.1)
noncomputable def c_ref01_minus : Cfg := { P := Go.Proofs.Tryz.prog, n := 48, tab := [(136, e_ref01_trim)], mutL := [], rtL := [], locL := [] }
noncomputable def b_ref01_minus : Code := match Go.Proofs.Tryz.f179.body with | some c => c | none => .skip
noncomputable def a_ref01_minus : An := (.seq .leaf (.seq .leaf (.seq .leaf (.seq (.seq .leaf (.block (.loop [(6, .leaf (.int .u64)), (7, .leaf (.int .i64))] (.seq (.seq .leaf (.cond .leaf .leaf)) (.seq (.block (.seq .leaf (.join [(8, .leaf (.int .u64))] (.seq .leaf (.cond .leaf .leaf)) (.seq .leaf (.seq .leaf .leaf))))) .leaf))))) (.seq .leaf .leaf)))))
theorem t_ref01_minus : Entry Go.Proofs.Tryz.prog 179 e_ref01_minus false :=
  entry_of (C := c_ref01_minus) (fn := Go.Proofs.Tryz.f179) (c := b_ref01_minus) (an := a_ref01_minus) ⟨t_ref01_trim, trivial⟩ trivial Go.Proofs.Tryz.func179 rfl rfl (by decide) (fun _ => rfl) (by intro a K D; kernel_rfl)
noncomputable def A_ref01_digit : ArgT (Sl × Sl × Unit) := (ArgT.cons (Ty.leaf .sl) (ArgT.cons (Ty.leaf .sl) ArgT.nil))
noncomputable def R_ref01_digit : Ty (Int × Sl) := (Ty.tup (.cons (Ty.leaf (.int .u32)) (.cons (Ty.leaf .sl) .nil)) (fun x => (x.1, x.2, ())) (fun y => (y.1, y.2.1)) (fun _ => rfl) (fun _ => rfl))
noncomputable def e_ref01_digit : FSem := mkE A_ref01_digit R_ref01_digit (fun a => F.ref01_digit a.1 a.2.1)
noncomputable def c_ref01_digit : Cfg := { P := Go.Proofs.Tryz.prog, n := 51, tab := [(152, e_ref01_times), (136, e_ref01_trim), (174, e_ref01_compare), (179, e_ref01_minus)], mutL := [], rtL := [], locL := [] }
noncomputable def b_ref01_digit : Code := match Go.Proofs.Tryz.f178.body with | some c => c | none => .skip
noncomputable def a_ref01_digit : An := (.seq .leaf (.seq .leaf (.seq (.draw [0, 1, 2, 3, 4, 5, 6, 7, 8, 9, 10, 11, 12, 13, 14, 15, 16, 17, 18, 19, 20]) (.join [(7, .leaf (.int .u64))] (.seq .leaf (.cond .leaf .leaf)) (.seq .leaf (.seq (.block (.loop [(7, .leaf (.int .u64)), (8, .leaf (.sl))] (.seq (.seq .leaf (.cond .leaf .leaf)) (.block (.seq .leaf .leaf))))) (.seq .leaf .leaf)))))))
theorem t_ref01_digit : Entry Go.Proofs.Tryz.prog 178 e_ref01_digit false :=
  entry_of (C := c_ref01_digit) (fn := Go.Proofs.Tryz.f178) (c := b_ref01_digit) (an := a_ref01_digit) ⟨t_ref01_times, t_ref01_trim, t_ref01_compare, t_ref01_minus, trivial⟩ trivial Go.Proofs.Tryz.func178 rfl rfl (by decide) (fun _ => rfl) (by intro a K D; kernel_rfl)
noncomputable def A_ref01_back : ArgT (Sl × Int × Unit) := (ArgT.cons (Ty.leaf .sl) (ArgT.cons (Ty.leaf (.int .i64)) ArgT.nil))
noncomputable def R_ref01_back : Ty Sl := (Ty.leaf .sl)
noncomputable def e_ref01_back : FSem := mkE A_ref01_back R_ref01_back (fun a => F.ref01_back a.1 a.2.1)
noncomputable def c_ref01_back : Cfg := { P := Go.Proofs.Tryz.prog, n := 45, tab := [(136, e_ref01_trim)], mutL := [], rtL := [], locL := [] }
noncomputable def b_ref01_back : Code := match Go.Proofs.Tryz.f180.body with | some c => c | none => .skip
noncomputable def a_ref01_back : An := (.seq .leaf (.seq .leaf (.seq (.seq .leaf (.block (.loop [(6, .leaf (.int .i64))] (.seq (.seq .leaf (.cond .leaf .leaf)) (.seq (.block (.seq .leaf (.join [(7, .leaf (.int .u64))] (.seq .leaf (.cond .leaf .leaf)) .leaf))) .leaf))))) (.seq .leaf .leaf))))
theorem t_ref01_back : Entry Go.Proofs.Tryz.prog 180 e_ref01_back false :=
  entry_of (C := c_ref01_back) (fn := Go.Proofs.Tryz.f180) (c := b_ref01_back) (an := a_ref01_back) ⟨t_ref01_trim, trivial⟩ trivial Go.Proofs.Tryz.func180 rfl rfl (by decide) (fun _ => rfl) (by intro a K D; kernel_rfl)
noncomputable def A_ref01_divide : ArgT (Sl × Sl × Unit) := (ArgT.cons (Ty.leaf .sl) (ArgT.cons (Ty.leaf .sl) ArgT.nil))
noncomputable def R_ref01_divide : Ty (Sl × Sl) := (Ty.tup (.cons (Ty.leaf .sl) (.cons (Ty.leaf .sl) .nil)) (fun x => (x.1, x.2, ())) (fun y => (y.1, y.2.1)) (fun _ => rfl) (fun _ => rfl))
noncomputable def e_ref01_divide : FSem := mkE A_ref01_divide R_ref01_divide (fun a => F.ref01_divide a.1 a.2.1)
noncomputable def c_ref01_divide : Cfg := { P := Go.Proofs.Tryz.prog, n := 128, tab := [(174, e_ref01_compare), (175, e_ref01_short), (147, e_ref01_words), (176, e_ref01_by), (135, e_ref01_length), (177, e_ref01_shifted), (136, e_ref01_trim), (178, e_ref01_digit), (179, e_ref01_minus), (180, e_ref01_back)], mutL := [], rtL := [], locL := [] }
noncomputable def b_ref01_divide : Code := match Go.Proofs.Tryz.f149.body with | some c => c | none => .skip
noncomputable def a_ref01_divide : An := (.seq .leaf (.seq (.seq .leaf (.cond (.seq .leaf .leaf) .leaf)) (.seq (.seq .leaf (.cond (.seq .leaf (.seq (.draw [0, 1, 2, 4, 5, 6, 3, 7, 8, 9]) .leaf)) .leaf)) (.seq (.seq .leaf (.cond (.seq .leaf (.seq .leaf .leaf)) .leaf)) (.seq .leaf (.seq .leaf (.seq .leaf (.seq (.seq .leaf (.block (.loop [(14, .leaf (.int .i64))] (.seq (.seq .leaf (.cond .leaf .leaf)) (.seq (.block (.seq .leaf (.seq .leaf (.seq .leaf (.seq .leaf (.seq .leaf (.block (.loop [(19, .leaf (.int .i64))] (.seq (.seq .leaf (.cond .leaf .leaf)) (.join [] (.block (.seq .leaf (.seq .leaf (.cond .leaf .leaf)))) .leaf)))))))))) .leaf))))) (.seq .leaf .leaf)))))))))
theorem t_ref01_divide : Entry Go.Proofs.Tryz.prog 149 e_ref01_divide false :=
  entry_of (C := c_ref01_divide) (fn := Go.Proofs.Tryz.f149) (c := b_ref01_divide) (an := a_ref01_divide) ⟨t_ref01_compare, t_ref01_short, t_ref01_words, t_ref01_by, t_ref01_length, t_ref01_shifted, t_ref01_trim, t_ref01_digit, t_ref01_minus, t_ref01_back, trivial⟩ trivial Go.Proofs.Tryz.func149 rfl rfl (by decide) (fun _ => rfl) (by intro a K D; kernel_rfl)
noncomputable def A_ref01_GCD : ArgT (TInt × TInt × Unit) := (ArgT.cons tyTInt (ArgT.cons tyTInt ArgT.nil))
noncomputable def R_ref01_GCD : Ty TInt := tyTInt
noncomputable def e_ref01_GCD : FSem := mkE A_ref01_GCD R_ref01_GCD (fun a => F.ref01_GCD a.1 a.2.1)
noncomputable def c_ref01_GCD : Cfg := { P := Go.Proofs.Tryz.prog, n := 28, tab := [(136, e_ref01_trim), (149, e_ref01_divide), (146, e_ref01_signed)], mutL := [], rtL := [(9, 2), (12, 3)], locL := [2, 3, 4] }
noncomputable def b_ref01_GCD : Code := match Go.Proofs.Tryz.f90.body with | some c => c | none => .skip
noncomputable def a_ref01_GCD : An := (.seq .leaf (.seq (.draw [0, 1, 3, 4, 2, 5, 6, 7]) (.seq (.block (.loop [(5, .leaf (.sl)), (6, .leaf (.sl))] (.seq (.seq .leaf (.cond .leaf .leaf)) (.block (.seq .leaf .leaf))))) (.seq .leaf .leaf))))
theorem t_ref01_GCD : Entry Go.Proofs.Tryz.prog 90 e_ref01_GCD false :=
  entry_of (C := c_ref01_GCD) (fn := Go.Proofs.Tryz.f90) (c := b_ref01_GCD) (an := a_ref01_GCD) ⟨t_ref01_trim, t_ref01_divide, t_ref01_signed, trivial⟩ trivial Go.Proofs.Tryz.func90 rfl rfl (by decide) (fun _ => rfl) (by intro a K D; kernel_rfl)
noncomputable def A_ref01_Norm : ArgT (TInt × Unit) := (ArgT.cons tyTInt ArgT.nil)
noncomputable def R_ref01_Norm : Ty TInt := tyTInt
noncomputable def e_ref01_Norm : FSem := mkE A_ref01_Norm R_ref01_Norm (fun a => F.ref01_Norm a.1)
noncomputable def c_ref01_Norm : Cfg := { P := Go.Proofs.Tryz.prog, n := 8, tab := [(146, e_ref01_signed)], mutL := [], rtL := [(3, 1), (5, 1)], locL := [1, 2] }
noncomputable def b_ref01_Norm : Code := match Go.Proofs.Tryz.f148.body with | some c => c | none => .skip
noncomputable def a_ref01_Norm : An := (.seq .leaf (.seq .leaf .leaf))
theorem t_ref01_Norm : Entry Go.Proofs.Tryz.prog 148 e_ref01_Norm false :=
  entry_of (C := c_ref01_Norm) (fn := Go.Proofs.Tryz.f148) (c := b_ref01_Norm) (an := a_ref01_Norm) ⟨t_ref01_signed, trivial⟩ trivial Go.Proofs.Tryz.func148 rfl rfl (by decide) (fun _ => rfl) (by intro a K D; kernel_rfl)
noncomputable def A_ref01_Mul : ArgT (TInt × TInt × Unit) := (ArgT.cons tyTInt (ArgT.cons tyTInt ArgT.nil))
noncomputable def R_ref01_Mul : Ty TInt := tyTInt
noncomputable def e_ref01_Mul : FSem := mkE A_ref01_Mul R_ref01_Mul (fun a => F.ref01_Mul a.1 a.2.1)
noncomputable def c_ref01_Mul : Cfg := { P := Go.Proofs.Tryz.prog, n := 20, tab := [(148, e_ref01_Norm), (152, e_ref01_times), (146, e_ref01_signed)], mutL := [], rtL := [(9, 2), (11, 3), (14, 2), (16, 3)], locL := [2, 3, 4] }
noncomputable def b_ref01_Mul : Code := match Go.Proofs.Tryz.f91.body with | some c => c | none => .skip
noncomputable def a_ref01_Mul : An := (.seq .leaf (.seq (.draw [0, 2, 1, 3, 4, 5]) (.seq (.draw [0, 1, 2, 3, 4, 5, 6, 7, 8, 9, 10, 11]) .leaf)))
theorem t_ref01_Mul : Entry Go.Proofs.Tryz.prog 91 e_ref01_Mul false :=
  entry_of (C := c_ref01_Mul) (fn := Go.Proofs.Tryz.f91) (c := b_ref01_Mul) (an := a_ref01_Mul) ⟨t_ref01_Norm, t_ref01_times, t_ref01_signed, trivial⟩ trivial Go.Proofs.Tryz.func91 rfl rfl (by decide) (fun _ => rfl) (by intro a K D; kernel_rfl)
noncomputable def A_ref01_Neg : ArgT (TInt × Unit) := (ArgT.cons tyTInt ArgT.nil)
noncomputable def R_ref01_Neg : Ty TInt := tyTInt
noncomputable def e_ref01_Neg : FSem := mkE A_ref01_Neg R_ref01_Neg (fun a => F.ref01_Neg a.1)
noncomputable def c_ref01_Neg : Cfg := { P := Go.Proofs.Tryz.prog, n := 9, tab := [(146, e_ref01_signed)], mutL := [], rtL := [(3, 1), (6, 1)], locL := [1, 2] }
noncomputable def b_ref01_Neg : Code := match Go.Proofs.Tryz.f93.body with | some c => c | none => .skip
noncomputable def a_ref01_Neg : An := (.seq .leaf (.seq .leaf .leaf))
theorem t_ref01_Neg : Entry Go.Proofs.Tryz.prog 93 e_ref01_Neg false :=
  entry_of (C := c_ref01_Neg) (fn := Go.Proofs.Tryz.f93) (c := b_ref01_Neg) (an := a_ref01_Neg) ⟨t_ref01_signed, trivial⟩ trivial Go.Proofs.Tryz.func93 rfl rfl (by decide) (fun _ => rfl) (by intro a K D; kernel_rfl)
noncomputable def A_ref01_plus : ArgT (Sl × Sl × Unit) := (ArgT.cons (Ty.leaf .sl) (ArgT.cons (Ty.leaf .sl) ArgT.nil))
noncomputable def R_ref01_plus : Ty Sl := (Ty.leaf .sl)
noncomputable def e_ref01_plus : FSem := mkE A_ref01_plus R_ref01_plus (fun a => F.ref01_plus a.1 a.2.1)
noncomputable def c_ref01_plus : Cfg := { P := Go.Proofs.Tryz.prog, n := 58, tab := [(136, e_ref01_trim)], mutL := [], rtL := [], locL := [] }
noncomputable def b_ref01_plus : Code := match Go.Proofs.Tryz.f181.body with | some c => c | none => .skip
noncomputable def a_ref01_plus : An := (.seq .leaf (.join [(0, .leaf (.sl)), (1, .leaf (.sl))] (.seq .leaf (.cond .leaf .leaf)) (.seq .leaf (.seq .leaf (.seq (.seq .leaf (.block (.loop [(6, .leaf (.int .u64)), (7, .leaf (.int .i64))] (.seq (.seq .leaf (.cond .leaf .leaf)) (.seq (.block (.seq .leaf (.join [(6, .leaf (.int .u64))] (.seq .leaf (.cond .leaf .leaf)) (.seq .leaf .leaf)))) .leaf))))) (.seq .leaf (.seq .leaf .leaf)))))))
theorem t_ref01_plus : Entry Go.Proofs.Tryz.prog 181 e_ref01_plus false :=
  entry_of (C := c_ref01_plus) (fn := Go.Proofs.Tryz.f181) (c := b_ref01_plus) (an := a_ref01_plus) ⟨t_ref01_trim, trivial⟩ trivial Go.Proofs.Tryz.func181 rfl rfl (by decide) (fun _ => rfl) (by intro a K D; kernel_rfl)
noncomputable def A_ref01_Add : ArgT (TInt × TInt × Unit) := (ArgT.cons tyTInt (ArgT.cons tyTInt ArgT.nil))
noncomputable def R_ref01_Add : Ty TInt := tyTInt
noncomputable def e_ref01_Add : FSem := mkE A_ref01_Add R_ref01_Add (fun a => F.ref01_Add a.1 a.2.1)
noncomputable def c_ref01_Add : Cfg := { P := Go.Proofs.Tryz.prog, n := 44, tab := [(148, e_ref01_Norm), (181, e_ref01_plus), (146, e_ref01_signed), (174, e_ref01_compare), (179, e_ref01_minus)], mutL := [], rtL := [(9, 2), (11, 3), (14, 2), (16, 2), (18, 3), (22, 2), (24, 3), (28, 2), (30, 2), (32, 3), (36, 3), (38, 3), (40, 2)], locL := [2, 3, 4] }
noncomputable def b_ref01_Add : Code := match Go.Proofs.Tryz.f151.body with | some c => c | none => .skip
noncomputable def a_ref01_Add : An := (.seq .leaf (.seq (.draw [0, 2, 1, 3, 4, 5]) (.seq (.seq .leaf (.cond (.seq (.draw [0, 1, 2, 3, 4, 5, 6, 7, 8]) .leaf) .leaf)) (.seq (.seq .leaf (.cond (.seq (.draw [0, 1, 2, 3, 4, 5, 6, 7, 8]) .leaf) .leaf)) (.seq (.draw [0, 1, 2, 3, 4, 5, 6, 7, 8]) .leaf)))))
theorem t_ref01_Add : Entry Go.Proofs.Tryz.prog 151 e_ref01_Add false :=
  entry_of (C := c_ref01_Add) (fn := Go.Proofs.Tryz.f151) (c := b_ref01_Add) (an := a_ref01_Add) ⟨t_ref01_Norm, t_ref01_plus, t_ref01_signed, t_ref01_compare, t_ref01_minus, trivial⟩ trivial Go.Proofs.Tryz.func151 rfl rfl (by decide) (fun _ => rfl) (by intro a K D; kernel_rfl)
noncomputable def A_ref01_Sub : ArgT (TInt × TInt × Unit) := (ArgT.cons tyTInt (ArgT.cons tyTInt ArgT.nil))
noncomputable def R_ref01_Sub : Ty TInt := tyTInt
noncomputable def e_ref01_Sub : FSem := mkE A_ref01_Sub R_ref01_Sub (fun a => F.ref01_Sub a.1 a.2.1)
noncomputable def c_ref01_Sub : Cfg := { P := Go.Proofs.Tryz.prog, n := 9, tab := [(93, e_ref01_Neg), (151, e_ref01_Add)], mutL := [], rtL := [], locL := [2, 3, 4] }
noncomputable def b_ref01_Sub : Code := match Go.Proofs.Tryz.f150.body with | some c => c | none => .skip
noncomputable def a_ref01_Sub : An := (.seq .leaf (.seq (.draw [0, 1, 2, 3, 4]) .leaf))
theorem t_ref01_Sub : Entry Go.Proofs.Tryz.prog 150 e_ref01_Sub false :=
  entry_of (C := c_ref01_Sub) (fn := Go.Proofs.Tryz.f150) (c := b_ref01_Sub) (an := a_ref01_Sub) ⟨t_ref01_Neg, t_ref01_Add, trivial⟩ trivial Go.Proofs.Tryz.func150 rfl rfl (by decide) (fun _ => rfl) (by intro a K D; kernel_rfl)
noncomputable def A_ref01_Sign : ArgT (TInt × Unit) := (ArgT.cons tyTInt ArgT.nil)
noncomputable def R_ref01_Sign : Ty Int := (Ty.leaf (.int .i64))
noncomputable def e_ref01_Sign : FSem := mkE A_ref01_Sign R_ref01_Sign (fun a => F.ref01_Sign a.1)
noncomputable def c_ref01_Sign : Cfg := { P := Go.Proofs.Tryz.prog, n := 11, tab := [(148, e_ref01_Norm)], mutL := [], rtL := [(5, 1), (9, 1)], locL := [1] }
noncomputable def b_ref01_Sign : Code := match Go.Proofs.Tryz.f92.body with | some c => c | none => .skip
noncomputable def a_ref01_Sign : An := (.seq .leaf (.seq .leaf (.seq (.seq .leaf (.cond (.seq .leaf .leaf) .leaf)) (.seq (.seq .leaf (.cond (.seq .leaf .leaf) .leaf)) (.seq .leaf .leaf)))))
theorem t_ref01_Sign : Entry Go.Proofs.Tryz.prog 92 e_ref01_Sign false :=
  entry_of (C := c_ref01_Sign) (fn := Go.Proofs.Tryz.f92) (c := b_ref01_Sign) (an := a_ref01_Sign) ⟨t_ref01_Norm, trivial⟩ trivial Go.Proofs.Tryz.func92 rfl rfl (by decide) (fun _ => rfl) (by intro a K D; kernel_rfl)
noncomputable def A_ref01_DivMod : ArgT (TInt × TInt × Unit) := (ArgT.cons tyTInt (ArgT.cons tyTInt ArgT.nil))
noncomputable def R_ref01_DivMod : Ty (TInt × TInt × Int) := (Ty.tup (.cons tyTInt (.cons tyTInt (.cons (Ty.leaf (.int .i64)) .nil))) (fun x => (x.1, x.2.1, x.2.2, ())) (fun y => (y.1, y.2.1, y.2.2.1)) (fun _ => rfl) (fun _ => rfl))
noncomputable def e_ref01_DivMod : FSem := mkE A_ref01_DivMod R_ref01_DivMod (fun a => F.ref01_DivMod a.1 a.2.1)
noncomputable def c_ref01_DivMod : Cfg := { P := Go.Proofs.Tryz.prog, n := 55, tab := [(148, e_ref01_Norm), (149, e_ref01_divide), (146, e_ref01_signed), (91, e_ref01_Mul), (150, e_ref01_Sub), (92, e_ref01_Sign), (88, e_ref01_FromInt), (151, e_ref01_Add)], mutL := [], rtL := [(15, 3), (22, 2), (24, 3), (29, 2), (31, 3)], locL := [2, 3, 4, 5, 9, 10] }
noncomputable def b_ref01_DivMod : Code := match Go.Proofs.Tryz.f89.body with | some c => c | none => .skip
noncomputable def a_ref01_DivMod : An := (.seq .leaf (.seq (.draw [0, 2, 1, 3, 4, 5]) (.seq (.seq .leaf (.cond (.seq .leaf .leaf) .leaf)) (.seq .leaf (.seq .leaf (.seq (.draw [0, 1, 2, 5, 3, 4, 6]) (.join [(9, .box [.bool, .sl]), (10, .box [.bool, .sl])] (.seq (.draw [0, 2, 1, 3, 4, 5]) (.cond (.seq (.draw [0, 1, 2, 3]) .leaf) .leaf)) (.seq (.draw [0, 1, 2, 3, 4]) .leaf))))))))
theorem t_ref01_DivMod : Entry Go.Proofs.Tryz.prog 89 e_ref01_DivMod false :=
  entry_of (C := c_ref01_DivMod) (fn := Go.Proofs.Tryz.f89) (c := b_ref01_DivMod) (an := a_ref01_DivMod) ⟨t_ref01_Norm, t_ref01_divide, t_ref01_signed, t_ref01_Mul, t_ref01_Sub, t_ref01_Sign, t_ref01_FromInt, t_ref01_Add, trivial⟩ trivial Go.Proofs.Tryz.func89 rfl rfl (by decide) (fun _ => rfl) (by intro a K D; kernel_rfl)
noncomputable def A_ref02_quo : ArgT (TInt × TInt × Unit) := (ArgT.cons tyTInt (ArgT.cons tyTInt ArgT.nil))
noncomputable def R_ref02_quo : Ty TInt := tyTInt
noncomputable def e_ref02_quo : FSem := mkE A_ref02_quo R_ref02_quo (fun a => F.ref02_quo a.1 a.2.1)
noncomputable def c_ref02_quo : Cfg := { P := Go.Proofs.Tryz.prog, n := 16, tab := [(89, e_ref01_DivMod)], mutL := [], rtL := [], locL := [2, 3, 4, 5, 6] }
noncomputable def b_ref02_quo : Code := match Go.Proofs.Tryz.f134.body with | some c => c | none => .skip
noncomputable def a_ref02_quo : An := (.seq .leaf (.seq .leaf (.seq .leaf .leaf)))
theorem t_ref02_quo : Entry Go.Proofs.Tryz.prog 134 e_ref02_quo false :=
  entry_of (C := c_ref02_quo) (fn := Go.Proofs.Tryz.f134) (c := b_ref02_quo) (an := a_ref02_quo) ⟨t_ref01_DivMod, trivial⟩ trivial Go.Proofs.Tryz.func134 rfl rfl (by decide) (fun _ => rfl) (by intro a K D; kernel_rfl)
noncomputable def A_slices_Clone_api_Rat_api_Rat : ArgT (Sl × Unit) := (ArgT.cons (Ty.leaf .sl) ArgT.nil)
noncomputable def R_slices_Clone_api_Rat_api_Rat : Ty Sl := (Ty.leaf .sl)
noncomputable def e_slices_Clone_api_Rat_api_Rat : FSem := mkE A_slices_Clone_api_Rat_api_Rat R_slices_Clone_api_Rat_api_Rat (fun a => F.slices_Clone_api_Rat_api_Rat a.1)
noncomputable def c_slices_Clone_api_Rat_api_Rat : Cfg := { P := Go.Proofs.Tryz.prog, n := 8, tab := [], mutL := [], rtL := [], locL := [] }
noncomputable def b_slices_Clone_api_Rat_api_Rat : Code := match Go.Proofs.Tryz.f104.body with | some c => c | none => .skip
noncomputable def a_slices_Clone_api_Rat_api_Rat : An := (.seq .leaf (.seq (.seq .leaf (.cond (.seq .leaf .leaf) .leaf)) (.seq .leaf .leaf)))
theorem t_slices_Clone_api_Rat_api_Rat : Entry Go.Proofs.Tryz.prog 104 e_slices_Clone_api_Rat_api_Rat false :=
  entry_of (C := c_slices_Clone_api_Rat_api_Rat) (fn := Go.Proofs.Tryz.f104) (c := b_slices_Clone_api_Rat_api_Rat) (an := a_slices_Clone_api_Rat_api_Rat) trivial trivial Go.Proofs.Tryz.func104 rfl rfl (by decide) (fun _ => rfl) (by intro a K D; kernel_rfl)
noncomputable def A_integer_trim : ArgT (Sl × Unit) := (ArgT.cons (Ty.leaf .sl) ArgT.nil)
noncomputable def R_integer_trim : Ty Sl := (Ty.leaf .sl)
noncomputable def e_integer_trim : FSem := mkE A_integer_trim R_integer_trim (fun a => F.integer_trim a.1)
noncomputable def c_integer_trim : Cfg := { P := Go.Proofs.Tryz.prog, n := 21, tab := [], mutL := [], rtL := [], locL := [] }
noncomputable def b_integer_trim : Code := match Go.Proofs.Tryz.f139.body with | some c => c | none => .skip
noncomputable def a_integer_trim : An := (.seq .leaf (.seq (.block (.loop [(0, .leaf (.sl))] (.join [] (.seq .leaf (.cond .leaf .leaf)) (.block .leaf)))) (.seq .leaf .leaf)))
theorem t_integer_trim : Entry Go.Proofs.Tryz.prog 139 e_integer_trim false :=
  entry_of (C := c_integer_trim) (fn := Go.Proofs.Tryz.f139) (c := b_integer_trim) (an := a_integer_trim) trivial trivial Go.Proofs.Tryz.func139 rfl rfl (by decide) (fun _ => rfl) (by intro a K D; kernel_rfl)
end Den
end

section
namespace Den
open Go Go.RowKit Go.Shelf
open Go.Proofs
attribute [local go_sem] Oper.semAt_some

set_option maxRecDepth 100000 in
set_option maxHeartbeats 2000000 in
theorem bk_u32 : BackFn Tryz.prog 189 (.leaf (.int .u32)) := by
  refine ⟨enters_of Tryz.func189 (by kernel_rfl) rfl, ?_⟩
  rintro l ab ⟨xa, xl, xc⟩ J w hxl h0 hbox hround
  simp only at hxl h0 hbox hround
  have hb0 := hbox _ _ h0
  refine callsIn_of_wp Tryz.func189 rfl trivial ?_ rfl
  simp only [Tryz.ntmps189, List.size_toArray, List.length_cons, List.length_nil, Nat.reduceAdd, Nat.reduceSub, Array.replicate_succ, Array.replicate_zero, List.push_toArray, List.append_toArray, List.nil_append, List.cons_append]
  gi_wp2
  gi_loopw [3] (fun i wr => ∃ k : Nat, k ≤ xl ∧ i = .int .i64 ((k : Int) - 1) ∧ J k wr) (fun i _ => (intOf i + 1).toNat)
  case atStart => exact ⟨xl, Nat.le_refl _, rfl, h0⟩
  case round =>
    obtain ⟨k, hk, rfl, hJ⟩ := hrel
    have hbx := hbox _ _ hJ
    cases k with
    | zero =>
      gi_wp2
      go_end0
      exact ⟨⟨_, rfl⟩, hJ⟩
    | succ j =>
      obtain ⟨ad, v, hxa, hcells, f, tmps1, asg, body, hy, hR⟩ := hround j wr (by omega) hJ
      subst hxa
      have hc0 : wr.cell? (ad.add j) = some (.int .u32 v) := by
        have := hcells 0 (.int .u32 v) rfl
        simpa [STy.size] using this
      have hkj : (((j + 1 : Nat) : Int) - 1) = (j : Int) := by omega
      rw [hkj]
      simp only [STy.val, Lf.up] at hy
      gi_wp2
      refine ⟨rfl, hR.mono ?_⟩
      rintro e W3 ⟨rfl, hJ3⟩
      gi_wp2
      go_roundw
      case rel => exact ⟨j, by omega, by simp, hJ3⟩
      case measure => simp [intOf]
end Den
end

section
set_option maxRecDepth 100000
set_option linter.unusedVariables false
namespace Den
open Go
noncomputable def A_integer_Sign : ArgT (TInt × Unit) := (ArgT.cons tyTInt ArgT.nil)
noncomputable def R_integer_Sign : Ty Int := (Ty.leaf (.int .i64))
noncomputable def e_integer_Sign : FSem := mkE A_integer_Sign R_integer_Sign (fun a => F.integer_Sign a.1)
noncomputable def c_integer_Sign : Cfg := { P := Go.Proofs.Tryz.prog, n := 12, tab := [(139, e_integer_trim)], mutL := [], rtL := [(4, 1), (10, 1)], locL := [1] }
noncomputable def b_integer_Sign : Code := match Go.Proofs.Tryz.f153.body with | some c => c | none => .skip
noncomputable def a_integer_Sign : An := (.seq .leaf (.seq (.block (.seq .leaf (.cond (.seq .leaf .leaf) (.seq .leaf (.cond (.seq .leaf .leaf) .leaf))))) (.seq .leaf .leaf)))
theorem t_integer_Sign : Entry Go.Proofs.Tryz.prog 153 e_integer_Sign false :=
  entry_of (C := c_integer_Sign) (fn := Go.Proofs.Tryz.f153) (c := b_integer_Sign) (an := a_integer_Sign) ⟨t_integer_trim, trivial⟩ trivial Go.Proofs.Tryz.func153 rfl rfl (by decide) (fun _ => rfl) (by intro a K D; kernel_rfl)
noncomputable def A_rational_Sign : ArgT (TRat × Unit) := (ArgT.cons tyTRat ArgT.nil)
noncomputable def R_rational_Sign : Ty Int := (Ty.leaf (.int .i64))
noncomputable def e_rational_Sign : FSem := mkE A_rational_Sign R_rational_Sign (fun a => F.rational_Sign a.1)
noncomputable def c_rational_Sign : Cfg := { P := Go.Proofs.Tryz.prog, n := 6, tab := [(153, e_integer_Sign)], mutL := [], rtL := [(3, 1)], locL := [1] }
noncomputable def b_rational_Sign : Code := match Go.Proofs.Tryz.f96.body with | some c => c | none => .skip
noncomputable def a_rational_Sign : An := (.seq .leaf (.seq .leaf .leaf))
theorem t_rational_Sign : Entry Go.Proofs.Tryz.prog 96 e_rational_Sign false :=
  entry_of (C := c_rational_Sign) (fn := Go.Proofs.Tryz.f96) (c := b_rational_Sign) (an := a_rational_Sign) ⟨t_integer_Sign, trivial⟩ trivial Go.Proofs.Tryz.func96 rfl rfl (by decide) (fun _ => rfl) (by intro a K D; kernel_rfl)
noncomputable def A_polynomial_Trim : ArgT (Sl × Unit) := (ArgT.cons (Ty.leaf .sl) ArgT.nil)
noncomputable def R_polynomial_Trim : Ty Sl := (Ty.leaf .sl)
noncomputable def e_polynomial_Trim : FSem := mkE A_polynomial_Trim R_polynomial_Trim (fun a => F.polynomial_Trim a.1)
noncomputable def c_polynomial_Trim : Cfg := { P := Go.Proofs.Tryz.prog, n := 23, tab := [(104, e_slices_Clone_api_Rat_api_Rat), (96, e_rational_Sign)], mutL := [], rtL := [], locL := [] }
noncomputable def b_polynomial_Trim : Code := match Go.Proofs.Tryz.f38.body with | some c => c | none => .skip
noncomputable def a_polynomial_Trim : An := (.seq .leaf (.seq .leaf (.join [(3, .leaf (.int .i64))] (.block (.loop [(3, .leaf (.int .i64))] (.join [] (.seq .leaf (.cond .leaf .leaf)) (.block .leaf)))) (.seq .leaf .leaf))))
theorem t_polynomial_Trim : Entry Go.Proofs.Tryz.prog 38 e_polynomial_Trim false :=
  entry_of (C := c_polynomial_Trim) (fn := Go.Proofs.Tryz.f38) (c := b_polynomial_Trim) (an := a_polynomial_Trim) ⟨t_slices_Clone_api_Rat_api_Rat, t_rational_Sign, trivial⟩ trivial Go.Proofs.Tryz.func38 rfl rfl (by decide) (fun _ => rfl) (by intro a K D; kernel_rfl)
noncomputable def A_polynomial_Degree : ArgT (Sl × Unit) := (ArgT.cons (Ty.leaf .sl) ArgT.nil)
noncomputable def R_polynomial_Degree : Ty Int := (Ty.leaf (.int .i64))
noncomputable def e_polynomial_Degree : FSem := mkE A_polynomial_Degree R_polynomial_Degree (fun a => F.polynomial_Degree a.1)
noncomputable def c_polynomial_Degree : Cfg := { P := Go.Proofs.Tryz.prog, n := 7, tab := [(38, e_polynomial_Trim)], mutL := [], rtL := [], locL := [] }
noncomputable def b_polynomial_Degree : Code := match Go.Proofs.Tryz.f39.body with | some c => c | none => .skip
noncomputable def a_polynomial_Degree : An := (.seq .leaf (.seq .leaf .leaf))
theorem t_polynomial_Degree : Entry Go.Proofs.Tryz.prog 39 e_polynomial_Degree false :=
  entry_of (C := c_polynomial_Degree) (fn := Go.Proofs.Tryz.f39) (c := b_polynomial_Degree) (an := a_polynomial_Degree) ⟨t_polynomial_Trim, trivial⟩ trivial Go.Proofs.Tryz.func39 rfl rfl (by decide) (fun _ => rfl) (by intro a K D; kernel_rfl)
noncomputable def A_integer_fromUint : ArgT (Int × Unit) := (ArgT.cons (Ty.leaf (.int .u64)) ArgT.nil)
noncomputable def R_integer_fromUint : Ty Sl := (Ty.leaf .sl)
noncomputable def e_integer_fromUint : FSem := mkE A_integer_fromUint R_integer_fromUint (fun a => F.integer_fromUint a.1)
noncomputable def c_integer_fromUint : Cfg := { P := Go.Proofs.Tryz.prog, n := 10, tab := [(139, e_integer_trim)], mutL := [], rtL := [], locL := [] }
noncomputable def b_integer_fromUint : Code := match Go.Proofs.Tryz.f138.body with | some c => c | none => .skip
noncomputable def a_integer_fromUint : An := (.seq .leaf (.seq .leaf .leaf))
theorem t_integer_fromUint : Entry Go.Proofs.Tryz.prog 138 e_integer_fromUint false :=
  entry_of (C := c_integer_fromUint) (fn := Go.Proofs.Tryz.f138) (c := b_integer_fromUint) (an := a_integer_fromUint) ⟨t_integer_trim, trivial⟩ trivial Go.Proofs.Tryz.func138 rfl rfl (by decide) (fun _ => rfl) (by intro a K D; kernel_rfl)
noncomputable def A_integer_signed : ArgT (Bool × Sl × Unit) := (ArgT.cons (Ty.leaf .bool) (ArgT.cons (Ty.leaf .sl) ArgT.nil))
noncomputable def R_integer_signed : Ty TInt := tyTInt
noncomputable def e_integer_signed : FSem := mkE A_integer_signed R_integer_signed (fun a => F.integer_signed a.1 a.2.1)
noncomputable def c_integer_signed : Cfg := { P := Go.Proofs.Tryz.prog, n := 14, tab := [(139, e_integer_trim)], mutL := [], rtL := [], locL := [4] }
noncomputable def b_integer_signed : Code := match Go.Proofs.Tryz.f137.body with | some c => c | none => .skip
noncomputable def a_integer_signed : An := (.seq .leaf (.seq .leaf (.seq (.seq .leaf (.cond (.seq .leaf .leaf) .leaf)) (.seq .leaf .leaf))))
theorem t_integer_signed : Entry Go.Proofs.Tryz.prog 137 e_integer_signed false :=
  entry_of (C := c_integer_signed) (fn := Go.Proofs.Tryz.f137) (c := b_integer_signed) (an := a_integer_signed) ⟨t_integer_trim, trivial⟩ trivial Go.Proofs.Tryz.func137 rfl rfl (by decide) (fun _ => rfl) (by intro a K D; kernel_rfl)
noncomputable def A_integer_FromInt : ArgT (Int × Unit) := (ArgT.cons (Ty.leaf (.int .i64)) ArgT.nil)
noncomputable def R_integer_FromInt : Ty TInt := tyTInt
noncomputable def e_integer_FromInt : FSem := mkE A_integer_FromInt R_integer_FromInt (fun a => F.integer_FromInt a.1)
noncomputable def c_integer_FromInt : Cfg := { P := Go.Proofs.Tryz.prog, n := 15, tab := [(138, e_integer_fromUint), (137, e_integer_signed)], mutL := [], rtL := [], locL := [2] }
noncomputable def b_integer_FromInt : Code := match Go.Proofs.Tryz.f84.body with | some c => c | none => .skip
noncomputable def a_integer_FromInt : An := (.seq .leaf (.seq .leaf (.join [(3, .leaf (.int .u64))] (.seq .leaf (.cond .leaf .leaf)) (.seq .leaf .leaf))))
theorem t_integer_FromInt : Entry Go.Proofs.Tryz.prog 84 e_integer_FromInt false :=
  entry_of (C := c_integer_FromInt) (fn := Go.Proofs.Tryz.f84) (c := b_integer_FromInt) (an := a_integer_FromInt) ⟨t_integer_fromUint, t_integer_signed, trivial⟩ trivial Go.Proofs.Tryz.func84 rfl rfl (by decide) (fun _ => rfl) (by intro a K D; kernel_rfl)
noncomputable def A_rational_one : ArgT (Unit) := ArgT.nil
noncomputable def R_rational_one : Ty TInt := tyTInt
noncomputable def e_rational_one : FSem := mkE A_rational_one R_rational_one (fun a => F.rational_one )
noncomputable def c_rational_one : Cfg := { P := Go.Proofs.Tryz.prog, n := 2, tab := [(84, e_integer_FromInt)], mutL := [], rtL := [], locL := [0] }
noncomputable def b_rational_one : Code := match Go.Proofs.Tryz.f129.body with | some c => c | none => .skip
noncomputable def a_rational_one : An := (.seq .leaf (.seq .leaf .leaf))
theorem t_rational_one : Entry Go.Proofs.Tryz.prog 129 e_rational_one false :=
  entry_of (C := c_rational_one) (fn := Go.Proofs.Tryz.f129) (c := b_rational_one) (an := a_rational_one) ⟨t_integer_FromInt, trivial⟩ trivial Go.Proofs.Tryz.func129 rfl rfl (by decide) (fun _ => rfl) (by intro a K D; kernel_rfl)
noncomputable def A_rational_FromInt : ArgT (Int × Unit) := (ArgT.cons (Ty.leaf (.int .i64)) ArgT.nil)
noncomputable def R_rational_FromInt : Ty TRat := tyTRat
noncomputable def e_rational_FromInt : FSem := mkE A_rational_FromInt R_rational_FromInt (fun a => F.rational_FromInt a.1)
noncomputable def c_rational_FromInt : Cfg := { P := Go.Proofs.Tryz.prog, n := 7, tab := [(84, e_integer_FromInt), (129, e_rational_one)], mutL := [], rtL := [], locL := [2] }
noncomputable def b_rational_FromInt : Code := match Go.Proofs.Tryz.f79.body with | some c => c | none => .skip
noncomputable def a_rational_FromInt : An := (.seq .leaf (.seq .leaf .leaf))
theorem t_rational_FromInt : Entry Go.Proofs.Tryz.prog 79 e_rational_FromInt false :=
  entry_of (C := c_rational_FromInt) (fn := Go.Proofs.Tryz.f79) (c := b_rational_FromInt) (an := a_rational_FromInt) ⟨t_integer_FromInt, t_rational_one, trivial⟩ trivial Go.Proofs.Tryz.func79 rfl rfl (by decide) (fun _ => rfl) (by intro a K D; kernel_rfl)
noncomputable def A_math_bits_Mul64 : ArgT (Int × Int × Unit) := (ArgT.cons (Ty.leaf (.int .u64)) (ArgT.cons (Ty.leaf (.int .u64)) ArgT.nil))
noncomputable def R_math_bits_Mul64 : Ty (Int × Int) := (Ty.tup (.cons (Ty.leaf (.int .u64)) (.cons (Ty.leaf (.int .u64)) .nil)) (fun x => (x.1, x.2, ())) (fun y => (y.1, y.2.1)) (fun _ => rfl) (fun _ => rfl))
noncomputable def e_math_bits_Mul64 : FSem := mkE A_math_bits_Mul64 R_math_bits_Mul64 (fun a => F.math_bits_Mul64 a.1 a.2.1)
noncomputable def c_math_bits_Mul64 : Cfg := { P := Go.Proofs.Tryz.prog, n := 51, tab := [], mutL := [], rtL := [], locL := [] }
noncomputable def b_math_bits_Mul64 : Code := match Go.Proofs.Tryz.f186.body with | some c => c | none => .skip
noncomputable def a_math_bits_Mul64 : An := (.seq .leaf (.seq .leaf (.seq .leaf (.seq .leaf (.seq .leaf (.seq .leaf (.seq .leaf (.seq .leaf (.seq .leaf (.seq .leaf (.seq .leaf (.seq .leaf .leaf))))))))))))
theorem t_math_bits_Mul64 : Entry Go.Proofs.Tryz.prog 186 e_math_bits_Mul64 false :=
  entry_of (C := c_math_bits_Mul64) (fn := Go.Proofs.Tryz.f186) (c := b_math_bits_Mul64) (an := a_math_bits_Mul64) trivial trivial Go.Proofs.Tryz.func186 rfl rfl (by decide) (fun _ => rfl) (by intro a K D; kernel_rfl)
noncomputable def A_math_bits_Mul : ArgT (Int × Int × Unit) := (ArgT.cons (Ty.leaf (.int .u64)) (ArgT.cons (Ty.leaf (.int .u64)) ArgT.nil))
noncomputable def R_math_bits_Mul : Ty (Int × Int) := (Ty.tup (.cons (Ty.leaf (.int .u64)) (.cons (Ty.leaf (.int .u64)) .nil)) (fun x => (x.1, x.2, ())) (fun y => (y.1, y.2.1)) (fun _ => rfl) (fun _ => rfl))
noncomputable def e_math_bits_Mul : FSem := mkE A_math_bits_Mul R_math_bits_Mul (fun a => F.math_bits_Mul a.1 a.2.1)
noncomputable def c_math_bits_Mul : Cfg := { P := Go.Proofs.Tryz.prog, n := 30, tab := [(186, e_math_bits_Mul64)], mutL := [], rtL := [], locL := [] }
noncomputable def b_math_bits_Mul : Code := match Go.Proofs.Tryz.f162.body with | some c => c | none => .skip
noncomputable def a_math_bits_Mul : An := (.seq .leaf (.seq (.cond (.seq .leaf (.seq .leaf .leaf)) .leaf) (.seq .leaf (.seq .leaf .leaf))))
theorem t_math_bits_Mul : Entry Go.Proofs.Tryz.prog 162 e_math_bits_Mul false :=
  entry_of (C := c_math_bits_Mul) (fn := Go.Proofs.Tryz.f162) (c := b_math_bits_Mul) (an := a_math_bits_Mul) ⟨t_math_bits_Mul64, trivial⟩ trivial Go.Proofs.Tryz.func162 rfl rfl (by decide) (fun _ => rfl) (by intro a K D; kernel_rfl)
noncomputable def A_slices_Repeat_api_Rat_api_Rat : ArgT (Sl × Int × Unit) := (ArgT.cons (Ty.leaf .sl) (ArgT.cons (Ty.leaf (.int .i64)) ArgT.nil))
noncomputable def R_slices_Repeat_api_Rat_api_Rat : Ty Sl := (Ty.leaf .sl)
noncomputable def e_slices_Repeat_api_Rat_api_Rat : FSem := mkE A_slices_Repeat_api_Rat_api_Rat R_slices_Repeat_api_Rat_api_Rat (fun a => F.slices_Repeat_api_Rat_api_Rat a.1 a.2.1)
noncomputable def c_slices_Repeat_api_Rat_api_Rat : Cfg := { P := Go.Proofs.Tryz.prog, n := 48, tab := [(162, e_math_bits_Mul)], mutL := [], rtL := [], locL := [] }
noncomputable def b_slices_Repeat_api_Rat_api_Rat : Code := match Go.Proofs.Tryz.f126.body with | some c => c | none => .skip
noncomputable def a_slices_Repeat_api_Rat_api_Rat : An := (.seq .leaf (.join [] (.seq .leaf (.cond .leaf .leaf)) (.seq .leaf (.join [] (.seq .leaf (.cond .leaf .leaf)) (.seq .leaf (.seq .leaf (.seq (.block (.loop [(8, .leaf (.int .i64))] (.seq (.seq .leaf (.cond .leaf .leaf)) (.block (.draw [0, 1, 2, 3, 4, 5, 6, 7, 8, 9]))))) (.seq .leaf .leaf))))))))
theorem t_slices_Repeat_api_Rat_api_Rat : Entry Go.Proofs.Tryz.prog 126 e_slices_Repeat_api_Rat_api_Rat false :=
  entry_of (C := c_slices_Repeat_api_Rat_api_Rat) (fn := Go.Proofs.Tryz.f126) (c := b_slices_Repeat_api_Rat_api_Rat) (an := a_slices_Repeat_api_Rat_api_Rat) ⟨t_math_bits_Mul, trivial⟩ trivial Go.Proofs.Tryz.func126 rfl rfl (by decide) (fun _ => rfl) (by intro a K D; kernel_rfl)
noncomputable def A_polynomial_zeros : ArgT (Int × Unit) := (ArgT.cons (Ty.leaf (.int .i64)) ArgT.nil)
noncomputable def R_polynomial_zeros : Ty Sl := (Ty.leaf .sl)
noncomputable def e_polynomial_zeros : FSem := mkE A_polynomial_zeros R_polynomial_zeros (fun a => F.polynomial_zeros a.1)
noncomputable def c_polynomial_zeros : Cfg := { P := Go.Proofs.Tryz.prog, n := 7, tab := [(79, e_rational_FromInt), (126, e_slices_Repeat_api_Rat_api_Rat)], mutL := [], rtL := [], locL := [] }
noncomputable def b_polynomial_zeros : Code := match Go.Proofs.Tryz.f73.body with | some c => c | none => .skip
noncomputable def a_polynomial_zeros : An := (.seq .leaf (.seq .leaf .leaf))
theorem t_polynomial_zeros : Entry Go.Proofs.Tryz.prog 73 e_polynomial_zeros false :=
  entry_of (C := c_polynomial_zeros) (fn := Go.Proofs.Tryz.f73) (c := b_polynomial_zeros) (an := a_polynomial_zeros) ⟨t_rational_FromInt, t_slices_Repeat_api_Rat_api_Rat, trivial⟩ trivial Go.Proofs.Tryz.func73 rfl rfl (by decide) (fun _ => rfl) (by intro a K D; kernel_rfl)
noncomputable def A_rational_isZero : ArgT (TInt × Unit) := (ArgT.cons tyTInt ArgT.nil)
noncomputable def R_rational_isZero : Ty Bool := (Ty.leaf .bool)
noncomputable def e_rational_isZero : FSem := mkE A_rational_isZero R_rational_isZero (fun a => F.rational_isZero a.1)
noncomputable def c_rational_isZero : Cfg := { P := Go.Proofs.Tryz.prog, n := 7, tab := [], mutL := [], rtL := [(3, 1)], locL := [1] }
noncomputable def b_rational_isZero : Code := match Go.Proofs.Tryz.f165.body with | some c => c | none => .skip
noncomputable def a_rational_isZero : An := (.seq .leaf (.seq .leaf .leaf))
theorem t_rational_isZero : Entry Go.Proofs.Tryz.prog 165 e_rational_isZero false :=
  entry_of (C := c_rational_isZero) (fn := Go.Proofs.Tryz.f165) (c := b_rational_isZero) (an := a_rational_isZero) trivial trivial Go.Proofs.Tryz.func165 rfl rfl (by decide) (fun _ => rfl) (by intro a K D; kernel_rfl)
noncomputable def A_integer_times : ArgT (Sl × Sl × Unit) := (ArgT.cons (Ty.leaf .sl) (ArgT.cons (Ty.leaf .sl) ArgT.nil))
noncomputable def R_integer_times : Ty Sl := (Ty.leaf .sl)
noncomputable def e_integer_times : FSem := mkE A_integer_times R_integer_times (fun a => F.integer_times a.1 a.2.1)
noncomputable def c_integer_times : Cfg := { P := Go.Proofs.Tryz.prog, n := 75, tab := [(139, e_integer_trim)], mutL := [], rtL := [], locL := [] }
noncomputable def b_integer_times : Code := match Go.Proofs.Tryz.f145.body with | some c => c | none => .skip
noncomputable def a_integer_times : An := (.seq .leaf (.join [] (.seq .leaf (.cond (.seq .leaf .leaf) .leaf)) (.seq .leaf (.seq (.seq .leaf (.block (.loop [(27, .leaf (.int .i64))] (.seq .leaf (.seq (.cond .leaf .leaf) (.seq (.block (.seq .leaf (.seq .leaf (.seq (.seq .leaf (.block (.loop [(8, .leaf (.int .u64)), (34, .leaf (.int .i64))] (.seq .leaf (.seq (.cond .leaf .leaf) (.seq (.block (.seq .leaf (.seq .leaf (.seq .leaf .leaf)))) .leaf)))))) .leaf)))) .leaf)))))) (.seq .leaf .leaf)))))
theorem t_integer_times : Entry Go.Proofs.Tryz.prog 145 e_integer_times false :=
  entry_of (C := c_integer_times) (fn := Go.Proofs.Tryz.f145) (c := b_integer_times) (an := a_integer_times) ⟨t_integer_trim, trivial⟩ trivial Go.Proofs.Tryz.func145 rfl rfl (by decide) (fun _ => rfl) (by intro a K D; kernel_rfl)
noncomputable def A_integer_Mul : ArgT (TInt × TInt × Unit) := (ArgT.cons tyTInt (ArgT.cons tyTInt ArgT.nil))
noncomputable def R_integer_Mul : Ty TInt := tyTInt
noncomputable def e_integer_Mul : FSem := mkE A_integer_Mul R_integer_Mul (fun a => F.integer_Mul a.1 a.2.1)
noncomputable def c_integer_Mul : Cfg := { P := Go.Proofs.Tryz.prog, n := 18, tab := [(139, e_integer_trim), (145, e_integer_times), (137, e_integer_signed)], mutL := [], rtL := [(5, 2), (7, 3), (10, 2), (13, 3)], locL := [2, 3, 4] }
noncomputable def b_integer_Mul : Code := match Go.Proofs.Tryz.f87.body with | some c => c | none => .skip
noncomputable def a_integer_Mul : An := (.seq .leaf (.seq (.draw [0, 1, 2, 3, 4, 5, 6, 8, 9, 7, 10, 11, 12, 13]) .leaf))
theorem t_integer_Mul : Entry Go.Proofs.Tryz.prog 87 e_integer_Mul false :=
  entry_of (C := c_integer_Mul) (fn := Go.Proofs.Tryz.f87) (c := b_integer_Mul) (an := a_integer_Mul) ⟨t_integer_trim, t_integer_times, t_integer_signed, trivial⟩ trivial Go.Proofs.Tryz.func87 rfl rfl (by decide) (fun _ => rfl) (by intro a K D; kernel_rfl)
noncomputable def A_slices_Clone_uint32_uint32 : ArgT (Sl × Unit) := (ArgT.cons (Ty.leaf .sl) ArgT.nil)
noncomputable def R_slices_Clone_uint32_uint32 : Ty Sl := (Ty.leaf .sl)
noncomputable def e_slices_Clone_uint32_uint32 : FSem := mkE A_slices_Clone_uint32_uint32 R_slices_Clone_uint32_uint32 (fun a => F.slices_Clone_uint32_uint32 a.1)
noncomputable def c_slices_Clone_uint32_uint32 : Cfg := { P := Go.Proofs.Tryz.prog, n := 8, tab := [], mutL := [], rtL := [], locL := [] }
noncomputable def b_slices_Clone_uint32_uint32 : Code := match Go.Proofs.Tryz.f143.body with | some c => c | none => .skip
noncomputable def a_slices_Clone_uint32_uint32 : An := (.seq .leaf (.seq (.seq .leaf (.cond (.seq .leaf .leaf) .leaf)) (.seq .leaf .leaf)))
theorem t_slices_Clone_uint32_uint32 : Entry Go.Proofs.Tryz.prog 143 e_slices_Clone_uint32_uint32 false :=
  entry_of (C := c_slices_Clone_uint32_uint32) (fn := Go.Proofs.Tryz.f143) (c := b_slices_Clone_uint32_uint32) (an := a_slices_Clone_uint32_uint32) trivial trivial Go.Proofs.Tryz.func143 rfl rfl (by decide) (fun _ => rfl) (by intro a K D; kernel_rfl)
noncomputable def A_slices_Backward_uint32_uint32 : ArgT (Sl × Unit) := (ArgT.cons (Ty.leaf .sl) ArgT.nil)
noncomputable def R_slices_Backward_uint32_uint32 : Ty Addr := (Ty.clo 189)
noncomputable def e_slices_Backward_uint32_uint32 : FSem := mkE A_slices_Backward_uint32_uint32 R_slices_Backward_uint32_uint32 (fun a => F.slices_Backward_uint32_uint32 a.1)
noncomputable def c_slices_Backward_uint32_uint32 : Cfg := { P := Go.Proofs.Tryz.prog, n := 4, tab := [], mutL := [], rtL := [], locL := [] }
noncomputable def b_slices_Backward_uint32_uint32 : Code := match Go.Proofs.Tryz.f173.body with | some c => c | none => .skip
noncomputable def a_slices_Backward_uint32_uint32 : An := (.seq .leaf (.seq .leaf .leaf))
theorem t_slices_Backward_uint32_uint32 : Entry Go.Proofs.Tryz.prog 173 e_slices_Backward_uint32_uint32 false :=
  entry_of (C := c_slices_Backward_uint32_uint32) (fn := Go.Proofs.Tryz.f173) (c := b_slices_Backward_uint32_uint32) (an := a_slices_Backward_uint32_uint32) trivial trivial Go.Proofs.Tryz.func173 rfl rfl (by decide) (fun _ => rfl) (by intro a K D; kernel_rfl)
noncomputable def A_integer_toUint : ArgT (Sl × Unit) := (ArgT.cons (Ty.leaf .sl) ArgT.nil)
noncomputable def R_integer_toUint : Ty Int := (Ty.leaf (.int .u64))
noncomputable def e_integer_toUint : FSem := mkE A_integer_toUint R_integer_toUint (fun a => F.integer_toUint a.1)
noncomputable def c_integer_toUint : Cfg := { P := Go.Proofs.Tryz.prog, n := 16, tab := [(173, e_slices_Backward_uint32_uint32)], mutL := [], rtL := [], locL := [3], backs := [(189, (.leaf (.int .u32)))] }
noncomputable def b_integer_toUint : Code := match Go.Proofs.Tryz.f144.body with | some c => c | none => .skip
noncomputable def a_integer_toUint : An := (.seq .leaf (.seq .leaf (.seq (.seq .leaf (.block (.back [(3, .box [.int .u64])] .leaf (.block .leaf)))) (.seq .leaf .leaf))))
theorem t_integer_toUint : Entry Go.Proofs.Tryz.prog 144 e_integer_toUint false :=
  entry_of (C := c_integer_toUint) (fn := Go.Proofs.Tryz.f144) (c := b_integer_toUint) (an := a_integer_toUint) ⟨t_slices_Backward_uint32_uint32, trivial⟩ ⟨bk_u32, trivial⟩ Go.Proofs.Tryz.func144 rfl rfl (by decide) (fun _ => rfl) (by intro a K D; kernel_rfl)
noncomputable def A_cmp_isNaN_int : ArgT (Int × Unit) := (ArgT.cons (Ty.leaf (.int .i64)) ArgT.nil)
noncomputable def R_cmp_isNaN_int : Ty Bool := (Ty.leaf .bool)
noncomputable def e_cmp_isNaN_int : FSem := mkE A_cmp_isNaN_int R_cmp_isNaN_int (fun a => F.cmp_isNaN_int a.1)
noncomputable def c_cmp_isNaN_int : Cfg := { P := Go.Proofs.Tryz.prog, n := 6, tab := [], mutL := [], rtL := [], locL := [] }
noncomputable def b_cmp_isNaN_int : Code := match Go.Proofs.Tryz.f190.body with | some c => c | none => .skip
noncomputable def a_cmp_isNaN_int : An := (.seq .leaf (.seq .leaf .leaf))
theorem t_cmp_isNaN_int : Entry Go.Proofs.Tryz.prog 190 e_cmp_isNaN_int false :=
  entry_of (C := c_cmp_isNaN_int) (fn := Go.Proofs.Tryz.f190) (c := b_cmp_isNaN_int) (an := a_cmp_isNaN_int) trivial trivial Go.Proofs.Tryz.func190 rfl rfl (by decide) (fun _ => rfl) (by intro a K D; kernel_rfl)
noncomputable def A_cmp_Compare_int : ArgT (Int × Int × Unit) := (ArgT.cons (Ty.leaf (.int .i64)) (ArgT.cons (Ty.leaf (.int .i64)) ArgT.nil))
noncomputable def R_cmp_Compare_int : Ty Int := (Ty.leaf (.int .i64))
noncomputable def e_cmp_Compare_int : FSem := mkE A_cmp_Compare_int R_cmp_Compare_int (fun a => F.cmp_Compare_int a.1 a.2.1)
noncomputable def c_cmp_Compare_int : Cfg := { P := Go.Proofs.Tryz.prog, n := 20, tab := [(190, e_cmp_isNaN_int)], mutL := [], rtL := [], locL := [] }
noncomputable def b_cmp_Compare_int : Code := match Go.Proofs.Tryz.f182.body with | some c => c | none => .skip
noncomputable def a_cmp_Compare_int : An := (.seq .leaf (.seq .leaf (.seq .leaf (.seq (.seq .leaf (.cond (.seq (.seq .leaf (.cond (.seq .leaf .leaf) .leaf)) (.seq .leaf .leaf)) .leaf)) (.seq (.seq .leaf (.cond (.seq .leaf .leaf) .leaf)) (.seq (.seq .leaf (.cond (.seq .leaf .leaf) .leaf)) (.seq (.seq .leaf (.cond (.seq .leaf .leaf) .leaf)) (.seq .leaf .leaf))))))))
theorem t_cmp_Compare_int : Entry Go.Proofs.Tryz.prog 182 e_cmp_Compare_int false :=
  entry_of (C := c_cmp_Compare_int) (fn := Go.Proofs.Tryz.f182) (c := b_cmp_Compare_int) (an := a_cmp_Compare_int) ⟨t_cmp_isNaN_int, trivial⟩ trivial Go.Proofs.Tryz.func182 rfl rfl (by decide) (fun _ => rfl) (by intro a K D; kernel_rfl)
noncomputable def A_cmp_isNaN_uint32 : ArgT (Int × Unit) := (ArgT.cons (Ty.leaf (.int .u32)) ArgT.nil)
noncomputable def R_cmp_isNaN_uint32 : Ty Bool := (Ty.leaf .bool)
noncomputable def e_cmp_isNaN_uint32 : FSem := mkE A_cmp_isNaN_uint32 R_cmp_isNaN_uint32 (fun a => F.cmp_isNaN_uint32 a.1)
noncomputable def c_cmp_isNaN_uint32 : Cfg := { P := Go.Proofs.Tryz.prog, n := 6, tab := [], mutL := [], rtL := [], locL := [] }
noncomputable def b_cmp_isNaN_uint32 : Code := match Go.Proofs.Tryz.f192.body with | some c => c | none => .skip
noncomputable def a_cmp_isNaN_uint32 : An := (.seq .leaf (.seq .leaf .leaf))
theorem t_cmp_isNaN_uint32 : Entry Go.Proofs.Tryz.prog 192 e_cmp_isNaN_uint32 false :=
  entry_of (C := c_cmp_isNaN_uint32) (fn := Go.Proofs.Tryz.f192) (c := b_cmp_isNaN_uint32) (an := a_cmp_isNaN_uint32) trivial trivial Go.Proofs.Tryz.func192 rfl rfl (by decide) (fun _ => rfl) (by intro a K D; kernel_rfl)
noncomputable def A_cmp_Compare_uint32 : ArgT (Int × Int × Unit) := (ArgT.cons (Ty.leaf (.int .u32)) (ArgT.cons (Ty.leaf (.int .u32)) ArgT.nil))
noncomputable def R_cmp_Compare_uint32 : Ty Int := (Ty.leaf (.int .i64))
noncomputable def e_cmp_Compare_uint32 : FSem := mkE A_cmp_Compare_uint32 R_cmp_Compare_uint32 (fun a => F.cmp_Compare_uint32 a.1 a.2.1)
noncomputable def c_cmp_Compare_uint32 : Cfg := { P := Go.Proofs.Tryz.prog, n := 20, tab := [(192, e_cmp_isNaN_uint32)], mutL := [], rtL := [], locL := [] }
noncomputable def b_cmp_Compare_uint32 : Code := match Go.Proofs.Tryz.f187.body with | some c => c | none => .skip
noncomputable def a_cmp_Compare_uint32 : An := (.seq .leaf (.seq .leaf (.seq .leaf (.seq (.seq .leaf (.cond (.seq (.seq .leaf (.cond (.seq .leaf .leaf) .leaf)) (.seq .leaf .leaf)) .leaf)) (.seq (.seq .leaf (.cond (.seq .leaf .leaf) .leaf)) (.seq (.seq .leaf (.cond (.seq .leaf .leaf) .leaf)) (.seq (.seq .leaf (.cond (.seq .leaf .leaf) .leaf)) (.seq .leaf .leaf))))))))
theorem t_cmp_Compare_uint32 : Entry Go.Proofs.Tryz.prog 187 e_cmp_Compare_uint32 false :=
  entry_of (C := c_cmp_Compare_uint32) (fn := Go.Proofs.Tryz.f187) (c := b_cmp_Compare_uint32) (an := a_cmp_Compare_uint32) ⟨t_cmp_isNaN_uint32, trivial⟩ trivial Go.Proofs.Tryz.func187 rfl rfl (by decide) (fun _ => rfl) (by intro a K D; kernel_rfl)
noncomputable def A_integer_compare : ArgT (Sl × Sl × Unit) := (ArgT.cons (Ty.leaf .sl) (ArgT.cons (Ty.leaf .sl) ArgT.nil))
noncomputable def R_integer_compare : Ty Int := (Ty.leaf (.int .i64))
noncomputable def e_integer_compare : FSem := mkE A_integer_compare R_integer_compare (fun a => F.integer_compare a.1 a.2.1)
noncomputable def c_integer_compare : Cfg := { P := Go.Proofs.Tryz.prog, n := 41, tab := [(182, e_cmp_Compare_int), (187, e_cmp_Compare_uint32)], mutL := [], rtL := [], locL := [] }
noncomputable def b_integer_compare : Code := match Go.Proofs.Tryz.f163.body with | some c => c | none => .skip
noncomputable def a_integer_compare : An := (.seq .leaf (.seq (.seq .leaf (.cond (.seq .leaf .leaf) .leaf)) (.seq (.seq .leaf (.block (.loop [(5, .leaf (.int .i64))] (.seq (.seq .leaf (.cond .leaf .leaf)) (.seq (.block (.seq (.draw [0, 1, 2, 3, 4, 5, 6, 7, 8]) (.cond (.seq (.draw [0, 1, 2, 3, 4, 5, 6, 7, 8, 9]) .leaf) .leaf))) .leaf))))) (.seq .leaf .leaf))))
theorem t_integer_compare : Entry Go.Proofs.Tryz.prog 163 e_integer_compare false :=
  entry_of (C := c_integer_compare) (fn := Go.Proofs.Tryz.f163) (c := b_integer_compare) (an := a_integer_compare) ⟨t_cmp_Compare_int, t_cmp_Compare_uint32, trivial⟩ trivial Go.Proofs.Tryz.func163 rfl rfl (by decide) (fun _ => rfl) (by intro a K D; kernel_rfl)
noncomputable def A_integer_divideWord : ArgT (Sl × Int × Unit) := (ArgT.cons (Ty.leaf .sl) (ArgT.cons (Ty.leaf (.int .u32)) ArgT.nil))
noncomputable def R_integer_divideWord : Ty (Sl × Sl) := (Ty.tup (.cons (Ty.leaf .sl) (.cons (Ty.leaf .sl) .nil)) (fun x => (x.1, x.2, ())) (fun y => (y.1, y.2.1)) (fun _ => rfl) (fun _ => rfl))
noncomputable def e_integer_divideWord : FSem := mkE A_integer_divideWord R_integer_divideWord (fun a => F.integer_divideWord a.1 a.2.1)
noncomputable def c_integer_divideWord : Cfg := { P := Go.Proofs.Tryz.prog, n := 43, tab := [(139, e_integer_trim), (138, e_integer_fromUint)], mutL := [], rtL := [], locL := [] }
noncomputable def b_integer_divideWord : Code := match Go.Proofs.Tryz.f167.body with | some c => c | none => .skip
noncomputable def a_integer_divideWord : An := (.seq .leaf (.seq .leaf (.seq .leaf (.seq (.seq .leaf (.block (.loop [(7, .leaf (.int .u64)), (8, .leaf (.int .i64))] (.seq (.seq .leaf (.cond .leaf .leaf)) (.seq (.block (.seq .leaf (.seq .leaf .leaf))) .leaf))))) (.seq .leaf .leaf)))))
theorem t_integer_divideWord : Entry Go.Proofs.Tryz.prog 167 e_integer_divideWord false :=
  entry_of (C := c_integer_divideWord) (fn := Go.Proofs.Tryz.f167) (c := b_integer_divideWord) (an := a_integer_divideWord) ⟨t_integer_trim, t_integer_fromUint, trivial⟩ trivial Go.Proofs.Tryz.func167 rfl rfl (by decide) (fun _ => rfl) (by intro a K D; kernel_rfl)
noncomputable def A_math_bits_Len32 : ArgT (Int × Unit) := (ArgT.cons (Ty.leaf (.int .u32)) ArgT.nil)
noncomputable def R_math_bits_Len32 : Ty Int := (Ty.leaf (.int .i64))
noncomputable def e_math_bits_Len32 : FSem := mkE A_math_bits_Len32 R_math_bits_Len32 (fun a => F.math_bits_Len32 a.1)
noncomputable def c_math_bits_Len32 : Cfg := { P := Go.Proofs.Tryz.prog, n := 19, tab := [], mutL := [], rtL := [], locL := [] }
noncomputable def b_math_bits_Len32 : Code := match Go.Proofs.Tryz.f188.body with | some c => c | none => .skip
noncomputable def a_math_bits_Len32 : An := (.seq .leaf (.join [(0, .leaf (.int .u32)), (2, .leaf (.int .i64))] (.seq .leaf (.cond (.seq .leaf .leaf) .leaf)) (.join [(0, .leaf (.int .u32)), (2, .leaf (.int .i64))] (.seq .leaf (.cond (.seq .leaf .leaf) .leaf)) (.seq .leaf .leaf))))
theorem t_math_bits_Len32 : Entry Go.Proofs.Tryz.prog 188 e_math_bits_Len32 false :=
  entry_of (C := c_math_bits_Len32) (fn := Go.Proofs.Tryz.f188) (c := b_math_bits_Len32) (an := a_math_bits_Len32) trivial trivial Go.Proofs.Tryz.func188 rfl rfl (by decide) (fun _ => rfl) (by intro a K D; kernel_rfl)
noncomputable def A_math_bits_LeadingZeros32 : ArgT (Int × Unit) := (ArgT.cons (Ty.leaf (.int .u32)) ArgT.nil)
noncomputable def R_math_bits_LeadingZeros32 : Ty Int := (Ty.leaf (.int .i64))
noncomputable def e_math_bits_LeadingZeros32 : FSem := mkE A_math_bits_LeadingZeros32 R_math_bits_LeadingZeros32 (fun a => F.math_bits_LeadingZeros32 a.1)
noncomputable def c_math_bits_LeadingZeros32 : Cfg := { P := Go.Proofs.Tryz.prog, n := 6, tab := [(188, e_math_bits_Len32)], mutL := [], rtL := [], locL := [] }
noncomputable def b_math_bits_LeadingZeros32 : Code := match Go.Proofs.Tryz.f168.body with | some c => c | none => .skip
noncomputable def a_math_bits_LeadingZeros32 : An := (.seq .leaf (.seq .leaf .leaf))
theorem t_math_bits_LeadingZeros32 : Entry Go.Proofs.Tryz.prog 168 e_math_bits_LeadingZeros32 false :=
  entry_of (C := c_math_bits_LeadingZeros32) (fn := Go.Proofs.Tryz.f168) (c := b_math_bits_LeadingZeros32) (an := a_math_bits_LeadingZeros32) ⟨t_math_bits_Len32, trivial⟩ trivial Go.Proofs.Tryz.func168 rfl rfl (by decide) (fun _ => rfl) (by intro a K D; kernel_rfl)
noncomputable def A_integer_shiftLeft : ArgT (Sl × Int × Unit) := (ArgT.cons (Ty.leaf .sl) (ArgT.cons (Ty.leaf (.int .i64)) ArgT.nil))
noncomputable def R_integer_shiftLeft : Ty Sl := (Ty.leaf .sl)
noncomputable def e_integer_shiftLeft : FSem := mkE A_integer_shiftLeft R_integer_shiftLeft (fun a => F.integer_shiftLeft a.1 a.2.1)
noncomputable def c_integer_shiftLeft : Cfg := { P := Go.Proofs.Tryz.prog, n := 41, tab := [], mutL := [], rtL := [], locL := [] }
noncomputable def b_integer_shiftLeft : Code := match Go.Proofs.Tryz.f169.body with | some c => c | none => .skip
noncomputable def a_integer_shiftLeft : An := (.seq .leaf (.seq .leaf (.seq (.seq .leaf (.block (.loop [(15, .leaf (.int .i64))] (.seq .leaf (.seq (.cond .leaf .leaf) (.seq (.block (.seq .leaf (.seq .leaf (.seq .leaf .leaf)))) .leaf)))))) (.seq .leaf .leaf))))
theorem t_integer_shiftLeft : Entry Go.Proofs.Tryz.prog 169 e_integer_shiftLeft false :=
  entry_of (C := c_integer_shiftLeft) (fn := Go.Proofs.Tryz.f169) (c := b_integer_shiftLeft) (an := a_integer_shiftLeft) trivial trivial Go.Proofs.Tryz.func169 rfl rfl (by decide) (fun _ => rfl) (by intro a K D; kernel_rfl)
noncomputable def A_integer_subtract : ArgT (Sl × Sl × Int × Unit) := (ArgT.cons (Ty.leaf .sl) (ArgT.cons (Ty.leaf .sl) (ArgT.cons (Ty.leaf (.int .u64)) ArgT.nil)))
noncomputable def R_integer_subtract : Ty Bool := (Ty.leaf .bool)
noncomputable def e_integer_subtract : FSem := mkM A_integer_subtract R_integer_subtract (fun a => F.integer_subtract a.1 a.2.1 a.2.2.1)
noncomputable def c_integer_subtract : Cfg := { P := Go.Proofs.Tryz.prog, n := 63, tab := [], mutL := [], rtL := [], locL := [] }
noncomputable def b_integer_subtract : Code := match Go.Proofs.Tryz.f170.body with | some c => c | none => .skip
noncomputable def a_integer_subtract : An := (.seq .leaf (.seq .leaf (.seq (.seq .leaf (.block (.loop [(7, .leaf (.int .u64)), (15, .leaf (.int .i64))] (.seq .leaf (.seq (.cond .leaf .leaf) (.seq (.block (.seq .leaf (.seq .leaf (.seq .leaf (.seq .leaf .leaf))))) .leaf)))))) (.seq .leaf (.seq .leaf (.seq .leaf .leaf))))))
theorem t_integer_subtract : Entry Go.Proofs.Tryz.prog 170 e_integer_subtract true :=
  entryM_of (C := c_integer_subtract) (fn := Go.Proofs.Tryz.f170) (c := b_integer_subtract) (an := a_integer_subtract) trivial trivial Go.Proofs.Tryz.func170 rfl rfl (by decide) (fun _ => rfl) (by intro a K D; kernel_rfl)
noncomputable def A_integer_restore : ArgT (Sl × Sl × Unit) := (ArgT.cons (Ty.leaf .sl) (ArgT.cons (Ty.leaf .sl) ArgT.nil))
noncomputable def R_integer_restore : Ty Unit := Ty.unit
noncomputable def e_integer_restore : FSem := mkM A_integer_restore R_integer_restore (fun a => F.integer_restore a.1 a.2.1)
noncomputable def c_integer_restore : Cfg := { P := Go.Proofs.Tryz.prog, n := 41, tab := [], mutL := [], rtL := [], locL := [] }
noncomputable def b_integer_restore : Code := match Go.Proofs.Tryz.f171.body with | some c => c | none => .skip
noncomputable def a_integer_restore : An := (.seq .leaf (.seq (.seq .leaf (.block (.loop [(4, .leaf (.int .u64)), (9, .leaf (.int .i64))] (.seq .leaf (.seq (.cond .leaf .leaf) (.seq (.block (.seq .leaf (.seq .leaf (.seq .leaf .leaf)))) .leaf)))))) .leaf))
theorem t_integer_restore : Entry Go.Proofs.Tryz.prog 171 e_integer_restore true :=
  entryM_of (C := c_integer_restore) (fn := Go.Proofs.Tryz.f171) (c := b_integer_restore) (an := a_integer_restore) trivial trivial Go.Proofs.Tryz.func171 rfl rfl (by decide) (fun _ => rfl) (by intro a K D; kernel_rfl)
end Den
end

section
set_option maxRecDepth 100000
set_option linter.unusedVariables false
namespace Den
open Go
noncomputable def A_integer_shiftRight : ArgT (Sl × Int × Unit) := (ArgT.cons (Ty.leaf .sl) (ArgT.cons (Ty.leaf (.int .i64)) ArgT.nil))
noncomputable def R_integer_shiftRight : Ty Sl := (Ty.leaf .sl)
noncomputable def e_integer_shiftRight : FSem := mkE A_integer_shiftRight R_integer_shiftRight (fun a => F.integer_shiftRight a.1 a.2.1)
noncomputable def c_integer_shiftRight : Cfg := { P := Go.Proofs.Tryz.prog, n := 47, tab := [], mutL := [], rtL := [], locL := [] }
noncomputable def b_integer_shiftRight : Code := match Go.Proofs.Tryz.f172.body with | some c => c | none => .skip
noncomputable def a_integer_shiftRight : An := (.seq .leaf (.seq .leaf (.seq (.seq .leaf (.block (.loop [(13, .leaf (.int .i64))] (.seq .leaf (.seq (.cond .leaf .leaf) (.join [] (.block (.seq .leaf (.seq .leaf (.seq .leaf (.cond (.draw [0, 1, 2, 3, 4, 5, 6, 7, 8, 9, 10, 11, 12, 13, 14, 15, 16]) .leaf))))) .leaf)))))) (.seq .leaf .leaf))))
theorem t_integer_shiftRight : Entry Go.Proofs.Tryz.prog 172 e_integer_shiftRight false :=
  entry_of (C := c_integer_shiftRight) (fn := Go.Proofs.Tryz.f172) (c := b_integer_shiftRight) (an := a_integer_shiftRight) trivial trivial Go.Proofs.Tryz.func172 rfl rfl (by decide) (fun _ => rfl) (by intro a K D; kernel_rfl)
noncomputable def A_integer_divide : ArgT (Sl × Sl × Unit) := (ArgT.cons (Ty.leaf .sl) (ArgT.cons (Ty.leaf .sl) ArgT.nil))
noncomputable def R_integer_divide : Ty (Sl × Sl) := (Ty.tup (.cons (Ty.leaf .sl) (.cons (Ty.leaf .sl) .nil)) (fun x => (x.1, x.2, ())) (fun y => (y.1, y.2.1)) (fun _ => rfl) (fun _ => rfl))
noncomputable def e_integer_divide : FSem := mkE A_integer_divide R_integer_divide (fun a => F.integer_divide a.1 a.2.1)
noncomputable def c_integer_divide : Cfg := { P := Go.Proofs.Tryz.prog, n := 177, tab := [(163, e_integer_compare), (143, e_slices_Clone_uint32_uint32), (144, e_integer_toUint), (138, e_integer_fromUint), (167, e_integer_divideWord), (168, e_math_bits_LeadingZeros32), (169, e_integer_shiftLeft), (139, e_integer_trim), (170, e_integer_subtract), (171, e_integer_restore), (172, e_integer_shiftRight)], mutL := [170, 171], rtL := [], locL := [] }
noncomputable def b_integer_divide : Code := match Go.Proofs.Tryz.f140.body with | some c => c | none => .skip
noncomputable def a_integer_divide : An := (.seq .leaf (.seq (.block (.seq .leaf (.cond (.seq .leaf .leaf) (.seq .leaf (.cond (.seq .leaf (.seq (.draw [0, 1, 2, 4, 5, 6, 3, 7, 8, 9]) .leaf)) (.seq .leaf (.cond (.seq .leaf .leaf) .leaf))))))) (.seq .leaf (.seq .leaf (.seq .leaf (.seq .leaf (.seq (.draw [0, 1, 2, 3, 4, 5, 6, 7, 8, 9, 10, 11, 12, 13]) (.seq (.seq .leaf (.block (.loop [(15, .leaf (.int .i64))] (.seq (.seq .leaf (.cond .leaf .leaf)) (.seq (.block (.seq (.draw [0, 1, 2, 3, 4, 5, 6, 7, 8, 9, 10, 11, 12, 13, 14, 15, 16, 17]) (.seq (.draw [0, 1, 2, 3, 4, 5, 6, 7]) (.join [(17, .leaf (.int .u64))] (.block (.loop [(17, .leaf (.int .u64)), (18, .leaf (.int .u64))] (.join [] (.seq .leaf (.cond .leaf .leaf)) (.block (.seq .leaf (.seq .leaf (.seq .leaf (.cond .leaf .leaf)))))))) (.join [(17, .leaf (.int .u64))] (.seq .leaf (.cond (.seq .leaf .leaf) .leaf)) .leaf))))) .leaf))))) (.seq (.draw [0, 2, 3, 4, 6, 1, 5, 7, 8, 9, 10]) .leaf)))))))))
theorem t_integer_divide : Entry Go.Proofs.Tryz.prog 140 e_integer_divide false :=
  entry_of (C := c_integer_divide) (fn := Go.Proofs.Tryz.f140) (c := b_integer_divide) (an := a_integer_divide) ⟨t_integer_compare, t_slices_Clone_uint32_uint32, t_integer_toUint, t_integer_fromUint, t_integer_divideWord, t_math_bits_LeadingZeros32, t_integer_shiftLeft, t_integer_trim, t_integer_subtract, t_integer_restore, t_integer_shiftRight, trivial⟩ trivial Go.Proofs.Tryz.func140 rfl rfl (by decide) (fun _ => rfl) (by intro a K D; kernel_rfl)
noncomputable def A_integer_GCD : ArgT (TInt × TInt × Unit) := (ArgT.cons tyTInt (ArgT.cons tyTInt ArgT.nil))
noncomputable def R_integer_GCD : Ty TInt := tyTInt
noncomputable def e_integer_GCD : FSem := mkE A_integer_GCD R_integer_GCD (fun a => F.integer_GCD a.1 a.2.1)
noncomputable def c_integer_GCD : Cfg := { P := Go.Proofs.Tryz.prog, n := 57, tab := [(139, e_integer_trim), (143, e_slices_Clone_uint32_uint32), (137, e_integer_signed), (144, e_integer_toUint), (138, e_integer_fromUint), (140, e_integer_divide)], mutL := [], rtL := [(11, 2), (14, 3)], locL := [2, 3, 4] }
noncomputable def b_integer_GCD : Code := match Go.Proofs.Tryz.f86.body with | some c => c | none => .skip
noncomputable def a_integer_GCD : An := (.seq .leaf (.seq (.draw [0, 1, 3, 4, 2, 5, 6, 7]) (.join [(5, .leaf (.sl)), (6, .leaf (.sl))] (.block (.loop [(5, .leaf (.sl)), (6, .leaf (.sl))] (.join [] (.seq .leaf (.cond .leaf .leaf)) (.block (.seq .leaf .leaf))))) (.seq (.seq .leaf (.cond (.seq .leaf .leaf) .leaf)) (.seq .leaf (.seq (.block (.loop [(9, .leaf (.int .u64)), (10, .leaf (.int .u64))] (.seq (.seq .leaf (.cond .leaf .leaf)) (.block (.draw [0, 1, 2, 3, 4, 5]))))) (.seq .leaf .leaf)))))))
theorem t_integer_GCD : Entry Go.Proofs.Tryz.prog 86 e_integer_GCD false :=
  entry_of (C := c_integer_GCD) (fn := Go.Proofs.Tryz.f86) (c := b_integer_GCD) (an := a_integer_GCD) ⟨t_integer_trim, t_slices_Clone_uint32_uint32, t_integer_signed, t_integer_toUint, t_integer_fromUint, t_integer_divide, trivial⟩ trivial Go.Proofs.Tryz.func86 rfl rfl (by decide) (fun _ => rfl) (by intro a K D; kernel_rfl)
noncomputable def A_rational_isOne : ArgT (TInt × Unit) := (ArgT.cons tyTInt ArgT.nil)
noncomputable def R_rational_isOne : Ty Bool := (Ty.leaf .bool)
noncomputable def e_rational_isOne : FSem := mkE A_rational_isOne R_rational_isOne (fun a => F.rational_isOne a.1)
noncomputable def c_rational_isOne : Cfg := { P := Go.Proofs.Tryz.prog, n := 19, tab := [], mutL := [], rtL := [(3, 1), (7, 1), (13, 1)], locL := [1] }
noncomputable def b_rational_isOne : Code := match Go.Proofs.Tryz.f127.body with | some c => c | none => .skip
noncomputable def a_rational_isOne : An := (.seq .leaf (.seq .leaf .leaf))
theorem t_rational_isOne : Entry Go.Proofs.Tryz.prog 127 e_rational_isOne false :=
  entry_of (C := c_rational_isOne) (fn := Go.Proofs.Tryz.f127) (c := b_rational_isOne) (an := a_rational_isOne) trivial trivial Go.Proofs.Tryz.func127 rfl rfl (by decide) (fun _ => rfl) (by intro a K D; kernel_rfl)
noncomputable def A_integer_plus : ArgT (Sl × Sl × Unit) := (ArgT.cons (Ty.leaf .sl) (ArgT.cons (Ty.leaf .sl) ArgT.nil))
noncomputable def R_integer_plus : Ty Sl := (Ty.leaf .sl)
noncomputable def e_integer_plus : FSem := mkE A_integer_plus R_integer_plus (fun a => F.integer_plus a.1 a.2.1)
noncomputable def c_integer_plus : Cfg := { P := Go.Proofs.Tryz.prog, n := 58, tab := [], mutL := [], rtL := [], locL := [45, 55] }
noncomputable def b_integer_plus : Code := match Go.Proofs.Tryz.f141.body with | some c => c | none => .skip
noncomputable def a_integer_plus : An := (.seq .leaf (.join [(0, .leaf (.sl)), (1, .leaf (.sl))] (.seq .leaf (.cond .leaf .leaf)) (.seq .leaf (.seq .leaf (.seq (.seq .leaf (.block (.loop [(5, .leaf (.sl)), (6, .leaf (.int .u64)), (22, .leaf (.int .i64))] (.seq .leaf (.seq (.cond .leaf .leaf) (.seq (.block (.seq .leaf (.seq .leaf (.join [(6, .leaf (.int .u64))] (.seq .leaf (.cond .leaf .leaf)) (.seq .leaf .leaf))))) .leaf)))))) (.seq (.seq .leaf (.cond .leaf .leaf)) (.seq .leaf .leaf)))))))
theorem t_integer_plus : Entry Go.Proofs.Tryz.prog 141 e_integer_plus false :=
  entry_of (C := c_integer_plus) (fn := Go.Proofs.Tryz.f141) (c := b_integer_plus) (an := a_integer_plus) trivial trivial Go.Proofs.Tryz.func141 rfl rfl (by decide) (fun _ => rfl) (by intro a K D; kernel_rfl)
noncomputable def A_integer_minus : ArgT (Sl × Sl × Unit) := (ArgT.cons (Ty.leaf .sl) (ArgT.cons (Ty.leaf .sl) ArgT.nil))
noncomputable def R_integer_minus : Ty Sl := (Ty.leaf .sl)
noncomputable def e_integer_minus : FSem := mkE A_integer_minus R_integer_minus (fun a => F.integer_minus a.1 a.2.1)
noncomputable def c_integer_minus : Cfg := { P := Go.Proofs.Tryz.prog, n := 45, tab := [(139, e_integer_trim)], mutL := [], rtL := [], locL := [] }
noncomputable def b_integer_minus : Code := match Go.Proofs.Tryz.f142.body with | some c => c | none => .skip
noncomputable def a_integer_minus : An := (.seq .leaf (.seq .leaf (.seq .leaf (.seq (.seq .leaf (.block (.loop [(6, .leaf (.int .u64)), (15, .leaf (.int .i64))] (.seq .leaf (.seq (.cond .leaf .leaf) (.seq (.block (.seq .leaf (.seq .leaf (.join [(9, .leaf (.int .u64))] (.seq .leaf (.cond .leaf .leaf)) (.seq .leaf .leaf))))) .leaf)))))) (.seq .leaf .leaf)))))
theorem t_integer_minus : Entry Go.Proofs.Tryz.prog 142 e_integer_minus false :=
  entry_of (C := c_integer_minus) (fn := Go.Proofs.Tryz.f142) (c := b_integer_minus) (an := a_integer_minus) ⟨t_integer_trim, trivial⟩ trivial Go.Proofs.Tryz.func142 rfl rfl (by decide) (fun _ => rfl) (by intro a K D; kernel_rfl)
noncomputable def A_integer_DivMod : ArgT (TInt × TInt × Unit) := (ArgT.cons tyTInt (ArgT.cons tyTInt ArgT.nil))
noncomputable def R_integer_DivMod : Ty (TInt × TInt × Int) := (Ty.tup (.cons tyTInt (.cons tyTInt (.cons (Ty.leaf (.int .i64)) .nil))) (fun x => (x.1, x.2.1, x.2.2, ())) (fun y => (y.1, y.2.1, y.2.2.1)) (fun _ => rfl) (fun _ => rfl))
noncomputable def e_integer_DivMod : FSem := mkE A_integer_DivMod R_integer_DivMod (fun a => F.integer_DivMod a.1 a.2.1)
noncomputable def c_integer_DivMod : Cfg := { P := Go.Proofs.Tryz.prog, n := 53, tab := [(139, e_integer_trim), (140, e_integer_divide), (137, e_integer_signed), (141, e_integer_plus), (142, e_integer_minus)], mutL := [], rtL := [(10, 3), (19, 2), (26, 2), (28, 3), (42, 2), (44, 3), (49, 3)], locL := [2, 3, 4, 5] }
noncomputable def b_integer_DivMod : Code := match Go.Proofs.Tryz.f85.body with | some c => c | none => .skip
noncomputable def a_integer_DivMod : An := (.seq .leaf (.seq .leaf (.seq (.seq .leaf (.cond (.seq .leaf .leaf) .leaf)) (.seq .leaf (.join [(8, .leaf (.sl)), (9, .leaf (.sl))] (.seq .leaf (.cond (.seq .leaf .leaf) .leaf)) (.seq (.draw [0, 1, 2, 3, 4, 5, 7, 8, 9, 6, 10, 11, 12, 13]) .leaf))))))
theorem t_integer_DivMod : Entry Go.Proofs.Tryz.prog 85 e_integer_DivMod false :=
  entry_of (C := c_integer_DivMod) (fn := Go.Proofs.Tryz.f85) (c := b_integer_DivMod) (an := a_integer_DivMod) ⟨t_integer_trim, t_integer_divide, t_integer_signed, t_integer_plus, t_integer_minus, trivial⟩ trivial Go.Proofs.Tryz.func85 rfl rfl (by decide) (fun _ => rfl) (by intro a K D; kernel_rfl)
noncomputable def A_rational_quo : ArgT (TInt × TInt × Unit) := (ArgT.cons tyTInt (ArgT.cons tyTInt ArgT.nil))
noncomputable def R_rational_quo : Ty TInt := tyTInt
noncomputable def e_rational_quo : FSem := mkE A_rational_quo R_rational_quo (fun a => F.rational_quo a.1 a.2.1)
noncomputable def c_rational_quo : Cfg := { P := Go.Proofs.Tryz.prog, n := 19, tab := [(127, e_rational_isOne), (85, e_integer_DivMod)], mutL := [], rtL := [], locL := [2, 3, 4, 5, 6] }
noncomputable def b_rational_quo : Code := match Go.Proofs.Tryz.f164.body with | some c => c | none => .skip
noncomputable def a_rational_quo : An := (.seq .leaf (.seq (.seq .leaf (.cond (.seq .leaf .leaf) .leaf)) (.seq .leaf (.seq .leaf .leaf))))
theorem t_rational_quo : Entry Go.Proofs.Tryz.prog 164 e_rational_quo false :=
  entry_of (C := c_rational_quo) (fn := Go.Proofs.Tryz.f164) (c := b_rational_quo) (an := a_rational_quo) ⟨t_rational_isOne, t_integer_DivMod, trivial⟩ trivial Go.Proofs.Tryz.func164 rfl rfl (by decide) (fun _ => rfl) (by intro a K D; kernel_rfl)
noncomputable def A_integer_Neg : ArgT (TInt × Unit) := (ArgT.cons tyTInt ArgT.nil)
noncomputable def R_integer_Neg : Ty TInt := tyTInt
noncomputable def e_integer_Neg : FSem := mkE A_integer_Neg R_integer_Neg (fun a => F.integer_Neg a.1)
noncomputable def c_integer_Neg : Cfg := { P := Go.Proofs.Tryz.prog, n := 11, tab := [(139, e_integer_trim), (143, e_slices_Clone_uint32_uint32), (137, e_integer_signed)], mutL := [], rtL := [(3, 1), (6, 1)], locL := [1, 2] }
noncomputable def b_integer_Neg : Code := match Go.Proofs.Tryz.f154.body with | some c => c | none => .skip
noncomputable def a_integer_Neg : An := (.seq .leaf (.seq (.draw [0, 1, 2, 3, 4, 5, 6, 7, 8]) .leaf))
theorem t_integer_Neg : Entry Go.Proofs.Tryz.prog 154 e_integer_Neg false :=
  entry_of (C := c_integer_Neg) (fn := Go.Proofs.Tryz.f154) (c := b_integer_Neg) (an := a_integer_Neg) ⟨t_integer_trim, t_slices_Clone_uint32_uint32, t_integer_signed, trivial⟩ trivial Go.Proofs.Tryz.func154 rfl rfl (by decide) (fun _ => rfl) (by intro a K D; kernel_rfl)
noncomputable def A_rational_lowest : ArgT (TInt × TInt × Unit) := (ArgT.cons tyTInt (ArgT.cons tyTInt ArgT.nil))
noncomputable def R_rational_lowest : Ty TRat := tyTRat
noncomputable def e_rational_lowest : FSem := mkE A_rational_lowest R_rational_lowest (fun a => F.rational_lowest a.1 a.2.1)
noncomputable def c_rational_lowest : Cfg := { P := Go.Proofs.Tryz.prog, n := 20, tab := [(86, e_integer_GCD), (164, e_rational_quo), (154, e_integer_Neg)], mutL := [], rtL := [(9, 3)], locL := [2, 3, 4, 5] }
noncomputable def b_rational_lowest : Code := match Go.Proofs.Tryz.f130.body with | some c => c | none => .skip
noncomputable def a_rational_lowest : An := (.seq .leaf (.seq .leaf (.join [(5, .box [.bool, .sl])] (.seq .leaf (.cond .leaf .leaf)) (.seq (.draw [0, 1, 3, 4, 2, 5, 6, 7]) .leaf))))
theorem t_rational_lowest : Entry Go.Proofs.Tryz.prog 130 e_rational_lowest false :=
  entry_of (C := c_rational_lowest) (fn := Go.Proofs.Tryz.f130) (c := b_rational_lowest) (an := a_rational_lowest) ⟨t_integer_GCD, t_rational_quo, t_integer_Neg, trivial⟩ trivial Go.Proofs.Tryz.func130 rfl rfl (by decide) (fun _ => rfl) (by intro a K D; kernel_rfl)
noncomputable def A_rational_Div : ArgT (TRat × TRat × Unit) := (ArgT.cons tyTRat (ArgT.cons tyTRat ArgT.nil))
noncomputable def R_rational_Div : Ty (TRat × Int) := (Ty.tup (.cons tyTRat (.cons (Ty.leaf (.int .i64)) .nil)) (fun x => (x.1, x.2, ())) (fun y => (y.1, y.2.1)) (fun _ => rfl) (fun _ => rfl))
noncomputable def e_rational_Div : FSem := mkE A_rational_Div R_rational_Div (fun a => F.rational_Div a.1 a.2.1)
noncomputable def c_rational_Div : Cfg := { P := Go.Proofs.Tryz.prog, n := 21, tab := [(165, e_rational_isZero), (87, e_integer_Mul), (130, e_rational_lowest)], mutL := [], rtL := [(6, 3), (10, 2), (12, 3), (15, 2), (17, 3)], locL := [2, 3, 4] }
noncomputable def b_rational_Div : Code := match Go.Proofs.Tryz.f131.body with | some c => c | none => .skip
noncomputable def a_rational_Div : An := (.seq .leaf (.seq (.seq .leaf (.cond (.seq .leaf .leaf) .leaf)) (.seq (.draw [0, 1, 2, 3, 5, 6, 7, 8, 4, 9, 10, 11, 12]) .leaf)))
theorem t_rational_Div : Entry Go.Proofs.Tryz.prog 131 e_rational_Div false :=
  entry_of (C := c_rational_Div) (fn := Go.Proofs.Tryz.f131) (c := b_rational_Div) (an := a_rational_Div) ⟨t_rational_isZero, t_integer_Mul, t_rational_lowest, trivial⟩ trivial Go.Proofs.Tryz.func131 rfl rfl (by decide) (fun _ => rfl) (by intro a K D; kernel_rfl)
noncomputable def A_rational_Mul : ArgT (TRat × TRat × Unit) := (ArgT.cons tyTRat (ArgT.cons tyTRat ArgT.nil))
noncomputable def R_rational_Mul : Ty TRat := tyTRat
noncomputable def e_rational_Mul : FSem := mkE A_rational_Mul R_rational_Mul (fun a => F.rational_Mul a.1 a.2.1)
noncomputable def c_rational_Mul : Cfg := { P := Go.Proofs.Tryz.prog, n := 31, tab := [(87, e_integer_Mul), (130, e_rational_lowest), (127, e_rational_isOne), (129, e_rational_one)], mutL := [], rtL := [(5, 2), (9, 3), (13, 2), (15, 3), (20, 2), (22, 3), (25, 2), (27, 3)], locL := [2, 3, 4] }
noncomputable def b_rational_Mul : Code := match Go.Proofs.Tryz.f75.body with | some c => c | none => .skip
noncomputable def a_rational_Mul : An := (.seq .leaf (.join [(4, .box [.bool, .sl, .bool, .sl])] (.seq .leaf (.cond (.seq .leaf .leaf) .leaf)) (.seq (.draw [0, 1, 2, 3, 5, 6, 7, 8, 4, 9, 10, 11]) .leaf)))
theorem t_rational_Mul : Entry Go.Proofs.Tryz.prog 75 e_rational_Mul false :=
  entry_of (C := c_rational_Mul) (fn := Go.Proofs.Tryz.f75) (c := b_rational_Mul) (an := a_rational_Mul) ⟨t_integer_Mul, t_rational_lowest, t_rational_isOne, t_rational_one, trivial⟩ trivial Go.Proofs.Tryz.func75 rfl rfl (by decide) (fun _ => rfl) (by intro a K D; kernel_rfl)
noncomputable def A_rational_Neg : ArgT (TRat × Unit) := (ArgT.cons tyTRat ArgT.nil)
noncomputable def R_rational_Neg : Ty TRat := tyTRat
noncomputable def e_rational_Neg : FSem := mkE A_rational_Neg R_rational_Neg (fun a => F.rational_Neg a.1)
noncomputable def c_rational_Neg : Cfg := { P := Go.Proofs.Tryz.prog, n := 9, tab := [(154, e_integer_Neg)], mutL := [], rtL := [(3, 1), (6, 1)], locL := [1, 2] }
noncomputable def b_rational_Neg : Code := match Go.Proofs.Tryz.f97.body with | some c => c | none => .skip
noncomputable def a_rational_Neg : An := (.seq .leaf (.seq (.draw [0, 1, 3, 4, 2, 5, 6]) .leaf))
theorem t_rational_Neg : Entry Go.Proofs.Tryz.prog 97 e_rational_Neg false :=
  entry_of (C := c_rational_Neg) (fn := Go.Proofs.Tryz.f97) (c := b_rational_Neg) (an := a_rational_Neg) ⟨t_integer_Neg, trivial⟩ trivial Go.Proofs.Tryz.func97 rfl rfl (by decide) (fun _ => rfl) (by intro a K D; kernel_rfl)
noncomputable def A_integer_Add : ArgT (TInt × TInt × Unit) := (ArgT.cons tyTInt (ArgT.cons tyTInt ArgT.nil))
noncomputable def R_integer_Add : Ty TInt := tyTInt
noncomputable def e_integer_Add : FSem := mkE A_integer_Add R_integer_Add (fun a => F.integer_Add a.1 a.2.1)
noncomputable def c_integer_Add : Cfg := { P := Go.Proofs.Tryz.prog, n := 40, tab := [(139, e_integer_trim), (141, e_integer_plus), (137, e_integer_signed), (163, e_integer_compare), (142, e_integer_minus)], mutL := [], rtL := [(7, 2), (10, 3), (13, 2), (15, 3), (18, 2), (28, 3), (34, 2)], locL := [2, 3, 4] }
noncomputable def b_integer_Add : Code := match Go.Proofs.Tryz.f128.body with | some c => c | none => .skip
noncomputable def a_integer_Add : An := (.seq .leaf (.seq (.draw [0, 1, 3, 4, 2, 5, 6, 7]) (.seq (.seq .leaf (.cond (.seq (.draw [0, 1, 2, 3, 4, 5, 6]) .leaf) .leaf)) (.seq (.seq .leaf (.cond (.seq (.draw [0, 1, 2, 3, 4, 5, 6]) .leaf) .leaf)) (.seq (.draw [0, 1, 2, 3, 4, 5, 6]) .leaf)))))
theorem t_integer_Add : Entry Go.Proofs.Tryz.prog 128 e_integer_Add false :=
  entry_of (C := c_integer_Add) (fn := Go.Proofs.Tryz.f128) (c := b_integer_Add) (an := a_integer_Add) ⟨t_integer_trim, t_integer_plus, t_integer_signed, t_integer_compare, t_integer_minus, trivial⟩ trivial Go.Proofs.Tryz.func128 rfl rfl (by decide) (fun _ => rfl) (by intro a K D; kernel_rfl)
noncomputable def A_rational_Add : ArgT (TRat × TRat × Unit) := (ArgT.cons tyTRat (ArgT.cons tyTRat ArgT.nil))
noncomputable def R_rational_Add : Ty TRat := tyTRat
noncomputable def e_rational_Add : FSem := mkE A_rational_Add R_rational_Add (fun a => F.rational_Add a.1 a.2.1)
noncomputable def c_rational_Add : Cfg := { P := Go.Proofs.Tryz.prog, n := 39, tab := [(87, e_integer_Mul), (128, e_integer_Add), (130, e_rational_lowest), (127, e_rational_isOne), (129, e_rational_one)], mutL := [], rtL := [(6, 2), (10, 3), (14, 2), (16, 3), (21, 2), (23, 3), (26, 3), (28, 2), (33, 2), (35, 3)], locL := [2, 3, 4, 5] }
noncomputable def b_rational_Add : Code := match Go.Proofs.Tryz.f74.body with | some c => c | none => .skip
noncomputable def a_rational_Add : An := (.seq .leaf (.join [(4, .box [.bool, .sl, .bool, .sl])] (.seq .leaf (.cond (.seq .leaf .leaf) .leaf)) (.seq (.draw [0, 1, 2, 3, 5, 6, 7, 8, 11, 4, 9, 10, 12]) (.seq (.draw [0, 1, 2, 3, 4, 5, 6, 7]) .leaf))))
theorem t_rational_Add : Entry Go.Proofs.Tryz.prog 74 e_rational_Add false :=
  entry_of (C := c_rational_Add) (fn := Go.Proofs.Tryz.f74) (c := b_rational_Add) (an := a_rational_Add) ⟨t_integer_Mul, t_integer_Add, t_rational_lowest, t_rational_isOne, t_rational_one, trivial⟩ trivial Go.Proofs.Tryz.func74 rfl rfl (by decide) (fun _ => rfl) (by intro a K D; kernel_rfl)
noncomputable def A_rational_Sub : ArgT (TRat × TRat × Unit) := (ArgT.cons tyTRat (ArgT.cons tyTRat ArgT.nil))
noncomputable def R_rational_Sub : Ty TRat := tyTRat
noncomputable def e_rational_Sub : FSem := mkE A_rational_Sub R_rational_Sub (fun a => F.rational_Sub a.1 a.2.1)
noncomputable def c_rational_Sub : Cfg := { P := Go.Proofs.Tryz.prog, n := 9, tab := [(97, e_rational_Neg), (74, e_rational_Add)], mutL := [], rtL := [], locL := [2, 3, 4] }
noncomputable def b_rational_Sub : Code := match Go.Proofs.Tryz.f132.body with | some c => c | none => .skip
noncomputable def a_rational_Sub : An := (.seq .leaf (.seq (.draw [0, 1, 2, 3, 4]) .leaf))
theorem t_rational_Sub : Entry Go.Proofs.Tryz.prog 132 e_rational_Sub false :=
  entry_of (C := c_rational_Sub) (fn := Go.Proofs.Tryz.f132) (c := b_rational_Sub) (an := a_rational_Sub) ⟨t_rational_Neg, t_rational_Add, trivial⟩ trivial Go.Proofs.Tryz.func132 rfl rfl (by decide) (fun _ => rfl) (by intro a K D; kernel_rfl)
noncomputable def A_polynomial_divide : ArgT (Sl × Sl × Unit) := (ArgT.cons (Ty.leaf .sl) (ArgT.cons (Ty.leaf .sl) ArgT.nil))
noncomputable def R_polynomial_divide : Ty (Sl × Sl) := (Ty.tup (.cons (Ty.leaf .sl) (.cons (Ty.leaf .sl) .nil)) (fun x => (x.1, x.2, ())) (fun y => (y.1, y.2.1)) (fun _ => rfl) (fun _ => rfl))
noncomputable def e_polynomial_divide : FSem := mkE A_polynomial_divide R_polynomial_divide (fun a => F.polynomial_divide a.1 a.2.1)
noncomputable def c_polynomial_divide : Cfg := { P := Go.Proofs.Tryz.prog, n := 83, tab := [(38, e_polynomial_Trim), (73, e_polynomial_zeros), (131, e_rational_Div), (75, e_rational_Mul), (132, e_rational_Sub)], mutL := [], rtL := [], locL := [10] }
noncomputable def b_polynomial_divide : Code := match Go.Proofs.Tryz.f77.body with | some c => c | none => .skip
noncomputable def a_polynomial_divide : An := (.seq .leaf (.seq .leaf (.seq .leaf (.seq .leaf (.seq (.seq .leaf (.block (.loop [(8, .leaf (.int .i64))] (.seq (.seq .leaf (.cond .leaf .leaf)) (.seq (.block (.seq (.draw [0, 1, 2, 3, 4, 5, 6, 7, 8, 9, 10, 11, 12, 13, 14, 15, 16, 17, 18, 19, 20, 21]) (.seq .leaf (.block (.loop [(55, .leaf (.int .i64))] (.seq .leaf (.seq (.cond .leaf .leaf) (.seq (.block (.seq .leaf (.draw [0, 1, 2, 3, 4, 5, 6, 7, 8, 9, 10, 11, 12, 13, 14, 15, 16, 17, 18]))) .leaf)))))))) .leaf))))) (.seq .leaf .leaf))))))
theorem t_polynomial_divide : Entry Go.Proofs.Tryz.prog 77 e_polynomial_divide false :=
  entry_of (C := c_polynomial_divide) (fn := Go.Proofs.Tryz.f77) (c := b_polynomial_divide) (an := a_polynomial_divide) ⟨t_polynomial_Trim, t_polynomial_zeros, t_rational_Div, t_rational_Mul, t_rational_Sub, trivial⟩ trivial Go.Proofs.Tryz.func77 rfl rfl (by decide) (fun _ => rfl) (by intro a K D; kernel_rfl)
noncomputable def A_polynomial_DivMod : ArgT (Sl × Sl × Unit) := (ArgT.cons (Ty.leaf .sl) (ArgT.cons (Ty.leaf .sl) ArgT.nil))
noncomputable def R_polynomial_DivMod : Ty (Sl × Sl × Int) := (Ty.tup (.cons (Ty.leaf .sl) (.cons (Ty.leaf .sl) (.cons (Ty.leaf (.int .i64)) .nil))) (fun x => (x.1, x.2.1, x.2.2, ())) (fun y => (y.1, y.2.1, y.2.2.1)) (fun _ => rfl) (fun _ => rfl))
noncomputable def e_polynomial_DivMod : FSem := mkE A_polynomial_DivMod R_polynomial_DivMod (fun a => F.polynomial_DivMod a.1 a.2.1)
noncomputable def c_polynomial_DivMod : Cfg := { P := Go.Proofs.Tryz.prog, n := 20, tab := [(39, e_polynomial_Degree), (77, e_polynomial_divide)], mutL := [], rtL := [], locL := [] }
noncomputable def b_polynomial_DivMod : Code := match Go.Proofs.Tryz.f22.body with | some c => c | none => .skip
noncomputable def a_polynomial_DivMod : An := (.seq .leaf (.seq (.seq .leaf (.cond (.seq .leaf .leaf) .leaf)) (.seq .leaf (.seq .leaf .leaf))))
theorem t_polynomial_DivMod : Entry Go.Proofs.Tryz.prog 22 e_polynomial_DivMod false :=
  entry_of (C := c_polynomial_DivMod) (fn := Go.Proofs.Tryz.f22) (c := b_polynomial_DivMod) (an := a_polynomial_DivMod) ⟨t_polynomial_Degree, t_polynomial_divide, trivial⟩ trivial Go.Proofs.Tryz.func22 rfl rfl (by decide) (fun _ => rfl) (by intro a K D; kernel_rfl)
noncomputable def A_polynomial_Scale : ArgT (Sl × TRat × Unit) := (ArgT.cons (Ty.leaf .sl) (ArgT.cons tyTRat ArgT.nil))
noncomputable def R_polynomial_Scale : Ty Sl := (Ty.leaf .sl)
noncomputable def e_polynomial_Scale : FSem := mkE A_polynomial_Scale R_polynomial_Scale (fun a => F.polynomial_Scale a.1 a.2.1)
noncomputable def c_polynomial_Scale : Cfg := { P := Go.Proofs.Tryz.prog, n := 27, tab := [(75, e_rational_Mul), (38, e_polynomial_Trim)], mutL := [], rtL := [], locL := [3, 7] }
noncomputable def b_polynomial_Scale : Code := match Go.Proofs.Tryz.f43.body with | some c => c | none => .skip
noncomputable def a_polynomial_Scale : An := (.seq .leaf (.seq .leaf (.seq (.seq .leaf (.block (.loop [(13, .leaf (.int .i64))] (.seq .leaf (.seq (.cond .leaf .leaf) (.seq (.block (.seq .leaf .leaf)) .leaf)))))) (.seq .leaf .leaf))))
theorem t_polynomial_Scale : Entry Go.Proofs.Tryz.prog 43 e_polynomial_Scale false :=
  entry_of (C := c_polynomial_Scale) (fn := Go.Proofs.Tryz.f43) (c := b_polynomial_Scale) (an := a_polynomial_Scale) ⟨t_rational_Mul, t_polynomial_Trim, trivial⟩ trivial Go.Proofs.Tryz.func43 rfl rfl (by decide) (fun _ => rfl) (by intro a K D; kernel_rfl)
noncomputable def A_polynomial_monic : ArgT (Sl × Unit) := (ArgT.cons (Ty.leaf .sl) ArgT.nil)
noncomputable def R_polynomial_monic : Ty Sl := (Ty.leaf .sl)
noncomputable def e_polynomial_monic : FSem := mkE A_polynomial_monic R_polynomial_monic (fun a => F.polynomial_monic a.1)
noncomputable def c_polynomial_monic : Cfg := { P := Go.Proofs.Tryz.prog, n := 24, tab := [(38, e_polynomial_Trim), (79, e_rational_FromInt), (131, e_rational_Div), (43, e_polynomial_Scale)], mutL := [], rtL := [], locL := [3] }
noncomputable def b_polynomial_monic : Code := match Go.Proofs.Tryz.f83.body with | some c => c | none => .skip
noncomputable def a_polynomial_monic : An := (.seq .leaf (.seq .leaf (.seq (.seq .leaf (.cond (.seq .leaf .leaf) .leaf)) (.seq (.draw [1, 2, 3, 4, 5, 6, 11, 0, 7, 8, 9, 10, 12, 13]) (.seq .leaf .leaf)))))
theorem t_polynomial_monic : Entry Go.Proofs.Tryz.prog 83 e_polynomial_monic false :=
  entry_of (C := c_polynomial_monic) (fn := Go.Proofs.Tryz.f83) (c := b_polynomial_monic) (an := a_polynomial_monic) ⟨t_polynomial_Trim, t_rational_FromInt, t_rational_Div, t_polynomial_Scale, trivial⟩ trivial Go.Proofs.Tryz.func83 rfl rfl (by decide) (fun _ => rfl) (by intro a K D; kernel_rfl)
noncomputable def A_polynomial_Derivative : ArgT (Sl × Unit) := (ArgT.cons (Ty.leaf .sl) ArgT.nil)
noncomputable def R_polynomial_Derivative : Ty Sl := (Ty.leaf .sl)
noncomputable def e_polynomial_Derivative : FSem := mkE A_polynomial_Derivative R_polynomial_Derivative (fun a => F.polynomial_Derivative a.1)
noncomputable def c_polynomial_Derivative : Cfg := { P := Go.Proofs.Tryz.prog, n := 25, tab := [(79, e_rational_FromInt), (75, e_rational_Mul), (38, e_polynomial_Trim)], mutL := [], rtL := [], locL := [5, 20] }
noncomputable def b_polynomial_Derivative : Code := match Go.Proofs.Tryz.f26.body with | some c => c | none => .skip
noncomputable def a_polynomial_Derivative : An := (.seq .leaf (.seq .leaf (.seq (.seq .leaf (.block (.loop [(3, .leaf (.sl)), (8, .leaf (.int .i64))] (.seq .leaf (.seq (.cond .leaf .leaf) (.join [(3, .leaf (.sl))] (.block (.seq .leaf (.seq .leaf (.cond (.draw [0, 1, 2, 3, 4, 5, 6, 7]) .leaf)))) .leaf)))))) (.seq .leaf .leaf))))
theorem t_polynomial_Derivative : Entry Go.Proofs.Tryz.prog 26 e_polynomial_Derivative false :=
  entry_of (C := c_polynomial_Derivative) (fn := Go.Proofs.Tryz.f26) (c := b_polynomial_Derivative) (an := a_polynomial_Derivative) ⟨t_rational_FromInt, t_rational_Mul, t_polynomial_Trim, trivial⟩ trivial Go.Proofs.Tryz.func26 rfl rfl (by decide) (fun _ => rfl) (by intro a K D; kernel_rfl)
noncomputable def A_polynomial_GCD : ArgT (Sl × Sl × Unit) := (ArgT.cons (Ty.leaf .sl) (ArgT.cons (Ty.leaf .sl) ArgT.nil))
noncomputable def R_polynomial_GCD : Ty Sl := (Ty.leaf .sl)
noncomputable def e_polynomial_GCD : FSem := mkE A_polynomial_GCD R_polynomial_GCD (fun a => F.polynomial_GCD a.1 a.2.1)
noncomputable def c_polynomial_GCD : Cfg := { P := Go.Proofs.Tryz.prog, n := 24, tab := [(83, e_polynomial_monic), (77, e_polynomial_divide)], mutL := [], rtL := [], locL := [] }
noncomputable def b_polynomial_GCD : Code := match Go.Proofs.Tryz.f123.body with | some c => c | none => .skip
noncomputable def a_polynomial_GCD : An := (.seq .leaf (.seq .leaf (.seq (.block (.loop [(0, .leaf (.sl)), (1, .leaf (.sl))] (.seq (.seq .leaf (.cond .leaf .leaf)) (.block (.seq .leaf .leaf))))) (.seq .leaf .leaf))))
theorem t_polynomial_GCD : Entry Go.Proofs.Tryz.prog 123 e_polynomial_GCD false :=
  entry_of (C := c_polynomial_GCD) (fn := Go.Proofs.Tryz.f123) (c := b_polynomial_GCD) (an := a_polynomial_GCD) ⟨t_polynomial_monic, t_polynomial_divide, trivial⟩ trivial Go.Proofs.Tryz.func123 rfl rfl (by decide) (fun _ => rfl) (by intro a K D; kernel_rfl)
noncomputable def A_polynomial_Squarefree : ArgT (Sl × Unit) := (ArgT.cons (Ty.leaf .sl) ArgT.nil)
noncomputable def R_polynomial_Squarefree : Ty Sl := (Ty.leaf .sl)
noncomputable def e_polynomial_Squarefree : FSem := mkE A_polynomial_Squarefree R_polynomial_Squarefree (fun a => F.polynomial_Squarefree a.1)
noncomputable def c_polynomial_Squarefree : Cfg := { P := Go.Proofs.Tryz.prog, n := 21, tab := [(83, e_polynomial_monic), (26, e_polynomial_Derivative), (123, e_polynomial_GCD), (77, e_polynomial_divide)], mutL := [], rtL := [], locL := [] }
noncomputable def b_polynomial_Squarefree : Code := match Go.Proofs.Tryz.f69.body with | some c => c | none => .skip
noncomputable def a_polynomial_Squarefree : An := (.seq .leaf (.seq .leaf (.seq (.seq .leaf (.cond (.seq .leaf .leaf) .leaf)) (.seq .leaf (.seq .leaf .leaf)))))
theorem t_polynomial_Squarefree : Entry Go.Proofs.Tryz.prog 69 e_polynomial_Squarefree false :=
  entry_of (C := c_polynomial_Squarefree) (fn := Go.Proofs.Tryz.f69) (c := b_polynomial_Squarefree) (an := a_polynomial_Squarefree) ⟨t_polynomial_monic, t_polynomial_Derivative, t_polynomial_GCD, t_polynomial_divide, trivial⟩ trivial Go.Proofs.Tryz.func69 rfl rfl (by decide) (fun _ => rfl) (by intro a K D; kernel_rfl)
noncomputable def A_integer_Cmp : ArgT (TInt × TInt × Unit) := (ArgT.cons tyTInt (ArgT.cons tyTInt ArgT.nil))
noncomputable def R_integer_Cmp : Ty Int := (Ty.leaf (.int .i64))
noncomputable def e_integer_Cmp : FSem := mkE A_integer_Cmp R_integer_Cmp (fun a => F.integer_Cmp a.1 a.2.1)
noncomputable def c_integer_Cmp : Cfg := { P := Go.Proofs.Tryz.prog, n := 26, tab := [(153, e_integer_Sign), (182, e_cmp_Compare_int), (139, e_integer_trim), (163, e_integer_compare)], mutL := [], rtL := [(18, 2), (21, 3)], locL := [2, 3] }
noncomputable def b_integer_Cmp : Code := match Go.Proofs.Tryz.f155.body with | some c => c | none => .skip
noncomputable def a_integer_Cmp : An := (.seq .leaf (.seq (.draw [0, 2, 1, 3, 4, 5]) (.seq (.seq .leaf (.cond (.seq .leaf .leaf) .leaf)) (.seq (.draw [0, 1, 2, 4, 5, 3, 6, 7, 8, 9]) .leaf))))
theorem t_integer_Cmp : Entry Go.Proofs.Tryz.prog 155 e_integer_Cmp false :=
  entry_of (C := c_integer_Cmp) (fn := Go.Proofs.Tryz.f155) (c := b_integer_Cmp) (an := a_integer_Cmp) ⟨t_integer_Sign, t_cmp_Compare_int, t_integer_trim, t_integer_compare, trivial⟩ trivial Go.Proofs.Tryz.func155 rfl rfl (by decide) (fun _ => rfl) (by intro a K D; kernel_rfl)
noncomputable def A_rational_Cmp : ArgT (TRat × TRat × Unit) := (ArgT.cons tyTRat (ArgT.cons tyTRat ArgT.nil))
noncomputable def R_rational_Cmp : Ty Int := (Ty.leaf (.int .i64))
noncomputable def e_rational_Cmp : FSem := mkE A_rational_Cmp R_rational_Cmp (fun a => F.rational_Cmp a.1 a.2.1)
noncomputable def c_rational_Cmp : Cfg := { P := Go.Proofs.Tryz.prog, n := 28, tab := [(96, e_rational_Sign), (87, e_integer_Mul), (155, e_integer_Cmp)], mutL := [], rtL := [(17, 2), (19, 3), (22, 3), (24, 2)], locL := [2, 3] }
noncomputable def b_rational_Cmp : Code := match Go.Proofs.Tryz.f98.body with | some c => c | none => .skip
noncomputable def a_rational_Cmp : An := (.seq .leaf (.seq (.seq (.draw [0, 2, 1, 3, 4, 5]) (.seq .leaf (.cond (.seq (.seq .leaf (.cond (.seq .leaf .leaf) .leaf)) (.seq .leaf .leaf)) .leaf))) (.seq (.draw [0, 1, 2, 3, 5, 6, 7, 8, 4, 9, 10, 11]) .leaf)))
theorem t_rational_Cmp : Entry Go.Proofs.Tryz.prog 98 e_rational_Cmp false :=
  entry_of (C := c_rational_Cmp) (fn := Go.Proofs.Tryz.f98) (c := b_rational_Cmp) (an := a_rational_Cmp) ⟨t_rational_Sign, t_integer_Mul, t_integer_Cmp, trivial⟩ trivial Go.Proofs.Tryz.func98 rfl rfl (by decide) (fun _ => rfl) (by intro a K D; kernel_rfl)
noncomputable def A_polynomial_Bound : ArgT (Sl × Unit) := (ArgT.cons (Ty.leaf .sl) ArgT.nil)
noncomputable def R_polynomial_Bound : Ty TRat := tyTRat
noncomputable def e_polynomial_Bound : FSem := mkE A_polynomial_Bound R_polynomial_Bound (fun a => F.polynomial_Bound a.1)
noncomputable def c_polynomial_Bound : Cfg := { P := Go.Proofs.Tryz.prog, n := 37, tab := [(83, e_polynomial_monic), (79, e_rational_FromInt), (98, e_rational_Cmp), (96, e_rational_Sign), (97, e_rational_Neg), (74, e_rational_Add)], mutL := [], rtL := [], locL := [2, 3, 5] }
noncomputable def b_polynomial_Bound : Code := match Go.Proofs.Tryz.f34.body with | some c => c | none => .skip
noncomputable def a_polynomial_Bound : An := (.seq .leaf (.seq .leaf (.seq (.seq .leaf (.cond (.seq .leaf .leaf) .leaf)) (.seq .leaf (.seq (.seq .leaf (.block (.loop [(3, .box [.bool, .sl, .bool, .sl]), (19, .leaf (.int .i64))] (.seq .leaf (.seq (.cond .leaf .leaf) (.join [(3, .box [.bool, .sl, .bool, .sl])] (.block (.seq .leaf (.join [(5, .box [.bool, .sl, .bool, .sl])] (.seq .leaf (.cond .leaf .leaf)) (.seq .leaf (.cond .leaf .leaf))))) .leaf)))))) (.seq (.draw [0, 1, 2, 3]) .leaf))))))
theorem t_polynomial_Bound : Entry Go.Proofs.Tryz.prog 34 e_polynomial_Bound false :=
  entry_of (C := c_polynomial_Bound) (fn := Go.Proofs.Tryz.f34) (c := b_polynomial_Bound) (an := a_polynomial_Bound) ⟨t_polynomial_monic, t_rational_FromInt, t_rational_Cmp, t_rational_Sign, t_rational_Neg, t_rational_Add, trivial⟩ trivial Go.Proofs.Tryz.func34 rfl rfl (by decide) (fun _ => rfl) (by intro a K D; kernel_rfl)
noncomputable def A_slices_Backward_api_Rat_api_Rat : ArgT (Sl × Unit) := (ArgT.cons (Ty.leaf .sl) ArgT.nil)
noncomputable def R_slices_Backward_api_Rat_api_Rat : Ty Addr := (Ty.clo 156)
noncomputable def e_slices_Backward_api_Rat_api_Rat : FSem := mkE A_slices_Backward_api_Rat_api_Rat R_slices_Backward_api_Rat_api_Rat (fun a => F.slices_Backward_api_Rat_api_Rat a.1)
noncomputable def c_slices_Backward_api_Rat_api_Rat : Cfg := { P := Go.Proofs.Tryz.prog, n := 4, tab := [], mutL := [], rtL := [], locL := [] }
noncomputable def b_slices_Backward_api_Rat_api_Rat : Code := match Go.Proofs.Tryz.f106.body with | some c => c | none => .skip
noncomputable def a_slices_Backward_api_Rat_api_Rat : An := (.seq .leaf (.seq .leaf .leaf))
theorem t_slices_Backward_api_Rat_api_Rat : Entry Go.Proofs.Tryz.prog 106 e_slices_Backward_api_Rat_api_Rat false :=
  entry_of (C := c_slices_Backward_api_Rat_api_Rat) (fn := Go.Proofs.Tryz.f106) (c := b_slices_Backward_api_Rat_api_Rat) (an := a_slices_Backward_api_Rat_api_Rat) trivial trivial Go.Proofs.Tryz.func106 rfl rfl (by decide) (fun _ => rfl) (by intro a K D; kernel_rfl)
end Den
end

section
set_option linter.unusedVariables false
namespace Den
open Go Go.RowKit Go.Shelf
open Go.Proofs
attribute [local go_sem] Oper.semAt_some

set_option maxRecDepth 100000 in
set_option maxHeartbeats 2000000 in
theorem bk_aggboolslboolsl : BackFn Tryz.prog 156 (.agg [.bool, .sl, .bool, .sl]) := by
  refine ⟨enters_of Tryz.func156 (by kernel_rfl) rfl, ?_⟩
  rintro l ab ⟨xa, xl, xc⟩ J w hxl h0 hbox hround
  simp only at hxl h0 hbox hround
  have hb0 := hbox _ _ h0
  refine callsIn_of_wp Tryz.func156 rfl trivial ?_ rfl
  simp only [Tryz.ntmps156, List.size_toArray, List.length_cons, List.length_nil, Nat.reduceAdd, Nat.reduceSub, Array.replicate_succ, Array.replicate_zero, List.push_toArray, List.append_toArray, List.nil_append, List.cons_append]
  gi_wp2
  gi_loopw [3] (fun i wr => ∃ k : Nat, k ≤ xl ∧ i = .int .i64 ((k : Int) - 1) ∧ J k wr) (fun i _ => (intOf i + 1).toNat)
  case atStart => exact ⟨xl, Nat.le_refl _, rfl, h0⟩
  case round =>
    obtain ⟨k, hk, rfl, hJ⟩ := hrel
    have hbx := hbox _ _ hJ
    cases k with
    | zero =>
      gi_wp2
      go_end0
      exact ⟨⟨_, rfl⟩, hJ⟩
    | succ j =>
      obtain ⟨ad, ⟨v0, v1, v2, v3, _⟩, hxa, hcells, f, tmps1, asg, body, hy, hR⟩ := hround j wr (by omega) hJ
      subst hxa
      have hc : ∀ i u, [Value.bool v0, .slice v1.a v1.len v1.cap, .bool v2, .slice v3.a v3.len v3.cap][i]? = some u → wr.cell? (ad.add (j * 4 + i)) = some u := fun i u hu => by
        have := hcells i u (by simpa [STy.cells, LT.up, Lf.up] using hu)
        simpa [STy.size] using this
      have hc0 := hc 0 _ rfl
      have hk1 : ∀ i, 0 < i → ad.add (j * 4 + i) = { block := (ad.add (j * 4)).block, off := (ad.add (j * 4)).off + i } := fun i hi => by
        rw [add_block, add_off]
        unfold Addr.add
        rw [if_neg (by omega)]
        congr 1
        omega
      have hc1 := hc 1 _ rfl
      have hc2 := hc 2 _ rfl
      have hc3 := hc 3 _ rfl
      rw [hk1 _ (by decide)] at hc1 hc2 hc3
      rw [Nat.add_zero] at hc0
      have hkj : (((j + 1 : Nat) : Int) - 1) = (j : Int) := by omega
      rw [hkj]
      simp only [STy.val, LT.up, Lf.up] at hy
      gi_wp2
      refine ⟨rfl, hR.mono ?_⟩
      rintro e W3 ⟨rfl, hJ3⟩
      gi_wp2
      go_roundw
      case rel => exact ⟨j, by omega, by simp, hJ3⟩
      case measure => simp [intOf]
end Den
end

section
set_option maxRecDepth 100000
set_option linter.unusedVariables false
namespace Den
open Go
noncomputable def A_ref02_one : ArgT (TInt × Unit) := (ArgT.cons tyTInt ArgT.nil)
noncomputable def R_ref02_one : Ty Bool := (Ty.leaf .bool)
noncomputable def e_ref02_one : FSem := mkE A_ref02_one R_ref02_one (fun a => F.ref02_one a.1)
noncomputable def c_ref02_one : Cfg := { P := Go.Proofs.Tryz.prog, n := 19, tab := [], mutL := [], rtL := [(3, 1), (8, 1), (15, 1)], locL := [1] }
noncomputable def b_ref02_one : Code := match Go.Proofs.Tryz.f99.body with | some c => c | none => .skip
noncomputable def a_ref02_one : An := (.seq .leaf (.seq .leaf .leaf))
theorem t_ref02_one : Entry Go.Proofs.Tryz.prog 99 e_ref02_one false :=
  entry_of (C := c_ref02_one) (fn := Go.Proofs.Tryz.f99) (c := b_ref02_one) (an := a_ref02_one) trivial trivial Go.Proofs.Tryz.func99 rfl rfl (by decide) (fun _ => rfl) (by intro a K D; kernel_rfl)
noncomputable def A_ref02_Mul : ArgT (TRat × TRat × Unit) := (ArgT.cons tyTRat (ArgT.cons tyTRat ArgT.nil))
noncomputable def R_ref02_Mul : Ty TRat := tyTRat
noncomputable def e_ref02_Mul : FSem := mkE A_ref02_Mul R_ref02_Mul (fun a => F.ref02_Mul a.1 a.2.1)
noncomputable def c_ref02_Mul : Cfg := { P := Go.Proofs.Tryz.prog, n := 65, tab := [(90, e_ref01_GCD), (134, e_ref02_quo), (91, e_ref01_Mul), (99, e_ref02_one), (81, e_ref02_FromInt)], mutL := [], rtL := [(7, 2), (8, 2), (13, 3), (14, 3), (20, 2), (24, 3), (28, 2), (30, 3), (33, 2), (36, 2), (38, 3), (41, 3), (43, 2), (46, 2), (50, 3), (55, 2), (59, 3)], locL := [2, 3, 4, 5, 6] }
noncomputable def b_ref02_Mul : Code := match Go.Proofs.Tryz.f80.body with | some c => c | none => .skip
noncomputable def a_ref02_Mul : An := (.seq .leaf (.join [(4, .box [.bool, .sl, .bool, .sl])] (.seq .leaf (.cond (.seq .leaf .leaf) .leaf)) (.join [(4, .box [.bool, .sl, .bool, .sl])] (.seq .leaf (.cond (.seq (.draw [0, 1, 2, 3, 5, 6, 4, 7, 8]) .leaf) .leaf)) (.seq (.draw [0, 1, 2, 3, 5, 6, 7, 8, 10, 11, 4, 9, 12, 13]) (.seq (.draw [0, 1, 2, 4, 5, 6, 9, 10, 11, 13, 14, 15, 3, 7, 8, 12, 16, 17, 18, 19]) .leaf)))))
theorem t_ref02_Mul : Entry Go.Proofs.Tryz.prog 80 e_ref02_Mul false :=
  entry_of (C := c_ref02_Mul) (fn := Go.Proofs.Tryz.f80) (c := b_ref02_Mul) (an := a_ref02_Mul) ⟨t_ref01_GCD, t_ref02_quo, t_ref01_Mul, t_ref02_one, t_ref02_FromInt, trivial⟩ trivial Go.Proofs.Tryz.func80 rfl rfl (by decide) (fun _ => rfl) (by intro a K D; kernel_rfl)
noncomputable def A_ref02_Sign : ArgT (TRat × Unit) := (ArgT.cons tyTRat ArgT.nil)
noncomputable def R_ref02_Sign : Ty Int := (Ty.leaf (.int .i64))
noncomputable def e_ref02_Sign : FSem := mkE A_ref02_Sign R_ref02_Sign (fun a => F.ref02_Sign a.1)
noncomputable def c_ref02_Sign : Cfg := { P := Go.Proofs.Tryz.prog, n := 6, tab := [(92, e_ref01_Sign)], mutL := [], rtL := [(3, 1)], locL := [1] }
noncomputable def b_ref02_Sign : Code := match Go.Proofs.Tryz.f32.body with | some c => c | none => .skip
noncomputable def a_ref02_Sign : An := (.seq .leaf (.seq .leaf .leaf))
theorem t_ref02_Sign : Entry Go.Proofs.Tryz.prog 32 e_ref02_Sign false :=
  entry_of (C := c_ref02_Sign) (fn := Go.Proofs.Tryz.f32) (c := b_ref02_Sign) (an := a_ref02_Sign) ⟨t_ref01_Sign, trivial⟩ trivial Go.Proofs.Tryz.func32 rfl rfl (by decide) (fun _ => rfl) (by intro a K D; kernel_rfl)
noncomputable def A_ref04_Trim : ArgT (Sl × Unit) := (ArgT.cons (Ty.leaf .sl) ArgT.nil)
noncomputable def R_ref04_Trim : Ty Sl := (Ty.leaf .sl)
noncomputable def e_ref04_Trim : FSem := mkE A_ref04_Trim R_ref04_Trim (fun a => F.ref04_Trim a.1)
noncomputable def c_ref04_Trim : Cfg := { P := Go.Proofs.Tryz.prog, n := 24, tab := [(32, e_ref02_Sign)], mutL := [], rtL := [], locL := [] }
noncomputable def b_ref04_Trim : Code := match Go.Proofs.Tryz.f25.body with | some c => c | none => .skip
noncomputable def a_ref04_Trim : An := (.seq .leaf (.seq .leaf (.join [(3, .leaf (.int .i64))] (.block (.loop [(3, .leaf (.int .i64))] (.join [] (.seq .leaf (.cond .leaf .leaf)) (.block .leaf)))) (.seq .leaf .leaf))))
theorem t_ref04_Trim : Entry Go.Proofs.Tryz.prog 25 e_ref04_Trim false :=
  entry_of (C := c_ref04_Trim) (fn := Go.Proofs.Tryz.f25) (c := b_ref04_Trim) (an := a_ref04_Trim) ⟨t_ref02_Sign, trivial⟩ trivial Go.Proofs.Tryz.func25 rfl rfl (by decide) (fun _ => rfl) (by intro a K D; kernel_rfl)
noncomputable def A_ref04_Scale : ArgT (Sl × TRat × Unit) := (ArgT.cons (Ty.leaf .sl) (ArgT.cons tyTRat ArgT.nil))
noncomputable def R_ref04_Scale : Ty Sl := (Ty.leaf .sl)
noncomputable def e_ref04_Scale : FSem := mkE A_ref04_Scale R_ref04_Scale (fun a => F.ref04_Scale a.1 a.2.1)
noncomputable def c_ref04_Scale : Cfg := { P := Go.Proofs.Tryz.prog, n := 24, tab := [(80, e_ref02_Mul), (25, e_ref04_Trim)], mutL := [], rtL := [], locL := [3, 20] }
noncomputable def b_ref04_Scale : Code := match Go.Proofs.Tryz.f33.body with | some c => c | none => .skip
noncomputable def a_ref04_Scale : An := (.seq .leaf (.seq .leaf (.seq (.seq .leaf (.block (.loop [(5, .leaf (.sl)), (6, .leaf (.int .i64))] (.seq (.seq .leaf (.cond .leaf .leaf)) (.seq (.block (.draw [0, 1, 2, 3, 4, 5, 6, 7, 8, 9])) .leaf))))) (.seq .leaf .leaf))))
theorem t_ref04_Scale : Entry Go.Proofs.Tryz.prog 33 e_ref04_Scale false :=
  entry_of (C := c_ref04_Scale) (fn := Go.Proofs.Tryz.f33) (c := b_ref04_Scale) (an := a_ref04_Scale) ⟨t_ref02_Mul, t_ref04_Trim, trivial⟩ trivial Go.Proofs.Tryz.func33 rfl rfl (by decide) (fun _ => rfl) (by intro a K D; kernel_rfl)
noncomputable def A_ref04_zero : ArgT (Unit) := ArgT.nil
noncomputable def R_ref04_zero : Ty TRat := tyTRat
noncomputable def e_ref04_zero : FSem := mkE A_ref04_zero R_ref04_zero (fun a => F.ref04_zero )
noncomputable def c_ref04_zero : Cfg := { P := Go.Proofs.Tryz.prog, n := 2, tab := [(81, e_ref02_FromInt)], mutL := [], rtL := [], locL := [0] }
noncomputable def b_ref04_zero : Code := match Go.Proofs.Tryz.f101.body with | some c => c | none => .skip
noncomputable def a_ref04_zero : An := (.seq .leaf (.seq .leaf .leaf))
theorem t_ref04_zero : Entry Go.Proofs.Tryz.prog 101 e_ref04_zero false :=
  entry_of (C := c_ref04_zero) (fn := Go.Proofs.Tryz.f101) (c := b_ref04_zero) (an := a_ref04_zero) ⟨t_ref02_FromInt, trivial⟩ trivial Go.Proofs.Tryz.func101 rfl rfl (by decide) (fun _ => rfl) (by intro a K D; kernel_rfl)
noncomputable def A_ref04_at : ArgT (Sl × Int × Unit) := (ArgT.cons (Ty.leaf .sl) (ArgT.cons (Ty.leaf (.int .i64)) ArgT.nil))
noncomputable def R_ref04_at : Ty TRat := tyTRat
noncomputable def e_ref04_at : FSem := mkE A_ref04_at R_ref04_at (fun a => F.ref04_at a.1 a.2.1)
noncomputable def c_ref04_at : Cfg := { P := Go.Proofs.Tryz.prog, n := 18, tab := [(101, e_ref04_zero)], mutL := [], rtL := [], locL := [4] }
noncomputable def b_ref04_at : Code := match Go.Proofs.Tryz.f105.body with | some c => c | none => .skip
noncomputable def a_ref04_at : An := (.seq .leaf (.join [(4, .box [.bool, .sl, .bool, .sl])] (.seq .leaf (.cond (.seq .leaf .leaf) .leaf)) (.seq .leaf .leaf)))
theorem t_ref04_at : Entry Go.Proofs.Tryz.prog 105 e_ref04_at false :=
  entry_of (C := c_ref04_at) (fn := Go.Proofs.Tryz.f105) (c := b_ref04_at) (an := a_ref04_at) ⟨t_ref04_zero, trivial⟩ trivial Go.Proofs.Tryz.func105 rfl rfl (by decide) (fun _ => rfl) (by intro a K D; kernel_rfl)
noncomputable def A_ref02_Add : ArgT (TRat × TRat × Unit) := (ArgT.cons tyTRat (ArgT.cons tyTRat ArgT.nil))
noncomputable def R_ref02_Add : Ty TRat := tyTRat
noncomputable def e_ref02_Add : FSem := mkE A_ref02_Add R_ref02_Add (fun a => F.ref02_Add a.1 a.2.1)
noncomputable def c_ref02_Add : Cfg := { P := Go.Proofs.Tryz.prog, n := 94, tab := [(90, e_ref01_GCD), (99, e_ref02_one), (91, e_ref01_Mul), (151, e_ref01_Add), (134, e_ref02_quo)], mutL := [], rtL := [(11, 2), (12, 2), (17, 3), (18, 3), (23, 2), (27, 3), (31, 2), (33, 3), (36, 2), (39, 2), (41, 3), (46, 2), (48, 3), (51, 3), (53, 2), (58, 2), (60, 3), (64, 2), (68, 3), (72, 2), (76, 3), (88, 3)], locL := [2, 3, 4, 5, 6, 7, 8, 9, 10] }
noncomputable def b_ref02_Add : Code := match Go.Proofs.Tryz.f103.body with | some c => c | none => .skip
noncomputable def a_ref02_Add : An := (.seq .leaf (.seq (.seq .leaf (.cond (.seq .leaf .leaf) .leaf)) (.seq (.seq .leaf (.cond (.seq .leaf .leaf) .leaf)) (.join [(4, .box [.bool, .sl, .bool, .sl])] (.seq .leaf (.cond (.seq (.draw [0, 1, 2, 3, 5, 6, 4, 7, 8]) .leaf) .leaf)) (.seq .leaf (.seq (.seq .leaf (.cond (.seq (.draw [0, 1, 2, 3, 5, 6, 7, 8, 11, 4, 9, 10, 12]) (.seq (.draw [0, 1, 2, 3, 4, 5, 6, 7]) .leaf)) .leaf)) (.seq (.draw [0, 1, 2, 4, 5, 6, 8, 9, 3, 7, 10, 11]) (.seq (.draw [0, 1, 2, 4, 5, 6, 9, 3, 7, 8, 10]) (.seq .leaf (.seq (.draw [0, 1, 3, 4, 5, 6, 2, 7, 8, 9, 10]) .leaf))))))))))
theorem t_ref02_Add : Entry Go.Proofs.Tryz.prog 103 e_ref02_Add false :=
  entry_of (C := c_ref02_Add) (fn := Go.Proofs.Tryz.f103) (c := b_ref02_Add) (an := a_ref02_Add) ⟨t_ref01_GCD, t_ref02_one, t_ref01_Mul, t_ref01_Add, t_ref02_quo, trivial⟩ trivial Go.Proofs.Tryz.func103 rfl rfl (by decide) (fun _ => rfl) (by intro a K D; kernel_rfl)
noncomputable def A_ref04_Add : ArgT (Sl × Sl × Unit) := (ArgT.cons (Ty.leaf .sl) (ArgT.cons (Ty.leaf .sl) ArgT.nil))
noncomputable def R_ref04_Add : Ty Sl := (Ty.leaf .sl)
noncomputable def e_ref04_Add : FSem := mkE A_ref04_Add R_ref04_Add (fun a => F.ref04_Add a.1 a.2.1)
noncomputable def c_ref04_Add : Cfg := { P := Go.Proofs.Tryz.prog, n := 31, tab := [(25, e_ref04_Trim), (105, e_ref04_at), (103, e_ref02_Add)], mutL := [], rtL := [], locL := [27] }
noncomputable def b_ref04_Add : Code := match Go.Proofs.Tryz.f40.body with | some c => c | none => .skip
noncomputable def a_ref04_Add : An := (.seq .leaf (.seq .leaf (.join [(5, .leaf (.sl))] (.seq .leaf (.block (.loop [(5, .leaf (.sl)), (6, .leaf (.int .i64))] (.join [] (.seq .leaf (.cond .leaf .leaf)) (.seq (.block .leaf) .leaf))))) (.seq .leaf .leaf))))
theorem t_ref04_Add : Entry Go.Proofs.Tryz.prog 40 e_ref04_Add false :=
  entry_of (C := c_ref04_Add) (fn := Go.Proofs.Tryz.f40) (c := b_ref04_Add) (an := a_ref04_Add) ⟨t_ref04_Trim, t_ref04_at, t_ref02_Add, trivial⟩ trivial Go.Proofs.Tryz.func40 rfl rfl (by decide) (fun _ => rfl) (by intro a K D; kernel_rfl)
noncomputable def A_ref04_Sub : ArgT (Sl × Sl × Unit) := (ArgT.cons (Ty.leaf .sl) (ArgT.cons (Ty.leaf .sl) ArgT.nil))
noncomputable def R_ref04_Sub : Ty Sl := (Ty.leaf .sl)
noncomputable def e_ref04_Sub : FSem := mkE A_ref04_Sub R_ref04_Sub (fun a => F.ref04_Sub a.1 a.2.1)
noncomputable def c_ref04_Sub : Cfg := { P := Go.Proofs.Tryz.prog, n := 10, tab := [(81, e_ref02_FromInt), (33, e_ref04_Scale), (40, e_ref04_Add)], mutL := [], rtL := [], locL := [] }
noncomputable def b_ref04_Sub : Code := match Go.Proofs.Tryz.f42.body with | some c => c | none => .skip
noncomputable def a_ref04_Sub : An := (.seq .leaf (.seq .leaf .leaf))
theorem t_ref04_Sub : Entry Go.Proofs.Tryz.prog 42 e_ref04_Sub false :=
  entry_of (C := c_ref04_Sub) (fn := Go.Proofs.Tryz.f42) (c := b_ref04_Sub) (an := a_ref04_Sub) ⟨t_ref02_FromInt, t_ref04_Scale, t_ref04_Add, trivial⟩ trivial Go.Proofs.Tryz.func42 rfl rfl (by decide) (fun _ => rfl) (by intro a K D; kernel_rfl)
noncomputable def A_ref04_Same : ArgT (Sl × Sl × Unit) := (ArgT.cons (Ty.leaf .sl) (ArgT.cons (Ty.leaf .sl) ArgT.nil))
noncomputable def R_ref04_Same : Ty Bool := (Ty.leaf .bool)
noncomputable def e_ref04_Same : FSem := mkE A_ref04_Same R_ref04_Same (fun a => F.ref04_Same a.1 a.2.1)
noncomputable def c_ref04_Same : Cfg := { P := Go.Proofs.Tryz.prog, n := 10, tab := [(42, e_ref04_Sub)], mutL := [], rtL := [], locL := [] }
noncomputable def b_ref04_Same : Code := match Go.Proofs.Tryz.f124.body with | some c => c | none => .skip
noncomputable def a_ref04_Same : An := (.seq .leaf (.seq .leaf .leaf))
theorem t_ref04_Same : Entry Go.Proofs.Tryz.prog 124 e_ref04_Same false :=
  entry_of (C := c_ref04_Same) (fn := Go.Proofs.Tryz.f124) (c := b_ref04_Same) (an := a_ref04_Same) ⟨t_ref04_Sub, trivial⟩ trivial Go.Proofs.Tryz.func124 rfl rfl (by decide) (fun _ => rfl) (by intro a K D; kernel_rfl)
noncomputable def A_ref04_Equal : ArgT (Sl × Sl × Unit) := (ArgT.cons (Ty.leaf .sl) (ArgT.cons (Ty.leaf .sl) ArgT.nil))
noncomputable def R_ref04_Equal : Ty Bool := (Ty.leaf .bool)
noncomputable def e_ref04_Equal : FSem := mkE A_ref04_Equal R_ref04_Equal (fun a => F.ref04_Equal a.1 a.2.1)
noncomputable def c_ref04_Equal : Cfg := { P := Go.Proofs.Tryz.prog, n := 15, tab := [(124, e_ref04_Same)], mutL := [], rtL := [], locL := [] }
noncomputable def b_ref04_Equal : Code := match Go.Proofs.Tryz.f70.body with | some c => c | none => .skip
noncomputable def a_ref04_Equal : An := (.seq .leaf (.seq .leaf .leaf))
theorem t_ref04_Equal : Entry Go.Proofs.Tryz.prog 70 e_ref04_Equal false :=
  entry_of (C := c_ref04_Equal) (fn := Go.Proofs.Tryz.f70) (c := b_ref04_Equal) (an := a_ref04_Equal) ⟨t_ref04_Same, trivial⟩ trivial Go.Proofs.Tryz.func70 rfl rfl (by decide) (fun _ => rfl) (by intro a K D; kernel_rfl)
noncomputable def A_ref01_Cmp : ArgT (TInt × TInt × Unit) := (ArgT.cons tyTInt (ArgT.cons tyTInt ArgT.nil))
noncomputable def R_ref01_Cmp : Ty Int := (Ty.leaf (.int .i64))
noncomputable def e_ref01_Cmp : FSem := mkE A_ref01_Cmp R_ref01_Cmp (fun a => F.ref01_Cmp a.1 a.2.1)
noncomputable def c_ref01_Cmp : Cfg := { P := Go.Proofs.Tryz.prog, n := 9, tab := [(150, e_ref01_Sub), (92, e_ref01_Sign)], mutL := [], rtL := [], locL := [2, 3] }
noncomputable def b_ref01_Cmp : Code := match Go.Proofs.Tryz.f95.body with | some c => c | none => .skip
noncomputable def a_ref01_Cmp : An := (.seq .leaf (.seq .leaf .leaf))
theorem t_ref01_Cmp : Entry Go.Proofs.Tryz.prog 95 e_ref01_Cmp false :=
  entry_of (C := c_ref01_Cmp) (fn := Go.Proofs.Tryz.f95) (c := b_ref01_Cmp) (an := a_ref01_Cmp) ⟨t_ref01_Sub, t_ref01_Sign, trivial⟩ trivial Go.Proofs.Tryz.func95 rfl rfl (by decide) (fun _ => rfl) (by intro a K D; kernel_rfl)
noncomputable def A_ref01_Valid : ArgT (TInt × Unit) := (ArgT.cons tyTInt ArgT.nil)
noncomputable def R_ref01_Valid : Ty Bool := (Ty.leaf .bool)
noncomputable def e_ref01_Valid : FSem := mkE A_ref01_Valid R_ref01_Valid (fun a => F.ref01_Valid a.1)
noncomputable def c_ref01_Valid : Cfg := { P := Go.Proofs.Tryz.prog, n := 22, tab := [(136, e_ref01_trim)], mutL := [], rtL := [(3, 1), (7, 1), (12, 1), (16, 1)], locL := [1] }
noncomputable def b_ref01_Valid : Code := match Go.Proofs.Tryz.f94.body with | some c => c | none => .skip
noncomputable def a_ref01_Valid : An := (.seq .leaf (.seq (.draw [0, 1, 4, 5, 6, 2, 3, 7, 8, 9, 10, 11, 12, 13, 14, 15, 16, 17, 18, 19]) .leaf))
theorem t_ref01_Valid : Entry Go.Proofs.Tryz.prog 94 e_ref01_Valid false :=
  entry_of (C := c_ref01_Valid) (fn := Go.Proofs.Tryz.f94) (c := b_ref01_Valid) (an := a_ref01_Valid) ⟨t_ref01_trim, trivial⟩ trivial Go.Proofs.Tryz.func94 rfl rfl (by decide) (fun _ => rfl) (by intro a K D; kernel_rfl)
noncomputable def A_ref02_Valid : ArgT (TRat × Unit) := (ArgT.cons tyTRat ArgT.nil)
noncomputable def R_ref02_Valid : Ty Bool := (Ty.leaf .bool)
noncomputable def e_ref02_Valid : FSem := mkE A_ref02_Valid R_ref02_Valid (fun a => F.ref02_Valid a.1)
noncomputable def c_ref02_Valid : Cfg := { P := Go.Proofs.Tryz.prog, n := 25, tab := [(94, e_ref01_Valid), (92, e_ref01_Sign), (90, e_ref01_GCD), (99, e_ref02_one)], mutL := [], rtL := [(3, 1), (7, 1), (12, 1), (18, 1), (20, 1)], locL := [1] }
noncomputable def b_ref02_Valid : Code := match Go.Proofs.Tryz.f35.body with | some c => c | none => .skip
noncomputable def a_ref02_Valid : An := (.seq .leaf (.seq .leaf .leaf))
theorem t_ref02_Valid : Entry Go.Proofs.Tryz.prog 35 e_ref02_Valid false :=
  entry_of (C := c_ref02_Valid) (fn := Go.Proofs.Tryz.f35) (c := b_ref02_Valid) (an := a_ref02_Valid) ⟨t_ref01_Valid, t_ref01_Sign, t_ref01_GCD, t_ref02_one, trivial⟩ trivial Go.Proofs.Tryz.func35 rfl rfl (by decide) (fun _ => rfl) (by intro a K D; kernel_rfl)
noncomputable def A_ref02_Cmp : ArgT (TRat × TRat × Unit) := (ArgT.cons tyTRat (ArgT.cons tyTRat ArgT.nil))
noncomputable def R_ref02_Cmp : Ty Int := (Ty.leaf (.int .i64))
noncomputable def e_ref02_Cmp : FSem := mkE A_ref02_Cmp R_ref02_Cmp (fun a => F.ref02_Cmp a.1 a.2.1)
noncomputable def c_ref02_Cmp : Cfg := { P := Go.Proofs.Tryz.prog, n := 16, tab := [(91, e_ref01_Mul), (95, e_ref01_Cmp)], mutL := [], rtL := [(5, 2), (7, 3), (10, 3), (12, 2)], locL := [2, 3] }
noncomputable def b_ref02_Cmp : Code := match Go.Proofs.Tryz.f36.body with | some c => c | none => .skip
noncomputable def a_ref02_Cmp : An := (.seq .leaf (.seq (.draw [0, 1, 2, 3, 5, 6, 7, 8, 4, 9, 10, 11]) .leaf))
theorem t_ref02_Cmp : Entry Go.Proofs.Tryz.prog 36 e_ref02_Cmp false :=
  entry_of (C := c_ref02_Cmp) (fn := Go.Proofs.Tryz.f36) (c := b_ref02_Cmp) (an := a_ref02_Cmp) ⟨t_ref01_Mul, t_ref01_Cmp, trivial⟩ trivial Go.Proofs.Tryz.func36 rfl rfl (by decide) (fun _ => rfl) (by intro a K D; kernel_rfl)
noncomputable def A_ref04_Shift : ArgT (Sl × Int × Unit) := (ArgT.cons (Ty.leaf .sl) (ArgT.cons (Ty.leaf (.int .i64)) ArgT.nil))
noncomputable def R_ref04_Shift : Ty Sl := (Ty.leaf .sl)
noncomputable def e_ref04_Shift : FSem := mkE A_ref04_Shift R_ref04_Shift (fun a => F.ref04_Shift a.1 a.2.1)
noncomputable def c_ref04_Shift : Cfg := { P := Go.Proofs.Tryz.prog, n := 20, tab := [(101, e_ref04_zero), (25, e_ref04_Trim)], mutL := [], rtL := [], locL := [14] }
noncomputable def b_ref04_Shift : Code := match Go.Proofs.Tryz.f76.body with | some c => c | none => .skip
noncomputable def a_ref04_Shift : An := (.seq .leaf (.seq .leaf (.seq (.seq .leaf (.block (.loop [(5, .leaf (.sl)), (6, .leaf (.int .i64))] (.seq (.seq .leaf (.cond .leaf .leaf)) (.seq (.block .leaf) .leaf))))) (.seq .leaf .leaf))))
theorem t_ref04_Shift : Entry Go.Proofs.Tryz.prog 76 e_ref04_Shift false :=
  entry_of (C := c_ref04_Shift) (fn := Go.Proofs.Tryz.f76) (c := b_ref04_Shift) (an := a_ref04_Shift) ⟨t_ref04_zero, t_ref04_Trim, trivial⟩ trivial Go.Proofs.Tryz.func76 rfl rfl (by decide) (fun _ => rfl) (by intro a K D; kernel_rfl)
noncomputable def A_ref04_Mul : ArgT (Sl × Sl × Unit) := (ArgT.cons (Ty.leaf .sl) (ArgT.cons (Ty.leaf .sl) ArgT.nil))
noncomputable def R_ref04_Mul : Ty Sl := (Ty.leaf .sl)
noncomputable def e_ref04_Mul : FSem := mkE A_ref04_Mul R_ref04_Mul (fun a => F.ref04_Mul a.1 a.2.1)
noncomputable def c_ref04_Mul : Cfg := { P := Go.Proofs.Tryz.prog, n := 24, tab := [(33, e_ref04_Scale), (76, e_ref04_Shift), (40, e_ref04_Add)], mutL := [], rtL := [], locL := [] }
noncomputable def b_ref04_Mul : Code := match Go.Proofs.Tryz.f21.body with | some c => c | none => .skip
noncomputable def a_ref04_Mul : An := (.seq .leaf (.seq .leaf (.seq (.seq .leaf (.block (.loop [(5, .leaf (.sl)), (6, .leaf (.int .i64))] (.seq (.seq .leaf (.cond .leaf .leaf)) (.seq (.block .leaf) .leaf))))) (.seq .leaf .leaf))))
theorem t_ref04_Mul : Entry Go.Proofs.Tryz.prog 21 e_ref04_Mul false :=
  entry_of (C := c_ref04_Mul) (fn := Go.Proofs.Tryz.f21) (c := b_ref04_Mul) (an := a_ref04_Mul) ⟨t_ref04_Scale, t_ref04_Shift, t_ref04_Add, trivial⟩ trivial Go.Proofs.Tryz.func21 rfl rfl (by decide) (fun _ => rfl) (by intro a K D; kernel_rfl)
noncomputable def A_ref04_Degree : ArgT (Sl × Unit) := (ArgT.cons (Ty.leaf .sl) ArgT.nil)
noncomputable def R_ref04_Degree : Ty Int := (Ty.leaf (.int .i64))
noncomputable def e_ref04_Degree : FSem := mkE A_ref04_Degree R_ref04_Degree (fun a => F.ref04_Degree a.1)
noncomputable def c_ref04_Degree : Cfg := { P := Go.Proofs.Tryz.prog, n := 7, tab := [(25, e_ref04_Trim)], mutL := [], rtL := [], locL := [] }
noncomputable def b_ref04_Degree : Code := match Go.Proofs.Tryz.f23.body with | some c => c | none => .skip
noncomputable def a_ref04_Degree : An := (.seq .leaf (.seq .leaf .leaf))
theorem t_ref04_Degree : Entry Go.Proofs.Tryz.prog 23 e_ref04_Degree false :=
  entry_of (C := c_ref04_Degree) (fn := Go.Proofs.Tryz.f23) (c := b_ref04_Degree) (an := a_ref04_Degree) ⟨t_ref04_Trim, trivial⟩ trivial Go.Proofs.Tryz.func23 rfl rfl (by decide) (fun _ => rfl) (by intro a K D; kernel_rfl)
noncomputable def A_ref02_Inv : ArgT (TRat × Unit) := (ArgT.cons tyTRat ArgT.nil)
noncomputable def R_ref02_Inv : Ty TRat := tyTRat
noncomputable def e_ref02_Inv : FSem := mkE A_ref02_Inv R_ref02_Inv (fun a => F.ref02_Inv a.1)
noncomputable def c_ref02_Inv : Cfg := { P := Go.Proofs.Tryz.prog, n := 18, tab := [(93, e_ref01_Neg)], mutL := [], rtL := [(3, 1), (4, 1), (6, 1), (9, 1), (13, 1), (15, 1)], locL := [1, 2] }
noncomputable def b_ref02_Inv : Code := match Go.Proofs.Tryz.f166.body with | some c => c | none => .skip
noncomputable def a_ref02_Inv : An := (.seq .leaf (.seq (.seq .leaf (.cond (.seq (.draw [0, 1, 3, 4, 2, 5, 6, 7]) .leaf) .leaf)) (.seq .leaf .leaf)))
theorem t_ref02_Inv : Entry Go.Proofs.Tryz.prog 166 e_ref02_Inv false :=
  entry_of (C := c_ref02_Inv) (fn := Go.Proofs.Tryz.f166) (c := b_ref02_Inv) (an := a_ref02_Inv) ⟨t_ref01_Neg, trivial⟩ trivial Go.Proofs.Tryz.func166 rfl rfl (by decide) (fun _ => rfl) (by intro a K D; kernel_rfl)
end Den
end

section
set_option maxRecDepth 100000
set_option linter.unusedVariables false
namespace Den
open Go
noncomputable def A_ref02_Div : ArgT (TRat × TRat × Unit) := (ArgT.cons tyTRat (ArgT.cons tyTRat ArgT.nil))
noncomputable def R_ref02_Div : Ty (TRat × Int) := (Ty.tup (.cons tyTRat (.cons (Ty.leaf (.int .i64)) .nil)) (fun x => (x.1, x.2, ())) (fun y => (y.1, y.2.1)) (fun _ => rfl) (fun _ => rfl))
noncomputable def e_ref02_Div : FSem := mkE A_ref02_Div R_ref02_Div (fun a => F.ref02_Div a.1 a.2.1)
noncomputable def c_ref02_Div : Cfg := { P := Go.Proofs.Tryz.prog, n := 16, tab := [(166, e_ref02_Inv), (80, e_ref02_Mul)], mutL := [], rtL := [(6, 3), (7, 3)], locL := [2, 3, 4] }
noncomputable def b_ref02_Div : Code := match Go.Proofs.Tryz.f133.body with | some c => c | none => .skip
noncomputable def a_ref02_Div : An := (.seq .leaf (.seq (.seq .leaf (.cond (.seq .leaf .leaf) .leaf)) (.seq (.draw [0, 1, 2, 3, 4, 5]) .leaf)))
theorem t_ref02_Div : Entry Go.Proofs.Tryz.prog 133 e_ref02_Div false :=
  entry_of (C := c_ref02_Div) (fn := Go.Proofs.Tryz.f133) (c := b_ref02_Div) (an := a_ref02_Div) ⟨t_ref02_Inv, t_ref02_Mul, trivial⟩ trivial Go.Proofs.Tryz.func133 rfl rfl (by decide) (fun _ => rfl) (by intro a K D; kernel_rfl)
noncomputable def A_ref04_quotient : ArgT (TRat × TRat × Unit) := (ArgT.cons tyTRat (ArgT.cons tyTRat ArgT.nil))
noncomputable def R_ref04_quotient : Ty TRat := tyTRat
noncomputable def e_ref04_quotient : FSem := mkE A_ref04_quotient R_ref04_quotient (fun a => F.ref04_quotient a.1 a.2.1)
noncomputable def c_ref04_quotient : Cfg := { P := Go.Proofs.Tryz.prog, n := 14, tab := [(133, e_ref02_Div)], mutL := [], rtL := [], locL := [2, 3, 4, 5] }
noncomputable def b_ref04_quotient : Code := match Go.Proofs.Tryz.f78.body with | some c => c | none => .skip
noncomputable def a_ref04_quotient : An := (.seq .leaf (.seq .leaf (.seq .leaf .leaf)))
theorem t_ref04_quotient : Entry Go.Proofs.Tryz.prog 78 e_ref04_quotient false :=
  entry_of (C := c_ref04_quotient) (fn := Go.Proofs.Tryz.f78) (c := b_ref04_quotient) (an := a_ref04_quotient) ⟨t_ref02_Div, trivial⟩ trivial Go.Proofs.Tryz.func78 rfl rfl (by decide) (fun _ => rfl) (by intro a K D; kernel_rfl)
noncomputable def A_ref04_DivMod : ArgT (Sl × Sl × Unit) := (ArgT.cons (Ty.leaf .sl) (ArgT.cons (Ty.leaf .sl) ArgT.nil))
noncomputable def R_ref04_DivMod : Ty (Sl × Sl) := (Ty.tup (.cons (Ty.leaf .sl) (.cons (Ty.leaf .sl) .nil)) (fun x => (x.1, x.2, ())) (fun y => (y.1, y.2.1)) (fun _ => rfl) (fun _ => rfl))
noncomputable def e_ref04_DivMod : FSem := mkE A_ref04_DivMod R_ref04_DivMod (fun a => F.ref04_DivMod a.1 a.2.1)
noncomputable def c_ref04_DivMod : Cfg := { P := Go.Proofs.Tryz.prog, n := 50, tab := [(25, e_ref04_Trim), (78, e_ref04_quotient), (76, e_ref04_Shift), (40, e_ref04_Add), (21, e_ref04_Mul), (42, e_ref04_Sub)], mutL := [], rtL := [], locL := [] }
noncomputable def b_ref04_DivMod : Code := match Go.Proofs.Tryz.f24.body with | some c => c | none => .skip
noncomputable def a_ref04_DivMod : An := (.seq .leaf (.seq .leaf (.seq .leaf (.seq .leaf (.seq (.block (.loop [(6, .leaf (.sl)), (7, .leaf (.sl))] (.seq (.seq .leaf (.cond .leaf .leaf)) (.block (.seq .leaf (.seq (.draw [0, 1, 2, 3, 4, 5, 6, 7, 8, 9, 10, 11, 14, 12, 13, 15, 16]) (.seq .leaf .leaf))))))) (.seq .leaf .leaf))))))
theorem t_ref04_DivMod : Entry Go.Proofs.Tryz.prog 24 e_ref04_DivMod false :=
  entry_of (C := c_ref04_DivMod) (fn := Go.Proofs.Tryz.f24) (c := b_ref04_DivMod) (an := a_ref04_DivMod) ⟨t_ref04_Trim, t_ref04_quotient, t_ref04_Shift, t_ref04_Add, t_ref04_Mul, t_ref04_Sub, trivial⟩ trivial Go.Proofs.Tryz.func24 rfl rfl (by decide) (fun _ => rfl) (by intro a K D; kernel_rfl)
noncomputable def A_ref04_Derivative : ArgT (Sl × Unit) := (ArgT.cons (Ty.leaf .sl) ArgT.nil)
noncomputable def R_ref04_Derivative : Ty Sl := (Ty.leaf .sl)
noncomputable def e_ref04_Derivative : FSem := mkE A_ref04_Derivative R_ref04_Derivative (fun a => F.ref04_Derivative a.1)
noncomputable def c_ref04_Derivative : Cfg := { P := Go.Proofs.Tryz.prog, n := 23, tab := [(81, e_ref02_FromInt), (80, e_ref02_Mul), (25, e_ref04_Trim)], mutL := [], rtL := [], locL := [19] }
noncomputable def b_ref04_Derivative : Code := match Go.Proofs.Tryz.f27.body with | some c => c | none => .skip
noncomputable def a_ref04_Derivative : An := (.seq .leaf (.seq .leaf (.seq (.seq .leaf (.block (.loop [(3, .leaf (.sl)), (4, .leaf (.int .i64))] (.seq (.seq .leaf (.cond .leaf .leaf)) (.seq (.block (.draw [0, 1, 2, 3, 4, 5, 6, 7, 8, 9, 10])) .leaf))))) (.seq .leaf .leaf))))
theorem t_ref04_Derivative : Entry Go.Proofs.Tryz.prog 27 e_ref04_Derivative false :=
  entry_of (C := c_ref04_Derivative) (fn := Go.Proofs.Tryz.f27) (c := b_ref04_Derivative) (an := a_ref04_Derivative) ⟨t_ref02_FromInt, t_ref02_Mul, t_ref04_Trim, trivial⟩ trivial Go.Proofs.Tryz.func27 rfl rfl (by decide) (fun _ => rfl) (by intro a K D; kernel_rfl)
noncomputable def A_ref04_Monic : ArgT (Sl × Unit) := (ArgT.cons (Ty.leaf .sl) ArgT.nil)
noncomputable def R_ref04_Monic : Ty Sl := (Ty.leaf .sl)
noncomputable def e_ref04_Monic : FSem := mkE A_ref04_Monic R_ref04_Monic (fun a => F.ref04_Monic a.1)
noncomputable def c_ref04_Monic : Cfg := { P := Go.Proofs.Tryz.prog, n := 19, tab := [(25, e_ref04_Trim), (81, e_ref02_FromInt), (78, e_ref04_quotient), (33, e_ref04_Scale)], mutL := [], rtL := [], locL := [] }
noncomputable def b_ref04_Monic : Code := match Go.Proofs.Tryz.f100.body with | some c => c | none => .skip
noncomputable def a_ref04_Monic : An := (.seq .leaf (.seq .leaf (.seq (.seq .leaf (.cond (.seq .leaf .leaf) .leaf)) (.seq (.draw [0, 2, 3, 4, 5, 6, 7, 1, 8, 9, 10]) .leaf))))
theorem t_ref04_Monic : Entry Go.Proofs.Tryz.prog 100 e_ref04_Monic false :=
  entry_of (C := c_ref04_Monic) (fn := Go.Proofs.Tryz.f100) (c := b_ref04_Monic) (an := a_ref04_Monic) ⟨t_ref04_Trim, t_ref02_FromInt, t_ref04_quotient, t_ref04_Scale, trivial⟩ trivial Go.Proofs.Tryz.func100 rfl rfl (by decide) (fun _ => rfl) (by intro a K D; kernel_rfl)
noncomputable def A_ref02_Neg : ArgT (TRat × Unit) := (ArgT.cons tyTRat ArgT.nil)
noncomputable def R_ref02_Neg : Ty TRat := tyTRat
noncomputable def e_ref02_Neg : FSem := mkE A_ref02_Neg R_ref02_Neg (fun a => F.ref02_Neg a.1)
noncomputable def c_ref02_Neg : Cfg := { P := Go.Proofs.Tryz.prog, n := 9, tab := [(93, e_ref01_Neg)], mutL := [], rtL := [(3, 1), (6, 1)], locL := [1, 2] }
noncomputable def b_ref02_Neg : Code := match Go.Proofs.Tryz.f117.body with | some c => c | none => .skip
noncomputable def a_ref02_Neg : An := (.seq .leaf (.seq (.draw [0, 1, 3, 4, 2, 5, 6]) .leaf))
theorem t_ref02_Neg : Entry Go.Proofs.Tryz.prog 117 e_ref02_Neg false :=
  entry_of (C := c_ref02_Neg) (fn := Go.Proofs.Tryz.f117) (c := b_ref02_Neg) (an := a_ref02_Neg) ⟨t_ref01_Neg, trivial⟩ trivial Go.Proofs.Tryz.func117 rfl rfl (by decide) (fun _ => rfl) (by intro a K D; kernel_rfl)
noncomputable def A_ref04_abs : ArgT (TRat × Unit) := (ArgT.cons tyTRat ArgT.nil)
noncomputable def R_ref04_abs : Ty TRat := tyTRat
noncomputable def e_ref04_abs : FSem := mkE A_ref04_abs R_ref04_abs (fun a => F.ref04_abs a.1)
noncomputable def c_ref04_abs : Cfg := { P := Go.Proofs.Tryz.prog, n := 9, tab := [(32, e_ref02_Sign), (117, e_ref02_Neg)], mutL := [], rtL := [], locL := [1, 2] }
noncomputable def b_ref04_abs : Code := match Go.Proofs.Tryz.f102.body with | some c => c | none => .skip
noncomputable def a_ref04_abs : An := (.seq .leaf (.seq (.seq .leaf (.cond (.seq .leaf .leaf) .leaf)) (.seq .leaf .leaf)))
theorem t_ref04_abs : Entry Go.Proofs.Tryz.prog 102 e_ref04_abs false :=
  entry_of (C := c_ref04_abs) (fn := Go.Proofs.Tryz.f102) (c := b_ref04_abs) (an := a_ref04_abs) ⟨t_ref02_Sign, t_ref02_Neg, trivial⟩ trivial Go.Proofs.Tryz.func102 rfl rfl (by decide) (fun _ => rfl) (by intro a K D; kernel_rfl)
noncomputable def A_ref04_Bound : ArgT (Sl × Unit) := (ArgT.cons (Ty.leaf .sl) ArgT.nil)
noncomputable def R_ref04_Bound : Ty TRat := tyTRat
noncomputable def e_ref04_Bound : FSem := mkE A_ref04_Bound R_ref04_Bound (fun a => F.ref04_Bound a.1)
noncomputable def c_ref04_Bound : Cfg := { P := Go.Proofs.Tryz.prog, n := 35, tab := [(100, e_ref04_Monic), (101, e_ref04_zero), (102, e_ref04_abs), (36, e_ref02_Cmp), (81, e_ref02_FromInt), (103, e_ref02_Add)], mutL := [], rtL := [], locL := [2, 3] }
noncomputable def b_ref04_Bound : Code := match Go.Proofs.Tryz.f37.body with | some c => c | none => .skip
noncomputable def a_ref04_Bound : An := (.seq .leaf (.seq .leaf (.seq (.seq .leaf (.cond (.seq .leaf .leaf) .leaf)) (.seq .leaf (.seq (.seq .leaf (.block (.loop [(3, .box [.bool, .sl, .bool, .sl]), (4, .leaf (.int .i64))] (.seq (.seq .leaf (.cond .leaf .leaf)) (.join [(3, .box [.bool, .sl, .bool, .sl])] (.block (.seq (.draw [0, 1, 2, 3, 5, 4, 6, 7]) (.cond .leaf .leaf))) .leaf))))) (.seq (.draw [0, 1, 2, 3]) .leaf))))))
theorem t_ref04_Bound : Entry Go.Proofs.Tryz.prog 37 e_ref04_Bound false :=
  entry_of (C := c_ref04_Bound) (fn := Go.Proofs.Tryz.f37) (c := b_ref04_Bound) (an := a_ref04_Bound) ⟨t_ref04_Monic, t_ref04_zero, t_ref04_abs, t_ref02_Cmp, t_ref02_FromInt, t_ref02_Add, trivial⟩ trivial Go.Proofs.Tryz.func37 rfl rfl (by decide) (fun _ => rfl) (by intro a K D; kernel_rfl)
noncomputable def A_polynomial_Eval : ArgT (Sl × TRat × Unit) := (ArgT.cons (Ty.leaf .sl) (ArgT.cons tyTRat ArgT.nil))
noncomputable def R_polynomial_Eval : Ty TRat := tyTRat
noncomputable def e_polynomial_Eval : FSem := mkE A_polynomial_Eval R_polynomial_Eval (fun a => F.polynomial_Eval a.1 a.2.1)
noncomputable def c_polynomial_Eval : Cfg := { P := Go.Proofs.Tryz.prog, n := 19, tab := [(79, e_rational_FromInt), (106, e_slices_Backward_api_Rat_api_Rat), (75, e_rational_Mul), (74, e_rational_Add)], mutL := [], rtL := [], locL := [3, 4, 5, 7], backs := [(156, (.agg [.bool, .sl, .bool, .sl]))] }
noncomputable def b_polynomial_Eval : Code := match Go.Proofs.Tryz.f46.body with | some c => c | none => .skip
noncomputable def a_polynomial_Eval : An := (.seq .leaf (.seq .leaf (.seq (.seq .leaf (.block (.back [(5, .box [.bool, .sl, .bool, .sl])] .leaf (.block (.draw [0, 1, 3, 2, 4, 5]))))) (.seq .leaf .leaf))))
theorem t_polynomial_Eval : Entry Go.Proofs.Tryz.prog 46 e_polynomial_Eval false :=
  entry_of (C := c_polynomial_Eval) (fn := Go.Proofs.Tryz.f46) (c := b_polynomial_Eval) (an := a_polynomial_Eval) ⟨t_rational_FromInt, t_slices_Backward_api_Rat_api_Rat, t_rational_Mul, t_rational_Add, trivial⟩ ⟨bk_aggboolslboolsl, trivial⟩ Go.Proofs.Tryz.func46 rfl rfl (by decide) (fun _ => rfl) (by intro a K D; kernel_rfl)
noncomputable def A_ref04_Eval : ArgT (Sl × TRat × Unit) := (ArgT.cons (Ty.leaf .sl) (ArgT.cons tyTRat ArgT.nil))
noncomputable def R_ref04_Eval : Ty TRat := tyTRat
noncomputable def e_ref04_Eval : FSem := mkE A_ref04_Eval R_ref04_Eval (fun a => F.ref04_Eval a.1 a.2.1)
noncomputable def c_ref04_Eval : Cfg := { P := Go.Proofs.Tryz.prog, n := 24, tab := [(101, e_ref04_zero), (80, e_ref02_Mul), (103, e_ref02_Add)], mutL := [], rtL := [], locL := [3, 4, 5] }
noncomputable def b_ref04_Eval : Code := match Go.Proofs.Tryz.f48.body with | some c => c | none => .skip
noncomputable def a_ref04_Eval : An := (.seq .leaf (.seq .leaf (.seq (.seq .leaf (.block (.loop [(5, .box [.bool, .sl, .bool, .sl]), (6, .leaf (.int .i64))] (.seq (.seq .leaf (.cond .leaf .leaf)) (.seq (.block (.draw [0, 1, 3, 4, 5, 6, 2, 7, 8])) .leaf))))) (.seq .leaf .leaf))))
theorem t_ref04_Eval : Entry Go.Proofs.Tryz.prog 48 e_ref04_Eval false :=
  entry_of (C := c_ref04_Eval) (fn := Go.Proofs.Tryz.f48) (c := b_ref04_Eval) (an := a_ref04_Eval) ⟨t_ref04_zero, t_ref02_Mul, t_ref02_Add, trivial⟩ trivial Go.Proofs.Tryz.func48 rfl rfl (by decide) (fun _ => rfl) (by intro a K D; kernel_rfl)
noncomputable def A_sturm_Changes : ArgT (Sl × TRat × Unit) := (ArgT.cons (Ty.leaf .sl) (ArgT.cons tyTRat ArgT.nil))
noncomputable def R_sturm_Changes : Ty Int := (Ty.leaf (.int .i64))
noncomputable def e_sturm_Changes : FSem := mkE A_sturm_Changes R_sturm_Changes (fun a => F.sturm_Changes a.1 a.2.1)
noncomputable def c_sturm_Changes : Cfg := { P := Go.Proofs.Tryz.prog, n := 31, tab := [(46, e_polynomial_Eval), (96, e_rational_Sign)], mutL := [], rtL := [], locL := [3] }
noncomputable def b_sturm_Changes : Code := match Go.Proofs.Tryz.f52.body with | some c => c | none => .skip
noncomputable def a_sturm_Changes : An := (.seq .leaf (.seq .leaf (.seq (.seq .leaf (.block (.loop [(5, .leaf (.int .i64)), (6, .leaf (.int .i64)), (12, .leaf (.int .i64))] (.seq .leaf (.seq (.cond .leaf .leaf) (.join [(5, .leaf (.int .i64)), (6, .leaf (.int .i64))] (.block (.seq .leaf (.seq .leaf (.seq (.seq .leaf (.cond .leaf .leaf)) (.seq (.seq .leaf (.cond .leaf .leaf)) .leaf))))) .leaf)))))) (.seq .leaf .leaf))))
theorem t_sturm_Changes : Entry Go.Proofs.Tryz.prog 52 e_sturm_Changes false :=
  entry_of (C := c_sturm_Changes) (fn := Go.Proofs.Tryz.f52) (c := b_sturm_Changes) (an := a_sturm_Changes) ⟨t_polynomial_Eval, t_rational_Sign, trivial⟩ trivial Go.Proofs.Tryz.func52 rfl rfl (by decide) (fun _ => rfl) (by intro a K D; kernel_rfl)
noncomputable def A_ref05_Changes : ArgT (Sl × TRat × Unit) := (ArgT.cons (Ty.leaf .sl) (ArgT.cons tyTRat ArgT.nil))
noncomputable def R_ref05_Changes : Ty Int := (Ty.leaf (.int .i64))
noncomputable def e_ref05_Changes : FSem := mkE A_ref05_Changes R_ref05_Changes (fun a => F.ref05_Changes a.1 a.2.1)
noncomputable def c_ref05_Changes : Cfg := { P := Go.Proofs.Tryz.prog, n := 32, tab := [(48, e_ref04_Eval), (32, e_ref02_Sign)], mutL := [], rtL := [], locL := [3] }
noncomputable def b_ref05_Changes : Code := match Go.Proofs.Tryz.f53.body with | some c => c | none => .skip
noncomputable def a_ref05_Changes : An := (.seq .leaf (.seq .leaf (.seq (.seq .leaf (.block (.loop [(5, .leaf (.int .i64)), (6, .leaf (.int .i64)), (7, .leaf (.int .i64))] (.seq (.seq .leaf (.cond .leaf .leaf)) (.join [(5, .leaf (.int .i64)), (6, .leaf (.int .i64))] (.block (.seq (.draw [0, 1, 2, 3, 4, 5, 6, 7]) (.seq .leaf (.cond (.seq (.seq .leaf (.cond .leaf .leaf)) .leaf) .leaf)))) .leaf))))) (.seq .leaf .leaf))))
theorem t_ref05_Changes : Entry Go.Proofs.Tryz.prog 53 e_ref05_Changes false :=
  entry_of (C := c_ref05_Changes) (fn := Go.Proofs.Tryz.f53) (c := b_ref05_Changes) (an := a_ref05_Changes) ⟨t_ref04_Eval, t_ref02_Sign, trivial⟩ trivial Go.Proofs.Tryz.func53 rfl rfl (by decide) (fun _ => rfl) (by intro a K D; kernel_rfl)
noncomputable def A_law05_poly : ArgT (Sl × Unit) := (ArgT.cons (Ty.leaf .sl) ArgT.nil)
noncomputable def R_law05_poly : Ty Sl := (Ty.leaf .sl)
noncomputable def e_law05_poly : FSem := mkE A_law05_poly R_law05_poly (fun a => F.law05_poly a.1)
noncomputable def c_law05_poly : Cfg := { P := Go.Proofs.Tryz.prog, n := 19, tab := [(81, e_ref02_FromInt)], mutL := [], rtL := [], locL := [15] }
noncomputable def b_law05_poly : Code := match Go.Proofs.Tryz.f63.body with | some c => c | none => .skip
noncomputable def a_law05_poly : An := (.seq .leaf (.seq .leaf (.seq (.seq .leaf (.block (.loop [(3, .leaf (.sl)), (8, .leaf (.int .i64))] (.seq .leaf (.seq (.cond .leaf .leaf) (.seq (.block (.seq .leaf .leaf)) .leaf)))))) (.seq .leaf .leaf))))
theorem t_law05_poly : Entry Go.Proofs.Tryz.prog 63 e_law05_poly false :=
  entry_of (C := c_law05_poly) (fn := Go.Proofs.Tryz.f63) (c := b_law05_poly) (an := a_law05_poly) ⟨t_ref02_FromInt, trivial⟩ trivial Go.Proofs.Tryz.func63 rfl rfl (by decide) (fun _ => rfl) (by intro a K D; kernel_rfl)
noncomputable def A_sturm_Chain : ArgT (Sl × Unit) := (ArgT.cons (Ty.leaf .sl) ArgT.nil)
noncomputable def R_sturm_Chain : Ty Sl := (Ty.leaf .sl)
noncomputable def e_sturm_Chain : FSem := mkE A_sturm_Chain R_sturm_Chain (fun a => F.sturm_Chain a.1)
noncomputable def c_sturm_Chain : Cfg := { P := Go.Proofs.Tryz.prog, n := 42, tab := [(39, e_polynomial_Degree), (69, e_polynomial_Squarefree), (26, e_polynomial_Derivative), (22, e_polynomial_DivMod), (79, e_rational_FromInt), (43, e_polynomial_Scale)], mutL := [], rtL := [], locL := [40] }
noncomputable def b_sturm_Chain : Code := match Go.Proofs.Tryz.f107.body with | some c => c | none => .skip
noncomputable def a_sturm_Chain : An := (.seq .leaf (.seq (.seq .leaf (.cond (.seq .leaf .leaf) .leaf)) (.seq .leaf (.seq .leaf (.seq .leaf (.block (.loop [(3, .leaf (.sl)), (4, .leaf (.sl)), (5, .leaf (.sl))] (.block (.seq .leaf (.join [] (.seq .leaf (.cond (.seq .leaf .leaf) .leaf)) (.seq .leaf .leaf)))))))))))
theorem t_sturm_Chain : Entry Go.Proofs.Tryz.prog 107 e_sturm_Chain false :=
  entry_of (C := c_sturm_Chain) (fn := Go.Proofs.Tryz.f107) (c := b_sturm_Chain) (an := a_sturm_Chain) ⟨t_polynomial_Degree, t_polynomial_Squarefree, t_polynomial_Derivative, t_polynomial_DivMod, t_rational_FromInt, t_polynomial_Scale, trivial⟩ trivial Go.Proofs.Tryz.func107 rfl rfl (by decide) (fun _ => rfl) (by intro a K D; kernel_rfl)
noncomputable def A_ref05_Same : ArgT (Sl × Sl × Unit) := (ArgT.cons (Ty.leaf .sl) (ArgT.cons (Ty.leaf .sl) ArgT.nil))
noncomputable def R_ref05_Same : Ty Bool := (Ty.leaf .bool)
noncomputable def e_ref05_Same : FSem := mkE A_ref05_Same R_ref05_Same (fun a => F.ref05_Same a.1 a.2.1)
noncomputable def c_ref05_Same : Cfg := { P := Go.Proofs.Tryz.prog, n := 27, tab := [(70, e_ref04_Equal)], mutL := [], rtL := [], locL := [] }
noncomputable def b_ref05_Same : Code := match Go.Proofs.Tryz.f109.body with | some c => c | none => .skip
noncomputable def a_ref05_Same : An := (.seq .leaf (.seq (.seq .leaf (.cond (.seq .leaf .leaf) .leaf)) (.seq (.seq .leaf (.block (.loop [(5, .leaf (.int .i64))] (.seq (.seq .leaf (.cond .leaf .leaf)) (.seq (.block (.seq (.draw [0, 1, 2, 3, 4, 5, 6, 7, 8, 9]) (.cond (.seq .leaf .leaf) .leaf))) .leaf))))) (.seq .leaf .leaf))))
theorem t_ref05_Same : Entry Go.Proofs.Tryz.prog 109 e_ref05_Same false :=
  entry_of (C := c_ref05_Same) (fn := Go.Proofs.Tryz.f109) (c := b_ref05_Same) (an := a_ref05_Same) ⟨t_ref04_Equal, trivial⟩ trivial Go.Proofs.Tryz.func109 rfl rfl (by decide) (fun _ => rfl) (by intro a K D; kernel_rfl)
noncomputable def A_law05_awake_1 : ArgT (Int × (Option Addr) × Unit) := (ArgT.cons (Ty.leaf (.int .i64)) (ArgT.cons (Ty.leaf .ptr) ArgT.nil))
noncomputable def R_law05_awake_1 : Ty Int := (Ty.leaf (.int .i64))
noncomputable def e_law05_awake_1 : FSem := mkE A_law05_awake_1 R_law05_awake_1 (fun a => F.law05_awake_1 a.1 a.2.1)
noncomputable def c_law05_awake_1 : Cfg := { P := Go.Proofs.Tryz.prog, n := 8, tab := [(81, e_ref02_FromInt), (52, e_sturm_Changes)], mutL := [], rtL := [], locL := [] }
noncomputable def b_law05_awake_1 : Code := match Go.Proofs.Tryz.f108.body with | some c => c | none => .skip
noncomputable def a_law05_awake_1 : An := (.seq .leaf (.seq (.draw [0, 1, 2, 3, 4]) .leaf))
theorem t_law05_awake_1 : Entry Go.Proofs.Tryz.prog 108 e_law05_awake_1 false :=
  entry_of (C := c_law05_awake_1) (fn := Go.Proofs.Tryz.f108) (c := b_law05_awake_1) (an := a_law05_awake_1) ⟨t_ref02_FromInt, t_sturm_Changes, trivial⟩ trivial Go.Proofs.Tryz.func108 rfl rfl (by decide) (fun _ => rfl) (by intro a K D; kernel_rfl)
noncomputable def A_sturm_around : ArgT (Sl × Unit) := (ArgT.cons (Ty.leaf .sl) ArgT.nil)
noncomputable def R_sturm_around : Ty TInterval := tyTInterval
noncomputable def e_sturm_around : FSem := mkE A_sturm_around R_sturm_around (fun a => F.sturm_around a.1)
noncomputable def c_sturm_around : Cfg := { P := Go.Proofs.Tryz.prog, n := 10, tab := [(34, e_polynomial_Bound), (97, e_rational_Neg)], mutL := [], rtL := [], locL := [2, 3] }
noncomputable def b_sturm_around : Code := match Go.Proofs.Tryz.f113.body with | some c => c | none => .skip
noncomputable def a_sturm_around : An := (.seq .leaf (.seq .leaf (.seq (.draw [0, 2, 1, 3, 4]) .leaf)))
theorem t_sturm_around : Entry Go.Proofs.Tryz.prog 113 e_sturm_around false :=
  entry_of (C := c_sturm_around) (fn := Go.Proofs.Tryz.f113) (c := b_sturm_around) (an := a_sturm_around) ⟨t_polynomial_Bound, t_rational_Neg, trivial⟩ trivial Go.Proofs.Tryz.func113 rfl rfl (by decide) (fun _ => rfl) (by intro a K D; kernel_rfl)
noncomputable def A_sturm_between : ArgT (Sl × TRat × TRat × Unit) := (ArgT.cons (Ty.leaf .sl) (ArgT.cons tyTRat (ArgT.cons tyTRat ArgT.nil)))
noncomputable def R_sturm_between : Ty Int := (Ty.leaf (.int .i64))
noncomputable def e_sturm_between : FSem := mkE A_sturm_between R_sturm_between (fun a => F.sturm_between a.1 a.2.1 a.2.2.1)
noncomputable def c_sturm_between : Cfg := { P := Go.Proofs.Tryz.prog, n := 14, tab := [(52, e_sturm_Changes)], mutL := [], rtL := [], locL := [4, 5] }
noncomputable def b_sturm_between : Code := match Go.Proofs.Tryz.f111.body with | some c => c | none => .skip
noncomputable def a_sturm_between : An := (.seq .leaf (.seq (.draw [0, 1, 3, 4, 2, 5, 6, 7]) .leaf))
theorem t_sturm_between : Entry Go.Proofs.Tryz.prog 111 e_sturm_between false :=
  entry_of (C := c_sturm_between) (fn := Go.Proofs.Tryz.f111) (c := b_sturm_between) (an := a_sturm_between) ⟨t_sturm_Changes, trivial⟩ trivial Go.Proofs.Tryz.func111 rfl rfl (by decide) (fun _ => rfl) (by intro a K D; kernel_rfl)
noncomputable def A_sturm_Count : ArgT (Sl × TRat × TRat × Unit) := (ArgT.cons (Ty.leaf .sl) (ArgT.cons tyTRat (ArgT.cons tyTRat ArgT.nil)))
noncomputable def R_sturm_Count : Ty Int := (Ty.leaf (.int .i64))
noncomputable def e_sturm_Count : FSem := mkE A_sturm_Count R_sturm_Count (fun a => F.sturm_Count a.1 a.2.1 a.2.2.1)
noncomputable def c_sturm_Count : Cfg := { P := Go.Proofs.Tryz.prog, n := 16, tab := [(98, e_rational_Cmp), (107, e_sturm_Chain), (111, e_sturm_between)], mutL := [], rtL := [], locL := [4, 5] }
noncomputable def b_sturm_Count : Code := match Go.Proofs.Tryz.f54.body with | some c => c | none => .skip
noncomputable def a_sturm_Count : An := (.seq .leaf (.seq (.seq .leaf (.cond (.seq .leaf .leaf) .leaf)) (.seq (.draw [0, 2, 3, 1, 4, 5]) .leaf)))
theorem t_sturm_Count : Entry Go.Proofs.Tryz.prog 54 e_sturm_Count false :=
  entry_of (C := c_sturm_Count) (fn := Go.Proofs.Tryz.f54) (c := b_sturm_Count) (an := a_sturm_Count) ⟨t_rational_Cmp, t_sturm_Chain, t_sturm_between, trivial⟩ trivial Go.Proofs.Tryz.func54 rfl rfl (by decide) (fun _ => rfl) (by intro a K D; kernel_rfl)
noncomputable def A_sturm_Total : ArgT (Sl × Unit) := (ArgT.cons (Ty.leaf .sl) ArgT.nil)
noncomputable def R_sturm_Total : Ty Int := (Ty.leaf (.int .i64))
noncomputable def e_sturm_Total : FSem := mkE A_sturm_Total R_sturm_Total (fun a => F.sturm_Total a.1)
noncomputable def c_sturm_Total : Cfg := { P := Go.Proofs.Tryz.prog, n := 12, tab := [(113, e_sturm_around), (54, e_sturm_Count)], mutL := [], rtL := [(7, 3), (9, 3)], locL := [3] }
noncomputable def b_sturm_Total : Code := match Go.Proofs.Tryz.f57.body with | some c => c | none => .skip
noncomputable def a_sturm_Total : An := (.seq .leaf (.seq .leaf (.seq .leaf .leaf)))
theorem t_sturm_Total : Entry Go.Proofs.Tryz.prog 57 e_sturm_Total false :=
  entry_of (C := c_sturm_Total) (fn := Go.Proofs.Tryz.f57) (c := b_sturm_Total) (an := a_sturm_Total) ⟨t_sturm_around, t_sturm_Count, trivial⟩ trivial Go.Proofs.Tryz.func57 rfl rfl (by decide) (fun _ => rfl) (by intro a K D; kernel_rfl)
noncomputable def A_law05_awake : ArgT (Unit) := ArgT.nil
noncomputable def R_law05_awake : Ty Bool := (Ty.leaf .bool)
noncomputable def e_law05_awake : FSem := mkE A_law05_awake R_law05_awake (fun a => F.law05_awake )
noncomputable def c_law05_awake : Cfg := { P := Go.Proofs.Tryz.prog, n := 32, tab := [(63, e_law05_poly), (107, e_sturm_Chain), (109, e_ref05_Same), (108, e_law05_awake_1), (57, e_sturm_Total)], mutL := [], rtL := [], locL := [] }
noncomputable def b_law05_awake : Code := match Go.Proofs.Tryz.f49.body with | some c => c | none => .skip
noncomputable def a_law05_awake : An := (.seq .leaf (.seq .leaf (.seq .leaf (.seq (.draw [0, 1, 2, 3, 4, 5, 6, 7, 8, 9, 10, 11, 12, 13, 14, 15, 16, 17, 18, 19, 20, 21, 22, 23, 24, 25]) .leaf))))
theorem t_law05_awake : Entry Go.Proofs.Tryz.prog 49 e_law05_awake false :=
  entry_of (C := c_law05_awake) (fn := Go.Proofs.Tryz.f49) (c := b_law05_awake) (an := a_law05_awake) ⟨t_law05_poly, t_sturm_Chain, t_ref05_Same, t_law05_awake_1, t_sturm_Total, trivial⟩ trivial Go.Proofs.Tryz.func49 rfl rfl (by decide) (fun _ => rfl) (by intro a K D; kernel_rfl)
end Den
end

section
set_option maxRecDepth 100000
set_option linter.unusedVariables false
namespace Den
open Go
noncomputable def A_ref05_Short : ArgT (TRat × Unit) := (ArgT.cons tyTRat ArgT.nil)
noncomputable def R_ref05_Short : Ty Bool := (Ty.leaf .bool)
noncomputable def e_ref05_Short : FSem := mkE A_ref05_Short R_ref05_Short (fun a => F.ref05_Short a.1)
noncomputable def c_ref05_Short : Cfg := { P := Go.Proofs.Tryz.prog, n := 19, tab := [(35, e_ref02_Valid)], mutL := [], rtL := [(6, 1), (7, 1), (13, 1), (14, 1)], locL := [1] }
noncomputable def b_ref05_Short : Code := match Go.Proofs.Tryz.f51.body with | some c => c | none => .skip
noncomputable def a_ref05_Short : An := (.seq .leaf (.seq .leaf .leaf))
theorem t_ref05_Short : Entry Go.Proofs.Tryz.prog 51 e_ref05_Short false :=
  entry_of (C := c_ref05_Short) (fn := Go.Proofs.Tryz.f51) (c := b_ref05_Short) (an := a_ref05_Short) ⟨t_ref02_Valid, trivial⟩ trivial Go.Proofs.Tryz.func51 rfl rfl (by decide) (fun _ => rfl) (by intro a K D; kernel_rfl)
noncomputable def A_ref05_Small : ArgT (Sl × Unit) := (ArgT.cons (Ty.leaf .sl) ArgT.nil)
noncomputable def R_ref05_Small : Ty Bool := (Ty.leaf .bool)
noncomputable def e_ref05_Small : FSem := mkE A_ref05_Small R_ref05_Small (fun a => F.ref05_Small a.1)
noncomputable def c_ref05_Small : Cfg := { P := Go.Proofs.Tryz.prog, n := 19, tab := [(51, e_ref05_Short)], mutL := [], rtL := [], locL := [] }
noncomputable def b_ref05_Small : Code := match Go.Proofs.Tryz.f110.body with | some c => c | none => .skip
noncomputable def a_ref05_Small : An := (.seq .leaf (.seq (.seq .leaf (.block (.loop [(3, .leaf (.int .i64))] (.seq (.seq .leaf (.cond .leaf .leaf)) (.seq (.block (.seq .leaf (.cond (.seq .leaf .leaf) .leaf))) .leaf))))) (.seq .leaf .leaf)))
theorem t_ref05_Small : Entry Go.Proofs.Tryz.prog 110 e_ref05_Small false :=
  entry_of (C := c_ref05_Small) (fn := Go.Proofs.Tryz.f110) (c := b_ref05_Small) (an := a_ref05_Small) ⟨t_ref05_Short, trivial⟩ trivial Go.Proofs.Tryz.func110 rfl rfl (by decide) (fun _ => rfl) (by intro a K D; kernel_rfl)
noncomputable def A_law05_small : ArgT (Sl × Unit) := (ArgT.cons (Ty.leaf .sl) ArgT.nil)
noncomputable def R_law05_small : Ty Bool := (Ty.leaf .bool)
noncomputable def e_law05_small : FSem := mkE A_law05_small R_law05_small (fun a => F.law05_small a.1)
noncomputable def c_law05_small : Cfg := { P := Go.Proofs.Tryz.prog, n := 15, tab := [(110, e_ref05_Small)], mutL := [], rtL := [], locL := [] }
noncomputable def b_law05_small : Code := match Go.Proofs.Tryz.f50.body with | some c => c | none => .skip
noncomputable def a_law05_small : An := (.seq .leaf (.seq (.seq .leaf (.block (.loop [(7, .leaf (.int .i64))] (.seq .leaf (.seq (.cond .leaf .leaf) (.seq (.block (.seq .leaf (.seq .leaf (.cond (.seq .leaf .leaf) .leaf)))) .leaf)))))) (.seq .leaf .leaf)))
theorem t_law05_small : Entry Go.Proofs.Tryz.prog 50 e_law05_small false :=
  entry_of (C := c_law05_small) (fn := Go.Proofs.Tryz.f50) (c := b_law05_small) (an := a_law05_small) ⟨t_ref05_Small, trivial⟩ trivial Go.Proofs.Tryz.func50 rfl rfl (by decide) (fun _ => rfl) (by intro a K D; kernel_rfl)
noncomputable def A_law05_cp : ArgT (Sl × Unit) := (ArgT.cons (Ty.leaf .sl) ArgT.nil)
noncomputable def R_law05_cp : Ty Sl := (Ty.leaf .sl)
noncomputable def e_law05_cp : FSem := mkE A_law05_cp R_law05_cp (fun a => F.law05_cp a.1)
noncomputable def c_law05_cp : Cfg := { P := Go.Proofs.Tryz.prog, n := 6, tab := [], mutL := [], rtL := [], locL := [] }
noncomputable def b_law05_cp : Code := match Go.Proofs.Tryz.f55.body with | some c => c | none => .skip
noncomputable def a_law05_cp : An := (.seq .leaf (.seq .leaf .leaf))
theorem t_law05_cp : Entry Go.Proofs.Tryz.prog 55 e_law05_cp false :=
  entry_of (C := c_law05_cp) (fn := Go.Proofs.Tryz.f55) (c := b_law05_cp) (an := a_law05_cp) trivial trivial Go.Proofs.Tryz.func55 rfl rfl (by decide) (fun _ => rfl) (by intro a K D; kernel_rfl)
noncomputable def A_ref04_GCD : ArgT (Sl × Sl × Unit) := (ArgT.cons (Ty.leaf .sl) (ArgT.cons (Ty.leaf .sl) ArgT.nil))
noncomputable def R_ref04_GCD : Ty Sl := (Ty.leaf .sl)
noncomputable def e_ref04_GCD : FSem := mkE A_ref04_GCD R_ref04_GCD (fun a => F.ref04_GCD a.1 a.2.1)
noncomputable def c_ref04_GCD : Cfg := { P := Go.Proofs.Tryz.prog, n := 24, tab := [(100, e_ref04_Monic), (24, e_ref04_DivMod)], mutL := [], rtL := [], locL := [] }
noncomputable def b_ref04_GCD : Code := match Go.Proofs.Tryz.f59.body with | some c => c | none => .skip
noncomputable def a_ref04_GCD : An := (.seq .leaf (.seq .leaf (.seq (.block (.loop [(0, .leaf (.sl)), (1, .leaf (.sl))] (.seq (.seq .leaf (.cond .leaf .leaf)) (.block (.seq .leaf .leaf))))) (.seq .leaf .leaf))))
theorem t_ref04_GCD : Entry Go.Proofs.Tryz.prog 59 e_ref04_GCD false :=
  entry_of (C := c_ref04_GCD) (fn := Go.Proofs.Tryz.f59) (c := b_ref04_GCD) (an := a_ref04_GCD) ⟨t_ref04_Monic, t_ref04_DivMod, trivial⟩ trivial Go.Proofs.Tryz.func59 rfl rfl (by decide) (fun _ => rfl) (by intro a K D; kernel_rfl)
noncomputable def A_ref04_Squarefree : ArgT (Sl × Unit) := (ArgT.cons (Ty.leaf .sl) ArgT.nil)
noncomputable def R_ref04_Squarefree : Ty Sl := (Ty.leaf .sl)
noncomputable def e_ref04_Squarefree : FSem := mkE A_ref04_Squarefree R_ref04_Squarefree (fun a => F.ref04_Squarefree a.1)
noncomputable def c_ref04_Squarefree : Cfg := { P := Go.Proofs.Tryz.prog, n := 22, tab := [(100, e_ref04_Monic), (27, e_ref04_Derivative), (59, e_ref04_GCD), (24, e_ref04_DivMod)], mutL := [], rtL := [], locL := [] }
noncomputable def b_ref04_Squarefree : Code := match Go.Proofs.Tryz.f157.body with | some c => c | none => .skip
noncomputable def a_ref04_Squarefree : An := (.seq .leaf (.seq .leaf (.seq (.seq .leaf (.cond (.seq .leaf .leaf) .leaf)) (.seq .leaf (.seq .leaf .leaf)))))
theorem t_ref04_Squarefree : Entry Go.Proofs.Tryz.prog 157 e_ref04_Squarefree false :=
  entry_of (C := c_ref04_Squarefree) (fn := Go.Proofs.Tryz.f157) (c := b_ref04_Squarefree) (an := a_ref04_Squarefree) ⟨t_ref04_Monic, t_ref04_Derivative, t_ref04_GCD, t_ref04_DivMod, trivial⟩ trivial Go.Proofs.Tryz.func157 rfl rfl (by decide) (fun _ => rfl) (by intro a K D; kernel_rfl)
noncomputable def A_ref05_Chain : ArgT (Sl × Unit) := (ArgT.cons (Ty.leaf .sl) ArgT.nil)
noncomputable def R_ref05_Chain : Ty Sl := (Ty.leaf .sl)
noncomputable def e_ref05_Chain : FSem := mkE A_ref05_Chain R_ref05_Chain (fun a => F.ref05_Chain a.1)
noncomputable def c_ref05_Chain : Cfg := { P := Go.Proofs.Tryz.prog, n := 35, tab := [(23, e_ref04_Degree), (157, e_ref04_Squarefree), (27, e_ref04_Derivative), (24, e_ref04_DivMod), (81, e_ref02_FromInt), (33, e_ref04_Scale)], mutL := [], rtL := [], locL := [22] }
noncomputable def b_ref05_Chain : Code := match Go.Proofs.Tryz.f112.body with | some c => c | none => .skip
noncomputable def a_ref05_Chain : An := (.seq .leaf (.seq (.seq .leaf (.cond (.seq .leaf .leaf) .leaf)) (.seq .leaf (.seq .leaf (.seq .leaf (.seq (.block (.loop [(3, .leaf (.sl)), (4, .leaf (.sl)), (5, .leaf (.sl))] (.seq (.seq .leaf (.cond .leaf .leaf)) (.block (.seq .leaf (.seq .leaf .leaf)))))) (.seq .leaf .leaf)))))))
theorem t_ref05_Chain : Entry Go.Proofs.Tryz.prog 112 e_ref05_Chain false :=
  entry_of (C := c_ref05_Chain) (fn := Go.Proofs.Tryz.f112) (c := b_ref05_Chain) (an := a_ref05_Chain) ⟨t_ref04_Degree, t_ref04_Squarefree, t_ref04_Derivative, t_ref04_DivMod, t_ref02_FromInt, t_ref04_Scale, trivial⟩ trivial Go.Proofs.Tryz.func112 rfl rfl (by decide) (fun _ => rfl) (by intro a K D; kernel_rfl)
noncomputable def A_ref05_Count : ArgT (Sl × TRat × TRat × Unit) := (ArgT.cons (Ty.leaf .sl) (ArgT.cons tyTRat (ArgT.cons tyTRat ArgT.nil)))
noncomputable def R_ref05_Count : Ty Int := (Ty.leaf (.int .i64))
noncomputable def e_ref05_Count : FSem := mkE A_ref05_Count R_ref05_Count (fun a => F.ref05_Count a.1 a.2.1 a.2.2.1)
noncomputable def c_ref05_Count : Cfg := { P := Go.Proofs.Tryz.prog, n := 21, tab := [(36, e_ref02_Cmp), (112, e_ref05_Chain), (53, e_ref05_Changes)], mutL := [], rtL := [], locL := [4, 5] }
noncomputable def b_ref05_Count : Code := match Go.Proofs.Tryz.f56.body with | some c => c | none => .skip
noncomputable def a_ref05_Count : An := (.seq .leaf (.seq (.seq .leaf (.cond (.seq .leaf .leaf) .leaf)) (.seq .leaf (.seq (.draw [0, 1, 3, 4, 2, 5, 6, 7]) .leaf))))
theorem t_ref05_Count : Entry Go.Proofs.Tryz.prog 56 e_ref05_Count false :=
  entry_of (C := c_ref05_Count) (fn := Go.Proofs.Tryz.f56) (c := b_ref05_Count) (an := a_ref05_Count) ⟨t_ref02_Cmp, t_ref05_Chain, t_ref05_Changes, trivial⟩ trivial Go.Proofs.Tryz.func56 rfl rfl (by decide) (fun _ => rfl) (by intro a K D; kernel_rfl)
noncomputable def A_ref05_ends : ArgT (Sl × Unit) := (ArgT.cons (Ty.leaf .sl) ArgT.nil)
noncomputable def R_ref05_ends : Ty (TRat × TRat) := (Ty.tup (.cons tyTRat (.cons tyTRat .nil)) (fun x => (x.1, x.2, ())) (fun y => (y.1, y.2.1)) (fun _ => rfl) (fun _ => rfl))
noncomputable def e_ref05_ends : FSem := mkE A_ref05_ends R_ref05_ends (fun a => F.ref05_ends a.1)
noncomputable def c_ref05_ends : Cfg := { P := Go.Proofs.Tryz.prog, n := 10, tab := [(37, e_ref04_Bound), (117, e_ref02_Neg)], mutL := [], rtL := [], locL := [2, 3, 4] }
noncomputable def b_ref05_ends : Code := match Go.Proofs.Tryz.f114.body with | some c => c | none => .skip
noncomputable def a_ref05_ends : An := (.seq .leaf (.seq .leaf (.seq (.draw [0, 2, 1, 3, 4]) .leaf)))
theorem t_ref05_ends : Entry Go.Proofs.Tryz.prog 114 e_ref05_ends false :=
  entry_of (C := c_ref05_ends) (fn := Go.Proofs.Tryz.f114) (c := b_ref05_ends) (an := a_ref05_ends) ⟨t_ref04_Bound, t_ref02_Neg, trivial⟩ trivial Go.Proofs.Tryz.func114 rfl rfl (by decide) (fun _ => rfl) (by intro a K D; kernel_rfl)
noncomputable def A_integer_Valid : ArgT (TInt × Unit) := (ArgT.cons tyTInt ArgT.nil)
noncomputable def R_integer_Valid : Ty Bool := (Ty.leaf .bool)
noncomputable def e_integer_Valid : FSem := mkE A_integer_Valid R_integer_Valid (fun a => F.integer_Valid a.1)
noncomputable def c_integer_Valid : Cfg := { P := Go.Proofs.Tryz.prog, n := 27, tab := [], mutL := [], rtL := [(4, 1), (10, 1), (18, 1)], locL := [1] }
noncomputable def b_integer_Valid : Code := match Go.Proofs.Tryz.f183.body with | some c => c | none => .skip
noncomputable def a_integer_Valid : An := (.seq .leaf (.seq .leaf (.seq .leaf .leaf)))
theorem t_integer_Valid : Entry Go.Proofs.Tryz.prog 183 e_integer_Valid false :=
  entry_of (C := c_integer_Valid) (fn := Go.Proofs.Tryz.f183) (c := b_integer_Valid) (an := a_integer_Valid) trivial trivial Go.Proofs.Tryz.func183 rfl rfl (by decide) (fun _ => rfl) (by intro a K D; kernel_rfl)
noncomputable def A_rational_Valid : ArgT (TRat × Unit) := (ArgT.cons tyTRat ArgT.nil)
noncomputable def R_rational_Valid : Ty Bool := (Ty.leaf .bool)
noncomputable def e_rational_Valid : FSem := mkE A_rational_Valid R_rational_Valid (fun a => F.rational_Valid a.1)
noncomputable def c_rational_Valid : Cfg := { P := Go.Proofs.Tryz.prog, n := 25, tab := [(183, e_integer_Valid), (153, e_integer_Sign), (86, e_integer_GCD), (127, e_rational_isOne)], mutL := [], rtL := [(3, 1), (7, 1), (12, 1), (18, 1), (20, 1)], locL := [1] }
noncomputable def b_rational_Valid : Code := match Go.Proofs.Tryz.f158.body with | some c => c | none => .skip
noncomputable def a_rational_Valid : An := (.seq .leaf (.seq .leaf .leaf))
theorem t_rational_Valid : Entry Go.Proofs.Tryz.prog 158 e_rational_Valid false :=
  entry_of (C := c_rational_Valid) (fn := Go.Proofs.Tryz.f158) (c := b_rational_Valid) (an := a_rational_Valid) ⟨t_integer_Valid, t_integer_Sign, t_integer_GCD, t_rational_isOne, trivial⟩ trivial Go.Proofs.Tryz.func158 rfl rfl (by decide) (fun _ => rfl) (by intro a K D; kernel_rfl)
noncomputable def A_interval_Valid : ArgT (TInterval × Unit) := (ArgT.cons tyTInterval ArgT.nil)
noncomputable def R_interval_Valid : Ty Bool := (Ty.leaf .bool)
noncomputable def e_interval_Valid : FSem := mkE A_interval_Valid R_interval_Valid (fun a => F.interval_Valid a.1)
noncomputable def c_interval_Valid : Cfg := { P := Go.Proofs.Tryz.prog, n := 19, tab := [(158, e_rational_Valid), (98, e_rational_Cmp)], mutL := [], rtL := [(3, 1), (7, 1), (12, 1), (14, 1)], locL := [1] }
noncomputable def b_interval_Valid : Code := match Go.Proofs.Tryz.f159.body with | some c => c | none => .skip
noncomputable def a_interval_Valid : An := (.seq .leaf (.seq .leaf .leaf))
theorem t_interval_Valid : Entry Go.Proofs.Tryz.prog 159 e_interval_Valid false :=
  entry_of (C := c_interval_Valid) (fn := Go.Proofs.Tryz.f159) (c := b_interval_Valid) (an := a_interval_Valid) ⟨t_rational_Valid, t_rational_Cmp, trivial⟩ trivial Go.Proofs.Tryz.func159 rfl rfl (by decide) (fun _ => rfl) (by intro a K D; kernel_rfl)
noncomputable def A_sturm_single : ArgT (Sl × TInterval × Unit) := (ArgT.cons (Ty.leaf .sl) (ArgT.cons tyTInterval ArgT.nil))
noncomputable def R_sturm_single : Ty Bool := (Ty.leaf .bool)
noncomputable def e_sturm_single : FSem := mkE A_sturm_single R_sturm_single (fun a => F.sturm_single a.1 a.2.1)
noncomputable def c_sturm_single : Cfg := { P := Go.Proofs.Tryz.prog, n := 34, tab := [(158, e_rational_Valid), (159, e_interval_Valid), (98, e_rational_Cmp), (111, e_sturm_between)], mutL := [], rtL := [(5, 3), (9, 3), (18, 3), (20, 3), (27, 3), (29, 3)], locL := [3] }
noncomputable def b_sturm_single : Code := match Go.Proofs.Tryz.f115.body with | some c => c | none => .skip
noncomputable def a_sturm_single : An := (.seq .leaf (.seq .leaf .leaf))
theorem t_sturm_single : Entry Go.Proofs.Tryz.prog 115 e_sturm_single false :=
  entry_of (C := c_sturm_single) (fn := Go.Proofs.Tryz.f115) (c := b_sturm_single) (an := a_sturm_single) ⟨t_rational_Valid, t_interval_Valid, t_rational_Cmp, t_sturm_between, trivial⟩ trivial Go.Proofs.Tryz.func115 rfl rfl (by decide) (fun _ => rfl) (by intro a K D; kernel_rfl)
noncomputable def A_sturm_Root : ArgT (Sl × TInterval × Unit) := (ArgT.cons (Ty.leaf .sl) (ArgT.cons tyTInterval ArgT.nil))
noncomputable def R_sturm_Root : Ty (Int × Int) := (Ty.tup (.cons (Ty.leaf (.int .i64)) (.cons (Ty.leaf (.int .i64)) .nil)) (fun x => (x.1, x.2, ())) (fun y => (y.1, y.2.1)) (fun _ => rfl) (fun _ => rfl))
noncomputable def e_sturm_Root : FSem := mkE A_sturm_Root R_sturm_Root (fun a => F.sturm_Root a.1 a.2.1)
noncomputable def c_sturm_Root : Cfg := { P := Go.Proofs.Tryz.prog, n := 27, tab := [(107, e_sturm_Chain), (115, e_sturm_single), (113, e_sturm_around), (98, e_rational_Cmp), (111, e_sturm_between)], mutL := [], rtL := [(17, 3), (24, 3)], locL := [3, 7] }
noncomputable def b_sturm_Root : Code := match Go.Proofs.Tryz.f60.body with | some c => c | none => .skip
noncomputable def a_sturm_Root : An := (.seq .leaf (.seq .leaf (.seq (.seq .leaf (.cond (.seq .leaf .leaf) .leaf)) (.seq .leaf (.seq (.seq .leaf (.cond (.seq .leaf .leaf) .leaf)) (.seq .leaf .leaf))))))
theorem t_sturm_Root : Entry Go.Proofs.Tryz.prog 60 e_sturm_Root false :=
  entry_of (C := c_sturm_Root) (fn := Go.Proofs.Tryz.f60) (c := b_sturm_Root) (an := a_sturm_Root) ⟨t_sturm_Chain, t_sturm_single, t_sturm_around, t_rational_Cmp, t_sturm_between, trivial⟩ trivial Go.Proofs.Tryz.func60 rfl rfl (by decide) (fun _ => rfl) (by intro a K D; kernel_rfl)
noncomputable def A_ref05_Interval : ArgT (TInterval × Unit) := (ArgT.cons tyTInterval ArgT.nil)
noncomputable def R_ref05_Interval : Ty Bool := (Ty.leaf .bool)
noncomputable def e_ref05_Interval : FSem := mkE A_ref05_Interval R_ref05_Interval (fun a => F.ref05_Interval a.1)
noncomputable def c_ref05_Interval : Cfg := { P := Go.Proofs.Tryz.prog, n := 19, tab := [(35, e_ref02_Valid), (36, e_ref02_Cmp)], mutL := [], rtL := [(3, 1), (7, 1), (12, 1), (14, 1)], locL := [1] }
noncomputable def b_ref05_Interval : Code := match Go.Proofs.Tryz.f116.body with | some c => c | none => .skip
noncomputable def a_ref05_Interval : An := (.seq .leaf (.seq .leaf .leaf))
theorem t_ref05_Interval : Entry Go.Proofs.Tryz.prog 116 e_ref05_Interval false :=
  entry_of (C := c_ref05_Interval) (fn := Go.Proofs.Tryz.f116) (c := b_ref05_Interval) (an := a_ref05_Interval) ⟨t_ref02_Valid, t_ref02_Cmp, trivial⟩ trivial Go.Proofs.Tryz.func116 rfl rfl (by decide) (fun _ => rfl) (by intro a K D; kernel_rfl)
noncomputable def A_ref05_One : ArgT (Sl × TInterval × Unit) := (ArgT.cons (Ty.leaf .sl) (ArgT.cons tyTInterval ArgT.nil))
noncomputable def R_ref05_One : Ty Bool := (Ty.leaf .bool)
noncomputable def e_ref05_One : FSem := mkE A_ref05_One R_ref05_One (fun a => F.ref05_One a.1 a.2.1)
noncomputable def c_ref05_One : Cfg := { P := Go.Proofs.Tryz.prog, n := 16, tab := [(116, e_ref05_Interval), (56, e_ref05_Count)], mutL := [], rtL := [(9, 3), (11, 3)], locL := [3] }
noncomputable def b_ref05_One : Code := match Go.Proofs.Tryz.f61.body with | some c => c | none => .skip
noncomputable def a_ref05_One : An := (.seq .leaf (.seq .leaf .leaf))
theorem t_ref05_One : Entry Go.Proofs.Tryz.prog 61 e_ref05_One false :=
  entry_of (C := c_ref05_One) (fn := Go.Proofs.Tryz.f61) (c := b_ref05_One) (an := a_ref05_One) ⟨t_ref05_Interval, t_ref05_Count, trivial⟩ trivial Go.Proofs.Tryz.func61 rfl rfl (by decide) (fun _ => rfl) (by intro a K D; kernel_rfl)
noncomputable def A_ref05_Root : ArgT (Sl × TInterval × Unit) := (ArgT.cons (Ty.leaf .sl) (ArgT.cons tyTInterval ArgT.nil))
noncomputable def R_ref05_Root : Ty Int := (Ty.leaf (.int .i64))
noncomputable def e_ref05_Root : FSem := mkE A_ref05_Root R_ref05_Root (fun a => F.ref05_Root a.1 a.2.1)
noncomputable def c_ref05_Root : Cfg := { P := Go.Proofs.Tryz.prog, n := 18, tab := [(114, e_ref05_ends), (56, e_ref05_Count)], mutL := [], rtL := [(14, 3)], locL := [3, 5, 6] }
noncomputable def b_ref05_Root : Code := match Go.Proofs.Tryz.f62.body with | some c => c | none => .skip
noncomputable def a_ref05_Root : An := (.seq .leaf (.seq .leaf (.seq .leaf .leaf)))
theorem t_ref05_Root : Entry Go.Proofs.Tryz.prog 62 e_ref05_Root false :=
  entry_of (C := c_ref05_Root) (fn := Go.Proofs.Tryz.f62) (c := b_ref05_Root) (an := a_ref05_Root) ⟨t_ref05_ends, t_ref05_Count, trivial⟩ trivial Go.Proofs.Tryz.func62 rfl rfl (by decide) (fun _ => rfl) (by intro a K D; kernel_rfl)
noncomputable def A_law05_SturmRoot : ArgT (Sl × TInterval × Unit) := (ArgT.cons (Ty.leaf .sl) (ArgT.cons tyTInterval ArgT.nil))
noncomputable def R_law05_SturmRoot : Ty Bool := (Ty.leaf .bool)
noncomputable def e_law05_SturmRoot : FSem := mkE A_law05_SturmRoot R_law05_SturmRoot (fun a => F.law05_SturmRoot a.1 a.2.1)
noncomputable def c_law05_SturmRoot : Cfg := { P := Go.Proofs.Tryz.prog, n := 74, tab := [(55, e_law05_cp), (60, e_sturm_Root), (61, e_ref05_One), (62, e_ref05_Root), (49, e_law05_awake), (50, e_law05_small)], mutL := [], rtL := [(16, 3), (17, 3), (18, 3), (24, 3), (25, 3), (26, 3), (32, 3), (33, 3), (34, 3), (40, 3), (41, 3), (42, 3)], locL := [3] }
noncomputable def b_law05_SturmRoot : Code := match Go.Proofs.Tryz.f12.body with | some c => c | none => .skip
noncomputable def a_law05_SturmRoot : An := (.seq .leaf (.join [] (.seq .leaf (.cond (.seq .leaf .leaf) .leaf)) (.seq (.draw [0, 2, 1, 3, 4, 5, 6, 7, 8]) (.seq (.seq .leaf (.cond (.seq .leaf .leaf) .leaf)) (.seq .leaf .leaf)))))
theorem t_law05_SturmRoot : Entry Go.Proofs.Tryz.prog 12 e_law05_SturmRoot false :=
  entry_of (C := c_law05_SturmRoot) (fn := Go.Proofs.Tryz.f12) (c := b_law05_SturmRoot) (an := a_law05_SturmRoot) ⟨t_law05_cp, t_sturm_Root, t_ref05_One, t_ref05_Root, t_law05_awake, t_law05_small, trivial⟩ trivial Go.Proofs.Tryz.func12 rfl rfl (by decide) (fun _ => rfl) (by intro a K D; kernel_rfl)
end Den
end

section
set_option linter.unusedVariables false
namespace Den
open Go Iv Pq
/-- All values of f are multiples of 1 / D, and the numerators and D have at most a words. -/
def CD (a : Nat) (f : Nat → Rat) : Prop := ∃ (D : Int) (n : Nat → Int), D ≠ 0 ∧ Lt a D ∧ (∀ j, Lt a (n j)) ∧ ∀ j, f j * (D : Rat) = (n j : Rat)
theorem rat_int_ne {D : Int} (h : D ≠ 0) : (D : Rat) ≠ 0 := fun h0 => h (Rat.intCast_inj.1 (by rw [h0]; rfl))
theorem rat_num_den (x : Rat) : x * ((x.den : Nat) : Rat) = (x.num : Rat) := by
  have h := Rat.num_divInt_den x
  rw [Rat.divInt_eq_div, Rat.intCast_natCast] at h
  have h0 : ((x.den : Nat) : Rat) ≠ 0 := by
    have := rat_int_ne (den_ne x)
    rwa [Rat.intCast_natCast] at this
  have h2 := Rat.mul_inv_cancel _ h0
  rw [Rat.div_def] at h
  generalize ((x.den : Nat) : Rat) = d at *
  generalize ((x.num : Int) : Rat) = m at *
  rw [← h, Rat.mul_assoc, Rat.mul_comm d⁻¹ d, h2, Rat.mul_one]
theorem Lt.zero {k : Nat} : Lt k 0 := by unfold Lt; exact Nat.pow_pos W_pos
theorem CD.mono {a b : Nat} {f : Nat → Rat} (h : CD a f) (hb : a ≤ b) : CD b f := by
  obtain ⟨D, n, h1, h2, h3, h4⟩ := h
  exact ⟨D, n, h1, h2.mono hb, fun j => (h3 j).mono hb, h4⟩
theorem CD.congr {a : Nat} {f g : Nat → Rat} (h : CD a f) (hg : ∀ j, g j = f j) : CD a g := by
  obtain ⟨D, n, h1, h2, h3, h4⟩ := h
  exact ⟨D, n, h1, h2, h3, fun j => by rw [hg]; exact h4 j⟩
theorem BR_of {a : Nat} {x : Rat} {D n : Int} (h0 : D ≠ 0) (hD : Lt a D) (hn : Lt a n) (he : x * (D : Rat) = (n : Rat)) : BR a x := by
  have e : x = Rat.divInt n D := by
    rw [Rat.divInt_eq_div, ← he, Rat.div_def, Rat.mul_assoc, Rat.mul_inv_cancel _ (rat_int_ne h0), Rat.mul_one]
  rw [e]; exact BR.divInt hn hD h0
theorem CD.br {a : Nat} {f : Nat → Rat} (h : CD a f) (j : Nat) : BR a (f j) := by
  obtain ⟨D, n, h1, h2, h3, h4⟩ := h
  exact BR_of h1 h2 (h3 j) (h4 j)
theorem CD.step {A B d s : Nat} {f b : Nat → Rat} (hf : CD A f) (hb : CD B b) (h0 : b d ≠ 0) : CD (A + B + 1) (stepF b d s f) := by
  obtain ⟨D, n, h1, h2, h3, h4⟩ := hf
  obtain ⟨E, m, g1, g2, g3, g4⟩ := hb
  have hE := rat_int_ne g1
  have hm : m d ≠ 0 := fun hm => h0 (by
    have := g4 d
    rw [hm] at this
    rcases Rat.mul_eq_zero.1 (show b d * (E : Rat) = 0 from this) with h | h
    · exact h
    · exact absurd h hE)
  refine ⟨D * m d, fun j => if s ≤ j then n j * m d + -(n (s + d) * m (j - s)) else n j * m d, Int.mul_ne_zero h1 hm, (h2.mul (g3 d)).mono (by omega), fun j => ?_, fun j => ?_⟩
  · simp only
    split
    · exact ((h3 j).mul (g3 d)).addm ((h3 (s + d)).mul (g3 (j - s))).neg
    · exact ((h3 j).mul (g3 d)).mono (by omega)
  · simp only
    unfold stepF
    rw [Rat.intCast_mul]
    split
    · have e1 : b (j - s) / b d * (m d : Rat) = (m (j - s) : Rat) := by
        rw [← g4 d, ← g4 (j - s), Rat.div_def]
        have := Rat.mul_inv_cancel _ h0
        grind
      have e2 : f (s + d) / b d * b (j - s) = f (s + d) * (b (j - s) / b d) := by rw [Rat.div_def, Rat.div_def]; grind
      rw [Rat.intCast_add, Rat.intCast_neg, Rat.intCast_mul, Rat.intCast_mul, ← h4 j, ← h4 (s + d), ← e1, e2]
      grind
    · rw [Rat.intCast_mul, ← h4 j]; grind
theorem CD.restK {A B d N : Nat} {f b : Nat → Rat} (hf : CD A f) (hb : CD B b) (h0 : b d ≠ 0) : ∀ {k : Nat}, CD (A + k * (B + 1)) (restK b d N f k)
  | 0 => hf.mono (by omega)
  | k + 1 => by
    have ih := CD.restK (N := N) hf hb h0 (k := k)
    have := ih.step hb h0 (s := N - 1 - k)
    refine CD.mono this ?_
    rw [Nat.succ_mul]; omega
theorem CD.mon {A d : Nat} {f : Nat → Rat} (hf : CD A f) (h0 : f d ≠ 0) : CD A (fun j => (((1 : Int) : Rat)) / f d * f j) := by
  obtain ⟨D, n, h1, h2, h3, h4⟩ := hf
  have hD := rat_int_ne h1
  have hn : n d ≠ 0 := fun hn => h0 (by
    have := h4 d
    rw [hn] at this
    rcases Rat.mul_eq_zero.1 (show f d * (D : Rat) = 0 from this) with h | h
    · exact h
    · exact absurd h hD)
  refine ⟨n d, n, hn, h3 d, h3, fun j => ?_⟩
  rw [← h4 d, ← h4 j, Rat.div_def]
  have := Rat.mul_inv_cancel _ h0
  have e : (((1 : Int) : Rat)) = 1 := rfl
  grind
theorem CD.der {A N : Nat} {f : Nat → Rat} (hf : CD A f) (hz : ∀ i, N ≤ i → f i = 0) (hN : N ≤ 4294967296) : CD (A + 1) (der f) := by
  obtain ⟨D, n, h1, h2, h3, h4⟩ := hf
  refine ⟨D, fun i => if i + 1 < N then n (i + 1) * ((i + 1 : Nat) : Int) else 0, h1, h2.mono (by omega), fun j => ?_, fun j => ?_⟩
  · simp only
    split
    · refine (h3 _).mul ?_
      unfold Lt
      rw [Nat.pow_one, W_eq, Int.natAbs_natCast]; omega
    · exact Lt.zero
  · simp only
    unfold Pq.der
    split
    · rw [Rat.intCast_mul, ← h4 (j + 1), Rat.intCast_natCast]; grind
    · rw [hz (j + 1) (by omega)]
      show _ = (0 : Rat)
      grind
theorem CD.neg {A : Nat} {f : Nat → Rat} (hf : CD A f) : CD A (fun j => (((-1 : Int) : Rat)) * f j) := by
  obtain ⟨D, n, h1, h2, h3, h4⟩ := hf
  refine ⟨D, fun j => -(n j), h1, h2, fun j => (h3 j).neg, fun j => ?_⟩
  have e2 : ((-(n j) : Int) : Rat) = -((n j : Int) : Rat) := Rat.intCast_neg _
  simp only
  rw [e2, ← h4 j]
  have e : (((-1 : Int) : Rat)) = -1 := rfl
  grind
theorem CD.of_BR {k N : Nat} {f : Nat → Rat} (hf : ∀ j, BR k (f j)) (hz : ∀ i, N ≤ i → f i = 0) : CD ((N + 1) * k + 1) f := by
  have key : ∀ M, ∃ D : Int, D ≠ 0 ∧ Lt (M * k + 1) D ∧ ∀ j, j < M → ∃ t : Int, f j * (D : Rat) = (t : Rat) := by
    intro M
    induction M with
    | zero => exact ⟨1, by decide, by unfold Lt; rw [Nat.zero_mul, W_eq]; decide, fun j hj => absurd hj (Nat.not_lt_zero j)⟩
    | succ M ih =>
      obtain ⟨D, h1, h2, h3⟩ := ih
      refine ⟨D * ((f M).den : Int), Int.mul_ne_zero h1 (den_ne (f M)), (h2.mul (hf M).2).mono (by rw [Nat.succ_mul]; omega), fun j hj => ?_⟩
      rw [Rat.intCast_mul]
      by_cases hjM : j = M
      · subst hjM
        refine ⟨(f j).num * D, ?_⟩
        rw [Rat.intCast_mul, Rat.intCast_natCast]
        have := rat_num_den (f j)
        grind
      · obtain ⟨t, ht⟩ := h3 j (by omega)
        refine ⟨t * ((f M).den : Int), ?_⟩
        rw [Rat.intCast_mul, ← ht]; grind
  obtain ⟨D, h1, h2, h3⟩ := key N
  have h4 : ∀ j, ∃ t : Int, f j * (D : Rat) = (t : Rat) := fun j => by
    rcases Nat.lt_or_ge j N with h | h
    · exact h3 j h
    · exact ⟨0, by rw [hz j h]; show _ = (0 : Rat); grind⟩
  have h5 : ∀ j, ∃ t : Int, f j * (D : Rat) = (t : Rat) ∧ Lt ((N + 1) * k + 1) t := fun j => by
    obtain ⟨t, ht⟩ := h4 j
    refine ⟨t, ht, ?_⟩
    have e : t * ((f j).den : Int) = (f j).num * D := Rat.intCast_inj.1 (by
      rw [Rat.intCast_mul, Rat.intCast_mul, ← ht, Rat.intCast_natCast]
      have := rat_num_den (f j)
      grind)
    have h5 : Lt ((N + 1) * k + 1) (t * ((f j).den : Int)) := by
      rw [e]; exact ((hf j).1.mul h2).mono (by rw [Nat.succ_mul]; omega)
    refine h5.le ?_
    rw [Int.natAbs_mul]
    exact Nat.le_mul_of_pos_right _ (by have := (f j).den_pos; omega)
  exact ⟨D, fun j => (h5 j).choose, h1, h2.mono (by rw [Nat.succ_mul]; omega), fun j => (h5 j).choose_spec.2, fun j => (h5 j).choose_spec.1⟩
theorem CD.shift {A i : Nat} {f : Nat → Rat} (hf : CD A f) : CD A (fun j => f (i + j)) := by
  obtain ⟨D, n, h1, h2, h3, h4⟩ := hf
  exact ⟨D, fun j => n (i + j), h1, h2, fun j => h3 _, fun j => h4 _⟩
theorem Lt.pow {B k : Nat} {v : Int} (hv : Lt B v) : Lt (k * B + 1) (v ^ k) := by
  induction k with
  | zero => unfold Lt; rw [Int.pow_zero, Nat.zero_mul, W_eq]; decide
  | succ k ih => rw [Int.pow_succ]; exact (ih.mul hv).mono (by rw [Nat.succ_mul]; omega)
theorem CD.evb {B : Nat} {c : Rat} (hc : BR B c) : ∀ {p : List Rat} {A : Nat}, CD A (co p) → BR (A + (p.length + 1) * (B + 1) + 1) (ev p c) := by
  have key : ∀ (p : List Rat) (A : Nat) (D : Int) (n : Nat → Int), D ≠ 0 → (∀ j, Lt A (n j)) → (∀ j, co p j * (D : Rat) = (n j : Rat)) → ∃ t : Int, ev p c * ((D * ((c.den : Int) ^ p.length) : Int) : Rat) = (t : Rat) ∧ Lt (A + (p.length + 1) * (B + 1)) t := by
    intro p
    induction p with
    | nil => intro A D n h1 h3 h4; exact ⟨0, by show (0 : Rat) * _ = 0; grind, Lt.zero⟩
    | cons x r ih =>
      intro A D n h1 h3 h4
      obtain ⟨t, ht, lt⟩ := ih A D (fun j => n (j + 1)) h1 (fun j => h3 _) (fun j => h4 (j + 1))
      refine ⟨n 0 * (c.den : Int) ^ (r.length + 1) + c.num * t, ?_, ?_⟩
      · have e0 := h4 0
        have e1 : co (x :: r) 0 = x := rfl
        rw [e1] at e0
        have e2 := rat_num_den c
        have e3 : ev (x :: r) c = x + ev r c * c := rfl
        simp only [Rat.intCast_add, Rat.intCast_mul, Int.pow_succ, List.length_cons, Rat.intCast_natCast] at ht ⊢
        rw [← ht, ← e0, ← e2, e3]
        generalize (((c.den : Int) ^ r.length : Int) : Rat) = z
        generalize ((c.den : Nat) : Rat) = d
        generalize ev r c = y
        generalize (D : Rat) = D'
        grind
      · rw [List.length_cons]
        have e5 : (r.length + 1 + 1) * (B + 1) = (r.length + 1) * (B + 1) + (B + 1) := Nat.succ_mul _ _
        refine Lt.mono (Lt.addm (k := A + (r.length + 1) * (B + 1) + B) ((h3 0).mul (Lt.pow (k := r.length + 1) hc.2) |>.mono ?_) ((hc.1.mul lt).mono (by omega))) (by omega)
        have : (r.length + 1) * B + 1 ≤ (r.length + 1) * (B + 1) := by rw [Nat.mul_succ]; omega
        omega
  intro p A hA
  obtain ⟨D, n, h1, h2, h3, h4⟩ := hA
  obtain ⟨t, ht, lt⟩ := key p A D n h1 h3 h4
  have hd : ((c.den : Int) ^ p.length) ≠ 0 := Int.pow_ne_zero (den_ne c)
  refine BR_of (Int.mul_ne_zero h1 hd) ((h2.mul (Lt.pow hc.2)).mono ?_) (lt.mono (by omega)) ht
  have : p.length * B + 1 ≤ (p.length + 1) * (B + 1) := by rw [Nat.succ_mul, Nat.mul_succ]; omega
  omega
end Den
end

section
set_option linter.unusedVariables false
namespace Den
open Go Iv Pq
/-- The number of steps of a division. -/
def divN (p q : List Rat) : Nat := (trim p).length + 1 - (trim q).length
/-- The remainder. -/
def remL (p q : List Rat) : List Rat := trim ((List.range ((trim q).length - 1)).map fun j => restK (co q) ((trim q).length - 1) (divN p q) (co p) (divN p q) j)
theorem remL_len {p q : List Rat} : (remL p q).length ≤ (trim q).length - 1 := Nat.le_trans trim_len (by simp)
theorem nf_remL {p q : List Rat} : nf (remL p q) := nf_trim
theorem remL_of {p q rs : List Rat} (hz : ∀ j, (trim q).length - 1 ≤ j → co rs j = 0) (hR : ∀ j, co rs j = restK (co q) ((trim q).length - 1) ((trim p).length + 1 - (trim q).length) (co p) ((trim p).length + 1 - (trim q).length) j) : trim rs = remL p q := by
  refine trim_eq fun i => ?_
  rw [co_range]
  split
  · exact hR i
  · exact hz i (by omega)
theorem CD_remL {A B : Nat} {p q : List Rat} (hp : CD A (co p)) (hq : CD B (co q)) (hq0 : trim q ≠ []) : CD (A + divN p q * (B + 1)) (co (remL p q)) := by
  have h0 : co q ((trim q).length - 1) ≠ 0 := by
    have := nf_top nf_trim hq0
    rw [co_trim] at this
    exact this
  obtain ⟨D, n, h1, h2, h3, h4⟩ := CD.restK (N := divN p q) hp hq h0 (k := divN p q)
  refine ⟨D, fun j => if j < (trim q).length - 1 then n j else 0, h1, h2, fun j => ?_, fun j => ?_⟩
  · simp only
    split
    · exact h3 j
    · exact Lt.zero
  · simp only
    unfold remL
    rw [co_trim, co_range]
    split
    · exact h4 j
    · show (0 : Rat) * _ = (0 : Rat)
      rw [Rat.zero_mul]
/-- The conditions on quotient and remainder. -/
def divR (p q qs rs : List Rat) : Prop := (∀ j, conv (co qs) (co q) j + co rs j = co p j) ∧ ∀ j, (trim q).length - 1 ≤ j → co rs j = 0
open Classical in
/-- The quotient. -/
noncomputable def quoL (p q : List Rat) : List Rat := if h : ∃ Q : List Rat × List Rat, divR p q Q.1 Q.2 then trim h.choose.1 else []
theorem quoL_of {p q qs rs : List Rat} (hq0 : trim q ≠ []) (h : divR p q qs rs) : trim qs = quoL p q := by
  have hex : ∃ Q : List Rat × List Rat, divR p q Q.1 Q.2 := ⟨(qs, rs), h⟩
  unfold quoL
  rw [dif_pos hex]
  have h2 := hex.choose_spec
  have h0 : co q ((trim q).length - 1) ≠ 0 := by
    have := nf_top nf_trim hq0
    rw [co_trim] at this
    exact this
  have hl : 0 < (trim q).length := List.length_pos_iff.2 hq0
  exact trim_eq fun i => (div_unique (q := co qs) (q' := co hex.choose.1) (b := co q) (r := co rs) (r' := co hex.choose.2) (n := qs.length + hex.choose.1.length) h0 (fun i hi => by rw [← co_trim, co_ge (by omega)]) (fun i hi => co_ge (by omega)) (fun i hi => co_ge (by omega)) h.2 h2.2 fun i => by rw [h.1, h2.1]).1 i
/-- Euclid's loop, with monic remainders. -/
def gcdS : Nat → List Rat → List Rat → List Rat
  | 0, a, _ => a
  | n + 1, a, b => if b = [] then a else gcdS n b (monQ (remL a b))
end Den
end

section
set_option linter.unusedVariables false
namespace Den
open Go Iv Pq
/-- The size after k steps. -/
def cz (c k : Nat) : Nat := (c + 1) * 3 ^ k - 1
theorem cz_zero {c : Nat} : cz c 0 = c := by unfold cz; rw [Nat.pow_zero, Nat.mul_one]; rfl
theorem cz_succ {c k : Nat} : cz c (k + 1) = 3 * cz c k + 2 := by
  unfold cz
  have h : 0 < (c + 1) * 3 ^ k := Nat.mul_pos (Nat.succ_pos c) (Nat.pow_pos (by decide))
  rw [Nat.pow_succ, ← Nat.mul_assoc]
  omega
theorem cz_mono {c k j : Nat} (h : k ≤ j) : cz c k ≤ cz c j := by
  induction h with
  | refl => exact Nat.le_refl _
  | step _ ih => rw [cz_succ]; omega
theorem cz_add {c k : Nat} : ∀ s, cz c k + (s + 2) * (cz c k + 1) ≤ cz c (k + s + 1)
  | 0 => by rw [cz_succ]; show cz c k + 2 * (cz c k + 1) ≤ 3 * cz c k + 2; omega
  | s + 1 => by
    have ih := cz_add (c := c) (k := k) s
    rw [show k + (s + 1) + 1 = k + s + 1 + 1 from rfl, cz_succ, Nat.succ_mul]
    omega
theorem CD.pos {a : Nat} {f : Nat → Rat} (h : CD a f) : 1 ≤ a := by
  obtain ⟨D, n, h1, h2, h3, h4⟩ := h
  rcases a with _ | a
  · unfold Lt at h2; rw [Nat.pow_zero] at h2; omega
  · omega
theorem CD_nil {a : Nat} (h : 1 ≤ a) : CD a (co []) := ⟨1, fun _ => 0, by decide, Lt.mono (k := 1) (by unfold Lt; decide) h, fun _ => Lt.zero, fun j => by rw [co_nil, Rat.zero_mul]; rfl⟩
theorem CD_monQ {a : Nat} {p : List Rat} (h : CD a (co p)) : CD a (co (monQ p)) := by
  by_cases h0 : trim p = []
  · have : monQ p = [] := by unfold monQ; rw [h0]; rfl
    rw [this]; exact CD_nil h.pos
  · exact (CD.mon (d := (trim p).length - 1) h (lead_ne h0)).congr fun j => co_monQ
theorem CD_der {a : Nat} {p : List Rat} (h : CD a (co p)) (h8 : p.length ≤ 8) : CD (a + 1) (co (trim (derL p))) :=
  CD.congr (h.der (N := 8) (fun i hi => co_ge (by omega)) (by decide)) fun j => by rw [co_trim, co_derL]
theorem PL.cd {h : Hp} {B C : Nat} {l : Sl} {p : List Rat} (hp : PL h B l p) (hc : CD C (co p)) : PL h C l p := hp.re fun v hv => by
  obtain ⟨i, hi, rfl⟩ := List.mem_iff_getElem.1 hv
  have := hc.br i
  rwa [co_lt hi] at this
theorem CD_list {B k : Nat} {p : List Rat} (hp : ∀ v ∈ p, BR B v) (hB : 1 ≤ B) (h8 : p.length ≤ k) : CD ((k + 1) * B + 1) (co p) := CD.of_BR (fun j => by
  rcases Nat.lt_or_ge j p.length with h | h
  · rw [co_lt h]; exact hp _ (List.getElem_mem h)
  · rw [co_ge h]; exact BR_zero.mono hB) fun i hi => co_ge (by omega)
def negT (r : List Rat) : List Rat := trim (r.map ((((-1 : Int) : Rat)) * ·))
theorem m1_ne : (((-1 : Int) : Rat)) ≠ 0 := by decide
theorem negT_len {r : List Rat} (hr : nf r) : (negT r).length = r.length := by
  unfold negT
  rw [trim_nf (nf_mapc m1_ne hr), List.length_map]
theorem negT_ne {r : List Rat} (hr : nf r) (h : r ≠ []) : negT r ≠ [] := fun hh => h (List.eq_nil_of_length_eq_zero (by rw [← negT_len hr, hh]; rfl))
theorem negT_nil : negT [] = [] := rfl
theorem nf_negT {r : List Rat} : nf (negT r) := nf_trim
theorem CD_negT {a : Nat} {r : List Rat} (h : CD a (co r)) : CD a (co (negT r)) := h.neg.congr fun j => by unfold negT; rw [co_trim, co_mapc]
/-- Sizes of two neighbours. -/
structure SzI (c : Nat) (x y : List Rat) : Prop where
  lt : y.length < x.length
  le : x.length ≤ 8
  nx : nf x
  ny : nf y
  cx : CD (cz c (8 - x.length)) (co x)
  cy : CD (cz c (8 - x.length)) (co y)
section
variable {c : Nat} {x y r : List Rat}
theorem SzI.bx (hs : SzI c x y) : CD (cz c 7) (co x) := hs.cx.mono (cz_mono (by have := hs.lt; omega))
theorem SzI.by' (hs : SzI c x y) : CD (cz c 7) (co y) := hs.cy.mono (cz_mono (by have := hs.lt; omega))
theorem SzI.ty (hs : SzI c x y) : trim y = y := trim_nf hs.ny
theorem SzI.tx (hs : SzI c x y) : trim x = x := trim_nf hs.nx
theorem SzI.top (hs : SzI c x y) (h0 : y ≠ []) : co y ((trim y).length - 1) ≠ 0 := by rw [hs.ty]; exact nf_top hs.ny h0
theorem SzI.room (hs : SzI c x y) (h0 : y ≠ []) : cz c (8 - x.length) + ((trim x).length + 1 - (trim y).length) * (cz c (8 - x.length) + 1) ≤ cz c (8 - y.length) := by
  rw [hs.tx, hs.ty]
  have h1 := hs.lt
  have h2 := hs.le
  have h3 := cz_add (c := c) (k := 8 - x.length) (x.length - y.length - 1)
  have e1 : x.length - y.length - 1 + 2 = x.length + 1 - y.length := by omega
  have e2 : 8 - x.length + (x.length - y.length - 1) + 1 = 8 - y.length := by omega
  rwa [e1, e2] at h3
theorem SzI.rest (hs : SzI c x y) (h0 : y ≠ []) {k j : Nat} (hk : k ≤ (trim x).length + 1 - (trim y).length) : BR (cz c 7) (restK (co y) ((trim y).length - 1) ((trim x).length + 1 - (trim y).length) (co x) k j) := by
  refine (((hs.cx.restK hs.cy (hs.top h0)).br j).mono ?_ : BR _ _)
  refine Nat.le_trans ?_ (Nat.le_trans (hs.room h0) (cz_mono (by have := List.length_pos_iff.2 h0; omega)))
  exact Nat.add_le_add_left (Nat.mul_le_mul_right _ hk) _
theorem SzI.step (hs : SzI c x y) (h0 : y ≠ []) (hr : nf r) (hl : r.length ≤ y.length - 1) (hc : ∀ A, CD A (co (remL x y)) → CD A (co r)) : SzI c y r := by
  have hp := List.length_pos_iff.2 h0
  have h1 := hs.lt
  have h2 := hs.le
  refine ⟨by omega, by omega, hs.ny, hr, hs.cy.mono (cz_mono (by omega)), hc _ ?_⟩
  exact (CD_remL hs.cx hs.cy (by rw [hs.ty]; exact h0)).mono (hs.room h0)
theorem remL_le (hs : SzI c x y) : (remL x y).length ≤ y.length - 1 := by have := remL_len (p := x) (q := y); rwa [hs.ty] at this
theorem SzI.mon (hs : SzI c x y) (h0 : y ≠ []) : SzI c y (monQ (remL x y)) := hs.step h0 nf_monQ (by rw [monQ_len, trim_nf nf_remL]; exact remL_le hs) fun A => CD_monQ
theorem SzI.neg (hs : SzI c x y) (h0 : y ≠ []) : SzI c y (negT (remL x y)) := hs.step h0 nf_negT (by rw [negT_len nf_remL]; exact remL_le hs) fun A => CD_negT
/-- The greatest common divisor. -/
def gcdQ (a b : List Rat) : List Rat := gcdS ((monQ b).length + 1) (monQ a) (monQ b)
theorem SzI.start {a b : List Rat} (h1 : CD c (co a)) (h2 : CD c (co b)) (hlt : (trim b).length < (trim a).length) (h8 : (trim a).length ≤ 8) : SzI c (monQ a) (monQ b) := by
  refine ⟨by rw [monQ_len, monQ_len]; exact hlt, by rw [monQ_len]; exact h8, nf_monQ, nf_monQ, (CD_monQ h1).mono ?_, (CD_monQ h2).mono ?_⟩
  · have := cz_mono (c := c) (Nat.zero_le (8 - (monQ a).length)); rwa [cz_zero] at this
  · have := cz_mono (c := c) (Nat.zero_le (8 - (monQ a).length)); rwa [cz_zero] at this
theorem gcdS_nil {n : Nat} (x : List Rat) : gcdS n x [] = x := by
  cases n with
  | zero => rfl
  | succ n => unfold gcdS; rw [if_pos rfl]
theorem gcdS_facts : ∀ {n : Nat} {x y : List Rat}, SzI c x y → y.length < n → nf (gcdS n x y) ∧ gcdS n x y ≠ [] ∧ (gcdS n x y).length ≤ x.length ∧ CD (cz c 7) (co (gcdS n x y))
  | n + 1, x, y, hs, hn => by
    have hlt := hs.lt
    unfold gcdS
    by_cases h0 : y = []
    · rw [if_pos h0]
      exact ⟨hs.nx, List.length_pos_iff.1 (by omega), Nat.le_refl _, hs.bx⟩
    · rw [if_neg h0]
      have hs2 := hs.mon h0
      have hlt2 := hs2.lt
      obtain ⟨a, b, c1, d⟩ := gcdS_facts (n := n) hs2 (by omega)
      exact ⟨a, b, by omega, d⟩
theorem gcdQ_facts {a b : List Rat} (h1 : CD c (co a)) (h2 : CD c (co b)) (hlt : (trim b).length < (trim a).length) (h8 : (trim a).length ≤ 8) : nf (gcdQ a b) ∧ gcdQ a b ≠ [] ∧ (gcdQ a b).length ≤ (trim a).length ∧ CD (cz c 7) (co (gcdQ a b)) := by
  have := gcdS_facts (n := (monQ b).length + 1) (SzI.start h1 h2 hlt h8) (Nat.lt_succ_self _)
  rwa [monQ_len (p := a)] at this
theorem quo_len {p q qs rs : List Rat} (hq0 : trim q ≠ []) (hd : divR p q qs rs) : (trim qs).length ≤ p.length := by
  by_cases h0 : trim qs = []
  · rw [h0]; exact Nat.zero_le _
  · have l1 := List.length_pos_iff.2 h0
    have l2 := List.length_pos_iff.2 hq0
    have t1 := nf_top nf_trim h0
    have t2 := nf_top nf_trim hq0
    rw [co_trim] at t1 t2
    have z1 : ∀ i, (trim qs).length - 1 < i → co qs i = 0 := fun i hi => by rw [← co_trim, co_ge (by omega)]
    have z2 : ∀ i, (trim q).length - 1 < i → co q i = 0 := fun i hi => by rw [← co_trim, co_ge (by omega)]
    have h3 := hd.1 ((trim qs).length - 1 + ((trim q).length - 1))
    rw [conv_top z1 z2, hd.2 _ (by omega)] at h3
    rcases Nat.lt_or_ge ((trim qs).length - 1 + ((trim q).length - 1)) p.length with h4 | h4
    · omega
    · exfalso
      rw [co_ge h4, Rat.add_zero] at h3
      rcases Rat.mul_eq_zero.1 h3 with h5 | h5
      · exact t1 h5
      · exact t2 h5
/-- The squarefree part. -/
noncomputable def sqfL (p : List Rat) : List Rat := if trim p = [] then [] else monQ (quoL (monQ p) (gcdQ (monQ p) (trim (derL (monQ p)))))
/-- Sturm's chain from its second member on. -/
def chn : Nat → List Rat → List Rat → List (List Rat)
  | 0, _, _ => []
  | n + 1, p, q => if q = [] then [] else q :: chn n q (negT (remL p q))
theorem chn_nil {n : Nat} (p : List Rat) : chn n p [] = [] := by
  cases n with
  | zero => rfl
  | succ n => unfold chn; rw [if_pos rfl]
/-- Sturm's chain. -/
noncomputable def chainL (p : List Rat) : List (List Rat) := if (trim p).length < 2 then [] else sqfL p :: chn 9 (sqfL p) (trim (derL (sqfL p)))
theorem chN_nil {ps : List (List Rat)} {u : Rat} : chN (ps ++ [[]]) u = chN ps u := by
  unfold chN
  rw [chF_snoc]
  rfl
end
end Den
end

section
set_option linter.unusedVariables false
namespace Den
open Go Iv Pq
theorem conv_z {f g : Nat → Rat} : conv f g 0 = f 0 * g 0 := by
  unfold conv
  rw [sm_succ, sm_zero, Rat.zero_add]
theorem conv_s {f g : Nat → Rat} {n : Nat} : conv f g (n + 1) = f 0 * g (n + 1) + conv (fun i => f (i + 1)) g n := by
  unfold conv
  rw [sm_head]
  congr 1
  exact sm_congr fun i _ => by rw [Nat.add_sub_add_right]
theorem conv_lin {a : Rat} {f g h : Nat → Rat} : ∀ {n : Nat}, conv (fun i => a * f i + g i) h n = a * conv f h n + conv g h n := by
  intro n
  rw [conv_comm, conv_comm (f := f), conv_comm (f := g)]
  unfold conv
  rw [← sm_mul, ← sm_add]
  exact sm_congr fun i _ => by grind
theorem conv_assoc : ∀ {n : Nat} {f g h : Nat → Rat}, conv (conv f g) h n = conv f (conv g h) n
  | 0, f, g, h => by rw [conv_z, conv_z, conv_z, conv_z, Rat.mul_assoc]
  | n + 1, f, g, h => by
    rw [conv_s, conv_s (f := f), conv_s (f := g), conv_z]
    have e : (fun i => conv f g (i + 1)) = fun i => f 0 * g (i + 1) + conv (fun i => f (i + 1)) g i := by
      funext i; exact conv_s
    rw [e, conv_lin (f := fun i => g (i + 1)), conv_assoc (n := n)]
    grind
/-- A power series. -/
structure PS where
  c : Nat → Rat
namespace PS
theorem ext {a b : PS} (h : ∀ n, a.c n = b.c n) : a = b := by
  obtain ⟨f⟩ := a
  obtain ⟨g⟩ := b
  congr 1
  funext n
  exact h n
def cst (r : Rat) : PS := ⟨fun n => if n = 0 then r else 0⟩
instance : Add PS := ⟨fun a b => ⟨fun n => a.c n + b.c n⟩⟩
instance : Mul PS := ⟨fun a b => ⟨conv a.c b.c⟩⟩
instance : Neg PS := ⟨fun a => ⟨fun n => -(a.c n)⟩⟩
instance : _root_.Sub PS := ⟨fun a b => ⟨fun n => a.c n - b.c n⟩⟩
instance : NatCast PS := ⟨fun n => cst n⟩
instance : IntCast PS := ⟨fun n => cst n⟩
instance (n : Nat) : OfNat PS n := ⟨cst (n : Rat)⟩
def pw (a : PS) : Nat → PS
  | 0 => cst 1
  | n + 1 => pw a n * a
instance : HPow PS Nat PS := ⟨pw⟩
instance : SMul Nat PS := ⟨fun n a => cst n * a⟩
instance : SMul Int PS := ⟨fun n a => cst n * a⟩
theorem c_add (a b : PS) (n : Nat) : (a + b).c n = a.c n + b.c n := rfl
theorem c_mul (a b : PS) (n : Nat) : (a * b).c n = conv a.c b.c n := rfl
theorem c_neg (a : PS) (n : Nat) : (-a).c n = -(a.c n) := rfl
theorem c_sub (a b : PS) (n : Nat) : (a - b).c n = a.c n - b.c n := rfl
theorem c_cst (r : Rat) (n : Nat) : (cst r).c n = if n = 0 then r else 0 := rfl
theorem c_cstm (r : Rat) (a : PS) (n : Nat) : (cst r * a).c n = r * a.c n := by
  rw [c_mul]
  have e : r * a.c n = (cst r).c 0 * a.c (n - 0) := by rw [c_cst, if_pos rfl, Nat.sub_zero]
  rw [e]
  unfold conv
  exact sm_one (k := 0) (by omega) fun i _ hi => by rw [c_cst, if_neg hi, Rat.zero_mul]
theorem mul_comm' (a b : PS) : a * b = b * a := ext fun n => conv_comm
instance : Lean.Grind.CommRing PS where
  add_zero a := ext fun n => by
    show a.c n + (cst ((0 : Nat) : Rat)).c n = a.c n
    rw [c_cst]; split <;> exact Rat.add_zero _
  add_comm a b := ext fun n => Rat.add_comm _ _
  add_assoc a b c := ext fun n => Rat.add_assoc _ _ _
  mul_assoc a b c := ext fun n => conv_assoc
  mul_one a := by rw [mul_comm']; exact ext fun n => by
                    show (cst ((1 : Nat) : Rat) * a).c n = a.c n
                    rw [c_cstm]; exact Rat.one_mul _
  one_mul a := ext fun n => by
    show (cst ((1 : Nat) : Rat) * a).c n = a.c n
    rw [c_cstm]; exact Rat.one_mul _
  left_distrib a b c := ext fun n => conv_add
  right_distrib a b c := by
    rw [mul_comm', mul_comm' a, mul_comm' b]
    exact ext fun n => conv_add
  zero_mul a := ext fun n => by
    show (cst ((0 : Nat) : Rat) * a).c n = (cst ((0 : Nat) : Rat)).c n
    rw [c_cstm, c_cst]
    have : ((0 : Nat) : Rat) = 0 := rfl
    rw [this, Rat.zero_mul]; split <;> rfl
  mul_zero a := by
    rw [mul_comm']
    exact ext fun n => by
      show (cst ((0 : Nat) : Rat) * a).c n = (cst ((0 : Nat) : Rat)).c n
      rw [c_cstm, c_cst]
      have : ((0 : Nat) : Rat) = 0 := rfl
      rw [this, Rat.zero_mul]; split <;> rfl
  pow_zero a := rfl
  pow_succ a n := rfl
  ofNat_succ n := ext fun i => by
    show (cst ((n + 1 : Nat) : Rat)).c i = (cst ((n : Nat) : Rat)).c i + (cst ((1 : Nat) : Rat)).c i
    rw [c_cst, c_cst, c_cst]
    split
    · exact Rat.natCast_add n 1
    · exact (Rat.add_zero 0).symm
  neg_add_cancel a := ext fun n => by
    show -(a.c n) + a.c n = (cst ((0 : Nat) : Rat)).c n
    rw [c_cst]
    have : ((0 : Nat) : Rat) = 0 := rfl
    rw [this]; split <;> exact Rat.neg_add_cancel _
  sub_eq_add_neg a b := ext fun n => Rat.sub_eq_add_neg _ _
  neg_zsmul i a := ext fun n => by
    show (cst ((-i : Int) : Rat) * a).c n = -((cst (i : Rat) * a).c n)
    rw [c_cstm, c_cstm, Rat.intCast_neg, Rat.neg_mul]
  mul_comm := mul_comm'
  intCast_neg i := ext fun n => by
    show (cst ((-i : Int) : Rat)).c n = -((cst (i : Rat)).c n)
    rw [c_cst, c_cst]; split
    · exact Rat.intCast_neg i
    · exact (Rat.neg_zero).symm
theorem c_zero (n : Nat) : (0 : PS).c n = 0 := by
  show (cst ((0 : Nat) : Rat)).c n = 0
  rw [c_cst]; split <;> rfl
theorem c_one (n : Nat) : (1 : PS).c n = if n = 0 then 1 else 0 := rfl
/-- The derivative. -/
def d (a : PS) : PS := ⟨der a.c⟩
theorem d_mul (a b : PS) : d (a * b) = d a * b + a * d b := ext fun n => der_conv
theorem low_of {f : Nat → Rat} (h : ∃ n, f n ≠ 0) : ∃ k, f k ≠ 0 ∧ ∀ i, i < k → f i = 0 := by
  obtain ⟨n, hn⟩ := h
  induction n using Nat.strongRecOn with
  | _ n ih =>
    by_cases hh : ∃ m, m < n ∧ f m ≠ 0
    · obtain ⟨m, h1, h2⟩ := hh; exact ih m h1 h2
    · exact ⟨n, hn, fun i hi => Classical.byContradiction fun h => hh ⟨i, hi, h⟩⟩
theorem mul_eq_zero {a b : PS} (h : a * b = 0) : a = 0 ∨ b = 0 := by
  by_cases ha : ∃ n, a.c n ≠ 0
  · by_cases hb : ∃ n, b.c n ≠ 0
    · exfalso
      obtain ⟨i, h1, h2⟩ := low_of ha
      obtain ⟨j, h3, h4⟩ := low_of hb
      have e : (a * b).c (i + j) = a.c i * b.c j := by
        rw [c_mul]
        have e2 : a.c i * b.c j = a.c i * b.c (i + j - i) := by rw [Nat.add_sub_cancel_left]
        rw [e2]
        unfold conv
        refine sm_one (k := i) (f := fun k => a.c k * b.c (i + j - k)) (by omega) fun k hk hne => ?_
        rcases Nat.lt_or_ge k i with hlt | hge
        · rw [h2 k hlt, Rat.zero_mul]
        · rw [h4 (i + j - k) (by omega), Rat.mul_zero]
      rw [h, c_zero] at e
      rcases Rat.mul_eq_zero.1 e.symm with h5 | h5
      · exact h1 h5
      · exact h3 h5
    · right; exact ext fun n => by rw [c_zero]; exact Classical.byContradiction fun hh => hb ⟨n, hh⟩
  · left; exact ext fun n => by rw [c_zero]; exact Classical.byContradiction fun hh => ha ⟨n, hh⟩
theorem cancel {a b c : PS} (ha : a ≠ 0) (h : a * b = a * c) : b = c := by
  have : a * (b - c) = 0 := by grind
  rcases mul_eq_zero this with h1 | h1
  · exact absurd h1 ha
  · grind
/-- Polynomials of a degree below n. -/
def Dg (n : Nat) (a : PS) : Prop := ∀ i, n ≤ i → a.c i = 0
def Fs (a : PS) : Prop := ∃ n, Dg n a
theorem Dg.mono {n m : Nat} {a : PS} (h : Dg n a) (hm : n ≤ m) : Dg m a := fun i hi => h i (by omega)
theorem Fs.add {a b : PS} (ha : Fs a) (hb : Fs b) : Fs (a + b) := by
  obtain ⟨n, hn⟩ := ha
  obtain ⟨m, hm⟩ := hb
  exact ⟨n + m, fun i hi => by rw [c_add, hn i (by omega), hm i (by omega), Rat.add_zero]⟩
theorem Fs.neg {a : PS} (ha : Fs a) : Fs (-a) := by
  obtain ⟨n, hn⟩ := ha
  exact ⟨n, fun i hi => by rw [c_neg, hn i hi, Rat.neg_zero]⟩
theorem Fs.sub {a b : PS} (ha : Fs a) (hb : Fs b) : Fs (a - b) := by
  have : a - b = a + -b := by grind
  rw [this]; exact ha.add hb.neg
theorem Fs.mul {a b : PS} (ha : Fs a) (hb : Fs b) : Fs (a * b) := by
  obtain ⟨n, hn⟩ := ha
  obtain ⟨m, hm⟩ := hb
  exact ⟨n + m, fun i hi => conv_zero_of hn hm (by omega)⟩
theorem Fs.cst (r : Rat) : Fs (cst r) := ⟨1, fun i hi => by rw [c_cst, if_neg (by omega)]⟩
theorem Fs.d {a : PS} (ha : Fs a) : Fs (d a) := by
  obtain ⟨n, hn⟩ := ha
  exact ⟨n, fun i hi => by show der _ i = 0; unfold der; rw [hn (i + 1) (by omega), Rat.mul_zero]⟩
theorem Fs.co (p : List Rat) : Fs ⟨co p⟩ := ⟨p.length, fun i hi => co_ge hi⟩
end PS
end Den
end

section
set_option linter.unusedVariables false
namespace Den
open Go Iv Pq
namespace PS
/-- The polynomial of a list. -/
def ps (p : List Rat) : PS := ⟨co p⟩
theorem ps_c (p : List Rat) (n : Nat) : (ps p).c n = co p n := rfl
theorem ps_fs (p : List Rat) : Fs (ps p) := Fs.co p
def mono (s : Nat) (r : Rat) : PS := ⟨fun i => if i = s then r else 0⟩
theorem mono_fs (s : Nat) (r : Rat) : Fs (mono s r) := ⟨s + 1, fun i hi => by show (if i = s then r else 0) = 0; rw [if_neg (by omega)]⟩
theorem mono_mul (s : Nat) (r : Rat) (b : PS) (j : Nat) : (mono s r * b).c j = if s ≤ j then r * b.c (j - s) else 0 := by
  rw [c_mul]
  by_cases h : s ≤ j
  · rw [if_pos h]
    have e : r * b.c (j - s) = (mono s r).c s * b.c (j - s) := by show _ = (if s = s then r else 0) * _; rw [if_pos rfl]
    rw [e]
    unfold conv
    refine sm_one (k := s) (f := fun i => (mono s r).c i * b.c (j - i)) (by omega) fun i _ hi => ?_
    show (if i = s then r else 0) * _ = 0
    rw [if_neg hi, Rat.zero_mul]
  · rw [if_neg h]
    unfold conv
    refine sm_zeros fun i hi => ?_
    show (if i = s then r else 0) * _ = 0
    rw [if_neg (by omega), Rat.zero_mul]
theorem restK_zero {b f : Nat → Rat} {dd N : Nat} (hb : b dd ≠ 0) (hb2 : ∀ i, dd < i → b i = 0) (hf : ∀ j, N + dd ≤ j → f j = 0) : ∀ {k : Nat}, k ≤ N → ∀ j, N - k + dd ≤ j → restK b dd N f k j = 0
  | 0, _, j, hj => hf j (by omega)
  | k + 1, hk, j, hj => by
    have ih := restK_zero hb hb2 hf (k := k) (by omega)
    show stepF b dd (N - 1 - k) (restK b dd N f k) j = 0
    unfold stepF
    rw [if_pos (by omega)]
    by_cases he : j = N - 1 - k + dd
    · rw [he, Nat.add_sub_cancel_left, Rat.div_mul_cancel hb]
      grind
    · rw [ih j (by omega), hb2 (j - (N - 1 - k)) (by omega)]
      grind
theorem restK_quo {b f : Nat → Rat} {dd N : Nat} : ∀ {k : Nat}, ∃ q : PS, Fs q ∧ (⟨f⟩ : PS) = q * ⟨b⟩ + ⟨restK b dd N f k⟩
  | 0 => ⟨0, ⟨0, fun i _ => c_zero i⟩, by
      show (⟨f⟩ : PS) = 0 * ⟨b⟩ + ⟨f⟩
      grind⟩
  | k + 1 => by
    obtain ⟨q, h1, h2⟩ := restK_quo (b := b) (f := f) (dd := dd) (N := N) (k := k)
    refine ⟨q + mono (N - 1 - k) (restK b dd N f k (N - 1 - k + dd) / b dd), h1.add (mono_fs _ _), ?_⟩
    have e : (⟨restK b dd N f k⟩ : PS) = mono (N - 1 - k) (restK b dd N f k (N - 1 - k + dd) / b dd) * ⟨b⟩ + ⟨restK b dd N f (k + 1)⟩ := ext fun j => by
      rw [c_add, mono_mul]
      show restK b dd N f k j = _ + stepF b dd (N - 1 - k) (restK b dd N f k) j
      unfold stepF
      split <;> grind
    rw [h2]
    grind
/-- The remainder, as a polynomial. -/
theorem rem_eq {p q : List Rat} (hq : trim q ≠ []) : ∃ u : PS, Fs u ∧ ps p = u * ps q + ps (remL p q) := by
  have h0 : co q ((trim q).length - 1) ≠ 0 := by
    have := nf_top nf_trim hq
    rwa [co_trim] at this
  have hl := List.length_pos_iff.2 hq
  obtain ⟨u, h1, h2⟩ := restK_quo (b := co q) (f := co p) (dd := (trim q).length - 1) (N := divN p q) (k := divN p q)
  refine ⟨u, h1, ?_⟩
  have e : ps (remL p q) = ⟨restK (co q) ((trim q).length - 1) (divN p q) (co p) (divN p q)⟩ := ext fun j => by
    rw [ps_c]
    unfold remL
    rw [co_trim, co_range]
    split
    · rfl
    · refine (restK_zero h0 (fun i hi => by rw [← co_trim, co_ge (by omega)]) (fun j hj => ?_) (Nat.le_refl _) j (by omega)).symm
      rw [← co_trim, co_ge]
      unfold divN at hj
      omega
  rw [e]
  exact h2
theorem ps_trim (p : List Rat) : ps (trim p) = ps p := ext fun j => co_trim
theorem ps_nil : ps [] = 0 := ext fun j => by rw [c_zero]; rfl
theorem ps_eq_nil {p : List Rat} (h : ps p = 0) : trim p = [] := nf_eq_nil nf_trim fun i => by rw [co_trim, ← ps_c, h, c_zero]
theorem ps_mon {p : List Rat} (h : trim p ≠ []) : ∃ k : Rat, k ≠ 0 ∧ ps (monQ p) = cst k * ps p ∧ ps p = cst (1 / k) * ps (monQ p) := by
  have hl := lead_ne h
  have hk := inv_ne hl
  refine ⟨(((1 : Int) : Rat)) / lead p, hk, ext fun j => ?_, ext fun j => ?_⟩
  · rw [c_cstm, ps_c, ps_c, co_monQ]
  · rw [c_cstm, ps_c, ps_c, co_monQ, ← Rat.mul_assoc, Rat.div_mul_cancel hk, Rat.one_mul]
theorem ps_mon_nil {p : List Rat} (h : trim p = []) : monQ p = [] := by unfold monQ; rw [h]; rfl
theorem ps_der (p : List Rat) : ps (trim (derL p)) = d (ps p) := ext fun j => by
  rw [ps_c, co_trim, co_derL]; rfl
theorem ps_neg (r : List Rat) : ps (negT r) = -ps r := ext fun j => by
  rw [c_neg, ps_c, ps_c]
  unfold negT
  rw [co_trim, co_mapc]
  have : (((-1 : Int) : Rat)) = -1 := rfl
  rw [this]; grind
/-- Euclid: the greatest common divisor is a combination of both, and divides both. -/
theorem gcd_comb : ∀ {n : Nat} {x y : List Rat}, nf y → y.length < n → ∃ a b x' y' : PS, Fs a ∧ Fs b ∧ Fs x' ∧ Fs y' ∧ ps (gcdS n x y) = a * ps x + b * ps y ∧ ps x = ps (gcdS n x y) * x' ∧ ps y = ps (gcdS n x y) * y'
  | n + 1, x, y, hy, hn => by
    unfold gcdS
    by_cases h0 : y = []
    · rw [if_pos h0, h0, ps_nil]
      exact ⟨1, 0, 1, 0, Fs.cst 1, Fs.cst 0, Fs.cst 1, Fs.cst 0, by grind, by grind, by grind⟩
    · rw [if_neg h0]
      have ht : trim y ≠ [] := by rw [trim_nf hy]; exact h0
      obtain ⟨u, hu, hr⟩ := rem_eq (p := x) ht
      have hl : (monQ (remL x y)).length < n := by
        rw [monQ_len, trim_nf nf_remL]
        have := remL_len (p := x) (q := y)
        rw [trim_nf hy] at this
        have := List.length_pos_iff.2 h0
        omega
      obtain ⟨a, b, x', y', ha, hb, hx', hy', e1, e2, e3⟩ := gcd_comb (n := n) (x := y) (y := monQ (remL x y)) nf_monQ hl
      obtain ⟨G, hG⟩ : ∃ G, G = ps (gcdS n y (monQ (remL x y))) := ⟨_, rfl⟩
      rw [← hG] at e1 e2 e3 ⊢
      by_cases hz : trim (remL x y) = []
      · have hr0 : ps (remL x y) = 0 := by rw [← ps_trim, hz, ps_nil]
        have hm0 : ps (monQ (remL x y)) = 0 := by rw [ps_mon_nil hz, ps_nil]
        rw [hr0] at hr
        rw [hm0] at e1
        exact ⟨0, a, u * x', x', Fs.cst 0, ha, hu.mul hx', hx', by grind, by grind, by grind⟩
      · obtain ⟨k, hk, m1, m2⟩ := ps_mon hz
        rw [m1] at e1
        rw [m2] at hr
        exact ⟨b * cst k, a - b * cst k * u, u * x' + cst (1 / k) * y', x', hb.mul (Fs.cst k), ha.sub ((hb.mul (Fs.cst k)).mul hu), (hu.mul hx').add ((Fs.cst _).mul hy'), hx', by rw [m2] at e1; rw [m1] at e1; grind, by grind, by grind⟩
/-- Powers. -/
theorem d_pow (a : PS) : ∀ n : Nat, a * d (a ^ n) = cst n * (a ^ n) * d a
  | 0 => by
    have : d (a ^ 0) = 0 := ext fun j => by
      show der (cst 1).c j = _
      unfold der
      rw [c_cst, if_neg (by omega), c_zero, Rat.mul_zero]
    rw [this]
    have : cst ((0 : Nat) : Rat) = 0 := rfl
    rw [this]
    grind
  | n + 1 => by
    have e : a ^ (n + 1) = a ^ n * a := rfl
    rw [e, d_mul]
    have ih := d_pow a n
    have hc : cst ((n + 1 : Nat) : Rat) = cst (n : Rat) + 1 := ext fun j => by
      rw [c_add, c_cst, c_cst, c_one]
      split
      · exact Rat.natCast_add n 1
      · exact (Rat.add_zero 0).symm
    rw [hc]
    grind
theorem pow_ne {a : PS} (h : a ≠ 0) : ∀ n : Nat, a ^ n ≠ 0
  | 0, hh => by
    have := congrArg (fun x : PS => x.c 0) hh
    have e : (a ^ 0).c 0 = 1 := rfl
    simp only [e, c_zero] at this
    exact absurd this (by decide)
  | n + 1, hh => by
    have e : a ^ (n + 1) = a ^ n * a := rfl
    rw [e] at hh
    rcases mul_eq_zero hh with h1 | h1
    · exact pow_ne h n h1
    · exact h h1
theorem pow_dvd {g A B s t q P Q : PS} (hq0 : q ≠ 0) (hs : Fs s) (ht : Fs t) (hA' : Fs A) (hB : Fs B) (hg : Fs g) (hP : Fs P) (hQ : Fs Q) (h1 : d (g * A) = g * B) (h2 : s * A + t * B = 1) (hA : A = q * P) (hd : d A = q * Q) : ∀ j : Nat, ∃ h, Fs h ∧ g = q ^ j * h
  | 0 => ⟨g, hg, by have e : q ^ 0 = (1 : PS) := rfl
                    rw [e]; grind⟩
  | j + 1 => by
    obtain ⟨h, hh, e⟩ := pow_dvd hq0 hs ht hA' hB hg hP hQ h1 h2 hA hd j
    have hj := pow_ne hq0 j
    obtain ⟨X, hX⟩ : ∃ X, X = q ^ j := ⟨_, rfl⟩
    have dX := d_pow q j
    rw [← hX] at e hj dX
    have dq := d_mul q P
    rw [← hA, hd] at dq
    have dg := d_mul X h
    rw [← e] at dg
    rw [d_mul] at h1
    -- (j q' h + q h') P = h (B - A')
    have k1 : (cst (j : Rat) * d q * h + q * d h) * P = h * (B - q * Q) := by
      refine cancel hj ?_
      have : q * d g = X * (cst (j : Rat) * d q * h + q * d h) := by rw [dg]; grind
      have h3 : q * d g * P = g * (B - q * Q) := by rw [hd] at h1; grind
      grind
    have k2 : h * B = q * (cst (j : Rat) * h * (Q - d P) + d h * P + h * Q) := by grind
    refine ⟨h * s * P + t * (cst (j : Rat) * h * (Q - d P) + d h * P + h * Q), ?_, ?_⟩
    · exact ((hh.mul hs).mul hP).add (ht.mul ((((((Fs.cst _).mul hh).mul (hQ.sub hP.d)).add (hh.d.mul hP))).add (hh.mul hQ)))
    · have e2 : q ^ (j + 1) = X * q := by rw [hX]; rfl
      rw [e2]
      have h4 : h = h * s * A + t * (h * B) := by grind
      rw [e]
      grind
theorem top_ps {a : PS} (ha : Fs a) (h0 : a ≠ 0) : ∃ k, a.c k ≠ 0 ∧ ∀ i, k < i → a.c i = 0 := by
  obtain ⟨n, hn⟩ := ha
  rcases top_of hn with h | ⟨k, _, h1, h2⟩
  · exact absurd (ext fun i => by rw [h, c_zero]) h0
  · exact ⟨k, h1, h2⟩
theorem top_mul {a b : PS} {k j : Nat} (h1 : a.c k ≠ 0) (h2 : ∀ i, k < i → a.c i = 0) (h3 : b.c j ≠ 0) (h4 : ∀ i, j < i → b.c i = 0) : (a * b).c (k + j) ≠ 0 ∧ ∀ i, k + j < i → (a * b).c i = 0 := by
  refine ⟨?_, fun i hi => ?_⟩
  · rw [c_mul, conv_top h2 h4]
    intro hh
    rcases Rat.mul_eq_zero.1 hh with h | h
    · exact h1 h
    · exact h3 h
  · exact conv_zero_of (a := k + 1) (b := j + 1) (fun i hi => h2 i (by omega)) (fun i hi => h4 i (by omega)) (by omega)
theorem top_pow {a : PS} {k : Nat} (h1 : a.c k ≠ 0) (h2 : ∀ i, k < i → a.c i = 0) : ∀ n : Nat, (a ^ n).c (n * k) ≠ 0 ∧ ∀ i, n * k < i → (a ^ n).c i = 0
  | 0 => by
    refine ⟨?_, fun i hi => ?_⟩
    · rw [Nat.zero_mul]; show (cst 1).c 0 ≠ 0; decide
    · show (cst 1).c i = 0; rw [c_cst, if_neg (by omega)]
  | n + 1 => by
    obtain ⟨h3, h4⟩ := top_pow h1 h2 n
    have := top_mul h3 h4 h1 h2
    rw [Nat.succ_mul]
    exact this
/-- A common divisor of A and A' is constant, if g A and its derivative have the greatest common divisor g. -/
theorem coprime {g A B s t q P Q : PS} (hg0 : g ≠ 0) (hs : Fs s) (ht : Fs t) (hA' : Fs A) (hB : Fs B) (hg : Fs g) (hqf : Fs q) (hP : Fs P) (hQ : Fs Q) (h1 : d (g * A) = g * B) (h2 : s * A + t * B = 1) (hA : A = q * P) (hd : d A = q * Q) (hA0 : A ≠ 0) : ∀ i, 0 < i → q.c i = 0 := by
  have hq0 : q ≠ 0 := fun hh => hA0 (by rw [hA, hh]; grind)
  obtain ⟨k, k1, k2⟩ := top_ps hqf hq0
  rcases Nat.eq_zero_or_pos k with hk | hk
  · intro i hi; exact k2 i (by omega)
  · exfalso
    obtain ⟨n, hn⟩ := hg
    obtain ⟨h, hh, e⟩ := pow_dvd hq0 hs ht hA' hB ⟨n, hn⟩ hP hQ h1 h2 hA hd n
    have h0 : h ≠ 0 := fun h3 => hg0 (by rw [e, h3]; grind)
    obtain ⟨m, m1, m2⟩ := top_ps hh h0
    obtain ⟨p1, p2⟩ := top_pow k1 k2 n
    have := (top_mul p1 p2 m1 m2).1
    rw [← e] at this
    refine this (hn _ ?_)
    have := Nat.mul_le_mul_left n hk
    omega
end PS
end Den
end
