/-
  Part 5 of the tools and contracts from which the statement is proved.
-/
import Derived.Test.YtnobfpkmhbmgbaaGreatPart4
import Derived.Test.YtnobfpkmhbmgbaaGreatProg
import Derived.RangeFuncBox
import Derived.RangeFuncLeaves
import Derived.Shelf.Abstract
import Derived.WalkKit
import Derived.OwnWalkIn
import Derived.TacticsInMore
import Derived.LoopNIn
import Derived.LoopIn
import Derived.Laws.Externs
set_option linter.unusedVariables false
section
/-
  Intervals: signs, meets, rounding, square roots (the program's and the reference's).
-/
set_option linter.unusedVariables false
namespace Iv
open Den
/-- t is the least number whose square is not less than m / n. -/
def UP (m n : Int) (t : Nat) : Prop := m ≤ (t : Int) * t * n ∧ (t = 0 ∨ ∃ s : Nat, t = s + 1 ∧ (s : Int) * s * n < m)
theorem UP.uniq {m n : Int} {t u : Nat} (hn : 0 < n) (h1 : UP m n t) (h2 : UP m n u) : t = u := by
  have key : ∀ {t u : Nat}, UP m n t → UP m n u → ¬ t < u := fun {t u} h1 h2 hlt => by
    rcases h2.2 with h3 | ⟨s, h3, h4⟩
    · omega
    · have h5 : (t : Int) * t ≤ (s : Int) * s := by
        have : t * t ≤ s * s := Nat.mul_le_mul (by omega) (by omega)
        exact_mod_cast this
      have h6 := Int.mul_le_mul_of_nonneg_right h5 (Int.le_of_lt hn)
      have := h1.1
      omega
  have k1 := key h1 h2
  have k2 := key h2 h1
  omega
theorem up_ceil {m n c : Int} {s : Nat} (hn : 0 < n) (hc1 : m ≤ c * n) (hc2 : (c - 1) * n < m) (h1 : (s : Int) * s ≤ c) (h2 : c < ((s : Int) + 1) * (s + 1)) :
    UP m n (if (s : Int) * s < c then s + 1 else s) := by
  split
  · rename_i h
    refine ⟨?_, .inr ⟨s, rfl, ?_⟩⟩
    · have : c * n ≤ (((s + 1 : Nat) : Int) * ((s + 1 : Nat) : Int)) * n := Int.mul_le_mul_of_nonneg_right (by simp only [Int.natCast_add, Int.natCast_one]; omega) (Int.le_of_lt hn)
      omega
    · have : (s : Int) * s * n ≤ (c - 1) * n := Int.mul_le_mul_of_nonneg_right (by omega) (Int.le_of_lt hn)
      omega
  · rename_i h
    have he : (s : Int) * s = c := by omega
    refine ⟨by rw [he]; exact hc1, ?_⟩
    rcases Nat.eq_zero_or_pos s with h0 | h0
    · exact .inl h0
    · obtain ⟨r, rfl⟩ : ∃ r, s = r + 1 := ⟨s - 1, by omega⟩
      refine .inr ⟨r, rfl, ?_⟩
      have h3 : (r : Int) * r ≤ c - 1 := by
        rw [← he]
        simp only [Int.natCast_add, Int.natCast_one]
        have : 0 ≤ (r : Int) := by omega
        rw [Int.add_mul, Int.mul_add]; omega
      have := Int.mul_le_mul_of_nonneg_right h3 (Int.le_of_lt hn)
      omega
theorem up_floor {m n f : Int} {s : Nat} (hn : 0 < n) (hf1 : f * n ≤ m) (hf2 : m < (f + 1) * n) (h1 : (s : Int) * s ≤ f) (h2 : f < ((s : Int) + 1) * (s + 1)) :
    UP m n (if (s : Int) * s * n < m then s + 1 else s) := by
  split
  · rename_i h
    refine ⟨?_, .inr ⟨s, rfl, h⟩⟩
    have : (f + 1) * n ≤ (((s + 1 : Nat) : Int) * ((s + 1 : Nat) : Int)) * n := Int.mul_le_mul_of_nonneg_right (by simp only [Int.natCast_add, Int.natCast_one]; omega) (Int.le_of_lt hn)
    omega
  · rename_i h
    refine ⟨by omega, ?_⟩
    rcases Nat.eq_zero_or_pos s with h0 | h0
    · exact .inl h0
    · obtain ⟨r, rfl⟩ : ∃ r, s = r + 1 := ⟨s - 1, by omega⟩
      refine .inr ⟨r, rfl, ?_⟩
      have h3 : (r : Int) * r < ((r + 1 : Nat) : Int) * ((r + 1 : Nat) : Int) := by
        simp only [Int.natCast_add, Int.natCast_one]
        have : 0 ≤ (r : Int) := by omega
        rw [Int.add_mul, Int.mul_add]; omega
      have h4 := Int.mul_lt_mul_of_pos_right h3 hn
      have h5 := Int.mul_le_mul_of_nonneg_right h1 (Int.le_of_lt hn)
      omega
theorem floor_divInt {m n : Int} (hn : 0 < n) : (Rat.divInt m n).floor = m / n := by
  have h1 := (rat_cross (q := Rat.divInt m n) (by omega : n ≠ 0)).1 rfl
  rw [Rat.floor_def]
  have hd := Den.dpos (Rat.divInt m n)
  generalize (Rat.divInt m n).num = N at *
  generalize ((Rat.divInt m n).den : Int) = D at *
  have e1 : N / D = (N * n) / (D * n) := (Int.mul_ediv_mul_of_pos_left N D hn).symm
  have e2 : m / n = (m * D) / (n * D) := (Int.mul_ediv_mul_of_pos_left m n hd).symm
  rw [e1, e2, h1, Int.mul_comm D n]
/-- A product with a whole number. -/
theorem mul_whole (p : Rat) (N : Int) : p * (Rat.divInt N 1) = Rat.divInt (p.num * N) p.den := by
  have := Rat.divInt_mul_divInt p.num N (d₁ := p.den) (d₂ := 1)
  rw [Rat.num_divInt_den, Int.mul_one] at this
  exact this
theorem whole_num (N : Int) : (Rat.divInt N 1).num = N ∧ ((Rat.divInt N 1).den : Int) = 1 := by
  have h := rat_eq (n := N) (d := 1) (q := Rat.divInt N 1) (by decide) (Nat.coprime_one_right _) ((rat_cross (q := Rat.divInt N 1) (by decide : (1 : Int) ≠ 0)).1 rfl)
  exact ⟨h.1.symm, h.2.symm⟩
theorem whole_mul (M N : Int) : Rat.divInt M 1 * Rat.divInt N 1 = Rat.divInt (M * N) 1 := by
  have := Rat.divInt_mul_divInt M N (d₁ := 1) (d₂ := 1)
  rw [Int.mul_one] at this
  exact this
theorem whole_lt {x m n : Int} (hn : 0 < n) : Rat.divInt x 1 < Rat.divInt m n ↔ x * n < m := by
  rw [Rat.lt_iff]
  have h1 := whole_num x
  rw [h1.1, h1.2, Int.mul_one]
  have h2 := (rat_cross (q := Rat.divInt m n) (by omega : n ≠ 0)).1 rfl
  have hd := Den.dpos (Rat.divInt m n)
  generalize (Rat.divInt m n).num = N at *
  generalize ((Rat.divInt m n).den : Int) = D at *
  constructor
  · intro h
    have h3 := Int.mul_lt_mul_of_pos_right h hn
    have h4 : x * n * D < m * D := by rw [h2, Int.mul_right_comm]; exact h3
    exact Int.lt_of_mul_lt_mul_right h4 (Int.le_of_lt hd)
  · intro h
    have h3 := Int.mul_lt_mul_of_pos_right h hd
    rw [h2, Int.mul_right_comm] at h3
    exact Int.lt_of_mul_lt_mul_right h3 (Int.le_of_lt hn)
end Iv
end

section
/-
  Intervals: signs, meets, rounding, square roots.
-/
set_option linter.unusedVariables false
namespace Den
open Go Iv
section
variable {h : Hp} {a b : TInterval} {x : TRat} {y : TInt} {p al au bl bu : Rat} {N : Int} {j k : Nat} {Ki : Int → Hp → Prop} {Kb : Bool → Hp → Prop} {KI : TInt → Hp → Prop} {KR : TRat → Hp → Prop} {KV : TInterval → Hp → Prop} {KVE : (TInterval × Int) → Hp → Prop} {KIB : (Int × Bool) → Hp → Prop} {KVB : (TInterval × Bool) → Hp → Prop}

def signV (al au : Rat) : Int × Bool := if al.num.sign = au.num.sign then (al.num.sign, true) else (0, false)
theorem iSign_call (ha : NV h a al au) (b1 : BR j al) (b2 : BR j au) (hj : j ≤ 1000000) (H : KIB (signV al au) h) : callP (F.interval_Sign a) KIB h := by
  refine callP_same _ (fun K' hk => ?_) H
  unfold F.interval_Sign
  unfold signV at hk
  refine qSign_call ha.1 b1 (by omega) (qSign_call ha.2 b2 (by omega) (ifP_eq (fun h1 => ?_) (fun h1 => ?_)))
  · rw [if_pos h1] at hk; exact hk
  · rw [if_neg h1] at hk; exact hk
theorem riSign_call (ha : NV h a al au) (b1 : BR j al) (b2 : BR j au) (hj : j ≤ 1000000) (H : KIB (signV al au) h) : callP (F.ref03_Sign a) KIB h := by
  refine callP_same _ (fun K' hk => ?_) H
  unfold F.ref03_Sign
  unfold signV at hk
  refine rqSign_call ha.1 b1 (by omega) (rqSign_call ha.2 b2 (by omega) (ifP_ne (fun h1 => ?_) (fun h1 => ?_)))
  · rw [if_neg h1] at hk; exact hk
  · rw [if_pos h1] at hk; exact hk

def meetL (al bl : Rat) : Rat := if al < bl then bl else al
def meetU (au bu : Rat) : Rat := if bu < au then bu else au
theorem meetL_BR (b1 : BR j al) (b3 : BR j bl) : BR j (meetL al bl) := by unfold meetL; split <;> assumption
theorem meetU_BR (b2 : BR j au) (b4 : BR j bu) : BR j (meetU au bu) := by unfold meetU; split <;> assumption
theorem iMeet_call (ha : NV h a al au) (hb : NV h b bl bu) (b1 : BR j al) (b2 : BR j au) (b3 : BR j bl) (b4 : BR j bu) (hj : j ≤ 300000)
    (H0 : meetU au bu < meetL al bl → ∀ h', h.le h' → KVB (zeroV, false) h')
    (H : meetL al bl ≤ meetU au bu → ∀ z h', h.le h' → NV h' z (meetL al bl) (meetU au bu) → KVB (z, true) h') : callP (F.interval_Meet a b) KVB h := by
  refine callP_of (fun v h' => (meetU au bu < meetL al bl ∧ v = (zeroV, false)) ∨ (meetL al bl ≤ meetU au bu ∧ NV h' v.1 (meetL al bl) (meetU au bu) ∧ v.2 = true)) (fun K' hk => ?_) fun ⟨z, c⟩ h' hl hv => ?_
  · unfold F.interval_Meet
    refine joinP_inv (fun s h' => h.le h' ∧ NR h' (q4 s.1) (meetL al bl)) ?_ ?_
    · rintro s1 h1 ⟨hl1, hs1⟩
      refine joinP_inv (fun s h' => h1.le h' ∧ NR h' (q4 s.1) (meetU au bu)) ?_ ?_
      · rintro s2 h2 ⟨hl2, hs2⟩
        have hl12 := Hp.le_trans hl1 hl2
        refine qCmp_call (hs1.le hl2) hs2 (meetL_BR b1 b3) (meetU_BR b2 b4) (by omega) (by omega) fun h3 hl3 => ?_
        refine ifP_dec (fun h4 => hk _ _ (Hp.le_trans hl12 hl3) (.inl ⟨cmpQ_gt.1 h4, rfl⟩)) (fun h4 => ?_)
        refine new_rats (xs := [q4 s1.1, q4 s2.1]) 2 rfl fun p5 h5 hl5 hp5 => ?_
        have hl35 := Hp.le_trans hl3 hl5
        have hle : meetL al bl ≤ meetU au bu := by
          rcases Rat.le_total (a := meetL al bl) (b := meetU au bu) with h6 | h6
          · exact h6
          · have : ¬ meetU au bu < meetL al bl := fun hh => h4 (cmpQ_gt.2 hh)
            grind
        refine hull_call (B := j) (v0 := meetL al bl) (vs := [meetU au bu]) hp5 (QL.cons (hs1.le (Hp.le_trans hl2 hl35)) (meetL_BR b1 b3) (QL.cons (hs2.le hl35) (meetU_BR b2 b4) QL.nil)) (by omega) (by simp) (Nat.le_refl _) fun z h6 hl6 hz => hk _ _ (Hp.le_trans hl12 (Hp.le_trans hl35 hl6)) (.inr ⟨hle, ?_, rfl⟩)
        have e1 : [meetU au bu].foldl loS (meetL al bl) = meetL al bl := by simp only [List.foldl_cons, List.foldl_nil, loS]; split <;> grind
        have e2 : [meetU au bu].foldl hiS (meetL al bl) = meetU au bu := by simp only [List.foldl_cons, List.foldl_nil, hiS]; split <;> grind
        rw [e1, e2] at hz; exact hz
      · refine qCmp_call (hb.2.le hl1) (ha.2.le hl1) b4 b2 (by omega) (by omega) fun h3 hl3 => ?_
        have hl13 := Hp.le_trans hl1 hl3
        refine ifP_dec (fun h4 => ⟨hl3, ?_⟩) (fun h4 => ⟨hl3, ?_⟩)
        · rw [meetU, if_pos (cmpQ_lt.1 h4)]; exact hb.2.le hl13
        · rw [meetU, if_neg (fun hh => h4 (cmpQ_lt.2 hh))]; exact ha.2.le hl13
    · refine qCmp_call hb.1 ha.1 b3 b1 (by omega) (by omega) fun h3 hl3 => ?_
      refine ifP_dec (fun h4 => ⟨hl3, ?_⟩) (fun h4 => ⟨hl3, ?_⟩)
      · rw [meetL, if_pos (cmpQ_gt.1 h4)]; exact hb.1.le hl3
      · rw [meetL, if_neg (fun hh => h4 (cmpQ_gt.2 hh))]; exact ha.1.le hl3
  · rcases hv with ⟨h1, h2⟩ | ⟨h1, h2, h3⟩
    · simp only [Prod.mk.injEq] at h2
      obtain ⟨rfl, rfl⟩ := h2
      exact H0 h1 h' hl
    · simp only at h2 h3
      subst h3
      exact H h1 z h' hl h2
theorem riMeet_call (ha : NV h a al au) (hb : NV h b bl bu) (b1 : BR j al) (b2 : BR j au) (b3 : BR j bl) (b4 : BR j bu) (hj : j ≤ 300000)
    (H0 : meetU au bu < meetL al bl → ∀ h', h.le h' → KVB (zeroV, false) h')
    (H : meetL al bl ≤ meetU au bu → ∀ z h', h.le h' → NV h' z (meetL al bl) (meetU au bu) → KVB (z, true) h') : callP (F.ref03_Meet a b) KVB h := by
  refine callP_of (fun v h' => (meetU au bu < meetL al bl ∧ v = (zeroV, false)) ∨ (meetL al bl ≤ meetU au bu ∧ NV h' v.1 (meetL al bl) (meetU au bu) ∧ v.2 = true)) (fun K' hk => ?_) fun ⟨z, c⟩ h' hl hv => ?_
  · unfold F.ref03_Meet
    refine joinP_inv (fun s h' => h.le h' ∧ NV h' (q8 s.1) (meetL al bl) au) ?_ ?_
    · rintro s1 h1 ⟨hl1, hs1⟩
      refine joinP_inv (fun s h' => h.le h' ∧ NV h' (q8 s.1) (meetL al bl) (meetU au bu)) ?_ ?_
      · rintro s2 h2 ⟨hl2, hs2⟩
        refine rqCmp_call hs2.1 hs2.2 (meetL_BR b1 b3) (meetU_BR b2 b4) (by omega) (by omega) fun h3 hl3 => ?_
        refine ifP_dec (fun h4 => hk _ _ (Hp.le_trans hl2 hl3) (.inl ⟨cmpQ_gt.1 h4, rfl⟩)) (fun h4 => hk _ _ (Hp.le_trans hl2 hl3) (.inr ⟨?_, hs2.le hl3, rfl⟩))
        have : ¬ meetU au bu < meetL al bl := fun hh => h4 (cmpQ_gt.2 hh)
        grind
      · refine rqCmp_call (hb.2.le hl1) hs1.2 b4 b2 (by omega) (by omega) fun h3 hl3 => ?_
        have hl13 := Hp.le_trans hl1 hl3
        refine ifP_dec (fun h4 => ⟨hl13, hs1.1.le hl3, ?_⟩) (fun h4 => ⟨hl13, hs1.1.le hl3, ?_⟩)
        · rw [meetU, if_pos (cmpQ_lt.1 h4)]; exact hb.2.le hl13
        · rw [meetU, if_neg (fun hh => h4 (cmpQ_lt.2 hh))]; exact hs1.2.le hl3
    · refine rqCmp_call hb.1 ha.1 b3 b1 (by omega) (by omega) fun h3 hl3 => ?_
      refine ifP_dec (fun h4 => ⟨hl3, ?_, ha.2.le hl3⟩) (fun h4 => ⟨hl3, ?_, ha.2.le hl3⟩)
      · rw [meetL, if_pos (cmpQ_gt.1 h4)]; exact hb.1.le hl3
      · rw [meetL, if_neg (fun hh => h4 (cmpQ_gt.2 hh))]; exact ha.1.le hl3
  · rcases hv with ⟨h1, h2⟩ | ⟨h1, h2, h3⟩
    · simp only [Prod.mk.injEq] at h2
      obtain ⟨rfl, rfl⟩ := h2
      exact H0 h1 h' hl
    · simp only at h2 h3
      subst h3
      exact H h1 z h' hl h2

/-! ### Rounding -/

theorem ediv_Lt {m n : Int} (hm : Lt k m) : Lt k (m / n) := hm.le (Int.natAbs_ediv_le_natAbs _ _)
theorem floor_call (hx : NR h x p) (hy : NI h y N) (op : BR k p) (oN : Lt j N) (hk : k ≤ 400000) (hj : j ≤ 400000) (H : ∀ z h', h.le h' → NI h' z (p.num * N / p.den) → KI z h') : callP (F.interval_floor x y) KI h := by
  refine callP_of _ (fun K' hk => ?_) H
  unfold F.interval_floor
  refine Mul_call hx.1 hy (op.1.ok (by omega)) (oN.ok (by omega)) fun z h1 hl1 hz => ?_
  refine DivMod_call hz (hx.2.le hl1) ((op.1.mul oN).ok (by omega)) (op.2.ok (by omega)) (den_ne p) fun u w h2 q r hl2 hu hw hdm => hk _ _ (Hp.le_trans hl1 hl2) ?_
  have := hdm.div (den_ne p) (.inl (dpos p))
  subst this
  exact hu
theorem ceil_call (hx : NR h x p) (hy : NI h y N) (op : BR k p) (oN : Lt j N) (hk : k ≤ 400000) (hj : j ≤ 400000) (H : ∀ z h', h.le h' → NI h' z (-(-(p.num * N) / p.den)) → KI z h') : callP (F.interval_ceil x y) KI h := by
  refine callP_of _ (fun K' hk => ?_) H
  unfold F.interval_ceil
  refine qNeg_call hx op (by omega) fun z h1 hl1 hz => ?_
  refine floor_call hz (hy.le hl1) op.neg oN (by omega) (by omega) fun u h2 hl2 hu => ?_
  rw [Rat.neg_num, Rat.neg_den, Int.neg_mul] at hu
  refine Neg_call hu ((ediv_Lt (op.1.mul oN).neg).ok (by omega)) fun w h3 hl3 hw => hk _ _ (Hp.le_trans hl1 (Hp.le_trans hl2 hl3)) hw
theorem over_call {u v : TInt} {m n : Int} (hu : NI h u m) (hv : NI h v n) (om : Lt k m) (on : Lt k n) (hk : k ≤ 1000000) (h0 : n ≠ 0) (H : ∀ z h', h.le h' → NR h' z (Rat.divInt m n) → KR z h') : callP (F.interval_over u v) KR h := by
  refine callP_of _ (fun K' hk => ?_) H
  unfold F.interval_over
  refine qMake_call hu hv om on (by omega) h0 fun z h1 hl1 hz => hk _ _ hl1 hz
theorem unit_call {n : Nat} (hn : n ≤ 4096) (H : ∀ z h', h.le h' → NR h' z (Rat.divInt ((2 ^ n : Nat) : Int) 1) → KR z h') : callP (F.ref03_unit (n : Int)) KR h := by
  refine callP_of _ (fun K' hk => ?_) H
  unfold F.ref03_unit
  refine rFromInt_call (by decide) (by decide) fun z h1 hl1 hz => rPow_call hz hn fun w h2 hl2 hw => rFromInt_call (by decide) (by decide) fun o h3 hl3 ho => ?_
  refine rqMake_call (k := 200) (hw.le hl3) ho ((pow2_Lt (n := n)).mono (by omega)) (by unfold Lt; exact Nat.one_lt_pow (by decide) (by decide)) (by decide) (by decide) fun v h4 hl4 hv => hk _ _ (Hp.le_trans hl1 (Hp.le_trans hl2 (Hp.le_trans hl3 hl4))) hv
theorem pow2_ne (n : Nat) : ((2 ^ n : Nat) : Int) ≠ 0 := by have := Nat.two_pow_pos n; omega
theorem BR_whole {N : Int} (h : Lt k N) (hk : 1 ≤ k) : BR k (Rat.divInt N 1) := by
  have e := whole_num N
  exact ⟨by rw [e.1]; exact h, by rw [e.2]; unfold Lt; exact Nat.one_lt_pow (by omega) (by decide)⟩
/-- Rounded down and up. -/
def dnQ (p : Rat) (n : Nat) : Rat := Rat.divInt (p.num * (2 ^ n : Nat) / p.den) (2 ^ n : Nat)
def upQ (p : Rat) (n : Nat) : Rat := Rat.divInt (-(-(p.num * (2 ^ n : Nat)) / p.den)) (2 ^ n : Nat)
theorem down_call {n : Nat} (hn : n ≤ 4096) (hx : NR h x p) (op : BR k p) (hk : k ≤ 300000) (H : ∀ z h', h.le h' → NR h' z (dnQ p n) → KR z h') : callP (F.ref03_down x (n : Int)) KR h := by
  refine callP_of _ (fun K' hk => ?_) H
  unfold F.ref03_down
  have l2 : Lt 200 ((2 ^ n : Nat) : Int) := (pow2_Lt (n := n)).mono (by omega)
  have bV : BR 200 (Rat.divInt ((2 ^ n : Nat) : Int) 1) := BR_whole l2 (by decide)
  refine unit_call hn fun u h1 hl1 hu => ?_
  refine rqMul_call (hx.le hl1) hu op bV (by omega) (by omega) fun v h2 hl2 hv => ?_
  refine rqFloor_call hv (op.mul bV) (by omega) fun w h3 hl3 hw => ?_
  rw [mul_whole, floor_divInt (dpos p)] at hw
  have hun := hu.1
  rw [(whole_num _).1] at hun
  refine rqMake_call (k := k + 200) hw (hun.le (Hp.le_trans hl2 hl3)) (ediv_Lt (op.1.mul l2)) (l2.mono (by omega)) (by omega) (pow2_ne n) fun z h4 hl4 hz => hk _ _ (Hp.le_trans hl1 (Hp.le_trans hl2 (Hp.le_trans hl3 hl4))) hz
theorem neg_divInt {m n : Int} (h0 : n ≠ 0) : -(Rat.divInt m n) = Rat.divInt (-m) n := by
  symm
  refine (rat_cross h0).2 ?_
  have h1 := (rat_cross (q := Rat.divInt m n) h0).1 rfl
  rw [Rat.neg_num, Rat.neg_den, Int.neg_mul, Int.neg_mul, h1]
theorem dn_BR {n : Nat} (hn : n ≤ 4096) (op : BR k p) : BR (k + 200) (dnQ p n) := by
  have l2 : Lt 200 ((2 ^ n : Nat) : Int) := (pow2_Lt (n := n)).mono (by omega)
  exact BR.divInt (ediv_Lt (op.1.mul l2)) (l2.mono (by omega)) (pow2_ne n)
theorem up_call {n : Nat} (hn : n ≤ 4096) (hx : NR h x p) (op : BR k p) (hk : k ≤ 300000) (H : ∀ z h', h.le h' → NR h' z (upQ p n) → KR z h') : callP (F.ref03_up x (n : Int)) KR h := by
  refine callP_of _ (fun K' hk => ?_) H
  unfold F.ref03_up
  refine rqNeg_call hx op (by omega) fun z hz => down_call hn hz op.neg (by omega) fun w h1 hl1 hw => ?_
  refine rqNeg_call hw (dn_BR hn op.neg) (by omega) fun v hv => hk _ _ hl1 ?_
  have e : -(dnQ (-p) n) = upQ p n := by
    unfold dnQ upQ
    rw [neg_divInt (pow2_ne n), Rat.neg_num, Rat.neg_den, Int.neg_mul]
  rw [e] at hv; exact hv
theorem iRound_call {n : Nat} (hn : n ≤ 4096) (ha : NV h a al au) (b1 : BR j al) (b2 : BR j au) (hj : j ≤ 300000) (H : ∀ z h', h.le h' → NV h' z (dnQ al n) (upQ au n) → KV z h') : callP (F.interval_Round a (n : Int)) KV h := by
  refine callP_of _ (fun K' hk => ?_) H
  unfold F.interval_Round
  have l2 : Lt 200 ((2 ^ n : Nat) : Int) := (pow2_Lt (n := n)).mono (by omega)
  refine joinP_of (ifP_dec (fun h1 => by omega) (fun h1 => ifP_dec (fun h2 => by omega) (fun h2 => ?_)))
  refine ipower_call (by omega) fun u h3 hl3 hu => ?_
  refine floor_call (ha.1.le hl3) hu b1 l2 (by omega) (by omega) fun f h4 hl4 hf => ?_
  refine over_call (k := j + 200) hf (hu.le hl4) (ediv_Lt (b1.1.mul l2)) (l2.mono (by omega)) (by omega) (pow2_ne n) fun r h5 hl5 hr => ?_
  have hl35 := Hp.le_trans hl3 (Hp.le_trans hl4 hl5)
  refine ceil_call (ha.2.le hl35) (hu.le (Hp.le_trans hl4 hl5)) b2 l2 (by omega) (by omega) fun c h6 hl6 hc => ?_
  refine over_call (k := j + 200) hc (hu.le (Hp.le_trans hl4 (Hp.le_trans hl5 hl6))) (ediv_Lt (b2.1.mul l2).neg).neg (l2.mono (by omega)) (by omega) (pow2_ne n) fun s h7 hl7 hs => ?_
  exact hk _ _ (Hp.le_trans hl35 (Hp.le_trans hl6 hl7)) ⟨hr.le (Hp.le_trans hl6 hl7), hs⟩
theorem riRound_call {n : Nat} (hn : n ≤ 4096) (ha : NV h a al au) (b1 : BR j al) (b2 : BR j au) (hj : j ≤ 300000) (H : ∀ z h', h.le h' → NV h' z (dnQ al n) (upQ au n) → KV z h') : callP (F.ref03_Round a (n : Int)) KV h := by
  refine callP_of _ (fun K' hk => ?_) H
  unfold F.ref03_Round
  refine joinP_of (ifP_dec (fun h1 => by omega) (fun h1 => ifP_dec (fun h2 => by omega) (fun h2 => ?_)))
  refine down_call hn ha.1 b1 (by omega) fun u h3 hl3 hu => ?_
  refine up_call hn (ha.2.le hl3) b2 (by omega) fun w h4 hl4 hw => hk _ _ (Hp.le_trans hl3 hl4) ⟨hu.le hl4, hw⟩
theorem iRound_bad {n : Int} (hn : n < 0 ∨ n > 4096) (H : KV zeroV h) : callP (F.interval_Round a n) KV h := by
  refine callP_same _ (fun K' hk => ?_) H
  unfold F.interval_Round
  exact joinP_of (ifP_dec (fun h1 => hk) (fun h1 => ifP_dec (fun h2 => hk) (fun h2 => by omega)))
end
end Den
end

section
/-
  Intervals: square roots (the program's and the reference's).
-/
set_option linter.unusedVariables false
namespace Iv
theorem sq_cast {c : Nat} {s : Nat} (h : IsSq c s) : (s : Int) * s ≤ (c : Int) ∧ (c : Int) < ((s : Int) + 1) * (s + 1) := by
  refine ⟨?_, ?_⟩
  · have := h.1; exact_mod_cast this
  · have := h.2; exact_mod_cast this
theorem sq_le {c s : Nat} (h : IsSq c s) : s ≤ c := by
  rcases Nat.eq_zero_or_pos s with h0 | h0
  · omega
  · exact Nat.le_trans (Nat.le_mul_of_pos_left s h0) h.1
theorem ceil_facts {m n : Int} (hn : 0 < n) : m ≤ -(-m / n) * n ∧ (-(-m / n) - 1) * n < m := by
  have h1 := Int.ediv_mul_le (-m) (show n ≠ 0 by omega)
  have h2 := Int.lt_ediv_add_one_mul_self (-m) hn
  rw [Int.add_mul] at h2
  constructor
  · rw [Int.neg_mul]; omega
  · rw [Int.sub_mul, Int.neg_mul]; omega
theorem floor_facts {m n : Int} (hn : 0 < n) : m / n * n ≤ m ∧ m < (m / n + 1) * n := ⟨Int.ediv_mul_le m (show n ≠ 0 by omega), Int.lt_ediv_add_one_mul_self m hn⟩
end Iv
namespace Den
open Go Iv
section
variable {h : Hp} {a b : TInterval} {x : TRat} {y : TInt} {p al au bl bu : Rat} {j k : Nat} {KVE : (TInterval × Int) → Hp → Prop}

theorem NI_toNat {h : Hp} {z : TInt} {m : Int} (hz : NI h z m) (hm : 0 ≤ m) : NI h z (m.toNat : Int) := by rw [Int.toNat_of_nonneg hm]; exact hz
theorem Lt_len {m : Int} (hm : Lt k m) (h0 : 0 ≤ m) : (dg m.toNat).length ≤ k := by
  refine dg_len.2 ?_
  have e : m.toNat = m.natAbs := by omega
  rw [e]; exact hm
theorem nonneg_num {q : Rat} (h : 0 ≤ q) : 0 ≤ q.num := Rat.num_nonneg.2 h
theorem up_nonneg {m n : Int} (hm : 0 ≤ m) (hn : 0 < n) : 0 ≤ -(-m / n) := by
  have h2 := (ceil_facts (m := m) hn).1
  rcases Int.lt_or_le (-(-m / n)) 0 with h3 | h3
  · have := Int.mul_neg_of_neg_of_pos h3 hn; omega
  · exact h3
theorem iSqrt_call {n : Nat} (hn : n ≤ 4096) (ha : NV h a al au) (b1 : BR j al) (b2 : BR j au) (hj : j ≤ 100000) (h0 : 0 ≤ al) (hle : al ≤ au)
    (H : ∀ z h' (s t : Nat), h.le h' → NV h' z (Rat.divInt s (2 ^ n : Nat)) (Rat.divInt t (2 ^ n : Nat)) → IsSq (al.num * ((2 ^ (2 * n) : Nat) : Int) / al.den).toNat s → UP (au.num * ((2 ^ (2 * n) : Nat) : Int)) au.den t → Lt (j + 301) s → Lt (j + 301) t → KVE (z, 0) h') : callP (F.interval_Sqrt a (n : Int)) KVE h := by
  refine callP_of (fun v h' => v.2 = 0 ∧ ∃ s t : Nat, NV h' v.1 (Rat.divInt s (2 ^ n : Nat)) (Rat.divInt t (2 ^ n : Nat)) ∧ IsSq (al.num * ((2 ^ (2 * n) : Nat) : Int) / al.den).toNat s ∧ UP (au.num * ((2 ^ (2 * n) : Nat) : Int)) au.den t ∧ Lt (j + 301) s ∧ Lt (j + 301) t) (fun K' hk => ?_) fun ⟨z, c⟩ h' hl hv => by
    obtain ⟨h1, s, t, h2, h3, h4, h5, h6⟩ := hv
    simp only at h1 h2
    subst h1
    exact H z h' s t hl h2 h3 h4 h5 h6
  unfold F.interval_Sqrt
  have hn1 := nonneg_num h0
  have hn2 := nonneg_num (Rat.le_trans h0 hle)
  have l1 : Lt 200 ((2 ^ n : Nat) : Int) := (pow2_Lt (n := n)).mono (by omega)
  have l2 : Lt 300 ((2 ^ (2 * n) : Nat) : Int) := (pow2_Lt (n := 2 * n)).mono (by omega)
  have w2 : IntKind.i64.wrap (2 * (n : Int)) = ((2 * n : Nat) : Int) := by rw [w64 (by omega)]; omega
  refine joinP_inv (fun _ h' => h' = h) ?_ (ifP_dec (fun h1 => by omega) (fun h1 => ifP_dec (fun h2 => by omega) (fun h2 => qSign_call ha.1 b1 (by omega) (ifP_dec (fun h3 => ?_) (fun h3 => rfl)))))
  · rintro _ h' rfl
    rw [w2]
    refine ipower_call (by omega) fun u h3 hl3 hu => ipower_call (by omega) fun v h4 hl4 hv => ?_
    have hl34 := Hp.le_trans hl3 hl4
    refine floor_call (ha.1.le hl34) hv b1 l2 (by omega) (by omega) fun f h5 hl5 hf => ?_
    have hNp : 0 ≤ ((2 ^ (2 * n) : Nat) : Int) := Int.natCast_nonneg _
    have fnn : 0 ≤ al.num * ((2 ^ (2 * n) : Nat) : Int) / al.den := Int.ediv_nonneg (Int.mul_nonneg hn1 hNp) (by omega)
    have fL : Lt (j + 300) (al.num * ((2 ^ (2 * n) : Nat) : Int) / al.den) := ediv_Lt (b1.1.mul l2)
    refine Sqrt_call (NI_toNat hf fnn) (Nat.le_trans (Lt_len fL fnn) (by omega)) fun s h6 s0 hl6 hs hsq => ?_
    have hl36 := Hp.le_trans hl34 (Hp.le_trans hl5 hl6)
    have hl46 := Hp.le_trans hl5 hl6
    refine ceil_call (ha.2.le hl36) (hv.le hl46) b2 l2 (by omega) (by omega) fun c h7 hl7 hc => ?_
    have mnn := Int.mul_nonneg hn2 hNp
    have cnn : 0 ≤ -(-(au.num * ((2 ^ (2 * n) : Nat) : Int)) / au.den) := up_nonneg mnn (dpos au)
    have cL : Lt (j + 300) (-(-(au.num * ((2 ^ (2 * n) : Nat) : Int)) / au.den)) := (ediv_Lt (b2.1.mul l2).neg).neg
    refine Sqrt_call (NI_toNat hc cnn) (Nat.le_trans (Lt_len cL cnn) (by omega)) fun t h8 t0 hl8 ht htq => ?_
    have cf := ceil_facts (m := au.num * ((2 ^ (2 * n) : Nat) : Int)) (dpos au)
    have tc := sq_cast htq
    rw [Int.toNat_of_nonneg cnn] at tc
    have hup := up_ceil (dpos au) cf.1 cf.2 tc.1 tc.2
    have sL : Lt (j + 301) (s0 : Int) := (fL.le (by have := sq_le hsq; omega)).mono (by omega)
    have tL0 : Lt (j + 300) (t0 : Int) := cL.le (by have := sq_le htq; omega)
    generalize hcc : -(-(au.num * ((2 ^ (2 * n) : Nat) : Int)) / au.den) = cc at *
    have hl38 := Hp.le_trans hl36 (Hp.le_trans hl7 hl8)
    have tL : Lt (j + 301) (((if (t0 : Int) * t0 < cc then t0 + 1 else t0 : Nat) : Nat) : Int) := by
      split
      · have : Lt (j + 300) 1 := by unfold Lt; exact Nat.one_lt_pow (by omega) (by decide)
        exact tL0.addm this
      · exact tL0.mono (by omega)
    refine joinP_inv (fun st h' => h8.le h' ∧ NI h' ⟨st.1.1, st.1.2.1⟩ (((if (t0 : Int) * t0 < cc then t0 + 1 else t0 : Nat) : Nat) : Int)) ?_ ?_
    · rintro st h9 ⟨hl9, hst⟩
      have hl69 := Hp.le_trans hl7 (Hp.le_trans hl8 hl9)
      refine over_call (k := j + 301) (hs.le hl69) (hu.le (Hp.le_trans hl4 (Hp.le_trans hl46 hl69))) sL (l1.mono (by omega)) (by omega) (pow2_ne n) fun r1 h10 hl10 hr1 => ?_
      refine over_call (k := j + 301) (hst.le hl10) (hu.le (Hp.le_trans hl4 (Hp.le_trans hl46 (Hp.le_trans hl69 hl10)))) tL (l1.mono (by omega)) (by omega) (pow2_ne n) fun r2 h11 hl11 hr2 => ?_
      exact hk _ _ (Hp.le_trans hl38 (Hp.le_trans hl9 (Hp.le_trans hl10 hl11))) ⟨rfl, s0, _, ⟨hr1.le hl11, hr2⟩, hsq, hup, sL, tL⟩
    · have ot := tL0.ok (by omega)
      refine Mul_call ht ht ot ot fun q h9 hl9 hq => ?_
      refine Cmp_call hq (hc.le (Hp.le_trans hl8 hl9)) ((tL0.mul tL0).ok (by omega)) (cL.ok (by omega)) ?_
      have sr := sign_range ((t0 : Int) * t0 - cc)
      refine ifP_dec (fun h10 => ?_) (fun h10 => ?_)
      · refine FromInt_call (by decide) (by decide) fun o h11 hl11 ho => ?_
        refine Add_call (ht.le (Hp.le_trans hl9 hl11)) ho ot Ok_one fun w h12 hl12 hw => ⟨Hp.le_trans hl9 (Hp.le_trans hl11 hl12), ?_⟩
        rw [if_pos (by omega)]; exact hw
      · refine ⟨hl9, ?_⟩
        rw [if_neg (by omega)]; exact ht.le hl9
  · have := sign_ge.2 h0
    omega
theorem riSqrt_call {n : Nat} (hn : n ≤ 4096) (ha : NV h a al au) (b1 : BR j al) (b2 : BR j au) (hj : j ≤ 100000) (h0 : 0 ≤ al) (hle : al ≤ au)
    (H : ∀ z h' (s t : Nat), h.le h' → NV h' z (Rat.divInt s (2 ^ n : Nat)) (Rat.divInt t (2 ^ n : Nat)) → IsSq (al.num * ((2 ^ (2 * n) : Nat) : Int) / al.den).toNat s → UP (au.num * ((2 ^ (2 * n) : Nat) : Int)) au.den t → KVE (z, 0) h') : callP (F.ref03_Sqrt a (n : Int)) KVE h := by
  refine callP_of (fun v h' => v.2 = 0 ∧ ∃ s t : Nat, NV h' v.1 (Rat.divInt s (2 ^ n : Nat)) (Rat.divInt t (2 ^ n : Nat)) ∧ IsSq (al.num * ((2 ^ (2 * n) : Nat) : Int) / al.den).toNat s ∧ UP (au.num * ((2 ^ (2 * n) : Nat) : Int)) au.den t) (fun K' hk => ?_) fun ⟨z, c⟩ h' hl hv => by
    obtain ⟨h1, s, t, h2, h3, h4⟩ := hv
    simp only at h1 h2
    subst h1
    exact H z h' s t hl h2 h3 h4
  unfold F.ref03_Sqrt
  have hn1 := nonneg_num h0
  have hn2 := nonneg_num (Rat.le_trans h0 hle)
  have l1 : Lt 200 ((2 ^ n : Nat) : Int) := (pow2_Lt (n := n)).mono (by omega)
  have l2 : Lt 300 ((2 ^ (2 * n) : Nat) : Int) := (pow2_Lt (n := 2 * n)).mono (by omega)
  have bV : BR 200 (Rat.divInt ((2 ^ n : Nat) : Int) 1) := BR_whole l1 (by decide)
  have eVV : Rat.divInt ((2 ^ n : Nat) : Int) 1 * Rat.divInt ((2 ^ n : Nat) : Int) 1 = Rat.divInt ((2 ^ (2 * n) : Nat) : Int) 1 := by
    rw [whole_mul, ← Int.natCast_mul, ← Nat.pow_add, show n + n = 2 * n by omega]
  have bVV : BR 300 (Rat.divInt ((2 ^ (2 * n) : Nat) : Int) 1) := BR_whole l2 (by decide)
  refine joinP_of (ifP_dec (fun h1 => by omega) (fun h1 => ifP_dec (fun h2 => by omega) (fun h2 => rqSign_call ha.1 b1 (by omega) (ifP_dec (fun h3 => ?_) (fun h3 => ?_)))))
  · have := sign_ge.2 h0; omega
  refine unit_call hn fun u h3 hl3 hu => rqMul_call hu hu bV bV (by omega) (by omega) fun v h4 hl4 hv => ?_
  rw [eVV] at hv
  have hl34 := Hp.le_trans hl3 hl4
  refine rqMul_call (ha.1.le hl34) hv b1 bVV (by omega) (by omega) fun r h5 hl5 hr => ?_
  refine rqFloor_call hr (b1.mul bVV) (by omega) fun f h6 hl6 hf => ?_
  rw [mul_whole, floor_divInt (dpos al)] at hf
  have hNp : 0 ≤ ((2 ^ (2 * n) : Nat) : Int) := Int.natCast_nonneg _
  have fnn : 0 ≤ al.num * ((2 ^ (2 * n) : Nat) : Int) / al.den := Int.ediv_nonneg (Int.mul_nonneg hn1 hNp) (by omega)
  have fL : Lt (j + 300) (al.num * ((2 ^ (2 * n) : Nat) : Int) / al.den) := ediv_Lt (b1.1.mul l2)
  refine rSqrt_call (NI_toNat hf fnn) (Nat.le_trans (Lt_len fL fnn) (by omega)) fun s h7 s0 hl7 hs hsq => ?_
  have hl47 := Hp.le_trans hl5 (Hp.le_trans hl6 hl7)
  have hl37 := Hp.le_trans hl34 hl47
  refine rqMul_call (ha.2.le hl37) (hv.le hl47) b2 bVV (by omega) (by omega) fun g h8 hl8 hg => ?_
  refine rqFloor_call hg (b2.mul bVV) (by omega) fun c h9 hl9 hc => ?_
  rw [mul_whole, floor_divInt (dpos au)] at hc
  have mnn := Int.mul_nonneg hn2 hNp
  have cnn : 0 ≤ au.num * ((2 ^ (2 * n) : Nat) : Int) / au.den := Int.ediv_nonneg mnn (by omega)
  have cL : Lt (j + 300) (au.num * ((2 ^ (2 * n) : Nat) : Int) / au.den) := ediv_Lt (b2.1.mul l2)
  refine rSqrt_call (NI_toNat hc cnn) (Nat.le_trans (Lt_len cL cnn) (by omega)) fun t h10 t0 hl10 ht htq => ?_
  have cf := floor_facts (m := au.num * ((2 ^ (2 * n) : Nat) : Int)) (dpos au)
  have tc := sq_cast htq
  rw [Int.toNat_of_nonneg cnn] at tc
  have hup := up_floor (dpos au) cf.1 cf.2 tc.1 tc.2
  have sL : Lt (j + 301) (s0 : Int) := (fL.le (by have := sq_le hsq; omega)).mono (by omega)
  have tL0 : Lt (j + 300) (t0 : Int) := cL.le (by have := sq_le htq; omega)
  have hl7_10 := Hp.le_trans hl8 (Hp.le_trans hl9 hl10)
  have tL : Lt (j + 301) (((if (t0 : Int) * t0 * au.den < au.num * ((2 ^ (2 * n) : Nat) : Int) then t0 + 1 else t0 : Nat) : Nat) : Int) := by
    split
    · have : Lt (j + 300) 1 := by unfold Lt; exact Nat.one_lt_pow (by omega) (by decide)
      exact tL0.addm this
    · exact tL0.mono (by omega)
  have hun := hu.1
  rw [(whole_num _).1] at hun
  refine joinP_inv (fun st h' => h10.le h' ∧ NI h' ⟨st.1.1, st.1.2.1⟩ (((if (t0 : Int) * t0 * au.den < au.num * ((2 ^ (2 * n) : Nat) : Int) then t0 + 1 else t0 : Nat) : Nat) : Int)) ?_ ?_
  · rintro st h11 ⟨hl11, hst⟩
    have hl7_11 := Hp.le_trans hl7_10 hl11
    have hl3_11 := Hp.le_trans hl4 (Hp.le_trans hl47 hl7_11)
    refine rqMake_call (k := j + 301) (hs.le hl7_11) (hun.le hl3_11) sL (l1.mono (by omega)) (by omega) (pow2_ne n) fun r1 h12 hl12 hr1 => ?_
    refine rqMake_call (k := j + 301) (hst.le hl12) (hun.le (Hp.le_trans hl3_11 hl12)) tL (l1.mono (by omega)) (by omega) (pow2_ne n) fun r2 h13 hl13 hr2 => ?_
    exact hk _ _ (Hp.le_trans hl37 (Hp.le_trans hl7_11 (Hp.le_trans hl12 hl13))) ⟨rfl, s0, _, ⟨hr1.le hl13, hr2⟩, hsq, hup⟩
  · have ot := tL0.ok (by omega)
    refine rMul_call ht ht ot ot fun q h11 hl11 hq => ?_
    refine rFromInt_call (by decide) (by decide) fun o h12 hl12 ho => ?_
    have lq := (tL0.mul tL0).mono (show (j + 300) + (j + 300) ≤ 2 * j + 600 by omega)
    refine rqMake_call (k := 2 * j + 600) (hq.le hl12) ho lq (by unfold Lt; exact Nat.one_lt_pow (by omega) (by decide)) (by omega) (by decide) fun w h13 hl13 hw => ?_
    have hl8_13 := Hp.le_trans hl9 (Hp.le_trans hl10 (Hp.le_trans hl11 (Hp.le_trans hl12 hl13)))
    refine rqCmp_call hw (hg.le hl8_13) (BR_whole lq (by omega)) (b2.mul bVV) (by omega) (by omega) fun h14 hl14 => ?_
    have hl10_14 := Hp.le_trans hl11 (Hp.le_trans hl12 (Hp.le_trans hl13 hl14))
    have hiff : cmpQ (Rat.divInt ((t0 : Int) * t0) 1) (au * Rat.divInt ((2 ^ (2 * n) : Nat) : Int) 1) < 0 ↔ (t0 : Int) * t0 * au.den < au.num * ((2 ^ (2 * n) : Nat) : Int) := by
      rw [cmpQ_lt, mul_whole, whole_lt (dpos au)]
    refine ifP_dec (fun h15 => ?_) (fun h15 => ?_)
    · refine rFromInt_call (by decide) (by decide) fun o2 h16 hl16 ho2 => ?_
      refine rAdd_call (ht.le (Hp.le_trans hl10_14 hl16)) ho2 ot Ok_one fun e h17 hl17 he => ⟨Hp.le_trans hl10_14 (Hp.le_trans hl16 hl17), ?_⟩
      rw [if_pos (hiff.1 h15)]; exact he
    · refine ⟨hl10_14, ?_⟩
      rw [if_neg (fun hh => h15 (hiff.2 hh))]; exact ht.le hl10_14
end
end Den
end

section
/-
  Which values are numbers and intervals.
-/
set_option linter.unusedVariables false
namespace Den
open Go Iv
/-- a is any value of the type. -/
def AI (h : Hp) (a : TInt) : Prop := ∃ l, RdW h a.mag l ∧ okW l
def AR (h : Hp) (x : TRat) : Prop := AI h x.num ∧ AI h x.den
def AV (h : Hp) (x : TInterval) : Prop := AR h x.low ∧ AR h x.high
theorem AI.le {h h' : Hp} {a : TInt} (ha : AI h a) (hl : h.le h') : AI h' a := by obtain ⟨l, h1, h2⟩ := ha; exact ⟨l, h1.le hl, h2⟩
theorem AR.le {h h' : Hp} {x : TRat} (hx : AR h x) (hl : h.le h') : AR h' x := ⟨hx.1.le hl, hx.2.le hl⟩
theorem AV.le {h h' : Hp} {x : TInterval} (hx : AV h x) (hl : h.le h') : AV h' x := ⟨hx.1.le hl, hx.2.le hl⟩
theorem wc_inj : ∀ {l m : List Nat}, wc l = wc m → l = m
  | [], [], _ => rfl
  | [], _ :: _, h => by simp [wc] at h
  | _ :: _, [], h => by simp [wc] at h
  | x :: r, y :: t, h => by
    simp only [wc, List.map_cons, List.cons.injEq, Value.int.injEq, true_and] at h
    rw [wc_inj (l := r) (m := t) h.2, show x = y by omega]
theorem RdW.uniq {h : Hp} {x : Sl} {l m : List Nat} (h1 : RdW h x l) (h2 : RdW h x m) : l = m := by
  have a1 := h1.1
  have a2 := h2.1
  have e : (wc l).length = (wc m).length := by rw [← a1.1, ← a2.1]
  have b1 := a1.2
  have b2 := a2.2
  rw [e, b2] at b1
  exact (wc_inj (Option.some.inj b1)).symm
theorem NI.inj {h : Hp} {a : TInt} {m n : Int} (h1 : NI h a m) (h2 : NI h a n) : m = n := by
  have e := dg_inj (h1.1.uniq h2.1)
  have e2 : decide (m < 0) = decide (n < 0) := by rw [← h1.2, ← h2.2]
  have e3 : m < 0 ↔ n < 0 := by simpa using e2
  omega
/-- What a value must be to be a number. -/
theorem NI_iff {h : Hp} {a : TInt} {l : List Nat} (hr : RdW h a.mag l) (ok : okW l) : (∃ n, NI h a n) ↔ trimL l = l ∧ (a.neg = true → l ≠ []) := by
  constructor
  · rintro ⟨n, hn⟩
    have e := hr.uniq hn.1
    subst e
    refine ⟨trim_dg _, fun hneg he => ?_⟩
    rw [hn.2] at hneg
    have h1 : n < 0 := by simpa using hneg
    have := dg_nil.1 he
    omega
  · rintro ⟨h1, h2⟩
    have e := dg_of_can ok h1
    refine ⟨sg a.neg (vl l), ?_, ?_⟩
    · rw [sg_abs, ← e]; exact hr
    · cases hb : a.neg with
      | false => simp [sg]
      | true =>
        have h3 := h2 hb
        have h4 : vl l ≠ 0 := fun h0 => h3 (by rw [e, h0, dg_zero])
        simp [sg]; omega
theorem NR_iff {h : Hp} {x : TRat} {m n : Int} (h1 : NI h x.num m) (h2 : NI h x.den n) : (∃ q, NR h x q) ↔ 0 < n ∧ Nat.gcd m.natAbs n.natAbs = 1 := by
  constructor
  · rintro ⟨q, hq⟩
    have e1 := h1.inj hq.1
    have e2 := h2.inj hq.2
    subst e1 e2
    exact ⟨dpos q, by rw [natAbs_den]; exact q.reduced⟩
  · rintro ⟨h3, h4⟩
    have hnn : n.toNat = n.natAbs := by omega
    refine ⟨⟨m, n.toNat, by omega, by rw [hnn]; exact h4⟩, h1, ?_⟩
    show NI h x.den ((n.toNat : Nat) : Int)
    rw [Int.toNat_of_nonneg (by omega)]; exact h2
section
variable {h : Hp} {a : TInt} {x : TRat} {v : TInterval} {Kb : Bool → Hp → Prop}

theorem rValid_call (ha : AI h a) (hl : a.mag.len ≤ 268435456) (H1 : ∀ n, NI h a n → Kb true h) (H0 : (¬ ∃ n, NI h a n) → Kb false h) : callP (F.ref01_Valid a) Kb h := by
  obtain ⟨l, hr, ok⟩ := ha
  have ll := hr.len
  have hiff := NI_iff hr ok
  refine callP_of (fun b h' => h' = h ∧ (b = true ∧ (∃ n, NI h a n) ∨ b = false ∧ ¬ ∃ n, NI h a n)) (fun K' hk => ?_) fun b h' _ ⟨e, hv⟩ => by
    subst e
    rcases hv with ⟨rfl, n, hn⟩ | ⟨rfl, hn⟩
    · exact H1 n hn
    · exact H0 hn
  unfold F.ref01_Valid
  refine rtrim_call hr (by omega) fun y hy => ?_
  have ly := hy.len
  refine ifP_eq (fun h1 => ?_) (fun h1 => ?_)
  · have hlen : (trimL l).length = l.length := by omega
    have ht : trimL l = l := by
      have := trim_take l
      rw [hlen, List.take_of_length_le (Nat.le_refl _)] at this
      exact this
    refine ifP_intro (fun h2 => ?_) (fun h2 => ?_)
    · refine hk _ _ (Hp.le_refl _) ⟨rfl, .inl ⟨rfl, hiff.2 ⟨ht, fun hn => ?_⟩⟩⟩
      rw [hn] at h2; cases h2
    · refine hk _ _ (Hp.le_refl _) ⟨rfl, ?_⟩
      have hneg : a.neg = true := by simpa using h2
      by_cases h3 : (a.mag.len : Int) > 0
      · exact .inl ⟨decide_eq_true h3, hiff.2 ⟨ht, fun _ he => by rw [he] at ll; simp at ll; omega⟩⟩
      · refine .inr ⟨decide_eq_false h3, fun hn => (hiff.1 hn).2 hneg (List.length_eq_zero_iff.1 (by omega))⟩
  · refine hk _ _ (Hp.le_refl _) ⟨rfl, .inr ⟨rfl, fun hn => h1 ?_⟩⟩
    have := (hiff.1 hn).1
    rw [this] at ly
    omega
theorem top_trim {l : List Nat} {n : Nat} (hn : l.length = n + 1) : trimL l = l ↔ l[n] ≠ 0 := by
  have e : l = l.take n ++ [l[n]] := by
    have := List.take_succ_eq_append_getElem (l := l) (i := n) (by omega)
    rw [List.take_of_length_le (by omega)] at this
    exact this
  constructor
  · intro h1 h0
    have h2 : trimL l = trimL (l.take n) := by
      conv => lhs; rw [e, h0]
      exact trim_snoc_zero _
    have h3 := trim_len (l.take n)
    rw [← h2, h1, List.length_take] at h3
    omega
  · intro h0
    conv => lhs; rw [e]
    rw [trim_snoc_pos _ h0]
    exact e.symm
theorem Valid_call (ha : AI h a) (hl : a.mag.len ≤ 268435456) (H1 : ∀ n, NI h a n → Kb true h) (H0 : (¬ ∃ n, NI h a n) → Kb false h) : callP (F.integer_Valid a) Kb h := by
  obtain ⟨l, hr, ok⟩ := ha
  have ll := hr.len
  have hiff := NI_iff hr ok
  refine callP_of (fun b h' => h' = h ∧ (b = true ∧ (∃ n, NI h a n) ∨ b = false ∧ ¬ ∃ n, NI h a n)) (fun K' hk => ?_) fun b h' _ ⟨e, hv⟩ => by
    subst e
    rcases hv with ⟨rfl, n, hn⟩ | ⟨rfl, hn⟩
    · exact H1 n hn
    · exact H0 hn
  unfold F.integer_Valid
  refine ifP_eq (fun h1 => ?_) (fun h1 => ?_)
  · have hnil : l = [] := List.length_eq_zero_iff.1 (by omega)
    refine ifP_intro (fun h2 => ?_) (fun h2 => ?_)
    · refine hk _ _ (Hp.le_refl _) ⟨rfl, .inl ⟨rfl, hiff.2 ⟨by rw [hnil]; rfl, fun hn => ?_⟩⟩⟩
      rw [hn] at h2; cases h2
    · have hneg : a.neg = true := by simpa using h2
      refine ifP_dec (fun h3 => by omega) (fun h3 => hk _ _ (Hp.le_refl _) ⟨rfl, .inr ⟨rfl, fun hn => (hiff.1 hn).2 hneg hnil⟩⟩)
  · obtain ⟨n, hn⟩ : ∃ n, l.length = n + 1 := ⟨l.length - 1, by omega⟩
    refine ifP_dec (fun h3 => ?_) (fun h3 => by omega)
    refine rd_word n hr (by rw [ll, hn, w64 (by omega)]; omega) (by omega) fun u hu => ⟨_, hu, hk _ _ (Hp.le_refl _) ⟨rfl, ?_⟩⟩
    have htt := top_trim hn
    by_cases h4 : l[n] = 0
    · refine .inr ⟨by rw [h4]; rfl, fun hh => (htt.1 (hiff.1 hh).1) h4⟩
    · refine .inl ⟨by simp; omega, hiff.2 ⟨htt.2 h4, fun _ he => by rw [he] at hn; simp at hn⟩⟩

theorem len_ok {n : Int} (ha : NI h a n) (hl : a.mag.len ≤ 268435456) : Ok n := by have := ha.len; unfold Ok; omega
theorem rqValid_call (hx : AR h x) (hl1 : x.num.mag.len ≤ 268435456) (hl2 : x.den.mag.len ≤ 268435456) (H1 : ∀ q h', h.le h' → NR h x q → Kb true h') (H0 : ∀ h', h.le h' → (¬ ∃ q, NR h x q) → Kb false h') : callP (F.ref02_Valid x) Kb h := by
  refine callP_of (fun b h' => b = true ∧ (∃ q, NR h x q) ∨ b = false ∧ ¬ ∃ q, NR h x q) (fun K' hk => ?_) fun b h' hl hv => by
    rcases hv with ⟨rfl, n, hn⟩ | ⟨rfl, hn⟩
    · exact H1 n h' hl hn
    · exact H0 h' hl hn
  unfold F.ref02_Valid
  refine rValid_call hx.1 hl1 (fun m hm => ifP_true rfl (rValid_call hx.2 hl2 (fun n hn => ifP_true rfl ?_) (fun hn => ifP_false rfl (hk _ _ (Hp.le_refl _) (.inr ⟨rfl, fun ⟨q, hq⟩ => hn ⟨_, hq.2⟩⟩))))) (fun hn => ifP_false rfl (hk _ _ (Hp.le_refl _) (.inr ⟨rfl, fun ⟨q, hq⟩ => hn ⟨_, hq.1⟩⟩)))
  have hiff := NR_iff hm hn
  have s := sign_range n
  refine rSign_call hn (len_ok hn hl2) (ifP_dec (fun h1 => ?_) (fun h1 => hk _ _ (Hp.le_refl _) (.inr ⟨rfl, fun hh => by have := (hiff.1 hh).1; omega⟩)))
  refine rGCD_call hm hn (len_ok hm hl1) (len_ok hn hl2) fun z h2 hl hz => rone_call hz (hk _ _ hl ?_)
  by_cases h3 : Nat.gcd m.natAbs n.natAbs = 1
  · exact .inl ⟨decide_eq_true (by rw [h3]; rfl), hiff.2 ⟨by omega, h3⟩⟩
  · exact .inr ⟨decide_eq_false (fun hh => h3 (by omega)), fun hh => h3 (hiff.1 hh).2⟩
theorem qValid_call (hx : AR h x) (hl1 : x.num.mag.len ≤ 268435456) (hl2 : x.den.mag.len ≤ 268435456) (H1 : ∀ q h', h.le h' → NR h x q → Kb true h') (H0 : ∀ h', h.le h' → (¬ ∃ q, NR h x q) → Kb false h') : callP (F.rational_Valid x) Kb h := by
  refine callP_of (fun b h' => b = true ∧ (∃ q, NR h x q) ∨ b = false ∧ ¬ ∃ q, NR h x q) (fun K' hk => ?_) fun b h' hl hv => by
    rcases hv with ⟨rfl, n, hn⟩ | ⟨rfl, hn⟩
    · exact H1 n h' hl hn
    · exact H0 h' hl hn
  unfold F.rational_Valid
  refine Valid_call hx.1 hl1 (fun m hm => ifP_true rfl (Valid_call hx.2 hl2 (fun n hn => ifP_true rfl ?_) (fun hn => ifP_false rfl (hk _ _ (Hp.le_refl _) (.inr ⟨rfl, fun ⟨q, hq⟩ => hn ⟨_, hq.2⟩⟩))))) (fun hn => ifP_false rfl (hk _ _ (Hp.le_refl _) (.inr ⟨rfl, fun ⟨q, hq⟩ => hn ⟨_, hq.1⟩⟩)))
  have hiff := NR_iff hm hn
  have s := sign_range n
  refine Sign_call hn (len_ok hn hl2) (ifP_dec (fun h1 => ?_) (fun h1 => hk _ _ (Hp.le_refl _) (.inr ⟨rfl, fun hh => by have := (hiff.1 hh).1; omega⟩)))
  refine GCD_call hm hn (len_ok hm hl1) (len_ok hn hl2) fun z h2 hl hz => isOne_call hz (hk _ _ hl ?_)
  by_cases h3 : Nat.gcd m.natAbs n.natAbs = 1
  · exact .inl ⟨decide_eq_true (by rw [h3]; rfl), hiff.2 ⟨by omega, h3⟩⟩
  · exact .inr ⟨decide_eq_false (fun hh => h3 (by omega)), fun hh => h3 (hiff.1 hh).2⟩
theorem NR_BR {q : Rat} {k : Nat} (hq : NR h x q) (h1 : x.num.mag.len ≤ k) (h2 : x.den.mag.len ≤ k) : BR k q := by
  have e1 := hq.1.len
  have e2 := hq.2.len
  exact ⟨dg_len.1 (by omega), dg_len.1 (by omega)⟩
theorem rqFew_call (hx : AR h x) (H1 : ∀ q h', h.le h' → NR h x q → BR 10 q → Kb true h') (H0 : ∀ h', h.le h' → Kb false h') : callP (F.ref02_Few x 10) Kb h := by
  refine callP_of (fun b h' => b = true ∧ (∃ q, NR h x q ∧ BR 10 q) ∨ b = false) (fun K' hk => ?_) fun b h' hl hv => by
    rcases hv with ⟨rfl, n, hn, hb⟩ | rfl
    · exact H1 n h' hl hn hb
    · exact H0 h' hl
  unfold F.ref02_Few
  refine ifP_dec (fun h1 => ifP_dec (fun h2 => ?_) (fun h2 => hk _ _ (Hp.le_refl _) (.inr rfl))) (fun h1 => hk _ _ (Hp.le_refl _) (.inr rfl))
  exact rqValid_call hx (by omega) (by omega) (fun q h' hl hq => hk _ _ hl (.inl ⟨rfl, q, hq, NR_BR hq (by omega) (by omega)⟩)) (fun h' hl _ => hk _ _ hl (.inr rfl))

/-- v is an interval from l to u with at most ten limbs in each number. -/
def IV10 (h : Hp) (v : TInterval) (l u : Rat) : Prop := NV h v l u ∧ BR 10 l ∧ BR 10 u ∧ l ≤ u
theorem riValid_call (hv : AV h v) (hl : v.low.num.mag.len ≤ 268435456 ∧ v.low.den.mag.len ≤ 268435456 ∧ v.high.num.mag.len ≤ 268435456 ∧ v.high.den.mag.len ≤ 268435456) (hB : ∀ l u, NV h v l u → BR 1000000 l ∧ BR 1000000 u)
    (H1 : ∀ l u h', h.le h' → NV h v l u → l ≤ u → Kb true h') (H0 : ∀ h', h.le h' → (¬ ∃ l u, NV h v l u ∧ l ≤ u) → Kb false h') : callP (F.ref03_Valid v) Kb h := by
  refine callP_of (fun b h' => b = true ∧ (∃ l u, NV h v l u ∧ l ≤ u) ∨ b = false ∧ ¬ ∃ l u, NV h v l u ∧ l ≤ u) (fun K' hk => ?_) fun b h' hl hv => by
    rcases hv with ⟨rfl, l, u, hn, hb⟩ | ⟨rfl, hn⟩
    · exact H1 l u h' hl hn hb
    · exact H0 h' hl hn
  unfold F.ref03_Valid
  refine rqValid_call hv.1 hl.1 hl.2.1 (fun l h1 hl1 hL => ifP_true rfl ?_) (fun h1 hl1 hn => ifP_false rfl (hk _ _ hl1 (.inr ⟨rfl, fun ⟨l, u, hh, _⟩ => hn ⟨l, hh.1⟩⟩)))
  have hinj : ∀ {h : Hp} {x : TRat} {p q : Rat}, NR h x p → NR h x q → p = q := fun h1 h2 => Rat.ext (h1.1.inj h2.1) (by have := h1.2.inj h2.2; omega)
  refine rqValid_call (hv.2.le hl1) hl.2.2.1 hl.2.2.2 (fun u h2 hl2 hU => ifP_true rfl ?_) (fun h2 hl2 hn => ifP_false rfl (hk _ _ (Hp.le_trans hl1 hl2) (.inr ⟨rfl, fun ⟨l, u, hh, _⟩ => hn ⟨u, hh.2.le hl1⟩⟩)))
  by_cases hUh : ∃ u', NR h v.high u'
  · obtain ⟨u', hu'⟩ := hUh
    have e := hinj hU (hu'.le hl1)
    subst e
    have b := hB l u ⟨hL, hu'⟩
    have hl12 := Hp.le_trans hl1 hl2
    refine rqCmp_call (hL.le hl12) (hu'.le hl12) b.1 b.2 (by omega) (by omega) fun h3 hl3 => hk _ _ (Hp.le_trans hl12 hl3) ?_
    by_cases h4 : l ≤ u
    · exact .inl ⟨decide_eq_true (cmpQ_le.2 h4), l, u, ⟨hL, hu'⟩, h4⟩
    · refine .inr ⟨decide_eq_false (fun hh => h4 (cmpQ_le.1 hh)), fun ⟨l2, u2, hh, hle⟩ => h4 ?_⟩
      rw [hinj hL hh.1, hinj hu' hh.2]; exact hle
  · exfalso
    obtain ⟨lm, hlm, okm⟩ := hv.2.1
    obtain ⟨ld, hld, okd⟩ := hv.2.2
    have i1 := (NI_iff (hlm.le hl1) okm).1 ⟨_, hU.1⟩
    have i2 := (NI_iff (hld.le hl1) okd).1 ⟨_, hU.2⟩
    obtain ⟨m, hm⟩ := (NI_iff hlm okm).2 i1
    obtain ⟨n, hn⟩ := (NI_iff hld okd).2 i2
    have i3 := (NR_iff (hm.le hl1) (hn.le hl1)).1 ⟨u, hU⟩
    exact hUh ((NR_iff hm hn).2 i3)
end
end Den
end

section
/-
  The statements' guards: few limbs, and the examples of the chapter.
-/
set_option linter.unusedVariables false
namespace Den
open Go Iv
section
variable {h : Hp} {v : TInterval} {l : Sl} {Kb : Bool → Hp → Prop} {KV : TInterval → Hp → Prop}
theorem riFew_call (hv : AV h v) (H1 : ∀ l u h', h.le h' → IV10 h v l u → Kb true h') (H0 : ∀ h', h.le h' → Kb false h') : callP (F.ref03_Few v 10) Kb h := by
  refine callP_of (fun b h' => b = true ∧ (∃ l u, IV10 h v l u) ∨ b = false) (fun K' hk => ?_) fun b h' hl hv => by
    rcases hv with ⟨rfl, l, u, hn⟩ | rfl
    · exact H1 l u h' hl hn
    · exact H0 h' hl
  unfold F.ref03_Few
  have hinj : ∀ {h : Hp} {x : TRat} {p q : Rat}, NR h x p → NR h x q → p = q := fun h1 h2 => Rat.ext (h1.1.inj h2.1) (by have := h1.2.inj h2.2; omega)
  have lens : ∀ {h : Hp} {x : TRat} {q : Rat}, NR h x q → BR 10 q → x.num.mag.len ≤ 268435456 ∧ x.den.mag.len ≤ 268435456 := fun h1 h2 => by
    have e1 := h1.1.len
    have e2 := h1.2.len
    have e3 := dg_len.2 h2.1
    have e4 := dg_len.2 h2.2
    omega
  refine rqFew_call hv.1 (fun q1 h1 hl1 hq1 hb1 => ifP_true rfl ?_) (fun h1 hl1 => ifP_false rfl (hk _ _ hl1 (.inr rfl)))
  refine rqFew_call (hv.2.le hl1) (fun q2 h2 hl2 hq2 hb2 => ifP_true rfl ?_) (fun h2 hl2 => ifP_false rfl (hk _ _ (Hp.le_trans hl1 hl2) (.inr rfl)))
  have hl12 := Hp.le_trans hl1 hl2
  have e1 := lens hq1 hb1
  have e2 := lens hq2 hb2
  refine riValid_call (hv.le hl12) ⟨e1.1, e1.2, e2.1, e2.2⟩ (fun l u hlu => ?_) (fun l u h3 hl3 hlu hle => hk _ _ (Hp.le_trans hl12 hl3) ?_) (fun h3 hl3 _ => hk _ _ (Hp.le_trans hl12 hl3) (.inr rfl))
  · have a1 := hinj hlu.1 (hq1.le hl12)
    have a2 := hinj hlu.2 (hq2.le hl2)
    subst a1 a2
    exact ⟨hb1.mono (by decide), hb2.mono (by decide)⟩
  · have a1 := hinj hlu.1 (hq1.le hl12)
    have a2 := hinj hlu.2 (hq2.le hl2)
    subst a1 a2
    -- the numbers were there from the start
    obtain ⟨lm, hlm, okm⟩ := hv.2.1
    obtain ⟨ld, hld, okd⟩ := hv.2.2
    have i1 := (NI_iff (hlm.le hl1) okm).1 ⟨_, hq2.1⟩
    have i2 := (NI_iff (hld.le hl1) okd).1 ⟨_, hq2.2⟩
    obtain ⟨m, hm⟩ := (NI_iff hlm okm).2 i1
    obtain ⟨n, hn⟩ := (NI_iff hld okd).2 i2
    obtain ⟨u', hu'⟩ := (NR_iff hm hn).2 ((NR_iff (hm.le hl1) (hn.le hl1)).1 ⟨u, hq2⟩)
    have a3 := hinj hq2 (hu'.le hl1)
    subst a3
    exact .inl ⟨rfl, l, u, ⟨⟨hq1, hu'⟩, hb1, hb2, hle⟩⟩

/-- The cells of an interval. -/
def ic (x : TInterval) : List Value := qc x.low ++ qc x.high
theorem ic_len (x : TInterval) : (ic x).length = 8 := rfl
theorem rd_ival {xs : List TInterval} {i : Int} {K : Bool → Sl → Bool → Sl → Bool → Sl → Bool → Sl → Prop} (k : Nat) (hr : Rd h 8 l (xs.flatMap ic)) (hi : i = k) (hk : k < xs.length)
    (H : K xs[k].low.num.neg xs[k].low.num.mag xs[k].low.den.neg xs[k].low.den.mag xs[k].high.num.neg xs[k].high.num.mag xs[k].high.den.neg xs[k].high.den.mag) :
    idxP l i 8 fun a => ldL .bool (a.add 0) (fun x0 => ldL .sl (a.add 1) (fun x1 => ldL .bool (a.add 2) (fun x2 => ldL .sl (a.add 3) (fun x3 => ldL .bool (a.add 4) (fun x4 => ldL .sl (a.add 5) (fun x5 => ldL .bool (a.add 6) (fun x6 => ldL .sl (a.add 7) (fun x7 => K x0 x1 x2 x3 x4 x5 x6 x7) h) h) h) h) h) h) h) h := by
  have hlen : l.len = xs.length := by
    have := hr.1
    rw [flat_len ic_len] at this; omega
  refine idxP_of k hr hi (by omega) (by decide) fun a ha => ?_
  have g : ∀ j v, j < 8 → (ic xs[k])[j]? = some v → h.cell (a.add j) = some v := fun j v hj hv => ha j v (by rw [flat_get ic_len hk hj]; exact hv)
  exact ⟨_, g 0 _ (by decide) rfl, _, g 1 _ (by decide) rfl, _, g 2 _ (by decide) rfl, _, g 3 _ (by decide) rfl, _, g 4 _ (by decide) rfl, _, g 5 _ (by decide) rfl, _, g 6 _ (by decide) rfl, _, g 7 _ (by decide) rfl, H⟩
theorem few_call {xs : List TInterval} (hr : Rd h 8 l (xs.flatMap ic)) (ha : ∀ x ∈ xs, AV h x) (hlen : xs.length ≤ 1000)
    (H1 : ∀ h', h.le h' → (∀ x ∈ xs, ∃ lo up, IV10 h' x lo up) → Kb true h') (H0 : ∀ h', h.le h' → Kb false h') : callP (F.law03_few l) Kb h := by
  refine callP_of (fun b h' => b = true ∧ (∀ x ∈ xs, ∃ lo up, IV10 h' x lo up) ∨ b = false) (fun K' hk => ?_) fun b h' hl hv => by
    rcases hv with ⟨rfl, hn⟩ | rfl
    · exact H1 h' hl hn
    · exact H0 h' hl
  unfold F.law03_few
  have hll : l.len = xs.length := by
    have := hr.1
    rw [flat_len ic_len] at this; omega
  have mono : ∀ {h h' : Hp} {x : TInterval} {lo up : Rat}, h.le h' → IV10 h x lo up → IV10 h' x lo up := fun hl hx => ⟨hx.1.le hl, hx.2⟩
  refine loopP_of (fun st h' => h.le h' ∧ ∃ i : Nat, st = ((i : Int), ()) ∧ i ≤ xs.length ∧ ∀ k (hk : k < xs.length), k < i → ∃ lo up, IV10 h' xs[k] lo up) (fun st => ((xs.length : Int) - st.1).toNat)
    ⟨Hp.le_refl _, 0, rfl, Nat.zero_le _, fun k hk h0 => by omega⟩ ?_
  rintro _ h1 ⟨hl1, i, rfl, hi, hall⟩
  refine ifP_dec (fun h2 => ?_) (fun h2 => ?_)
  · have hi' : i < xs.length := by have : (i : Int) < (l.len : Int) := h2; omega
    refine rd_ival i (hr.le hl1) rfl hi' ?_
    refine riFew_call (v := xs[i]) ((ha _ (List.getElem_mem hi')).le hl1) (fun lo up h3 hl3 hx => ifP_false rfl ?_) (fun h3 hl3 => ifP_true rfl (hk _ _ (Hp.le_trans hl1 hl3) (.inr rfl)))
    refine ⟨⟨Hp.le_trans hl1 hl3, i + 1, by rw [w64 (by omega)]; rfl, by omega, fun k hk' h4 => ?_⟩, by rw [w64 (by omega)]; omega⟩
    rcases Nat.lt_or_ge k i with h5 | h5
    · obtain ⟨lo2, up2, h6⟩ := hall k hk' h5
      exact ⟨lo2, up2, mono hl3 h6⟩
    · have : k = i := by omega
      subst this
      exact ⟨lo, up, mono hl3 hx⟩
  · have hi' : i = xs.length := by have : ¬ (i : Int) < (l.len : Int) := h2; omega
    refine hk _ _ hl1 (.inl ⟨rfl, fun x hx => ?_⟩)
    obtain ⟨k, hk', rfl⟩ := List.getElem_of_mem hx
    exact hall k hk' (by omega)

theorem span_call {p q r s : Int} (h1 : -9223372036854775808 ≤ p ∧ p ≤ 9223372036854775807) (h2 : -9223372036854775808 ≤ q ∧ q ≤ 9223372036854775807) (h3 : -9223372036854775808 ≤ r ∧ r ≤ 9223372036854775807) (h4 : -9223372036854775808 ≤ s ∧ s ≤ 9223372036854775807) (hq : q ≠ 0) (hs : s ≠ 0)
    (H : ∀ z h', h.le h' → NV h' z (Rat.divInt p q) (Rat.divInt r s) → KV z h') : callP (F.law03_span p q r s) KV h := by
  refine callP_of _ (fun K' hk => ?_) H
  unfold F.law03_span
  refine rqFrac_call h1.1 h1.2 h2.1 h2.2 hq fun u h5 hl5 hu => rqFrac_call h3.1 h3.2 h4.1 h4.2 hs fun w h6 hl6 hw => hk _ _ (Hp.le_trans hl5 hl6) ⟨hu.le hl6, hw⟩
theorem BR_small {p q : Int} (h1 : -9223372036854775808 ≤ p ∧ p ≤ 9223372036854775807) (h2 : -9223372036854775808 ≤ q ∧ q ≤ 9223372036854775807) (hq : q ≠ 0) : BR 2 (Rat.divInt p q) := BR.divInt (Lt.of64 (by omega) (by omega)) (Lt.of64 (by omega) (by omega)) hq
theorem awake_call (H : ∀ h', h.le h' → Kb true h') : callP F.law03_awake Kb h := by
  refine callP_of (fun b _ => b = true) (fun K' hk => ?_) fun b h' hl hb => by subst hb; exact H h' hl
  unfold F.law03_awake
  have B2 : BR 2 ((2 : Int) : Rat) := ⟨by unfold Lt; decide, by unfold Lt; decide⟩
  refine rqFromInt_call (by decide) (by decide) fun r1 h1 hl1 hr1 => iPoint_call hr1 B2 (by decide) fun r2 h2 hl2 hr2 => ?_
  refine iSqrt_call (n := 1) (by decide) hr2 B2 B2 (by decide) (by decide +kernel) Rat.le_refl fun r3 h3 s1 t1 hl3 hr3 hs1 ht1 bs1 bt1 => ?_
  refine rqFromInt_call (by decide) (by decide) fun r4 h4 hl4 hr4 => iPoint_call hr4 B2 (by decide) fun r5 h5 hl5 hr5 => ?_
  refine iSqrt_call (n := 2) (by decide) hr5 B2 B2 (by decide) (by decide +kernel) Rat.le_refl fun r6 h6 s2 t2 hl6 hr6 hs2 ht2 bs2 bt2 => ?_
  have e1 : s1 = 2 := hs1.uniq (t := 2) ⟨by decide +kernel, by decide +kernel⟩
  have e2 : t1 = 3 := ht1.uniq (by decide +kernel) ⟨by decide +kernel, .inr ⟨2, rfl, by decide +kernel⟩⟩
  have e3 : s2 = 5 := hs2.uniq (t := 5) ⟨by decide +kernel, by decide +kernel⟩
  have e4 : t2 = 6 := ht2.uniq (by decide +kernel) ⟨by decide +kernel, .inr ⟨5, rfl, by decide +kernel⟩⟩
  subst e1 e2 e3 e4
  refine span_call (by decide) (by decide) (by decide) (by decide) (by decide) (by decide) fun r7 h7 hl7 hr7 => ?_
  refine span_call (by decide) (by decide) (by decide) (by decide) (by decide) (by decide) fun r8 h8 hl8 hr8 => ?_
  refine iDiv_call (j := 2) (k := 2) (hr7.le hl8) hr8 (BR_small (by decide) (by decide) (by decide)) (BR_small (by decide) (by decide) (by decide)) (BR_small (by decide) (by decide) (by decide)) (BR_small (by decide) (by decide) (by decide)) (by decide) (by decide) (fun hz => absurd hz (by decide +kernel)) (fun _ n1 n2 r9 h9 hl9 hr9 => ?_) (by decide +kernel)
  refine span_call (by decide) (by decide) (by decide) (by decide) (by decide) (by decide) fun r10 h10 hl10 hr10 => ?_
  refine span_call (by decide) (by decide) (by decide) (by decide) (by decide) (by decide) fun r11 h11 hl11 hr11 => ?_
  refine iMul_call (j := 2) (k := 2) (hr10.le hl11) hr11 (BR_small (by decide) (by decide) (by decide)) (BR_small (by decide) (by decide) (by decide)) (BR_small (by decide) (by decide) (by decide)) (BR_small (by decide) (by decide) (by decide)) (by decide) (by decide) fun r12 h12 hl12 hr12 => ?_
  refine span_call (by decide) (by decide) (by decide) (by decide) (by decide) (by decide) fun r13 h13 hl13 hr13 => ?_
  have q1 : lo4 (Rat.divInt (-2) 1 * Rat.divInt (-1) 1) (Rat.divInt (-2) 1 * Rat.divInt 4 1) (Rat.divInt 3 1 * Rat.divInt (-1) 1) (Rat.divInt 3 1 * Rat.divInt 4 1) = Rat.divInt (-8) 1 := by decide +kernel
  have q2 : hi4 (Rat.divInt (-2) 1 * Rat.divInt (-1) 1) (Rat.divInt (-2) 1 * Rat.divInt 4 1) (Rat.divInt 3 1 * Rat.divInt (-1) 1) (Rat.divInt 3 1 * Rat.divInt 4 1) = Rat.divInt 12 1 := by decide +kernel
  rw [q1, q2] at hr12
  have bsm : ∀ {p q : Int}, (-9223372036854775808 ≤ p ∧ p ≤ 9223372036854775807) → (-9223372036854775808 ≤ q ∧ q ≤ 9223372036854775807) → q ≠ 0 → BR 2 (Rat.divInt p q) := fun h1 h2 h3 => BR_small h1 h2 h3
  refine riSame_call (j := 2) (hr12.le hl13) hr13 (bsm (by decide) (by decide) (by decide)) (bsm (by decide) (by decide) (by decide)) (by decide) (ifP_true (decide_eq_true ⟨rfl, rfl⟩) (ifP_true rfl ?_))
  have hl3_13 := Hp.le_trans hl4 (Hp.le_trans hl5 (Hp.le_trans hl6 (Hp.le_trans hl7 (Hp.le_trans hl8 (Hp.le_trans hl9 (Hp.le_trans hl10 (Hp.le_trans hl11 (Hp.le_trans hl12 hl13))))))))
  have hl6_13 := Hp.le_trans hl7 (Hp.le_trans hl8 (Hp.le_trans hl9 (Hp.le_trans hl10 (Hp.le_trans hl11 (Hp.le_trans hl12 hl13)))))
  have hl9_13 := Hp.le_trans hl10 (Hp.le_trans hl11 (Hp.le_trans hl12 hl13))
  have b1 : BR 2 (Rat.divInt ((2 : Nat) : Int) ((2 ^ 1 : Nat) : Int)) := bsm (by decide) (by decide) (by decide)
  have b2 : BR 2 (Rat.divInt ((3 : Nat) : Int) ((2 ^ 1 : Nat) : Int)) := bsm (by decide) (by decide) (by decide)
  have b3 : BR 2 (Rat.divInt ((5 : Nat) : Int) ((2 ^ 2 : Nat) : Int)) := bsm (by decide) (by decide) (by decide)
  have b4 : BR 2 (Rat.divInt ((6 : Nat) : Int) ((2 ^ 2 : Nat) : Int)) := bsm (by decide) (by decide) (by decide)
  refine span_call (by decide) (by decide) (by decide) (by decide) (by decide) (by decide) fun r15 h15 hl15 hr15 => ?_
  refine riSame_call (j := 2) (hr3.le (Hp.le_trans hl3_13 hl15)) hr15 b1 b2 (by decide) (ifP_true (decide_eq_true ⟨by decide +kernel, by decide +kernel⟩) (ifP_true rfl ?_))
  refine span_call (by decide) (by decide) (by decide) (by decide) (by decide) (by decide) fun r17 h17 hl17 hr17 => ?_
  refine riSame_call (j := 2) (hr6.le (Hp.le_trans hl6_13 (Hp.le_trans hl15 hl17))) hr17 b3 b4 (by decide) (ifP_true (decide_eq_true ⟨by decide +kernel, by decide +kernel⟩) (ifP_true rfl ?_))
  refine span_call (by decide) (by decide) (by decide) (by decide) (by decide) (by decide) fun r19 h19 hl19 hr19 => ?_
  have q3 : lo4 (Rat.divInt 1 1 * (Rat.divInt 4 1)⁻¹) (Rat.divInt 1 1 * (Rat.divInt 2 1)⁻¹) (Rat.divInt 2 1 * (Rat.divInt 4 1)⁻¹) (Rat.divInt 2 1 * (Rat.divInt 2 1)⁻¹) = Rat.divInt 1 4 := by decide +kernel
  have q4 : hi4 (Rat.divInt 1 1 * (Rat.divInt 4 1)⁻¹) (Rat.divInt 1 1 * (Rat.divInt 2 1)⁻¹) (Rat.divInt 2 1 * (Rat.divInt 4 1)⁻¹) (Rat.divInt 2 1 * (Rat.divInt 2 1)⁻¹) = Rat.divInt 1 1 := by decide +kernel
  rw [q3, q4] at hr9
  have hlall := Hp.le_trans hl9_13 (Hp.le_trans hl15 (Hp.le_trans hl17 hl19))
  refine riSame_call (j := 2) (hr9.le hlall) hr19 (bsm (by decide) (by decide) (by decide)) (bsm (by decide) (by decide) (by decide)) (by decide) (hk _ _ ?_ (decide_eq_true ⟨rfl, rfl⟩))
  exact Hp.le_trans hl1 (Hp.le_trans hl2 (Hp.le_trans hl3 (Hp.le_trans hl3_13 (Hp.le_trans hl15 (Hp.le_trans hl17 hl19)))))
end
end Den
end

section
/-
  The statements on intervals, in plain form.
-/
set_option linter.unusedVariables false
namespace Den
open Go Iv
section
variable {h : Hp} {a b c : TInterval} {x y : TRat} {K : Bool → Hp → Prop}

theorem IV10.le {h h' : Hp} {x : TInterval} {lo up : Rat} (hx : IV10 h x lo up) (hl : h.le h') : IV10 h' x lo up := ⟨hx.1.le hl, hx.2⟩
theorem law_Products (ha : AV h a) (hb : AV h b) (H : ∀ h', h.le h' → K true h') : F.law03_IntervalProducts a b K h := by
  unfold F.law03_IntervalProducts
  refine joinP_inv (fun _ h' => h.le h' ∧ ∃ al au bl bu, IV10 h' a al au ∧ IV10 h' b bl bu) ?_ ?_
  · rintro _ h1 ⟨hl1, al, au, bl, bu, hA, hB⟩
    have rest : ∀ (r3 r4 : TInterval × Int) (h3 : Hp), h1.le h3 → (∀ h6, h3.le h6 → ∀ Kx : Bool → Hp → Prop, (∀ h', h6.le h' → Kx true h') → (ifP (r3.2 == r4.2)
        (ifP (r3.2 == 0)
        (callP (F.ref03_Same r3.1 r4.1) (fun r8 h7 => (ifP r8 (Kx true h7) (ifP (r3.2 != 0) (callP (F.ref03_Zero r3.1) (fun r9 h8 => (Kx r9 h8)) h7) (Kx false h7)))) h6)
        (ifP (r3.2 != 0) (callP (F.ref03_Zero r3.1) (fun r10 h9 => (Kx r10 h9)) h6) (Kx false h6)))
        (Kx false h6))) →
        (callP (F.interval_Mul a b) (fun r5 h4 =>
        (callP (F.ref03_Mul a b) (fun r6 h5 =>
        (callP (F.ref03_Same r5 r6) (fun r7 h6 =>
        (ifP r7
        (ifP (r3.2 == r4.2)
        (ifP (r3.2 == 0)
        (callP (F.ref03_Same r3.1 r4.1) (fun r8 h7 => (ifP r8 (K true h7) (ifP (r3.2 != 0) (callP (F.ref03_Zero r3.1) (fun r9 h8 => (K r9 h8)) h7) (K false h7)))) h6)
        (ifP (r3.2 != 0) (callP (F.ref03_Zero r3.1) (fun r10 h9 => (K r10 h9)) h6) (K false h6)))
        (K false h6))
        (K false h6))) h5)) h4)) h3) := fun r3 r4 h3 hl3 hr => by
      have hA3 := hA.le hl3
      have hB3 := hB.le hl3
      refine iMul_call hA3.1 hB3.1 hA.2.1 hA.2.2.1 hB.2.1 hB.2.2.1 (by decide) (by decide) fun r5 h4 hl4 hr5 => ?_
      refine riMul_call (hA3.1.le hl4) (hB3.1.le hl4) hA.2.1 hA.2.2.1 hB.2.1 hB.2.2.1 (by decide) (by decide) fun r6 h5 hl5 hr6 => ?_
      have bm := hA.2.1.mul hB.2.1
      have bL : BR 20 (lo4 (al * bl) (al * bu) (au * bl) (au * bu)) := by
        rcases lo4_mem (al * bl) (al * bu) (au * bl) (au * bu) with e | e | e | e <;> rw [e]
        · exact hA.2.1.mul hB.2.1
        · exact hA.2.1.mul hB.2.2.1
        · exact hA.2.2.1.mul hB.2.1
        · exact hA.2.2.1.mul hB.2.2.1
      have bU : BR 20 (hi4 (al * bl) (al * bu) (au * bl) (au * bu)) := by
        rcases hi4_mem (al * bl) (al * bu) (au * bl) (au * bu) with e | e | e | e <;> rw [e]
        · exact hA.2.1.mul hB.2.1
        · exact hA.2.1.mul hB.2.2.1
        · exact hA.2.2.1.mul hB.2.1
        · exact hA.2.2.1.mul hB.2.2.1
      refine riSame_call (hr5.le hl5) hr6 bL bU (by decide) (ifP_true (decide_eq_true ⟨rfl, rfl⟩) ?_)
      have hl35 := Hp.le_trans hl4 hl5
      exact hr h5 hl35 K fun h' hl' => H h' (Hp.le_trans hl1 (Hp.le_trans hl3 (Hp.le_trans hl35 hl')))
    refine iDiv_call hA.1 hB.1 hA.2.1 hA.2.2.1 hB.2.1 hB.2.2.1 (by decide) (by decide) (fun hz h2 hl2 => ?_) (fun hnz n1 n2 z h2 hl2 hz => ?_) hB.2.2.2
    · refine riDiv_call (hA.1.le hl2) (hB.1.le hl2) hA.2.1 hA.2.2.1 hB.2.1 hB.2.2.1 (by decide) (by decide) (fun _ h3 hl3 => ?_) (fun hn => absurd hz hn) hB.2.2.2
      refine rest (zeroV, 6) (zeroV, 6) h3 (Hp.le_trans hl2 hl3) fun h6 hl6 Kx hKx => ?_
      exact ifP_true rfl (ifP_false rfl (ifP_true rfl (riZero_call (hKx _ (Hp.le_refl _)))))
    · refine riDiv_call (hA.1.le hl2) (hB.1.le hl2) hA.2.1 hA.2.2.1 hB.2.1 hB.2.2.1 (by decide) (by decide) (fun hz2 => absurd hz2 hnz) (fun _ _ _ w h3 hl3 hw => ?_) hB.2.2.2
      refine rest (z, 0) (w, 0) h3 (Hp.le_trans hl2 hl3) fun h6 hl6 Kx hKx => ?_
      have i1 := hB.2.1.inv n1
      have i2 := hB.2.2.1.inv n2
      have bL : BR 20 (lo4 (al * bu⁻¹) (al * bl⁻¹) (au * bu⁻¹) (au * bl⁻¹)) := by
        rcases lo4_mem (al * bu⁻¹) (al * bl⁻¹) (au * bu⁻¹) (au * bl⁻¹) with e | e | e | e <;> rw [e]
        · exact hA.2.1.mul i2
        · exact hA.2.1.mul i1
        · exact hA.2.2.1.mul i2
        · exact hA.2.2.1.mul i1
      have bU : BR 20 (hi4 (al * bu⁻¹) (al * bl⁻¹) (au * bu⁻¹) (au * bl⁻¹)) := by
        rcases hi4_mem (al * bu⁻¹) (al * bl⁻¹) (au * bu⁻¹) (au * bl⁻¹) with e | e | e | e <;> rw [e]
        · exact hA.2.1.mul i2
        · exact hA.2.1.mul i1
        · exact hA.2.2.1.mul i2
        · exact hA.2.2.1.mul i1
      refine ifP_true rfl (ifP_true rfl (riSame_call (hz.le (Hp.le_trans hl3 hl6)) (hw.le hl6) bL bU (by decide) (ifP_true (decide_eq_true ⟨rfl, rfl⟩) (hKx _ (Hp.le_refl _)))))
  · refine awake_call fun h1 hl1 => ifP_false rfl ?_
    refine new_own (n := 2) (size := 8) (cells := [a, b].flatMap ic) rfl fun p h2 hp ho => ?_
    have hl2 := ho.1
    have hl12 := Hp.le_trans hl1 hl2
    refine few_call (xs := [a, b]) ho.rd (fun z hz => ?_) (by simp) (fun h3 hl3 hall => ifP_false rfl ⟨Hp.le_trans hl12 hl3, ?_⟩) (fun h3 hl3 => ifP_true rfl (awake_call fun h4 hl4 => H h4 (Hp.le_trans hl12 (Hp.le_trans hl3 hl4))))
    · simp only [List.mem_cons, List.not_mem_nil, or_false] at hz
      rcases hz with rfl | rfl
      · exact ha.le hl12
      · exact hb.le hl12
    · obtain ⟨al, au, hA⟩ := hall a (by simp)
      obtain ⟨bl, bu, hB⟩ := hall b (by simp)
      exact ⟨al, au, bl, bu, hA, hB⟩
end
end Den
end

section
/-
  The statements on intervals, in plain form (sums, rounding, members, meets).
-/
set_option linter.unusedVariables false
namespace Den
open Go Iv
section
variable {h : Hp} {a b c : TInterval} {x y : TRat} {K : Bool → Hp → Prop}

theorem lo4_BR {k : Nat} {p q r s : Rat} (h1 : BR k p) (h2 : BR k q) (h3 : BR k r) (h4 : BR k s) : BR k (lo4 p q r s) := by
  rcases lo4_mem p q r s with e | e | e | e <;> rw [e] <;> assumption
theorem hi4_BR {k : Nat} {p q r s : Rat} (h1 : BR k p) (h2 : BR k q) (h3 : BR k r) (h4 : BR k s) : BR k (hi4 p q r s) := by
  rcases hi4_mem p q r s with e | e | e | e <;> rw [e] <;> assumption
theorem guard {xs : List TInterval} {n : Nat} (hn : xs.length = n) (hn2 : n ≤ 1000) {k2 : Hp → Prop} (ha : ∀ z ∈ xs, AV h z) (H : ∀ h', h.le h' → K true h') (hk : ∀ h', h.le h' → (∀ z ∈ xs, ∃ lo up, IV10 h' z lo up) → k2 h') :
    callP F.law03_awake (fun r11 h10 => ifP (!r11) (callP F.law03_awake (fun r12 h11 => K r12 h11) h10)
      (newP (xs.flatMap ic) (fun p13 h12 => callP (F.law03_few ⟨some p13, n, n⟩) (fun r14 h13 => ifP (!r14) (callP F.law03_awake (fun r15 h14 => K r15 h14) h13) (k2 h13)) h12) h10)) h := by
  refine awake_call fun h1 hl1 => ifP_false rfl ?_
  refine new_own (n := n) (size := 8) (by rw [flat_len ic_len, hn]) fun p h2 hp ho => ?_
  have hl12 := Hp.le_trans hl1 ho.1
  exact few_call ho.rd (fun z hz => (ha z hz).le hl12) (by omega) (fun h3 hl3 hall => ifP_false rfl (hk h3 (Hp.le_trans hl12 hl3) hall)) (fun h3 hl3 => ifP_true rfl (awake_call fun h4 hl4 => H h4 (Hp.le_trans hl12 (Hp.le_trans hl3 hl4))))
theorem all2 (ha : AV h a) (hb : AV h b) : ∀ z ∈ [a, b], AV h z := fun z hz => by
  simp only [List.mem_cons, List.not_mem_nil, or_false] at hz
  rcases hz with rfl | rfl <;> assumption

theorem law_Sums (ha : AV h a) (hb : AV h b) (H : ∀ h', h.le h' → K true h') : F.law03_IntervalSums a b K h := by
  unfold F.law03_IntervalSums
  refine joinP_inv (fun _ h' => h.le h' ∧ ∀ z ∈ [a, b], ∃ lo up, IV10 h' z lo up) ?_ (guard (n := 2) (xs := [a, b]) rfl (by decide) (all2 ha hb) H fun h' hl hall => ⟨hl, hall⟩)
  rintro _ h1 ⟨hl1, hall⟩
  obtain ⟨al, au, hA⟩ := hall a (by simp)
  obtain ⟨bl, bu, hB⟩ := hall b (by simp)
  refine iAdd_call hA.1 hB.1 hA.2.1 hA.2.2.1 hB.2.1 hB.2.2.1 (by decide) (by decide) fun r3 h2 hl2 hr3 => ?_
  refine riAdd_call (hA.1.le hl2) (hB.1.le hl2) hA.2.1 hA.2.2.1 hB.2.1 hB.2.2.1 (by decide) (by decide) hA.2.2.2 hB.2.2.2 fun r4 h3 hl3 hr4 => ?_
  refine riSame_call (hr3.le hl3) hr4 (hA.2.1.add hB.2.1) (hA.2.2.1.add hB.2.2.1) (by decide) (ifP_true (decide_eq_true ⟨rfl, rfl⟩) ?_)
  have hl13 := Hp.le_trans hl2 hl3
  refine iSub_call (hA.1.le hl13) (hB.1.le hl13) hA.2.1 hA.2.2.1 hB.2.1 hB.2.2.1 (by decide) (by decide) fun r6 h4 hl4 hr6 => ?_
  have hl14 := Hp.le_trans hl13 hl4
  refine riSub_call (hA.1.le hl14) (hB.1.le hl14) hA.2.1 hA.2.2.1 hB.2.1 hB.2.2.1 (by decide) (by decide) hA.2.2.2 hB.2.2.2 fun r7 h5 hl5 hr7 => ?_
  refine riSame_call (hr6.le hl5) hr7 (hA.2.1.sub hB.2.2.1) (hA.2.2.1.sub hB.2.1) (by decide) (ifP_true (decide_eq_true ⟨rfl, rfl⟩) ?_)
  have hl15 := Hp.le_trans hl14 hl5
  refine iWidth_call (hA.1.le hl15) hA.2.1 hA.2.2.1 (by decide) fun r9 h6 hl6 hr9 => ?_
  have hl16 := Hp.le_trans hl15 hl6
  refine rqSub_call (hA.1.2.le hl16) (hA.1.1.le hl16) hA.2.2.1 hA.2.1 (by decide) (by decide) fun r10 h7 hl7 hr10 => ?_
  refine rqSame_call (hr9.le hl7) hr10 (hA.2.2.1.sub hA.2.1) (by decide) ?_
  rw [decide_eq_true rfl]
  exact H _ (Hp.le_trans hl1 (Hp.le_trans hl16 hl7))
theorem law_Members (ha : AV h a) (hb : AV h b) (hx : AR h x) (H : ∀ h', h.le h' → K true h') : F.law03_IntervalMembers a b x K h := by
  unfold F.law03_IntervalMembers
  refine joinP_inv (fun _ h' => h.le h' ∧ (∀ z ∈ [a, b], ∃ lo up, IV10 h' z lo up) ∧ ∃ p, NR h' x p ∧ BR 10 p) ?_ (guard (n := 2) (xs := [a, b]) rfl (by decide) (all2 ha hb) H fun h' hl hall => ?_)
  · rintro _ h1 ⟨hl1, hall, p, hp, bp⟩
    obtain ⟨al, au, hA⟩ := hall a (by simp)
    obtain ⟨bl, bu, hB⟩ := hall b (by simp)
    refine iSign_call hA.1 hA.2.1 hA.2.2.1 (by decide) (riSign_call hA.1 hA.2.1 hA.2.2.1 (by decide) ?_)
    refine joinP_inv (fun s h' => h1.le h' ∧ s = (decide ((bl ≤ al ∧ al ≤ bu) ∧ (bl ≤ au ∧ au ≤ bu)), ())) ?_ ?_
    · rintro _ h2 ⟨hl2, rfl⟩
      refine iContains_call (hA.1.le hl2) (hp.le hl2) hA.2.1 hA.2.2.1 bp (by decide) (by decide) fun h3 hl3 => ?_
      have hl13 := Hp.le_trans hl2 hl3
      refine riContains_call (hA.1.le hl13) (hp.le hl13) hA.2.1 hA.2.2.1 bp (by decide) (by decide) fun h4 hl4 => ?_
      have hl14 := Hp.le_trans hl13 hl4
      refine ifP_true (by simp) ?_
      refine iWithin_call (hA.1.le hl14) (hB.1.le hl14) hA.2.1 hA.2.2.1 hB.2.1 hB.2.2.1 (by decide) (by decide) fun h5 hl5 => ?_
      refine ifP_true (by simp) (ifP_true (by simp) (ifP_true (by simp) ?_))
      have hl15 := Hp.le_trans hl14 hl5
      refine iPoint_call (hp.le hl15) bp (by decide) fun r h6 hl6 hr => rPoint_call ?_
      have hl16 := Hp.le_trans hl15 hl6
      refine riSame_call (bl := p) (bu := p) hr ⟨hp.le hl16, hp.le hl16⟩ bp bp (by decide) ?_
      rw [decide_eq_true ⟨rfl, rfl⟩]
      exact H _ (Hp.le_trans hl1 hl16)
    · refine riContains_call hB.1 hA.1.1 hB.2.1 hB.2.2.1 hA.2.1 (by decide) (by decide) fun h3 hl3 => ?_
      refine ifP_dec (fun h4 => ?_) (fun h4 => ⟨hl3, ?_⟩)
      · refine riContains_call (hB.1.le hl3) (hA.1.2.le hl3) hB.2.1 hB.2.2.1 hA.2.2.1 (by decide) (by decide) fun h5 hl5 => ⟨Hp.le_trans hl3 hl5, ?_⟩
        congr 1
        congr 1
        exact propext ⟨fun hh => ⟨h4, hh⟩, fun hh => hh.2⟩
      · congr 1
        exact (decide_eq_false fun hh => h4 hh.1).symm
  · refine rqFew_call (hx.le hl) (fun q h2 hl2 hq hb => ifP_false rfl ⟨Hp.le_trans hl hl2, fun z hz => ?_, q, hq.le hl2, hb⟩) (fun h2 hl2 => ifP_true rfl (awake_call fun h3 hl3 => H h3 (Hp.le_trans hl (Hp.le_trans hl2 hl3))))
    obtain ⟨lo, up, hz'⟩ := hall z hz
    exact ⟨lo, up, hz'.le hl2⟩
end
end Den
end

section
/-
  The statements on intervals, in plain form (rounding, square roots).
-/
set_option linter.unusedVariables false
namespace Iv
open Den
theorem divInt_le {f N : Int} {p : Rat} (hN : 0 < N) (h : f * p.den ≤ p.num * N) : Rat.divInt f N ≤ p := by
  have h1 := (rat_cross (q := Rat.divInt f N) (by omega : N ≠ 0)).1 rfl
  have hd := dpos (Rat.divInt f N)
  rw [Rat.le_iff]
  generalize (Rat.divInt f N).num = A at *
  generalize ((Rat.divInt f N).den : Int) = D at *
  have h2 : A * p.den * N ≤ p.num * D * N := by
    rw [Int.mul_right_comm A, ← h1, Int.mul_right_comm f, Int.mul_right_comm p.num]
    exact Int.mul_le_mul_of_nonneg_right h (Int.le_of_lt hd)
  exact Int.le_of_mul_le_mul_right h2 hN
theorem le_divInt {f N : Int} {p : Rat} (hN : 0 < N) (h : p.num * N ≤ f * p.den) : p ≤ Rat.divInt f N := by
  have h1 := (rat_cross (q := Rat.divInt f N) (by omega : N ≠ 0)).1 rfl
  have hd := dpos (Rat.divInt f N)
  rw [Rat.le_iff]
  generalize (Rat.divInt f N).num = A at *
  generalize ((Rat.divInt f N).den : Int) = D at *
  have h2 : p.num * D * N ≤ A * p.den * N := by
    rw [Int.mul_right_comm A, ← h1, Int.mul_right_comm f, Int.mul_right_comm p.num]
    exact Int.mul_le_mul_of_nonneg_right h (Int.le_of_lt hd)
  exact Int.le_of_mul_le_mul_right h2 hN
theorem dnQ_le (p : Rat) (n : Nat) : dnQ p n ≤ p := divInt_le (by have := Nat.two_pow_pos n; omega) (floor_facts (dpos p)).1
theorem le_upQ (p : Rat) (n : Nat) : p ≤ upQ p n := le_divInt (by have := Nat.two_pow_pos n; omega) (ceil_facts (dpos p)).1
end Iv
namespace Den
open Go Iv
section
variable {h : Hp} {a b c : TInterval} {x y : TRat} {bits : Int} {K : Bool → Hp → Prop}
theorem all1 (ha : AV h a) : ∀ z ∈ [a], AV h z := fun z hz => by
  simp only [List.mem_cons, List.not_mem_nil, or_false] at hz
  subst hz; assumption
theorem up_BR {p : Rat} {k n : Nat} (hn : n ≤ 4096) (op : BR k p) : BR (k + 200) (upQ p n) := by
  have l2 : Lt 200 ((2 ^ n : Nat) : Int) := (pow2_Lt (n := n)).mono (by omega)
  exact BR.divInt (ediv_Lt (op.1.mul l2).neg).neg (l2.mono (by omega)) (pow2_ne n)
theorem law_Round (ha : AV h a) (H : ∀ h', h.le h' → K true h') : F.law03_IntervalRound a bits K h := by
  unfold F.law03_IntervalRound
  refine joinP_inv (fun _ h' => h.le h' ∧ ∀ z ∈ [a], ∃ lo up, IV10 h' z lo up) ?_ (guard (n := 1) (xs := [a]) rfl (by decide) (all1 ha) H fun h' hl hall => ?_)
  · rintro _ h1 ⟨hl1, hall⟩
    obtain ⟨al, au, hA⟩ := hall a (by simp)
    by_cases hb : bits < 0 ∨ bits > 4096
    · refine callP_same zeroV (fun K' hk => by
        have := iRound_bad (a := a) (h := h1) (KV := K') hb hk
        unfold F.interval_Round at this ⊢
        exact joinP_of (ifP_dec (fun h1 => hk) (fun h1 => ifP_dec (fun h2 => hk) (fun h2 => by omega)))) ?_
      exact joinP_of (ifP_dec (fun h2 => riZero_call (H _ hl1)) (fun h2 => ifP_dec (fun h3 => riZero_call (H _ hl1)) (fun h3 => by omega)))
    · obtain ⟨n, rfl⟩ : ∃ n : Nat, bits = n := ⟨bits.toNat, by omega⟩
      have hn : n ≤ 4096 := by omega
      refine iRound_call hn hA.1 hA.2.1 hA.2.2.1 (by decide) fun r3 h2 hl2 hr3 => ?_
      refine joinP_of (ifP_dec (fun h3 => by omega) (fun h3 => ifP_dec (fun h4 => by omega) (fun h4 => ?_)))
      refine riRound_call hn (hA.1.le hl2) hA.2.1 hA.2.2.1 (by decide) fun r6 h3 hl3 hr6 => ?_
      refine riSame_call (hr3.le hl3) hr6 (dn_BR hn hA.2.1) (up_BR hn hA.2.2.1) (by decide) (ifP_true (decide_eq_true ⟨rfl, rfl⟩) ?_)
      have hl13 := Hp.le_trans hl2 hl3
      refine iWithin_call (hA.1.le hl13) (hr3.le hl3) hA.2.1 hA.2.2.1 (dn_BR hn hA.2.1) (up_BR hn hA.2.2.1) (by decide) (by decide) fun h4 hl4 => ?_
      have e1 := dnQ_le al n
      have e2 := le_upQ au n
      have e3 := hA.2.2.2
      rw [decide_eq_true ⟨⟨e1, by grind⟩, by grind, e2⟩]
      exact H _ (Hp.le_trans hl1 (Hp.le_trans hl13 hl4))
  · refine ifP_dec (fun h1 => ifP_dec (fun h2 => awake_call fun h3 hl3 => H h3 (Hp.le_trans hl hl3)) (fun h2 => ⟨hl, hall⟩)) (fun h1 => ⟨hl, hall⟩)

variable {KVE : (TInterval × Int) → Hp → Prop} {al au : Rat} {j : Nat}
theorem iSqrt_bad (hb : bits < 0 ∨ bits > 4096) (H : KVE (zeroV, 1) h) : callP (F.interval_Sqrt a bits) KVE h := by
  refine callP_same _ (fun K' hk => ?_) H
  unfold F.interval_Sqrt
  exact joinP_of (ifP_dec (fun h1 => hk) (fun h1 => ifP_dec (fun h2 => hk) (fun h2 => by omega)))
theorem riSqrt_bad (hb : bits < 0 ∨ bits > 4096) (H : KVE (zeroV, 1) h) : callP (F.ref03_Sqrt a bits) KVE h := by
  refine callP_same _ (fun K' hk => ?_) H
  unfold F.ref03_Sqrt
  exact joinP_of (ifP_dec (fun h1 => hk) (fun h1 => ifP_dec (fun h2 => hk) (fun h2 => by omega)))
theorem iSqrt_neg (hb : ¬ (bits < 0 ∨ bits > 4096)) (ha : NV h a al au) (b1 : BR j al) (hj : j ≤ 1000000) (h0 : ¬ 0 ≤ al) (H : KVE (zeroV, 7) h) : callP (F.interval_Sqrt a bits) KVE h := by
  refine callP_same _ (fun K' hk => ?_) H
  unfold F.interval_Sqrt
  have s := mt (sign_ge (q := al)).1 h0
  exact joinP_of (ifP_dec (fun h1 => by omega) (fun h1 => ifP_dec (fun h2 => by omega) (fun h2 => qSign_call ha.1 b1 (by omega) (ifP_dec (fun h3 => hk) (fun h3 => by omega)))))
theorem riSqrt_neg (hb : ¬ (bits < 0 ∨ bits > 4096)) (ha : NV h a al au) (b1 : BR j al) (hj : j ≤ 1000000) (h0 : ¬ 0 ≤ al) (H : KVE (zeroV, 7) h) : callP (F.ref03_Sqrt a bits) KVE h := by
  refine callP_same _ (fun K' hk => ?_) H
  unfold F.ref03_Sqrt
  have s := mt (sign_ge (q := al)).1 h0
  exact joinP_of (ifP_dec (fun h1 => by omega) (fun h1 => ifP_dec (fun h2 => by omega) (fun h2 => rqSign_call ha.1 b1 (by omega) (ifP_dec (fun h3 => hk) (fun h3 => by omega)))))
theorem law_Sqrt (ha : AV h a) (H : ∀ h', h.le h' → K true h') : F.law03_IntervalSqrt a bits K h := by
  unfold F.law03_IntervalSqrt
  refine joinP_inv (fun _ h' => h.le h' ∧ ∀ z ∈ [a], ∃ lo up, IV10 h' z lo up) ?_ (guard (n := 1) (xs := [a]) rfl (by decide) (all1 ha) H fun h' hl hall => ?_)
  · rintro _ h1 ⟨hl1, hall⟩
    obtain ⟨al, au, hA⟩ := hall a (by simp)
    by_cases hb : bits < 0 ∨ bits > 4096
    · exact iSqrt_bad hb (riSqrt_bad hb (ifP_true rfl (ifP_false rfl (ifP_true rfl (riZero_call (H _ hl1))))))
    by_cases h0 : 0 ≤ al
    · obtain ⟨n, rfl⟩ : ∃ n : Nat, bits = n := ⟨bits.toNat, by omega⟩
      have hn : n ≤ 4096 := by omega
      refine iSqrt_call hn hA.1 hA.2.1 hA.2.2.1 (by decide) h0 hA.2.2.2 fun z h2 s t hl2 hz hs ht bs bt => ?_
      refine riSqrt_call hn (hA.1.le hl2) hA.2.1 hA.2.2.1 (by decide) h0 hA.2.2.2 fun w h3 s' t' hl3 hw hs' ht' => ?_
      obtain rfl := hs.uniq hs'
      obtain rfl := UP.uniq (dpos au) ht ht'
      have l1 : Lt 311 ((2 ^ n : Nat) : Int) := (pow2_Lt (n := n)).mono (by omega)
      refine ifP_true rfl (ifP_true rfl (riSame_call (hz.le hl3) hw (BR.divInt bs l1 (pow2_ne n)) (BR.divInt bt l1 (pow2_ne n)) (by decide) (ifP_true (decide_eq_true ⟨rfl, rfl⟩) (H _ (Hp.le_trans hl1 (Hp.le_trans hl2 hl3))))))
    · exact iSqrt_neg hb hA.1 hA.2.1 (by decide) h0 (riSqrt_neg hb hA.1 hA.2.1 (by decide) h0 (ifP_true rfl (ifP_false rfl (ifP_true rfl (riZero_call (H _ hl1))))))
  · refine ifP_dec (fun h1 => ifP_dec (fun h2 => awake_call fun h3 hl3 => H h3 (Hp.le_trans hl hl3)) (fun h2 => ⟨hl, hall⟩)) (fun h1 => ⟨hl, hall⟩)
end
end Den
end

section
/-
  The statements on intervals, in plain form (meets, enclosure, parts, validity).
-/
set_option linter.unusedVariables false
namespace Den
open Go Iv
section
variable {h : Hp} {a b c : TInterval} {x y : TRat} {bits : Int} {K : Bool → Hp → Prop}

theorem meet_mem {al au bl bu p : Rat} : (meetL al bl ≤ p ∧ p ≤ meetU au bu) ↔ (al ≤ p ∧ p ≤ au) ∧ (bl ≤ p ∧ p ≤ bu) := by
  unfold meetL meetU
  split <;> split <;> grind
theorem few_rat (hx : AR h x) (H : ∀ h', h.le h' → K true h') {k2 : Hp → Prop} (hk : ∀ h' p, h.le h' → NR h' x p → BR 10 p → k2 h') :
    callP (F.ref02_Few x 10) (fun r20 h18 => ifP (!r20) (callP F.law03_awake (fun r21 h19 => K r21 h19) h18) (k2 h18)) h :=
  rqFew_call hx (fun q h2 hl2 hq hb => ifP_false rfl (hk h2 q hl2 (hq.le hl2) hb)) (fun h2 hl2 => ifP_true rfl (awake_call fun h3 hl3 => H h3 (Hp.le_trans hl2 hl3)))
theorem law_Meet (ha : AV h a) (hb : AV h b) (hx : AR h x) (H : ∀ h', h.le h' → K true h') : F.law03_IntervalMeet a b x K h := by
  unfold F.law03_IntervalMeet
  refine joinP_inv (fun _ h' => h.le h' ∧ (∀ z ∈ [a, b], ∃ lo up, IV10 h' z lo up) ∧ ∃ p, NR h' x p ∧ BR 10 p) ?_ (guard (n := 2) (xs := [a, b]) rfl (by decide) (all2 ha hb) H fun h' hl hall => few_rat (hx.le hl) (fun h2 hl2 => H h2 (Hp.le_trans hl hl2)) fun h2 p hl2 hp bp => ⟨Hp.le_trans hl hl2, fun z hz => ?_, p, hp, bp⟩)
  · rintro _ h1 ⟨hl1, hall, p, hp, bp⟩
    obtain ⟨al, au, hA⟩ := hall a (by simp)
    obtain ⟨bl, bu, hB⟩ := hall b (by simp)
    have mm := @meet_mem al au bl bu p
    refine iMeet_call hA.1 hB.1 hA.2.1 hA.2.2.1 hB.2.1 hB.2.2.1 (by decide) (fun hno h2 hl2 => ?_) (fun hyes z h2 hl2 hz => ?_)
    · refine riMeet_call (hA.1.le hl2) (hB.1.le hl2) hA.2.1 hA.2.2.1 hB.2.1 hB.2.2.1 (by decide) (fun _ h3 hl3 => ?_) (fun hy => absurd hno (by grind))
      have hl13 := Hp.le_trans hl2 hl3
      refine joinP_of (ifP_false rfl (ifP_false rfl (ifP_true rfl (riZero_call (ifP_false rfl (ifP_false rfl ?_))))))
      refine iContains_call (hA.1.le hl13) (hp.le hl13) hA.2.1 hA.2.2.1 bp (by decide) (by decide) fun h4 hl4 => ?_
      have hl14 := Hp.le_trans hl13 hl4
      refine ifP_dec (fun h5 => ?_) (fun h5 => H _ (Hp.le_trans hl1 hl14))
      refine iContains_call (hB.1.le hl14) (hp.le hl14) hB.2.1 hB.2.2.1 bp (by decide) (by decide) fun h6 hl6 => ?_
      have : ¬ (bl ≤ p ∧ p ≤ bu) := fun hh => by
        have := mm.2 ⟨h5, hh⟩
        grind
      rw [decide_eq_false this]
      exact H _ (Hp.le_trans hl1 (Hp.le_trans hl14 hl6))
    · refine riMeet_call (hA.1.le hl2) (hB.1.le hl2) hA.2.1 hA.2.2.1 hB.2.1 hB.2.2.1 (by decide) (fun hn => absurd hn (by grind)) (fun _ w h3 hl3 hw => ?_)
      have hl13 := Hp.le_trans hl2 hl3
      refine joinP_of (ifP_false rfl (ifP_true rfl ?_))
      refine riSame_call (hz.le hl3) hw (meetL_BR hA.2.1 hB.2.1) (meetU_BR hA.2.2.1 hB.2.2.1) (by decide) (ifP_false (by simp) (ifP_false rfl (ifP_true rfl ?_)))
      refine iContains_call (hz.le hl3) (hp.le hl13) (meetL_BR hA.2.1 hB.2.1) (meetU_BR hA.2.2.1 hB.2.2.1) bp (by decide) (by decide) fun h4 hl4 => ?_
      have hl14 := Hp.le_trans hl13 hl4
      refine iContains_call (hA.1.le hl14) (hp.le hl14) hA.2.1 hA.2.2.1 bp (by decide) (by decide) fun h5 hl5 => ?_
      have hl15 := Hp.le_trans hl14 hl5
      refine ifP_dec (fun h6 => ?_) (fun h6 => ?_)
      · refine iContains_call (hB.1.le hl15) (hp.le hl15) hB.2.1 hB.2.2.1 bp (by decide) (by decide) fun h7 hl7 => ?_
        have e : decide (meetL al bl ≤ p ∧ p ≤ meetU au bu) = decide (bl ≤ p ∧ p ≤ bu) := by
          congr 1; exact propext ⟨fun hh => (mm.1 hh).2, fun hh => mm.2 ⟨h6, hh⟩⟩
        rw [e, beq_self_eq_true]
        exact H _ (Hp.le_trans hl1 (Hp.le_trans hl15 hl7))
      · rw [decide_eq_false (fun hh => h6 (mm.1 hh).1)]
        exact H _ (Hp.le_trans hl1 hl15)
  · obtain ⟨lo, up, hz'⟩ := hall z hz
    exact ⟨lo, up, hz'.le hl2⟩
end
end Den
end

section
/-
  The statements on intervals, in plain form (parts of intervals).
-/
set_option linter.unusedVariables false
namespace Den
open Go Iv
section
variable {h : Hp} {a b c : TInterval} {x y : TRat} {bits : Int} {K : Bool → Hp → Prop}

theorem all3 (ha : AV h a) (hb : AV h b) (hc : AV h c) : ∀ z ∈ [a, b, c], AV h z := fun z hz => by
  simp only [List.mem_cons, List.not_mem_nil, or_false] at hz
  rcases hz with rfl | rfl | rfl <;> assumption
theorem within_true {al au bl bu : Rat} (h : al ≤ au) (h1 : bl ≤ al) (h2 : au ≤ bu) : decide ((bl ≤ al ∧ al ≤ bu) ∧ (bl ≤ au ∧ au ≤ bu)) = true := decide_eq_true (by grind)
theorem lo4_hi4 (p q r s : Rat) : lo4 p q r s ≤ hi4 p q r s := by
  have h1 := lo4_le p q r s
  have h2 := hi4_ge p q r s
  grind
theorem law_Monotonic (ha : AV h a) (hb : AV h b) (hc : AV h c) (H : ∀ h', h.le h' → K true h') : F.law03_IntervalMonotonic a b c K h := by
  unfold F.law03_IntervalMonotonic
  refine joinP_inv (fun _ h' => h.le h' ∧ ∀ z ∈ [a, b, c], ∃ lo up, IV10 h' z lo up) ?_ (guard (n := 3) (xs := [a, b, c]) rfl (by decide) (all3 ha hb hc) H fun h' hl hall => ⟨hl, hall⟩)
  rintro _ h1 ⟨hl1, hall⟩
  obtain ⟨al, au, hA⟩ := hall a (by simp)
  obtain ⟨bl, bu, hB⟩ := hall b (by simp)
  obtain ⟨cl, cu, hC⟩ := hall c (by simp)
  refine riMeet_call hA.1 hC.1 hA.2.1 hA.2.2.1 hC.2.1 hC.2.2.1 (by decide) (fun hno h2 hl2 => ifP_true rfl (H _ (Hp.le_trans hl1 hl2))) (fun hyes m h2 hl2 hm => ifP_false rfl ?_)
  have bL := meetL_BR hA.2.1 hC.2.1
  have bU := meetU_BR hA.2.2.1 hC.2.2.1
  have p1 : al ≤ meetL al cl := by unfold meetL; split <;> grind
  have p2 : meetU au cu ≤ au := by unfold meetU; split <;> grind
  generalize meetL al cl = ml at *
  generalize meetU au cu = mu at *
  have hab := hA.2.2.2
  have hbb := hB.2.2.2
  refine joinP_inv (fun _ h' => h2.le h') ?_ ?_
  · rintro _ h3 hl3
    have hl13 := Hp.le_trans hl2 hl3
    refine iDiv_call (hB.1.le hl13) (hm.le hl3) hB.2.1 hB.2.2.1 bL bU (by decide) (by decide) (fun hz h4 hl4 => ?_) (fun hnz n1 n2 z h4 hl4 hz => ?_) hyes
    · have hl14 := Hp.le_trans hl13 hl4
      refine iDiv_call (hB.1.le hl14) (hA.1.le hl14) hB.2.1 hB.2.2.1 hA.2.1 hA.2.2.1 (by decide) (by decide) (fun _ h5 hl5 => ifP_true rfl (H _ (Hp.le_trans hl1 (Hp.le_trans hl14 hl5)))) (fun hn => absurd hz (fun hh => hn (by grind))) hab
    · have hl14 := Hp.le_trans hl13 hl4
      refine iDiv_call (hB.1.le hl14) (hA.1.le hl14) hB.2.1 hB.2.2.1 hA.2.1 hA.2.2.1 (by decide) (by decide) (fun _ h5 hl5 => ifP_true rfl (H _ (Hp.le_trans hl1 (Hp.le_trans hl14 hl5)))) (fun hn k1 k2 w h5 hl5 hw => ifP_false rfl (ifP_true rfl ?_)) hab
      have i1 := bL.inv n1
      have i2 := bU.inv n2
      have j1 := hA.2.1.inv k1
      have j2 := hA.2.2.1.inv k2
      refine iWithin_call (hz.le hl5) hw (lo4_BR (hB.2.1.mul i2) (hB.2.1.mul i1) (hB.2.2.1.mul i2) (hB.2.2.1.mul i1)) (hi4_BR (hB.2.1.mul i2) (hB.2.1.mul i1) (hB.2.2.1.mul i2) (hB.2.2.1.mul i1)) (lo4_BR (hB.2.1.mul j2) (hB.2.1.mul j1) (hB.2.2.1.mul j2) (hB.2.2.1.mul j1)) (hi4_BR (hB.2.1.mul j2) (hB.2.1.mul j1) (hB.2.2.1.mul j2) (hB.2.2.1.mul j1)) (by decide) (by decide) fun h6 hl6 => ?_
      have e1 : mu⁻¹ ≤ ml⁻¹ := inv_le hyes (by grind)
      have e2 : ml⁻¹ ≤ al⁻¹ := inv_le p1 (by grind)
      have e3 : au⁻¹ ≤ mu⁻¹ := inv_le p2 (by grind)
      have mp := mul_part (cl := bl) (al := bl) (au := bu) (cu := bu) (dl := au⁻¹) (bl := mu⁻¹) (bu := ml⁻¹) (du := al⁻¹) Rat.le_refl hbb Rat.le_refl e3 e1 e2
      rw [within_true (lo4_hi4 _ _ _ _) mp.1 mp.2]
      exact H _ (Hp.le_trans hl1 (Hp.le_trans hl14 (Hp.le_trans hl5 hl6)))
  · have hB2 := hB.1.le hl2
    have hA2 := hA.1.le hl2
    refine iAdd_call hm hB2 bL bU hB.2.1 hB.2.2.1 (by decide) (by decide) fun r9 h3 hl3 hr9 => ?_
    refine iAdd_call (hA2.le hl3) (hB2.le hl3) hA.2.1 hA.2.2.1 hB.2.1 hB.2.2.1 (by decide) (by decide) fun r10 h4 hl4 hr10 => ?_
    refine iWithin_call (hr9.le hl4) hr10 (bL.add hB.2.1) (bU.add hB.2.2.1) (hA.2.1.add hB.2.1) (hA.2.2.1.add hB.2.2.1) (by decide) (by decide) fun h5 hl5 => ?_
    rw [within_true (by grind) (by grind) (by grind)]
    refine ifP_false rfl ?_
    have hl25 := Hp.le_trans hl3 (Hp.le_trans hl4 hl5)
    refine iMul_call (hm.le hl25) (hB2.le hl25) bL bU hB.2.1 hB.2.2.1 (by decide) (by decide) fun r12 h6 hl6 hr12 => ?_
    have hl26 := Hp.le_trans hl25 hl6
    refine iMul_call (hA2.le hl26) (hB2.le hl26) hA.2.1 hA.2.2.1 hB.2.1 hB.2.2.1 (by decide) (by decide) fun r13 h7 hl7 hr13 => ?_
    refine iWithin_call (hr12.le hl7) hr13 (lo4_BR (bL.mul hB.2.1) (bL.mul hB.2.2.1) (bU.mul hB.2.1) (bU.mul hB.2.2.1)) (hi4_BR (bL.mul hB.2.1) (bL.mul hB.2.2.1) (bU.mul hB.2.1) (bU.mul hB.2.2.1)) (lo4_BR (hA.2.1.mul hB.2.1) (hA.2.1.mul hB.2.2.1) (hA.2.2.1.mul hB.2.1) (hA.2.2.1.mul hB.2.2.1)) (hi4_BR (hA.2.1.mul hB.2.1) (hA.2.1.mul hB.2.2.1) (hA.2.2.1.mul hB.2.1) (hA.2.2.1.mul hB.2.2.1)) (by decide) (by decide) fun h8 hl8 => ?_
    have mp := mul_part (cl := al) (al := ml) (au := mu) (cu := au) (dl := bl) (bl := bl) (bu := bu) (du := bu) p1 hyes p2 Rat.le_refl hbb Rat.le_refl
    rw [within_true (lo4_hi4 _ _ _ _) mp.1 mp.2]
    refine ifP_false rfl ?_
    have hl28 := Hp.le_trans hl26 (Hp.le_trans hl7 hl8)
    refine iSub_call (hB2.le hl28) (hm.le hl28) hB.2.1 hB.2.2.1 bL bU (by decide) (by decide) fun r15 h9 hl9 hr15 => ?_
    have hl29 := Hp.le_trans hl28 hl9
    refine iSub_call (hB2.le hl29) (hA2.le hl29) hB.2.1 hB.2.2.1 hA.2.1 hA.2.2.1 (by decide) (by decide) fun r16 h10 hl10 hr16 => ?_
    refine iWithin_call (hr15.le hl10) hr16 (hB.2.1.sub bU) (hB.2.2.1.sub bL) (hB.2.1.sub hA.2.2.1) (hB.2.2.1.sub hA.2.1) (by decide) (by decide) fun h11 hl11 => ?_
    rw [within_true (by grind) (by grind) (by grind)]
    exact ifP_false rfl (Hp.le_trans hl29 (Hp.le_trans hl10 hl11))
end
end Den
end

section
/-
  The statements on intervals, in plain form (enclosure).
-/
set_option linter.unusedVariables false
namespace Iv
open Den
theorem le_whole {x m n : Int} (hn : 0 < n) : Rat.divInt m n ≤ Rat.divInt x 1 ↔ m ≤ x * n := by
  have := whole_lt (x := x) (m := m) hn
  constructor
  · intro h
    have h2 : ¬ Rat.divInt x 1 < Rat.divInt m n := by grind
    have := mt this.2 h2
    omega
  · intro h
    have h2 : ¬ Rat.divInt x 1 < Rat.divInt m n := fun hh => by have := this.1 hh; omega
    grind
theorem whole_le {x m n : Int} (hn : 0 < n) : Rat.divInt x 1 ≤ Rat.divInt m n ↔ x * n ≤ m := by
  rw [Rat.le_iff]
  have h1 := whole_num x
  rw [h1.1, h1.2, Int.mul_one]
  have h2 := (rat_cross (q := Rat.divInt m n) (by omega : n ≠ 0)).1 rfl
  have hd := dpos (Rat.divInt m n)
  generalize (Rat.divInt m n).num = N at *
  generalize ((Rat.divInt m n).den : Int) = D at *
  constructor
  · intro h
    have h3 := Int.mul_le_mul_of_nonneg_right h (Int.le_of_lt hn)
    have h4 : x * n * D ≤ m * D := by rw [h2, Int.mul_right_comm]; exact h3
    exact Int.le_of_mul_le_mul_right h4 hd
  · intro h
    have h3 := Int.mul_le_mul_of_nonneg_right h (Int.le_of_lt hd)
    rw [h2, Int.mul_right_comm] at h3
    exact Int.le_of_mul_le_mul_right h3 hn
theorem sq_le_sq {x y : Rat} (hy : 0 ≤ y) (h : x * x ≤ y * y) : x ≤ y := by
  rcases Rat.le_total (a := x) (b := y) with h1 | h1
  · exact h1
  · have h2 := Rat.mul_le_mul_of_nonneg_left h1 hy
    have h3 := Rat.mul_le_mul_of_nonneg_right h1 (show 0 ≤ x by grind)
    have h4 : y * x = x * x := by grind
    have h5 : y * y = x * x := by grind
    have h6 : (x - y) * (x - y) = 0 := by grind
    have h7 : x - y = 0 := by
      rcases Rat.mul_eq_zero.1 h6 with h8 | h8 <;> exact h8
    grind
/-- The rounded roots of a square enclose the number. -/
theorem root_mem {y q : Rat} {n s t : Nat} (hy : 0 ≤ y) (hq : y * y = q) (hs : IsSq (q.num * ((2 ^ (2 * n) : Nat) : Int) / q.den).toNat s) (ht : UP (q.num * ((2 ^ (2 * n) : Nat) : Int)) q.den t) :
    Rat.divInt s (2 ^ n : Nat) ≤ y ∧ y ≤ Rat.divInt t (2 ^ n : Nat) := by
  have hq0 : 0 ≤ q := by rw [← hq]; exact Rat.mul_nonneg hy hy
  have hn0 := Den.nonneg_num hq0
  have hM : 0 < ((2 ^ n : Nat) : Int) := by have := Nat.two_pow_pos n; omega
  have eMM : Rat.divInt ((2 ^ n : Nat) : Int) 1 * Rat.divInt ((2 ^ n : Nat) : Int) 1 = Rat.divInt ((2 ^ (2 * n) : Nat) : Int) 1 := by
    rw [whole_mul, ← Int.natCast_mul, ← Nat.pow_add, show n + n = 2 * n by omega]
  have hMq : 0 ≤ Rat.divInt ((2 ^ n : Nat) : Int) 1 := by
    rw [← Rat.num_nonneg, (whole_num _).1]; omega
  have hYn : 0 ≤ y * Rat.divInt ((2 ^ n : Nat) : Int) 1 := Rat.mul_nonneg hy hMq
  have eYY : (y * Rat.divInt ((2 ^ n : Nat) : Int) 1) * (y * Rat.divInt ((2 ^ n : Nat) : Int) 1) = Rat.divInt (q.num * ((2 ^ (2 * n) : Nat) : Int)) q.den := by
    rw [← mul_whole, ← eMM, ← hq]; grind
  have eY : y * Rat.divInt ((2 ^ n : Nat) : Int) 1 = Rat.divInt (y.num * ((2 ^ n : Nat) : Int)) y.den := mul_whole _ _
  have fnn : 0 ≤ q.num * ((2 ^ (2 * n) : Nat) : Int) / q.den := Int.ediv_nonneg (Int.mul_nonneg hn0 (Int.natCast_nonneg _)) (by omega)
  have ff := floor_facts (m := q.num * ((2 ^ (2 * n) : Nat) : Int)) (dpos q)
  have sc := sq_cast hs
  rw [Int.toNat_of_nonneg fnn] at sc
  constructor
  · have h1 : Rat.divInt (s : Int) 1 * Rat.divInt (s : Int) 1 ≤ (y * Rat.divInt ((2 ^ n : Nat) : Int) 1) * (y * Rat.divInt ((2 ^ n : Nat) : Int) 1) := by
      rw [eYY, whole_mul, whole_le (dpos q)]
      have := Int.mul_le_mul_of_nonneg_right sc.1 (Int.le_of_lt (dpos q))
      omega
    have h2 := sq_le_sq hYn h1
    rw [eY, whole_le (dpos y)] at h2
    exact divInt_le hM h2
  · have h1 : (y * Rat.divInt ((2 ^ n : Nat) : Int) 1) * (y * Rat.divInt ((2 ^ n : Nat) : Int) 1) ≤ Rat.divInt (t : Int) 1 * Rat.divInt (t : Int) 1 := by
      rw [eYY, whole_mul, le_whole (dpos q)]
      exact ht.1
    have h2 := sq_le_sq (by rw [← Rat.num_nonneg, (whole_num _).1]; omega) h1
    rw [eY, le_whole (dpos y)] at h2
    exact le_divInt hM h2
end Iv
end

section
/-
  The statement on enclosure, in plain form.
-/
set_option linter.unusedVariables false
namespace Den
open Go Iv
section
variable {h : Hp} {a b : TInterval} {l : A2_TRat} {K : Bool → Hp → Prop}
theorem law_Enclosure (ha : AV h a) (hb : AV h b) (h0 : AR h l.c0) (h1 : AR h l.c1) (H : ∀ h', h.le h' → K true h') : F.law03_IntervalEnclosure a b l K h := by
  unfold F.law03_IntervalEnclosure
  refine joinP_inv (fun _ h' => h.le h' ∧ ∃ al au bl bu p q, IV10 h' a al au ∧ IV10 h' b bl bu ∧ NR h' l.c0 p ∧ BR 10 p ∧ NR h' l.c1 q ∧ BR 10 q ∧ (al ≤ p ∧ p ≤ au) ∧ (bl ≤ q ∧ q ≤ bu)) ?_ (guard (n := 2) (xs := [a, b]) rfl (by decide) (all2 ha hb) H fun h' hl hall => few_rat (h0.le hl) (fun h2 hl2 => H h2 (Hp.le_trans hl hl2)) fun h2 p hl2 hp bp => few_rat (h1.le (Hp.le_trans hl hl2)) (fun h3 hl3 => H h3 (Hp.le_trans hl (Hp.le_trans hl2 hl3))) fun h3 q hl3 hq bq => ?_)
  · rintro _ h1 ⟨hl1, al, au, bl, bu, p, q, hA, hB, hp, bp, hq, bq, mp, mq⟩
    refine joinP_inv (fun _ h' => h1.le h') ?_ ?_
    · rintro _ h2 hl2
      refine joinP_inv (fun _ h' => h1.le h') ?_ ?_
      · rintro _ h3 hl3
        have bpp := bp.mul bp
        refine rqMul_call (hp.le hl3) (hp.le hl3) bp bp (by decide) (by decide) fun r7 h4 hl4 hr7 => iPoint_call hr7 bpp (by decide) fun r8 h5 hl5 hr8 => ?_
        have hpp : 0 ≤ p * p := by
          rcases Rat.le_total (a := 0) (b := p) with h6 | h6
          · exact Rat.mul_nonneg h6 h6
          · have := Rat.mul_nonneg (a := -p) (b := -p) (by grind) (by grind); grind
        refine iSqrt_call (n := 20) (by decide) hr8 bpp bpp (by decide) hpp Rat.le_refl fun z h6 s t hl6 hz hs ht bs bt => ?_
        have hl16 := Hp.le_trans hl3 (Hp.le_trans hl4 (Hp.le_trans hl5 hl6))
        have l1 : Lt 321 ((2 ^ 20 : Nat) : Int) := (pow2_Lt (n := 20)).mono (by decide)
        have bS : BR 321 (Rat.divInt (s : Int) ((2 ^ 20 : Nat) : Int)) := BR.divInt bs l1 (pow2_ne 20)
        have bT : BR 321 (Rat.divInt (t : Int) ((2 ^ 20 : Nat) : Int)) := BR.divInt bt l1 (pow2_ne 20)
        refine joinP_inv (fun st h' => h1.le h' ∧ h6.le h' ∧ ∃ y, NR h' (q4 st.1) y ∧ BR 10 y ∧ 0 ≤ y ∧ y * y = p * p) ?_ ?_
        · rintro st h7 ⟨hl7, hl67, y, hy, by10, hy0, hyy⟩
          refine ifP_true rfl ?_
          refine riContains_call (hz.le hl67) hy bS bT by10 (by decide) (by decide) fun h8 hl8 => ?_
          have := root_mem (n := 20) hy0 hyy hs ht
          rw [decide_eq_true this]
          exact H _ (Hp.le_trans hl1 (Hp.le_trans hl7 hl8))
        · refine rqSign_call (hp.le hl16) bp (by decide) (ifP_dec (fun h7 => ?_) (fun h7 => ?_))
          · refine rqNeg_call (hp.le hl16) bp (by decide) fun w hw => ⟨hl16, Hp.le_refl _, -p, hw, bp.neg, ?_, by grind⟩
            have := (sign_le (q := p)).1 (by omega)
            grind
          · refine ⟨hl16, Hp.le_refl _, p, hp.le hl16, bp, ?_, rfl⟩
            exact sign_ge.1 (by omega)
      · refine iDiv_call (hA.1.le hl2) (hB.1.le hl2) hA.2.1 hA.2.2.1 hB.2.1 hB.2.2.1 (by decide) (by decide) (fun hz h3 hl3 => ifP_false rfl (Hp.le_trans hl2 hl3)) (fun hnz n1 n2 z h3 hl3 hz => ifP_true rfl ?_) hB.2.2.2
        have hl13 := Hp.le_trans hl2 hl3
        have hq0 : q.num ≠ 0 := fun hh => by rw [pos_num] at hh; subst hh; exact hnz mq
        refine rqDiv_call (hp.le hl13) (hq.le hl13) bp bq (by decide) (by decide) hq0 fun w h4 hl4 hw => ifP_false rfl ?_
        have i1 := hB.2.1.inv n1
        have i2 := hB.2.2.1.inv n2
        refine riContains_call (hz.le hl4) hw (lo4_BR (hA.2.1.mul i2) (hA.2.1.mul i1) (hA.2.2.1.mul i2) (hA.2.2.1.mul i1)) (hi4_BR (hA.2.1.mul i2) (hA.2.1.mul i1) (hA.2.2.1.mul i2) (hA.2.2.1.mul i1)) (bp.div bq hq0) (by decide) (by decide) fun h5 hl5 => ?_
        have e1 : bu⁻¹ ≤ q⁻¹ := inv_le mq.2 (by grind)
        have e2 : q⁻¹ ≤ bl⁻¹ := inv_le mq.1 (by grind)
        have mm := mul_mem (al := al) (au := au) (bl := bu⁻¹) (bu := bl⁻¹) mp.1 mp.2 e1 e2
        rw [Rat.div_def, decide_eq_true mm]
        exact ifP_false rfl (Hp.le_trans hl13 (Hp.le_trans hl4 hl5))
    · refine iAdd_call hA.1 hB.1 hA.2.1 hA.2.2.1 hB.2.1 hB.2.2.1 (by decide) (by decide) fun r1 h2 hl2 hr1 => ?_
      refine rqAdd_call (hp.le hl2) (hq.le hl2) bp bq (by decide) (by decide) fun r2 h3 hl3 hr2 => ?_
      refine riContains_call (hr1.le hl3) hr2 (hA.2.1.add hB.2.1) (hA.2.2.1.add hB.2.2.1) (bp.add bq) (by decide) (by decide) fun h4 hl4 => ?_
      rw [decide_eq_true (by grind : al + bl ≤ p + q ∧ p + q ≤ au + bu)]
      refine ifP_false rfl ?_
      have hl14 := Hp.le_trans hl2 (Hp.le_trans hl3 hl4)
      refine iSub_call (hA.1.le hl14) (hB.1.le hl14) hA.2.1 hA.2.2.1 hB.2.1 hB.2.2.1 (by decide) (by decide) fun r3 h5 hl5 hr3 => ?_
      have hl15 := Hp.le_trans hl14 hl5
      refine rqSub_call (hp.le hl15) (hq.le hl15) bp bq (by decide) (by decide) fun r4 h6 hl6 hr4 => ?_
      refine riContains_call (hr3.le hl6) hr4 (hA.2.1.sub hB.2.2.1) (hA.2.2.1.sub hB.2.1) (bp.sub bq) (by decide) (by decide) fun h7 hl7 => ?_
      rw [decide_eq_true (by grind : al - bu ≤ p - q ∧ p - q ≤ au - bl)]
      refine ifP_false rfl ?_
      have hl17 := Hp.le_trans hl15 (Hp.le_trans hl6 hl7)
      refine iMul_call (hA.1.le hl17) (hB.1.le hl17) hA.2.1 hA.2.2.1 hB.2.1 hB.2.2.1 (by decide) (by decide) fun r5 h8 hl8 hr5 => ?_
      have hl18 := Hp.le_trans hl17 hl8
      refine rqMul_call (hp.le hl18) (hq.le hl18) bp bq (by decide) (by decide) fun r6 h9 hl9 hr6 => ?_
      refine riContains_call (hr5.le hl9) hr6 (lo4_BR (hA.2.1.mul hB.2.1) (hA.2.1.mul hB.2.2.1) (hA.2.2.1.mul hB.2.1) (hA.2.2.1.mul hB.2.2.1)) (hi4_BR (hA.2.1.mul hB.2.1) (hA.2.1.mul hB.2.2.1) (hA.2.2.1.mul hB.2.1) (hA.2.2.1.mul hB.2.2.1)) (bp.mul bq) (by decide) (by decide) fun h10 hl10 => ?_
      rw [decide_eq_true (mul_mem mp.1 mp.2 mq.1 mq.2)]
      exact ifP_false rfl (Hp.le_trans hl18 (Hp.le_trans hl9 hl10))
  · obtain ⟨al, au, hA⟩ := hall a (by simp)
    obtain ⟨bl, bu, hB⟩ := hall b (by simp)
    have hl23 := Hp.le_trans hl2 hl3
    have hlall := Hp.le_trans hl hl23
    refine riContains_call (hA.1.le hl23) (hp.le hl3) hA.2.1 hA.2.2.1 bp (by decide) (by decide) fun h4 hl4 => ?_
    have hl24 := Hp.le_trans hl23 hl4
    by_cases m1 : al ≤ p ∧ p ≤ au
    · rw [decide_eq_true m1]
      refine ifP_false rfl ?_
      refine riContains_call (hB.1.le hl24) (hq.le hl4) hB.2.1 hB.2.2.1 bq (by decide) (by decide) fun h5 hl5 => ?_
      by_cases m2 : bl ≤ q ∧ q ≤ bu
      · rw [decide_eq_true m2]
        exact ifP_false rfl ⟨Hp.le_trans hlall (Hp.le_trans hl4 hl5), al, au, bl, bu, p, q, hA.le (Hp.le_trans hl24 hl5), hB.le (Hp.le_trans hl24 hl5), hp.le (Hp.le_trans hl3 (Hp.le_trans hl4 hl5)), bp, hq.le (Hp.le_trans hl4 hl5), bq, m1, m2⟩
      · rw [decide_eq_false m2]
        exact ifP_true rfl (awake_call fun h6 hl6 => H h6 (Hp.le_trans hlall (Hp.le_trans hl4 (Hp.le_trans hl5 hl6))))
    · rw [decide_eq_false m1]
      exact ifP_true rfl (awake_call fun h6 hl6 => H h6 (Hp.le_trans hlall (Hp.le_trans hl4 hl6)))
end
end Den
end

section
/-
  The statement on validity, in plain form.
-/
set_option linter.unusedVariables false
namespace Den
open Go Iv
section
variable {h : Hp} {v a : TInterval} {Kb K : Bool → Hp → Prop}
theorem iValid_call (hv : AV h v) (hl : v.low.num.mag.len ≤ 268435456 ∧ v.low.den.mag.len ≤ 268435456 ∧ v.high.num.mag.len ≤ 268435456 ∧ v.high.den.mag.len ≤ 268435456) (hB : ∀ l u, NV h v l u → BR 1000000 l ∧ BR 1000000 u)
    (H1 : ∀ l u h', h.le h' → NV h v l u → l ≤ u → Kb true h') (H0 : ∀ h', h.le h' → (¬ ∃ l u, NV h v l u ∧ l ≤ u) → Kb false h') : callP (F.interval_Valid v) Kb h := by
  refine callP_of (fun b h' => b = true ∧ (∃ l u, NV h v l u ∧ l ≤ u) ∨ b = false ∧ ¬ ∃ l u, NV h v l u ∧ l ≤ u) (fun K' hk => ?_) fun b h' hl hv => by
    rcases hv with ⟨rfl, l, u, hn, hb⟩ | ⟨rfl, hn⟩
    · exact H1 l u h' hl hn hb
    · exact H0 h' hl hn
  unfold F.interval_Valid
  refine qValid_call hv.1 hl.1 hl.2.1 (fun l h1 hl1 hL => ifP_true rfl ?_) (fun h1 hl1 hn => ifP_false rfl (hk _ _ hl1 (.inr ⟨rfl, fun ⟨l, u, hh, _⟩ => hn ⟨l, hh.1⟩⟩)))
  have hinj : ∀ {h : Hp} {x : TRat} {p q : Rat}, NR h x p → NR h x q → p = q := fun h1 h2 => Rat.ext (h1.1.inj h2.1) (by have := h1.2.inj h2.2; omega)
  refine qValid_call (hv.2.le hl1) hl.2.2.1 hl.2.2.2 (fun u h2 hl2 hU => ifP_true rfl ?_) (fun h2 hl2 hn => ifP_false rfl (hk _ _ (Hp.le_trans hl1 hl2) (.inr ⟨rfl, fun ⟨l, u, hh, _⟩ => hn ⟨u, hh.2.le hl1⟩⟩)))
  by_cases hUh : ∃ u', NR h v.high u'
  · obtain ⟨u', hu'⟩ := hUh
    have e := hinj hU (hu'.le hl1)
    subst e
    have b := hB l u ⟨hL, hu'⟩
    have hl12 := Hp.le_trans hl1 hl2
    refine qCmp_call (hL.le hl12) (hu'.le hl12) b.1 b.2 (by omega) (by omega) fun h3 hl3 => hk _ _ (Hp.le_trans hl12 hl3) ?_
    by_cases h4 : l ≤ u
    · exact .inl ⟨decide_eq_true (cmpQ_le.2 h4), l, u, ⟨hL, hu'⟩, h4⟩
    · refine .inr ⟨decide_eq_false (fun hh => h4 (cmpQ_le.1 hh)), fun ⟨l2, u2, hh, hle⟩ => h4 ?_⟩
      rw [hinj hL hh.1, hinj hu' hh.2]; exact hle
  · exfalso
    obtain ⟨lm, hlm, okm⟩ := hv.2.1
    obtain ⟨ld, hld, okd⟩ := hv.2.2
    have i1 := (NI_iff (hlm.le hl1) okm).1 ⟨_, hU.1⟩
    have i2 := (NI_iff (hld.le hl1) okd).1 ⟨_, hU.2⟩
    obtain ⟨m, hm⟩ := (NI_iff hlm okm).2 i1
    obtain ⟨n, hn⟩ := (NI_iff hld okd).2 i2
    have i3 := (NR_iff (hm.le hl1) (hn.le hl1)).1 ⟨u, hU⟩
    exact hUh ((NR_iff hm hn).2 i3)

theorem law_Valid (ha : AV h a) (hlen : a.low.num.mag.len ≤ 1152921504606846976 ∧ a.low.den.mag.len ≤ 1152921504606846976 ∧ a.high.num.mag.len ≤ 1152921504606846976 ∧ a.high.den.mag.len ≤ 1152921504606846976) (H : ∀ h', h.le h' → K true h') : F.law03_IntervalValid a K h := by
  unfold F.law03_IntervalValid
  have e1 : IntKind.i64.wrap (IntKind.i64.wrap (IntKind.i64.wrap ((a.low.num.mag.len : Int) + (a.low.den.mag.len : Int)) + (a.high.num.mag.len : Int)) + (a.high.den.mag.len : Int)) = ((a.low.num.mag.len + a.low.den.mag.len + a.high.num.mag.len + a.high.den.mag.len : Nat) : Int) := by
    rw [w64 (n := (a.low.num.mag.len : Int) + (a.low.den.mag.len : Int)) (by omega), w64 (n := (a.low.num.mag.len : Int) + (a.low.den.mag.len : Int) + (a.high.num.mag.len : Int)) (by omega), w64 (by omega)]
    omega
  rw [e1]
  refine joinP_inv (fun _ h' => h.le h' ∧ a.low.num.mag.len + a.low.den.mag.len + a.high.num.mag.len + a.high.den.mag.len ≤ 40) ?_ (awake_call fun h1 hl1 => ifP_false rfl (ifP_dec (fun h2 => awake_call fun h3 hl3 => H h3 (Hp.le_trans hl1 hl3)) (fun h2 => ⟨hl1, by omega⟩)))
  rintro _ h1 ⟨hl1, hsum⟩
  have ha1 := ha.le hl1
  have hB : ∀ {h : Hp} l u, NV h a l u → BR 1000000 l ∧ BR 1000000 u := fun l u hh => ⟨NR_BR hh.1 (by omega) (by omega), NR_BR hh.2 (by omega) (by omega)⟩
  refine iValid_call ha1 ⟨by omega, by omega, by omega, by omega⟩ (fun l u => hB l u) (fun l u h2 hl2 hlu hle => ?_) (fun h2 hl2 hn => ?_)
  · refine riValid_call (ha1.le hl2) ⟨by omega, by omega, by omega, by omega⟩ (fun l u => hB l u) (fun l u h3 hl3 _ _ => H h3 (Hp.le_trans hl1 (Hp.le_trans hl2 hl3))) (fun h3 hl3 hn => absurd ⟨l, u, hlu.le hl2, hle⟩ hn)
  · refine riValid_call (ha1.le hl2) ⟨by omega, by omega, by omega, by omega⟩ (fun l u => hB l u) (fun l u h3 hl3 hlu hle => ?_) (fun h3 hl3 _ => H h3 (Hp.le_trans hl1 (Hp.le_trans hl2 hl3)))
    exfalso
    have back : ∀ {x : TRat} {q : Rat}, AR h1 x → NR h2 x q → NR h1 x q := fun {x q} hx hq => by
      obtain ⟨lm, hlm, okm⟩ := hx.1
      obtain ⟨ld, hld, okd⟩ := hx.2
      obtain ⟨m, hm⟩ := (NI_iff hlm okm).2 ((NI_iff (hlm.le hl2) okm).1 ⟨_, hq.1⟩)
      obtain ⟨n, hn⟩ := (NI_iff hld okd).2 ((NI_iff (hld.le hl2) okd).1 ⟨_, hq.2⟩)
      have e1 := (hm.le hl2).inj hq.1
      have e2 := (hn.le hl2).inj hq.2
      subst e1 e2
      exact ⟨hm, hn⟩
    exact hn ⟨l, u, ⟨back ha1.1 hlu.1, back ha1.2 hlu.2⟩, hle⟩
end
end Den
end

section
/-
  The iterator of slices.Backward over words.
-/
namespace Den
open Go Go.RowKit Go.Shelf
open Go.Proofs
attribute [local go_sem] Oper.semAt_some

set_option maxRecDepth 100000 in
set_option maxHeartbeats 2000000 in
theorem bk_u32 : BackFn Tryz.prog 150 (.leaf (.int .u32)) := by
  refine ⟨enters_of Tryz.func150 (by kernel_rfl) rfl, ?_⟩
  rintro l ab ⟨xa, xl, xc⟩ J w hxl h0 hbox hround
  simp only at hxl h0 hbox hround
  have hb0 := hbox _ _ h0
  refine callsIn_of_wp Tryz.func150 rfl trivial ?_ rfl
  simp only [Tryz.ntmps150, List.size_toArray, List.length_cons, List.length_nil, Nat.reduceAdd, Nat.reduceSub, Array.replicate_succ, Array.replicate_zero, List.push_toArray, List.append_toArray, List.nil_append, List.cons_append]
  gi_wp2
  gi_loopw [3] (fun i wr => ∃ k : Nat, k ≤ xl ∧ i = .int .i64 ((k : Int) - 1) ∧ J k wr) (fun i _ => (intOf i + 1).toNat)
  case atStart => exact ⟨xl, Nat.le_refl _, rfl, h0⟩
  case round =>
    obtain ⟨k, hk, rfl, hJ⟩ := hrel
    have hbx := hbox _ _ hJ
    cases k with
    | zero =>
      gi_wp2
      go_end0
      exact ⟨⟨_, rfl⟩, hJ⟩
    | succ j =>
      obtain ⟨ad, v, hxa, hcells, f, tmps1, asg, body, hy, hR⟩ := hround j wr (by omega) hJ
      subst hxa
      have hc0 : wr.cell? (ad.add j) = some (.int .u32 v) := by
        have := hcells 0 (.int .u32 v) rfl
        simpa [STy.size] using this
      have hkj : (((j + 1 : Nat) : Int) - 1) = (j : Int) := by omega
      rw [hkj]
      simp only [STy.val, Lf.up] at hy
      gi_wp2
      refine ⟨rfl, hR.mono ?_⟩
      rintro e W3 ⟨rfl, hJ3⟩
      gi_wp2
      go_roundw
      case rel => exact ⟨j, by omega, by simp, hJ3⟩
      case measure => simp [intOf]
end Den
end

section
/- MADE BY fbuild.py: the entries of the functions. -/
set_option maxRecDepth 100000
set_option linter.unusedVariables false
namespace Den
open Go
noncomputable def A_integer_trim : ArgT (Sl × Unit) := (ArgT.cons (Ty.leaf .sl) ArgT.nil)
noncomputable def R_integer_trim : Ty Sl := (Ty.leaf .sl)
noncomputable def e_integer_trim : FSem := mkE A_integer_trim R_integer_trim (fun a => F.integer_trim a.1)
noncomputable def c_integer_trim : Cfg := { P := Go.Proofs.Tryz.prog, n := 21, tab := [], mutL := [], rtL := [], locL := [] }
noncomputable def b_integer_trim : Code := match Go.Proofs.Tryz.f98.body with | some c => c | none => .skip
noncomputable def a_integer_trim : An := (.seq .leaf (.seq (.block (.loop [(0, .leaf (.sl))] (.join [] (.seq .leaf (.cond .leaf .leaf)) (.block .leaf)))) (.seq .leaf .leaf)))
theorem t_integer_trim : Entry Go.Proofs.Tryz.prog 98 e_integer_trim false :=
  entry_of (C := c_integer_trim) (fn := Go.Proofs.Tryz.f98) (c := b_integer_trim) (an := a_integer_trim) trivial trivial Go.Proofs.Tryz.func98 rfl rfl (by decide) (fun _ => rfl) (by intro a K D; kernel_rfl)
noncomputable def A_integer_fromUint : ArgT (Int × Unit) := (ArgT.cons (Ty.leaf (.int .u64)) ArgT.nil)
noncomputable def R_integer_fromUint : Ty Sl := (Ty.leaf .sl)
noncomputable def e_integer_fromUint : FSem := mkE A_integer_fromUint R_integer_fromUint (fun a => F.integer_fromUint a.1)
noncomputable def c_integer_fromUint : Cfg := { P := Go.Proofs.Tryz.prog, n := 10, tab := [(98, e_integer_trim)], mutL := [], rtL := [], locL := [] }
noncomputable def b_integer_fromUint : Code := match Go.Proofs.Tryz.f109.body with | some c => c | none => .skip
noncomputable def a_integer_fromUint : An := (.seq .leaf (.seq .leaf .leaf))
theorem t_integer_fromUint : Entry Go.Proofs.Tryz.prog 109 e_integer_fromUint false :=
  entry_of (C := c_integer_fromUint) (fn := Go.Proofs.Tryz.f109) (c := b_integer_fromUint) (an := a_integer_fromUint) ⟨t_integer_trim, trivial⟩ trivial Go.Proofs.Tryz.func109 rfl rfl (by decide) (fun _ => rfl) (by intro a K D; kernel_rfl)
noncomputable def A_integer_signed : ArgT (Bool × Sl × Unit) := (ArgT.cons (Ty.leaf .bool) (ArgT.cons (Ty.leaf .sl) ArgT.nil))
noncomputable def R_integer_signed : Ty TInt := tyTInt
noncomputable def e_integer_signed : FSem := mkE A_integer_signed R_integer_signed (fun a => F.integer_signed a.1 a.2.1)
noncomputable def c_integer_signed : Cfg := { P := Go.Proofs.Tryz.prog, n := 14, tab := [(98, e_integer_trim)], mutL := [], rtL := [], locL := [4] }
noncomputable def b_integer_signed : Code := match Go.Proofs.Tryz.f102.body with | some c => c | none => .skip
noncomputable def a_integer_signed : An := (.seq .leaf (.seq .leaf (.seq (.seq .leaf (.cond (.seq .leaf .leaf) .leaf)) (.seq .leaf .leaf))))
theorem t_integer_signed : Entry Go.Proofs.Tryz.prog 102 e_integer_signed false :=
  entry_of (C := c_integer_signed) (fn := Go.Proofs.Tryz.f102) (c := b_integer_signed) (an := a_integer_signed) ⟨t_integer_trim, trivial⟩ trivial Go.Proofs.Tryz.func102 rfl rfl (by decide) (fun _ => rfl) (by intro a K D; kernel_rfl)
noncomputable def A_integer_FromInt : ArgT (Int × Unit) := (ArgT.cons (Ty.leaf (.int .i64)) ArgT.nil)
noncomputable def R_integer_FromInt : Ty TInt := tyTInt
noncomputable def e_integer_FromInt : FSem := mkE A_integer_FromInt R_integer_FromInt (fun a => F.integer_FromInt a.1)
noncomputable def c_integer_FromInt : Cfg := { P := Go.Proofs.Tryz.prog, n := 15, tab := [(109, e_integer_fromUint), (102, e_integer_signed)], mutL := [], rtL := [], locL := [2] }
noncomputable def b_integer_FromInt : Code := match Go.Proofs.Tryz.f66.body with | some c => c | none => .skip
noncomputable def a_integer_FromInt : An := (.seq .leaf (.seq .leaf (.join [(3, .leaf (.int .u64))] (.seq .leaf (.cond .leaf .leaf)) (.seq .leaf .leaf))))
theorem t_integer_FromInt : Entry Go.Proofs.Tryz.prog 66 e_integer_FromInt false :=
  entry_of (C := c_integer_FromInt) (fn := Go.Proofs.Tryz.f66) (c := b_integer_FromInt) (an := a_integer_FromInt) ⟨t_integer_fromUint, t_integer_signed, trivial⟩ trivial Go.Proofs.Tryz.func66 rfl rfl (by decide) (fun _ => rfl) (by intro a K D; kernel_rfl)
noncomputable def A_rational_one : ArgT (Unit) := ArgT.nil
noncomputable def R_rational_one : Ty TInt := tyTInt
noncomputable def e_rational_one : FSem := mkE A_rational_one R_rational_one (fun a => F.rational_one )
noncomputable def c_rational_one : Cfg := { P := Go.Proofs.Tryz.prog, n := 2, tab := [(66, e_integer_FromInt)], mutL := [], rtL := [], locL := [0] }
noncomputable def b_rational_one : Code := match Go.Proofs.Tryz.f90.body with | some c => c | none => .skip
noncomputable def a_rational_one : An := (.seq .leaf (.seq .leaf .leaf))
theorem t_rational_one : Entry Go.Proofs.Tryz.prog 90 e_rational_one false :=
  entry_of (C := c_rational_one) (fn := Go.Proofs.Tryz.f90) (c := b_rational_one) (an := a_rational_one) ⟨t_integer_FromInt, trivial⟩ trivial Go.Proofs.Tryz.func90 rfl rfl (by decide) (fun _ => rfl) (by intro a K D; kernel_rfl)
noncomputable def A_rational_FromInt : ArgT (Int × Unit) := (ArgT.cons (Ty.leaf (.int .i64)) ArgT.nil)
noncomputable def R_rational_FromInt : Ty TRat := tyTRat
noncomputable def e_rational_FromInt : FSem := mkE A_rational_FromInt R_rational_FromInt (fun a => F.rational_FromInt a.1)
noncomputable def c_rational_FromInt : Cfg := { P := Go.Proofs.Tryz.prog, n := 7, tab := [(66, e_integer_FromInt), (90, e_rational_one)], mutL := [], rtL := [], locL := [2] }
noncomputable def b_rational_FromInt : Code := match Go.Proofs.Tryz.f51.body with | some c => c | none => .skip
noncomputable def a_rational_FromInt : An := (.seq .leaf (.seq .leaf .leaf))
theorem t_rational_FromInt : Entry Go.Proofs.Tryz.prog 51 e_rational_FromInt false :=
  entry_of (C := c_rational_FromInt) (fn := Go.Proofs.Tryz.f51) (c := b_rational_FromInt) (an := a_rational_FromInt) ⟨t_integer_FromInt, t_rational_one, trivial⟩ trivial Go.Proofs.Tryz.func51 rfl rfl (by decide) (fun _ => rfl) (by intro a K D; kernel_rfl)
noncomputable def A_integer_Sign : ArgT (TInt × Unit) := (ArgT.cons tyTInt ArgT.nil)
noncomputable def R_integer_Sign : Ty Int := (Ty.leaf (.int .i64))
noncomputable def e_integer_Sign : FSem := mkE A_integer_Sign R_integer_Sign (fun a => F.integer_Sign a.1)
noncomputable def c_integer_Sign : Cfg := { P := Go.Proofs.Tryz.prog, n := 12, tab := [(98, e_integer_trim)], mutL := [], rtL := [(4, 1), (10, 1)], locL := [1] }
noncomputable def b_integer_Sign : Code := match Go.Proofs.Tryz.f94.body with | some c => c | none => .skip
noncomputable def a_integer_Sign : An := (.seq .leaf (.seq (.block (.seq .leaf (.cond (.seq .leaf .leaf) (.seq .leaf (.cond (.seq .leaf .leaf) .leaf))))) (.seq .leaf .leaf)))
theorem t_integer_Sign : Entry Go.Proofs.Tryz.prog 94 e_integer_Sign false :=
  entry_of (C := c_integer_Sign) (fn := Go.Proofs.Tryz.f94) (c := b_integer_Sign) (an := a_integer_Sign) ⟨t_integer_trim, trivial⟩ trivial Go.Proofs.Tryz.func94 rfl rfl (by decide) (fun _ => rfl) (by intro a K D; kernel_rfl)
noncomputable def A_rational_Sign : ArgT (TRat × Unit) := (ArgT.cons tyTRat ArgT.nil)
noncomputable def R_rational_Sign : Ty Int := (Ty.leaf (.int .i64))
noncomputable def e_rational_Sign : FSem := mkE A_rational_Sign R_rational_Sign (fun a => F.rational_Sign a.1)
noncomputable def c_rational_Sign : Cfg := { P := Go.Proofs.Tryz.prog, n := 6, tab := [(94, e_integer_Sign)], mutL := [], rtL := [(3, 1)], locL := [1] }
noncomputable def b_rational_Sign : Code := match Go.Proofs.Tryz.f58.body with | some c => c | none => .skip
noncomputable def a_rational_Sign : An := (.seq .leaf (.seq .leaf .leaf))
theorem t_rational_Sign : Entry Go.Proofs.Tryz.prog 58 e_rational_Sign false :=
  entry_of (C := c_rational_Sign) (fn := Go.Proofs.Tryz.f58) (c := b_rational_Sign) (an := a_rational_Sign) ⟨t_integer_Sign, trivial⟩ trivial Go.Proofs.Tryz.func58 rfl rfl (by decide) (fun _ => rfl) (by intro a K D; kernel_rfl)
noncomputable def A_integer_times : ArgT (Sl × Sl × Unit) := (ArgT.cons (Ty.leaf .sl) (ArgT.cons (Ty.leaf .sl) ArgT.nil))
noncomputable def R_integer_times : Ty Sl := (Ty.leaf .sl)
noncomputable def e_integer_times : FSem := mkE A_integer_times R_integer_times (fun a => F.integer_times a.1 a.2.1)
noncomputable def c_integer_times : Cfg := { P := Go.Proofs.Tryz.prog, n := 75, tab := [(98, e_integer_trim)], mutL := [], rtL := [], locL := [] }
noncomputable def b_integer_times : Code := match Go.Proofs.Tryz.f107.body with | some c => c | none => .skip
noncomputable def a_integer_times : An := (.seq .leaf (.join [] (.seq .leaf (.cond (.seq .leaf .leaf) .leaf)) (.seq .leaf (.seq (.seq .leaf (.block (.loop [(27, .leaf (.int .i64))] (.seq .leaf (.seq (.cond .leaf .leaf) (.seq (.block (.seq .leaf (.seq .leaf (.seq (.seq .leaf (.block (.loop [(8, .leaf (.int .u64)), (34, .leaf (.int .i64))] (.seq .leaf (.seq (.cond .leaf .leaf) (.seq (.block (.seq .leaf (.seq .leaf (.seq .leaf .leaf)))) .leaf)))))) .leaf)))) .leaf)))))) (.seq .leaf .leaf)))))
theorem t_integer_times : Entry Go.Proofs.Tryz.prog 107 e_integer_times false :=
  entry_of (C := c_integer_times) (fn := Go.Proofs.Tryz.f107) (c := b_integer_times) (an := a_integer_times) ⟨t_integer_trim, trivial⟩ trivial Go.Proofs.Tryz.func107 rfl rfl (by decide) (fun _ => rfl) (by intro a K D; kernel_rfl)
noncomputable def A_integer_Mul : ArgT (TInt × TInt × Unit) := (ArgT.cons tyTInt (ArgT.cons tyTInt ArgT.nil))
noncomputable def R_integer_Mul : Ty TInt := tyTInt
noncomputable def e_integer_Mul : FSem := mkE A_integer_Mul R_integer_Mul (fun a => F.integer_Mul a.1 a.2.1)
noncomputable def c_integer_Mul : Cfg := { P := Go.Proofs.Tryz.prog, n := 18, tab := [(98, e_integer_trim), (107, e_integer_times), (102, e_integer_signed)], mutL := [], rtL := [(5, 2), (7, 3), (10, 2), (13, 3)], locL := [2, 3, 4] }
noncomputable def b_integer_Mul : Code := match Go.Proofs.Tryz.f64.body with | some c => c | none => .skip
noncomputable def a_integer_Mul : An := (.seq .leaf (.seq (.draw [0, 1, 2, 3, 4, 5, 6, 8, 9, 7, 10, 11, 12, 13]) .leaf))
theorem t_integer_Mul : Entry Go.Proofs.Tryz.prog 64 e_integer_Mul false :=
  entry_of (C := c_integer_Mul) (fn := Go.Proofs.Tryz.f64) (c := b_integer_Mul) (an := a_integer_Mul) ⟨t_integer_trim, t_integer_times, t_integer_signed, trivial⟩ trivial Go.Proofs.Tryz.func64 rfl rfl (by decide) (fun _ => rfl) (by intro a K D; kernel_rfl)
noncomputable def A_cmp_isNaN_int : ArgT (Int × Unit) := (ArgT.cons (Ty.leaf (.int .i64)) ArgT.nil)
noncomputable def R_cmp_isNaN_int : Ty Bool := (Ty.leaf .bool)
noncomputable def e_cmp_isNaN_int : FSem := mkE A_cmp_isNaN_int R_cmp_isNaN_int (fun a => F.cmp_isNaN_int a.1)
noncomputable def c_cmp_isNaN_int : Cfg := { P := Go.Proofs.Tryz.prog, n := 6, tab := [], mutL := [], rtL := [], locL := [] }
noncomputable def b_cmp_isNaN_int : Code := match Go.Proofs.Tryz.f138.body with | some c => c | none => .skip
noncomputable def a_cmp_isNaN_int : An := (.seq .leaf (.seq .leaf .leaf))
theorem t_cmp_isNaN_int : Entry Go.Proofs.Tryz.prog 138 e_cmp_isNaN_int false :=
  entry_of (C := c_cmp_isNaN_int) (fn := Go.Proofs.Tryz.f138) (c := b_cmp_isNaN_int) (an := a_cmp_isNaN_int) trivial trivial Go.Proofs.Tryz.func138 rfl rfl (by decide) (fun _ => rfl) (by intro a K D; kernel_rfl)
noncomputable def A_cmp_Compare_int : ArgT (Int × Int × Unit) := (ArgT.cons (Ty.leaf (.int .i64)) (ArgT.cons (Ty.leaf (.int .i64)) ArgT.nil))
noncomputable def R_cmp_Compare_int : Ty Int := (Ty.leaf (.int .i64))
noncomputable def e_cmp_Compare_int : FSem := mkE A_cmp_Compare_int R_cmp_Compare_int (fun a => F.cmp_Compare_int a.1 a.2.1)
noncomputable def c_cmp_Compare_int : Cfg := { P := Go.Proofs.Tryz.prog, n := 20, tab := [(138, e_cmp_isNaN_int)], mutL := [], rtL := [], locL := [] }
noncomputable def b_cmp_Compare_int : Code := match Go.Proofs.Tryz.f106.body with | some c => c | none => .skip
noncomputable def a_cmp_Compare_int : An := (.seq .leaf (.seq .leaf (.seq .leaf (.seq (.seq .leaf (.cond (.seq (.seq .leaf (.cond (.seq .leaf .leaf) .leaf)) (.seq .leaf .leaf)) .leaf)) (.seq (.seq .leaf (.cond (.seq .leaf .leaf) .leaf)) (.seq (.seq .leaf (.cond (.seq .leaf .leaf) .leaf)) (.seq (.seq .leaf (.cond (.seq .leaf .leaf) .leaf)) (.seq .leaf .leaf))))))))
theorem t_cmp_Compare_int : Entry Go.Proofs.Tryz.prog 106 e_cmp_Compare_int false :=
  entry_of (C := c_cmp_Compare_int) (fn := Go.Proofs.Tryz.f106) (c := b_cmp_Compare_int) (an := a_cmp_Compare_int) ⟨t_cmp_isNaN_int, trivial⟩ trivial Go.Proofs.Tryz.func106 rfl rfl (by decide) (fun _ => rfl) (by intro a K D; kernel_rfl)
noncomputable def A_cmp_isNaN_uint32 : ArgT (Int × Unit) := (ArgT.cons (Ty.leaf (.int .u32)) ArgT.nil)
noncomputable def R_cmp_isNaN_uint32 : Ty Bool := (Ty.leaf .bool)
noncomputable def e_cmp_isNaN_uint32 : FSem := mkE A_cmp_isNaN_uint32 R_cmp_isNaN_uint32 (fun a => F.cmp_isNaN_uint32 a.1)
noncomputable def c_cmp_isNaN_uint32 : Cfg := { P := Go.Proofs.Tryz.prog, n := 6, tab := [], mutL := [], rtL := [], locL := [] }
noncomputable def b_cmp_isNaN_uint32 : Code := match Go.Proofs.Tryz.f149.body with | some c => c | none => .skip
noncomputable def a_cmp_isNaN_uint32 : An := (.seq .leaf (.seq .leaf .leaf))
theorem t_cmp_isNaN_uint32 : Entry Go.Proofs.Tryz.prog 149 e_cmp_isNaN_uint32 false :=
  entry_of (C := c_cmp_isNaN_uint32) (fn := Go.Proofs.Tryz.f149) (c := b_cmp_isNaN_uint32) (an := a_cmp_isNaN_uint32) trivial trivial Go.Proofs.Tryz.func149 rfl rfl (by decide) (fun _ => rfl) (by intro a K D; kernel_rfl)
noncomputable def A_cmp_Compare_uint32 : ArgT (Int × Int × Unit) := (ArgT.cons (Ty.leaf (.int .u32)) (ArgT.cons (Ty.leaf (.int .u32)) ArgT.nil))
noncomputable def R_cmp_Compare_uint32 : Ty Int := (Ty.leaf (.int .i64))
noncomputable def e_cmp_Compare_uint32 : FSem := mkE A_cmp_Compare_uint32 R_cmp_Compare_uint32 (fun a => F.cmp_Compare_uint32 a.1 a.2.1)
noncomputable def c_cmp_Compare_uint32 : Cfg := { P := Go.Proofs.Tryz.prog, n := 20, tab := [(149, e_cmp_isNaN_uint32)], mutL := [], rtL := [], locL := [] }
noncomputable def b_cmp_Compare_uint32 : Code := match Go.Proofs.Tryz.f137.body with | some c => c | none => .skip
noncomputable def a_cmp_Compare_uint32 : An := (.seq .leaf (.seq .leaf (.seq .leaf (.seq (.seq .leaf (.cond (.seq (.seq .leaf (.cond (.seq .leaf .leaf) .leaf)) (.seq .leaf .leaf)) .leaf)) (.seq (.seq .leaf (.cond (.seq .leaf .leaf) .leaf)) (.seq (.seq .leaf (.cond (.seq .leaf .leaf) .leaf)) (.seq (.seq .leaf (.cond (.seq .leaf .leaf) .leaf)) (.seq .leaf .leaf))))))))
theorem t_cmp_Compare_uint32 : Entry Go.Proofs.Tryz.prog 137 e_cmp_Compare_uint32 false :=
  entry_of (C := c_cmp_Compare_uint32) (fn := Go.Proofs.Tryz.f137) (c := b_cmp_Compare_uint32) (an := a_cmp_Compare_uint32) ⟨t_cmp_isNaN_uint32, trivial⟩ trivial Go.Proofs.Tryz.func137 rfl rfl (by decide) (fun _ => rfl) (by intro a K D; kernel_rfl)
noncomputable def A_integer_compare : ArgT (Sl × Sl × Unit) := (ArgT.cons (Ty.leaf .sl) (ArgT.cons (Ty.leaf .sl) ArgT.nil))
noncomputable def R_integer_compare : Ty Int := (Ty.leaf (.int .i64))
noncomputable def e_integer_compare : FSem := mkE A_integer_compare R_integer_compare (fun a => F.integer_compare a.1 a.2.1)
noncomputable def c_integer_compare : Cfg := { P := Go.Proofs.Tryz.prog, n := 41, tab := [(106, e_cmp_Compare_int), (137, e_cmp_Compare_uint32)], mutL := [], rtL := [], locL := [] }
noncomputable def b_integer_compare : Code := match Go.Proofs.Tryz.f101.body with | some c => c | none => .skip
noncomputable def a_integer_compare : An := (.seq .leaf (.seq (.seq .leaf (.cond (.seq .leaf .leaf) .leaf)) (.seq (.seq .leaf (.block (.loop [(5, .leaf (.int .i64))] (.seq (.seq .leaf (.cond .leaf .leaf)) (.seq (.block (.seq (.draw [0, 1, 2, 3, 4, 5, 6, 7, 8]) (.cond (.seq (.draw [0, 1, 2, 3, 4, 5, 6, 7, 8, 9]) .leaf) .leaf))) .leaf))))) (.seq .leaf .leaf))))
theorem t_integer_compare : Entry Go.Proofs.Tryz.prog 101 e_integer_compare false :=
  entry_of (C := c_integer_compare) (fn := Go.Proofs.Tryz.f101) (c := b_integer_compare) (an := a_integer_compare) ⟨t_cmp_Compare_int, t_cmp_Compare_uint32, trivial⟩ trivial Go.Proofs.Tryz.func101 rfl rfl (by decide) (fun _ => rfl) (by intro a K D; kernel_rfl)
noncomputable def A_integer_Cmp : ArgT (TInt × TInt × Unit) := (ArgT.cons tyTInt (ArgT.cons tyTInt ArgT.nil))
noncomputable def R_integer_Cmp : Ty Int := (Ty.leaf (.int .i64))
noncomputable def e_integer_Cmp : FSem := mkE A_integer_Cmp R_integer_Cmp (fun a => F.integer_Cmp a.1 a.2.1)
noncomputable def c_integer_Cmp : Cfg := { P := Go.Proofs.Tryz.prog, n := 26, tab := [(94, e_integer_Sign), (106, e_cmp_Compare_int), (98, e_integer_trim), (101, e_integer_compare)], mutL := [], rtL := [(18, 2), (21, 3)], locL := [2, 3] }
noncomputable def b_integer_Cmp : Code := match Go.Proofs.Tryz.f63.body with | some c => c | none => .skip
noncomputable def a_integer_Cmp : An := (.seq .leaf (.seq (.draw [0, 2, 1, 3, 4, 5]) (.seq (.seq .leaf (.cond (.seq .leaf .leaf) .leaf)) (.seq (.draw [0, 1, 2, 4, 5, 3, 6, 7, 8, 9]) .leaf))))
theorem t_integer_Cmp : Entry Go.Proofs.Tryz.prog 63 e_integer_Cmp false :=
  entry_of (C := c_integer_Cmp) (fn := Go.Proofs.Tryz.f63) (c := b_integer_Cmp) (an := a_integer_Cmp) ⟨t_integer_Sign, t_cmp_Compare_int, t_integer_trim, t_integer_compare, trivial⟩ trivial Go.Proofs.Tryz.func63 rfl rfl (by decide) (fun _ => rfl) (by intro a K D; kernel_rfl)
noncomputable def A_rational_Cmp : ArgT (TRat × TRat × Unit) := (ArgT.cons tyTRat (ArgT.cons tyTRat ArgT.nil))
noncomputable def R_rational_Cmp : Ty Int := (Ty.leaf (.int .i64))
noncomputable def e_rational_Cmp : FSem := mkE A_rational_Cmp R_rational_Cmp (fun a => F.rational_Cmp a.1 a.2.1)
noncomputable def c_rational_Cmp : Cfg := { P := Go.Proofs.Tryz.prog, n := 28, tab := [(58, e_rational_Sign), (64, e_integer_Mul), (63, e_integer_Cmp)], mutL := [], rtL := [(17, 2), (19, 3), (22, 3), (24, 2)], locL := [2, 3] }
noncomputable def b_rational_Cmp : Code := match Go.Proofs.Tryz.f87.body with | some c => c | none => .skip
noncomputable def a_rational_Cmp : An := (.seq .leaf (.seq (.seq (.draw [0, 2, 1, 3, 4, 5]) (.seq .leaf (.cond (.seq (.seq .leaf (.cond (.seq .leaf .leaf) .leaf)) (.seq .leaf .leaf)) .leaf))) (.seq (.draw [0, 1, 2, 3, 5, 6, 7, 8, 4, 9, 10, 11]) .leaf)))
theorem t_rational_Cmp : Entry Go.Proofs.Tryz.prog 87 e_rational_Cmp false :=
  entry_of (C := c_rational_Cmp) (fn := Go.Proofs.Tryz.f87) (c := b_rational_Cmp) (an := a_rational_Cmp) ⟨t_rational_Sign, t_integer_Mul, t_integer_Cmp, trivial⟩ trivial Go.Proofs.Tryz.func87 rfl rfl (by decide) (fun _ => rfl) (by intro a K D; kernel_rfl)
noncomputable def A_interval_Contains : ArgT (TInterval × TRat × Unit) := (ArgT.cons tyTInterval (ArgT.cons tyTRat ArgT.nil))
noncomputable def R_interval_Contains : Ty Bool := (Ty.leaf .bool)
noncomputable def e_interval_Contains : FSem := mkE A_interval_Contains R_interval_Contains (fun a => F.interval_Contains a.1 a.2.1)
noncomputable def c_interval_Contains : Cfg := { P := Go.Proofs.Tryz.prog, n := 17, tab := [(87, e_rational_Cmp)], mutL := [], rtL := [(5, 2), (12, 2)], locL := [2, 3] }
noncomputable def b_interval_Contains : Code := match Go.Proofs.Tryz.f42.body with | some c => c | none => .skip
noncomputable def a_interval_Contains : An := (.seq .leaf (.seq .leaf .leaf))
theorem t_interval_Contains : Entry Go.Proofs.Tryz.prog 42 e_interval_Contains false :=
  entry_of (C := c_interval_Contains) (fn := Go.Proofs.Tryz.f42) (c := b_interval_Contains) (an := a_interval_Contains) ⟨t_rational_Cmp, trivial⟩ trivial Go.Proofs.Tryz.func42 rfl rfl (by decide) (fun _ => rfl) (by intro a K D; kernel_rfl)
noncomputable def A_rational_isZero : ArgT (TInt × Unit) := (ArgT.cons tyTInt ArgT.nil)
noncomputable def R_rational_isZero : Ty Bool := (Ty.leaf .bool)
noncomputable def e_rational_isZero : FSem := mkE A_rational_isZero R_rational_isZero (fun a => F.rational_isZero a.1)
noncomputable def c_rational_isZero : Cfg := { P := Go.Proofs.Tryz.prog, n := 7, tab := [], mutL := [], rtL := [(3, 1)], locL := [1] }
noncomputable def b_rational_isZero : Code := match Go.Proofs.Tryz.f91.body with | some c => c | none => .skip
noncomputable def a_rational_isZero : An := (.seq .leaf (.seq .leaf .leaf))
theorem t_rational_isZero : Entry Go.Proofs.Tryz.prog 91 e_rational_isZero false :=
  entry_of (C := c_rational_isZero) (fn := Go.Proofs.Tryz.f91) (c := b_rational_isZero) (an := a_rational_isZero) trivial trivial Go.Proofs.Tryz.func91 rfl rfl (by decide) (fun _ => rfl) (by intro a K D; kernel_rfl)
noncomputable def A_slices_Clone_uint32_uint32 : ArgT (Sl × Unit) := (ArgT.cons (Ty.leaf .sl) ArgT.nil)
noncomputable def R_slices_Clone_uint32_uint32 : Ty Sl := (Ty.leaf .sl)
noncomputable def e_slices_Clone_uint32_uint32 : FSem := mkE A_slices_Clone_uint32_uint32 R_slices_Clone_uint32_uint32 (fun a => F.slices_Clone_uint32_uint32 a.1)
noncomputable def c_slices_Clone_uint32_uint32 : Cfg := { P := Go.Proofs.Tryz.prog, n := 8, tab := [], mutL := [], rtL := [], locL := [] }
noncomputable def b_slices_Clone_uint32_uint32 : Code := match Go.Proofs.Tryz.f129.body with | some c => c | none => .skip
noncomputable def a_slices_Clone_uint32_uint32 : An := (.seq .leaf (.seq (.seq .leaf (.cond (.seq .leaf .leaf) .leaf)) (.seq .leaf .leaf)))
theorem t_slices_Clone_uint32_uint32 : Entry Go.Proofs.Tryz.prog 129 e_slices_Clone_uint32_uint32 false :=
  entry_of (C := c_slices_Clone_uint32_uint32) (fn := Go.Proofs.Tryz.f129) (c := b_slices_Clone_uint32_uint32) (an := a_slices_Clone_uint32_uint32) trivial trivial Go.Proofs.Tryz.func129 rfl rfl (by decide) (fun _ => rfl) (by intro a K D; kernel_rfl)
noncomputable def A_slices_Backward_uint32_uint32 : ArgT (Sl × Unit) := (ArgT.cons (Ty.leaf .sl) ArgT.nil)
noncomputable def R_slices_Backward_uint32_uint32 : Ty Addr := (Ty.clo 150)
noncomputable def e_slices_Backward_uint32_uint32 : FSem := mkE A_slices_Backward_uint32_uint32 R_slices_Backward_uint32_uint32 (fun a => F.slices_Backward_uint32_uint32 a.1)
noncomputable def c_slices_Backward_uint32_uint32 : Cfg := { P := Go.Proofs.Tryz.prog, n := 4, tab := [], mutL := [], rtL := [], locL := [] }
noncomputable def b_slices_Backward_uint32_uint32 : Code := match Go.Proofs.Tryz.f148.body with | some c => c | none => .skip
noncomputable def a_slices_Backward_uint32_uint32 : An := (.seq .leaf (.seq .leaf .leaf))
theorem t_slices_Backward_uint32_uint32 : Entry Go.Proofs.Tryz.prog 148 e_slices_Backward_uint32_uint32 false :=
  entry_of (C := c_slices_Backward_uint32_uint32) (fn := Go.Proofs.Tryz.f148) (c := b_slices_Backward_uint32_uint32) (an := a_slices_Backward_uint32_uint32) trivial trivial Go.Proofs.Tryz.func148 rfl rfl (by decide) (fun _ => rfl) (by intro a K D; kernel_rfl)
noncomputable def A_integer_toUint : ArgT (Sl × Unit) := (ArgT.cons (Ty.leaf .sl) ArgT.nil)
noncomputable def R_integer_toUint : Ty Int := (Ty.leaf (.int .u64))
noncomputable def e_integer_toUint : FSem := mkE A_integer_toUint R_integer_toUint (fun a => F.integer_toUint a.1)
noncomputable def c_integer_toUint : Cfg := { P := Go.Proofs.Tryz.prog, n := 16, tab := [(148, e_slices_Backward_uint32_uint32)], mutL := [], rtL := [], locL := [3], backs := [(150, (.leaf (.int .u32)))] }
noncomputable def b_integer_toUint : Code := match Go.Proofs.Tryz.f130.body with | some c => c | none => .skip
noncomputable def a_integer_toUint : An := (.seq .leaf (.seq .leaf (.seq (.seq .leaf (.block (.back [(3, .box [.int .u64])] .leaf (.block .leaf)))) (.seq .leaf .leaf))))
theorem t_integer_toUint : Entry Go.Proofs.Tryz.prog 130 e_integer_toUint false :=
  entry_of (C := c_integer_toUint) (fn := Go.Proofs.Tryz.f130) (c := b_integer_toUint) (an := a_integer_toUint) ⟨t_slices_Backward_uint32_uint32, trivial⟩ ⟨bk_u32, trivial⟩ Go.Proofs.Tryz.func130 rfl rfl (by decide) (fun _ => rfl) (by intro a K D; kernel_rfl)
noncomputable def A_integer_divideWord : ArgT (Sl × Int × Unit) := (ArgT.cons (Ty.leaf .sl) (ArgT.cons (Ty.leaf (.int .u32)) ArgT.nil))
noncomputable def R_integer_divideWord : Ty (Sl × Sl) := (Ty.tup (.cons (Ty.leaf .sl) (.cons (Ty.leaf .sl) .nil)) (fun x => (x.1, x.2, ())) (fun y => (y.1, y.2.1)) (fun _ => rfl) (fun _ => rfl))
noncomputable def e_integer_divideWord : FSem := mkE A_integer_divideWord R_integer_divideWord (fun a => F.integer_divideWord a.1 a.2.1)
noncomputable def c_integer_divideWord : Cfg := { P := Go.Proofs.Tryz.prog, n := 43, tab := [(98, e_integer_trim), (109, e_integer_fromUint)], mutL := [], rtL := [], locL := [] }
noncomputable def b_integer_divideWord : Code := match Go.Proofs.Tryz.f131.body with | some c => c | none => .skip
noncomputable def a_integer_divideWord : An := (.seq .leaf (.seq .leaf (.seq .leaf (.seq (.seq .leaf (.block (.loop [(7, .leaf (.int .u64)), (8, .leaf (.int .i64))] (.seq (.seq .leaf (.cond .leaf .leaf)) (.seq (.block (.seq .leaf (.seq .leaf .leaf))) .leaf))))) (.seq .leaf .leaf)))))
theorem t_integer_divideWord : Entry Go.Proofs.Tryz.prog 131 e_integer_divideWord false :=
  entry_of (C := c_integer_divideWord) (fn := Go.Proofs.Tryz.f131) (c := b_integer_divideWord) (an := a_integer_divideWord) ⟨t_integer_trim, t_integer_fromUint, trivial⟩ trivial Go.Proofs.Tryz.func131 rfl rfl (by decide) (fun _ => rfl) (by intro a K D; kernel_rfl)
noncomputable def A_math_bits_Len32 : ArgT (Int × Unit) := (ArgT.cons (Ty.leaf (.int .u32)) ArgT.nil)
noncomputable def R_math_bits_Len32 : Ty Int := (Ty.leaf (.int .i64))
noncomputable def e_math_bits_Len32 : FSem := mkE A_math_bits_Len32 R_math_bits_Len32 (fun a => F.math_bits_Len32 a.1)
noncomputable def c_math_bits_Len32 : Cfg := { P := Go.Proofs.Tryz.prog, n := 19, tab := [], mutL := [], rtL := [], locL := [] }
noncomputable def b_math_bits_Len32 : Code := match Go.Proofs.Tryz.f128.body with | some c => c | none => .skip
noncomputable def a_math_bits_Len32 : An := (.seq .leaf (.join [(0, .leaf (.int .u32)), (2, .leaf (.int .i64))] (.seq .leaf (.cond (.seq .leaf .leaf) .leaf)) (.join [(0, .leaf (.int .u32)), (2, .leaf (.int .i64))] (.seq .leaf (.cond (.seq .leaf .leaf) .leaf)) (.seq .leaf .leaf))))
theorem t_math_bits_Len32 : Entry Go.Proofs.Tryz.prog 128 e_math_bits_Len32 false :=
  entry_of (C := c_math_bits_Len32) (fn := Go.Proofs.Tryz.f128) (c := b_math_bits_Len32) (an := a_math_bits_Len32) trivial trivial Go.Proofs.Tryz.func128 rfl rfl (by decide) (fun _ => rfl) (by intro a K D; kernel_rfl)
noncomputable def A_math_bits_LeadingZeros32 : ArgT (Int × Unit) := (ArgT.cons (Ty.leaf (.int .u32)) ArgT.nil)
noncomputable def R_math_bits_LeadingZeros32 : Ty Int := (Ty.leaf (.int .i64))
noncomputable def e_math_bits_LeadingZeros32 : FSem := mkE A_math_bits_LeadingZeros32 R_math_bits_LeadingZeros32 (fun a => F.math_bits_LeadingZeros32 a.1)
noncomputable def c_math_bits_LeadingZeros32 : Cfg := { P := Go.Proofs.Tryz.prog, n := 6, tab := [(128, e_math_bits_Len32)], mutL := [], rtL := [], locL := [] }
noncomputable def b_math_bits_LeadingZeros32 : Code := match Go.Proofs.Tryz.f132.body with | some c => c | none => .skip
noncomputable def a_math_bits_LeadingZeros32 : An := (.seq .leaf (.seq .leaf .leaf))
theorem t_math_bits_LeadingZeros32 : Entry Go.Proofs.Tryz.prog 132 e_math_bits_LeadingZeros32 false :=
  entry_of (C := c_math_bits_LeadingZeros32) (fn := Go.Proofs.Tryz.f132) (c := b_math_bits_LeadingZeros32) (an := a_math_bits_LeadingZeros32) ⟨t_math_bits_Len32, trivial⟩ trivial Go.Proofs.Tryz.func132 rfl rfl (by decide) (fun _ => rfl) (by intro a K D; kernel_rfl)
noncomputable def A_integer_shiftLeft : ArgT (Sl × Int × Unit) := (ArgT.cons (Ty.leaf .sl) (ArgT.cons (Ty.leaf (.int .i64)) ArgT.nil))
noncomputable def R_integer_shiftLeft : Ty Sl := (Ty.leaf .sl)
noncomputable def e_integer_shiftLeft : FSem := mkE A_integer_shiftLeft R_integer_shiftLeft (fun a => F.integer_shiftLeft a.1 a.2.1)
noncomputable def c_integer_shiftLeft : Cfg := { P := Go.Proofs.Tryz.prog, n := 41, tab := [], mutL := [], rtL := [], locL := [] }
noncomputable def b_integer_shiftLeft : Code := match Go.Proofs.Tryz.f133.body with | some c => c | none => .skip
noncomputable def a_integer_shiftLeft : An := (.seq .leaf (.seq .leaf (.seq (.seq .leaf (.block (.loop [(15, .leaf (.int .i64))] (.seq .leaf (.seq (.cond .leaf .leaf) (.seq (.block (.seq .leaf (.seq .leaf (.seq .leaf .leaf)))) .leaf)))))) (.seq .leaf .leaf))))
theorem t_integer_shiftLeft : Entry Go.Proofs.Tryz.prog 133 e_integer_shiftLeft false :=
  entry_of (C := c_integer_shiftLeft) (fn := Go.Proofs.Tryz.f133) (c := b_integer_shiftLeft) (an := a_integer_shiftLeft) trivial trivial Go.Proofs.Tryz.func133 rfl rfl (by decide) (fun _ => rfl) (by intro a K D; kernel_rfl)
noncomputable def A_integer_subtract : ArgT (Sl × Sl × Int × Unit) := (ArgT.cons (Ty.leaf .sl) (ArgT.cons (Ty.leaf .sl) (ArgT.cons (Ty.leaf (.int .u64)) ArgT.nil)))
noncomputable def R_integer_subtract : Ty Bool := (Ty.leaf .bool)
noncomputable def e_integer_subtract : FSem := mkM A_integer_subtract R_integer_subtract (fun a => F.integer_subtract a.1 a.2.1 a.2.2.1)
noncomputable def c_integer_subtract : Cfg := { P := Go.Proofs.Tryz.prog, n := 63, tab := [], mutL := [], rtL := [], locL := [] }
noncomputable def b_integer_subtract : Code := match Go.Proofs.Tryz.f134.body with | some c => c | none => .skip
noncomputable def a_integer_subtract : An := (.seq .leaf (.seq .leaf (.seq (.seq .leaf (.block (.loop [(7, .leaf (.int .u64)), (15, .leaf (.int .i64))] (.seq .leaf (.seq (.cond .leaf .leaf) (.seq (.block (.seq .leaf (.seq .leaf (.seq .leaf (.seq .leaf .leaf))))) .leaf)))))) (.seq .leaf (.seq .leaf (.seq .leaf .leaf))))))
theorem t_integer_subtract : Entry Go.Proofs.Tryz.prog 134 e_integer_subtract true :=
  entryM_of (C := c_integer_subtract) (fn := Go.Proofs.Tryz.f134) (c := b_integer_subtract) (an := a_integer_subtract) trivial trivial Go.Proofs.Tryz.func134 rfl rfl (by decide) (fun _ => rfl) (by intro a K D; kernel_rfl)
noncomputable def A_integer_restore : ArgT (Sl × Sl × Unit) := (ArgT.cons (Ty.leaf .sl) (ArgT.cons (Ty.leaf .sl) ArgT.nil))
noncomputable def R_integer_restore : Ty Unit := Ty.unit
noncomputable def e_integer_restore : FSem := mkM A_integer_restore R_integer_restore (fun a => F.integer_restore a.1 a.2.1)
noncomputable def c_integer_restore : Cfg := { P := Go.Proofs.Tryz.prog, n := 41, tab := [], mutL := [], rtL := [], locL := [] }
noncomputable def b_integer_restore : Code := match Go.Proofs.Tryz.f135.body with | some c => c | none => .skip
noncomputable def a_integer_restore : An := (.seq .leaf (.seq (.seq .leaf (.block (.loop [(4, .leaf (.int .u64)), (9, .leaf (.int .i64))] (.seq .leaf (.seq (.cond .leaf .leaf) (.seq (.block (.seq .leaf (.seq .leaf (.seq .leaf .leaf)))) .leaf)))))) .leaf))
theorem t_integer_restore : Entry Go.Proofs.Tryz.prog 135 e_integer_restore true :=
  entryM_of (C := c_integer_restore) (fn := Go.Proofs.Tryz.f135) (c := b_integer_restore) (an := a_integer_restore) trivial trivial Go.Proofs.Tryz.func135 rfl rfl (by decide) (fun _ => rfl) (by intro a K D; kernel_rfl)
noncomputable def A_integer_shiftRight : ArgT (Sl × Int × Unit) := (ArgT.cons (Ty.leaf .sl) (ArgT.cons (Ty.leaf (.int .i64)) ArgT.nil))
noncomputable def R_integer_shiftRight : Ty Sl := (Ty.leaf .sl)
noncomputable def e_integer_shiftRight : FSem := mkE A_integer_shiftRight R_integer_shiftRight (fun a => F.integer_shiftRight a.1 a.2.1)
noncomputable def c_integer_shiftRight : Cfg := { P := Go.Proofs.Tryz.prog, n := 47, tab := [], mutL := [], rtL := [], locL := [] }
noncomputable def b_integer_shiftRight : Code := match Go.Proofs.Tryz.f136.body with | some c => c | none => .skip
noncomputable def a_integer_shiftRight : An := (.seq .leaf (.seq .leaf (.seq (.seq .leaf (.block (.loop [(13, .leaf (.int .i64))] (.seq .leaf (.seq (.cond .leaf .leaf) (.join [] (.block (.seq .leaf (.seq .leaf (.seq .leaf (.cond (.draw [0, 1, 2, 3, 4, 5, 6, 7, 8, 9, 10, 11, 12, 13, 14, 15, 16]) .leaf))))) .leaf)))))) (.seq .leaf .leaf))))
theorem t_integer_shiftRight : Entry Go.Proofs.Tryz.prog 136 e_integer_shiftRight false :=
  entry_of (C := c_integer_shiftRight) (fn := Go.Proofs.Tryz.f136) (c := b_integer_shiftRight) (an := a_integer_shiftRight) trivial trivial Go.Proofs.Tryz.func136 rfl rfl (by decide) (fun _ => rfl) (by intro a K D; kernel_rfl)
noncomputable def A_integer_divide : ArgT (Sl × Sl × Unit) := (ArgT.cons (Ty.leaf .sl) (ArgT.cons (Ty.leaf .sl) ArgT.nil))
noncomputable def R_integer_divide : Ty (Sl × Sl) := (Ty.tup (.cons (Ty.leaf .sl) (.cons (Ty.leaf .sl) .nil)) (fun x => (x.1, x.2, ())) (fun y => (y.1, y.2.1)) (fun _ => rfl) (fun _ => rfl))
noncomputable def e_integer_divide : FSem := mkE A_integer_divide R_integer_divide (fun a => F.integer_divide a.1 a.2.1)
noncomputable def c_integer_divide : Cfg := { P := Go.Proofs.Tryz.prog, n := 177, tab := [(101, e_integer_compare), (129, e_slices_Clone_uint32_uint32), (130, e_integer_toUint), (109, e_integer_fromUint), (131, e_integer_divideWord), (132, e_math_bits_LeadingZeros32), (133, e_integer_shiftLeft), (98, e_integer_trim), (134, e_integer_subtract), (135, e_integer_restore), (136, e_integer_shiftRight)], mutL := [134, 135], rtL := [], locL := [] }
noncomputable def b_integer_divide : Code := match Go.Proofs.Tryz.f97.body with | some c => c | none => .skip
noncomputable def a_integer_divide : An := (.seq .leaf (.seq (.block (.seq .leaf (.cond (.seq .leaf .leaf) (.seq .leaf (.cond (.seq .leaf (.seq (.draw [0, 1, 2, 4, 5, 6, 3, 7, 8, 9]) .leaf)) (.seq .leaf (.cond (.seq .leaf .leaf) .leaf))))))) (.seq .leaf (.seq .leaf (.seq .leaf (.seq .leaf (.seq (.draw [0, 1, 2, 3, 4, 5, 6, 7, 8, 9, 10, 11, 12, 13]) (.seq (.seq .leaf (.block (.loop [(15, .leaf (.int .i64))] (.seq (.seq .leaf (.cond .leaf .leaf)) (.seq (.block (.seq (.draw [0, 1, 2, 3, 4, 5, 6, 7, 8, 9, 10, 11, 12, 13, 14, 15, 16, 17]) (.seq (.draw [0, 1, 2, 3, 4, 5, 6, 7]) (.join [(17, .leaf (.int .u64))] (.block (.loop [(17, .leaf (.int .u64)), (18, .leaf (.int .u64))] (.join [] (.seq .leaf (.cond .leaf .leaf)) (.block (.seq .leaf (.seq .leaf (.seq .leaf (.cond .leaf .leaf)))))))) (.join [(17, .leaf (.int .u64))] (.seq .leaf (.cond (.seq .leaf .leaf) .leaf)) .leaf))))) .leaf))))) (.seq (.draw [0, 2, 3, 4, 6, 1, 5, 7, 8, 9, 10]) .leaf)))))))))
theorem t_integer_divide : Entry Go.Proofs.Tryz.prog 97 e_integer_divide false :=
  entry_of (C := c_integer_divide) (fn := Go.Proofs.Tryz.f97) (c := b_integer_divide) (an := a_integer_divide) ⟨t_integer_compare, t_slices_Clone_uint32_uint32, t_integer_toUint, t_integer_fromUint, t_integer_divideWord, t_math_bits_LeadingZeros32, t_integer_shiftLeft, t_integer_trim, t_integer_subtract, t_integer_restore, t_integer_shiftRight, trivial⟩ trivial Go.Proofs.Tryz.func97 rfl rfl (by decide) (fun _ => rfl) (by intro a K D; kernel_rfl)
end Den
end

section
/- MADE BY fbuild.py: the entries of the functions. -/
set_option maxRecDepth 100000
set_option linter.unusedVariables false
namespace Den
open Go
noncomputable def A_integer_GCD : ArgT (TInt × TInt × Unit) := (ArgT.cons tyTInt (ArgT.cons tyTInt ArgT.nil))
noncomputable def R_integer_GCD : Ty TInt := tyTInt
noncomputable def e_integer_GCD : FSem := mkE A_integer_GCD R_integer_GCD (fun a => F.integer_GCD a.1 a.2.1)
noncomputable def c_integer_GCD : Cfg := { P := Go.Proofs.Tryz.prog, n := 57, tab := [(98, e_integer_trim), (129, e_slices_Clone_uint32_uint32), (102, e_integer_signed), (130, e_integer_toUint), (109, e_integer_fromUint), (97, e_integer_divide)], mutL := [], rtL := [(11, 2), (14, 3)], locL := [2, 3, 4] }
noncomputable def b_integer_GCD : Code := match Go.Proofs.Tryz.f126.body with | some c => c | none => .skip
noncomputable def a_integer_GCD : An := (.seq .leaf (.seq (.draw [0, 1, 3, 4, 2, 5, 6, 7]) (.join [(5, .leaf (.sl)), (6, .leaf (.sl))] (.block (.loop [(5, .leaf (.sl)), (6, .leaf (.sl))] (.join [] (.seq .leaf (.cond .leaf .leaf)) (.block (.seq .leaf .leaf))))) (.seq (.seq .leaf (.cond (.seq .leaf .leaf) .leaf)) (.seq .leaf (.seq (.block (.loop [(9, .leaf (.int .u64)), (10, .leaf (.int .u64))] (.seq (.seq .leaf (.cond .leaf .leaf)) (.block (.draw [0, 1, 2, 3, 4, 5]))))) (.seq .leaf .leaf)))))))
theorem t_integer_GCD : Entry Go.Proofs.Tryz.prog 126 e_integer_GCD false :=
  entry_of (C := c_integer_GCD) (fn := Go.Proofs.Tryz.f126) (c := b_integer_GCD) (an := a_integer_GCD) ⟨t_integer_trim, t_slices_Clone_uint32_uint32, t_integer_signed, t_integer_toUint, t_integer_fromUint, t_integer_divide, trivial⟩ trivial Go.Proofs.Tryz.func126 rfl rfl (by decide) (fun _ => rfl) (by intro a K D; kernel_rfl)
noncomputable def A_rational_isOne : ArgT (TInt × Unit) := (ArgT.cons tyTInt ArgT.nil)
noncomputable def R_rational_isOne : Ty Bool := (Ty.leaf .bool)
noncomputable def e_rational_isOne : FSem := mkE A_rational_isOne R_rational_isOne (fun a => F.rational_isOne a.1)
noncomputable def c_rational_isOne : Cfg := { P := Go.Proofs.Tryz.prog, n := 19, tab := [], mutL := [], rtL := [(3, 1), (7, 1), (13, 1)], locL := [1] }
noncomputable def b_rational_isOne : Code := match Go.Proofs.Tryz.f93.body with | some c => c | none => .skip
noncomputable def a_rational_isOne : An := (.seq .leaf (.seq .leaf .leaf))
theorem t_rational_isOne : Entry Go.Proofs.Tryz.prog 93 e_rational_isOne false :=
  entry_of (C := c_rational_isOne) (fn := Go.Proofs.Tryz.f93) (c := b_rational_isOne) (an := a_rational_isOne) trivial trivial Go.Proofs.Tryz.func93 rfl rfl (by decide) (fun _ => rfl) (by intro a K D; kernel_rfl)
noncomputable def A_integer_plus : ArgT (Sl × Sl × Unit) := (ArgT.cons (Ty.leaf .sl) (ArgT.cons (Ty.leaf .sl) ArgT.nil))
noncomputable def R_integer_plus : Ty Sl := (Ty.leaf .sl)
noncomputable def e_integer_plus : FSem := mkE A_integer_plus R_integer_plus (fun a => F.integer_plus a.1 a.2.1)
noncomputable def c_integer_plus : Cfg := { P := Go.Proofs.Tryz.prog, n := 58, tab := [], mutL := [], rtL := [], locL := [45, 55] }
noncomputable def b_integer_plus : Code := match Go.Proofs.Tryz.f100.body with | some c => c | none => .skip
noncomputable def a_integer_plus : An := (.seq .leaf (.join [(0, .leaf (.sl)), (1, .leaf (.sl))] (.seq .leaf (.cond .leaf .leaf)) (.seq .leaf (.seq .leaf (.seq (.seq .leaf (.block (.loop [(5, .leaf (.sl)), (6, .leaf (.int .u64)), (22, .leaf (.int .i64))] (.seq .leaf (.seq (.cond .leaf .leaf) (.seq (.block (.seq .leaf (.seq .leaf (.join [(6, .leaf (.int .u64))] (.seq .leaf (.cond .leaf .leaf)) (.seq .leaf .leaf))))) .leaf)))))) (.seq (.seq .leaf (.cond .leaf .leaf)) (.seq .leaf .leaf)))))))
theorem t_integer_plus : Entry Go.Proofs.Tryz.prog 100 e_integer_plus false :=
  entry_of (C := c_integer_plus) (fn := Go.Proofs.Tryz.f100) (c := b_integer_plus) (an := a_integer_plus) trivial trivial Go.Proofs.Tryz.func100 rfl rfl (by decide) (fun _ => rfl) (by intro a K D; kernel_rfl)
noncomputable def A_integer_minus : ArgT (Sl × Sl × Unit) := (ArgT.cons (Ty.leaf .sl) (ArgT.cons (Ty.leaf .sl) ArgT.nil))
noncomputable def R_integer_minus : Ty Sl := (Ty.leaf .sl)
noncomputable def e_integer_minus : FSem := mkE A_integer_minus R_integer_minus (fun a => F.integer_minus a.1 a.2.1)
noncomputable def c_integer_minus : Cfg := { P := Go.Proofs.Tryz.prog, n := 45, tab := [(98, e_integer_trim)], mutL := [], rtL := [], locL := [] }
noncomputable def b_integer_minus : Code := match Go.Proofs.Tryz.f108.body with | some c => c | none => .skip
noncomputable def a_integer_minus : An := (.seq .leaf (.seq .leaf (.seq .leaf (.seq (.seq .leaf (.block (.loop [(6, .leaf (.int .u64)), (15, .leaf (.int .i64))] (.seq .leaf (.seq (.cond .leaf .leaf) (.seq (.block (.seq .leaf (.seq .leaf (.join [(9, .leaf (.int .u64))] (.seq .leaf (.cond .leaf .leaf)) (.seq .leaf .leaf))))) .leaf)))))) (.seq .leaf .leaf)))))
theorem t_integer_minus : Entry Go.Proofs.Tryz.prog 108 e_integer_minus false :=
  entry_of (C := c_integer_minus) (fn := Go.Proofs.Tryz.f108) (c := b_integer_minus) (an := a_integer_minus) ⟨t_integer_trim, trivial⟩ trivial Go.Proofs.Tryz.func108 rfl rfl (by decide) (fun _ => rfl) (by intro a K D; kernel_rfl)
noncomputable def A_integer_DivMod : ArgT (TInt × TInt × Unit) := (ArgT.cons tyTInt (ArgT.cons tyTInt ArgT.nil))
noncomputable def R_integer_DivMod : Ty (TInt × TInt × Int) := (Ty.tup (.cons tyTInt (.cons tyTInt (.cons (Ty.leaf (.int .i64)) .nil))) (fun x => (x.1, x.2.1, x.2.2, ())) (fun y => (y.1, y.2.1, y.2.2.1)) (fun _ => rfl) (fun _ => rfl))
noncomputable def e_integer_DivMod : FSem := mkE A_integer_DivMod R_integer_DivMod (fun a => F.integer_DivMod a.1 a.2.1)
noncomputable def c_integer_DivMod : Cfg := { P := Go.Proofs.Tryz.prog, n := 53, tab := [(98, e_integer_trim), (97, e_integer_divide), (102, e_integer_signed), (100, e_integer_plus), (108, e_integer_minus)], mutL := [], rtL := [(10, 3), (19, 2), (26, 2), (28, 3), (42, 2), (44, 3), (49, 3)], locL := [2, 3, 4, 5] }
noncomputable def b_integer_DivMod : Code := match Go.Proofs.Tryz.f103.body with | some c => c | none => .skip
noncomputable def a_integer_DivMod : An := (.seq .leaf (.seq .leaf (.seq (.seq .leaf (.cond (.seq .leaf .leaf) .leaf)) (.seq .leaf (.join [(8, .leaf (.sl)), (9, .leaf (.sl))] (.seq .leaf (.cond (.seq .leaf .leaf) .leaf)) (.seq (.draw [0, 1, 2, 3, 4, 5, 7, 8, 9, 6, 10, 11, 12, 13]) .leaf))))))
theorem t_integer_DivMod : Entry Go.Proofs.Tryz.prog 103 e_integer_DivMod false :=
  entry_of (C := c_integer_DivMod) (fn := Go.Proofs.Tryz.f103) (c := b_integer_DivMod) (an := a_integer_DivMod) ⟨t_integer_trim, t_integer_divide, t_integer_signed, t_integer_plus, t_integer_minus, trivial⟩ trivial Go.Proofs.Tryz.func103 rfl rfl (by decide) (fun _ => rfl) (by intro a K D; kernel_rfl)
noncomputable def A_rational_quo : ArgT (TInt × TInt × Unit) := (ArgT.cons tyTInt (ArgT.cons tyTInt ArgT.nil))
noncomputable def R_rational_quo : Ty TInt := tyTInt
noncomputable def e_rational_quo : FSem := mkE A_rational_quo R_rational_quo (fun a => F.rational_quo a.1 a.2.1)
noncomputable def c_rational_quo : Cfg := { P := Go.Proofs.Tryz.prog, n := 19, tab := [(93, e_rational_isOne), (103, e_integer_DivMod)], mutL := [], rtL := [], locL := [2, 3, 4, 5, 6] }
noncomputable def b_rational_quo : Code := match Go.Proofs.Tryz.f127.body with | some c => c | none => .skip
noncomputable def a_rational_quo : An := (.seq .leaf (.seq (.seq .leaf (.cond (.seq .leaf .leaf) .leaf)) (.seq .leaf (.seq .leaf .leaf))))
theorem t_rational_quo : Entry Go.Proofs.Tryz.prog 127 e_rational_quo false :=
  entry_of (C := c_rational_quo) (fn := Go.Proofs.Tryz.f127) (c := b_rational_quo) (an := a_rational_quo) ⟨t_rational_isOne, t_integer_DivMod, trivial⟩ trivial Go.Proofs.Tryz.func127 rfl rfl (by decide) (fun _ => rfl) (by intro a K D; kernel_rfl)
noncomputable def A_integer_Neg : ArgT (TInt × Unit) := (ArgT.cons tyTInt ArgT.nil)
noncomputable def R_integer_Neg : Ty TInt := tyTInt
noncomputable def e_integer_Neg : FSem := mkE A_integer_Neg R_integer_Neg (fun a => F.integer_Neg a.1)
noncomputable def c_integer_Neg : Cfg := { P := Go.Proofs.Tryz.prog, n := 11, tab := [(98, e_integer_trim), (129, e_slices_Clone_uint32_uint32), (102, e_integer_signed)], mutL := [], rtL := [(3, 1), (6, 1)], locL := [1, 2] }
noncomputable def b_integer_Neg : Code := match Go.Proofs.Tryz.f104.body with | some c => c | none => .skip
noncomputable def a_integer_Neg : An := (.seq .leaf (.seq (.draw [0, 1, 2, 3, 4, 5, 6, 7, 8]) .leaf))
theorem t_integer_Neg : Entry Go.Proofs.Tryz.prog 104 e_integer_Neg false :=
  entry_of (C := c_integer_Neg) (fn := Go.Proofs.Tryz.f104) (c := b_integer_Neg) (an := a_integer_Neg) ⟨t_integer_trim, t_slices_Clone_uint32_uint32, t_integer_signed, trivial⟩ trivial Go.Proofs.Tryz.func104 rfl rfl (by decide) (fun _ => rfl) (by intro a K D; kernel_rfl)
noncomputable def A_rational_lowest : ArgT (TInt × TInt × Unit) := (ArgT.cons tyTInt (ArgT.cons tyTInt ArgT.nil))
noncomputable def R_rational_lowest : Ty TRat := tyTRat
noncomputable def e_rational_lowest : FSem := mkE A_rational_lowest R_rational_lowest (fun a => F.rational_lowest a.1 a.2.1)
noncomputable def c_rational_lowest : Cfg := { P := Go.Proofs.Tryz.prog, n := 20, tab := [(126, e_integer_GCD), (127, e_rational_quo), (104, e_integer_Neg)], mutL := [], rtL := [(9, 3)], locL := [2, 3, 4, 5] }
noncomputable def b_rational_lowest : Code := match Go.Proofs.Tryz.f92.body with | some c => c | none => .skip
noncomputable def a_rational_lowest : An := (.seq .leaf (.seq .leaf (.join [(5, .box [.bool, .sl])] (.seq .leaf (.cond .leaf .leaf)) (.seq (.draw [0, 1, 3, 4, 2, 5, 6, 7]) .leaf))))
theorem t_rational_lowest : Entry Go.Proofs.Tryz.prog 92 e_rational_lowest false :=
  entry_of (C := c_rational_lowest) (fn := Go.Proofs.Tryz.f92) (c := b_rational_lowest) (an := a_rational_lowest) ⟨t_integer_GCD, t_rational_quo, t_integer_Neg, trivial⟩ trivial Go.Proofs.Tryz.func92 rfl rfl (by decide) (fun _ => rfl) (by intro a K D; kernel_rfl)
noncomputable def A_rational_Div : ArgT (TRat × TRat × Unit) := (ArgT.cons tyTRat (ArgT.cons tyTRat ArgT.nil))
noncomputable def R_rational_Div : Ty (TRat × Int) := (Ty.tup (.cons tyTRat (.cons (Ty.leaf (.int .i64)) .nil)) (fun x => (x.1, x.2, ())) (fun y => (y.1, y.2.1)) (fun _ => rfl) (fun _ => rfl))
noncomputable def e_rational_Div : FSem := mkE A_rational_Div R_rational_Div (fun a => F.rational_Div a.1 a.2.1)
noncomputable def c_rational_Div : Cfg := { P := Go.Proofs.Tryz.prog, n := 21, tab := [(91, e_rational_isZero), (64, e_integer_Mul), (92, e_rational_lowest)], mutL := [], rtL := [(6, 3), (10, 2), (12, 3), (15, 2), (17, 3)], locL := [2, 3, 4] }
noncomputable def b_rational_Div : Code := match Go.Proofs.Tryz.f52.body with | some c => c | none => .skip
noncomputable def a_rational_Div : An := (.seq .leaf (.seq (.seq .leaf (.cond (.seq .leaf .leaf) .leaf)) (.seq (.draw [0, 1, 2, 3, 5, 6, 7, 8, 4, 9, 10, 11, 12]) .leaf)))
theorem t_rational_Div : Entry Go.Proofs.Tryz.prog 52 e_rational_Div false :=
  entry_of (C := c_rational_Div) (fn := Go.Proofs.Tryz.f52) (c := b_rational_Div) (an := a_rational_Div) ⟨t_rational_isZero, t_integer_Mul, t_rational_lowest, trivial⟩ trivial Go.Proofs.Tryz.func52 rfl rfl (by decide) (fun _ => rfl) (by intro a K D; kernel_rfl)
noncomputable def A_rational_Mul : ArgT (TRat × TRat × Unit) := (ArgT.cons tyTRat (ArgT.cons tyTRat ArgT.nil))
noncomputable def R_rational_Mul : Ty TRat := tyTRat
noncomputable def e_rational_Mul : FSem := mkE A_rational_Mul R_rational_Mul (fun a => F.rational_Mul a.1 a.2.1)
noncomputable def c_rational_Mul : Cfg := { P := Go.Proofs.Tryz.prog, n := 31, tab := [(64, e_integer_Mul), (92, e_rational_lowest), (93, e_rational_isOne), (90, e_rational_one)], mutL := [], rtL := [(5, 2), (9, 3), (13, 2), (15, 3), (20, 2), (22, 3), (25, 2), (27, 3)], locL := [2, 3, 4] }
noncomputable def b_rational_Mul : Code := match Go.Proofs.Tryz.f56.body with | some c => c | none => .skip
noncomputable def a_rational_Mul : An := (.seq .leaf (.join [(4, .box [.bool, .sl, .bool, .sl])] (.seq .leaf (.cond (.seq .leaf .leaf) .leaf)) (.seq (.draw [0, 1, 2, 3, 5, 6, 7, 8, 4, 9, 10, 11]) .leaf)))
theorem t_rational_Mul : Entry Go.Proofs.Tryz.prog 56 e_rational_Mul false :=
  entry_of (C := c_rational_Mul) (fn := Go.Proofs.Tryz.f56) (c := b_rational_Mul) (an := a_rational_Mul) ⟨t_integer_Mul, t_rational_lowest, t_rational_isOne, t_rational_one, trivial⟩ trivial Go.Proofs.Tryz.func56 rfl rfl (by decide) (fun _ => rfl) (by intro a K D; kernel_rfl)
noncomputable def A_integer_Add : ArgT (TInt × TInt × Unit) := (ArgT.cons tyTInt (ArgT.cons tyTInt ArgT.nil))
noncomputable def R_integer_Add : Ty TInt := tyTInt
noncomputable def e_integer_Add : FSem := mkE A_integer_Add R_integer_Add (fun a => F.integer_Add a.1 a.2.1)
noncomputable def c_integer_Add : Cfg := { P := Go.Proofs.Tryz.prog, n := 40, tab := [(98, e_integer_trim), (100, e_integer_plus), (102, e_integer_signed), (101, e_integer_compare), (108, e_integer_minus)], mutL := [], rtL := [(7, 2), (10, 3), (13, 2), (15, 3), (18, 2), (28, 3), (34, 2)], locL := [2, 3, 4] }
noncomputable def b_integer_Add : Code := match Go.Proofs.Tryz.f65.body with | some c => c | none => .skip
noncomputable def a_integer_Add : An := (.seq .leaf (.seq (.draw [0, 1, 3, 4, 2, 5, 6, 7]) (.seq (.seq .leaf (.cond (.seq (.draw [0, 1, 2, 3, 4, 5, 6]) .leaf) .leaf)) (.seq (.seq .leaf (.cond (.seq (.draw [0, 1, 2, 3, 4, 5, 6]) .leaf) .leaf)) (.seq (.draw [0, 1, 2, 3, 4, 5, 6]) .leaf)))))
theorem t_integer_Add : Entry Go.Proofs.Tryz.prog 65 e_integer_Add false :=
  entry_of (C := c_integer_Add) (fn := Go.Proofs.Tryz.f65) (c := b_integer_Add) (an := a_integer_Add) ⟨t_integer_trim, t_integer_plus, t_integer_signed, t_integer_compare, t_integer_minus, trivial⟩ trivial Go.Proofs.Tryz.func65 rfl rfl (by decide) (fun _ => rfl) (by intro a K D; kernel_rfl)
noncomputable def A_rational_Add : ArgT (TRat × TRat × Unit) := (ArgT.cons tyTRat (ArgT.cons tyTRat ArgT.nil))
noncomputable def R_rational_Add : Ty TRat := tyTRat
noncomputable def e_rational_Add : FSem := mkE A_rational_Add R_rational_Add (fun a => F.rational_Add a.1 a.2.1)
noncomputable def c_rational_Add : Cfg := { P := Go.Proofs.Tryz.prog, n := 39, tab := [(64, e_integer_Mul), (65, e_integer_Add), (92, e_rational_lowest), (93, e_rational_isOne), (90, e_rational_one)], mutL := [], rtL := [(6, 2), (10, 3), (14, 2), (16, 3), (21, 2), (23, 3), (26, 3), (28, 2), (33, 2), (35, 3)], locL := [2, 3, 4, 5] }
noncomputable def b_rational_Add : Code := match Go.Proofs.Tryz.f77.body with | some c => c | none => .skip
noncomputable def a_rational_Add : An := (.seq .leaf (.join [(4, .box [.bool, .sl, .bool, .sl])] (.seq .leaf (.cond (.seq .leaf .leaf) .leaf)) (.seq (.draw [0, 1, 2, 3, 5, 6, 7, 8, 11, 4, 9, 10, 12]) (.seq (.draw [0, 1, 2, 3, 4, 5, 6, 7]) .leaf))))
theorem t_rational_Add : Entry Go.Proofs.Tryz.prog 77 e_rational_Add false :=
  entry_of (C := c_rational_Add) (fn := Go.Proofs.Tryz.f77) (c := b_rational_Add) (an := a_rational_Add) ⟨t_integer_Mul, t_integer_Add, t_rational_lowest, t_rational_isOne, t_rational_one, trivial⟩ trivial Go.Proofs.Tryz.func77 rfl rfl (by decide) (fun _ => rfl) (by intro a K D; kernel_rfl)
noncomputable def A_interval_hull : ArgT (Sl × Unit) := (ArgT.cons (Ty.leaf .sl) ArgT.nil)
noncomputable def R_interval_hull : Ty TInterval := tyTInterval
noncomputable def e_interval_hull : FSem := mkE A_interval_hull R_interval_hull (fun a => F.interval_hull a.1)
noncomputable def c_interval_hull : Cfg := { P := Go.Proofs.Tryz.prog, n := 40, tab := [(87, e_rational_Cmp), (51, e_rational_FromInt), (77, e_rational_Add)], mutL := [], rtL := [], locL := [2, 3, 4, 6, 7] }
noncomputable def b_interval_hull : Code := match Go.Proofs.Tryz.f55.body with | some c => c | none => .skip
noncomputable def a_interval_hull : An := (.seq .leaf (.seq (.draw [0, 1, 2, 3, 4, 5, 6, 7, 8, 9]) (.seq (.seq .leaf (.block (.loop [(3, .box [.bool, .sl, .bool, .sl]), (4, .box [.bool, .sl, .bool, .sl]), (17, .leaf (.int .i64))] (.seq .leaf (.seq (.cond .leaf .leaf) (.join [(3, .box [.bool, .sl, .bool, .sl]), (4, .box [.bool, .sl, .bool, .sl])] (.block (.seq .leaf (.join [(3, .box [.bool, .sl, .bool, .sl])] (.seq .leaf (.cond .leaf .leaf)) (.seq .leaf (.cond .leaf .leaf))))) .leaf)))))) (.seq .leaf (.seq (.draw [0, 1, 3, 4, 2, 5, 6, 7]) .leaf)))))
theorem t_interval_hull : Entry Go.Proofs.Tryz.prog 55 e_interval_hull false :=
  entry_of (C := c_interval_hull) (fn := Go.Proofs.Tryz.f55) (c := b_interval_hull) (an := a_interval_hull) ⟨t_rational_Cmp, t_rational_FromInt, t_rational_Add, trivial⟩ trivial Go.Proofs.Tryz.func55 rfl rfl (by decide) (fun _ => rfl) (by intro a K D; kernel_rfl)
noncomputable def A_interval_Mul : ArgT (TInterval × TInterval × Unit) := (ArgT.cons tyTInterval (ArgT.cons tyTInterval ArgT.nil))
noncomputable def R_interval_Mul : Ty TInterval := tyTInterval
noncomputable def e_interval_Mul : FSem := mkE A_interval_Mul R_interval_Mul (fun a => F.interval_Mul a.1 a.2.1)
noncomputable def c_interval_Mul : Cfg := { P := Go.Proofs.Tryz.prog, n := 27, tab := [(56, e_rational_Mul), (55, e_interval_hull)], mutL := [], rtL := [(5, 2), (7, 3), (10, 2), (12, 3), (15, 2), (17, 3), (20, 2), (22, 3)], locL := [2, 3, 4] }
noncomputable def b_interval_Mul : Code := match Go.Proofs.Tryz.f17.body with | some c => c | none => .skip
noncomputable def a_interval_Mul : An := (.seq .leaf (.seq (.draw [0, 1, 2, 3, 5, 6, 7, 8, 10, 11, 12, 13, 15, 16, 17, 18, 4, 9, 14, 19, 20, 21, 22]) .leaf))
theorem t_interval_Mul : Entry Go.Proofs.Tryz.prog 17 e_interval_Mul false :=
  entry_of (C := c_interval_Mul) (fn := Go.Proofs.Tryz.f17) (c := b_interval_Mul) (an := a_interval_Mul) ⟨t_rational_Mul, t_interval_hull, trivial⟩ trivial Go.Proofs.Tryz.func17 rfl rfl (by decide) (fun _ => rfl) (by intro a K D; kernel_rfl)
noncomputable def A_interval_Div : ArgT (TInterval × TInterval × Unit) := (ArgT.cons tyTInterval (ArgT.cons tyTInterval ArgT.nil))
noncomputable def R_interval_Div : Ty (TInterval × Int) := (Ty.tup (.cons tyTInterval (.cons (Ty.leaf (.int .i64)) .nil)) (fun x => (x.1, x.2, ())) (fun y => (y.1, y.2.1)) (fun _ => rfl) (fun _ => rfl))
noncomputable def e_interval_Div : FSem := mkE A_interval_Div R_interval_Div (fun a => F.interval_Div a.1 a.2.1)
noncomputable def c_interval_Div : Cfg := { P := Go.Proofs.Tryz.prog, n := 35, tab := [(51, e_rational_FromInt), (42, e_interval_Contains), (52, e_rational_Div), (17, e_interval_Mul)], mutL := [], rtL := [(18, 3), (25, 3)], locL := [2, 3, 4, 6, 7, 9] }
noncomputable def b_interval_Div : Code := match Go.Proofs.Tryz.f14.body with | some c => c | none => .skip
noncomputable def a_interval_Div : An := (.seq .leaf (.seq (.seq (.draw [0, 1, 2]) (.cond (.seq .leaf .leaf) .leaf)) (.seq .leaf (.seq .leaf (.seq .leaf (.seq .leaf .leaf))))))
theorem t_interval_Div : Entry Go.Proofs.Tryz.prog 14 e_interval_Div false :=
  entry_of (C := c_interval_Div) (fn := Go.Proofs.Tryz.f14) (c := b_interval_Div) (an := a_interval_Div) ⟨t_rational_FromInt, t_interval_Contains, t_rational_Div, t_interval_Mul, trivial⟩ trivial Go.Proofs.Tryz.func14 rfl rfl (by decide) (fun _ => rfl) (by intro a K D; kernel_rfl)
noncomputable def A_ref01_trim : ArgT (Sl × Unit) := (ArgT.cons (Ty.leaf .sl) ArgT.nil)
noncomputable def R_ref01_trim : Ty Sl := (Ty.leaf .sl)
noncomputable def e_ref01_trim : FSem := mkE A_ref01_trim R_ref01_trim (fun a => F.ref01_trim a.1)
noncomputable def c_ref01_trim : Cfg := { P := Go.Proofs.Tryz.prog, n := 21, tab := [], mutL := [], rtL := [], locL := [] }
noncomputable def b_ref01_trim : Code := match Go.Proofs.Tryz.f116.body with | some c => c | none => .skip
noncomputable def a_ref01_trim : An := (.seq .leaf (.seq (.block (.loop [(0, .leaf (.sl))] (.join [] (.seq .leaf (.cond .leaf .leaf)) (.block .leaf)))) (.seq .leaf .leaf)))
theorem t_ref01_trim : Entry Go.Proofs.Tryz.prog 116 e_ref01_trim false :=
  entry_of (C := c_ref01_trim) (fn := Go.Proofs.Tryz.f116) (c := b_ref01_trim) (an := a_ref01_trim) trivial trivial Go.Proofs.Tryz.func116 rfl rfl (by decide) (fun _ => rfl) (by intro a K D; kernel_rfl)
noncomputable def A_ref01_signed : ArgT (Bool × Sl × Unit) := (ArgT.cons (Ty.leaf .bool) (ArgT.cons (Ty.leaf .sl) ArgT.nil))
noncomputable def R_ref01_signed : Ty TInt := tyTInt
noncomputable def e_ref01_signed : FSem := mkE A_ref01_signed R_ref01_signed (fun a => F.ref01_signed a.1 a.2.1)
noncomputable def c_ref01_signed : Cfg := { P := Go.Proofs.Tryz.prog, n := 15, tab := [(116, e_ref01_trim)], mutL := [], rtL := [], locL := [4] }
noncomputable def b_ref01_signed : Code := match Go.Proofs.Tryz.f117.body with | some c => c | none => .skip
noncomputable def a_ref01_signed : An := (.seq .leaf (.seq .leaf (.seq .leaf .leaf)))
theorem t_ref01_signed : Entry Go.Proofs.Tryz.prog 117 e_ref01_signed false :=
  entry_of (C := c_ref01_signed) (fn := Go.Proofs.Tryz.f117) (c := b_ref01_signed) (an := a_ref01_signed) ⟨t_ref01_trim, trivial⟩ trivial Go.Proofs.Tryz.func117 rfl rfl (by decide) (fun _ => rfl) (by intro a K D; kernel_rfl)
noncomputable def A_ref01_Neg : ArgT (TInt × Unit) := (ArgT.cons tyTInt ArgT.nil)
noncomputable def R_ref01_Neg : Ty TInt := tyTInt
noncomputable def e_ref01_Neg : FSem := mkE A_ref01_Neg R_ref01_Neg (fun a => F.ref01_Neg a.1)
noncomputable def c_ref01_Neg : Cfg := { P := Go.Proofs.Tryz.prog, n := 9, tab := [(117, e_ref01_signed)], mutL := [], rtL := [(3, 1), (6, 1)], locL := [1, 2] }
noncomputable def b_ref01_Neg : Code := match Go.Proofs.Tryz.f83.body with | some c => c | none => .skip
noncomputable def a_ref01_Neg : An := (.seq .leaf (.seq .leaf .leaf))
theorem t_ref01_Neg : Entry Go.Proofs.Tryz.prog 83 e_ref01_Neg false :=
  entry_of (C := c_ref01_Neg) (fn := Go.Proofs.Tryz.f83) (c := b_ref01_Neg) (an := a_ref01_Neg) ⟨t_ref01_signed, trivial⟩ trivial Go.Proofs.Tryz.func83 rfl rfl (by decide) (fun _ => rfl) (by intro a K D; kernel_rfl)
noncomputable def A_ref02_Inv : ArgT (TRat × Unit) := (ArgT.cons tyTRat ArgT.nil)
noncomputable def R_ref02_Inv : Ty TRat := tyTRat
noncomputable def e_ref02_Inv : FSem := mkE A_ref02_Inv R_ref02_Inv (fun a => F.ref02_Inv a.1)
noncomputable def c_ref02_Inv : Cfg := { P := Go.Proofs.Tryz.prog, n := 18, tab := [(83, e_ref01_Neg)], mutL := [], rtL := [(3, 1), (4, 1), (6, 1), (9, 1), (13, 1), (15, 1)], locL := [1, 2] }
noncomputable def b_ref02_Inv : Code := match Go.Proofs.Tryz.f54.body with | some c => c | none => .skip
noncomputable def a_ref02_Inv : An := (.seq .leaf (.seq (.seq .leaf (.cond (.seq (.draw [0, 1, 3, 4, 2, 5, 6, 7]) .leaf) .leaf)) (.seq .leaf .leaf)))
theorem t_ref02_Inv : Entry Go.Proofs.Tryz.prog 54 e_ref02_Inv false :=
  entry_of (C := c_ref02_Inv) (fn := Go.Proofs.Tryz.f54) (c := b_ref02_Inv) (an := a_ref02_Inv) ⟨t_ref01_Neg, trivial⟩ trivial Go.Proofs.Tryz.func54 rfl rfl (by decide) (fun _ => rfl) (by intro a K D; kernel_rfl)
noncomputable def A_ref03_Point : ArgT (TRat × Unit) := (ArgT.cons tyTRat ArgT.nil)
noncomputable def R_ref03_Point : Ty TInterval := tyTInterval
noncomputable def e_ref03_Point : FSem := mkE A_ref03_Point R_ref03_Point (fun a => F.ref03_Point a.1)
noncomputable def c_ref03_Point : Cfg := { P := Go.Proofs.Tryz.prog, n := 6, tab := [], mutL := [], rtL := [], locL := [1, 2] }
noncomputable def b_ref03_Point : Code := match Go.Proofs.Tryz.f43.body with | some c => c | none => .skip
noncomputable def a_ref03_Point : An := (.seq .leaf (.seq .leaf .leaf))
theorem t_ref03_Point : Entry Go.Proofs.Tryz.prog 43 e_ref03_Point false :=
  entry_of (C := c_ref03_Point) (fn := Go.Proofs.Tryz.f43) (c := b_ref03_Point) (an := a_ref03_Point) trivial trivial Go.Proofs.Tryz.func43 rfl rfl (by decide) (fun _ => rfl) (by intro a K D; kernel_rfl)
noncomputable def A_ref01_Norm : ArgT (TInt × Unit) := (ArgT.cons tyTInt ArgT.nil)
noncomputable def R_ref01_Norm : Ty TInt := tyTInt
noncomputable def e_ref01_Norm : FSem := mkE A_ref01_Norm R_ref01_Norm (fun a => F.ref01_Norm a.1)
noncomputable def c_ref01_Norm : Cfg := { P := Go.Proofs.Tryz.prog, n := 8, tab := [(117, e_ref01_signed)], mutL := [], rtL := [(3, 1), (5, 1)], locL := [1, 2] }
noncomputable def b_ref01_Norm : Code := match Go.Proofs.Tryz.f112.body with | some c => c | none => .skip
noncomputable def a_ref01_Norm : An := (.seq .leaf (.seq .leaf .leaf))
theorem t_ref01_Norm : Entry Go.Proofs.Tryz.prog 112 e_ref01_Norm false :=
  entry_of (C := c_ref01_Norm) (fn := Go.Proofs.Tryz.f112) (c := b_ref01_Norm) (an := a_ref01_Norm) ⟨t_ref01_signed, trivial⟩ trivial Go.Proofs.Tryz.func112 rfl rfl (by decide) (fun _ => rfl) (by intro a K D; kernel_rfl)
noncomputable def A_ref01_times : ArgT (Sl × Sl × Unit) := (ArgT.cons (Ty.leaf .sl) (ArgT.cons (Ty.leaf .sl) ArgT.nil))
noncomputable def R_ref01_times : Ty Sl := (Ty.leaf .sl)
noncomputable def e_ref01_times : FSem := mkE A_ref01_times R_ref01_times (fun a => F.ref01_times a.1 a.2.1)
noncomputable def c_ref01_times : Cfg := { P := Go.Proofs.Tryz.prog, n := 67, tab := [(116, e_ref01_trim)], mutL := [], rtL := [], locL := [] }
noncomputable def b_ref01_times : Code := match Go.Proofs.Tryz.f115.body with | some c => c | none => .skip
noncomputable def a_ref01_times : An := (.seq .leaf (.seq .leaf (.seq (.seq .leaf (.block (.loop [(6, .leaf (.int .i64))] (.seq (.seq .leaf (.cond .leaf .leaf)) (.seq (.block (.seq .leaf (.seq (.seq .leaf (.block (.loop [(7, .leaf (.int .u64)), (8, .leaf (.int .i64))] (.seq (.seq .leaf (.cond .leaf .leaf)) (.seq (.block (.seq (.draw [0, 1, 2, 3, 4, 5, 6, 7, 8, 9, 10, 11, 12, 13, 14, 15, 16, 17, 18, 19, 20, 21]) (.seq .leaf .leaf))) .leaf))))) .leaf))) .leaf))))) (.seq .leaf .leaf))))
theorem t_ref01_times : Entry Go.Proofs.Tryz.prog 115 e_ref01_times false :=
  entry_of (C := c_ref01_times) (fn := Go.Proofs.Tryz.f115) (c := b_ref01_times) (an := a_ref01_times) ⟨t_ref01_trim, trivial⟩ trivial Go.Proofs.Tryz.func115 rfl rfl (by decide) (fun _ => rfl) (by intro a K D; kernel_rfl)
noncomputable def A_ref01_Mul : ArgT (TInt × TInt × Unit) := (ArgT.cons tyTInt (ArgT.cons tyTInt ArgT.nil))
noncomputable def R_ref01_Mul : Ty TInt := tyTInt
noncomputable def e_ref01_Mul : FSem := mkE A_ref01_Mul R_ref01_Mul (fun a => F.ref01_Mul a.1 a.2.1)
noncomputable def c_ref01_Mul : Cfg := { P := Go.Proofs.Tryz.prog, n := 20, tab := [(112, e_ref01_Norm), (115, e_ref01_times), (117, e_ref01_signed)], mutL := [], rtL := [(9, 2), (11, 3), (14, 2), (16, 3)], locL := [2, 3, 4] }
noncomputable def b_ref01_Mul : Code := match Go.Proofs.Tryz.f73.body with | some c => c | none => .skip
noncomputable def a_ref01_Mul : An := (.seq .leaf (.seq (.draw [0, 2, 1, 3, 4, 5]) (.seq (.draw [0, 1, 2, 3, 4, 5, 6, 7, 8, 9, 10, 11]) .leaf)))
theorem t_ref01_Mul : Entry Go.Proofs.Tryz.prog 73 e_ref01_Mul false :=
  entry_of (C := c_ref01_Mul) (fn := Go.Proofs.Tryz.f73) (c := b_ref01_Mul) (an := a_ref01_Mul) ⟨t_ref01_Norm, t_ref01_times, t_ref01_signed, trivial⟩ trivial Go.Proofs.Tryz.func73 rfl rfl (by decide) (fun _ => rfl) (by intro a K D; kernel_rfl)
noncomputable def A_ref01_plus : ArgT (Sl × Sl × Unit) := (ArgT.cons (Ty.leaf .sl) (ArgT.cons (Ty.leaf .sl) ArgT.nil))
noncomputable def R_ref01_plus : Ty Sl := (Ty.leaf .sl)
noncomputable def e_ref01_plus : FSem := mkE A_ref01_plus R_ref01_plus (fun a => F.ref01_plus a.1 a.2.1)
noncomputable def c_ref01_plus : Cfg := { P := Go.Proofs.Tryz.prog, n := 58, tab := [(116, e_ref01_trim)], mutL := [], rtL := [], locL := [] }
noncomputable def b_ref01_plus : Code := match Go.Proofs.Tryz.f120.body with | some c => c | none => .skip
noncomputable def a_ref01_plus : An := (.seq .leaf (.join [(0, .leaf (.sl)), (1, .leaf (.sl))] (.seq .leaf (.cond .leaf .leaf)) (.seq .leaf (.seq .leaf (.seq (.seq .leaf (.block (.loop [(6, .leaf (.int .u64)), (7, .leaf (.int .i64))] (.seq (.seq .leaf (.cond .leaf .leaf)) (.seq (.block (.seq .leaf (.join [(6, .leaf (.int .u64))] (.seq .leaf (.cond .leaf .leaf)) (.seq .leaf .leaf)))) .leaf))))) (.seq .leaf (.seq .leaf .leaf)))))))
theorem t_ref01_plus : Entry Go.Proofs.Tryz.prog 120 e_ref01_plus false :=
  entry_of (C := c_ref01_plus) (fn := Go.Proofs.Tryz.f120) (c := b_ref01_plus) (an := a_ref01_plus) ⟨t_ref01_trim, trivial⟩ trivial Go.Proofs.Tryz.func120 rfl rfl (by decide) (fun _ => rfl) (by intro a K D; kernel_rfl)
noncomputable def A_ref01_compare : ArgT (Sl × Sl × Unit) := (ArgT.cons (Ty.leaf .sl) (ArgT.cons (Ty.leaf .sl) ArgT.nil))
noncomputable def R_ref01_compare : Ty Int := (Ty.leaf (.int .i64))
noncomputable def e_ref01_compare : FSem := mkE A_ref01_compare R_ref01_compare (fun a => F.ref01_compare a.1 a.2.1)
noncomputable def c_ref01_compare : Cfg := { P := Go.Proofs.Tryz.prog, n := 41, tab := [], mutL := [], rtL := [], locL := [] }
noncomputable def b_ref01_compare : Code := match Go.Proofs.Tryz.f114.body with | some c => c | none => .skip
noncomputable def a_ref01_compare : An := (.seq .leaf (.seq (.seq .leaf (.cond (.seq (.seq .leaf (.cond (.seq .leaf .leaf) .leaf)) (.seq .leaf .leaf)) .leaf)) (.seq (.seq .leaf (.block (.loop [(5, .leaf (.int .i64))] (.seq (.seq .leaf (.cond .leaf .leaf)) (.seq (.block (.seq (.seq (.draw [0, 1, 2, 3, 4, 5, 6, 7, 8]) (.cond (.seq .leaf .leaf) .leaf)) (.seq (.draw [0, 1, 2, 3, 4, 5, 6, 7, 8]) (.cond (.seq .leaf .leaf) .leaf)))) .leaf))))) (.seq .leaf .leaf))))
theorem t_ref01_compare : Entry Go.Proofs.Tryz.prog 114 e_ref01_compare false :=
  entry_of (C := c_ref01_compare) (fn := Go.Proofs.Tryz.f114) (c := b_ref01_compare) (an := a_ref01_compare) trivial trivial Go.Proofs.Tryz.func114 rfl rfl (by decide) (fun _ => rfl) (by intro a K D; kernel_rfl)
noncomputable def A_ref01_minus : ArgT (Sl × Sl × Unit) := (ArgT.cons (Ty.leaf .sl) (ArgT.cons (Ty.leaf .sl) ArgT.nil))
noncomputable def R_ref01_minus : Ty Sl := (Ty.leaf .sl)
noncomputable def e_ref01_minus : FSem := mkE A_ref01_minus R_ref01_minus (fun a => F.ref01_minus a.1 a.2.1)
noncomputable def c_ref01_minus : Cfg := { P := Go.Proofs.Tryz.prog, n := 48, tab := [(116, e_ref01_trim)], mutL := [], rtL := [], locL := [] }
noncomputable def b_ref01_minus : Code := match Go.Proofs.Tryz.f121.body with | some c => c | none => .skip
noncomputable def a_ref01_minus : An := (.seq .leaf (.seq .leaf (.seq .leaf (.seq (.seq .leaf (.block (.loop [(6, .leaf (.int .u64)), (7, .leaf (.int .i64))] (.seq (.seq .leaf (.cond .leaf .leaf)) (.seq (.block (.seq .leaf (.join [(8, .leaf (.int .u64))] (.seq .leaf (.cond .leaf .leaf)) (.seq .leaf (.seq .leaf .leaf))))) .leaf))))) (.seq .leaf .leaf)))))
theorem t_ref01_minus : Entry Go.Proofs.Tryz.prog 121 e_ref01_minus false :=
  entry_of (C := c_ref01_minus) (fn := Go.Proofs.Tryz.f121) (c := b_ref01_minus) (an := a_ref01_minus) ⟨t_ref01_trim, trivial⟩ trivial Go.Proofs.Tryz.func121 rfl rfl (by decide) (fun _ => rfl) (by intro a K D; kernel_rfl)
noncomputable def A_ref01_Add : ArgT (TInt × TInt × Unit) := (ArgT.cons tyTInt (ArgT.cons tyTInt ArgT.nil))
noncomputable def R_ref01_Add : Ty TInt := tyTInt
noncomputable def e_ref01_Add : FSem := mkE A_ref01_Add R_ref01_Add (fun a => F.ref01_Add a.1 a.2.1)
noncomputable def c_ref01_Add : Cfg := { P := Go.Proofs.Tryz.prog, n := 44, tab := [(112, e_ref01_Norm), (120, e_ref01_plus), (117, e_ref01_signed), (114, e_ref01_compare), (121, e_ref01_minus)], mutL := [], rtL := [(9, 2), (11, 3), (14, 2), (16, 2), (18, 3), (22, 2), (24, 3), (28, 2), (30, 2), (32, 3), (36, 3), (38, 3), (40, 2)], locL := [2, 3, 4] }
noncomputable def b_ref01_Add : Code := match Go.Proofs.Tryz.f75.body with | some c => c | none => .skip
noncomputable def a_ref01_Add : An := (.seq .leaf (.seq (.draw [0, 2, 1, 3, 4, 5]) (.seq (.seq .leaf (.cond (.seq (.draw [0, 1, 2, 3, 4, 5, 6, 7, 8]) .leaf) .leaf)) (.seq (.seq .leaf (.cond (.seq (.draw [0, 1, 2, 3, 4, 5, 6, 7, 8]) .leaf) .leaf)) (.seq (.draw [0, 1, 2, 3, 4, 5, 6, 7, 8]) .leaf)))))
theorem t_ref01_Add : Entry Go.Proofs.Tryz.prog 75 e_ref01_Add false :=
  entry_of (C := c_ref01_Add) (fn := Go.Proofs.Tryz.f75) (c := b_ref01_Add) (an := a_ref01_Add) ⟨t_ref01_Norm, t_ref01_plus, t_ref01_signed, t_ref01_compare, t_ref01_minus, trivial⟩ trivial Go.Proofs.Tryz.func75 rfl rfl (by decide) (fun _ => rfl) (by intro a K D; kernel_rfl)
noncomputable def A_ref01_Sub : ArgT (TInt × TInt × Unit) := (ArgT.cons tyTInt (ArgT.cons tyTInt ArgT.nil))
noncomputable def R_ref01_Sub : Ty TInt := tyTInt
noncomputable def e_ref01_Sub : FSem := mkE A_ref01_Sub R_ref01_Sub (fun a => F.ref01_Sub a.1 a.2.1)
noncomputable def c_ref01_Sub : Cfg := { P := Go.Proofs.Tryz.prog, n := 9, tab := [(83, e_ref01_Neg), (75, e_ref01_Add)], mutL := [], rtL := [], locL := [2, 3, 4] }
noncomputable def b_ref01_Sub : Code := match Go.Proofs.Tryz.f142.body with | some c => c | none => .skip
noncomputable def a_ref01_Sub : An := (.seq .leaf (.seq (.draw [0, 1, 2, 3, 4]) .leaf))
theorem t_ref01_Sub : Entry Go.Proofs.Tryz.prog 142 e_ref01_Sub false :=
  entry_of (C := c_ref01_Sub) (fn := Go.Proofs.Tryz.f142) (c := b_ref01_Sub) (an := a_ref01_Sub) ⟨t_ref01_Neg, t_ref01_Add, trivial⟩ trivial Go.Proofs.Tryz.func142 rfl rfl (by decide) (fun _ => rfl) (by intro a K D; kernel_rfl)
noncomputable def A_ref01_Sign : ArgT (TInt × Unit) := (ArgT.cons tyTInt ArgT.nil)
noncomputable def R_ref01_Sign : Ty Int := (Ty.leaf (.int .i64))
noncomputable def e_ref01_Sign : FSem := mkE A_ref01_Sign R_ref01_Sign (fun a => F.ref01_Sign a.1)
noncomputable def c_ref01_Sign : Cfg := { P := Go.Proofs.Tryz.prog, n := 11, tab := [(112, e_ref01_Norm)], mutL := [], rtL := [(5, 1), (9, 1)], locL := [1] }
noncomputable def b_ref01_Sign : Code := match Go.Proofs.Tryz.f82.body with | some c => c | none => .skip
noncomputable def a_ref01_Sign : An := (.seq .leaf (.seq .leaf (.seq (.seq .leaf (.cond (.seq .leaf .leaf) .leaf)) (.seq (.seq .leaf (.cond (.seq .leaf .leaf) .leaf)) (.seq .leaf .leaf)))))
theorem t_ref01_Sign : Entry Go.Proofs.Tryz.prog 82 e_ref01_Sign false :=
  entry_of (C := c_ref01_Sign) (fn := Go.Proofs.Tryz.f82) (c := b_ref01_Sign) (an := a_ref01_Sign) ⟨t_ref01_Norm, trivial⟩ trivial Go.Proofs.Tryz.func82 rfl rfl (by decide) (fun _ => rfl) (by intro a K D; kernel_rfl)
noncomputable def A_ref01_Cmp : ArgT (TInt × TInt × Unit) := (ArgT.cons tyTInt (ArgT.cons tyTInt ArgT.nil))
noncomputable def R_ref01_Cmp : Ty Int := (Ty.leaf (.int .i64))
noncomputable def e_ref01_Cmp : FSem := mkE A_ref01_Cmp R_ref01_Cmp (fun a => F.ref01_Cmp a.1 a.2.1)
noncomputable def c_ref01_Cmp : Cfg := { P := Go.Proofs.Tryz.prog, n := 9, tab := [(142, e_ref01_Sub), (82, e_ref01_Sign)], mutL := [], rtL := [], locL := [2, 3] }
noncomputable def b_ref01_Cmp : Code := match Go.Proofs.Tryz.f118.body with | some c => c | none => .skip
noncomputable def a_ref01_Cmp : An := (.seq .leaf (.seq .leaf .leaf))
theorem t_ref01_Cmp : Entry Go.Proofs.Tryz.prog 118 e_ref01_Cmp false :=
  entry_of (C := c_ref01_Cmp) (fn := Go.Proofs.Tryz.f118) (c := b_ref01_Cmp) (an := a_ref01_Cmp) ⟨t_ref01_Sub, t_ref01_Sign, trivial⟩ trivial Go.Proofs.Tryz.func118 rfl rfl (by decide) (fun _ => rfl) (by intro a K D; kernel_rfl)
end Den
end

section
/- MADE BY fbuild.py: the entries of the functions. -/
set_option maxRecDepth 100000
set_option linter.unusedVariables false
namespace Den
open Go
noncomputable def A_ref02_Cmp : ArgT (TRat × TRat × Unit) := (ArgT.cons tyTRat (ArgT.cons tyTRat ArgT.nil))
noncomputable def R_ref02_Cmp : Ty Int := (Ty.leaf (.int .i64))
noncomputable def e_ref02_Cmp : FSem := mkE A_ref02_Cmp R_ref02_Cmp (fun a => F.ref02_Cmp a.1 a.2.1)
noncomputable def c_ref02_Cmp : Cfg := { P := Go.Proofs.Tryz.prog, n := 16, tab := [(73, e_ref01_Mul), (118, e_ref01_Cmp)], mutL := [], rtL := [(5, 2), (7, 3), (10, 3), (12, 2)], locL := [2, 3] }
noncomputable def b_ref02_Cmp : Code := match Go.Proofs.Tryz.f71.body with | some c => c | none => .skip
noncomputable def a_ref02_Cmp : An := (.seq .leaf (.seq (.draw [0, 1, 2, 3, 5, 6, 7, 8, 4, 9, 10, 11]) .leaf))
theorem t_ref02_Cmp : Entry Go.Proofs.Tryz.prog 71 e_ref02_Cmp false :=
  entry_of (C := c_ref02_Cmp) (fn := Go.Proofs.Tryz.f71) (c := b_ref02_Cmp) (an := a_ref02_Cmp) ⟨t_ref01_Mul, t_ref01_Cmp, trivial⟩ trivial Go.Proofs.Tryz.func71 rfl rfl (by decide) (fun _ => rfl) (by intro a K D; kernel_rfl)
noncomputable def A_ref03_Hull : ArgT (Sl × Unit) := (ArgT.cons (Ty.leaf .sl) ArgT.nil)
noncomputable def R_ref03_Hull : Ty TInterval := tyTInterval
noncomputable def e_ref03_Hull : FSem := mkE A_ref03_Hull R_ref03_Hull (fun a => F.ref03_Hull a.1)
noncomputable def c_ref03_Hull : Cfg := { P := Go.Proofs.Tryz.prog, n := 42, tab := [(43, e_ref03_Point), (71, e_ref02_Cmp)], mutL := [], rtL := [(19, 3), (27, 3), (32, 3), (40, 3)], locL := [2, 3] }
noncomputable def b_ref03_Hull : Code := match Go.Proofs.Tryz.f53.body with | some c => c | none => .skip
noncomputable def a_ref03_Hull : An := (.seq .leaf (.seq .leaf (.seq (.seq .leaf (.block (.loop [(3, .box [.bool, .sl, .bool, .sl, .bool, .sl, .bool, .sl]), (4, .leaf (.int .i64))] (.seq (.seq .leaf (.cond .leaf .leaf)) (.join [(3, .box [.bool, .sl, .bool, .sl, .bool, .sl, .bool, .sl])] (.block (.join [(3, .box [.bool, .sl, .bool, .sl, .bool, .sl, .bool, .sl])] (.seq (.draw [0, 1, 2, 3, 4, 5, 6, 7]) (.cond .leaf .leaf)) (.seq (.draw [0, 1, 2, 3, 4, 5, 6, 7]) (.cond .leaf .leaf)))) .leaf))))) (.seq .leaf .leaf))))
theorem t_ref03_Hull : Entry Go.Proofs.Tryz.prog 53 e_ref03_Hull false :=
  entry_of (C := c_ref03_Hull) (fn := Go.Proofs.Tryz.f53) (c := b_ref03_Hull) (an := a_ref03_Hull) ⟨t_ref03_Point, t_ref02_Cmp, trivial⟩ trivial Go.Proofs.Tryz.func53 rfl rfl (by decide) (fun _ => rfl) (by intro a K D; kernel_rfl)
noncomputable def A_ref01_short : ArgT (Sl × Unit) := (ArgT.cons (Ty.leaf .sl) ArgT.nil)
noncomputable def R_ref01_short : Ty Int := (Ty.leaf (.int .u64))
noncomputable def e_ref01_short : FSem := mkE A_ref01_short R_ref01_short (fun a => F.ref01_short a.1)
noncomputable def c_ref01_short : Cfg := { P := Go.Proofs.Tryz.prog, n := 21, tab := [], mutL := [], rtL := [], locL := [] }
noncomputable def b_ref01_short : Code := match Go.Proofs.Tryz.f143.body with | some c => c | none => .skip
noncomputable def a_ref01_short : An := (.seq .leaf (.seq .leaf (.seq (.seq .leaf (.block (.loop [(3, .leaf (.int .u64)), (4, .leaf (.int .i64))] (.seq (.seq .leaf (.cond .leaf .leaf)) (.seq (.block .leaf) .leaf))))) (.seq .leaf .leaf))))
theorem t_ref01_short : Entry Go.Proofs.Tryz.prog 143 e_ref01_short false :=
  entry_of (C := c_ref01_short) (fn := Go.Proofs.Tryz.f143) (c := b_ref01_short) (an := a_ref01_short) trivial trivial Go.Proofs.Tryz.func143 rfl rfl (by decide) (fun _ => rfl) (by intro a K D; kernel_rfl)
noncomputable def A_ref01_words : ArgT (Int × Unit) := (ArgT.cons (Ty.leaf (.int .u64)) ArgT.nil)
noncomputable def R_ref01_words : Ty Sl := (Ty.leaf .sl)
noncomputable def e_ref01_words : FSem := mkE A_ref01_words R_ref01_words (fun a => F.ref01_words a.1)
noncomputable def c_ref01_words : Cfg := { P := Go.Proofs.Tryz.prog, n := 10, tab := [(116, e_ref01_trim)], mutL := [], rtL := [], locL := [] }
noncomputable def b_ref01_words : Code := match Go.Proofs.Tryz.f119.body with | some c => c | none => .skip
noncomputable def a_ref01_words : An := (.seq .leaf (.seq .leaf .leaf))
theorem t_ref01_words : Entry Go.Proofs.Tryz.prog 119 e_ref01_words false :=
  entry_of (C := c_ref01_words) (fn := Go.Proofs.Tryz.f119) (c := b_ref01_words) (an := a_ref01_words) ⟨t_ref01_trim, trivial⟩ trivial Go.Proofs.Tryz.func119 rfl rfl (by decide) (fun _ => rfl) (by intro a K D; kernel_rfl)
noncomputable def A_ref01_by : ArgT (Sl × Int × Unit) := (ArgT.cons (Ty.leaf .sl) (ArgT.cons (Ty.leaf (.int .u32)) ArgT.nil))
noncomputable def R_ref01_by : Ty (Sl × Int) := (Ty.tup (.cons (Ty.leaf .sl) (.cons (Ty.leaf (.int .u32)) .nil)) (fun x => (x.1, x.2, ())) (fun y => (y.1, y.2.1)) (fun _ => rfl) (fun _ => rfl))
noncomputable def e_ref01_by : FSem := mkE A_ref01_by R_ref01_by (fun a => F.ref01_by a.1 a.2.1)
noncomputable def c_ref01_by : Cfg := { P := Go.Proofs.Tryz.prog, n := 43, tab := [(116, e_ref01_trim)], mutL := [], rtL := [], locL := [] }
noncomputable def b_ref01_by : Code := match Go.Proofs.Tryz.f144.body with | some c => c | none => .skip
noncomputable def a_ref01_by : An := (.seq .leaf (.seq .leaf (.seq .leaf (.seq (.seq .leaf (.block (.loop [(7, .leaf (.int .u64)), (8, .leaf (.int .i64))] (.seq (.seq .leaf (.cond .leaf .leaf)) (.seq (.block (.seq .leaf (.seq .leaf .leaf))) .leaf))))) (.seq .leaf .leaf)))))
theorem t_ref01_by : Entry Go.Proofs.Tryz.prog 144 e_ref01_by false :=
  entry_of (C := c_ref01_by) (fn := Go.Proofs.Tryz.f144) (c := b_ref01_by) (an := a_ref01_by) ⟨t_ref01_trim, trivial⟩ trivial Go.Proofs.Tryz.func144 rfl rfl (by decide) (fun _ => rfl) (by intro a K D; kernel_rfl)
noncomputable def A_ref01_length : ArgT (Sl × Unit) := (ArgT.cons (Ty.leaf .sl) ArgT.nil)
noncomputable def R_ref01_length : Ty Int := (Ty.leaf (.int .i64))
noncomputable def e_ref01_length : FSem := mkE A_ref01_length R_ref01_length (fun a => F.ref01_length a.1)
noncomputable def c_ref01_length : Cfg := { P := Go.Proofs.Tryz.prog, n := 26, tab := [], mutL := [], rtL := [], locL := [] }
noncomputable def b_ref01_length : Code := match Go.Proofs.Tryz.f141.body with | some c => c | none => .skip
noncomputable def a_ref01_length : An := (.seq .leaf (.seq (.seq .leaf (.cond (.seq .leaf .leaf) .leaf)) (.seq .leaf (.seq (.seq .leaf (.block (.loop [(3, .leaf (.int .i64)), (4, .leaf (.int .u32))] (.seq (.seq .leaf (.cond .leaf .leaf)) (.seq (.block .leaf) .leaf))))) (.seq .leaf .leaf)))))
theorem t_ref01_length : Entry Go.Proofs.Tryz.prog 141 e_ref01_length false :=
  entry_of (C := c_ref01_length) (fn := Go.Proofs.Tryz.f141) (c := b_ref01_length) (an := a_ref01_length) trivial trivial Go.Proofs.Tryz.func141 rfl rfl (by decide) (fun _ => rfl) (by intro a K D; kernel_rfl)
noncomputable def A_ref01_shifted : ArgT (Sl × Int × Unit) := (ArgT.cons (Ty.leaf .sl) (ArgT.cons (Ty.leaf (.int .i64)) ArgT.nil))
noncomputable def R_ref01_shifted : Ty Sl := (Ty.leaf .sl)
noncomputable def e_ref01_shifted : FSem := mkE A_ref01_shifted R_ref01_shifted (fun a => F.ref01_shifted a.1 a.2.1)
noncomputable def c_ref01_shifted : Cfg := { P := Go.Proofs.Tryz.prog, n := 43, tab := [], mutL := [], rtL := [], locL := [] }
noncomputable def b_ref01_shifted : Code := match Go.Proofs.Tryz.f145.body with | some c => c | none => .skip
noncomputable def a_ref01_shifted : An := (.seq .leaf (.seq .leaf (.seq (.seq .leaf (.block (.loop [(6, .leaf (.int .i64))] (.seq (.seq .leaf (.cond .leaf .leaf)) (.seq (.block (.seq .leaf (.seq .leaf .leaf))) .leaf))))) (.seq .leaf .leaf))))
theorem t_ref01_shifted : Entry Go.Proofs.Tryz.prog 145 e_ref01_shifted false :=
  entry_of (C := c_ref01_shifted) (fn := Go.Proofs.Tryz.f145) (c := b_ref01_shifted) (an := a_ref01_shifted) trivial trivial Go.Proofs.Tryz.func145 rfl rfl (by decide) (fun _ => rfl) (by intro a K D; kernel_rfl)
noncomputable def A_ref01_digit : ArgT (Sl × Sl × Unit) := (ArgT.cons (Ty.leaf .sl) (ArgT.cons (Ty.leaf .sl) ArgT.nil))
noncomputable def R_ref01_digit : Ty (Int × Sl) := (Ty.tup (.cons (Ty.leaf (.int .u32)) (.cons (Ty.leaf .sl) .nil)) (fun x => (x.1, x.2, ())) (fun y => (y.1, y.2.1)) (fun _ => rfl) (fun _ => rfl))
noncomputable def e_ref01_digit : FSem := mkE A_ref01_digit R_ref01_digit (fun a => F.ref01_digit a.1 a.2.1)
noncomputable def c_ref01_digit : Cfg := { P := Go.Proofs.Tryz.prog, n := 51, tab := [(115, e_ref01_times), (116, e_ref01_trim), (114, e_ref01_compare), (121, e_ref01_minus)], mutL := [], rtL := [], locL := [] }
noncomputable def b_ref01_digit : Code := match Go.Proofs.Tryz.f146.body with | some c => c | none => .skip
noncomputable def a_ref01_digit : An := (.seq .leaf (.seq .leaf (.seq (.draw [0, 1, 2, 3, 4, 5, 6, 7, 8, 9, 10, 11, 12, 13, 14, 15, 16, 17, 18, 19, 20]) (.join [(7, .leaf (.int .u64))] (.seq .leaf (.cond .leaf .leaf)) (.seq .leaf (.seq (.block (.loop [(7, .leaf (.int .u64)), (8, .leaf (.sl))] (.seq (.seq .leaf (.cond .leaf .leaf)) (.block (.seq .leaf .leaf))))) (.seq .leaf .leaf)))))))
theorem t_ref01_digit : Entry Go.Proofs.Tryz.prog 146 e_ref01_digit false :=
  entry_of (C := c_ref01_digit) (fn := Go.Proofs.Tryz.f146) (c := b_ref01_digit) (an := a_ref01_digit) ⟨t_ref01_times, t_ref01_trim, t_ref01_compare, t_ref01_minus, trivial⟩ trivial Go.Proofs.Tryz.func146 rfl rfl (by decide) (fun _ => rfl) (by intro a K D; kernel_rfl)
noncomputable def A_ref01_back : ArgT (Sl × Int × Unit) := (ArgT.cons (Ty.leaf .sl) (ArgT.cons (Ty.leaf (.int .i64)) ArgT.nil))
noncomputable def R_ref01_back : Ty Sl := (Ty.leaf .sl)
noncomputable def e_ref01_back : FSem := mkE A_ref01_back R_ref01_back (fun a => F.ref01_back a.1 a.2.1)
noncomputable def c_ref01_back : Cfg := { P := Go.Proofs.Tryz.prog, n := 45, tab := [(116, e_ref01_trim)], mutL := [], rtL := [], locL := [] }
noncomputable def b_ref01_back : Code := match Go.Proofs.Tryz.f147.body with | some c => c | none => .skip
noncomputable def a_ref01_back : An := (.seq .leaf (.seq .leaf (.seq (.seq .leaf (.block (.loop [(6, .leaf (.int .i64))] (.seq (.seq .leaf (.cond .leaf .leaf)) (.seq (.block (.seq .leaf (.join [(7, .leaf (.int .u64))] (.seq .leaf (.cond .leaf .leaf)) .leaf))) .leaf))))) (.seq .leaf .leaf))))
theorem t_ref01_back : Entry Go.Proofs.Tryz.prog 147 e_ref01_back false :=
  entry_of (C := c_ref01_back) (fn := Go.Proofs.Tryz.f147) (c := b_ref01_back) (an := a_ref01_back) ⟨t_ref01_trim, trivial⟩ trivial Go.Proofs.Tryz.func147 rfl rfl (by decide) (fun _ => rfl) (by intro a K D; kernel_rfl)
noncomputable def A_ref01_divide : ArgT (Sl × Sl × Unit) := (ArgT.cons (Ty.leaf .sl) (ArgT.cons (Ty.leaf .sl) ArgT.nil))
noncomputable def R_ref01_divide : Ty (Sl × Sl) := (Ty.tup (.cons (Ty.leaf .sl) (.cons (Ty.leaf .sl) .nil)) (fun x => (x.1, x.2, ())) (fun y => (y.1, y.2.1)) (fun _ => rfl) (fun _ => rfl))
noncomputable def e_ref01_divide : FSem := mkE A_ref01_divide R_ref01_divide (fun a => F.ref01_divide a.1 a.2.1)
noncomputable def c_ref01_divide : Cfg := { P := Go.Proofs.Tryz.prog, n := 128, tab := [(114, e_ref01_compare), (143, e_ref01_short), (119, e_ref01_words), (144, e_ref01_by), (141, e_ref01_length), (145, e_ref01_shifted), (116, e_ref01_trim), (146, e_ref01_digit), (121, e_ref01_minus), (147, e_ref01_back)], mutL := [], rtL := [], locL := [] }
noncomputable def b_ref01_divide : Code := match Go.Proofs.Tryz.f123.body with | some c => c | none => .skip
noncomputable def a_ref01_divide : An := (.seq .leaf (.seq (.seq .leaf (.cond (.seq .leaf .leaf) .leaf)) (.seq (.seq .leaf (.cond (.seq .leaf (.seq (.draw [0, 1, 2, 4, 5, 6, 3, 7, 8, 9]) .leaf)) .leaf)) (.seq (.seq .leaf (.cond (.seq .leaf (.seq .leaf .leaf)) .leaf)) (.seq .leaf (.seq .leaf (.seq .leaf (.seq (.seq .leaf (.block (.loop [(14, .leaf (.int .i64))] (.seq (.seq .leaf (.cond .leaf .leaf)) (.seq (.block (.seq .leaf (.seq .leaf (.seq .leaf (.seq .leaf (.seq .leaf (.block (.loop [(19, .leaf (.int .i64))] (.seq (.seq .leaf (.cond .leaf .leaf)) (.join [] (.block (.seq .leaf (.seq .leaf (.cond .leaf .leaf)))) .leaf)))))))))) .leaf))))) (.seq .leaf .leaf)))))))))
theorem t_ref01_divide : Entry Go.Proofs.Tryz.prog 123 e_ref01_divide false :=
  entry_of (C := c_ref01_divide) (fn := Go.Proofs.Tryz.f123) (c := b_ref01_divide) (an := a_ref01_divide) ⟨t_ref01_compare, t_ref01_short, t_ref01_words, t_ref01_by, t_ref01_length, t_ref01_shifted, t_ref01_trim, t_ref01_digit, t_ref01_minus, t_ref01_back, trivial⟩ trivial Go.Proofs.Tryz.func123 rfl rfl (by decide) (fun _ => rfl) (by intro a K D; kernel_rfl)
noncomputable def A_ref01_GCD : ArgT (TInt × TInt × Unit) := (ArgT.cons tyTInt (ArgT.cons tyTInt ArgT.nil))
noncomputable def R_ref01_GCD : Ty TInt := tyTInt
noncomputable def e_ref01_GCD : FSem := mkE A_ref01_GCD R_ref01_GCD (fun a => F.ref01_GCD a.1 a.2.1)
noncomputable def c_ref01_GCD : Cfg := { P := Go.Proofs.Tryz.prog, n := 28, tab := [(116, e_ref01_trim), (123, e_ref01_divide), (117, e_ref01_signed)], mutL := [], rtL := [(9, 2), (12, 3)], locL := [2, 3, 4] }
noncomputable def b_ref01_GCD : Code := match Go.Proofs.Tryz.f79.body with | some c => c | none => .skip
noncomputable def a_ref01_GCD : An := (.seq .leaf (.seq (.draw [0, 1, 3, 4, 2, 5, 6, 7]) (.seq (.block (.loop [(5, .leaf (.sl)), (6, .leaf (.sl))] (.seq (.seq .leaf (.cond .leaf .leaf)) (.block (.seq .leaf .leaf))))) (.seq .leaf .leaf))))
theorem t_ref01_GCD : Entry Go.Proofs.Tryz.prog 79 e_ref01_GCD false :=
  entry_of (C := c_ref01_GCD) (fn := Go.Proofs.Tryz.f79) (c := b_ref01_GCD) (an := a_ref01_GCD) ⟨t_ref01_trim, t_ref01_divide, t_ref01_signed, trivial⟩ trivial Go.Proofs.Tryz.func79 rfl rfl (by decide) (fun _ => rfl) (by intro a K D; kernel_rfl)
noncomputable def A_ref02_one : ArgT (TInt × Unit) := (ArgT.cons tyTInt ArgT.nil)
noncomputable def R_ref02_one : Ty Bool := (Ty.leaf .bool)
noncomputable def e_ref02_one : FSem := mkE A_ref02_one R_ref02_one (fun a => F.ref02_one a.1)
noncomputable def c_ref02_one : Cfg := { P := Go.Proofs.Tryz.prog, n := 19, tab := [], mutL := [], rtL := [(3, 1), (8, 1), (15, 1)], locL := [1] }
noncomputable def b_ref02_one : Code := match Go.Proofs.Tryz.f78.body with | some c => c | none => .skip
noncomputable def a_ref02_one : An := (.seq .leaf (.seq .leaf .leaf))
theorem t_ref02_one : Entry Go.Proofs.Tryz.prog 78 e_ref02_one false :=
  entry_of (C := c_ref02_one) (fn := Go.Proofs.Tryz.f78) (c := b_ref02_one) (an := a_ref02_one) trivial trivial Go.Proofs.Tryz.func78 rfl rfl (by decide) (fun _ => rfl) (by intro a K D; kernel_rfl)
noncomputable def A_ref01_FromInt : ArgT (Int × Unit) := (ArgT.cons (Ty.leaf (.int .i64)) ArgT.nil)
noncomputable def R_ref01_FromInt : Ty TInt := tyTInt
noncomputable def e_ref01_FromInt : FSem := mkE A_ref01_FromInt R_ref01_FromInt (fun a => F.ref01_FromInt a.1)
noncomputable def c_ref01_FromInt : Cfg := { P := Go.Proofs.Tryz.prog, n := 14, tab := [(119, e_ref01_words), (117, e_ref01_signed)], mutL := [], rtL := [], locL := [2] }
noncomputable def b_ref01_FromInt : Code := match Go.Proofs.Tryz.f74.body with | some c => c | none => .skip
noncomputable def a_ref01_FromInt : An := (.seq .leaf (.seq (.seq .leaf (.cond (.seq .leaf .leaf) .leaf)) (.seq .leaf .leaf)))
theorem t_ref01_FromInt : Entry Go.Proofs.Tryz.prog 74 e_ref01_FromInt false :=
  entry_of (C := c_ref01_FromInt) (fn := Go.Proofs.Tryz.f74) (c := b_ref01_FromInt) (an := a_ref01_FromInt) ⟨t_ref01_words, t_ref01_signed, trivial⟩ trivial Go.Proofs.Tryz.func74 rfl rfl (by decide) (fun _ => rfl) (by intro a K D; kernel_rfl)
noncomputable def A_ref01_DivMod : ArgT (TInt × TInt × Unit) := (ArgT.cons tyTInt (ArgT.cons tyTInt ArgT.nil))
noncomputable def R_ref01_DivMod : Ty (TInt × TInt × Int) := (Ty.tup (.cons tyTInt (.cons tyTInt (.cons (Ty.leaf (.int .i64)) .nil))) (fun x => (x.1, x.2.1, x.2.2, ())) (fun y => (y.1, y.2.1, y.2.2.1)) (fun _ => rfl) (fun _ => rfl))
noncomputable def e_ref01_DivMod : FSem := mkE A_ref01_DivMod R_ref01_DivMod (fun a => F.ref01_DivMod a.1 a.2.1)
noncomputable def c_ref01_DivMod : Cfg := { P := Go.Proofs.Tryz.prog, n := 55, tab := [(112, e_ref01_Norm), (123, e_ref01_divide), (117, e_ref01_signed), (73, e_ref01_Mul), (142, e_ref01_Sub), (82, e_ref01_Sign), (74, e_ref01_FromInt), (75, e_ref01_Add)], mutL := [], rtL := [(15, 3), (22, 2), (24, 3), (29, 2), (31, 3)], locL := [2, 3, 4, 5, 9, 10] }
noncomputable def b_ref01_DivMod : Code := match Go.Proofs.Tryz.f124.body with | some c => c | none => .skip
noncomputable def a_ref01_DivMod : An := (.seq .leaf (.seq (.draw [0, 2, 1, 3, 4, 5]) (.seq (.seq .leaf (.cond (.seq .leaf .leaf) .leaf)) (.seq .leaf (.seq .leaf (.seq (.draw [0, 1, 2, 5, 3, 4, 6]) (.join [(9, .box [.bool, .sl]), (10, .box [.bool, .sl])] (.seq (.draw [0, 2, 1, 3, 4, 5]) (.cond (.seq (.draw [0, 1, 2, 3]) .leaf) .leaf)) (.seq (.draw [0, 1, 2, 3, 4]) .leaf))))))))
theorem t_ref01_DivMod : Entry Go.Proofs.Tryz.prog 124 e_ref01_DivMod false :=
  entry_of (C := c_ref01_DivMod) (fn := Go.Proofs.Tryz.f124) (c := b_ref01_DivMod) (an := a_ref01_DivMod) ⟨t_ref01_Norm, t_ref01_divide, t_ref01_signed, t_ref01_Mul, t_ref01_Sub, t_ref01_Sign, t_ref01_FromInt, t_ref01_Add, trivial⟩ trivial Go.Proofs.Tryz.func124 rfl rfl (by decide) (fun _ => rfl) (by intro a K D; kernel_rfl)
noncomputable def A_ref02_quo : ArgT (TInt × TInt × Unit) := (ArgT.cons tyTInt (ArgT.cons tyTInt ArgT.nil))
noncomputable def R_ref02_quo : Ty TInt := tyTInt
noncomputable def e_ref02_quo : FSem := mkE A_ref02_quo R_ref02_quo (fun a => F.ref02_quo a.1 a.2.1)
noncomputable def c_ref02_quo : Cfg := { P := Go.Proofs.Tryz.prog, n := 16, tab := [(124, e_ref01_DivMod)], mutL := [], rtL := [], locL := [2, 3, 4, 5, 6] }
noncomputable def b_ref02_quo : Code := match Go.Proofs.Tryz.f80.body with | some c => c | none => .skip
noncomputable def a_ref02_quo : An := (.seq .leaf (.seq .leaf (.seq .leaf .leaf)))
theorem t_ref02_quo : Entry Go.Proofs.Tryz.prog 80 e_ref02_quo false :=
  entry_of (C := c_ref02_quo) (fn := Go.Proofs.Tryz.f80) (c := b_ref02_quo) (an := a_ref02_quo) ⟨t_ref01_DivMod, trivial⟩ trivial Go.Proofs.Tryz.func80 rfl rfl (by decide) (fun _ => rfl) (by intro a K D; kernel_rfl)
noncomputable def A_ref02_Add : ArgT (TRat × TRat × Unit) := (ArgT.cons tyTRat (ArgT.cons tyTRat ArgT.nil))
noncomputable def R_ref02_Add : Ty TRat := tyTRat
noncomputable def e_ref02_Add : FSem := mkE A_ref02_Add R_ref02_Add (fun a => F.ref02_Add a.1 a.2.1)
noncomputable def c_ref02_Add : Cfg := { P := Go.Proofs.Tryz.prog, n := 94, tab := [(79, e_ref01_GCD), (78, e_ref02_one), (73, e_ref01_Mul), (75, e_ref01_Add), (80, e_ref02_quo)], mutL := [], rtL := [(11, 2), (12, 2), (17, 3), (18, 3), (23, 2), (27, 3), (31, 2), (33, 3), (36, 2), (39, 2), (41, 3), (46, 2), (48, 3), (51, 3), (53, 2), (58, 2), (60, 3), (64, 2), (68, 3), (72, 2), (76, 3), (88, 3)], locL := [2, 3, 4, 5, 6, 7, 8, 9, 10] }
noncomputable def b_ref02_Add : Code := match Go.Proofs.Tryz.f25.body with | some c => c | none => .skip
noncomputable def a_ref02_Add : An := (.seq .leaf (.seq (.seq .leaf (.cond (.seq .leaf .leaf) .leaf)) (.seq (.seq .leaf (.cond (.seq .leaf .leaf) .leaf)) (.join [(4, .box [.bool, .sl, .bool, .sl])] (.seq .leaf (.cond (.seq (.draw [0, 1, 2, 3, 5, 6, 4, 7, 8]) .leaf) .leaf)) (.seq .leaf (.seq (.seq .leaf (.cond (.seq (.draw [0, 1, 2, 3, 5, 6, 7, 8, 11, 4, 9, 10, 12]) (.seq (.draw [0, 1, 2, 3, 4, 5, 6, 7]) .leaf)) .leaf)) (.seq (.draw [0, 1, 2, 4, 5, 6, 8, 9, 3, 7, 10, 11]) (.seq (.draw [0, 1, 2, 4, 5, 6, 9, 3, 7, 8, 10]) (.seq .leaf (.seq (.draw [0, 1, 3, 4, 5, 6, 2, 7, 8, 9, 10]) .leaf))))))))))
theorem t_ref02_Add : Entry Go.Proofs.Tryz.prog 25 e_ref02_Add false :=
  entry_of (C := c_ref02_Add) (fn := Go.Proofs.Tryz.f25) (c := b_ref02_Add) (an := a_ref02_Add) ⟨t_ref01_GCD, t_ref02_one, t_ref01_Mul, t_ref01_Add, t_ref02_quo, trivial⟩ trivial Go.Proofs.Tryz.func25 rfl rfl (by decide) (fun _ => rfl) (by intro a K D; kernel_rfl)
noncomputable def A_ref02_Neg : ArgT (TRat × Unit) := (ArgT.cons tyTRat ArgT.nil)
noncomputable def R_ref02_Neg : Ty TRat := tyTRat
noncomputable def e_ref02_Neg : FSem := mkE A_ref02_Neg R_ref02_Neg (fun a => F.ref02_Neg a.1)
noncomputable def c_ref02_Neg : Cfg := { P := Go.Proofs.Tryz.prog, n := 9, tab := [(83, e_ref01_Neg)], mutL := [], rtL := [(3, 1), (6, 1)], locL := [1, 2] }
noncomputable def b_ref02_Neg : Code := match Go.Proofs.Tryz.f32.body with | some c => c | none => .skip
noncomputable def a_ref02_Neg : An := (.seq .leaf (.seq (.draw [0, 1, 3, 4, 2, 5, 6]) .leaf))
theorem t_ref02_Neg : Entry Go.Proofs.Tryz.prog 32 e_ref02_Neg false :=
  entry_of (C := c_ref02_Neg) (fn := Go.Proofs.Tryz.f32) (c := b_ref02_Neg) (an := a_ref02_Neg) ⟨t_ref01_Neg, trivial⟩ trivial Go.Proofs.Tryz.func32 rfl rfl (by decide) (fun _ => rfl) (by intro a K D; kernel_rfl)
noncomputable def A_ref02_Sub : ArgT (TRat × TRat × Unit) := (ArgT.cons tyTRat (ArgT.cons tyTRat ArgT.nil))
noncomputable def R_ref02_Sub : Ty TRat := tyTRat
noncomputable def e_ref02_Sub : FSem := mkE A_ref02_Sub R_ref02_Sub (fun a => F.ref02_Sub a.1 a.2.1)
noncomputable def c_ref02_Sub : Cfg := { P := Go.Proofs.Tryz.prog, n := 9, tab := [(32, e_ref02_Neg), (25, e_ref02_Add)], mutL := [], rtL := [], locL := [2, 3, 4] }
noncomputable def b_ref02_Sub : Code := match Go.Proofs.Tryz.f27.body with | some c => c | none => .skip
noncomputable def a_ref02_Sub : An := (.seq .leaf (.seq (.draw [0, 1, 2, 3, 4]) .leaf))
theorem t_ref02_Sub : Entry Go.Proofs.Tryz.prog 27 e_ref02_Sub false :=
  entry_of (C := c_ref02_Sub) (fn := Go.Proofs.Tryz.f27) (c := b_ref02_Sub) (an := a_ref02_Sub) ⟨t_ref02_Neg, t_ref02_Add, trivial⟩ trivial Go.Proofs.Tryz.func27 rfl rfl (by decide) (fun _ => rfl) (by intro a K D; kernel_rfl)
noncomputable def A_ref02_FromInt : ArgT (Int × Unit) := (ArgT.cons (Ty.leaf (.int .i64)) ArgT.nil)
noncomputable def R_ref02_FromInt : Ty TRat := tyTRat
noncomputable def e_ref02_FromInt : FSem := mkE A_ref02_FromInt R_ref02_FromInt (fun a => F.ref02_FromInt a.1)
noncomputable def c_ref02_FromInt : Cfg := { P := Go.Proofs.Tryz.prog, n := 7, tab := [(74, e_ref01_FromInt)], mutL := [], rtL := [], locL := [2] }
noncomputable def b_ref02_FromInt : Code := match Go.Proofs.Tryz.f48.body with | some c => c | none => .skip
noncomputable def a_ref02_FromInt : An := (.seq .leaf (.seq .leaf .leaf))
theorem t_ref02_FromInt : Entry Go.Proofs.Tryz.prog 48 e_ref02_FromInt false :=
  entry_of (C := c_ref02_FromInt) (fn := Go.Proofs.Tryz.f48) (c := b_ref02_FromInt) (an := a_ref02_FromInt) ⟨t_ref01_FromInt, trivial⟩ trivial Go.Proofs.Tryz.func48 rfl rfl (by decide) (fun _ => rfl) (by intro a K D; kernel_rfl)
noncomputable def A_ref02_Mul : ArgT (TRat × TRat × Unit) := (ArgT.cons tyTRat (ArgT.cons tyTRat ArgT.nil))
noncomputable def R_ref02_Mul : Ty TRat := tyTRat
noncomputable def e_ref02_Mul : FSem := mkE A_ref02_Mul R_ref02_Mul (fun a => F.ref02_Mul a.1 a.2.1)
noncomputable def c_ref02_Mul : Cfg := { P := Go.Proofs.Tryz.prog, n := 65, tab := [(79, e_ref01_GCD), (80, e_ref02_quo), (73, e_ref01_Mul), (78, e_ref02_one), (48, e_ref02_FromInt)], mutL := [], rtL := [(7, 2), (8, 2), (13, 3), (14, 3), (20, 2), (24, 3), (28, 2), (30, 3), (33, 2), (36, 2), (38, 3), (41, 3), (43, 2), (46, 2), (50, 3), (55, 2), (59, 3)], locL := [2, 3, 4, 5, 6] }
noncomputable def b_ref02_Mul : Code := match Go.Proofs.Tryz.f28.body with | some c => c | none => .skip
noncomputable def a_ref02_Mul : An := (.seq .leaf (.join [(4, .box [.bool, .sl, .bool, .sl])] (.seq .leaf (.cond (.seq .leaf .leaf) .leaf)) (.join [(4, .box [.bool, .sl, .bool, .sl])] (.seq .leaf (.cond (.seq (.draw [0, 1, 2, 3, 5, 6, 4, 7, 8]) .leaf) .leaf)) (.seq (.draw [0, 1, 2, 3, 5, 6, 7, 8, 10, 11, 4, 9, 12, 13]) (.seq (.draw [0, 1, 2, 4, 5, 6, 9, 10, 11, 13, 14, 15, 3, 7, 8, 12, 16, 17, 18, 19]) .leaf)))))
theorem t_ref02_Mul : Entry Go.Proofs.Tryz.prog 28 e_ref02_Mul false :=
  entry_of (C := c_ref02_Mul) (fn := Go.Proofs.Tryz.f28) (c := b_ref02_Mul) (an := a_ref02_Mul) ⟨t_ref01_GCD, t_ref02_quo, t_ref01_Mul, t_ref02_one, t_ref02_FromInt, trivial⟩ trivial Go.Proofs.Tryz.func28 rfl rfl (by decide) (fun _ => rfl) (by intro a K D; kernel_rfl)
noncomputable def A_ref03_ends : ArgT (TInterval × TInterval × Int × Unit) := (ArgT.cons tyTInterval (ArgT.cons tyTInterval (ArgT.cons (Ty.leaf (.int .i64)) ArgT.nil)))
noncomputable def R_ref03_ends : Ty Sl := (Ty.leaf .sl)
noncomputable def e_ref03_ends : FSem := mkE A_ref03_ends R_ref03_ends (fun a => F.ref03_ends a.1 a.2.1 a.2.2.1)
noncomputable def c_ref03_ends : Cfg := { P := Go.Proofs.Tryz.prog, n := 72, tab := [(25, e_ref02_Add), (27, e_ref02_Sub), (28, e_ref02_Mul)], mutL := [], rtL := [(12, 3), (14, 3), (17, 4), (19, 4)], locL := [3, 4, 41, 55, 69] }
noncomputable def b_ref03_ends : Code := match Go.Proofs.Tryz.f57.body with | some c => c | none => .skip
noncomputable def a_ref03_ends : An := (.seq .leaf (.seq .leaf (.seq (.draw [0, 1, 2, 3, 5, 6, 7, 8, 4, 10, 9, 11]) (.seq (.seq .leaf (.block (.loop [(7, .leaf (.sl)), (10, .leaf (.int .i64))] (.seq (.seq .leaf (.cond .leaf .leaf)) (.seq (.block (.seq .leaf (.block (.loop [(7, .leaf (.sl)), (11, .leaf (.int .i64))] (.seq (.seq .leaf (.cond .leaf .leaf)) (.join [(7, .leaf (.sl))] (.block (.seq .leaf (.block (.seq .leaf (.cond (.draw [0, 1, 2, 3, 4, 5, 6, 7, 8, 9, 10, 11, 12]) (.seq .leaf (.cond (.draw [0, 1, 2, 3, 4, 5, 6, 7, 8, 9, 10, 11, 12]) (.draw [0, 1, 2, 3, 4, 5, 6, 7, 8, 9, 10, 11, 12])))))))) .leaf)))))) .leaf))))) (.seq .leaf .leaf)))))
theorem t_ref03_ends : Entry Go.Proofs.Tryz.prog 57 e_ref03_ends false :=
  entry_of (C := c_ref03_ends) (fn := Go.Proofs.Tryz.f57) (c := b_ref03_ends) (an := a_ref03_ends) ⟨t_ref02_Add, t_ref02_Sub, t_ref02_Mul, trivial⟩ trivial Go.Proofs.Tryz.func57 rfl rfl (by decide) (fun _ => rfl) (by intro a K D; kernel_rfl)
noncomputable def A_ref03_Mul : ArgT (TInterval × TInterval × Unit) := (ArgT.cons tyTInterval (ArgT.cons tyTInterval ArgT.nil))
noncomputable def R_ref03_Mul : Ty TInterval := tyTInterval
noncomputable def e_ref03_Mul : FSem := mkE A_ref03_Mul R_ref03_Mul (fun a => F.ref03_Mul a.1 a.2.1)
noncomputable def c_ref03_Mul : Cfg := { P := Go.Proofs.Tryz.prog, n := 9, tab := [(57, e_ref03_ends), (53, e_ref03_Hull)], mutL := [], rtL := [], locL := [2, 3, 4] }
noncomputable def b_ref03_Mul : Code := match Go.Proofs.Tryz.f18.body with | some c => c | none => .skip
noncomputable def a_ref03_Mul : An := (.seq .leaf (.seq .leaf .leaf))
theorem t_ref03_Mul : Entry Go.Proofs.Tryz.prog 18 e_ref03_Mul false :=
  entry_of (C := c_ref03_Mul) (fn := Go.Proofs.Tryz.f18) (c := b_ref03_Mul) (an := a_ref03_Mul) ⟨t_ref03_ends, t_ref03_Hull, trivial⟩ trivial Go.Proofs.Tryz.func18 rfl rfl (by decide) (fun _ => rfl) (by intro a K D; kernel_rfl)
noncomputable def A_ref02_Sign : ArgT (TRat × Unit) := (ArgT.cons tyTRat ArgT.nil)
noncomputable def R_ref02_Sign : Ty Int := (Ty.leaf (.int .i64))
noncomputable def e_ref02_Sign : FSem := mkE A_ref02_Sign R_ref02_Sign (fun a => F.ref02_Sign a.1)
noncomputable def c_ref02_Sign : Cfg := { P := Go.Proofs.Tryz.prog, n := 6, tab := [(82, e_ref01_Sign)], mutL := [], rtL := [(3, 1)], locL := [1] }
noncomputable def b_ref02_Sign : Code := match Go.Proofs.Tryz.f31.body with | some c => c | none => .skip
noncomputable def a_ref02_Sign : An := (.seq .leaf (.seq .leaf .leaf))
theorem t_ref02_Sign : Entry Go.Proofs.Tryz.prog 31 e_ref02_Sign false :=
  entry_of (C := c_ref02_Sign) (fn := Go.Proofs.Tryz.f31) (c := b_ref02_Sign) (an := a_ref02_Sign) ⟨t_ref01_Sign, trivial⟩ trivial Go.Proofs.Tryz.func31 rfl rfl (by decide) (fun _ => rfl) (by intro a K D; kernel_rfl)
noncomputable def A_ref03_Div : ArgT (TInterval × TInterval × Unit) := (ArgT.cons tyTInterval (ArgT.cons tyTInterval ArgT.nil))
noncomputable def R_ref03_Div : Ty (TInterval × Int) := (Ty.tup (.cons tyTInterval (.cons (Ty.leaf (.int .i64)) .nil)) (fun x => (x.1, x.2, ())) (fun y => (y.1, y.2.1)) (fun _ => rfl) (fun _ => rfl))
noncomputable def e_ref03_Div : FSem := mkE A_ref03_Div R_ref03_Div (fun a => F.ref03_Div a.1 a.2.1)
noncomputable def c_ref03_Div : Cfg := { P := Go.Proofs.Tryz.prog, n := 27, tab := [(54, e_ref02_Inv), (53, e_ref03_Hull), (18, e_ref03_Mul), (31, e_ref02_Sign)], mutL := [], rtL := [(6, 3), (11, 3), (18, 3), (21, 3)], locL := [2, 3, 4] }
noncomputable def b_ref03_Div : Code := match Go.Proofs.Tryz.f15.body with | some c => c | none => .skip
noncomputable def a_ref03_Div : An := (.seq .leaf (.join [(4, .box [.bool, .sl, .bool, .sl, .bool, .sl, .bool, .sl])] (.seq .leaf (.cond (.seq .leaf .leaf) .leaf)) (.seq (.draw [0, 1, 2, 4, 5, 3, 6, 7, 8, 9, 10, 11]) .leaf)))
theorem t_ref03_Div : Entry Go.Proofs.Tryz.prog 15 e_ref03_Div false :=
  entry_of (C := c_ref03_Div) (fn := Go.Proofs.Tryz.f15) (c := b_ref03_Div) (an := a_ref03_Div) ⟨t_ref02_Inv, t_ref03_Hull, t_ref03_Mul, t_ref02_Sign, trivial⟩ trivial Go.Proofs.Tryz.func15 rfl rfl (by decide) (fun _ => rfl) (by intro a K D; kernel_rfl)
noncomputable def A_ref02_SameInt : ArgT (TInt × TInt × Unit) := (ArgT.cons tyTInt (ArgT.cons tyTInt ArgT.nil))
noncomputable def R_ref02_SameInt : Ty Bool := (Ty.leaf .bool)
noncomputable def e_ref02_SameInt : FSem := mkE A_ref02_SameInt R_ref02_SameInt (fun a => F.ref02_SameInt a.1 a.2.1)
noncomputable def c_ref02_SameInt : Cfg := { P := Go.Proofs.Tryz.prog, n := 38, tab := [], mutL := [], rtL := [(6, 2), (8, 3), (12, 2), (15, 3), (21, 2), (27, 2), (32, 3)], locL := [2, 3] }
noncomputable def b_ref02_SameInt : Code := match Go.Proofs.Tryz.f84.body with | some c => c | none => .skip
noncomputable def a_ref02_SameInt : An := (.seq .leaf (.join [] (.seq .leaf (.cond (.seq .leaf .leaf) .leaf)) (.seq (.seq .leaf (.block (.loop [(5, .leaf (.int .i64))] (.seq (.seq .leaf (.cond .leaf .leaf)) (.seq (.block (.seq (.draw [0, 1, 2, 3, 4, 5, 6, 7, 8, 9, 10]) (.cond (.seq .leaf .leaf) .leaf))) .leaf))))) (.seq .leaf .leaf))))
theorem t_ref02_SameInt : Entry Go.Proofs.Tryz.prog 84 e_ref02_SameInt false :=
  entry_of (C := c_ref02_SameInt) (fn := Go.Proofs.Tryz.f84) (c := b_ref02_SameInt) (an := a_ref02_SameInt) trivial trivial Go.Proofs.Tryz.func84 rfl rfl (by decide) (fun _ => rfl) (by intro a K D; kernel_rfl)
noncomputable def A_ref02_Same : ArgT (TRat × TRat × Unit) := (ArgT.cons tyTRat (ArgT.cons tyTRat ArgT.nil))
noncomputable def R_ref02_Same : Ty Bool := (Ty.leaf .bool)
noncomputable def e_ref02_Same : FSem := mkE A_ref02_Same R_ref02_Same (fun a => F.ref02_Same a.1 a.2.1)
noncomputable def c_ref02_Same : Cfg := { P := Go.Proofs.Tryz.prog, n := 17, tab := [(84, e_ref02_SameInt)], mutL := [], rtL := [(5, 2), (7, 3), (11, 2), (13, 3)], locL := [2, 3] }
noncomputable def b_ref02_Same : Code := match Go.Proofs.Tryz.f35.body with | some c => c | none => .skip
noncomputable def a_ref02_Same : An := (.seq .leaf (.seq .leaf .leaf))
theorem t_ref02_Same : Entry Go.Proofs.Tryz.prog 35 e_ref02_Same false :=
  entry_of (C := c_ref02_Same) (fn := Go.Proofs.Tryz.f35) (c := b_ref02_Same) (an := a_ref02_Same) ⟨t_ref02_SameInt, trivial⟩ trivial Go.Proofs.Tryz.func35 rfl rfl (by decide) (fun _ => rfl) (by intro a K D; kernel_rfl)
noncomputable def A_ref03_Same : ArgT (TInterval × TInterval × Unit) := (ArgT.cons tyTInterval (ArgT.cons tyTInterval ArgT.nil))
noncomputable def R_ref03_Same : Ty Bool := (Ty.leaf .bool)
noncomputable def e_ref03_Same : FSem := mkE A_ref03_Same R_ref03_Same (fun a => F.ref03_Same a.1 a.2.1)
noncomputable def c_ref03_Same : Cfg := { P := Go.Proofs.Tryz.prog, n := 17, tab := [(35, e_ref02_Same)], mutL := [], rtL := [(5, 2), (7, 3), (11, 2), (13, 3)], locL := [2, 3] }
noncomputable def b_ref03_Same : Code := match Go.Proofs.Tryz.f16.body with | some c => c | none => .skip
noncomputable def a_ref03_Same : An := (.seq .leaf (.seq .leaf .leaf))
theorem t_ref03_Same : Entry Go.Proofs.Tryz.prog 16 e_ref03_Same false :=
  entry_of (C := c_ref03_Same) (fn := Go.Proofs.Tryz.f16) (c := b_ref03_Same) (an := a_ref03_Same) ⟨t_ref02_Same, trivial⟩ trivial Go.Proofs.Tryz.func16 rfl rfl (by decide) (fun _ => rfl) (by intro a K D; kernel_rfl)
noncomputable def A_ref03_Zero : ArgT (TInterval × Unit) := (ArgT.cons tyTInterval ArgT.nil)
noncomputable def R_ref03_Zero : Ty Bool := (Ty.leaf .bool)
noncomputable def e_ref03_Zero : FSem := mkE A_ref03_Zero R_ref03_Zero (fun a => F.ref03_Zero a.1)
noncomputable def c_ref03_Zero : Cfg := { P := Go.Proofs.Tryz.prog, n := 55, tab := [], mutL := [], rtL := [(3, 1), (4, 1), (5, 1), (8, 1), (9, 1), (10, 1), (14, 1), (15, 1), (16, 1), (20, 1), (21, 1), (22, 1), (28, 1), (29, 1), (30, 1), (35, 1), (36, 1), (37, 1), (42, 1), (43, 1), (44, 1), (49, 1), (50, 1), (51, 1)], locL := [1] }
noncomputable def b_ref03_Zero : Code := match Go.Proofs.Tryz.f19.body with | some c => c | none => .skip
noncomputable def a_ref03_Zero : An := (.seq .leaf (.seq .leaf .leaf))
theorem t_ref03_Zero : Entry Go.Proofs.Tryz.prog 19 e_ref03_Zero false :=
  entry_of (C := c_ref03_Zero) (fn := Go.Proofs.Tryz.f19) (c := b_ref03_Zero) (an := a_ref03_Zero) trivial trivial Go.Proofs.Tryz.func19 rfl rfl (by decide) (fun _ => rfl) (by intro a K D; kernel_rfl)
noncomputable def A_interval_Point : ArgT (TRat × Unit) := (ArgT.cons tyTRat ArgT.nil)
noncomputable def R_interval_Point : Ty TInterval := tyTInterval
noncomputable def e_interval_Point : FSem := mkE A_interval_Point R_interval_Point (fun a => F.interval_Point a.1)
noncomputable def c_interval_Point : Cfg := { P := Go.Proofs.Tryz.prog, n := 7, tab := [(55, e_interval_hull)], mutL := [], rtL := [], locL := [1, 2] }
noncomputable def b_interval_Point : Code := match Go.Proofs.Tryz.f30.body with | some c => c | none => .skip
noncomputable def a_interval_Point : An := (.seq .leaf (.seq .leaf .leaf))
theorem t_interval_Point : Entry Go.Proofs.Tryz.prog 30 e_interval_Point false :=
  entry_of (C := c_interval_Point) (fn := Go.Proofs.Tryz.f30) (c := b_interval_Point) (an := a_interval_Point) ⟨t_interval_hull, trivial⟩ trivial Go.Proofs.Tryz.func30 rfl rfl (by decide) (fun _ => rfl) (by intro a K D; kernel_rfl)
noncomputable def A_interval_power : ArgT (Int × Unit) := (ArgT.cons (Ty.leaf (.int .i64)) ArgT.nil)
noncomputable def R_interval_power : Ty TInt := tyTInt
noncomputable def e_interval_power : FSem := mkE A_interval_power R_interval_power (fun a => F.interval_power a.1)
noncomputable def c_interval_power : Cfg := { P := Go.Proofs.Tryz.prog, n := 17, tab := [], mutL := [], rtL := [], locL := [2] }
noncomputable def b_interval_power : Code := match Go.Proofs.Tryz.f59.body with | some c => c | none => .skip
noncomputable def a_interval_power : An := (.seq .leaf (.seq .leaf (.seq .leaf (.seq .leaf .leaf))))
theorem t_interval_power : Entry Go.Proofs.Tryz.prog 59 e_interval_power false :=
  entry_of (C := c_interval_power) (fn := Go.Proofs.Tryz.f59) (c := b_interval_power) (an := a_interval_power) trivial trivial Go.Proofs.Tryz.func59 rfl rfl (by decide) (fun _ => rfl) (by intro a K D; kernel_rfl)
end Den
end
