/-
  Part 5 of the tools and contracts from which the statement is proved.
-/
import Derived.Test.YtlddjhibbccljaaGreatPartc4
import Derived.Test.YtlddjhibbccljaaGreatChecked
import Derived.Lib.Bytealg
set_option linter.unusedVariables false
section
/-
  Intervals: signs, meets, rounding, square roots (the program's and the reference's).
-/
set_option linter.unusedVariables false
namespace Iv
open Den
/-- t is the least number whose square is not less than m / n. -/
def UP (m n : Int) (t : Nat) : Prop := m ≤ (t : Int) * t * n ∧ (t = 0 ∨ ∃ s : Nat, t = s + 1 ∧ (s : Int) * s * n < m)
theorem UP.uniq {m n : Int} {t u : Nat} (hn : 0 < n) (h1 : UP m n t) (h2 : UP m n u) : t = u := by
  have key : ∀ {t u : Nat}, UP m n t → UP m n u → ¬ t < u := fun {t u} h1 h2 hlt => by
    rcases h2.2 with h3 | ⟨s, h3, h4⟩
    · omega
    · have h5 : (t : Int) * t ≤ (s : Int) * s := by
        have : t * t ≤ s * s := Nat.mul_le_mul (by omega) (by omega)
        exact_mod_cast this
      have h6 := Int.mul_le_mul_of_nonneg_right h5 (Int.le_of_lt hn)
      have := h1.1
      omega
  have k1 := key h1 h2
  have k2 := key h2 h1
  omega
theorem up_ceil {m n c : Int} {s : Nat} (hn : 0 < n) (hc1 : m ≤ c * n) (hc2 : (c - 1) * n < m) (h1 : (s : Int) * s ≤ c) (h2 : c < ((s : Int) + 1) * (s + 1)) :
    UP m n (if (s : Int) * s < c then s + 1 else s) := by
  split
  · rename_i h
    refine ⟨?_, .inr ⟨s, rfl, ?_⟩⟩
    · have : c * n ≤ (((s + 1 : Nat) : Int) * ((s + 1 : Nat) : Int)) * n := Int.mul_le_mul_of_nonneg_right (by simp only [Int.natCast_add, Int.natCast_one]; omega) (Int.le_of_lt hn)
      omega
    · have : (s : Int) * s * n ≤ (c - 1) * n := Int.mul_le_mul_of_nonneg_right (by omega) (Int.le_of_lt hn)
      omega
  · rename_i h
    have he : (s : Int) * s = c := by omega
    refine ⟨by rw [he]; exact hc1, ?_⟩
    rcases Nat.eq_zero_or_pos s with h0 | h0
    · exact .inl h0
    · obtain ⟨r, rfl⟩ : ∃ r, s = r + 1 := ⟨s - 1, by omega⟩
      refine .inr ⟨r, rfl, ?_⟩
      have h3 : (r : Int) * r ≤ c - 1 := by
        rw [← he]
        simp only [Int.natCast_add, Int.natCast_one]
        have : 0 ≤ (r : Int) := by omega
        rw [Int.add_mul, Int.mul_add]; omega
      have := Int.mul_le_mul_of_nonneg_right h3 (Int.le_of_lt hn)
      omega
theorem up_floor {m n f : Int} {s : Nat} (hn : 0 < n) (hf1 : f * n ≤ m) (hf2 : m < (f + 1) * n) (h1 : (s : Int) * s ≤ f) (h2 : f < ((s : Int) + 1) * (s + 1)) :
    UP m n (if (s : Int) * s * n < m then s + 1 else s) := by
  split
  · rename_i h
    refine ⟨?_, .inr ⟨s, rfl, h⟩⟩
    have : (f + 1) * n ≤ (((s + 1 : Nat) : Int) * ((s + 1 : Nat) : Int)) * n := Int.mul_le_mul_of_nonneg_right (by simp only [Int.natCast_add, Int.natCast_one]; omega) (Int.le_of_lt hn)
    omega
  · rename_i h
    refine ⟨by omega, ?_⟩
    rcases Nat.eq_zero_or_pos s with h0 | h0
    · exact .inl h0
    · obtain ⟨r, rfl⟩ : ∃ r, s = r + 1 := ⟨s - 1, by omega⟩
      refine .inr ⟨r, rfl, ?_⟩
      have h3 : (r : Int) * r < ((r + 1 : Nat) : Int) * ((r + 1 : Nat) : Int) := by
        simp only [Int.natCast_add, Int.natCast_one]
        have : 0 ≤ (r : Int) := by omega
        rw [Int.add_mul, Int.mul_add]; omega
      have h4 := Int.mul_lt_mul_of_pos_right h3 hn
      have h5 := Int.mul_le_mul_of_nonneg_right h1 (Int.le_of_lt hn)
      omega
theorem floor_divInt {m n : Int} (hn : 0 < n) : (Rat.divInt m n).floor = m / n := by
  have h1 := (rat_cross (q := Rat.divInt m n) (by omega : n ≠ 0)).1 rfl
  rw [Rat.floor_def]
  have hd := Den.dpos (Rat.divInt m n)
  generalize (Rat.divInt m n).num = N at *
  generalize ((Rat.divInt m n).den : Int) = D at *
  have e1 : N / D = (N * n) / (D * n) := (Int.mul_ediv_mul_of_pos_left N D hn).symm
  have e2 : m / n = (m * D) / (n * D) := (Int.mul_ediv_mul_of_pos_left m n hd).symm
  rw [e1, e2, h1, Int.mul_comm D n]
/-- A product with a whole number. -/
theorem mul_whole (p : Rat) (N : Int) : p * (Rat.divInt N 1) = Rat.divInt (p.num * N) p.den := by
  have := Rat.divInt_mul_divInt p.num N (d₁ := p.den) (d₂ := 1)
  rw [Rat.num_divInt_den, Int.mul_one] at this
  exact this
theorem whole_num (N : Int) : (Rat.divInt N 1).num = N ∧ ((Rat.divInt N 1).den : Int) = 1 := by
  have h := rat_eq (n := N) (d := 1) (q := Rat.divInt N 1) (by decide) (Nat.coprime_one_right _) ((rat_cross (q := Rat.divInt N 1) (by decide : (1 : Int) ≠ 0)).1 rfl)
  exact ⟨h.1.symm, h.2.symm⟩
theorem whole_mul (M N : Int) : Rat.divInt M 1 * Rat.divInt N 1 = Rat.divInt (M * N) 1 := by
  have := Rat.divInt_mul_divInt M N (d₁ := 1) (d₂ := 1)
  rw [Int.mul_one] at this
  exact this
theorem whole_lt {x m n : Int} (hn : 0 < n) : Rat.divInt x 1 < Rat.divInt m n ↔ x * n < m := by
  rw [Rat.lt_iff]
  have h1 := whole_num x
  rw [h1.1, h1.2, Int.mul_one]
  have h2 := (rat_cross (q := Rat.divInt m n) (by omega : n ≠ 0)).1 rfl
  have hd := Den.dpos (Rat.divInt m n)
  generalize (Rat.divInt m n).num = N at *
  generalize ((Rat.divInt m n).den : Int) = D at *
  constructor
  · intro h
    have h3 := Int.mul_lt_mul_of_pos_right h hn
    have h4 : x * n * D < m * D := by rw [h2, Int.mul_right_comm]; exact h3
    exact Int.lt_of_mul_lt_mul_right h4 (Int.le_of_lt hd)
  · intro h
    have h3 := Int.mul_lt_mul_of_pos_right h hd
    rw [h2, Int.mul_right_comm] at h3
    exact Int.lt_of_mul_lt_mul_right h3 (Int.le_of_lt hn)
end Iv
end

section
/-
  Intervals: signs, meets, rounding, square roots.
-/
set_option linter.unusedVariables false
namespace Den
open Go Iv
section
variable {h : Hp} {a b : TInterval} {x : TRat} {y : TInt} {p al au bl bu : Rat} {N : Int} {j k : Nat} {Ki : Int → Hp → Prop} {Kb : Bool → Hp → Prop} {KI : TInt → Hp → Prop} {KR : TRat → Hp → Prop} {KV : TInterval → Hp → Prop} {KVE : (TInterval × Int) → Hp → Prop} {KIB : (Int × Bool) → Hp → Prop} {KVB : (TInterval × Bool) → Hp → Prop}

def signV (al au : Rat) : Int × Bool := if al.num.sign = au.num.sign then (al.num.sign, true) else (0, false)
theorem iSign_call (ha : NV h a al au) (b1 : BR j al) (b2 : BR j au) (hj : j ≤ 1000000) (H : KIB (signV al au) h) : callP (F.interval_Sign a) KIB h := by
  refine callP_same _ (fun K' hk => ?_) H
  unfold F.interval_Sign
  unfold signV at hk
  refine qSign_call ha.1 b1 (by omega) (qSign_call ha.2 b2 (by omega) (ifP_eq (fun h1 => ?_) (fun h1 => ?_)))
  · rw [if_pos h1] at hk; exact hk
  · rw [if_neg h1] at hk; exact hk
theorem riSign_call (ha : NV h a al au) (b1 : BR j al) (b2 : BR j au) (hj : j ≤ 1000000) (H : KIB (signV al au) h) : callP (F.ref03_Sign a) KIB h := by
  refine callP_same _ (fun K' hk => ?_) H
  unfold F.ref03_Sign
  unfold signV at hk
  refine rqSign_call ha.1 b1 (by omega) (rqSign_call ha.2 b2 (by omega) (ifP_ne (fun h1 => ?_) (fun h1 => ?_)))
  · rw [if_neg h1] at hk; exact hk
  · rw [if_pos h1] at hk; exact hk

def meetL (al bl : Rat) : Rat := if al < bl then bl else al
def meetU (au bu : Rat) : Rat := if bu < au then bu else au
theorem meetL_BR (b1 : BR j al) (b3 : BR j bl) : BR j (meetL al bl) := by unfold meetL; split <;> assumption
theorem meetU_BR (b2 : BR j au) (b4 : BR j bu) : BR j (meetU au bu) := by unfold meetU; split <;> assumption
theorem iMeet_call (ha : NV h a al au) (hb : NV h b bl bu) (b1 : BR j al) (b2 : BR j au) (b3 : BR j bl) (b4 : BR j bu) (hj : j ≤ 300000)
    (H0 : meetU au bu < meetL al bl → ∀ h', h.le h' → KVB (zeroV, false) h')
    (H : meetL al bl ≤ meetU au bu → ∀ z h', h.le h' → NV h' z (meetL al bl) (meetU au bu) → KVB (z, true) h') : callP (F.interval_Meet a b) KVB h := by
  refine callP_of (fun v h' => (meetU au bu < meetL al bl ∧ v = (zeroV, false)) ∨ (meetL al bl ≤ meetU au bu ∧ NV h' v.1 (meetL al bl) (meetU au bu) ∧ v.2 = true)) (fun K' hk => ?_) fun ⟨z, c⟩ h' hl hv => ?_
  · unfold F.interval_Meet
    refine joinP_inv (fun s h' => h.le h' ∧ NR h' (q4 s.1) (meetL al bl)) ?_ ?_
    · rintro s1 h1 ⟨hl1, hs1⟩
      refine joinP_inv (fun s h' => h1.le h' ∧ NR h' (q4 s.1) (meetU au bu)) ?_ ?_
      · rintro s2 h2 ⟨hl2, hs2⟩
        have hl12 := Hp.le_trans hl1 hl2
        refine qCmp_call (hs1.le hl2) hs2 (meetL_BR b1 b3) (meetU_BR b2 b4) (by omega) (by omega) fun h3 hl3 => ?_
        refine ifP_dec (fun h4 => hk _ _ (Hp.le_trans hl12 hl3) (.inl ⟨cmpQ_gt.1 h4, rfl⟩)) (fun h4 => ?_)
        refine new_rats (xs := [q4 s1.1, q4 s2.1]) 2 rfl fun p5 h5 hl5 hp5 => ?_
        have hl35 := Hp.le_trans hl3 hl5
        have hle : meetL al bl ≤ meetU au bu := by
          rcases Rat.le_total (a := meetL al bl) (b := meetU au bu) with h6 | h6
          · exact h6
          · have : ¬ meetU au bu < meetL al bl := fun hh => h4 (cmpQ_gt.2 hh)
            grind
        refine hull_call (B := j) (v0 := meetL al bl) (vs := [meetU au bu]) hp5 (QL.cons (hs1.le (Hp.le_trans hl2 hl35)) (meetL_BR b1 b3) (QL.cons (hs2.le hl35) (meetU_BR b2 b4) QL.nil)) (by omega) (by simp) (Nat.le_refl _) fun z h6 hl6 hz => hk _ _ (Hp.le_trans hl12 (Hp.le_trans hl35 hl6)) (.inr ⟨hle, ?_, rfl⟩)
        have e1 : [meetU au bu].foldl loS (meetL al bl) = meetL al bl := by simp only [List.foldl_cons, List.foldl_nil, loS]; split <;> grind
        have e2 : [meetU au bu].foldl hiS (meetL al bl) = meetU au bu := by simp only [List.foldl_cons, List.foldl_nil, hiS]; split <;> grind
        rw [e1, e2] at hz; exact hz
      · refine qCmp_call (hb.2.le hl1) (ha.2.le hl1) b4 b2 (by omega) (by omega) fun h3 hl3 => ?_
        have hl13 := Hp.le_trans hl1 hl3
        refine ifP_dec (fun h4 => ⟨hl3, ?_⟩) (fun h4 => ⟨hl3, ?_⟩)
        · rw [meetU, if_pos (cmpQ_lt.1 h4)]; exact hb.2.le hl13
        · rw [meetU, if_neg (fun hh => h4 (cmpQ_lt.2 hh))]; exact ha.2.le hl13
    · refine qCmp_call hb.1 ha.1 b3 b1 (by omega) (by omega) fun h3 hl3 => ?_
      refine ifP_dec (fun h4 => ⟨hl3, ?_⟩) (fun h4 => ⟨hl3, ?_⟩)
      · rw [meetL, if_pos (cmpQ_gt.1 h4)]; exact hb.1.le hl3
      · rw [meetL, if_neg (fun hh => h4 (cmpQ_gt.2 hh))]; exact ha.1.le hl3
  · rcases hv with ⟨h1, h2⟩ | ⟨h1, h2, h3⟩
    · simp only [Prod.mk.injEq] at h2
      obtain ⟨rfl, rfl⟩ := h2
      exact H0 h1 h' hl
    · simp only at h2 h3
      subst h3
      exact H h1 z h' hl h2
theorem riMeet_call (ha : NV h a al au) (hb : NV h b bl bu) (b1 : BR j al) (b2 : BR j au) (b3 : BR j bl) (b4 : BR j bu) (hj : j ≤ 300000)
    (H0 : meetU au bu < meetL al bl → ∀ h', h.le h' → KVB (zeroV, false) h')
    (H : meetL al bl ≤ meetU au bu → ∀ z h', h.le h' → NV h' z (meetL al bl) (meetU au bu) → KVB (z, true) h') : callP (F.ref03_Meet a b) KVB h := by
  refine callP_of (fun v h' => (meetU au bu < meetL al bl ∧ v = (zeroV, false)) ∨ (meetL al bl ≤ meetU au bu ∧ NV h' v.1 (meetL al bl) (meetU au bu) ∧ v.2 = true)) (fun K' hk => ?_) fun ⟨z, c⟩ h' hl hv => ?_
  · unfold F.ref03_Meet
    refine joinP_inv (fun s h' => h.le h' ∧ NV h' (q8 s.1) (meetL al bl) au) ?_ ?_
    · rintro s1 h1 ⟨hl1, hs1⟩
      refine joinP_inv (fun s h' => h.le h' ∧ NV h' (q8 s.1) (meetL al bl) (meetU au bu)) ?_ ?_
      · rintro s2 h2 ⟨hl2, hs2⟩
        refine rqCmp_call hs2.1 hs2.2 (meetL_BR b1 b3) (meetU_BR b2 b4) (by omega) (by omega) fun h3 hl3 => ?_
        refine ifP_dec (fun h4 => hk _ _ (Hp.le_trans hl2 hl3) (.inl ⟨cmpQ_gt.1 h4, rfl⟩)) (fun h4 => hk _ _ (Hp.le_trans hl2 hl3) (.inr ⟨?_, hs2.le hl3, rfl⟩))
        have : ¬ meetU au bu < meetL al bl := fun hh => h4 (cmpQ_gt.2 hh)
        grind
      · refine rqCmp_call (hb.2.le hl1) hs1.2 b4 b2 (by omega) (by omega) fun h3 hl3 => ?_
        have hl13 := Hp.le_trans hl1 hl3
        refine ifP_dec (fun h4 => ⟨hl13, hs1.1.le hl3, ?_⟩) (fun h4 => ⟨hl13, hs1.1.le hl3, ?_⟩)
        · rw [meetU, if_pos (cmpQ_lt.1 h4)]; exact hb.2.le hl13
        · rw [meetU, if_neg (fun hh => h4 (cmpQ_lt.2 hh))]; exact hs1.2.le hl3
    · refine rqCmp_call hb.1 ha.1 b3 b1 (by omega) (by omega) fun h3 hl3 => ?_
      refine ifP_dec (fun h4 => ⟨hl3, ?_, ha.2.le hl3⟩) (fun h4 => ⟨hl3, ?_, ha.2.le hl3⟩)
      · rw [meetL, if_pos (cmpQ_gt.1 h4)]; exact hb.1.le hl3
      · rw [meetL, if_neg (fun hh => h4 (cmpQ_gt.2 hh))]; exact ha.1.le hl3
  · rcases hv with ⟨h1, h2⟩ | ⟨h1, h2, h3⟩
    · simp only [Prod.mk.injEq] at h2
      obtain ⟨rfl, rfl⟩ := h2
      exact H0 h1 h' hl
    · simp only at h2 h3
      subst h3
      exact H h1 z h' hl h2

/-! ### Rounding -/

theorem ediv_Lt {m n : Int} (hm : Lt k m) : Lt k (m / n) := hm.le (Int.natAbs_ediv_le_natAbs _ _)
theorem floor_call (hx : NR h x p) (hy : NI h y N) (op : BR k p) (oN : Lt j N) (hk : k ≤ 400000) (hj : j ≤ 400000) (H : ∀ z h', h.le h' → NI h' z (p.num * N / p.den) → KI z h') : callP (F.interval_floor x y) KI h := by
  refine callP_of _ (fun K' hk => ?_) H
  unfold F.interval_floor
  refine Mul_call hx.1 hy (op.1.ok (by omega)) (oN.ok (by omega)) fun z h1 hl1 hz => ?_
  refine DivMod_call hz (hx.2.le hl1) ((op.1.mul oN).ok (by omega)) (op.2.ok (by omega)) (den_ne p) fun u w h2 q r hl2 hu hw hdm => hk _ _ (Hp.le_trans hl1 hl2) ?_
  have := hdm.div (den_ne p) (.inl (dpos p))
  subst this
  exact hu
theorem ceil_call (hx : NR h x p) (hy : NI h y N) (op : BR k p) (oN : Lt j N) (hk : k ≤ 400000) (hj : j ≤ 400000) (H : ∀ z h', h.le h' → NI h' z (-(-(p.num * N) / p.den)) → KI z h') : callP (F.interval_ceil x y) KI h := by
  refine callP_of _ (fun K' hk => ?_) H
  unfold F.interval_ceil
  refine qNeg_call hx op (by omega) fun z h1 hl1 hz => ?_
  refine floor_call hz (hy.le hl1) op.neg oN (by omega) (by omega) fun u h2 hl2 hu => ?_
  rw [Rat.neg_num, Rat.neg_den, Int.neg_mul] at hu
  refine Neg_call hu ((ediv_Lt (op.1.mul oN).neg).ok (by omega)) fun w h3 hl3 hw => hk _ _ (Hp.le_trans hl1 (Hp.le_trans hl2 hl3)) hw
theorem over_call {u v : TInt} {m n : Int} (hu : NI h u m) (hv : NI h v n) (om : Lt k m) (on : Lt k n) (hk : k ≤ 1000000) (h0 : n ≠ 0) (H : ∀ z h', h.le h' → NR h' z (Rat.divInt m n) → KR z h') : callP (F.interval_over u v) KR h := by
  refine callP_of _ (fun K' hk => ?_) H
  unfold F.interval_over
  refine qMake_call hu hv om on (by omega) h0 fun z h1 hl1 hz => hk _ _ hl1 hz
theorem unit_call {n : Nat} (hn : n ≤ 4096) (H : ∀ z h', h.le h' → NR h' z (Rat.divInt ((2 ^ n : Nat) : Int) 1) → KR z h') : callP (F.ref03_unit (n : Int)) KR h := by
  refine callP_of _ (fun K' hk => ?_) H
  unfold F.ref03_unit
  refine rFromInt_call (by decide) (by decide) fun z h1 hl1 hz => rPow_call hz hn fun w h2 hl2 hw => rFromInt_call (by decide) (by decide) fun o h3 hl3 ho => ?_
  refine rqMake_call (k := 200) (hw.le hl3) ho ((pow2_Lt (n := n)).mono (by omega)) (by unfold Lt; exact Nat.one_lt_pow (by decide) (by decide)) (by decide) (by decide) fun v h4 hl4 hv => hk _ _ (Hp.le_trans hl1 (Hp.le_trans hl2 (Hp.le_trans hl3 hl4))) hv
theorem pow2_ne (n : Nat) : ((2 ^ n : Nat) : Int) ≠ 0 := by have := Nat.two_pow_pos n; omega
theorem BR_whole {N : Int} (h : Lt k N) (hk : 1 ≤ k) : BR k (Rat.divInt N 1) := by
  have e := whole_num N
  exact ⟨by rw [e.1]; exact h, by rw [e.2]; unfold Lt; exact Nat.one_lt_pow (by omega) (by decide)⟩
/-- Rounded down and up. -/
def dnQ (p : Rat) (n : Nat) : Rat := Rat.divInt (p.num * (2 ^ n : Nat) / p.den) (2 ^ n : Nat)
def upQ (p : Rat) (n : Nat) : Rat := Rat.divInt (-(-(p.num * (2 ^ n : Nat)) / p.den)) (2 ^ n : Nat)
theorem down_call {n : Nat} (hn : n ≤ 4096) (hx : NR h x p) (op : BR k p) (hk : k ≤ 300000) (H : ∀ z h', h.le h' → NR h' z (dnQ p n) → KR z h') : callP (F.ref03_down x (n : Int)) KR h := by
  refine callP_of _ (fun K' hk => ?_) H
  unfold F.ref03_down
  have l2 : Lt 200 ((2 ^ n : Nat) : Int) := (pow2_Lt (n := n)).mono (by omega)
  have bV : BR 200 (Rat.divInt ((2 ^ n : Nat) : Int) 1) := BR_whole l2 (by decide)
  refine unit_call hn fun u h1 hl1 hu => ?_
  refine rqMul_call (hx.le hl1) hu op bV (by omega) (by omega) fun v h2 hl2 hv => ?_
  refine rqFloor_call hv (op.mul bV) (by omega) fun w h3 hl3 hw => ?_
  rw [mul_whole, floor_divInt (dpos p)] at hw
  have hun := hu.1
  rw [(whole_num _).1] at hun
  refine rqMake_call (k := k + 200) hw (hun.le (Hp.le_trans hl2 hl3)) (ediv_Lt (op.1.mul l2)) (l2.mono (by omega)) (by omega) (pow2_ne n) fun z h4 hl4 hz => hk _ _ (Hp.le_trans hl1 (Hp.le_trans hl2 (Hp.le_trans hl3 hl4))) hz
theorem neg_divInt {m n : Int} (h0 : n ≠ 0) : -(Rat.divInt m n) = Rat.divInt (-m) n := by
  symm
  refine (rat_cross h0).2 ?_
  have h1 := (rat_cross (q := Rat.divInt m n) h0).1 rfl
  rw [Rat.neg_num, Rat.neg_den, Int.neg_mul, Int.neg_mul, h1]
theorem dn_BR {n : Nat} (hn : n ≤ 4096) (op : BR k p) : BR (k + 200) (dnQ p n) := by
  have l2 : Lt 200 ((2 ^ n : Nat) : Int) := (pow2_Lt (n := n)).mono (by omega)
  exact BR.divInt (ediv_Lt (op.1.mul l2)) (l2.mono (by omega)) (pow2_ne n)
theorem up_call {n : Nat} (hn : n ≤ 4096) (hx : NR h x p) (op : BR k p) (hk : k ≤ 300000) (H : ∀ z h', h.le h' → NR h' z (upQ p n) → KR z h') : callP (F.ref03_up x (n : Int)) KR h := by
  refine callP_of _ (fun K' hk => ?_) H
  unfold F.ref03_up
  refine rqNeg_call hx op (by omega) fun z hz => down_call hn hz op.neg (by omega) fun w h1 hl1 hw => ?_
  refine rqNeg_call hw (dn_BR hn op.neg) (by omega) fun v hv => hk _ _ hl1 ?_
  have e : -(dnQ (-p) n) = upQ p n := by
    unfold dnQ upQ
    rw [neg_divInt (pow2_ne n), Rat.neg_num, Rat.neg_den, Int.neg_mul]
  rw [e] at hv; exact hv
theorem iRound_call {n : Nat} (hn : n ≤ 4096) (ha : NV h a al au) (b1 : BR j al) (b2 : BR j au) (hj : j ≤ 300000) (H : ∀ z h', h.le h' → NV h' z (dnQ al n) (upQ au n) → KV z h') : callP (F.interval_Round a (n : Int)) KV h := by
  refine callP_of _ (fun K' hk => ?_) H
  unfold F.interval_Round
  have l2 : Lt 200 ((2 ^ n : Nat) : Int) := (pow2_Lt (n := n)).mono (by omega)
  refine joinP_of (ifP_dec (fun h1 => by omega) (fun h1 => ifP_dec (fun h2 => by omega) (fun h2 => ?_)))
  refine ipower_call (by omega) fun u h3 hl3 hu => ?_
  refine floor_call (ha.1.le hl3) hu b1 l2 (by omega) (by omega) fun f h4 hl4 hf => ?_
  refine over_call (k := j + 200) hf (hu.le hl4) (ediv_Lt (b1.1.mul l2)) (l2.mono (by omega)) (by omega) (pow2_ne n) fun r h5 hl5 hr => ?_
  have hl35 := Hp.le_trans hl3 (Hp.le_trans hl4 hl5)
  refine ceil_call (ha.2.le hl35) (hu.le (Hp.le_trans hl4 hl5)) b2 l2 (by omega) (by omega) fun c h6 hl6 hc => ?_
  refine over_call (k := j + 200) hc (hu.le (Hp.le_trans hl4 (Hp.le_trans hl5 hl6))) (ediv_Lt (b2.1.mul l2).neg).neg (l2.mono (by omega)) (by omega) (pow2_ne n) fun s h7 hl7 hs => ?_
  exact hk _ _ (Hp.le_trans hl35 (Hp.le_trans hl6 hl7)) ⟨hr.le (Hp.le_trans hl6 hl7), hs⟩
theorem riRound_call {n : Nat} (hn : n ≤ 4096) (ha : NV h a al au) (b1 : BR j al) (b2 : BR j au) (hj : j ≤ 300000) (H : ∀ z h', h.le h' → NV h' z (dnQ al n) (upQ au n) → KV z h') : callP (F.ref03_Round a (n : Int)) KV h := by
  refine callP_of _ (fun K' hk => ?_) H
  unfold F.ref03_Round
  refine joinP_of (ifP_dec (fun h1 => by omega) (fun h1 => ifP_dec (fun h2 => by omega) (fun h2 => ?_)))
  refine down_call hn ha.1 b1 (by omega) fun u h3 hl3 hu => ?_
  refine up_call hn (ha.2.le hl3) b2 (by omega) fun w h4 hl4 hw => hk _ _ (Hp.le_trans hl3 hl4) ⟨hu.le hl4, hw⟩
theorem iRound_bad {n : Int} (hn : n < 0 ∨ n > 4096) (H : KV zeroV h) : callP (F.interval_Round a n) KV h := by
  refine callP_same _ (fun K' hk => ?_) H
  unfold F.interval_Round
  exact joinP_of (ifP_dec (fun h1 => hk) (fun h1 => ifP_dec (fun h2 => hk) (fun h2 => by omega)))
end
end Den
end

section
/-
  Intervals: square roots (the program's and the reference's).
-/
set_option linter.unusedVariables false
namespace Iv
theorem sq_cast {c : Nat} {s : Nat} (h : IsSq c s) : (s : Int) * s ≤ (c : Int) ∧ (c : Int) < ((s : Int) + 1) * (s + 1) := by
  refine ⟨?_, ?_⟩
  · have := h.1; exact_mod_cast this
  · have := h.2; exact_mod_cast this
theorem sq_le {c s : Nat} (h : IsSq c s) : s ≤ c := by
  rcases Nat.eq_zero_or_pos s with h0 | h0
  · omega
  · exact Nat.le_trans (Nat.le_mul_of_pos_left s h0) h.1
theorem ceil_facts {m n : Int} (hn : 0 < n) : m ≤ -(-m / n) * n ∧ (-(-m / n) - 1) * n < m := by
  have h1 := Int.ediv_mul_le (-m) (show n ≠ 0 by omega)
  have h2 := Int.lt_ediv_add_one_mul_self (-m) hn
  rw [Int.add_mul] at h2
  constructor
  · rw [Int.neg_mul]; omega
  · rw [Int.sub_mul, Int.neg_mul]; omega
theorem floor_facts {m n : Int} (hn : 0 < n) : m / n * n ≤ m ∧ m < (m / n + 1) * n := ⟨Int.ediv_mul_le m (show n ≠ 0 by omega), Int.lt_ediv_add_one_mul_self m hn⟩
end Iv
namespace Den
open Go Iv
section
variable {h : Hp} {a b : TInterval} {x : TRat} {y : TInt} {p al au bl bu : Rat} {j k : Nat} {KVE : (TInterval × Int) → Hp → Prop}

theorem NI_toNat {h : Hp} {z : TInt} {m : Int} (hz : NI h z m) (hm : 0 ≤ m) : NI h z (m.toNat : Int) := by rw [Int.toNat_of_nonneg hm]; exact hz
theorem Lt_len {m : Int} (hm : Lt k m) (h0 : 0 ≤ m) : (dg m.toNat).length ≤ k := by
  refine dg_len.2 ?_
  have e : m.toNat = m.natAbs := by omega
  rw [e]; exact hm
theorem nonneg_num {q : Rat} (h : 0 ≤ q) : 0 ≤ q.num := Rat.num_nonneg.2 h
theorem up_nonneg {m n : Int} (hm : 0 ≤ m) (hn : 0 < n) : 0 ≤ -(-m / n) := by
  have h2 := (ceil_facts (m := m) hn).1
  rcases Int.lt_or_le (-(-m / n)) 0 with h3 | h3
  · have := Int.mul_neg_of_neg_of_pos h3 hn; omega
  · exact h3
theorem iSqrt_call {n : Nat} (hn : n ≤ 4096) (ha : NV h a al au) (b1 : BR j al) (b2 : BR j au) (hj : j ≤ 100000) (h0 : 0 ≤ al) (hle : al ≤ au)
    (H : ∀ z h' (s t : Nat), h.le h' → NV h' z (Rat.divInt s (2 ^ n : Nat)) (Rat.divInt t (2 ^ n : Nat)) → IsSq (al.num * ((2 ^ (2 * n) : Nat) : Int) / al.den).toNat s → UP (au.num * ((2 ^ (2 * n) : Nat) : Int)) au.den t → Lt (j + 301) s → Lt (j + 301) t → KVE (z, 0) h') : callP (F.interval_Sqrt a (n : Int)) KVE h := by
  refine callP_of (fun v h' => v.2 = 0 ∧ ∃ s t : Nat, NV h' v.1 (Rat.divInt s (2 ^ n : Nat)) (Rat.divInt t (2 ^ n : Nat)) ∧ IsSq (al.num * ((2 ^ (2 * n) : Nat) : Int) / al.den).toNat s ∧ UP (au.num * ((2 ^ (2 * n) : Nat) : Int)) au.den t ∧ Lt (j + 301) s ∧ Lt (j + 301) t) (fun K' hk => ?_) fun ⟨z, c⟩ h' hl hv => by
    obtain ⟨h1, s, t, h2, h3, h4, h5, h6⟩ := hv
    simp only at h1 h2
    subst h1
    exact H z h' s t hl h2 h3 h4 h5 h6
  unfold F.interval_Sqrt
  have hn1 := nonneg_num h0
  have hn2 := nonneg_num (Rat.le_trans h0 hle)
  have l1 : Lt 200 ((2 ^ n : Nat) : Int) := (pow2_Lt (n := n)).mono (by omega)
  have l2 : Lt 300 ((2 ^ (2 * n) : Nat) : Int) := (pow2_Lt (n := 2 * n)).mono (by omega)
  have w2 : IntKind.i64.wrap (2 * (n : Int)) = ((2 * n : Nat) : Int) := by rw [w64 (by omega)]; omega
  refine joinP_inv (fun _ h' => h' = h) ?_ (ifP_dec (fun h1 => by omega) (fun h1 => ifP_dec (fun h2 => by omega) (fun h2 => qSign_call ha.1 b1 (by omega) (ifP_dec (fun h3 => ?_) (fun h3 => rfl)))))
  · rintro _ h' rfl
    rw [w2]
    refine ipower_call (by omega) fun u h3 hl3 hu => ipower_call (by omega) fun v h4 hl4 hv => ?_
    have hl34 := Hp.le_trans hl3 hl4
    refine floor_call (ha.1.le hl34) hv b1 l2 (by omega) (by omega) fun f h5 hl5 hf => ?_
    have hNp : 0 ≤ ((2 ^ (2 * n) : Nat) : Int) := Int.natCast_nonneg _
    have fnn : 0 ≤ al.num * ((2 ^ (2 * n) : Nat) : Int) / al.den := Int.ediv_nonneg (Int.mul_nonneg hn1 hNp) (by omega)
    have fL : Lt (j + 300) (al.num * ((2 ^ (2 * n) : Nat) : Int) / al.den) := ediv_Lt (b1.1.mul l2)
    refine Sqrt_call (NI_toNat hf fnn) (Nat.le_trans (Lt_len fL fnn) (by omega)) fun s h6 s0 hl6 hs hsq => ?_
    have hl36 := Hp.le_trans hl34 (Hp.le_trans hl5 hl6)
    have hl46 := Hp.le_trans hl5 hl6
    refine ceil_call (ha.2.le hl36) (hv.le hl46) b2 l2 (by omega) (by omega) fun c h7 hl7 hc => ?_
    have mnn := Int.mul_nonneg hn2 hNp
    have cnn : 0 ≤ -(-(au.num * ((2 ^ (2 * n) : Nat) : Int)) / au.den) := up_nonneg mnn (dpos au)
    have cL : Lt (j + 300) (-(-(au.num * ((2 ^ (2 * n) : Nat) : Int)) / au.den)) := (ediv_Lt (b2.1.mul l2).neg).neg
    refine Sqrt_call (NI_toNat hc cnn) (Nat.le_trans (Lt_len cL cnn) (by omega)) fun t h8 t0 hl8 ht htq => ?_
    have cf := ceil_facts (m := au.num * ((2 ^ (2 * n) : Nat) : Int)) (dpos au)
    have tc := sq_cast htq
    rw [Int.toNat_of_nonneg cnn] at tc
    have hup := up_ceil (dpos au) cf.1 cf.2 tc.1 tc.2
    have sL : Lt (j + 301) (s0 : Int) := (fL.le (by have := sq_le hsq; omega)).mono (by omega)
    have tL0 : Lt (j + 300) (t0 : Int) := cL.le (by have := sq_le htq; omega)
    generalize hcc : -(-(au.num * ((2 ^ (2 * n) : Nat) : Int)) / au.den) = cc at *
    have hl38 := Hp.le_trans hl36 (Hp.le_trans hl7 hl8)
    have tL : Lt (j + 301) (((if (t0 : Int) * t0 < cc then t0 + 1 else t0 : Nat) : Nat) : Int) := by
      split
      · have : Lt (j + 300) 1 := by unfold Lt; exact Nat.one_lt_pow (by omega) (by decide)
        exact tL0.addm this
      · exact tL0.mono (by omega)
    refine joinP_inv (fun st h' => h8.le h' ∧ NI h' ⟨st.1.1, st.1.2.1⟩ (((if (t0 : Int) * t0 < cc then t0 + 1 else t0 : Nat) : Nat) : Int)) ?_ ?_
    · rintro st h9 ⟨hl9, hst⟩
      have hl69 := Hp.le_trans hl7 (Hp.le_trans hl8 hl9)
      refine over_call (k := j + 301) (hs.le hl69) (hu.le (Hp.le_trans hl4 (Hp.le_trans hl46 hl69))) sL (l1.mono (by omega)) (by omega) (pow2_ne n) fun r1 h10 hl10 hr1 => ?_
      refine over_call (k := j + 301) (hst.le hl10) (hu.le (Hp.le_trans hl4 (Hp.le_trans hl46 (Hp.le_trans hl69 hl10)))) tL (l1.mono (by omega)) (by omega) (pow2_ne n) fun r2 h11 hl11 hr2 => ?_
      exact hk _ _ (Hp.le_trans hl38 (Hp.le_trans hl9 (Hp.le_trans hl10 hl11))) ⟨rfl, s0, _, ⟨hr1.le hl11, hr2⟩, hsq, hup, sL, tL⟩
    · have ot := tL0.ok (by omega)
      refine Mul_call ht ht ot ot fun q h9 hl9 hq => ?_
      refine Cmp_call hq (hc.le (Hp.le_trans hl8 hl9)) ((tL0.mul tL0).ok (by omega)) (cL.ok (by omega)) ?_
      have sr := sign_range ((t0 : Int) * t0 - cc)
      refine ifP_dec (fun h10 => ?_) (fun h10 => ?_)
      · refine FromInt_call (by decide) (by decide) fun o h11 hl11 ho => ?_
        refine Add_call (ht.le (Hp.le_trans hl9 hl11)) ho ot Ok_one fun w h12 hl12 hw => ⟨Hp.le_trans hl9 (Hp.le_trans hl11 hl12), ?_⟩
        rw [if_pos (by omega)]; exact hw
      · refine ⟨hl9, ?_⟩
        rw [if_neg (by omega)]; exact ht.le hl9
  · have := sign_ge.2 h0
    omega
theorem riSqrt_call {n : Nat} (hn : n ≤ 4096) (ha : NV h a al au) (b1 : BR j al) (b2 : BR j au) (hj : j ≤ 100000) (h0 : 0 ≤ al) (hle : al ≤ au)
    (H : ∀ z h' (s t : Nat), h.le h' → NV h' z (Rat.divInt s (2 ^ n : Nat)) (Rat.divInt t (2 ^ n : Nat)) → IsSq (al.num * ((2 ^ (2 * n) : Nat) : Int) / al.den).toNat s → UP (au.num * ((2 ^ (2 * n) : Nat) : Int)) au.den t → KVE (z, 0) h') : callP (F.ref03_Sqrt a (n : Int)) KVE h := by
  refine callP_of (fun v h' => v.2 = 0 ∧ ∃ s t : Nat, NV h' v.1 (Rat.divInt s (2 ^ n : Nat)) (Rat.divInt t (2 ^ n : Nat)) ∧ IsSq (al.num * ((2 ^ (2 * n) : Nat) : Int) / al.den).toNat s ∧ UP (au.num * ((2 ^ (2 * n) : Nat) : Int)) au.den t) (fun K' hk => ?_) fun ⟨z, c⟩ h' hl hv => by
    obtain ⟨h1, s, t, h2, h3, h4⟩ := hv
    simp only at h1 h2
    subst h1
    exact H z h' s t hl h2 h3 h4
  unfold F.ref03_Sqrt
  have hn1 := nonneg_num h0
  have hn2 := nonneg_num (Rat.le_trans h0 hle)
  have l1 : Lt 200 ((2 ^ n : Nat) : Int) := (pow2_Lt (n := n)).mono (by omega)
  have l2 : Lt 300 ((2 ^ (2 * n) : Nat) : Int) := (pow2_Lt (n := 2 * n)).mono (by omega)
  have bV : BR 200 (Rat.divInt ((2 ^ n : Nat) : Int) 1) := BR_whole l1 (by decide)
  have eVV : Rat.divInt ((2 ^ n : Nat) : Int) 1 * Rat.divInt ((2 ^ n : Nat) : Int) 1 = Rat.divInt ((2 ^ (2 * n) : Nat) : Int) 1 := by
    rw [whole_mul, ← Int.natCast_mul, ← Nat.pow_add, show n + n = 2 * n by omega]
  have bVV : BR 300 (Rat.divInt ((2 ^ (2 * n) : Nat) : Int) 1) := BR_whole l2 (by decide)
  refine joinP_of (ifP_dec (fun h1 => by omega) (fun h1 => ifP_dec (fun h2 => by omega) (fun h2 => rqSign_call ha.1 b1 (by omega) (ifP_dec (fun h3 => ?_) (fun h3 => ?_)))))
  · have := sign_ge.2 h0; omega
  refine unit_call hn fun u h3 hl3 hu => rqMul_call hu hu bV bV (by omega) (by omega) fun v h4 hl4 hv => ?_
  rw [eVV] at hv
  have hl34 := Hp.le_trans hl3 hl4
  refine rqMul_call (ha.1.le hl34) hv b1 bVV (by omega) (by omega) fun r h5 hl5 hr => ?_
  refine rqFloor_call hr (b1.mul bVV) (by omega) fun f h6 hl6 hf => ?_
  rw [mul_whole, floor_divInt (dpos al)] at hf
  have hNp : 0 ≤ ((2 ^ (2 * n) : Nat) : Int) := Int.natCast_nonneg _
  have fnn : 0 ≤ al.num * ((2 ^ (2 * n) : Nat) : Int) / al.den := Int.ediv_nonneg (Int.mul_nonneg hn1 hNp) (by omega)
  have fL : Lt (j + 300) (al.num * ((2 ^ (2 * n) : Nat) : Int) / al.den) := ediv_Lt (b1.1.mul l2)
  refine rSqrt_call (NI_toNat hf fnn) (Nat.le_trans (Lt_len fL fnn) (by omega)) fun s h7 s0 hl7 hs hsq => ?_
  have hl47 := Hp.le_trans hl5 (Hp.le_trans hl6 hl7)
  have hl37 := Hp.le_trans hl34 hl47
  refine rqMul_call (ha.2.le hl37) (hv.le hl47) b2 bVV (by omega) (by omega) fun g h8 hl8 hg => ?_
  refine rqFloor_call hg (b2.mul bVV) (by omega) fun c h9 hl9 hc => ?_
  rw [mul_whole, floor_divInt (dpos au)] at hc
  have mnn := Int.mul_nonneg hn2 hNp
  have cnn : 0 ≤ au.num * ((2 ^ (2 * n) : Nat) : Int) / au.den := Int.ediv_nonneg mnn (by omega)
  have cL : Lt (j + 300) (au.num * ((2 ^ (2 * n) : Nat) : Int) / au.den) := ediv_Lt (b2.1.mul l2)
  refine rSqrt_call (NI_toNat hc cnn) (Nat.le_trans (Lt_len cL cnn) (by omega)) fun t h10 t0 hl10 ht htq => ?_
  have cf := floor_facts (m := au.num * ((2 ^ (2 * n) : Nat) : Int)) (dpos au)
  have tc := sq_cast htq
  rw [Int.toNat_of_nonneg cnn] at tc
  have hup := up_floor (dpos au) cf.1 cf.2 tc.1 tc.2
  have sL : Lt (j + 301) (s0 : Int) := (fL.le (by have := sq_le hsq; omega)).mono (by omega)
  have tL0 : Lt (j + 300) (t0 : Int) := cL.le (by have := sq_le htq; omega)
  have hl7_10 := Hp.le_trans hl8 (Hp.le_trans hl9 hl10)
  have tL : Lt (j + 301) (((if (t0 : Int) * t0 * au.den < au.num * ((2 ^ (2 * n) : Nat) : Int) then t0 + 1 else t0 : Nat) : Nat) : Int) := by
    split
    · have : Lt (j + 300) 1 := by unfold Lt; exact Nat.one_lt_pow (by omega) (by decide)
      exact tL0.addm this
    · exact tL0.mono (by omega)
  have hun := hu.1
  rw [(whole_num _).1] at hun
  refine joinP_inv (fun st h' => h10.le h' ∧ NI h' ⟨st.1.1, st.1.2.1⟩ (((if (t0 : Int) * t0 * au.den < au.num * ((2 ^ (2 * n) : Nat) : Int) then t0 + 1 else t0 : Nat) : Nat) : Int)) ?_ ?_
  · rintro st h11 ⟨hl11, hst⟩
    have hl7_11 := Hp.le_trans hl7_10 hl11
    have hl3_11 := Hp.le_trans hl4 (Hp.le_trans hl47 hl7_11)
    refine rqMake_call (k := j + 301) (hs.le hl7_11) (hun.le hl3_11) sL (l1.mono (by omega)) (by omega) (pow2_ne n) fun r1 h12 hl12 hr1 => ?_
    refine rqMake_call (k := j + 301) (hst.le hl12) (hun.le (Hp.le_trans hl3_11 hl12)) tL (l1.mono (by omega)) (by omega) (pow2_ne n) fun r2 h13 hl13 hr2 => ?_
    exact hk _ _ (Hp.le_trans hl37 (Hp.le_trans hl7_11 (Hp.le_trans hl12 hl13))) ⟨rfl, s0, _, ⟨hr1.le hl13, hr2⟩, hsq, hup⟩
  · have ot := tL0.ok (by omega)
    refine rMul_call ht ht ot ot fun q h11 hl11 hq => ?_
    refine rFromInt_call (by decide) (by decide) fun o h12 hl12 ho => ?_
    have lq := (tL0.mul tL0).mono (show (j + 300) + (j + 300) ≤ 2 * j + 600 by omega)
    refine rqMake_call (k := 2 * j + 600) (hq.le hl12) ho lq (by unfold Lt; exact Nat.one_lt_pow (by omega) (by decide)) (by omega) (by decide) fun w h13 hl13 hw => ?_
    have hl8_13 := Hp.le_trans hl9 (Hp.le_trans hl10 (Hp.le_trans hl11 (Hp.le_trans hl12 hl13)))
    refine rqCmp_call hw (hg.le hl8_13) (BR_whole lq (by omega)) (b2.mul bVV) (by omega) (by omega) fun h14 hl14 => ?_
    have hl10_14 := Hp.le_trans hl11 (Hp.le_trans hl12 (Hp.le_trans hl13 hl14))
    have hiff : cmpQ (Rat.divInt ((t0 : Int) * t0) 1) (au * Rat.divInt ((2 ^ (2 * n) : Nat) : Int) 1) < 0 ↔ (t0 : Int) * t0 * au.den < au.num * ((2 ^ (2 * n) : Nat) : Int) := by
      rw [cmpQ_lt, mul_whole, whole_lt (dpos au)]
    refine ifP_dec (fun h15 => ?_) (fun h15 => ?_)
    · refine rFromInt_call (by decide) (by decide) fun o2 h16 hl16 ho2 => ?_
      refine rAdd_call (ht.le (Hp.le_trans hl10_14 hl16)) ho2 ot Ok_one fun e h17 hl17 he => ⟨Hp.le_trans hl10_14 (Hp.le_trans hl16 hl17), ?_⟩
      rw [if_pos (hiff.1 h15)]; exact he
    · refine ⟨hl10_14, ?_⟩
      rw [if_neg (fun hh => h15 (hiff.2 hh))]; exact ht.le hl10_14
end
end Den
end

section
/-
  Which values are numbers and intervals.
-/
set_option linter.unusedVariables false
namespace Den
open Go Iv
/-- a is any value of the type. -/
def AI (h : Hp) (a : TInt) : Prop := ∃ l, RdW h a.mag l ∧ okW l
def AR (h : Hp) (x : TRat) : Prop := AI h x.num ∧ AI h x.den
def AV (h : Hp) (x : TInterval) : Prop := AR h x.low ∧ AR h x.high
theorem AI.le {h h' : Hp} {a : TInt} (ha : AI h a) (hl : h.le h') : AI h' a := by obtain ⟨l, h1, h2⟩ := ha; exact ⟨l, h1.le hl, h2⟩
theorem AR.le {h h' : Hp} {x : TRat} (hx : AR h x) (hl : h.le h') : AR h' x := ⟨hx.1.le hl, hx.2.le hl⟩
theorem AV.le {h h' : Hp} {x : TInterval} (hx : AV h x) (hl : h.le h') : AV h' x := ⟨hx.1.le hl, hx.2.le hl⟩
theorem wc_inj : ∀ {l m : List Nat}, wc l = wc m → l = m
  | [], [], _ => rfl
  | [], _ :: _, h => by simp [wc] at h
  | _ :: _, [], h => by simp [wc] at h
  | x :: r, y :: t, h => by
    simp only [wc, List.map_cons, List.cons.injEq, Value.int.injEq, true_and] at h
    rw [wc_inj (l := r) (m := t) h.2, show x = y by omega]
theorem RdW.uniq {h : Hp} {x : Sl} {l m : List Nat} (h1 : RdW h x l) (h2 : RdW h x m) : l = m := by
  have a1 := h1.1
  have a2 := h2.1
  have e : (wc l).length = (wc m).length := by rw [← a1.1, ← a2.1]
  have b1 := a1.2
  have b2 := a2.2
  rw [e, b2] at b1
  exact (wc_inj (Option.some.inj b1)).symm
theorem NI.inj {h : Hp} {a : TInt} {m n : Int} (h1 : NI h a m) (h2 : NI h a n) : m = n := by
  have e := dg_inj (h1.1.uniq h2.1)
  have e2 : decide (m < 0) = decide (n < 0) := by rw [← h1.2, ← h2.2]
  have e3 : m < 0 ↔ n < 0 := by simpa using e2
  omega
/-- What a value must be to be a number. -/
theorem NI_iff {h : Hp} {a : TInt} {l : List Nat} (hr : RdW h a.mag l) (ok : okW l) : (∃ n, NI h a n) ↔ trimL l = l ∧ (a.neg = true → l ≠ []) := by
  constructor
  · rintro ⟨n, hn⟩
    have e := hr.uniq hn.1
    subst e
    refine ⟨trim_dg _, fun hneg he => ?_⟩
    rw [hn.2] at hneg
    have h1 : n < 0 := by simpa using hneg
    have := dg_nil.1 he
    omega
  · rintro ⟨h1, h2⟩
    have e := dg_of_can ok h1
    refine ⟨sg a.neg (vl l), ?_, ?_⟩
    · rw [sg_abs, ← e]; exact hr
    · cases hb : a.neg with
      | false => simp [sg]
      | true =>
        have h3 := h2 hb
        have h4 : vl l ≠ 0 := fun h0 => h3 (by rw [e, h0, dg_zero])
        simp [sg]; omega
theorem NR_iff {h : Hp} {x : TRat} {m n : Int} (h1 : NI h x.num m) (h2 : NI h x.den n) : (∃ q, NR h x q) ↔ 0 < n ∧ Nat.gcd m.natAbs n.natAbs = 1 := by
  constructor
  · rintro ⟨q, hq⟩
    have e1 := h1.inj hq.1
    have e2 := h2.inj hq.2
    subst e1 e2
    exact ⟨dpos q, by rw [natAbs_den]; exact q.reduced⟩
  · rintro ⟨h3, h4⟩
    have hnn : n.toNat = n.natAbs := by omega
    refine ⟨⟨m, n.toNat, by omega, by rw [hnn]; exact h4⟩, h1, ?_⟩
    show NI h x.den ((n.toNat : Nat) : Int)
    rw [Int.toNat_of_nonneg (by omega)]; exact h2
section
variable {h : Hp} {a : TInt} {x : TRat} {v : TInterval} {Kb : Bool → Hp → Prop}

theorem rValid_call (ha : AI h a) (hl : a.mag.len ≤ 35184372087808) (H1 : ∀ n, NI h a n → Kb true h) (H0 : (¬ ∃ n, NI h a n) → Kb false h) : callP (F.ref01_Valid a) Kb h := by
  obtain ⟨l, hr, ok⟩ := ha
  have ll := hr.len
  have hiff := NI_iff hr ok
  refine callP_of (fun b h' => h' = h ∧ (b = true ∧ (∃ n, NI h a n) ∨ b = false ∧ ¬ ∃ n, NI h a n)) (fun K' hk => ?_) fun b h' _ ⟨e, hv⟩ => by
    subst e
    rcases hv with ⟨rfl, n, hn⟩ | ⟨rfl, hn⟩
    · exact H1 n hn
    · exact H0 hn
  unfold F.ref01_Valid
  refine rtrim_call hr (by omega) fun y hy => ?_
  have ly := hy.len
  refine ifP_eq (fun h1 => ?_) (fun h1 => ?_)
  · have hlen : (trimL l).length = l.length := by omega
    have ht : trimL l = l := by
      have := trim_take l
      rw [hlen, List.take_of_length_le (Nat.le_refl _)] at this
      exact this
    refine ifP_intro (fun h2 => ?_) (fun h2 => ?_)
    · refine hk _ _ (Hp.le_refl _) ⟨rfl, .inl ⟨rfl, hiff.2 ⟨ht, fun hn => ?_⟩⟩⟩
      rw [hn] at h2; cases h2
    · refine hk _ _ (Hp.le_refl _) ⟨rfl, ?_⟩
      have hneg : a.neg = true := by simpa using h2
      by_cases h3 : (a.mag.len : Int) > 0
      · exact .inl ⟨decide_eq_true h3, hiff.2 ⟨ht, fun _ he => by rw [he] at ll; simp at ll; omega⟩⟩
      · refine .inr ⟨decide_eq_false h3, fun hn => (hiff.1 hn).2 hneg (List.length_eq_zero_iff.1 (by omega))⟩
  · refine hk _ _ (Hp.le_refl _) ⟨rfl, .inr ⟨rfl, fun hn => h1 ?_⟩⟩
    have := (hiff.1 hn).1
    rw [this] at ly
    omega
theorem top_trim {l : List Nat} {n : Nat} (hn : l.length = n + 1) : trimL l = l ↔ l[n] ≠ 0 := by
  have e : l = l.take n ++ [l[n]] := by
    have := List.take_succ_eq_append_getElem (l := l) (i := n) (by omega)
    rw [List.take_of_length_le (by omega)] at this
    exact this
  constructor
  · intro h1 h0
    have h2 : trimL l = trimL (l.take n) := by
      conv => lhs; rw [e, h0]
      exact trim_snoc_zero _
    have h3 := trim_len (l.take n)
    rw [← h2, h1, List.length_take] at h3
    omega
  · intro h0
    conv => lhs; rw [e]
    rw [trim_snoc_pos _ h0]
    exact e.symm
theorem Valid_call (ha : AI h a) (hl : a.mag.len ≤ 35184372087808) (H1 : ∀ n, NI h a n → Kb true h) (H0 : (¬ ∃ n, NI h a n) → Kb false h) : callP (F.integer_Valid a) Kb h := by
  obtain ⟨l, hr, ok⟩ := ha
  have ll := hr.len
  have hiff := NI_iff hr ok
  refine callP_of (fun b h' => h' = h ∧ (b = true ∧ (∃ n, NI h a n) ∨ b = false ∧ ¬ ∃ n, NI h a n)) (fun K' hk => ?_) fun b h' _ ⟨e, hv⟩ => by
    subst e
    rcases hv with ⟨rfl, n, hn⟩ | ⟨rfl, hn⟩
    · exact H1 n hn
    · exact H0 hn
  unfold F.integer_Valid
  refine ifP_eq (fun h1 => ?_) (fun h1 => ?_)
  · have hnil : l = [] := List.length_eq_zero_iff.1 (by omega)
    refine ifP_intro (fun h2 => ?_) (fun h2 => ?_)
    · refine hk _ _ (Hp.le_refl _) ⟨rfl, .inl ⟨rfl, hiff.2 ⟨by rw [hnil]; rfl, fun hn => ?_⟩⟩⟩
      rw [hn] at h2; cases h2
    · have hneg : a.neg = true := by simpa using h2
      refine ifP_dec (fun h3 => by omega) (fun h3 => hk _ _ (Hp.le_refl _) ⟨rfl, .inr ⟨rfl, fun hn => (hiff.1 hn).2 hneg hnil⟩⟩)
  · obtain ⟨n, hn⟩ : ∃ n, l.length = n + 1 := ⟨l.length - 1, by omega⟩
    refine ifP_dec (fun h3 => ?_) (fun h3 => by omega)
    refine rd_word n hr (by rw [ll, hn, w64 (by omega)]; omega) (by omega) fun u hu => ⟨_, hu, hk _ _ (Hp.le_refl _) ⟨rfl, ?_⟩⟩
    have htt := top_trim hn
    by_cases h4 : l[n] = 0
    · refine .inr ⟨by rw [h4]; rfl, fun hh => (htt.1 (hiff.1 hh).1) h4⟩
    · refine .inl ⟨by simp; omega, hiff.2 ⟨htt.2 h4, fun _ he => by rw [he] at hn; simp at hn⟩⟩

theorem len_ok {n : Int} (ha : NI h a n) (hl : a.mag.len ≤ 35184372087808) : (dg n.natAbs).length ≤ 35184372087808 := by have := ha.len; omega
theorem rqValid_call (hx : AR h x) (hl1 : x.num.mag.len ≤ 35184372087808) (hl2 : x.den.mag.len ≤ 35184372087808) (H1 : ∀ q h', h.le h' → NR h x q → Kb true h') (H0 : ∀ h', h.le h' → (¬ ∃ q, NR h x q) → Kb false h') : callP (F.ref02_Valid x) Kb h := by
  refine callP_of (fun b h' => b = true ∧ (∃ q, NR h x q) ∨ b = false ∧ ¬ ∃ q, NR h x q) (fun K' hk => ?_) fun b h' hl hv => by
    rcases hv with ⟨rfl, n, hn⟩ | ⟨rfl, hn⟩
    · exact H1 n h' hl hn
    · exact H0 h' hl hn
  unfold F.ref02_Valid
  refine rValid_call hx.1 hl1 (fun m hm => ifP_true rfl (rValid_call hx.2 hl2 (fun n hn => ifP_true rfl ?_) (fun hn => ifP_false rfl (hk _ _ (Hp.le_refl _) (.inr ⟨rfl, fun ⟨q, hq⟩ => hn ⟨_, hq.2⟩⟩))))) (fun hn => ifP_false rfl (hk _ _ (Hp.le_refl _) (.inr ⟨rfl, fun ⟨q, hq⟩ => hn ⟨_, hq.1⟩⟩)))
  have hiff := NR_iff hm hn
  have s := sign_range n
  refine rSign_callX hn (len_ok hn hl2) (ifP_dec (fun h1 => ?_) (fun h1 => hk _ _ (Hp.le_refl _) (.inr ⟨rfl, fun hh => by have := (hiff.1 hh).1; omega⟩)))
  refine rGCD_callX hm hn (len_ok hm hl1) (len_ok hn hl2) fun z h2 hl hz => rone_call hz (hk _ _ hl ?_)
  by_cases h3 : Nat.gcd m.natAbs n.natAbs = 1
  · exact .inl ⟨decide_eq_true (by rw [h3]; rfl), hiff.2 ⟨by omega, h3⟩⟩
  · exact .inr ⟨decide_eq_false (fun hh => h3 (by omega)), fun hh => h3 (hiff.1 hh).2⟩
theorem qValid_call (hx : AR h x) (hl1 : x.num.mag.len ≤ 35184372087808) (hl2 : x.den.mag.len ≤ 35184372087808) (H1 : ∀ q h', h.le h' → NR h x q → Kb true h') (H0 : ∀ h', h.le h' → (¬ ∃ q, NR h x q) → Kb false h') : callP (F.rational_Valid x) Kb h := by
  refine callP_of (fun b h' => b = true ∧ (∃ q, NR h x q) ∨ b = false ∧ ¬ ∃ q, NR h x q) (fun K' hk => ?_) fun b h' hl hv => by
    rcases hv with ⟨rfl, n, hn⟩ | ⟨rfl, hn⟩
    · exact H1 n h' hl hn
    · exact H0 h' hl hn
  unfold F.rational_Valid
  refine Valid_call hx.1 hl1 (fun m hm => ifP_true rfl (Valid_call hx.2 hl2 (fun n hn => ifP_true rfl ?_) (fun hn => ifP_false rfl (hk _ _ (Hp.le_refl _) (.inr ⟨rfl, fun ⟨q, hq⟩ => hn ⟨_, hq.2⟩⟩))))) (fun hn => ifP_false rfl (hk _ _ (Hp.le_refl _) (.inr ⟨rfl, fun ⟨q, hq⟩ => hn ⟨_, hq.1⟩⟩)))
  have hiff := NR_iff hm hn
  have s := sign_range n
  refine Sign_callX hn (len_ok hn hl2) (ifP_dec (fun h1 => ?_) (fun h1 => hk _ _ (Hp.le_refl _) (.inr ⟨rfl, fun hh => by have := (hiff.1 hh).1; omega⟩)))
  refine GCD_callX hm hn (len_ok hm hl1) (len_ok hn hl2) fun z h2 hl hz => isOne_call hz (hk _ _ hl ?_)
  by_cases h3 : Nat.gcd m.natAbs n.natAbs = 1
  · exact .inl ⟨decide_eq_true (by rw [h3]; rfl), hiff.2 ⟨by omega, h3⟩⟩
  · exact .inr ⟨decide_eq_false (fun hh => h3 (by omega)), fun hh => h3 (hiff.1 hh).2⟩
theorem NR_BR {q : Rat} {k : Nat} (hq : NR h x q) (h1 : x.num.mag.len ≤ k) (h2 : x.den.mag.len ≤ k) : BR k q := by
  have e1 := hq.1.len
  have e2 := hq.2.len
  exact ⟨dg_len.1 (by omega), dg_len.1 (by omega)⟩
theorem rqFew_call (hx : AR h x) (H1 : ∀ q h', h.le h' → NR h x q → BR 10 q → Kb true h') (H0 : ∀ h', h.le h' → Kb false h') : callP (F.ref02_Few x 10) Kb h := by
  refine callP_of (fun b h' => b = true ∧ (∃ q, NR h x q ∧ BR 10 q) ∨ b = false) (fun K' hk => ?_) fun b h' hl hv => by
    rcases hv with ⟨rfl, n, hn, hb⟩ | rfl
    · exact H1 n h' hl hn hb
    · exact H0 h' hl
  unfold F.ref02_Few
  refine ifP_dec (fun h1 => ifP_dec (fun h2 => ?_) (fun h2 => hk _ _ (Hp.le_refl _) (.inr rfl))) (fun h1 => hk _ _ (Hp.le_refl _) (.inr rfl))
  exact rqValid_call hx (by omega) (by omega) (fun q h' hl hq => hk _ _ hl (.inl ⟨rfl, q, hq, NR_BR hq (by omega) (by omega)⟩)) (fun h' hl _ => hk _ _ hl (.inr rfl))

/-- v is an interval from l to u with at most ten limbs in each number. -/
def IV10 (h : Hp) (v : TInterval) (l u : Rat) : Prop := NV h v l u ∧ BR 10 l ∧ BR 10 u ∧ l ≤ u
theorem riValid_call (hv : AV h v) (hl : v.low.num.mag.len ≤ 35184372087808 ∧ v.low.den.mag.len ≤ 35184372087808 ∧ v.high.num.mag.len ≤ 35184372087808 ∧ v.high.den.mag.len ≤ 35184372087808) (hB : ∀ l u, NV h v l u → BR 1000000 l ∧ BR 1000000 u)
    (H1 : ∀ l u h', h.le h' → NV h v l u → l ≤ u → Kb true h') (H0 : ∀ h', h.le h' → (¬ ∃ l u, NV h v l u ∧ l ≤ u) → Kb false h') : callP (F.ref03_Valid v) Kb h := by
  refine callP_of (fun b h' => b = true ∧ (∃ l u, NV h v l u ∧ l ≤ u) ∨ b = false ∧ ¬ ∃ l u, NV h v l u ∧ l ≤ u) (fun K' hk => ?_) fun b h' hl hv => by
    rcases hv with ⟨rfl, l, u, hn, hb⟩ | ⟨rfl, hn⟩
    · exact H1 l u h' hl hn hb
    · exact H0 h' hl hn
  unfold F.ref03_Valid
  refine rqValid_call hv.1 hl.1 hl.2.1 (fun l h1 hl1 hL => ifP_true rfl ?_) (fun h1 hl1 hn => ifP_false rfl (hk _ _ hl1 (.inr ⟨rfl, fun ⟨l, u, hh, _⟩ => hn ⟨l, hh.1⟩⟩)))
  have hinj : ∀ {h : Hp} {x : TRat} {p q : Rat}, NR h x p → NR h x q → p = q := fun h1 h2 => Rat.ext (h1.1.inj h2.1) (by have := h1.2.inj h2.2; omega)
  refine rqValid_call (hv.2.le hl1) hl.2.2.1 hl.2.2.2 (fun u h2 hl2 hU => ifP_true rfl ?_) (fun h2 hl2 hn => ifP_false rfl (hk _ _ (Hp.le_trans hl1 hl2) (.inr ⟨rfl, fun ⟨l, u, hh, _⟩ => hn ⟨u, hh.2.le hl1⟩⟩)))
  by_cases hUh : ∃ u', NR h v.high u'
  · obtain ⟨u', hu'⟩ := hUh
    have e := hinj hU (hu'.le hl1)
    subst e
    have b := hB l u ⟨hL, hu'⟩
    have hl12 := Hp.le_trans hl1 hl2
    refine rqCmp_call (hL.le hl12) (hu'.le hl12) b.1 b.2 (by omega) (by omega) fun h3 hl3 => hk _ _ (Hp.le_trans hl12 hl3) ?_
    by_cases h4 : l ≤ u
    · exact .inl ⟨decide_eq_true (cmpQ_le.2 h4), l, u, ⟨hL, hu'⟩, h4⟩
    · refine .inr ⟨decide_eq_false (fun hh => h4 (cmpQ_le.1 hh)), fun ⟨l2, u2, hh, hle⟩ => h4 ?_⟩
      rw [hinj hL hh.1, hinj hu' hh.2]; exact hle
  · exfalso
    obtain ⟨lm, hlm, okm⟩ := hv.2.1
    obtain ⟨ld, hld, okd⟩ := hv.2.2
    have i1 := (NI_iff (hlm.le hl1) okm).1 ⟨_, hU.1⟩
    have i2 := (NI_iff (hld.le hl1) okd).1 ⟨_, hU.2⟩
    obtain ⟨m, hm⟩ := (NI_iff hlm okm).2 i1
    obtain ⟨n, hn⟩ := (NI_iff hld okd).2 i2
    have i3 := (NR_iff (hm.le hl1) (hn.le hl1)).1 ⟨u, hU⟩
    exact hUh ((NR_iff hm hn).2 i3)
end
end Den
end

section
/-
  The types of numbers and intervals as arguments.
-/
set_option linter.unusedVariables false
namespace Den
open Go Iv Go.Proofs
open Go.ChangeShapes Go.WideShapes Go.ChangeAt Go.RowKit
theorem laid_prog : laidOutB Tryz.prog = true := by kernel_rfl
theorem rowed_prog : mapsRowed Tryz.prog = true := by kernel_rfl
theorem sized_prog : sizedB Tryz.prog = true := by kernel_rfl
theorem c_bool : Tryz.prog.cellsOf 4 = 1 := by kernel_rfl
theorem by_u32 : Tryz.prog.bytesOf 122 = 4 := by kernel_rfl
theorem c_u32 : Tryz.prog.cellsOf 122 = 1 := by kernel_rfl
theorem c_W : Tryz.prog.cellsOf 35 = 1 := by kernel_rfl
theorem c_I : Tryz.prog.cellsOf 37 = 2 := by kernel_rfl
theorem c_R : Tryz.prog.cellsOf 39 = 4 := by kernel_rfl
theorem c_V : Tryz.prog.cellsOf 59 = 8 := by kernel_rfl
section
variable {H : Type} {enc : TypeId × Value → H} {w : World} {cs : List Value}
theorem wc_of : ∀ {css : List (List Value)}, (∀ c ∈ css, c.length = 1 ∧ Okt enc Tryz.prog w 122 c) → ∃ l : List Nat, css.flatten = wc l ∧ okW l
  | [], _ => ⟨[], rfl, fun d hd => by simp at hd⟩
  | c :: r, h => by
    obtain ⟨l, h1, h2⟩ := wc_of (css := r) fun x hx => h x (List.mem_cons_of_mem _ hx)
    obtain ⟨m, rfl, hw⟩ := (h c (by simp)).2.int Tryz.underlying122
    simp [Lit.wf, IntKind.min, IntKind.max, IntKind.signed, IntKind.bits] at hw
    refine ⟨m.toNat :: l, ?_, fun d hd => ?_⟩
    · rw [List.flatten_cons, h1]
      simp only [wc, List.map_cons, List.cons_append, List.nil_append]
      rw [Int.toNat_of_nonneg (by omega)]
    · rcases List.mem_cons.1 hd with rfl | hd
      · rw [W_eq]; omega
      · exact h2 d hd
theorem okt_W (h : Okt enc Tryz.prog w 35 cs) : ∃ s : Sl, cs = [Lf.sl.up s] ∧ s.len ≤ 35184372087808 ∧ ∃ l, RdW (hpW w) s l ∧ okW l := by
  obtain ⟨s, rfl, h1, h2, css, h3, h4, h5⟩ := h.slice Tryz.underlying35
  rw [c_u32] at h4 h5
  rw [by_u32, show reachBytes = 140737488351232 from rfl] at h2
  obtain ⟨l, hl, ok⟩ := wc_of h4
  rw [hl] at h5
  exact ⟨s, rfl, by omega, l, ⟨h5, h1⟩, ok⟩
theorem okt_I (h : Okt enc Tryz.prog w 37 cs) : ∃ x : TInt, cs = [.bool x.neg, Lf.sl.up x.mag] ∧ x.mag.len ≤ 35184372087808 ∧ AI (hpW w) x := by
  obtain ⟨hl, hf⟩ := h.fields Tryz.underlying37
  rw [c_I] at hl
  have h0 : Okt enc Tryz.prog w 4 ((cs.drop 0).take (Tryz.prog.cellsOf 4)) := hf 0 _ rfl
  have h1 : Okt enc Tryz.prog w 35 ((cs.drop 1).take (Tryz.prog.cellsOf 35)) := hf 1 _ rfl
  rw [c_bool, List.drop_zero] at h0
  rw [c_W] at h1
  obtain ⟨b, hb⟩ := h0.bool Tryz.underlying4
  obtain ⟨s, hs, hm, hr⟩ := okt_W h1
  refine ⟨⟨b, s⟩, ?_, hm, hr⟩
  rw [← List.take_append_drop 1 cs, hb, ← List.take_of_length_le (l := cs.drop 1) (i := 1) (by simp [hl]), hs]
  rfl
theorem okt_RS (h : Okt enc Tryz.prog w 39 cs) : ∃ x : TRat, cs = [.bool x.num.neg, Lf.sl.up x.num.mag, .bool x.den.neg, Lf.sl.up x.den.mag] ∧ (x.num.mag.len ≤ 35184372087808 ∧ x.den.mag.len ≤ 35184372087808) ∧ AR (hpW w) x := by
  obtain ⟨hl, hf⟩ := h.fields Tryz.underlying39
  rw [c_R] at hl
  have h0 : Okt enc Tryz.prog w 37 ((cs.drop 0).take (Tryz.prog.cellsOf 37)) := hf 0 _ rfl
  have h1 : Okt enc Tryz.prog w 37 ((cs.drop 2).take (Tryz.prog.cellsOf 37)) := hf 1 _ rfl
  rw [c_I, List.drop_zero] at h0
  rw [c_I] at h1
  obtain ⟨x, hx, mx, ax⟩ := okt_I h0
  obtain ⟨y, hy, my, ay⟩ := okt_I h1
  refine ⟨⟨x, y⟩, ?_, ⟨mx, my⟩, ax, ay⟩
  rw [← List.take_append_drop 2 cs, hx, ← List.take_of_length_le (l := cs.drop 2) (i := 2) (by simp [hl]), hy]
  rfl
theorem okt_R (h : Okt enc Tryz.prog w 39 cs) : ∃ x : TRat, cs = [.bool x.num.neg, Lf.sl.up x.num.mag, .bool x.den.neg, Lf.sl.up x.den.mag] ∧ (x.num.mag.len ≤ 35184372088832 ∧ x.den.mag.len ≤ 35184372088832) ∧ AR (hpW w) x := by
  obtain ⟨x, h1, h2, h3⟩ := okt_RS h
  exact ⟨x, h1, ⟨by omega, by omega⟩, h3⟩
theorem okt_V (h : Okt enc Tryz.prog w 59 cs) : ∃ x : TInterval, cs = [.bool x.low.num.neg, Lf.sl.up x.low.num.mag, .bool x.low.den.neg, Lf.sl.up x.low.den.mag, .bool x.high.num.neg, Lf.sl.up x.high.num.mag, .bool x.high.den.neg, Lf.sl.up x.high.den.mag] ∧
    (x.low.num.mag.len ≤ 35184372088832 ∧ x.low.den.mag.len ≤ 35184372088832 ∧ x.high.num.mag.len ≤ 35184372088832 ∧ x.high.den.mag.len ≤ 35184372088832) ∧ AV (hpW w) x := by
  obtain ⟨hl, hf⟩ := h.fields Tryz.underlying59
  rw [c_V] at hl
  have h0 : Okt enc Tryz.prog w 39 ((cs.drop 0).take (Tryz.prog.cellsOf 39)) := hf 0 _ rfl
  have h1 : Okt enc Tryz.prog w 39 ((cs.drop 4).take (Tryz.prog.cellsOf 39)) := hf 1 _ rfl
  rw [c_R, List.drop_zero] at h0
  rw [c_R] at h1
  obtain ⟨x, hx, mx, ax⟩ := okt_R h0
  obtain ⟨y, hy, my, ay⟩ := okt_R h1
  refine ⟨⟨x, y⟩, ?_, ⟨mx.1, mx.2, my.1, my.2⟩, ax, ay⟩
  rw [← List.take_append_drop 4 cs, hx, ← List.take_of_length_le (l := cs.drop 4) (i := 4) (by simp [hl]), hy]
  rfl
theorem c_P : Tryz.prog.cellsOf 64 = 8 := by kernel_rfl
theorem okt_P (h : Okt enc Tryz.prog w 64 cs) : ∃ x : A2_TRat, cs = [.bool x.c0.num.neg, Lf.sl.up x.c0.num.mag, .bool x.c0.den.neg, Lf.sl.up x.c0.den.mag, .bool x.c1.num.neg, Lf.sl.up x.c1.num.mag, .bool x.c1.den.neg, Lf.sl.up x.c1.den.mag] ∧ AR (hpW w) x.c0 ∧ AR (hpW w) x.c1 := by
  obtain ⟨hl, hf⟩ := h.items Tryz.underlying64
  rw [c_P] at hl
  have h0 := hf 0 (by decide)
  have h1 := hf 1 (by decide)
  simp only [c_R, List.drop_zero, Nat.zero_mul, Nat.one_mul] at h0 h1
  obtain ⟨x, hx, mx, ax⟩ := okt_R h0
  obtain ⟨y, hy, my, ay⟩ := okt_R h1
  refine ⟨⟨x, y⟩, ?_, ax, ay⟩
  rw [← List.take_append_drop 4 cs, hx, ← List.take_of_length_le (l := cs.drop 4) (i := 4) (by simp [hl]), hy]
  rfl
end
/-- An argument that is a struct or an array. -/
theorem agg_of {P : Program} {W : World} {r : Reach} {b : Nat} {t : TypeId} {v : Value} (h : Value.okWide P W r b t v) (hu : isAgg? P t = some true) : ∃ c : List Value, v = .agg c.toArray ∧ v.cells.toList = c := by
  unfold isAgg? at hu
  unfold Value.okWide at h
  split at h
  · obtain ⟨cs, rfl, _⟩ := h; exact ⟨cs.toList, by simp, by simp [Value.cells]⟩
  · obtain ⟨cs, rfl, _⟩ := h; exact ⟨cs.toList, by simp, by simp [Value.cells]⟩
  · rename_i h1 h2
    split at hu
    · rename_i hh; exact absurd hh (h1 _)
    · rename_i hh; exact absurd hh (h2 _ _)
    · cases hu
    · cases hu
end Den
end

section
/- MADE BY fbuild.py: the bodies of the functions, in typed shallow form. No program in sight. -/
set_option linter.unusedVariables false
set_option maxRecDepth 10000
namespace Den
open Go
structure A3_TRat where
  c0 : TRat
  c1 : TRat
  c2 : TRat
def tyA3_TRat : Ty A3_TRat := Ty.agg [.bool, .sl, .bool, .sl, .bool, .sl, .bool, .sl, .bool, .sl, .bool, .sl] (fun x => (x.c0.num.neg, x.c0.num.mag, x.c0.den.neg, x.c0.den.mag, x.c1.num.neg, x.c1.num.mag, x.c1.den.neg, x.c1.den.mag, x.c2.num.neg, x.c2.num.mag, x.c2.den.neg, x.c2.den.mag, ())) (fun y => ⟨⟨⟨y.1, y.2.1⟩, ⟨y.2.2.1, y.2.2.2.1⟩⟩, ⟨⟨y.2.2.2.2.1, y.2.2.2.2.2.1⟩, ⟨y.2.2.2.2.2.2.1, y.2.2.2.2.2.2.2.1⟩⟩, ⟨⟨y.2.2.2.2.2.2.2.2.1, y.2.2.2.2.2.2.2.2.2.1⟩, ⟨y.2.2.2.2.2.2.2.2.2.2.1, y.2.2.2.2.2.2.2.2.2.2.2.1⟩⟩⟩) (fun _ => rfl) (fun _ => rfl)
namespace F
def law04_rats (l : Sl) (K : Sl → Hp → Prop) (h : Hp) : Prop :=
 (loopP (S := Sl × Int × Unit) (fun s1 k2 h1 =>
 (ifP (decide (s1.2.1 < (l.len : Int)))
 (idxP l s1.2.1 2 fun a3 =>
 (ldL (.int .i64) (a3.add 0) (fun x4_0 =>
 (ldL (.int .i64) (a3.add 1) (fun x4_1 =>
 (callP (ref02_Frac x4_0 x4_1) (fun r5 h2 =>
 (appP 4 64 [.bool false, .slice nilS.a nilS.len nilS.cap, .bool false, .slice nilS.a nilS.len nilS.cap] s1.1 1 [.bool r5.num.neg, .slice r5.num.mag.a r5.num.mag.len r5.num.mag.cap, .bool r5.den.neg, .slice r5.den.mag.a r5.den.mag.len r5.den.mag.cap] (fun w6 h3 =>
 (k2 (w6, (IntKind.i64.wrap (s1.2.1 + 1)), ()) h3)) h2)) h1)) h1)) h1))
 (K s1.1 h1)))
 (nilS, 0, ()) h)
def slices_Clone_api_Rat_api_Rat (s : Sl) (K : Sl → Hp → Prop) (h : Hp) : Prop :=
 (ifP s.a.isNone
 (K nilS h)
 (newP [] (fun p1 h1 =>
 (rdO s.a (s.len * 4) (fun vs2 =>
 (appP 4 64 [.bool false, .slice nilS.a nilS.len nilS.cap, .bool false, .slice nilS.a nilS.len nilS.cap] (⟨some p1, 0, 0⟩ : Sl) s.len vs2 (fun w3 h2 =>
 (K w3 h2)) h1)) h1)) h))
def polynomial_Trim (a : Sl) (K : Sl → Hp → Prop) (h : Hp) : Prop :=
 (joinP (S := Int × Unit) (fun s1 h1 =>
 (slP a 0 s1.1 4 fun c3 =>
 (callP (slices_Clone_api_Rat_api_Rat c3) (fun r4 h2 =>
 (K r4 h2)) h1)))
 (fun k2 =>
 (loopP (S := Int × Unit) (fun s5 k6 h3 =>
 (joinP (S := Unit) (fun s7 h4 =>
 (k6 ((IntKind.i64.wrap (s5.1 - 1)), ()) h4))
 (fun k8 =>
 (ifP (decide (s5.1 > 0))
 (idxP a (IntKind.i64.wrap (s5.1 - 1)) 4 fun a9 =>
 (ldL (.bool) (a9.add 0) (fun x10_0 =>
 (ldL (.sl) (a9.add 1) (fun x10_1 =>
 (ldL (.bool) (a9.add 2) (fun x10_2 =>
 (ldL (.sl) (a9.add 3) (fun x10_3 =>
 (callP (rational_Sign (⟨(⟨x10_0, x10_1⟩ : TInt), (⟨x10_2, x10_3⟩ : TInt)⟩ : TRat)) (fun r11 h5 =>
 (ifP (r11 == 0)
 (k8 () h5)
 (k2 (s5.1, ()) h5))) h3)) h3)) h3)) h3)) h3))
 (k2 (s5.1, ()) h3)))))
 ((a.len : Int), ()) h)))
def polynomial_Degree (a : Sl) (K : Int → Hp → Prop) (h : Hp) : Prop :=
 (callP (polynomial_Trim a) (fun r1 h1 =>
 (K (IntKind.i64.wrap ((r1.len : Int) - 1)) h1)) h)
def math_bits_Mul64 (x : Int) (y : Int) (K : (Int × Int) → Hp → Prop) (h : Hp) : Prop :=
 (0 ≤ (32 : Int) ∧
 (0 ≤ (32 : Int) ∧
 (0 ≤ (32 : Int) ∧
 (0 ≤ (32 : Int) ∧
 (0 ≤ (32 : Int) ∧
 (K ((IntKind.u64.wrap ((IntKind.u64.wrap ((IntKind.u64.wrap (((x : Int).fdiv (2 ^ (min (32 : Int).toNat IntKind.u64.bits))) * ((y : Int).fdiv (2 ^ (min (32 : Int).toNat IntKind.u64.bits))))) + (((IntKind.u64.wrap ((IntKind.u64.wrap (((x : Int).fdiv (2 ^ (min (32 : Int).toNat IntKind.u64.bits))) * (ibits .and .u64 y 4294967295))) + (((IntKind.u64.wrap ((ibits .and .u64 x 4294967295) * (ibits .and .u64 y 4294967295))) : Int).fdiv (2 ^ (min (32 : Int).toNat IntKind.u64.bits))))) : Int).fdiv (2 ^ (min (32 : Int).toNat IntKind.u64.bits))))) + (((IntKind.u64.wrap ((ibits .and .u64 (IntKind.u64.wrap ((IntKind.u64.wrap (((x : Int).fdiv (2 ^ (min (32 : Int).toNat IntKind.u64.bits))) * (ibits .and .u64 y 4294967295))) + (((IntKind.u64.wrap ((ibits .and .u64 x 4294967295) * (ibits .and .u64 y 4294967295))) : Int).fdiv (2 ^ (min (32 : Int).toNat IntKind.u64.bits))))) 4294967295) + (IntKind.u64.wrap ((ibits .and .u64 x 4294967295) * ((y : Int).fdiv (2 ^ (min (32 : Int).toNat IntKind.u64.bits))))))) : Int).fdiv (2 ^ (min (32 : Int).toNat IntKind.u64.bits))))), (IntKind.u64.wrap (x * y))) h))))))
def math_bits_Mul (x : Int) (y : Int) (K : (Int × Int) → Hp → Prop) (h : Hp) : Prop :=
 (callP (math_bits_Mul64 x y) (fun r1 h1 =>
 (K (r1.1, r1.2) h1)) h)
def slices_Repeat_api_Rat_api_Rat (x : Sl) (count : Int) (K : Sl → Hp → Prop) (h : Hp) : Prop :=
 (joinP (S := Unit) (fun s1 h1 =>
 (callP (math_bits_Mul (IntKind.u64.wrap ((x.len : Int))) (IntKind.u64.wrap (count))) (fun r3 h2 =>
 (joinP (S := Unit) (fun s4 h3 =>
 (mkP (IntKind.i64.wrap (r3.2)) (IntKind.i64.wrap (r3.2)) 64 [.bool false, .slice nilS.a nilS.len nilS.cap, .bool false, .slice nilS.a nilS.len nilS.cap] (fun m6 h4 =>
 (cpP 4 m6 x (fun n7 h5 =>
 (loopP (S := Int × Unit) (fun s8 k9 h6 =>
 (ifP (decide (s8.1 < (m6.len : Int)))
 (slP m6 s8.1 (m6.len : Int) 4 fun c10 =>
 (slP m6 0 s8.1 4 fun c11 =>
 (cpP 4 c10 c11 (fun n12 h7 =>
 (k9 ((IntKind.i64.wrap (s8.1 + (n12 : Int))), ()) h7)) h6)))
 (K m6 h6)))
 ((n7 : Int), ()) h5)) h4)) h3))
 (fun k5 =>
 (ifP (decide (r3.1 > 0))
 False
 (ifP (decide (r3.2 > 9223372036854775807))
 False
 (k5 () h2)))))) h1))
 (fun k2 =>
 (ifP (decide (count < 0))
 False
 (k2 () h))))
def polynomial_zeros (n : Int) (K : Sl → Hp → Prop) (h : Hp) : Prop :=
 (callP (rational_FromInt 0) (fun r1 h1 =>
 (newP [.bool r1.num.neg, .slice r1.num.mag.a r1.num.mag.len r1.num.mag.cap, .bool r1.den.neg, .slice r1.den.mag.a r1.den.mag.len r1.den.mag.cap] (fun p2 h2 =>
 (callP (slices_Repeat_api_Rat_api_Rat (⟨some p2, 1, 1⟩ : Sl) n) (fun r3 h3 =>
 (K r3 h3)) h2)) h1)) h)
def polynomial_divide (a : Sl) (b : Sl) (K : (Sl × Sl) → Hp → Prop) (h : Hp) : Prop :=
 (callP (polynomial_Trim b) (fun r1 h1 =>
 (callP (polynomial_Trim a) (fun r2 h2 =>
 (callP (polynomial_zeros (maxI 0 (IntKind.i64.wrap ((IntKind.i64.wrap ((r2.len : Int) - (r1.len : Int))) + 1)))) (fun r3 h3 =>
 (loopP (S := Int × Unit) (fun s4 k5 h4 =>
 (ifP (decide (s4.1 ≥ 0))
 (idxP r2 (IntKind.i64.wrap ((IntKind.i64.wrap (s4.1 + (r1.len : Int))) - 1)) 4 fun a6 =>
 (ldL (.bool) (a6.add 0) (fun x7_0 =>
 (ldL (.sl) (a6.add 1) (fun x7_1 =>
 (ldL (.bool) (a6.add 2) (fun x7_2 =>
 (ldL (.sl) (a6.add 3) (fun x7_3 =>
 (idxP r1 (IntKind.i64.wrap ((r1.len : Int) - 1)) 4 fun a8 =>
 (ldL (.bool) (a8.add 0) (fun x9_0 =>
 (ldL (.sl) (a8.add 1) (fun x9_1 =>
 (ldL (.bool) (a8.add 2) (fun x9_2 =>
 (ldL (.sl) (a8.add 3) (fun x9_3 =>
 (callP (rational_Div (⟨(⟨x7_0, x7_1⟩ : TInt), (⟨x7_2, x7_3⟩ : TInt)⟩ : TRat) (⟨(⟨x9_0, x9_1⟩ : TInt), (⟨x9_2, x9_3⟩ : TInt)⟩ : TRat)) (fun r10 h5 =>
 (idxP r3 s4.1 4 fun a11 =>
 (stP a11 [.bool r10.1.num.neg, .slice r10.1.num.mag.a r10.1.num.mag.len r10.1.num.mag.cap, .bool r10.1.den.neg, .slice r10.1.den.mag.a r10.1.den.mag.len r10.1.den.mag.cap] (fun h6 =>
 (loopP (S := Int × Unit) (fun s12 k13 h7 =>
 (ifP (decide (s12.1 < (r1.len : Int)))
 (idxP r1 s12.1 4 fun a14 =>
 (ldL (.bool) (a14.add 0) (fun x15_0 =>
 (ldL (.sl) (a14.add 1) (fun x15_1 =>
 (ldL (.bool) (a14.add 2) (fun x15_2 =>
 (ldL (.sl) (a14.add 3) (fun x15_3 =>
 (idxP r2 (IntKind.i64.wrap (s4.1 + s12.1)) 4 fun a16 =>
 (ldL (.bool) (a16.add 0) (fun x17_0 =>
 (ldL (.sl) (a16.add 1) (fun x17_1 =>
 (ldL (.bool) (a16.add 2) (fun x17_2 =>
 (ldL (.sl) (a16.add 3) (fun x17_3 =>
 (idxP r3 s4.1 4 fun a18 =>
 (ldL (.bool) (a18.add 0) (fun x19_0 =>
 (ldL (.sl) (a18.add 1) (fun x19_1 =>
 (ldL (.bool) (a18.add 2) (fun x19_2 =>
 (ldL (.sl) (a18.add 3) (fun x19_3 =>
 (callP (rational_Mul (⟨(⟨x19_0, x19_1⟩ : TInt), (⟨x19_2, x19_3⟩ : TInt)⟩ : TRat) (⟨(⟨x15_0, x15_1⟩ : TInt), (⟨x15_2, x15_3⟩ : TInt)⟩ : TRat)) (fun r20 h8 =>
 (callP (rational_Sub (⟨(⟨x17_0, x17_1⟩ : TInt), (⟨x17_2, x17_3⟩ : TInt)⟩ : TRat) r20) (fun r21 h9 =>
 (idxP r2 (IntKind.i64.wrap (s4.1 + s12.1)) 4 fun a22 =>
 (stP a22 [.bool r21.num.neg, .slice r21.num.mag.a r21.num.mag.len r21.num.mag.cap, .bool r21.den.neg, .slice r21.den.mag.a r21.den.mag.len r21.den.mag.cap] (fun h10 =>
 (k13 ((IntKind.i64.wrap (s12.1 + 1)), ()) h10)) h9))) h8)) h7)) h7)) h7)) h7)) h7))) h7)) h7)) h7)) h7))) h7)) h7)) h7)) h7))
 (k5 ((IntKind.i64.wrap (s4.1 - 1)), ()) h7)))
 (0, ()) h6)) h5))) h4)) h4)) h4)) h4)) h4))) h4)) h4)) h4)) h4))
 (callP (polynomial_Trim r3) (fun r23 h11 =>
 (callP (polynomial_Trim r2) (fun r24 h12 =>
 (K (r23, r24) h12)) h11)) h4)))
 ((IntKind.i64.wrap ((r2.len : Int) - (r1.len : Int))), ()) h3)) h2)) h1)) h)
def polynomial_DivMod (a : Sl) (b : Sl) (K : (Sl × Sl × Int) → Hp → Prop) (h : Hp) : Prop :=
 (callP (polynomial_Degree b) (fun r1 h1 =>
 (ifP (decide (r1 < 0))
 (K (nilS, nilS, 6) h1)
 (callP (polynomial_divide a b) (fun r2 h2 =>
 (K (r2.1, r2.2, 0) h2)) h1))) h)
def polynomial_Scale (a : Sl) (n : TRat) (K : Sl → Hp → Prop) (h : Hp) : Prop :=
 (mkP (a.len : Int) (a.len : Int) 64 [.bool false, .slice nilS.a nilS.len nilS.cap, .bool false, .slice nilS.a nilS.len nilS.cap] (fun m1 h1 =>
 (loopP (S := Int × Unit) (fun s2 k3 h2 =>
 (ifP (decide (s2.1 < (a.len : Int)))
 (idxP a s2.1 4 fun a4 =>
 (ldL (.bool) (a4.add 0) (fun x5_0 =>
 (ldL (.sl) (a4.add 1) (fun x5_1 =>
 (ldL (.bool) (a4.add 2) (fun x5_2 =>
 (ldL (.sl) (a4.add 3) (fun x5_3 =>
 (callP (rational_Mul (⟨(⟨x5_0, x5_1⟩ : TInt), (⟨x5_2, x5_3⟩ : TInt)⟩ : TRat) n) (fun r6 h3 =>
 (idxP m1 s2.1 4 fun a7 =>
 (stP a7 [.bool r6.num.neg, .slice r6.num.mag.a r6.num.mag.len r6.num.mag.cap, .bool r6.den.neg, .slice r6.den.mag.a r6.den.mag.len r6.den.mag.cap] (fun h4 =>
 (k3 ((IntKind.i64.wrap (s2.1 + 1)), ()) h4)) h3))) h2)) h2)) h2)) h2)) h2))
 (callP (polynomial_Trim m1) (fun r8 h5 =>
 (K r8 h5)) h2)))
 (0, ()) h1)) h)
def polynomial_monic (a : Sl) (K : Sl → Hp → Prop) (h : Hp) : Prop :=
 (callP (polynomial_Trim a) (fun r1 h1 =>
 (ifP ((r1.len : Int) == 0)
 (K nilS h1)
 (idxP r1 (IntKind.i64.wrap ((r1.len : Int) - 1)) 4 fun a2 =>
 (ldL (.bool) (a2.add 0) (fun x3_0 =>
 (ldL (.sl) (a2.add 1) (fun x3_1 =>
 (ldL (.bool) (a2.add 2) (fun x3_2 =>
 (ldL (.sl) (a2.add 3) (fun x3_3 =>
 (callP (rational_FromInt 1) (fun r4 h2 =>
 (callP (rational_Div r4 (⟨(⟨x3_0, x3_1⟩ : TInt), (⟨x3_2, x3_3⟩ : TInt)⟩ : TRat)) (fun r5 h3 =>
 (callP (polynomial_Scale r1 (⟨(⟨r5.1.num.neg, r5.1.num.mag⟩ : TInt), (⟨r5.1.den.neg, r5.1.den.mag⟩ : TInt)⟩ : TRat)) (fun r6 h4 =>
 (K r6 h4)) h3)) h2)) h1)) h1)) h1)) h1)) h1)))) h)
def polynomial_Derivative (a : Sl) (K : Sl → Hp → Prop) (h : Hp) : Prop :=
 (loopP (S := Sl × Int × Unit) (fun s1 k2 h1 =>
 (ifP (decide (s1.2.1 < (a.len : Int)))
 (joinP (S := Sl × Unit) (fun s3 h2 =>
 (k2 (s3.1, (IntKind.i64.wrap (s1.2.1 + 1)), ()) h2))
 (fun k4 =>
 (idxP a s1.2.1 4 fun a5 =>
 (ldL (.bool) (a5.add 0) (fun x6_0 =>
 (ldL (.sl) (a5.add 1) (fun x6_1 =>
 (ldL (.bool) (a5.add 2) (fun x6_2 =>
 (ldL (.sl) (a5.add 3) (fun x6_3 =>
 (ifP (decide (s1.2.1 > 0))
 (callP (rational_FromInt s1.2.1) (fun r7 h3 =>
 (callP (rational_Mul (⟨(⟨x6_0, x6_1⟩ : TInt), (⟨x6_2, x6_3⟩ : TInt)⟩ : TRat) r7) (fun r8 h4 =>
 (appP 4 64 [.bool false, .slice nilS.a nilS.len nilS.cap, .bool false, .slice nilS.a nilS.len nilS.cap] s1.1 1 [.bool r8.num.neg, .slice r8.num.mag.a r8.num.mag.len r8.num.mag.cap, .bool r8.den.neg, .slice r8.den.mag.a r8.den.mag.len r8.den.mag.cap] (fun w9 h5 =>
 (k4 (w9, ()) h5)) h4)) h3)) h1)
 (k4 (s1.1, ()) h1))) h1)) h1)) h1)) h1))))
 (callP (polynomial_Trim s1.1) (fun r10 h6 =>
 (K r10 h6)) h1)))
 (nilS, 0, ()) h)
def polynomial_GCD (a : Sl) (b : Sl) (K : Sl → Hp → Prop) (h : Hp) : Prop :=
 (callP (polynomial_monic a) (fun r1 h1 =>
 (callP (polynomial_monic b) (fun r2 h2 =>
 (loopP (S := Sl × Sl × Unit) (fun s3 k4 h3 =>
 (ifP (decide ((s3.2.1.len : Int) > 0))
 (callP (polynomial_divide s3.1 s3.2.1) (fun r5 h4 =>
 (callP (polynomial_monic r5.2) (fun r6 h5 =>
 (k4 (s3.2.1, r6, ()) h5)) h4)) h3)
 (K s3.1 h3)))
 (r1, r2, ()) h2)) h1)) h)
def polynomial_Squarefree (a : Sl) (K : Sl → Hp → Prop) (h : Hp) : Prop :=
 (callP (polynomial_monic a) (fun r1 h1 =>
 (ifP ((r1.len : Int) == 0)
 (K nilS h1)
 (callP (polynomial_Derivative r1) (fun r2 h2 =>
 (callP (polynomial_GCD r1 r2) (fun r3 h3 =>
 (callP (polynomial_divide r1 r3) (fun r4 h4 =>
 (callP (polynomial_monic r4.1) (fun r5 h5 =>
 (K r5 h5)) h4)) h3)) h2)) h1))) h)
def polynomial_Primitive (a : Sl) (K : Sl → Hp → Prop) (h : Hp) : Prop :=
 (callP (polynomial_monic a) (fun r1 h1 =>
 (callP (integer_FromInt 1) (fun r2 h2 =>
 (loopP (S := (Bool × Sl × Unit) × Int × Unit) (fun s3 k4 h3 =>
 (ifP (decide (s3.2.1 < (r1.len : Int)))
 (idxP r1 s3.2.1 4 fun a5 =>
 (ldL (.bool) (a5.add 0) (fun x6_0 =>
 (ldL (.sl) (a5.add 1) (fun x6_1 =>
 (ldL (.bool) (a5.add 2) (fun x6_2 =>
 (ldL (.sl) (a5.add 3) (fun x6_3 =>
 (callP (integer_GCD (⟨s3.1.1, s3.1.2.1⟩ : TInt) (⟨x6_2, x6_3⟩ : TInt)) (fun r7 h4 =>
 (callP (integer_DivMod (⟨x6_2, x6_3⟩ : TInt) r7) (fun r8 h5 =>
 (callP (integer_Mul (⟨s3.1.1, s3.1.2.1⟩ : TInt) (⟨r8.1.neg, r8.1.mag⟩ : TInt)) (fun r9 h6 =>
 (k4 ((r9.neg, r9.mag, ()), (IntKind.i64.wrap (s3.2.1 + 1)), ()) h6)) h5)) h4)) h3)) h3)) h3)) h3)) h3))
 (mkP (r1.len : Int) (r1.len : Int) 32 [.bool false, .slice nilS.a nilS.len nilS.cap] (fun m10 h7 =>
 (loopP (S := (Bool × Sl × Unit) × Int × Unit) (fun s11 k12 h8 =>
 (ifP (decide (s11.2.1 < (r1.len : Int)))
 (idxP r1 s11.2.1 4 fun a13 =>
 (ldL (.bool) (a13.add 0) (fun x14_0 =>
 (ldL (.sl) (a13.add 1) (fun x14_1 =>
 (ldL (.bool) (a13.add 2) (fun x14_2 =>
 (ldL (.sl) (a13.add 3) (fun x14_3 =>
 (callP (integer_DivMod (⟨s3.1.1, s3.1.2.1⟩ : TInt) (⟨x14_2, x14_3⟩ : TInt)) (fun r15 h9 =>
 (callP (integer_Mul (⟨x14_0, x14_1⟩ : TInt) (⟨r15.1.neg, r15.1.mag⟩ : TInt)) (fun r16 h10 =>
 (idxP m10 s11.2.1 2 fun a17 =>
 (stP a17 [.bool r16.neg, .slice r16.mag.a r16.mag.len r16.mag.cap] (fun h11 =>
 (idxP m10 s11.2.1 2 fun a18 =>
 (ldL (.bool) (a18.add 0) (fun x19_0 =>
 (ldL (.sl) (a18.add 1) (fun x19_1 =>
 (callP (integer_GCD (⟨s11.1.1, s11.1.2.1⟩ : TInt) (⟨x19_0, x19_1⟩ : TInt)) (fun r20 h12 =>
 (k12 ((r20.neg, r20.mag, ()), (IntKind.i64.wrap (s11.2.1 + 1)), ()) h12)) h11)) h11)) h11))) h10))) h9)) h8)) h8)) h8)) h8)) h8))
 (loopP (S := Int × Unit) (fun s21 k22 h13 =>
 (ifP (decide (s21.1 < (m10.len : Int)))
 (idxP m10 s21.1 2 fun a23 =>
 (ldL (.bool) (a23.add 0) (fun x24_0 =>
 (ldL (.sl) (a23.add 1) (fun x24_1 =>
 (callP (integer_DivMod (⟨x24_0, x24_1⟩ : TInt) (⟨s11.1.1, s11.1.2.1⟩ : TInt)) (fun r25 h14 =>
 (idxP m10 s21.1 2 fun a26 =>
 (stP a26 [.bool r25.1.neg, .slice r25.1.mag.a r25.1.mag.len r25.1.mag.cap] (fun h15 =>
 (k22 ((IntKind.i64.wrap (s21.1 + 1)), ()) h15)) h14))) h13)) h13)) h13))
 (K m10 h13)))
 (0, ()) h8)))
 ((false, nilS, ()), 0, ()) h7)) h3)))
 ((r2.neg, r2.mag, ()), 0, ()) h2)) h1)) h)
def polynomial_Bound (a : Sl) (K : TRat → Hp → Prop) (h : Hp) : Prop :=
 (callP (polynomial_monic a) (fun r1 h1 =>
 (ifP (decide ((r1.len : Int) < 2))
 (callP (rational_FromInt 0) (fun r2 h2 =>
 (K r2 h2)) h1)
 (callP (rational_FromInt 0) (fun r3 h3 =>
 (slP r1 0 (IntKind.i64.wrap ((r1.len : Int) - 1)) 4 fun c4 =>
 (loopP (S := (Bool × Sl × Bool × Sl × Unit) × Int × Unit) (fun s5 k6 h4 =>
 (ifP (decide (s5.2.1 < (c4.len : Int)))
 (joinP (S := (Bool × Sl × Bool × Sl × Unit) × Unit) (fun s7 h5 =>
 (k6 ((s7.1.1, s7.1.2.1, s7.1.2.2.1, s7.1.2.2.2.1, ()), (IntKind.i64.wrap (s5.2.1 + 1)), ()) h5))
 (fun k8 =>
 (idxP c4 s5.2.1 4 fun a9 =>
 (ldL (.bool) (a9.add 0) (fun x10_0 =>
 (ldL (.sl) (a9.add 1) (fun x10_1 =>
 (ldL (.bool) (a9.add 2) (fun x10_2 =>
 (ldL (.sl) (a9.add 3) (fun x10_3 =>
 (joinP (S := (Bool × Sl × Bool × Sl × Unit) × Unit) (fun s11 h6 =>
 (callP (rational_Cmp (⟨(⟨s11.1.1, s11.1.2.1⟩ : TInt), (⟨s11.1.2.2.1, s11.1.2.2.2.1⟩ : TInt)⟩ : TRat) (⟨(⟨s5.1.1, s5.1.2.1⟩ : TInt), (⟨s5.1.2.2.1, s5.1.2.2.2.1⟩ : TInt)⟩ : TRat)) (fun r13 h7 =>
 (ifP (decide (r13 > 0))
 (k8 ((s11.1.1, s11.1.2.1, s11.1.2.2.1, s11.1.2.2.2.1, ()), ()) h7)
 (k8 ((s5.1.1, s5.1.2.1, s5.1.2.2.1, s5.1.2.2.2.1, ()), ()) h7))) h6))
 (fun k12 =>
 (callP (rational_Sign (⟨(⟨x10_0, x10_1⟩ : TInt), (⟨x10_2, x10_3⟩ : TInt)⟩ : TRat)) (fun r14 h8 =>
 (ifP (decide (r14 < 0))
 (callP (rational_Neg (⟨(⟨x10_0, x10_1⟩ : TInt), (⟨x10_2, x10_3⟩ : TInt)⟩ : TRat)) (fun r15 h9 =>
 (k12 ((r15.num.neg, r15.num.mag, r15.den.neg, r15.den.mag, ()), ()) h9)) h8)
 (k12 ((x10_0, x10_1, x10_2, x10_3, ()), ()) h8))) h4)))) h4)) h4)) h4)) h4))))
 (callP (rational_FromInt 1) (fun r16 h10 =>
 (callP (rational_Add (⟨(⟨s5.1.1, s5.1.2.1⟩ : TInt), (⟨s5.1.2.2.1, s5.1.2.2.2.1⟩ : TInt)⟩ : TRat) r16) (fun r17 h11 =>
 (K r17 h11)) h10)) h4)))
 ((r3.num.neg, r3.num.mag, r3.den.neg, r3.den.mag, ()), 0, ()) h3))) h1))) h)
def slices_Backward_api_Rat_api_Rat (s : Sl) (K : Addr → Hp → Prop) (h : Hp) : Prop :=
 (newP [.slice s.a s.len s.cap] (fun p1 h1 =>
 (K p1 h1)) h)
def polynomial_Mul (a : Sl) (b : Sl) (K : Sl → Hp → Prop) (h : Hp) : Prop :=
 (joinP (S := Unit) (fun s1 h1 =>
 (callP (polynomial_zeros (IntKind.i64.wrap ((IntKind.i64.wrap ((a.len : Int) + (b.len : Int))) - 1))) (fun r3 h2 =>
 (loopP (S := Int × Unit) (fun s4 k5 h3 =>
 (ifP (decide (s4.1 < (a.len : Int)))
 (idxP a s4.1 4 fun a6 =>
 (ldL (.bool) (a6.add 0) (fun x7_0 =>
 (ldL (.sl) (a6.add 1) (fun x7_1 =>
 (ldL (.bool) (a6.add 2) (fun x7_2 =>
 (ldL (.sl) (a6.add 3) (fun x7_3 =>
 (loopP (S := Int × Unit) (fun s8 k9 h4 =>
 (ifP (decide (s8.1 < (b.len : Int)))
 (idxP b s8.1 4 fun a10 =>
 (ldL (.bool) (a10.add 0) (fun x11_0 =>
 (ldL (.sl) (a10.add 1) (fun x11_1 =>
 (ldL (.bool) (a10.add 2) (fun x11_2 =>
 (ldL (.sl) (a10.add 3) (fun x11_3 =>
 (idxP r3 (IntKind.i64.wrap (s4.1 + s8.1)) 4 fun a12 =>
 (ldL (.bool) (a12.add 0) (fun x13_0 =>
 (ldL (.sl) (a12.add 1) (fun x13_1 =>
 (ldL (.bool) (a12.add 2) (fun x13_2 =>
 (ldL (.sl) (a12.add 3) (fun x13_3 =>
 (callP (rational_Mul (⟨(⟨x7_0, x7_1⟩ : TInt), (⟨x7_2, x7_3⟩ : TInt)⟩ : TRat) (⟨(⟨x11_0, x11_1⟩ : TInt), (⟨x11_2, x11_3⟩ : TInt)⟩ : TRat)) (fun r14 h5 =>
 (callP (rational_Add (⟨(⟨x13_0, x13_1⟩ : TInt), (⟨x13_2, x13_3⟩ : TInt)⟩ : TRat) r14) (fun r15 h6 =>
 (idxP r3 (IntKind.i64.wrap (s4.1 + s8.1)) 4 fun a16 =>
 (stP a16 [.bool r15.num.neg, .slice r15.num.mag.a r15.num.mag.len r15.num.mag.cap, .bool r15.den.neg, .slice r15.den.mag.a r15.den.mag.len r15.den.mag.cap] (fun h7 =>
 (k9 ((IntKind.i64.wrap (s8.1 + 1)), ()) h7)) h6))) h5)) h4)) h4)) h4)) h4)) h4))) h4)) h4)) h4)) h4))
 (k5 ((IntKind.i64.wrap (s4.1 + 1)), ()) h4)))
 (0, ()) h3)) h3)) h3)) h3)) h3))
 (callP (polynomial_Trim r3) (fun r17 h8 =>
 (K r17 h8)) h3)))
 (0, ()) h2)) h1))
 (fun k2 =>
 (ifP ((a.len : Int) == 0)
 (K nilS h)
 (ifP ((b.len : Int) == 0)
 (K nilS h)
 (k2 () h)))))
def polynomial_Add (a : Sl) (b : Sl) (K : Sl → Hp → Prop) (h : Hp) : Prop :=
 (callP (polynomial_zeros (maxI (a.len : Int) (b.len : Int))) (fun r1 h1 =>
 (cpP 4 r1 a (fun n2 h2 =>
 (loopP (S := Int × Unit) (fun s3 k4 h3 =>
 (ifP (decide (s3.1 < (b.len : Int)))
 (idxP b s3.1 4 fun a5 =>
 (ldL (.bool) (a5.add 0) (fun x6_0 =>
 (ldL (.sl) (a5.add 1) (fun x6_1 =>
 (ldL (.bool) (a5.add 2) (fun x6_2 =>
 (ldL (.sl) (a5.add 3) (fun x6_3 =>
 (idxP r1 s3.1 4 fun a7 =>
 (ldL (.bool) (a7.add 0) (fun x8_0 =>
 (ldL (.sl) (a7.add 1) (fun x8_1 =>
 (ldL (.bool) (a7.add 2) (fun x8_2 =>
 (ldL (.sl) (a7.add 3) (fun x8_3 =>
 (callP (rational_Add (⟨(⟨x8_0, x8_1⟩ : TInt), (⟨x8_2, x8_3⟩ : TInt)⟩ : TRat) (⟨(⟨x6_0, x6_1⟩ : TInt), (⟨x6_2, x6_3⟩ : TInt)⟩ : TRat)) (fun r9 h4 =>
 (idxP r1 s3.1 4 fun a10 =>
 (stP a10 [.bool r9.num.neg, .slice r9.num.mag.a r9.num.mag.len r9.num.mag.cap, .bool r9.den.neg, .slice r9.den.mag.a r9.den.mag.len r9.den.mag.cap] (fun h5 =>
 (k4 ((IntKind.i64.wrap (s3.1 + 1)), ()) h5)) h4))) h3)) h3)) h3)) h3)) h3))) h3)) h3)) h3)) h3))
 (callP (polynomial_Trim r1) (fun r11 h6 =>
 (K r11 h6)) h3)))
 (0, ()) h2)) h1)) h)
def polynomial_Compose (a : Sl) (b : Sl) (K : Sl → Hp → Prop) (h : Hp) : Prop :=
 (callP (slices_Backward_api_Rat_api_Rat a) (fun r1 h1 =>
 (backP (S := (Sl × Unit) × Unit) (.agg [.bool, .sl, .bool, .sl]) r1 (fun i2 v3 s4 k5 h2 =>
 (callP (polynomial_Mul s4.1.1 b) (fun r7 h4 =>
 (newP [.bool v3.1, .slice v3.2.1.a v3.2.1.len v3.2.1.cap, .bool v3.2.2.1, .slice v3.2.2.2.1.a v3.2.2.2.1.len v3.2.2.2.1.cap] (fun p8 h5 =>
 (callP (polynomial_Add r7 (⟨some p8, 1, 1⟩ : Sl)) (fun r9 h6 =>
 (k5 ((r9, ()), ()) h6)) h5)) h4)) h2))
 ((nilS, ()), ()) (fun s6 h3 =>
 (K s6.1.1 h3)) h1)) h)
def ref04_Trim (a : Sl) (K : Sl → Hp → Prop) (h : Hp) : Prop :=
 (joinP (S := Int × Unit) (fun s1 h1 =>
 (newP [] (fun p3 h2 =>
 (slP a 0 s1.1 4 fun c4 =>
 (rdO c4.a (c4.len * 4) (fun vs5 =>
 (appP 4 64 [.bool false, .slice nilS.a nilS.len nilS.cap, .bool false, .slice nilS.a nilS.len nilS.cap] (⟨some p3, 0, 0⟩ : Sl) c4.len vs5 (fun w6 h3 =>
 (K w6 h3)) h2)) h2))) h1))
 (fun k2 =>
 (loopP (S := Int × Unit) (fun s7 k8 h4 =>
 (joinP (S := Unit) (fun s9 h5 =>
 (k8 ((IntKind.i64.wrap (s7.1 - 1)), ()) h5))
 (fun k10 =>
 (ifP (decide (s7.1 > 0))
 (idxP a (IntKind.i64.wrap (s7.1 - 1)) 4 fun a11 =>
 (ldL (.bool) (a11.add 0) (fun x12_0 =>
 (ldL (.sl) (a11.add 1) (fun x12_1 =>
 (ldL (.bool) (a11.add 2) (fun x12_2 =>
 (ldL (.sl) (a11.add 3) (fun x12_3 =>
 (callP (ref02_Sign (⟨(⟨x12_0, x12_1⟩ : TInt), (⟨x12_2, x12_3⟩ : TInt)⟩ : TRat)) (fun r13 h6 =>
 (ifP (r13 == 0)
 (k10 () h6)
 (k2 (s7.1, ()) h6))) h4)) h4)) h4)) h4)) h4))
 (k2 (s7.1, ()) h4)))))
 ((a.len : Int), ()) h)))
def ref04_Scale (a : Sl) (n : TRat) (K : Sl → Hp → Prop) (h : Hp) : Prop :=
 (loopP (S := Sl × Int × Unit) (fun s1 k2 h1 =>
 (ifP (decide (s1.2.1 < (a.len : Int)))
 (idxP a s1.2.1 4 fun a3 =>
 (ldL (.bool) (a3.add 0) (fun x4_0 =>
 (ldL (.sl) (a3.add 1) (fun x4_1 =>
 (ldL (.bool) (a3.add 2) (fun x4_2 =>
 (ldL (.sl) (a3.add 3) (fun x4_3 =>
 (callP (ref02_Mul (⟨(⟨x4_0, x4_1⟩ : TInt), (⟨x4_2, x4_3⟩ : TInt)⟩ : TRat) n) (fun r5 h2 =>
 (appP 4 64 [.bool false, .slice nilS.a nilS.len nilS.cap, .bool false, .slice nilS.a nilS.len nilS.cap] s1.1 1 [.bool r5.num.neg, .slice r5.num.mag.a r5.num.mag.len r5.num.mag.cap, .bool r5.den.neg, .slice r5.den.mag.a r5.den.mag.len r5.den.mag.cap] (fun w6 h3 =>
 (k2 (w6, (IntKind.i64.wrap (s1.2.1 + 1)), ()) h3)) h2)) h1)) h1)) h1)) h1)) h1))
 (callP (ref04_Trim s1.1) (fun r7 h4 =>
 (K r7 h4)) h1)))
 (nilS, 0, ()) h)
def ref04_zero (K : TRat → Hp → Prop) (h : Hp) : Prop :=
 (callP (ref02_FromInt 0) (fun r1 h1 =>
 (K r1 h1)) h)
def ref04_at (a : Sl) (i : Int) (K : TRat → Hp → Prop) (h : Hp) : Prop :=
 (joinP (S := (Bool × Sl × Bool × Sl × Unit) × Unit) (fun s1 h1 =>
 (idxP a i 4 fun a3 =>
 (ldL (.bool) (a3.add 0) (fun x4_0 =>
 (ldL (.sl) (a3.add 1) (fun x4_1 =>
 (ldL (.bool) (a3.add 2) (fun x4_2 =>
 (ldL (.sl) (a3.add 3) (fun x4_3 =>
 (K (⟨(⟨x4_0, x4_1⟩ : TInt), (⟨x4_2, x4_3⟩ : TInt)⟩ : TRat) h1)) h1)) h1)) h1)) h1)))
 (fun k2 =>
 (ifP (decide (i < 0))
 (callP (ref04_zero) (fun r5 h2 =>
 (K r5 h2)) h)
 (ifP (decide (i ≥ (a.len : Int)))
 (callP (ref04_zero) (fun r6 h3 =>
 (K r6 h3)) h)
 (k2 ((false, nilS, false, nilS, ()), ()) h)))))
def ref04_Add (a : Sl) (b : Sl) (K : Sl → Hp → Prop) (h : Hp) : Prop :=
 (joinP (S := Sl × Unit) (fun s1 h1 =>
 (callP (ref04_Trim s1.1) (fun r3 h2 =>
 (K r3 h2)) h1))
 (fun k2 =>
 (loopP (S := Sl × Int × Unit) (fun s4 k5 h3 =>
 (joinP (S := Unit) (fun s6 h4 =>
 (callP (ref04_at a s4.2.1) (fun r8 h5 =>
 (callP (ref04_at b s4.2.1) (fun r9 h6 =>
 (callP (ref02_Add r8 r9) (fun r10 h7 =>
 (appP 4 64 [.bool false, .slice nilS.a nilS.len nilS.cap, .bool false, .slice nilS.a nilS.len nilS.cap] s4.1 1 [.bool r10.num.neg, .slice r10.num.mag.a r10.num.mag.len r10.num.mag.cap, .bool r10.den.neg, .slice r10.den.mag.a r10.den.mag.len r10.den.mag.cap] (fun w11 h8 =>
 (k5 (w11, (IntKind.i64.wrap (s4.2.1 + 1)), ()) h8)) h7)) h6)) h5)) h4))
 (fun k7 =>
 (ifP (decide (s4.2.1 < (a.len : Int)))
 (k7 () h3)
 (ifP (decide (s4.2.1 < (b.len : Int)))
 (k7 () h3)
 (k2 (s4.1, ()) h3))))))
 (nilS, 0, ()) h)))
def ref04_Sub (a : Sl) (b : Sl) (K : Sl → Hp → Prop) (h : Hp) : Prop :=
 (callP (ref02_FromInt (-1)) (fun r1 h1 =>
 (callP (ref04_Scale b r1) (fun r2 h2 =>
 (callP (ref04_Add a r2) (fun r3 h3 =>
 (K r3 h3)) h2)) h1)) h)
def ref04_Same (a : Sl) (b : Sl) (K : Bool → Hp → Prop) (h : Hp) : Prop :=
 (callP (ref04_Sub a b) (fun r1 h1 =>
 (K ((r1.len : Int) == 0) h1)) h)
def ref04_Equal (a : Sl) (b : Sl) (K : Bool → Hp → Prop) (h : Hp) : Prop :=
 (ifP ((a.len : Int) == (b.len : Int))
 (callP (ref04_Same a b) (fun r1 h1 =>
 (K r1 h1)) h)
 (K false h))
def law04_ints (l : Sl) (want : Sl) (K : Bool → Hp → Prop) (h : Hp) : Prop :=
 (ifP ((l.len : Int) != (want.len : Int))
 (K false h)
 (loopP (S := Int × Unit) (fun s1 k2 h1 =>
 (ifP (decide (s1.1 < (want.len : Int)))
 (idxP want s1.1 1 fun a3 =>
 (ldL (.int .i64) a3 (fun x4 =>
 (idxP l s1.1 2 fun a5 =>
 (ldL (.bool) (a5.add 0) (fun x6_0 =>
 (ldL (.sl) (a5.add 1) (fun x6_1 =>
 (callP (ref01_FromInt x4) (fun r7 h2 =>
 (callP (ref01_Cmp (⟨x6_0, x6_1⟩ : TInt) r7) (fun r8 h3 =>
 (ifP (r8 != 0)
 (K false h3)
 (k2 ((IntKind.i64.wrap (s1.1 + 1)), ()) h3))) h2)) h1)) h1)) h1))) h1))
 (K true h1)))
 (0, ()) h))
def law04_awake (K : Bool → Hp → Prop) (h : Hp) : Prop :=
 (newP [.int .i64 (-1), .int .i64 1, .int .i64 0, .int .i64 1, .int .i64 1, .int .i64 1] (fun p1 h1 =>
 (callP (law04_rats (⟨some p1, 3, 3⟩ : Sl)) (fun r2 h2 =>
 (newP [.int .i64 2, .int .i64 1, .int .i64 2, .int .i64 1] (fun p3 h3 =>
 (callP (law04_rats (⟨some p3, 2, 2⟩ : Sl)) (fun r4 h4 =>
 (callP (polynomial_DivMod r2 r4) (fun r5 h5 =>
 (newP [.int .i64 0, .int .i64 1, .int .i64 2, .int .i64 1, .int .i64 (-4), .int .i64 1, .int .i64 2, .int .i64 1] (fun p6 h6 =>
 (callP (law04_rats (⟨some p6, 4, 4⟩ : Sl)) (fun r7 h7 =>
 (callP (polynomial_Squarefree r7) (fun r8 h8 =>
 (newP [.int .i64 (-1), .int .i64 3, .int .i64 1, .int .i64 2] (fun p9 h9 =>
 (callP (law04_rats (⟨some p9, 2, 2⟩ : Sl)) (fun r10 h10 =>
 (callP (polynomial_Primitive r10) (fun r11 h11 =>
 (newP [.int .i64 0, .int .i64 1, .int .i64 (-1), .int .i64 1] (fun p12 h12 =>
 (callP (law04_rats (⟨some p12, 2, 2⟩ : Sl)) (fun r13 h13 =>
 (callP (polynomial_Primitive r13) (fun r14 h14 =>
 (newP [.int .i64 1, .int .i64 1, .int .i64 (-3), .int .i64 1, .int .i64 2, .int .i64 1] (fun p15 h15 =>
 (callP (law04_rats (⟨some p15, 3, 3⟩ : Sl)) (fun r16 h16 =>
 (callP (polynomial_Bound r16) (fun r17 h17 =>
 (newP [.int .i64 0, .int .i64 1, .int .i64 0, .int .i64 1, .int .i64 1, .int .i64 1] (fun p18 h18 =>
 (callP (law04_rats (⟨some p18, 3, 3⟩ : Sl)) (fun r19 h19 =>
 (newP [.int .i64 1, .int .i64 1, .int .i64 1, .int .i64 1] (fun p20 h20 =>
 (callP (law04_rats (⟨some p20, 2, 2⟩ : Sl)) (fun r21 h21 =>
 (callP (polynomial_Compose r19 r21) (fun r22 h22 =>
 (ifP (r5.2.2 == 0)
 (newP [.int .i64 (-1), .int .i64 2, .int .i64 1, .int .i64 2] (fun p23 h23 =>
 (callP (law04_rats (⟨some p23, 2, 2⟩ : Sl)) (fun r24 h24 =>
 (callP (ref04_Equal r5.1 r24) (fun r25 h25 =>
 (ifP r25
 (ifP ((r5.2.1.len : Int) == 0)
 (newP [.int .i64 0, .int .i64 1, .int .i64 (-1), .int .i64 1, .int .i64 1, .int .i64 1] (fun p26 h26 =>
 (callP (law04_rats (⟨some p26, 3, 3⟩ : Sl)) (fun r27 h27 =>
 (callP (ref04_Equal r8 r27) (fun r28 h28 =>
 (ifP r28
 (newP [.int .i64 (-2), .int .i64 3] (fun p29 h29 =>
 (callP (law04_ints r11 (⟨some p29, 2, 2⟩ : Sl)) (fun r30 h30 =>
 (ifP r30
 (newP [.int .i64 0, .int .i64 1] (fun p31 h31 =>
 (callP (law04_ints r14 (⟨some p31, 2, 2⟩ : Sl)) (fun r32 h32 =>
 (ifP r32
 (callP (ref02_Valid r17) (fun r33 h33 =>
 (ifP r33
 (callP (ref02_Frac 5 2) (fun r34 h34 =>
 (callP (ref02_Cmp r17 r34) (fun r35 h35 =>
 (ifP (r35 == 0)
 (newP [.int .i64 1, .int .i64 1, .int .i64 2, .int .i64 1, .int .i64 1, .int .i64 1] (fun p36 h36 =>
 (callP (law04_rats (⟨some p36, 3, 3⟩ : Sl)) (fun r37 h37 =>
 (callP (ref04_Equal r22 r37) (fun r38 h38 =>
 (K r38 h38)) h37)) h36)) h35)
 (K false h35))) h34)) h33)
 (K false h33))) h32)
 (K false h32))) h31)) h30)
 (K false h30))) h29)) h28)
 (K false h28))) h27)) h26)) h25)
 (K false h25))
 (K false h25))) h24)) h23)) h22)
 (K false h22))) h21)) h20)) h19)) h18)) h17)) h16)) h15)) h14)) h13)) h12)) h11)) h10)) h9)) h8)) h7)) h6)) h5)) h4)) h3)) h2)) h1)) h)
def ref04_Short (a : TRat) (K : Bool → Hp → Prop) (h : Hp) : Prop :=
 (ifP (decide ((a.num.mag.len : Int) ≤ 4))
 (ifP (decide ((a.den.mag.len : Int) ≤ 4))
 (callP (ref02_Valid a) (fun r1 h1 =>
 (ifP r1
 (callP (ref01_Bits a.num) (fun r2 h2 =>
 (ifP (decide (r2 ≤ 120))
 (callP (ref01_Bits a.den) (fun r3 h3 =>
 (K (decide (r3 ≤ 120)) h3)) h2)
 (K false h2))) h1)
 (K false h1))) h)
 (K false h))
 (K false h))
def ref04_Small (a : Sl) (n : Int) (K : Bool → Hp → Prop) (h : Hp) : Prop :=
 (ifP (decide ((a.len : Int) > n))
 (K false h)
 (loopP (S := Int × Unit) (fun s1 k2 h1 =>
 (ifP (decide (s1.1 < (a.len : Int)))
 (idxP a s1.1 4 fun a3 =>
 (ldL (.bool) (a3.add 0) (fun x4_0 =>
 (ldL (.sl) (a3.add 1) (fun x4_1 =>
 (ldL (.bool) (a3.add 2) (fun x4_2 =>
 (ldL (.sl) (a3.add 3) (fun x4_3 =>
 (callP (ref04_Short (⟨(⟨x4_0, x4_1⟩ : TInt), (⟨x4_2, x4_3⟩ : TInt)⟩ : TRat)) (fun r5 h2 =>
 (ifP (!r5)
 (K false h2)
 (k2 ((IntKind.i64.wrap (s1.1 + 1)), ()) h2))) h1)) h1)) h1)) h1)) h1))
 (K true h1)))
 (0, ()) h))
def law04_few (l : Sl) (K : Bool → Hp → Prop) (h : Hp) : Prop :=
 (loopP (S := Int × Unit) (fun s1 k2 h1 =>
 (ifP (decide (s1.1 < (l.len : Int)))
 (idxP l s1.1 1 fun a3 =>
 (ldL (.sl) a3 (fun x4 =>
 (callP (ref04_Small x4 8) (fun r5 h2 =>
 (ifP (!r5)
 (K false h2)
 (k2 ((IntKind.i64.wrap (s1.1 + 1)), ()) h2))) h1)) h1))
 (K true h1)))
 (0, ()) h)
def law04_own (a : Sl) (K : Sl → Hp → Prop) (h : Hp) : Prop :=
 (newP [] (fun p1 h1 =>
 (rdO a.a (a.len * 4) (fun vs2 =>
 (appP 4 64 [.bool false, .slice nilS.a nilS.len nilS.cap, .bool false, .slice nilS.a nilS.len nilS.cap] (⟨some p1, 0, 0⟩ : Sl) a.len vs2 (fun w3 h2 =>
 (K w3 h2)) h1)) h1)) h)
def ref04_Shift (a : Sl) (n : Int) (K : Sl → Hp → Prop) (h : Hp) : Prop :=
 (loopP (S := Sl × Int × Unit) (fun s1 k2 h1 =>
 (ifP (decide (s1.2.1 < n))
 (callP (ref04_zero) (fun r3 h2 =>
 (appP 4 64 [.bool false, .slice nilS.a nilS.len nilS.cap, .bool false, .slice nilS.a nilS.len nilS.cap] s1.1 1 [.bool r3.num.neg, .slice r3.num.mag.a r3.num.mag.len r3.num.mag.cap, .bool r3.den.neg, .slice r3.den.mag.a r3.den.mag.len r3.den.mag.cap] (fun w4 h3 =>
 (k2 (w4, (IntKind.i64.wrap (s1.2.1 + 1)), ()) h3)) h2)) h1)
 (rdO a.a (a.len * 4) (fun vs5 =>
 (appP 4 64 [.bool false, .slice nilS.a nilS.len nilS.cap, .bool false, .slice nilS.a nilS.len nilS.cap] s1.1 a.len vs5 (fun w6 h4 =>
 (callP (ref04_Trim w6) (fun r7 h5 =>
 (K r7 h5)) h4)) h1)) h1)))
 (nilS, 0, ()) h)
def ref04_Mul (a : Sl) (b : Sl) (K : Sl → Hp → Prop) (h : Hp) : Prop :=
 (loopP (S := Sl × Int × Unit) (fun s1 k2 h1 =>
 (ifP (decide (s1.2.1 < (b.len : Int)))
 (idxP b s1.2.1 4 fun a3 =>
 (ldL (.bool) (a3.add 0) (fun x4_0 =>
 (ldL (.sl) (a3.add 1) (fun x4_1 =>
 (ldL (.bool) (a3.add 2) (fun x4_2 =>
 (ldL (.sl) (a3.add 3) (fun x4_3 =>
 (callP (ref04_Scale a (⟨(⟨x4_0, x4_1⟩ : TInt), (⟨x4_2, x4_3⟩ : TInt)⟩ : TRat)) (fun r5 h2 =>
 (callP (ref04_Shift r5 s1.2.1) (fun r6 h3 =>
 (callP (ref04_Add s1.1 r6) (fun r7 h4 =>
 (k2 (r7, (IntKind.i64.wrap (s1.2.1 + 1)), ()) h4)) h3)) h2)) h1)) h1)) h1)) h1)) h1))
 (K s1.1 h1)))
 (nilS, 0, ()) h)
def law04_good (a : Sl) (want : Sl) (K : Bool → Hp → Prop) (h : Hp) : Prop :=
 (loopP (S := Int × Unit) (fun s1 k2 h1 =>
 (ifP (decide (s1.1 < (a.len : Int)))
 (idxP a s1.1 4 fun a3 =>
 (ldL (.bool) (a3.add 0) (fun x4_0 =>
 (ldL (.sl) (a3.add 1) (fun x4_1 =>
 (ldL (.bool) (a3.add 2) (fun x4_2 =>
 (ldL (.sl) (a3.add 3) (fun x4_3 =>
 (callP (ref02_Valid (⟨(⟨x4_0, x4_1⟩ : TInt), (⟨x4_2, x4_3⟩ : TInt)⟩ : TRat)) (fun r5 h2 =>
 (ifP (!r5)
 (K false h2)
 (k2 ((IntKind.i64.wrap (s1.1 + 1)), ()) h2))) h1)) h1)) h1)) h1)) h1))
 (callP (ref04_Equal a want) (fun r6 h3 =>
 (K r6 h3)) h1)))
 (0, ()) h)
def law04_PolynomialMul (a : Sl) (b : Sl) (c : Sl) (K : Bool → Hp → Prop) (h : Hp) : Prop :=
 (callP (law04_awake) (fun r1 h1 =>
 (ifP (!r1)
 (K false h1)
 (newP [.slice a.a a.len a.cap, .slice b.a b.len b.cap, .slice c.a c.len c.cap] (fun p2 h2 =>
 (callP (law04_few (⟨some p2, 3, 3⟩ : Sl)) (fun r3 h3 =>
 (ifP (!r3)
 (K true h3)
 (callP (law04_own a) (fun r4 h4 =>
 (callP (law04_own b) (fun r5 h5 =>
 (callP (polynomial_Mul r4 r5) (fun r6 h6 =>
 (callP (law04_own a) (fun r7 h7 =>
 (callP (law04_own b) (fun r8 h8 =>
 (callP (law04_own c) (fun r9 h9 =>
 (callP (polynomial_Add r8 r9) (fun r10 h10 =>
 (callP (polynomial_Mul r7 r10) (fun r11 h11 =>
 (callP (ref04_Mul a b) (fun r12 h12 =>
 (callP (law04_good r6 r12) (fun r13 h13 =>
 (ifP r13
 (callP (law04_own b) (fun r14 h14 =>
 (callP (law04_own a) (fun r15 h15 =>
 (callP (polynomial_Mul r14 r15) (fun r16 h16 =>
 (callP (law04_good r16 r6) (fun r17 h17 =>
 (ifP r17
 (callP (law04_own a) (fun r18 h18 =>
 (callP (law04_own c) (fun r19 h19 =>
 (callP (polynomial_Mul r18 r19) (fun r20 h20 =>
 (callP (polynomial_Add r6 r20) (fun r21 h21 =>
 (callP (law04_good r11 r21) (fun r22 h22 =>
 (K r22 h22)) h21)) h20)) h19)) h18)) h17)
 (K false h17))) h16)) h15)) h14)) h13)
 (K false h13))) h12)) h11)) h10)) h9)) h8)) h7)) h6)) h5)) h4)) h3))) h2)) h1))) h)
def ref04_Degree (a : Sl) (K : Int → Hp → Prop) (h : Hp) : Prop :=
 (callP (ref04_Trim a) (fun r1 h1 =>
 (K (IntKind.i64.wrap ((r1.len : Int) - 1)) h1)) h)
def ref04_quotient (a : TRat) (b : TRat) (K : TRat → Hp → Prop) (h : Hp) : Prop :=
 (callP (ref02_Div a b) (fun r1 h1 =>
 (K (⟨(⟨r1.1.num.neg, r1.1.num.mag⟩ : TInt), (⟨r1.1.den.neg, r1.1.den.mag⟩ : TInt)⟩ : TRat) h1)) h)
def ref04_DivMod (a : Sl) (b : Sl) (K : (Sl × Sl) → Hp → Prop) (h : Hp) : Prop :=
 (callP (ref04_Trim b) (fun r1 h1 =>
 (callP (ref04_Trim a) (fun r2 h2 =>
 (loopP (S := Sl × Sl × Unit) (fun s3 k4 h3 =>
 (ifP (decide ((s3.1.len : Int) ≥ (r1.len : Int)))
 (idxP s3.1 (IntKind.i64.wrap ((s3.1.len : Int) - 1)) 4 fun a5 =>
 (ldL (.bool) (a5.add 0) (fun x6_0 =>
 (ldL (.sl) (a5.add 1) (fun x6_1 =>
 (ldL (.bool) (a5.add 2) (fun x6_2 =>
 (ldL (.sl) (a5.add 3) (fun x6_3 =>
 (idxP r1 (IntKind.i64.wrap ((r1.len : Int) - 1)) 4 fun a7 =>
 (ldL (.bool) (a7.add 0) (fun x8_0 =>
 (ldL (.sl) (a7.add 1) (fun x8_1 =>
 (ldL (.bool) (a7.add 2) (fun x8_2 =>
 (ldL (.sl) (a7.add 3) (fun x8_3 =>
 (callP (ref04_quotient (⟨(⟨x6_0, x6_1⟩ : TInt), (⟨x6_2, x6_3⟩ : TInt)⟩ : TRat) (⟨(⟨x8_0, x8_1⟩ : TInt), (⟨x8_2, x8_3⟩ : TInt)⟩ : TRat)) (fun r9 h4 =>
 (newP [.bool r9.num.neg, .slice r9.num.mag.a r9.num.mag.len r9.num.mag.cap, .bool r9.den.neg, .slice r9.den.mag.a r9.den.mag.len r9.den.mag.cap] (fun p10 h5 =>
 (callP (ref04_Shift (⟨some p10, 1, 1⟩ : Sl) (IntKind.i64.wrap ((s3.1.len : Int) - (r1.len : Int)))) (fun r11 h6 =>
 (callP (ref04_Add s3.2.1 r11) (fun r12 h7 =>
 (callP (ref04_Mul r11 r1) (fun r13 h8 =>
 (callP (ref04_Sub s3.1 r13) (fun r14 h9 =>
 (k4 (r14, r12, ()) h9)) h8)) h7)) h6)) h5)) h4)) h3)) h3)) h3)) h3)) h3))) h3)) h3)) h3)) h3))
 (K (s3.2.1, s3.1) h3)))
 (r2, nilS, ()) h2)) h1)) h)
def law04_PolynomialDivMod (a : Sl) (b : Sl) (K : Bool → Hp → Prop) (h : Hp) : Prop :=
 (callP (law04_awake) (fun r1 h1 =>
 (ifP (!r1)
 (K false h1)
 (newP [.slice a.a a.len a.cap, .slice b.a b.len b.cap] (fun p2 h2 =>
 (callP (law04_few (⟨some p2, 2, 2⟩ : Sl)) (fun r3 h3 =>
 (ifP (!r3)
 (K true h3)
 (callP (law04_own a) (fun r4 h4 =>
 (callP (law04_own b) (fun r5 h5 =>
 (callP (polynomial_DivMod r4 r5) (fun r6 h6 =>
 (callP (ref04_Degree b) (fun r7 h7 =>
 (ifP (decide (r7 < 0))
 (ifP (r6.2.2 == 6)
 (K ((IntKind.i64.wrap ((r6.1.len : Int) + (r6.2.1.len : Int))) == 0) h7)
 (K false h7))
 (callP (ref04_DivMod a b) (fun r8 h8 =>
 (ifP (r6.2.2 == 0)
 (callP (law04_good r6.1 r8.1) (fun r9 h9 =>
 (ifP r9
 (callP (law04_good r6.2.1 r8.2) (fun r10 h10 =>
 (ifP r10
 (callP (law04_own b) (fun r11 h11 =>
 (callP (polynomial_Mul r6.1 r11) (fun r12 h12 =>
 (callP (polynomial_Add r12 r6.2.1) (fun r13 h13 =>
 (callP (ref04_Trim a) (fun r14 h14 =>
 (callP (law04_good r13 r14) (fun r15 h15 =>
 (ifP r15
 (callP (ref04_Degree r6.2.1) (fun r16 h16 =>
 (callP (ref04_Degree b) (fun r17 h17 =>
 (K (decide (r16 < r17)) h17)) h16)) h15)
 (K false h15))) h14)) h13)) h12)) h11)) h10)
 (K false h10))) h9)
 (K false h9))) h8)
 (K false h8))) h7))) h6)) h5)) h4)) h3))) h2)) h1))) h)
def ref04_Derivative (a : Sl) (K : Sl → Hp → Prop) (h : Hp) : Prop :=
 (loopP (S := Sl × Int × Unit) (fun s1 k2 h1 =>
 (ifP (decide (s1.2.1 < (a.len : Int)))
 (idxP a s1.2.1 4 fun a3 =>
 (ldL (.bool) (a3.add 0) (fun x4_0 =>
 (ldL (.sl) (a3.add 1) (fun x4_1 =>
 (ldL (.bool) (a3.add 2) (fun x4_2 =>
 (ldL (.sl) (a3.add 3) (fun x4_3 =>
 (callP (ref02_FromInt s1.2.1) (fun r5 h2 =>
 (callP (ref02_Mul (⟨(⟨x4_0, x4_1⟩ : TInt), (⟨x4_2, x4_3⟩ : TInt)⟩ : TRat) r5) (fun r6 h3 =>
 (appP 4 64 [.bool false, .slice nilS.a nilS.len nilS.cap, .bool false, .slice nilS.a nilS.len nilS.cap] s1.1 1 [.bool r6.num.neg, .slice r6.num.mag.a r6.num.mag.len r6.num.mag.cap, .bool r6.den.neg, .slice r6.den.mag.a r6.den.mag.len r6.den.mag.cap] (fun w7 h4 =>
 (k2 (w7, (IntKind.i64.wrap (s1.2.1 + 1)), ()) h4)) h3)) h2)) h1)) h1)) h1)) h1)) h1))
 (callP (ref04_Trim s1.1) (fun r8 h5 =>
 (K r8 h5)) h1)))
 (nilS, 1, ()) h)
def law04_PolynomialDerivative (a : Sl) (b : Sl) (K : Bool → Hp → Prop) (h : Hp) : Prop :=
 (callP (law04_awake) (fun r1 h1 =>
 (ifP (!r1)
 (K false h1)
 (newP [.slice a.a a.len a.cap, .slice b.a b.len b.cap] (fun p2 h2 =>
 (callP (law04_few (⟨some p2, 2, 2⟩ : Sl)) (fun r3 h3 =>
 (ifP (!r3)
 (K true h3)
 (callP (law04_own a) (fun r4 h4 =>
 (callP (polynomial_Derivative r4) (fun r5 h5 =>
 (callP (law04_own b) (fun r6 h6 =>
 (callP (polynomial_Derivative r6) (fun r7 h7 =>
 (callP (law04_own a) (fun r8 h8 =>
 (callP (law04_own b) (fun r9 h9 =>
 (callP (polynomial_Mul r8 r9) (fun r10 h10 =>
 (callP (polynomial_Derivative r10) (fun r11 h11 =>
 (callP (ref04_Derivative a) (fun r12 h12 =>
 (callP (law04_good r5 r12) (fun r13 h13 =>
 (ifP r13
 (callP (law04_own b) (fun r14 h14 =>
 (callP (polynomial_Mul r5 r14) (fun r15 h15 =>
 (callP (law04_own a) (fun r16 h16 =>
 (callP (polynomial_Mul r16 r7) (fun r17 h17 =>
 (callP (polynomial_Add r15 r17) (fun r18 h18 =>
 (callP (law04_good r11 r18) (fun r19 h19 =>
 (K r19 h19)) h18)) h17)) h16)) h15)) h14)) h13)
 (K false h13))) h12)) h11)) h10)) h9)) h8)) h7)) h6)) h5)) h4)) h3))) h2)) h1))) h)
def ref04_Primitive (a : Sl) (K : Sl → Hp → Prop) (h : Hp) : Prop :=
 (callP (ref04_Trim a) (fun r1 h1 =>
 (ifP ((r1.len : Int) == 0)
 (K nilS h1)
 (callP (ref01_FromInt 1) (fun r2 h2 =>
 (loopP (S := (Bool × Sl × Unit) × Int × Unit) (fun s3 k4 h3 =>
 (ifP (decide (s3.2.1 < (r1.len : Int)))
 (idxP r1 s3.2.1 4 fun a5 =>
 (ldL (.bool) ((a5.add 2).add 0) (fun x6_0 =>
 (ldL (.sl) ((a5.add 2).add 1) (fun x6_1 =>
 (idxP r1 s3.2.1 4 fun a7 =>
 (ldL (.bool) ((a7.add 2).add 0) (fun x8_0 =>
 (ldL (.sl) ((a7.add 2).add 1) (fun x8_1 =>
 (callP (ref01_GCD (⟨s3.1.1, s3.1.2.1⟩ : TInt) (⟨x8_0, x8_1⟩ : TInt)) (fun r9 h4 =>
 (callP (ref01_DivMod (⟨x6_0, x6_1⟩ : TInt) r9) (fun r10 h5 =>
 (callP (ref01_Mul (⟨s3.1.1, s3.1.2.1⟩ : TInt) (⟨r10.1.neg, r10.1.mag⟩ : TInt)) (fun r11 h6 =>
 (k4 ((r11.neg, r11.mag, ()), (IntKind.i64.wrap (s3.2.1 + 1)), ()) h6)) h5)) h4)) h3)) h3)) h3))) h3)) h3))
 (callP (ref01_FromInt 0) (fun r12 h7 =>
 (loopP (S := Sl × (Bool × Sl × Unit) × Int × Unit) (fun s13 k14 h8 =>
 (ifP (decide (s13.2.2.1 < (r1.len : Int)))
 (idxP r1 s13.2.2.1 4 fun a15 =>
 (ldL (.bool) ((a15.add 2).add 0) (fun x16_0 =>
 (ldL (.sl) ((a15.add 2).add 1) (fun x16_1 =>
 (callP (ref01_DivMod (⟨s3.1.1, s3.1.2.1⟩ : TInt) (⟨x16_0, x16_1⟩ : TInt)) (fun r17 h9 =>
 (idxP r1 s13.2.2.1 4 fun a18 =>
 (ldL (.bool) ((a18.add 0).add 0) (fun x19_0 =>
 (ldL (.sl) ((a18.add 0).add 1) (fun x19_1 =>
 (callP (ref01_Mul (⟨x19_0, x19_1⟩ : TInt) (⟨r17.1.neg, r17.1.mag⟩ : TInt)) (fun r20 h10 =>
 (appP 2 32 [.bool false, .slice nilS.a nilS.len nilS.cap] s13.1 1 [.bool r20.neg, .slice r20.mag.a r20.mag.len r20.mag.cap] (fun w21 h11 =>
 (idxP w21 s13.2.2.1 2 fun a22 =>
 (ldL (.bool) (a22.add 0) (fun x23_0 =>
 (ldL (.sl) (a22.add 1) (fun x23_1 =>
 (callP (ref01_GCD (⟨s13.2.1.1, s13.2.1.2.1⟩ : TInt) (⟨x23_0, x23_1⟩ : TInt)) (fun r24 h12 =>
 (k14 (w21, (r24.neg, r24.mag, ()), (IntKind.i64.wrap (s13.2.2.1 + 1)), ()) h12)) h11)) h11)) h11))) h10)) h9)) h9)) h9))) h8)) h8)) h8))
 (joinP (S := (Bool × Sl × Unit) × Unit) (fun s25 h13 =>
 (loopP (S := Int × Unit) (fun s27 k28 h14 =>
 (ifP (decide (s27.1 < (s13.1.len : Int)))
 (idxP s13.1 s27.1 2 fun a29 =>
 (ldL (.bool) (a29.add 0) (fun x30_0 =>
 (ldL (.sl) (a29.add 1) (fun x30_1 =>
 (callP (ref01_DivMod (⟨x30_0, x30_1⟩ : TInt) (⟨s25.1.1, s25.1.2.1⟩ : TInt)) (fun r31 h15 =>
 (idxP s13.1 s27.1 2 fun a32 =>
 (stP a32 [.bool r31.1.neg, .slice r31.1.mag.a r31.1.mag.len r31.1.mag.cap] (fun h16 =>
 (k28 ((IntKind.i64.wrap (s27.1 + 1)), ()) h16)) h15))) h14)) h14)) h14))
 (K s13.1 h14)))
 (0, ()) h13))
 (fun k26 =>
 (idxP s13.1 (IntKind.i64.wrap ((s13.1.len : Int) - 1)) 2 fun a33 =>
 (ldL (.bool) (a33.add 0) (fun x34_0 =>
 (ldL (.sl) (a33.add 1) (fun x34_1 =>
 (callP (ref01_Sign (⟨x34_0, x34_1⟩ : TInt)) (fun r35 h17 =>
 (ifP (decide (r35 < 0))
 (callP (ref01_Neg (⟨s13.2.1.1, s13.2.1.2.1⟩ : TInt)) (fun r36 h18 =>
 (k26 ((r36.neg, r36.mag, ()), ()) h18)) h17)
 (k26 ((s13.2.1.1, s13.2.1.2.1, ()), ()) h17))) h8)) h8)) h8))))))
 (nilS, (r12.neg, r12.mag, ()), 0, ()) h7)) h3)))
 ((r2.neg, r2.mag, ()), 0, ()) h2)) h1))) h)
def ref04_Monic (a : Sl) (K : Sl → Hp → Prop) (h : Hp) : Prop :=
 (callP (ref04_Trim a) (fun r1 h1 =>
 (ifP ((r1.len : Int) == 0)
 (K r1 h1)
 (idxP r1 (IntKind.i64.wrap ((r1.len : Int) - 1)) 4 fun a2 =>
 (ldL (.bool) (a2.add 0) (fun x3_0 =>
 (ldL (.sl) (a2.add 1) (fun x3_1 =>
 (ldL (.bool) (a2.add 2) (fun x3_2 =>
 (ldL (.sl) (a2.add 3) (fun x3_3 =>
 (callP (ref02_FromInt 1) (fun r4 h2 =>
 (callP (ref04_quotient r4 (⟨(⟨x3_0, x3_1⟩ : TInt), (⟨x3_2, x3_3⟩ : TInt)⟩ : TRat)) (fun r5 h3 =>
 (callP (ref04_Scale r1 r5) (fun r6 h4 =>
 (K r6 h4)) h3)) h2)) h1)) h1)) h1)) h1)) h1)))) h)
def ref04_abs (a : TRat) (K : TRat → Hp → Prop) (h : Hp) : Prop :=
 (callP (ref02_Sign a) (fun r1 h1 =>
 (ifP (decide (r1 < 0))
 (callP (ref02_Neg a) (fun r2 h2 =>
 (K r2 h2)) h1)
 (K a h1))) h)
def ref04_Bound (a : Sl) (K : TRat → Hp → Prop) (h : Hp) : Prop :=
 (callP (ref04_Monic a) (fun r1 h1 =>
 (ifP (decide ((r1.len : Int) < 2))
 (callP (ref04_zero) (fun r2 h2 =>
 (K r2 h2)) h1)
 (callP (ref04_zero) (fun r3 h3 =>
 (loopP (S := (Bool × Sl × Bool × Sl × Unit) × Int × Unit) (fun s4 k5 h4 =>
 (ifP (decide ((IntKind.i64.wrap (s4.2.1 + 1)) < (r1.len : Int)))
 (joinP (S := (Bool × Sl × Bool × Sl × Unit) × Unit) (fun s6 h5 =>
 (k5 ((s6.1.1, s6.1.2.1, s6.1.2.2.1, s6.1.2.2.2.1, ()), (IntKind.i64.wrap (s4.2.1 + 1)), ()) h5))
 (fun k7 =>
 (idxP r1 s4.2.1 4 fun a8 =>
 (ldL (.bool) (a8.add 0) (fun x9_0 =>
 (ldL (.sl) (a8.add 1) (fun x9_1 =>
 (ldL (.bool) (a8.add 2) (fun x9_2 =>
 (ldL (.sl) (a8.add 3) (fun x9_3 =>
 (callP (ref04_abs (⟨(⟨x9_0, x9_1⟩ : TInt), (⟨x9_2, x9_3⟩ : TInt)⟩ : TRat)) (fun r10 h6 =>
 (callP (ref02_Cmp r10 (⟨(⟨s4.1.1, s4.1.2.1⟩ : TInt), (⟨s4.1.2.2.1, s4.1.2.2.2.1⟩ : TInt)⟩ : TRat)) (fun r11 h7 =>
 (ifP (decide (r11 > 0))
 (idxP r1 s4.2.1 4 fun a12 =>
 (ldL (.bool) (a12.add 0) (fun x13_0 =>
 (ldL (.sl) (a12.add 1) (fun x13_1 =>
 (ldL (.bool) (a12.add 2) (fun x13_2 =>
 (ldL (.sl) (a12.add 3) (fun x13_3 =>
 (callP (ref04_abs (⟨(⟨x13_0, x13_1⟩ : TInt), (⟨x13_2, x13_3⟩ : TInt)⟩ : TRat)) (fun r14 h8 =>
 (k7 ((r14.num.neg, r14.num.mag, r14.den.neg, r14.den.mag, ()), ()) h8)) h7)) h7)) h7)) h7)) h7))
 (k7 ((s4.1.1, s4.1.2.1, s4.1.2.2.1, s4.1.2.2.2.1, ()), ()) h7))) h6)) h4)) h4)) h4)) h4)) h4))))
 (callP (ref02_FromInt 1) (fun r15 h9 =>
 (callP (ref02_Add (⟨(⟨s4.1.1, s4.1.2.1⟩ : TInt), (⟨s4.1.2.2.1, s4.1.2.2.2.1⟩ : TInt)⟩ : TRat) r15) (fun r16 h10 =>
 (K r16 h10)) h9)) h4)))
 ((r3.num.neg, r3.num.mag, r3.den.neg, r3.den.mag, ()), 0, ()) h3)) h1))) h)
def law04_same (a : Sl) (b : Sl) (K : Bool → Hp → Prop) (h : Hp) : Prop :=
 (ifP ((a.len : Int) != (b.len : Int))
 (K false h)
 (loopP (S := Int × Unit) (fun s1 k2 h1 =>
 (ifP (decide (s1.1 < (a.len : Int)))
 (joinP (S := Unit) (fun s3 h2 =>
 (k2 ((IntKind.i64.wrap (s1.1 + 1)), ()) h2))
 (fun k4 =>
 (idxP a s1.1 2 fun a5 =>
 (ldL (.bool) (a5.add 0) (fun x6_0 =>
 (ldL (.sl) (a5.add 1) (fun x6_1 =>
 (callP (ref01_Valid (⟨x6_0, x6_1⟩ : TInt)) (fun r7 h3 =>
 (ifP (!r7)
 (K false h3)
 (idxP a s1.1 2 fun a8 =>
 (ldL (.bool) (a8.add 0) (fun x9_0 =>
 (ldL (.sl) (a8.add 1) (fun x9_1 =>
 (idxP b s1.1 2 fun a10 =>
 (ldL (.bool) (a10.add 0) (fun x11_0 =>
 (ldL (.sl) (a10.add 1) (fun x11_1 =>
 (callP (ref01_Cmp (⟨x9_0, x9_1⟩ : TInt) (⟨x11_0, x11_1⟩ : TInt)) (fun r12 h4 =>
 (ifP (r12 != 0)
 (K false h4)
 (k4 () h4))) h3)) h3)) h3))) h3)) h3)))) h1)) h1)) h1))))
 (K true h1)))
 (0, ()) h))
def law04_PolynomialPrimitive (a : Sl) (n : TRat) (K : Bool → Hp → Prop) (h : Hp) : Prop :=
 (callP (law04_awake) (fun r1 h1 =>
 (ifP (!r1)
 (K false h1)
 (joinP (S := Unit) (fun s2 h2 =>
 (callP (law04_own a) (fun r4 h3 =>
 (callP (polynomial_Primitive r4) (fun r5 h4 =>
 (callP (ref04_Primitive a) (fun r6 h5 =>
 (joinP (S := Unit) (fun s7 h6 =>
 (callP (law04_own a) (fun r9 h7 =>
 (callP (polynomial_Bound r9) (fun r10 h8 =>
 (callP (ref02_Valid r10) (fun r11 h9 =>
 (ifP r11
 (callP (ref04_Bound a) (fun r12 h10 =>
 (callP (ref02_Cmp r10 r12) (fun r13 h11 =>
 (K (r13 == 0) h11)) h10)) h9)
 (K false h9))) h8)) h7)) h6))
 (fun k8 =>
 (callP (law04_same r5 r6) (fun r14 h12 =>
 (ifP (!r14)
 (K false h12)
 (callP (ref02_Sign n) (fun r15 h13 =>
 (ifP (r15 != 0)
 (callP (ref04_Scale a n) (fun r16 h14 =>
 (callP (polynomial_Primitive r16) (fun r17 h15 =>
 (callP (law04_same r17 r6) (fun r18 h16 =>
 (ifP (!r18)
 (K false h16)
 (k8 () h16))) h15)) h14)) h13)
 (k8 () h13))) h12))) h5)))) h4)) h3)) h2))
 (fun k3 =>
 (newP [.slice a.a a.len a.cap] (fun p19 h17 =>
 (callP (law04_few (⟨some p19, 1, 1⟩ : Sl)) (fun r20 h18 =>
 (ifP (!r20)
 (K true h18)
 (callP (ref04_Short n) (fun r21 h19 =>
 (ifP (!r21)
 (K true h19)
 (k3 () h19))) h18))) h17)) h1))))) h)
def polynomial_Sub (a : Sl) (b : Sl) (K : Sl → Hp → Prop) (h : Hp) : Prop :=
 (callP (rational_FromInt (-1)) (fun r1 h1 =>
 (callP (polynomial_Scale b r1) (fun r2 h2 =>
 (callP (polynomial_Add a r2) (fun r3 h3 =>
 (K r3 h3)) h2)) h1)) h)
def law04_PolynomialAdd (a : Sl) (b : Sl) (n : TRat) (K : Bool → Hp → Prop) (h : Hp) : Prop :=
 (callP (law04_awake) (fun r1 h1 =>
 (ifP (!r1)
 (K false h1)
 (joinP (S := Unit) (fun s2 h2 =>
 (callP (law04_own a) (fun r4 h3 =>
 (callP (polynomial_Trim r4) (fun r5 h4 =>
 (callP (ref04_Trim a) (fun r6 h5 =>
 (callP (law04_good r5 r6) (fun r7 h6 =>
 (ifP r7
 (callP (law04_own a) (fun r8 h7 =>
 (callP (polynomial_Degree r8) (fun r9 h8 =>
 (callP (ref04_Degree a) (fun r10 h9 =>
 (ifP (r9 == r10)
 (callP (law04_own a) (fun r11 h10 =>
 (callP (law04_own b) (fun r12 h11 =>
 (callP (polynomial_Add r11 r12) (fun r13 h12 =>
 (callP (ref04_Add a b) (fun r14 h13 =>
 (callP (law04_good r13 r14) (fun r15 h14 =>
 (ifP r15
 (callP (law04_own a) (fun r16 h15 =>
 (callP (law04_own b) (fun r17 h16 =>
 (callP (polynomial_Sub r16 r17) (fun r18 h17 =>
 (callP (ref04_Sub a b) (fun r19 h18 =>
 (callP (law04_good r18 r19) (fun r20 h19 =>
 (ifP r20
 (callP (law04_own a) (fun r21 h20 =>
 (callP (polynomial_Scale r21 n) (fun r22 h21 =>
 (callP (ref04_Scale a n) (fun r23 h22 =>
 (callP (law04_good r22 r23) (fun r24 h23 =>
 (K r24 h23)) h22)) h21)) h20)) h19)
 (K false h19))) h18)) h17)) h16)) h15)) h14)
 (K false h14))) h13)) h12)) h11)) h10)) h9)
 (K false h9))) h8)) h7)) h6)
 (K false h6))) h5)) h4)) h3)) h2))
 (fun k3 =>
 (newP [.slice a.a a.len a.cap, .slice b.a b.len b.cap] (fun p25 h24 =>
 (callP (law04_few (⟨some p25, 2, 2⟩ : Sl)) (fun r26 h25 =>
 (ifP (!r26)
 (K true h25)
 (callP (ref04_Short n) (fun r27 h26 =>
 (ifP (!r27)
 (K true h26)
 (k3 () h26))) h25))) h24)) h1))))) h)
def polynomial_Eval (a : Sl) (x : TRat) (K : TRat → Hp → Prop) (h : Hp) : Prop :=
 (callP (rational_FromInt 0) (fun r1 h1 =>
 (callP (slices_Backward_api_Rat_api_Rat a) (fun r2 h2 =>
 (backP (S := (Bool × Sl × Bool × Sl × Unit) × Unit) (.agg [.bool, .sl, .bool, .sl]) r2 (fun i3 v4 s5 k6 h3 =>
 (callP (rational_Mul (⟨(⟨s5.1.1, s5.1.2.1⟩ : TInt), (⟨s5.1.2.2.1, s5.1.2.2.2.1⟩ : TInt)⟩ : TRat) x) (fun r8 h5 =>
 (callP (rational_Add r8 (⟨(⟨v4.1, v4.2.1⟩ : TInt), (⟨v4.2.2.1, v4.2.2.2.1⟩ : TInt)⟩ : TRat)) (fun r9 h6 =>
 (k6 ((r9.num.neg, r9.num.mag, r9.den.neg, r9.den.mag, ()), ()) h6)) h5)) h3))
 ((r1.num.neg, r1.num.mag, r1.den.neg, r1.den.mag, ()), ()) (fun s7 h4 =>
 (K (⟨(⟨s7.1.1, s7.1.2.1⟩ : TInt), (⟨s7.1.2.2.1, s7.1.2.2.2.1⟩ : TInt)⟩ : TRat) h4)) h2)) h1)) h)
def ref04_Compose (a : Sl) (b : Sl) (K : Sl → Hp → Prop) (h : Hp) : Prop :=
 (loopP (S := Sl × Int × Unit) (fun s1 k2 h1 =>
 (ifP (decide (s1.2.1 ≥ 0))
 (idxP a s1.2.1 4 fun a3 =>
 (ldL (.bool) (a3.add 0) (fun x4_0 =>
 (ldL (.sl) (a3.add 1) (fun x4_1 =>
 (ldL (.bool) (a3.add 2) (fun x4_2 =>
 (ldL (.sl) (a3.add 3) (fun x4_3 =>
 (callP (ref04_Mul s1.1 b) (fun r5 h2 =>
 (newP [.bool x4_0, .slice x4_1.a x4_1.len x4_1.cap, .bool x4_2, .slice x4_3.a x4_3.len x4_3.cap] (fun p6 h3 =>
 (callP (ref04_Add r5 (⟨some p6, 1, 1⟩ : Sl)) (fun r7 h4 =>
 (k2 (r7, (IntKind.i64.wrap (s1.2.1 - 1)), ()) h4)) h3)) h2)) h1)) h1)) h1)) h1)) h1))
 (callP (ref04_Trim s1.1) (fun r8 h5 =>
 (K r8 h5)) h1)))
 (nilS, (IntKind.i64.wrap ((a.len : Int) - 1)), ()) h)
def ref04_Eval (a : Sl) (x : TRat) (K : TRat → Hp → Prop) (h : Hp) : Prop :=
 (callP (ref04_zero) (fun r1 h1 =>
 (loopP (S := (Bool × Sl × Bool × Sl × Unit) × Int × Unit) (fun s2 k3 h2 =>
 (ifP (decide (s2.2.1 ≥ 0))
 (idxP a s2.2.1 4 fun a4 =>
 (ldL (.bool) (a4.add 0) (fun x5_0 =>
 (ldL (.sl) (a4.add 1) (fun x5_1 =>
 (ldL (.bool) (a4.add 2) (fun x5_2 =>
 (ldL (.sl) (a4.add 3) (fun x5_3 =>
 (callP (ref02_Mul (⟨(⟨s2.1.1, s2.1.2.1⟩ : TInt), (⟨s2.1.2.2.1, s2.1.2.2.2.1⟩ : TInt)⟩ : TRat) x) (fun r6 h3 =>
 (callP (ref02_Add r6 (⟨(⟨x5_0, x5_1⟩ : TInt), (⟨x5_2, x5_3⟩ : TInt)⟩ : TRat)) (fun r7 h4 =>
 (k3 ((r7.num.neg, r7.num.mag, r7.den.neg, r7.den.mag, ()), (IntKind.i64.wrap (s2.2.1 - 1)), ()) h4)) h3)) h2)) h2)) h2)) h2)) h2))
 (K (⟨(⟨s2.1.1, s2.1.2.1⟩ : TInt), (⟨s2.1.2.2.1, s2.1.2.2.2.1⟩ : TInt)⟩ : TRat) h2)))
 ((r1.num.neg, r1.num.mag, r1.den.neg, r1.den.mag, ()), (IntKind.i64.wrap ((a.len : Int) - 1)), ()) h1)) h)
def law04_PolynomialEval (a : Sl) (b : Sl) (x : TRat) (K : Bool → Hp → Prop) (h : Hp) : Prop :=
 (callP (law04_awake) (fun r1 h1 =>
 (ifP (!r1)
 (K false h1)
 (joinP (S := Unit) (fun s2 h2 =>
 (callP (law04_own a) (fun r4 h3 =>
 (callP (law04_own b) (fun r5 h4 =>
 (callP (polynomial_Compose r4 r5) (fun r6 h5 =>
 (callP (law04_own b) (fun r7 h6 =>
 (callP (polynomial_Eval r7 x) (fun r8 h7 =>
 (callP (law04_own a) (fun r9 h8 =>
 (callP (polynomial_Eval r9 r8) (fun r10 h9 =>
 (callP (ref04_Compose a b) (fun r11 h10 =>
 (callP (law04_good r6 r11) (fun r12 h11 =>
 (ifP r12
 (callP (ref02_Valid r8) (fun r13 h12 =>
 (ifP r13
 (callP (ref04_Eval b x) (fun r14 h13 =>
 (callP (ref02_Cmp r8 r14) (fun r15 h14 =>
 (ifP (r15 == 0)
 (callP (ref02_Valid r10) (fun r16 h15 =>
 (ifP r16
 (callP (ref04_Eval a r8) (fun r17 h16 =>
 (callP (ref02_Cmp r10 r17) (fun r18 h17 =>
 (ifP (r18 == 0)
 (callP (polynomial_Eval r6 x) (fun r19 h18 =>
 (callP (ref02_Cmp r19 r10) (fun r20 h19 =>
 (K (r20 == 0) h19)) h18)) h17)
 (K false h17))) h16)) h15)
 (K false h15))) h14)
 (K false h14))) h13)) h12)
 (K false h12))) h11)
 (K false h11))) h10)) h9)) h8)) h7)) h6)) h5)) h4)) h3)) h2))
 (fun k3 =>
 (callP (ref04_Small a 5) (fun r21 h20 =>
 (ifP (!r21)
 (K true h20)
 (callP (ref04_Small b 4) (fun r22 h21 =>
 (ifP (!r22)
 (K true h21)
 (callP (ref04_Short x) (fun r23 h22 =>
 (ifP (!r23)
 (K true h22)
 (k3 () h22))) h21))) h20))) h1))))) h)
def sturm_Changes (chain : Sl) (x : TRat) (K : Int → Hp → Prop) (h : Hp) : Prop :=
 (loopP (S := Int × Int × Int × Unit) (fun s1 k2 h1 =>
 (ifP (decide (s1.2.2.1 < (chain.len : Int)))
 (joinP (S := Int × Int × Unit) (fun s3 h2 =>
 (k2 (s3.1, s3.2.1, (IntKind.i64.wrap (s1.2.2.1 + 1)), ()) h2))
 (fun k4 =>
 (idxP chain s1.2.2.1 1 fun a5 =>
 (ldL (.sl) a5 (fun x6 =>
 (callP (polynomial_Eval x6 x) (fun r7 h3 =>
 (callP (rational_Sign r7) (fun r8 h4 =>
 (ifP (r8 == 0)
 (k4 (s1.1, s1.2.1, ()) h4)
 (ifP (s1.2.1 == (IntKind.i64.wrap (0 - r8)))
 (k4 ((IntKind.i64.wrap (s1.1 + 1)), r8, ()) h4)
 (k4 (s1.1, r8, ()) h4)))) h3)) h1)) h1))))
 (K s1.1 h1)))
 (0, 0, 0, ()) h)
def ref05_Changes (chain : Sl) (x : TRat) (K : Int → Hp → Prop) (h : Hp) : Prop :=
 (loopP (S := Int × Int × Int × Unit) (fun s1 k2 h1 =>
 (ifP (decide (s1.2.2.1 < (chain.len : Int)))
 (joinP (S := Int × Int × Unit) (fun s3 h2 =>
 (k2 (s3.1, s3.2.1, (IntKind.i64.wrap (s1.2.2.1 + 1)), ()) h2))
 (fun k4 =>
 (idxP chain s1.2.2.1 1 fun a5 =>
 (ldL (.sl) a5 (fun x6 =>
 (callP (ref04_Eval x6 x) (fun r7 h3 =>
 (callP (ref02_Sign r7) (fun r8 h4 =>
 (ifP (r8 != 0)
 (ifP (r8 == (IntKind.i64.wrap (0 - s1.2.1)))
 (k4 ((IntKind.i64.wrap (s1.1 + 1)), r8, ()) h4)
 (k4 (s1.1, r8, ()) h4))
 (k4 (s1.1, s1.2.1, ()) h4))) h3)) h1)) h1))))
 (K s1.1 h1)))
 (0, 0, 0, ()) h)
def law05_poly (l : Sl) (K : Sl → Hp → Prop) (h : Hp) : Prop :=
 (loopP (S := Sl × Int × Unit) (fun s1 k2 h1 =>
 (ifP (decide (s1.2.1 < (l.len : Int)))
 (idxP l s1.2.1 1 fun a3 =>
 (ldL (.int .i64) a3 (fun x4 =>
 (callP (ref02_FromInt x4) (fun r5 h2 =>
 (appP 4 64 [.bool false, .slice nilS.a nilS.len nilS.cap, .bool false, .slice nilS.a nilS.len nilS.cap] s1.1 1 [.bool r5.num.neg, .slice r5.num.mag.a r5.num.mag.len r5.num.mag.cap, .bool r5.den.neg, .slice r5.den.mag.a r5.den.mag.len r5.den.mag.cap] (fun w6 h3 =>
 (k2 (w6, (IntKind.i64.wrap (s1.2.1 + 1)), ()) h3)) h2)) h1)) h1))
 (K s1.1 h1)))
 (nilS, 0, ()) h)
def sturm_Chain (a : Sl) (K : Sl → Hp → Prop) (h : Hp) : Prop :=
 (callP (polynomial_Degree a) (fun r1 h1 =>
 (ifP (decide (r1 < 1))
 (K nilS h1)
 (callP (polynomial_Squarefree a) (fun r2 h2 =>
 (callP (polynomial_Derivative r2) (fun r3 h3 =>
 (newP [.slice r2.a r2.len r2.cap, .slice r3.a r3.len r3.cap] (fun p4 h4 =>
 (loopP (S := Sl × Sl × Sl × Unit) (fun s5 k6 h5 =>
 (callP (polynomial_DivMod s5.1 s5.2.1) (fun r7 h6 =>
 (joinP (S := Unit) (fun s8 h7 =>
 (callP (rational_FromInt (-1)) (fun r10 h8 =>
 (callP (polynomial_Scale r7.2.1 r10) (fun r11 h9 =>
 (appP 1 24 [.slice nilS.a nilS.len nilS.cap] s5.2.2.1 1 [.slice r11.a r11.len r11.cap] (fun w12 h10 =>
 (k6 (s5.2.1, r11, w12, ()) h10)) h9)) h8)) h7))
 (fun k9 =>
 (ifP (r7.2.2 != 0)
 (K s5.2.2.1 h6)
 (ifP ((r7.2.1.len : Int) == 0)
 (K s5.2.2.1 h6)
 (k9 () h6)))))) h5))
 (r2, r3, (⟨some p4, 2, 2⟩ : Sl), ()) h4)) h3)) h2)) h1))) h)
def ref05_Same (a : Sl) (b : Sl) (K : Bool → Hp → Prop) (h : Hp) : Prop :=
 (ifP ((a.len : Int) != (b.len : Int))
 (K false h)
 (loopP (S := Int × Unit) (fun s1 k2 h1 =>
 (ifP (decide (s1.1 < (a.len : Int)))
 (idxP a s1.1 1 fun a3 =>
 (ldL (.sl) a3 (fun x4 =>
 (idxP b s1.1 1 fun a5 =>
 (ldL (.sl) a5 (fun x6 =>
 (callP (ref04_Equal x4 x6) (fun r7 h2 =>
 (ifP (!r7)
 (K false h2)
 (k2 ((IntKind.i64.wrap (s1.1 + 1)), ()) h2))) h1)) h1))) h1))
 (K true h1)))
 (0, ()) h))
def law05_awake_1 (x : Int) (v0 : (Option Addr)) (K : Int → Hp → Prop) (h : Hp) : Prop :=
 (ptrK v0 fun p1 =>
 (ldL (.sl) p1 (fun x2 =>
 (callP (ref02_FromInt x) (fun r3 h1 =>
 (callP (sturm_Changes x2 r3) (fun r4 h2 =>
 (K r4 h2)) h1)) h)) h))
def sturm_around (a : Sl) (K : TInterval → Hp → Prop) (h : Hp) : Prop :=
 (callP (polynomial_Bound a) (fun r1 h1 =>
 (callP (rational_Neg r1) (fun r2 h2 =>
 (K (⟨r2, r1⟩ : TInterval) h2)) h1)) h)
def sturm_between (chain : Sl) (low : TRat) (high : TRat) (K : Int → Hp → Prop) (h : Hp) : Prop :=
 (callP (sturm_Changes chain low) (fun r1 h1 =>
 (callP (sturm_Changes chain high) (fun r2 h2 =>
 (K (IntKind.i64.wrap (r1 - r2)) h2)) h1)) h)
def sturm_Count (a : Sl) (low : TRat) (high : TRat) (K : Int → Hp → Prop) (h : Hp) : Prop :=
 (callP (rational_Cmp low high) (fun r1 h1 =>
 (ifP (decide (r1 ≥ 0))
 (K 0 h1)
 (callP (sturm_Chain a) (fun r2 h2 =>
 (callP (sturm_between r2 low high) (fun r3 h3 =>
 (K r3 h3)) h2)) h1))) h)
def sturm_Total (a : Sl) (K : Int → Hp → Prop) (h : Hp) : Prop :=
 (callP (sturm_around a) (fun r1 h1 =>
 (callP (sturm_Count a r1.low r1.high) (fun r2 h2 =>
 (K r2 h2)) h1)) h)
def law05_awake (K : Bool → Hp → Prop) (h : Hp) : Prop :=
 (newP [.int .i64 (-2), .int .i64 0, .int .i64 1] (fun p1 h1 =>
 (callP (law05_poly (⟨some p1, 3, 3⟩ : Sl)) (fun r2 h2 =>
 (callP (sturm_Chain r2) (fun r3 h3 =>
 (newP [.slice nilS.a nilS.len nilS.cap] (fun p4 h4 =>
 (stP p4 [.slice r3.a r3.len r3.cap] (fun h5 =>
 (ldL (.sl) p4 (fun x5 =>
 (newP [.int .i64 (-2), .int .i64 0, .int .i64 1] (fun p6 h6 =>
 (callP (law05_poly (⟨some p6, 3, 3⟩ : Sl)) (fun r7 h7 =>
 (newP [.int .i64 0, .int .i64 2] (fun p8 h8 =>
 (callP (law05_poly (⟨some p8, 2, 2⟩ : Sl)) (fun r9 h9 =>
 (newP [.int .i64 2] (fun p10 h10 =>
 (callP (law05_poly (⟨some p10, 1, 1⟩ : Sl)) (fun r11 h11 =>
 (newP [.slice r7.a r7.len r7.cap, .slice r9.a r9.len r9.cap, .slice r11.a r11.len r11.cap] (fun p12 h12 =>
 (callP (ref05_Same x5 (⟨some p12, 3, 3⟩ : Sl)) (fun r13 h13 =>
 (ifP r13
 (callP (law05_awake_1 0 (some p4)) (fun r14 h14 =>
 (ifP (r14 == 1)
 (callP (law05_awake_1 2 (some p4)) (fun r15 h15 =>
 (ifP (r15 == 0)
 (newP [.int .i64 3, .int .i64 (-5), .int .i64 1, .int .i64 1] (fun p16 h16 =>
 (callP (law05_poly (⟨some p16, 4, 4⟩ : Sl)) (fun r17 h17 =>
 (callP (sturm_Total r17) (fun r18 h18 =>
 (K (r18 == 2) h18)) h17)) h16)) h15)
 (K false h15))) h14)
 (K false h14))) h13)
 (K false h13))) h12)) h11)) h10)) h9)) h8)) h7)) h6)) h5)) h5)) h4)) h3)) h2)) h1)) h)
def ref05_Short (a : TRat) (K : Bool → Hp → Prop) (h : Hp) : Prop :=
 (callP (ref02_Valid a) (fun r1 h1 =>
 (ifP r1
 (ifP (decide ((a.num.mag.len : Int) ≤ 3))
 (K (decide ((a.den.mag.len : Int) ≤ 3)) h1)
 (K false h1))
 (K false h1))) h)
def ref05_Small (a : Sl) (K : Bool → Hp → Prop) (h : Hp) : Prop :=
 (loopP (S := Int × Unit) (fun s1 k2 h1 =>
 (ifP (decide (s1.1 < (a.len : Int)))
 (idxP a s1.1 4 fun a3 =>
 (ldL (.bool) (a3.add 0) (fun x4_0 =>
 (ldL (.sl) (a3.add 1) (fun x4_1 =>
 (ldL (.bool) (a3.add 2) (fun x4_2 =>
 (ldL (.sl) (a3.add 3) (fun x4_3 =>
 (callP (ref05_Short (⟨(⟨x4_0, x4_1⟩ : TInt), (⟨x4_2, x4_3⟩ : TInt)⟩ : TRat)) (fun r5 h2 =>
 (ifP (!r5)
 (K false h2)
 (k2 ((IntKind.i64.wrap (s1.1 + 1)), ()) h2))) h1)) h1)) h1)) h1)) h1))
 (K (decide ((a.len : Int) ≤ 8)) h1)))
 (0, ()) h)
def law05_small (l : Sl) (K : Bool → Hp → Prop) (h : Hp) : Prop :=
 (loopP (S := Int × Unit) (fun s1 k2 h1 =>
 (ifP (decide (s1.1 < (l.len : Int)))
 (idxP l s1.1 1 fun a3 =>
 (ldL (.sl) a3 (fun x4 =>
 (callP (ref05_Small x4) (fun r5 h2 =>
 (ifP (!r5)
 (K false h2)
 (k2 ((IntKind.i64.wrap (s1.1 + 1)), ()) h2))) h1)) h1))
 (K true h1)))
 (0, ()) h)
def law05_SturmChanges (chain : Sl) (x : TRat) (K : Bool → Hp → Prop) (h : Hp) : Prop :=
 (joinP (S := Unit) (fun s1 h1 =>
 (callP (sturm_Changes chain x) (fun r3 h2 =>
 (callP (ref05_Changes chain x) (fun r4 h3 =>
 (K (r3 == r4) h3)) h2)) h1))
 (fun k2 =>
 (callP (law05_awake) (fun r5 h4 =>
 (ifP (!r5)
 (callP (law05_awake) (fun r6 h5 =>
 (K r6 h5)) h4)
 (ifP (decide ((chain.len : Int) > 8))
 (callP (law05_awake) (fun r7 h6 =>
 (K r7 h6)) h4)
 (callP (law05_small chain) (fun r8 h7 =>
 (ifP (!r8)
 (callP (law05_awake) (fun r9 h8 =>
 (K r9 h8)) h7)
 (callP (ref05_Short x) (fun r10 h9 =>
 (ifP (!r10)
 (callP (law05_awake) (fun r11 h10 =>
 (K r11 h10)) h9)
 (k2 () h9))) h7))) h4)))) h)))
def law05_cp (a : Sl) (K : Sl → Hp → Prop) (h : Hp) : Prop :=
 (newP [] (fun p1 h1 =>
 (rdO a.a (a.len * 4) (fun vs2 =>
 (appP 4 64 [.bool false, .slice nilS.a nilS.len nilS.cap, .bool false, .slice nilS.a nilS.len nilS.cap] (⟨some p1, 0, 0⟩ : Sl) a.len vs2 (fun w3 h2 =>
 (K w3 h2)) h1)) h1)) h)
def ref04_GCD (a : Sl) (b : Sl) (K : Sl → Hp → Prop) (h : Hp) : Prop :=
 (callP (ref04_Monic a) (fun r1 h1 =>
 (callP (ref04_Monic b) (fun r2 h2 =>
 (loopP (S := Sl × Sl × Unit) (fun s3 k4 h3 =>
 (ifP (decide ((s3.2.1.len : Int) > 0))
 (callP (ref04_DivMod s3.1 s3.2.1) (fun r5 h4 =>
 (callP (ref04_Monic r5.2) (fun r6 h5 =>
 (k4 (s3.2.1, r6, ()) h5)) h4)) h3)
 (K s3.1 h3)))
 (r1, r2, ()) h2)) h1)) h)
def ref04_Squarefree (a : Sl) (K : Sl → Hp → Prop) (h : Hp) : Prop :=
 (callP (ref04_Monic a) (fun r1 h1 =>
 (ifP ((r1.len : Int) == 0)
 (K r1 h1)
 (callP (ref04_Derivative r1) (fun r2 h2 =>
 (callP (ref04_GCD r1 r2) (fun r3 h3 =>
 (callP (ref04_DivMod r1 r3) (fun r4 h4 =>
 (callP (ref04_Monic r4.1) (fun r5 h5 =>
 (K r5 h5)) h4)) h3)) h2)) h1))) h)
def ref05_Chain (a : Sl) (K : Sl → Hp → Prop) (h : Hp) : Prop :=
 (callP (ref04_Degree a) (fun r1 h1 =>
 (ifP (decide (r1 < 1))
 (K nilS h1)
 (callP (ref04_Squarefree a) (fun r2 h2 =>
 (newP [.slice r2.a r2.len r2.cap] (fun p3 h3 =>
 (callP (ref04_Derivative r2) (fun r4 h4 =>
 (loopP (S := Sl × Sl × Sl × Unit) (fun s5 k6 h5 =>
 (ifP (decide ((s5.2.2.1.len : Int) > 0))
 (appP 1 24 [.slice nilS.a nilS.len nilS.cap] s5.2.1 1 [.slice s5.2.2.1.a s5.2.2.1.len s5.2.2.1.cap] (fun w7 h6 =>
 (callP (ref04_DivMod s5.1 s5.2.2.1) (fun r8 h7 =>
 (callP (ref02_FromInt (-1)) (fun r9 h8 =>
 (callP (ref04_Scale r8.2 r9) (fun r10 h9 =>
 (k6 (s5.2.2.1, w7, r10, ()) h9)) h8)) h7)) h6)) h5)
 (K s5.2.1 h5)))
 (r2, (⟨some p3, 1, 1⟩ : Sl), r4, ()) h4)) h3)) h2)) h1))) h)
def ref05_Count (a : Sl) (low : TRat) (high : TRat) (K : Int → Hp → Prop) (h : Hp) : Prop :=
 (callP (ref02_Cmp low high) (fun r1 h1 =>
 (ifP (decide (r1 ≥ 0))
 (K 0 h1)
 (callP (ref05_Chain a) (fun r2 h2 =>
 (callP (ref05_Changes r2 low) (fun r3 h3 =>
 (callP (ref05_Changes r2 high) (fun r4 h4 =>
 (K (IntKind.i64.wrap (r3 - r4)) h4)) h3)) h2)) h1))) h)
def ref05_ends (a : Sl) (K : (TRat × TRat) → Hp → Prop) (h : Hp) : Prop :=
 (callP (ref04_Bound a) (fun r1 h1 =>
 (callP (ref02_Neg r1) (fun r2 h2 =>
 (K (r2, r1) h2)) h1)) h)
def ref05_Total (a : Sl) (K : Int → Hp → Prop) (h : Hp) : Prop :=
 (callP (ref05_ends a) (fun r1 h1 =>
 (callP (ref05_Count a (⟨(⟨r1.1.num.neg, r1.1.num.mag⟩ : TInt), (⟨r1.1.den.neg, r1.1.den.mag⟩ : TInt)⟩ : TRat) (⟨(⟨r1.2.num.neg, r1.2.num.mag⟩ : TInt), (⟨r1.2.den.neg, r1.2.den.mag⟩ : TInt)⟩ : TRat)) (fun r2 h2 =>
 (K r2 h2)) h1)) h)
def law05_SturmCount (a : Sl) (x : A3_TRat) (K : Bool → Hp → Prop) (h : Hp) : Prop :=
 (joinP (S := Unit) (fun s1 h1 =>
 (callP (law05_cp a) (fun r3 h2 =>
 (callP (sturm_Count r3 x.c0 x.c1) (fun r4 h3 =>
 (callP (law05_cp a) (fun r5 h4 =>
 (callP (sturm_Count r5 x.c1 x.c2) (fun r6 h5 =>
 (callP (law05_cp a) (fun r7 h6 =>
 (callP (sturm_Count r7 x.c0 x.c2) (fun r8 h7 =>
 (joinP (S := Unit) (fun s9 h8 =>
 (joinP (S := Bool × Unit) (fun s11 h9 =>
 (ifP (!s11.1)
 (K true h9)
 (K ((IntKind.i64.wrap (r4 + r6)) == r8) h9)))
 (fun k12 =>
 (callP (ref02_Cmp x.c0 x.c1) (fun r13 h10 =>
 (ifP (decide (r13 ≤ 0))
 (callP (ref02_Cmp x.c1 x.c2) (fun r14 h11 =>
 (k12 (decide (r14 ≤ 0), ()) h11)) h10)
 (k12 (false, ()) h10))) h8))))
 (fun k10 =>
 (callP (ref05_Count a x.c0 x.c1) (fun r15 h12 =>
 (ifP (r4 != r15)
 (K false h12)
 (callP (ref05_Count a x.c1 x.c2) (fun r16 h13 =>
 (ifP (r6 != r16)
 (K false h13)
 (callP (law05_cp a) (fun r17 h14 =>
 (callP (sturm_Total r17) (fun r18 h15 =>
 (callP (ref05_Total a) (fun r19 h16 =>
 (ifP (r18 != r19)
 (K false h16)
 (k10 () h16))) h15)) h14)) h13))) h12))) h7)))) h6)) h5)) h4)) h3)) h2)) h1))
 (fun k2 =>
 (callP (law05_awake) (fun r20 h17 =>
 (ifP (!r20)
 (callP (law05_awake) (fun r21 h18 =>
 (K r21 h18)) h17)
 (newP [.slice a.a a.len a.cap] (fun p22 h19 =>
 (callP (law05_small (⟨some p22, 1, 1⟩ : Sl)) (fun r23 h20 =>
 (ifP (!r23)
 (callP (law05_awake) (fun r24 h21 =>
 (K r24 h21)) h20)
 (callP (ref05_Short x.c0) (fun r25 h22 =>
 (ifP (!r25)
 (callP (law05_awake) (fun r26 h23 =>
 (K r26 h23)) h22)
 (callP (ref05_Short x.c1) (fun r27 h24 =>
 (ifP (!r27)
 (callP (law05_awake) (fun r28 h25 =>
 (K r28 h25)) h24)
 (callP (ref05_Short x.c2) (fun r29 h26 =>
 (ifP (!r29)
 (callP (law05_awake) (fun r30 h27 =>
 (K r30 h27)) h26)
 (k2 () h26))) h24))) h22))) h20))) h19)) h17))) h)))
def law05_SturmPowers (a : Sl) (b : Sl) (K : Bool → Hp → Prop) (h : Hp) : Prop :=
 (joinP (S := Unit) (fun s1 h1 =>
 (callP (ref04_GCD a b) (fun r3 h2 =>
 (callP (ref04_Mul a a) (fun r4 h3 =>
 (callP (sturm_Total r4) (fun r5 h4 =>
 (callP (law05_cp a) (fun r6 h5 =>
 (callP (sturm_Total r6) (fun r7 h6 =>
 (ifP (r5 == r7)
 (callP (ref04_Mul a b) (fun r8 h7 =>
 (callP (sturm_Total r8) (fun r9 h8 =>
 (callP (law05_cp a) (fun r10 h9 =>
 (callP (sturm_Total r10) (fun r11 h10 =>
 (callP (law05_cp b) (fun r12 h11 =>
 (callP (sturm_Total r12) (fun r13 h12 =>
 (callP (sturm_Total r3) (fun r14 h13 =>
 (K (r9 == (IntKind.i64.wrap ((IntKind.i64.wrap (r11 + r13)) - r14))) h13)) h12)) h11)) h10)) h9)) h8)) h7)) h6)
 (K false h6))) h5)) h4)) h3)) h2)) h1))
 (fun k2 =>
 (callP (law05_awake) (fun r15 h14 =>
 (ifP (!r15)
 (callP (law05_awake) (fun r16 h15 =>
 (K r16 h15)) h14)
 (newP [.slice a.a a.len a.cap, .slice b.a b.len b.cap] (fun p17 h16 =>
 (callP (law05_small (⟨some p17, 2, 2⟩ : Sl)) (fun r18 h17 =>
 (ifP (!r18)
 (callP (law05_awake) (fun r19 h18 =>
 (K r19 h18)) h17)
 (ifP (decide ((a.len : Int) > 4))
 (callP (law05_awake) (fun r20 h19 =>
 (K r20 h19)) h17)
 (ifP (decide ((b.len : Int) > 4))
 (callP (law05_awake) (fun r21 h20 =>
 (K r21 h20)) h17)
 (callP (ref04_Degree a) (fun r22 h21 =>
 (ifP (decide (r22 < 0))
 (callP (law05_awake) (fun r23 h22 =>
 (K r23 h22)) h21)
 (callP (ref04_Degree b) (fun r24 h23 =>
 (ifP (decide (r24 < 0))
 (callP (law05_awake) (fun r25 h24 =>
 (K r25 h24)) h23)
 (k2 () h23))) h21))) h17))))) h16)) h14))) h)))
def sturm_single (chain : Sl) (i : TInterval) (K : Bool → Hp → Prop) (h : Hp) : Prop :=
 (callP (rational_Valid i.low) (fun r1 h1 =>
 (ifP r1
 (callP (rational_Valid i.high) (fun r2 h2 =>
 (ifP r2
 (callP (interval_Valid i) (fun r3 h3 =>
 (ifP r3
 (callP (rational_Cmp i.low i.high) (fun r4 h4 =>
 (ifP (decide (r4 < 0))
 (callP (sturm_between chain i.low i.high) (fun r5 h5 =>
 (K (r5 == 1) h5)) h4)
 (K false h4))) h3)
 (K false h3))) h2)
 (K false h2))) h1)
 (K false h1))) h)
def sturm_Root (a : Sl) (i : TInterval) (K : (Int × Int) → Hp → Prop) (h : Hp) : Prop :=
 (callP (sturm_Chain a) (fun r1 h1 =>
 (callP (sturm_single r1 i) (fun r2 h2 =>
 (ifP (!r2)
 (K (0, 1) h2)
 (callP (sturm_around a) (fun r3 h3 =>
 (callP (rational_Cmp i.low r3.low) (fun r4 h4 =>
 (ifP (decide (r4 ≤ 0))
 (K (0, 0) h4)
 (callP (sturm_between r1 r3.low i.low) (fun r5 h5 =>
 (K (r5, 0) h5)) h4))) h3)) h2))) h1)) h)
def ref05_Interval (i : TInterval) (K : Bool → Hp → Prop) (h : Hp) : Prop :=
 (callP (ref02_Valid i.low) (fun r1 h1 =>
 (ifP r1
 (callP (ref02_Valid i.high) (fun r2 h2 =>
 (ifP r2
 (callP (ref02_Cmp i.low i.high) (fun r3 h3 =>
 (K (decide (r3 ≤ 0)) h3)) h2)
 (K false h2))) h1)
 (K false h1))) h)
def ref05_One (a : Sl) (i : TInterval) (K : Bool → Hp → Prop) (h : Hp) : Prop :=
 (callP (ref05_Interval i) (fun r1 h1 =>
 (ifP r1
 (callP (ref05_Count a i.low i.high) (fun r2 h2 =>
 (K (r2 == 1) h2)) h1)
 (K false h1))) h)
def ref05_Root (a : Sl) (i : TInterval) (K : Int → Hp → Prop) (h : Hp) : Prop :=
 (callP (ref05_ends a) (fun r1 h1 =>
 (callP (ref05_Count a (⟨(⟨r1.1.num.neg, r1.1.num.mag⟩ : TInt), (⟨r1.1.den.neg, r1.1.den.mag⟩ : TInt)⟩ : TRat) i.high) (fun r2 h2 =>
 (K (IntKind.i64.wrap (r2 - 1)) h2)) h1)) h)
def law05_SturmRoot (a : Sl) (i : TInterval) (K : Bool → Hp → Prop) (h : Hp) : Prop :=
 (joinP (S := Unit) (fun s1 h1 =>
 (callP (law05_cp a) (fun r3 h2 =>
 (callP (sturm_Root r3 i) (fun r4 h3 =>
 (callP (ref05_One a i) (fun r5 h4 =>
 (ifP (!r5)
 (ifP (r4.1 == 0)
 (K (r4.2 == 1) h4)
 (K false h4))
 (callP (ref05_Root a i) (fun r6 h5 =>
 (ifP (r4.1 == r6)
 (K (r4.2 == 0) h5)
 (K false h5))) h4))) h3)) h2)) h1))
 (fun k2 =>
 (callP (law05_awake) (fun r7 h6 =>
 (ifP (!r7)
 (callP (law05_awake) (fun r8 h7 =>
 (K r8 h7)) h6)
 (newP [.slice a.a a.len a.cap] (fun p9 h8 =>
 (callP (law05_small (⟨some p9, 1, 1⟩ : Sl)) (fun r10 h9 =>
 (ifP (!r10)
 (callP (law05_awake) (fun r11 h10 =>
 (K r11 h10)) h9)
 (ifP (decide ((i.low.num.mag.len : Int) > 4))
 (callP (law05_awake) (fun r12 h11 =>
 (K r12 h11)) h9)
 (ifP (decide ((i.high.num.mag.len : Int) > 4))
 (callP (law05_awake) (fun r13 h12 =>
 (K r13 h12)) h9)
 (ifP (decide ((i.low.den.mag.len : Int) > 4))
 (callP (law05_awake) (fun r14 h13 =>
 (K r14 h13)) h9)
 (ifP (decide ((i.high.den.mag.len : Int) > 4))
 (callP (law05_awake) (fun r15 h14 =>
 (K r15 h14)) h9)
 (k2 () h9))))))) h8)) h6))) h)))
def ref05_Product (roots : Sl) (a : Sl) (K : Sl → Hp → Prop) (h : Hp) : Prop :=
 (loopP (S := Sl × Int × Unit) (fun s1 k2 h1 =>
 (ifP (decide (s1.2.1 < (roots.len : Int)))
 (idxP roots s1.2.1 4 fun a3 =>
 (ldL (.bool) (a3.add 0) (fun x4_0 =>
 (ldL (.sl) (a3.add 1) (fun x4_1 =>
 (ldL (.bool) (a3.add 2) (fun x4_2 =>
 (ldL (.sl) (a3.add 3) (fun x4_3 =>
 (callP (ref02_Neg (⟨(⟨x4_0, x4_1⟩ : TInt), (⟨x4_2, x4_3⟩ : TInt)⟩ : TRat)) (fun r5 h2 =>
 (callP (ref02_FromInt 1) (fun r6 h3 =>
 (newP [.bool r5.num.neg, .slice r5.num.mag.a r5.num.mag.len r5.num.mag.cap, .bool r5.den.neg, .slice r5.den.mag.a r5.den.mag.len r5.den.mag.cap, .bool r6.num.neg, .slice r6.num.mag.a r6.num.mag.len r6.num.mag.cap, .bool r6.den.neg, .slice r6.den.mag.a r6.den.mag.len r6.den.mag.cap] (fun p7 h4 =>
 (callP (ref04_Mul s1.1 (⟨some p7, 2, 2⟩ : Sl)) (fun r8 h5 =>
 (k2 (r8, (IntKind.i64.wrap (s1.2.1 + 1)), ()) h5)) h4)) h3)) h2)) h1)) h1)) h1)) h1)) h1))
 (K s1.1 h1)))
 (a, 0, ()) h)
def rational_Frac (num : Int) (den : Int) (K : TRat → Hp → Prop) (h : Hp) : Prop :=
 (callP (integer_FromInt num) (fun r1 h1 =>
 (callP (integer_FromInt den) (fun r2 h2 =>
 (callP (rational_Make r1 r2) (fun r3 h3 =>
 (ifP (r3.2 != 0)
 (callP (rational_FromInt 0) (fun r4 h4 =>
 (K r4 h4)) h3)
 (K (⟨(⟨r3.1.num.neg, r3.1.num.mag⟩ : TInt), (⟨r3.1.den.neg, r3.1.den.mag⟩ : TInt)⟩ : TRat) h3))) h2)) h1)) h)
def sturm_middle (i : TInterval) (K : TRat → Hp → Prop) (h : Hp) : Prop :=
 (callP (rational_Add i.low i.high) (fun r1 h1 =>
 (callP (rational_Frac 1 2) (fun r2 h2 =>
 (callP (rational_Mul r1 r2) (fun r3 h3 =>
 (K r3 h3)) h2)) h1)) h)
def sturm_isolate_ : Nat → Sl → TInterval → Int → Int → (Sl → Hp → Prop) → Hp → Prop
 | 0, _, _, _, _, _, _ => False
 | fuel + 1, chain, i, low, high, K, h =>
 (ifP ((IntKind.i64.wrap (low - high)) == 0)
 (K nilS h)
 (ifP ((IntKind.i64.wrap (low - high)) == 1)
 (newP [.bool i.low.num.neg, .slice i.low.num.mag.a i.low.num.mag.len i.low.num.mag.cap, .bool i.low.den.neg, .slice i.low.den.mag.a i.low.den.mag.len i.low.den.mag.cap, .bool i.high.num.neg, .slice i.high.num.mag.a i.high.num.mag.len i.high.num.mag.cap, .bool i.high.den.neg, .slice i.high.den.mag.a i.high.den.mag.len i.high.den.mag.cap] (fun p1 h1 =>
 (K (⟨some p1, 1, 1⟩ : Sl) h1)) h)
 (callP (sturm_middle i) (fun r2 h2 =>
 (callP (sturm_Changes chain r2) (fun r3 h3 =>
 (callP ((sturm_isolate_ fuel) chain (⟨i.low, r2⟩ : TInterval) low r3) (fun r4 h4 =>
 (callP ((sturm_isolate_ fuel) chain (⟨r2, i.high⟩ : TInterval) r3 high) (fun r5 h5 =>
 (rdO r5.a (r5.len * 8) (fun vs6 =>
 (appP 8 128 [.bool false, .slice nilS.a nilS.len nilS.cap, .bool false, .slice nilS.a nilS.len nilS.cap, .bool false, .slice nilS.a nilS.len nilS.cap, .bool false, .slice nilS.a nilS.len nilS.cap] r4 r5.len vs6 (fun w7 h6 =>
 (K w7 h6)) h5)) h5)) h4)) h3)) h2)) h)))
def sturm_isolate (chain : Sl) (i : TInterval) (low : Int) (high : Int) (K : Sl → Hp → Prop) (h : Hp) : Prop := ∃ fuel, sturm_isolate_ fuel chain i low high K h
def sturm_Isolate (a : Sl) (K : Sl → Hp → Prop) (h : Hp) : Prop :=
 (callP (sturm_Chain a) (fun r1 h1 =>
 (ifP ((r1.len : Int) == 0)
 (K nilS h1)
 (callP (sturm_around a) (fun r2 h2 =>
 (callP (sturm_Changes r1 r2.low) (fun r3 h3 =>
 (callP (sturm_Changes r1 r2.high) (fun r4 h4 =>
 (callP (sturm_isolate r1 r2 r3 r4) (fun r5 h5 =>
 (K r5 h5)) h4)) h3)) h2)) h1))) h)
def law05_SturmKnown (roots : Sl) (complex : Bool) (x : A2_TRat) (K : Bool → Hp → Prop) (h : Hp) : Prop :=
 (joinP (S := Unit) (fun s1 h1 =>
 (newP [.int .i64 1] (fun p3 h2 =>
 (callP (law05_poly (⟨some p3, 1, 1⟩ : Sl)) (fun r4 h3 =>
 (joinP (S := Sl × Unit) (fun s5 h4 =>
 (callP (ref05_Product roots s5.1) (fun r7 h5 =>
 (loopP (S := Int × Int × Int × Unit) (fun s8 k9 h6 =>
 (ifP (decide (s8.2.2.1 < (roots.len : Int)))
 (joinP (S := Int × Int × Unit) (fun s10 h7 =>
 (k9 (s10.1, s10.2.1, (IntKind.i64.wrap (s8.2.2.1 + 1)), ()) h7))
 (fun k11 =>
 (idxP roots s8.2.2.1 4 fun a12 =>
 (ldL (.bool) (a12.add 0) (fun x13_0 =>
 (ldL (.sl) (a12.add 1) (fun x13_1 =>
 (ldL (.bool) (a12.add 2) (fun x13_2 =>
 (ldL (.sl) (a12.add 3) (fun x13_3 =>
 (slP roots 0 s8.2.2.1 4 fun c14 =>
 (loopP (S := Bool × Int × Unit) (fun s15 k16 h8 =>
 (ifP (decide (s15.2.1 < (c14.len : Int)))
 (joinP (S := Bool × Unit) (fun s17 h9 =>
 (k16 (s17.1, (IntKind.i64.wrap (s15.2.1 + 1)), ()) h9))
 (fun k18 =>
 (idxP c14 s15.2.1 4 fun a19 =>
 (ldL (.bool) (a19.add 0) (fun x20_0 =>
 (ldL (.sl) (a19.add 1) (fun x20_1 =>
 (ldL (.bool) (a19.add 2) (fun x20_2 =>
 (ldL (.sl) (a19.add 3) (fun x20_3 =>
 (ifP s15.1
 (k18 (true, ()) h8)
 (callP (ref02_Cmp (⟨(⟨x13_0, x13_1⟩ : TInt), (⟨x13_2, x13_3⟩ : TInt)⟩ : TRat) (⟨(⟨x20_0, x20_1⟩ : TInt), (⟨x20_2, x20_3⟩ : TInt)⟩ : TRat)) (fun r21 h10 =>
 (k18 ((r21 == 0), ()) h10)) h8))) h8)) h8)) h8)) h8))))
 (ifP s15.1
 (k11 (s8.1, s8.2.1, ()) h8)
 (callP (ref02_Cmp x.c0 (⟨(⟨x13_0, x13_1⟩ : TInt), (⟨x13_2, x13_3⟩ : TInt)⟩ : TRat)) (fun r22 h11 =>
 (ifP (decide (r22 < 0))
 (callP (ref02_Cmp (⟨(⟨x13_0, x13_1⟩ : TInt), (⟨x13_2, x13_3⟩ : TInt)⟩ : TRat) x.c1) (fun r23 h12 =>
 (ifP (decide (r23 ≤ 0))
 (k11 ((IntKind.i64.wrap (s8.1 + 1)), (IntKind.i64.wrap (s8.2.1 + 1)), ()) h12)
 (k11 ((IntKind.i64.wrap (s8.1 + 1)), s8.2.1, ()) h12))) h11)
 (k11 ((IntKind.i64.wrap (s8.1 + 1)), s8.2.1, ()) h11))) h8))))
 (false, 0, ()) h6))) h6)) h6)) h6)) h6))))
 (callP (sturm_Total r7) (fun r24 h13 =>
 (ifP (r24 == s8.1)
 (callP (sturm_Count r7 x.c0 x.c1) (fun r25 h14 =>
 (ifP (r25 == s8.2.1)
 (callP (sturm_Isolate r7) (fun r26 h15 =>
 (K ((r26.len : Int) == s8.1) h15)) h14)
 (K false h14))) h13)
 (K false h13))) h6)))
 (0, 0, 0, ()) h5)) h4))
 (fun k6 =>
 (ifP complex
 (newP [.int .i64 1, .int .i64 0, .int .i64 1] (fun p27 h16 =>
 (callP (law05_poly (⟨some p27, 3, 3⟩ : Sl)) (fun r28 h17 =>
 (k6 (r28, ()) h17)) h16)) h3)
 (k6 (r4, ()) h3))))) h2)) h1))
 (fun k2 =>
 (callP (law05_awake) (fun r29 h18 =>
 (ifP (!r29)
 (callP (law05_awake) (fun r30 h19 =>
 (K r30 h19)) h18)
 (ifP (decide ((roots.len : Int) > 5))
 (callP (law05_awake) (fun r31 h20 =>
 (K r31 h20)) h18)
 (newP [.slice roots.a roots.len roots.cap] (fun p32 h21 =>
 (callP (law05_small (⟨some p32, 1, 1⟩ : Sl)) (fun r33 h22 =>
 (ifP (!r33)
 (callP (law05_awake) (fun r34 h23 =>
 (K r34 h23)) h22)
 (callP (ref05_Short x.c0) (fun r35 h24 =>
 (ifP (!r35)
 (callP (law05_awake) (fun r36 h25 =>
 (K r36 h25)) h24)
 (callP (ref05_Short x.c1) (fun r37 h26 =>
 (ifP (!r37)
 (callP (law05_awake) (fun r38 h27 =>
 (K r38 h27)) h26)
 (k2 () h26))) h24))) h22))) h21)) h18)))) h)))
def sturm_Refine (a : Sl) (i : TInterval) (width : TRat) (K : (TInterval × Int) → Hp → Prop) (h : Hp) : Prop :=
 (callP (sturm_Chain a) (fun r1 h1 =>
 (joinP (S := (Bool × Sl × Bool × Sl × Bool × Sl × Bool × Sl × Unit) × Unit) (fun s2 h2 =>
 (loopP (S := (Bool × Sl × Bool × Sl × Bool × Sl × Bool × Sl × Unit) × Unit) (fun s4 k5 h3 =>
 (callP (interval_Width (⟨(⟨(⟨s4.1.1, s4.1.2.1⟩ : TInt), (⟨s4.1.2.2.1, s4.1.2.2.2.1⟩ : TInt)⟩ : TRat), (⟨(⟨s4.1.2.2.2.2.1, s4.1.2.2.2.2.2.1⟩ : TInt), (⟨s4.1.2.2.2.2.2.2.1, s4.1.2.2.2.2.2.2.2.1⟩ : TInt)⟩ : TRat)⟩ : TInterval)) (fun r6 h4 =>
 (callP (rational_Cmp r6 width) (fun r7 h5 =>
 (ifP (decide (r7 > 0))
 (callP (sturm_middle (⟨(⟨(⟨s4.1.1, s4.1.2.1⟩ : TInt), (⟨s4.1.2.2.1, s4.1.2.2.2.1⟩ : TInt)⟩ : TRat), (⟨(⟨s4.1.2.2.2.2.1, s4.1.2.2.2.2.2.1⟩ : TInt), (⟨s4.1.2.2.2.2.2.2.1, s4.1.2.2.2.2.2.2.2.1⟩ : TInt)⟩ : TRat)⟩ : TInterval)) (fun r8 h6 =>
 (callP (sturm_between r1 (⟨(⟨s4.1.1, s4.1.2.1⟩ : TInt), (⟨s4.1.2.2.1, s4.1.2.2.2.1⟩ : TInt)⟩ : TRat) r8) (fun r9 h7 =>
 (ifP (r9 == 1)
 (k5 ((s4.1.1, s4.1.2.1, s4.1.2.2.1, s4.1.2.2.2.1, r8.num.neg, r8.num.mag, r8.den.neg, r8.den.mag, ()), ()) h7)
 (k5 ((r8.num.neg, r8.num.mag, r8.den.neg, r8.den.mag, s4.1.2.2.2.2.1, s4.1.2.2.2.2.2.1, s4.1.2.2.2.2.2.2.1, s4.1.2.2.2.2.2.2.2.1, ()), ()) h7))) h6)) h5)
 (callP (rational_FromInt 0) (fun r10 h8 =>
 (callP (interval_Point r10) (fun r11 h9 =>
 (callP (interval_Add (⟨(⟨(⟨s4.1.1, s4.1.2.1⟩ : TInt), (⟨s4.1.2.2.1, s4.1.2.2.2.1⟩ : TInt)⟩ : TRat), (⟨(⟨s4.1.2.2.2.2.1, s4.1.2.2.2.2.2.1⟩ : TInt), (⟨s4.1.2.2.2.2.2.2.1, s4.1.2.2.2.2.2.2.2.1⟩ : TInt)⟩ : TRat)⟩ : TInterval) r11) (fun r12 h10 =>
 (K (r12, 0) h10)) h9)) h8)) h5))) h4)) h3))
 ((i.low.num.neg, i.low.num.mag, i.low.den.neg, i.low.den.mag, i.high.num.neg, i.high.num.mag, i.high.den.neg, i.high.den.mag, ()), ()) h2))
 (fun k3 =>
 (callP (sturm_single r1 i) (fun r13 h11 =>
 (ifP (!r13)
 (K ((⟨(⟨(⟨false, nilS⟩ : TInt), (⟨false, nilS⟩ : TInt)⟩ : TRat), (⟨(⟨false, nilS⟩ : TInt), (⟨false, nilS⟩ : TInt)⟩ : TRat)⟩ : TInterval), 1) h11)
 (callP (rational_Sign width) (fun r14 h12 =>
 (ifP (decide (r14 ≤ 0))
 (K ((⟨(⟨(⟨false, nilS⟩ : TInt), (⟨false, nilS⟩ : TInt)⟩ : TRat), (⟨(⟨false, nilS⟩ : TInt), (⟨false, nilS⟩ : TInt)⟩ : TRat)⟩ : TInterval), 1) h12)
 (k3 ((false, nilS, false, nilS, false, nilS, false, nilS, ()), ()) h12))) h11))) h1)))) h)
def law05_SturmRefine (a : Sl) (i : TInterval) (width : TRat) (K : Bool → Hp → Prop) (h : Hp) : Prop :=
 (joinP (S := Unit) (fun s1 h1 =>
 (callP (law05_cp a) (fun r3 h2 =>
 (callP (sturm_Refine r3 i width) (fun r4 h3 =>
 (joinP (S := Unit) (fun s5 h4 =>
 (ifP (r4.2 == 0)
 (callP (ref05_One a (⟨(⟨(⟨r4.1.low.num.neg, r4.1.low.num.mag⟩ : TInt), (⟨r4.1.low.den.neg, r4.1.low.den.mag⟩ : TInt)⟩ : TRat), (⟨(⟨r4.1.high.num.neg, r4.1.high.num.mag⟩ : TInt), (⟨r4.1.high.den.neg, r4.1.high.den.mag⟩ : TInt)⟩ : TRat)⟩ : TInterval)) (fun r7 h5 =>
 (ifP r7
 (callP (ref02_Cmp i.low (⟨(⟨r4.1.low.num.neg, r4.1.low.num.mag⟩ : TInt), (⟨r4.1.low.den.neg, r4.1.low.den.mag⟩ : TInt)⟩ : TRat)) (fun r8 h6 =>
 (ifP (decide (r8 ≤ 0))
 (callP (ref02_Cmp (⟨(⟨r4.1.high.num.neg, r4.1.high.num.mag⟩ : TInt), (⟨r4.1.high.den.neg, r4.1.high.den.mag⟩ : TInt)⟩ : TRat) i.high) (fun r9 h7 =>
 (ifP (decide (r9 ≤ 0))
 (callP (ref02_Sub (⟨(⟨r4.1.high.num.neg, r4.1.high.num.mag⟩ : TInt), (⟨r4.1.high.den.neg, r4.1.high.den.mag⟩ : TInt)⟩ : TRat) (⟨(⟨r4.1.low.num.neg, r4.1.low.num.mag⟩ : TInt), (⟨r4.1.low.den.neg, r4.1.low.den.mag⟩ : TInt)⟩ : TRat)) (fun r10 h8 =>
 (callP (ref02_Cmp r10 width) (fun r11 h9 =>
 (K (decide (r11 ≤ 0)) h9)) h8)) h7)
 (K false h7))) h6)
 (K false h6))) h5)
 (K false h5))) h4)
 (K false h4)))
 (fun k6 =>
 (callP (ref02_Sign width) (fun r12 h10 =>
 (ifP (decide (r12 ≤ 0))
 (ifP (r4.2 == 1)
 (ifP ((r4.1.low.den.mag.len : Int) == 0)
 (K ((r4.1.high.den.mag.len : Int) == 0) h10)
 (K false h10))
 (K false h10))
 (callP (ref05_One a i) (fun r13 h11 =>
 (ifP (!r13)
 (ifP (r4.2 == 1)
 (ifP ((r4.1.low.den.mag.len : Int) == 0)
 (K ((r4.1.high.den.mag.len : Int) == 0) h11)
 (K false h11))
 (K false h11))
 (k6 () h11))) h10))) h3)))) h2)) h1))
 (fun k2 =>
 (callP (law05_awake) (fun r14 h12 =>
 (ifP (!r14)
 (callP (law05_awake) (fun r15 h13 =>
 (K r15 h13)) h12)
 (newP [.slice a.a a.len a.cap] (fun p16 h14 =>
 (callP (law05_small (⟨some p16, 1, 1⟩ : Sl)) (fun r17 h15 =>
 (ifP (!r17)
 (callP (law05_awake) (fun r18 h16 =>
 (K r18 h16)) h15)
 (callP (ref05_Short width) (fun r19 h17 =>
 (ifP (!r19)
 (callP (law05_awake) (fun r20 h18 =>
 (K r20 h18)) h17)
 (ifP (decide ((i.low.num.mag.len : Int) > 4))
 (callP (law05_awake) (fun r21 h19 =>
 (K r21 h19)) h17)
 (ifP (decide ((i.high.num.mag.len : Int) > 4))
 (callP (law05_awake) (fun r22 h20 =>
 (K r22 h20)) h17)
 (ifP (decide ((i.low.den.mag.len : Int) > 4))
 (callP (law05_awake) (fun r23 h21 =>
 (K r23 h21)) h17)
 (ifP (decide ((i.high.den.mag.len : Int) > 4))
 (callP (law05_awake) (fun r24 h22 =>
 (K r24 h22)) h17)
 (k2 () h17))))))) h15))) h14)) h12))) h)))
def math_bits_Mul32 (x : Int) (y : Int) (K : (Int × Int) → Hp → Prop) (h : Hp) : Prop :=
 (0 ≤ (32 : Int) ∧
 (K ((IntKind.u32.wrap (((IntKind.u64.wrap ((IntKind.u64.wrap (x)) * (IntKind.u64.wrap (y)))) : Int).fdiv (2 ^ (min (32 : Int).toNat IntKind.u64.bits)))), (IntKind.u32.wrap ((IntKind.u64.wrap ((IntKind.u64.wrap (x)) * (IntKind.u64.wrap (y))))))) h))
end F
end Den
end

section
/-
  Lists of one's own beside memory that stays: D is the part that stays, h the whole.
-/
set_option linter.unusedVariables false
namespace Den
open Go Iv

/-- A call that needs only a part of the memory. -/
theorem callP_sub {α : Type} {G : (α → Hp → Prop) → Hp → Prop} {K1 K : α → Hp → Prop} {D h : Hp} (hD : D.le h) (H : callP G K1 D)
    (k : ∀ v D' h', D.le D' → D'.le h' → (∀ j, D j = none → h j ≠ none → D' j = none ∧ h' j = h j) → K1 v D' → K v h') : callP G K h := by
  obtain ⟨O, hO⟩ : ∃ O : Hp, O = fun j => match D j with | none => h j | some _ => none := ⟨_, rfl⟩
  have e : h = D.add O := by
    funext j
    unfold Hp.add
    rw [hO]
    cases hj : D j with
    | none => simp [hj]
    | some b => simp [hD j b hj]
  have hdj : D.dj O := fun j => by
    cases hj : D j with
    | none => exact .inl rfl
    | some b => right; rw [hO]; simp [hj]
  rw [e]
  refine callP_frame hdj H fun v D' hl hdj' hk => k v D' _ hl (Hp.le_add _ _) (fun j h1 h2 => ?_) hk
  have e2 : h j = O j := by rw [hO]; simp [h1]
  rw [e2] at h2 ⊢
  have h3 : D' j = none := by
    rcases hdj' j with h4 | h4
    · exact h4
    · exact absurd h4 h2
  exact ⟨h3, by unfold Hp.add; rw [h3]⟩

theorem Own.move {D h D' h' : Hp} {n : Nat} {l : Sl} {cs : List Value} (ho : Own D h n l cs) (h1 : D'.le h') (hfr : ∀ j, D j = none → h j ≠ none → D' j = none ∧ h' j = h j) : Own D' h' n l cs := by
  obtain ⟨g1, g2, g3, g4⟩ := ho
  refine ⟨h1, g2, g3, ?_⟩
  cases ha : l.a with
  | none => rw [ha] at g4; exact g4
  | some a =>
    rw [ha] at g4
    obtain ⟨k1, k2, k3, b, k4, k5⟩ := g4
    have := hfr a.block k3 (by rw [k4]; simp)
    exact ⟨k1, k2, this.1, b, by rw [this.2]; exact k4, k5⟩

/-- A call beside a list of one's own. -/
theorem Own.call {α : Type} {G : (α → Hp → Prop) → Hp → Prop} {K1 K : α → Hp → Prop} {D h : Hp} {n : Nat} {l : Sl} {cs : List Value} (ho : Own D h n l cs) (H : callP G K1 D)
    (k : ∀ v D' h', D.le D' → Own D' h' n l cs → K1 v D' → K v h') : callP G K h :=
  callP_sub ho.1 H fun v D' h' h1 h2 h3 h4 => k v D' h' h1 (ho.move h2 h3) h4

/-- Two lists lie apart. -/
def Apt (x y : Sl) : Prop := ∀ a b, x.a = some a → y.a = some b → a.block ≠ b.block
theorem Apt.symm {x y : Sl} (h : Apt x y) : Apt y x := fun a b h1 h2 => (h b a h2 h1).symm

/-- A list stays as it is where only another one changes. -/
theorem own_stay {D h h' : Hp} {n : Nat} {l x : Sl} {cs : List Value} (ho : Own D h n l cs) (hap : Apt x l) (hl : D.le h') (hs : ∀ j, (∀ a, x.a = some a → j ≠ a.block) → h' j = h j) : Own D h' n l cs := by
  obtain ⟨g1, g2, g3, g4⟩ := ho
  refine ⟨hl, g2, g3, ?_⟩
  cases ha : l.a with
  | none => rw [ha] at g4; exact g4
  | some a =>
    rw [ha] at g4
    obtain ⟨k1, k2, k3, b, k4, k5⟩ := g4
    exact ⟨k1, k2, k3, b, by rw [hs a.block fun c hc => (hap c a hc ha).symm]; exact k4, k5⟩

theorem st_own2 {h0 h : Hp} {size : Nat} {x : Sl} {cs vs : List Value} {i : Int} {K : Hp → Prop} (k : Nat) (ho : Own h0 h size x cs) (hi : i = k) (hk : k < x.len) (hv : vs.length = size) (hsz : 0 < size) (hleaf : vs.all Value.leaf = true)
    (H : ∀ h', Own h0 h' size x (splice cs (k * size) vs) → (∀ j, (∀ a, x.a = some a → j ≠ a.block) → h' j = h j) → K h') : idxP x i size fun a => stP a vs K h := by
  subst hi
  obtain ⟨h1, h2, h3, h4⟩ := ho
  refine ⟨by omega, by omega, ?_⟩
  cases ha : x.a with
  | none => rw [ha] at h4; simp only at h4; omega
  | some a =>
    rw [ha] at h4
    obtain ⟨g1, g2, g3, b, g4, g5, g6, g7⟩ := h4
    have e0 : ((k : Int).toNat) = k := rfl
    have e1 : k * size + size ≤ cs.length := by
      rw [← h2]
      have := Nat.mul_le_mul_right size (show k + 1 ≤ x.len by omega)
      rw [Nat.add_mul] at this; omega
    have e2 : cs.length ≤ b.cells.length := by rw [g6, ← h2]; exact Nat.mul_le_mul_right _ h3
    show ptrK (some a) _
    simp only [ptrK, e0]
    refine ⟨b, by rw [add_block]; exact g4, add_spot g2 _, g5, by rw [add_off]; omega, hleaf, ?_⟩
    rw [add_block, add_off, g1, Nat.zero_add]
    refine H _ ⟨?_, ?_, h3, ?_⟩ fun j hj => ?_
    · intro kk bk hkk
      rw [Hp.ins_ne (fun hh => by subst hh; rw [g3] at hkk; cases hkk)]
      exact h1 kk bk hkk
    · rw [splice_len (by omega)]; exact h2
    · rw [ha]
      refine ⟨g1, g2, g3, _, Hp.ins_same _ _ _, g5, ?_, ?_⟩
      · show (splice b.cells (k * size) vs).length = _
        rw [splice_len (by omega)]; exact g6
      · show (splice b.cells (k * size) vs).take _ = _
        rw [splice_len (by omega)]
        exact splice_take (by omega) g7
    · exact Hp.ins_ne (hj a ha)

section
variable {α : Type} {c : α → List Value} {n : Nat}
theorem flat_splice (hc : ∀ x, (c x).length = n) {x : α} : ∀ {xs : List α} {k : Nat}, k < xs.length → splice (xs.flatMap c) (k * n) (c x) = (xs.set k x).flatMap c
  | [], k, h => by simp at h
  | y :: r, 0, h => by
    unfold splice
    simp only [Nat.zero_mul, List.take_zero, List.nil_append, Nat.zero_add, List.set_cons_zero, List.flatMap_cons, hc]
    congr 1
    rw [← hc y, List.drop_left]
  | y :: r, k + 1, h => by
    have ih := flat_splice hc (x := x) (xs := r) (k := k) (by simpa using h)
    unfold splice at ih ⊢
    rw [hc] at ih ⊢
    have e1 : (k + 1) * n = n + k * n := by rw [Nat.add_mul]; omega
    have e2 : n + k * n + n = n + (k * n + n) := by omega
    simp only [List.flatMap_cons, List.set_cons_succ]
    rw [e1, e2, ← ih]
    have e3 : ∀ j, (c y ++ r.flatMap c).take (n + j) = c y ++ (r.flatMap c).take j := fun j => by
      rw [List.take_append, hc, Nat.add_sub_cancel_left, List.take_of_length_le (by rw [hc]; omega)]
    have e4 : ∀ j, (c y ++ r.flatMap c).drop (n + j) = (r.flatMap c).drop j := fun j => by
      rw [List.drop_append, hc, Nat.add_sub_cancel_left, List.drop_of_length_le (by rw [hc]; omega), List.nil_append]
    rw [e3, e4]
    simp [List.append_assoc]
theorem Own.flen (hc : ∀ x, (c x).length = n) (hn : 0 < n) {D h : Hp} {l : Sl} {xs : List α} (ho : Own D h n l (xs.flatMap c)) : l.len = xs.length := by
  have := ho.2.1
  rw [flat_len hc] at this
  exact Nat.eq_of_mul_eq_mul_right hn this
theorem set_own (hc : ∀ x, (c x).length = n) (hn : 0 < n) {D h : Hp} {l : Sl} {xs : List α} {x : α} {i : Int} {K : Hp → Prop} (k : Nat) (ho : Own D h n l (xs.flatMap c)) (hi : i = k) (hk : k < xs.length) (hleaf : (c x).all Value.leaf = true)
    (H : ∀ h', Own D h' n l ((xs.set k x).flatMap c) → (∀ j, (∀ a, l.a = some a → j ≠ a.block) → h' j = h j) → K h') : idxP l i n fun a => stP a (c x) K h := by
  refine st_own2 k ho hi (by rw [ho.flen hc hn]; exact hk) (hc x) hn hleaf fun h' h1 h2 => H h' ?_ h2
  rw [flat_splice hc hk] at h1
  exact h1
end

/-! ### Lists of rational numbers -/
theorem qc_leaf (x : TRat) : (qc x).all Value.leaf = true := rfl
theorem QL.set {h : Hp} {B : Nat} {xs : List TRat} {vs : List Rat} {x : TRat} {v : Rat} {k : Nat} (hq : QL h B xs vs) (h1 : NR h x v) (h2 : BR B v) : QL h B (xs.set k x) (vs.set k v) := by
  refine ⟨by simp [hq.1], fun j j1 j2 => ?_⟩
  rw [List.getElem_set, List.getElem_set]
  by_cases hj : k = j
  · rw [if_pos hj, if_pos hj]; exact ⟨h1, h2⟩
  · rw [if_neg hj, if_neg hj]
    exact hq.2 j (by simpa using j1) (by simpa using j2)
theorem QL.mono {h : Hp} {B C : Nat} {xs : List TRat} {vs : List Rat} (hq : QL h B xs vs) (hB : B ≤ C) : QL h C xs vs := ⟨hq.1, fun k h1 h2 => ⟨(hq.2 k h1 h2).1, (hq.2 k h1 h2).2.mono hB⟩⟩
theorem QL.take {h : Hp} {B : Nat} {xs : List TRat} {vs : List Rat} {k : Nat} (hq : QL h B xs vs) : QL h B (xs.take k) (vs.take k) := by
  refine ⟨by simp [hq.1], fun j j1 j2 => ?_⟩
  rw [List.getElem_take, List.getElem_take]
  exact hq.2 j (by simp at j1; omega) (by simp at j2; omega)
theorem QL.bound {h : Hp} {B : Nat} {xs : List TRat} {vs : List Rat} (hq : QL h B xs vs) : ∀ v ∈ vs, BR B v := fun v hv => by
  obtain ⟨i, hi, rfl⟩ := List.mem_iff_getElem.1 hv
  exact (hq.2 i (by rw [hq.1]; exact hi) hi).2

/-- l holds the numbers p. -/
def PL (h : Hp) (B : Nat) (l : Sl) (p : List Rat) : Prop := ∃ xs, RdQ h l xs ∧ QL h B xs p ∧ l.len ≤ l.cap
/-- l holds the numbers p, in memory of its own beside D. -/
def OD (D h : Hp) (B : Nat) (l : Sl) (p : List Rat) : Prop := ∃ xs, Own D h 4 l (xs.flatMap qc) ∧ QL D B xs p
/-- l holds the numbers p, in memory of its own beside h0. -/
def OL (h0 h : Hp) (B : Nat) (l : Sl) (p : List Rat) : Prop := ∃ D, h0.le D ∧ OD D h B l p
section
variable {D h h' h0 : Hp} {B : Nat} {l : Sl} {p : List Rat}
theorem PL.le (hp : PL h B l p) (hl : h.le h') : PL h' B l p := by
  obtain ⟨xs, h1, h2, h3⟩ := hp
  exact ⟨xs, h1.le hl, h2.le hl, h3⟩
theorem PL.mono {C : Nat} (hp : PL h B l p) (hB : B ≤ C) : PL h C l p := by
  obtain ⟨xs, h1, h2, h3⟩ := hp
  exact ⟨xs, h1, h2.mono hB, h3⟩
theorem PL.len (hp : PL h B l p) : l.len = p.length := by
  obtain ⟨xs, h1, h2, h3⟩ := hp
  rw [RdQ.len h1, h2.1]
theorem PL.cap (hp : PL h B l p) : l.len ≤ l.cap := by obtain ⟨xs, h1, h2, h3⟩ := hp; exact h3
theorem PL.bound (hp : PL h B l p) : ∀ v ∈ p, BR B v := by obtain ⟨xs, h1, h2, h3⟩ := hp; exact h2.bound
theorem PL.nil : PL h B nilS [] := ⟨[], Rd.nil, ⟨rfl, fun k h1 _ => by simp at h1⟩, Nat.le_refl _⟩
theorem PL.get {i : Int} {K : Bool → Sl → Bool → Sl → Prop} (k : Nat) (hp : PL h B l p) (hi : i = k) (hk : k < p.length)
    (H : ∀ x : TRat, NR h x p[k] → BR B p[k] → K x.num.neg x.num.mag x.den.neg x.den.mag) :
    idxP l i 4 fun a => ldL .bool (a.add 0) (fun x0 => ldL .sl (a.add 1) (fun x1 => ldL .bool (a.add 2) (fun x2 => ldL .sl (a.add 3) (fun x3 => K x0 x1 x2 x3) h) h) h) h := by
  obtain ⟨xs, h1, h2, h3⟩ := hp
  have hk' : k < xs.length := by rw [h2.1]; exact hk
  have := h2.2 k hk' hk
  exact rd_rat k h1 hi hk' (H _ this.1 this.2)
theorem OD.pl (ho : OD D h B l p) : PL h B l p := by
  obtain ⟨xs, h1, h2⟩ := ho
  exact ⟨xs, h1.rd, h2.le h1.1, h1.2.2.1⟩
theorem OD.dle (ho : OD D h B l p) : D.le h := by obtain ⟨xs, h1, h2⟩ := ho; exact h1.1
theorem OD.len (ho : OD D h B l p) : l.len = p.length := ho.pl.len
theorem OD.mono {C : Nat} (hp : OD D h B l p) (hB : B ≤ C) : OD D h C l p := by
  obtain ⟨xs, h1, h2⟩ := hp
  exact ⟨xs, h1, h2.mono hB⟩
theorem OL.pl (ho : OL h0 h B l p) : PL h B l p := by obtain ⟨D, _, h2⟩ := ho; exact h2.pl
theorem OL.hle (ho : OL h0 h B l p) : h0.le h := by obtain ⟨D, h1, h2⟩ := ho; exact Hp.le_trans h1 h2.dle
theorem OL.len (ho : OL h0 h B l p) : l.len = p.length := ho.pl.len
theorem OD.nil : OD h h B nilS [] := ⟨[], Own.nil (Hp.le_refl _), ⟨rfl, fun k h1 _ => by simp at h1⟩⟩
/-- An element of a list that may change: its number lies in the part that stays. -/
theorem OD.get {i : Int} {K : Bool → Sl → Bool → Sl → Prop} (k : Nat) (hp : OD D h B l p) (hi : i = k) (hk : k < p.length)
    (H : ∀ x : TRat, NR D x p[k] → BR B p[k] → K x.num.neg x.num.mag x.den.neg x.den.mag) :
    idxP l i 4 fun a => ldL .bool (a.add 0) (fun x0 => ldL .sl (a.add 1) (fun x1 => ldL .bool (a.add 2) (fun x2 => ldL .sl (a.add 3) (fun x3 => K x0 x1 x2 x3) h) h) h) h := by
  obtain ⟨xs, h1, h2⟩ := hp
  have hk' : k < xs.length := by rw [h2.1]; exact hk
  have := h2.2 k hk' hk
  exact rd_rat k h1.rd hi hk' (H _ this.1 this.2)
theorem OD.set {i : Int} {K : Hp → Prop} {x : TRat} {v : Rat} (k : Nat) (hp : OD D h B l p) (hi : i = k) (hk : k < p.length) (hx : NR D x v) (bx : BR B v)
    (H : ∀ h', OD D h' B l (p.set k v) → (∀ j, (∀ a, l.a = some a → j ≠ a.block) → h' j = h j) → K h') :
    idxP l i 4 fun a => stP a [.bool x.num.neg, .slice x.num.mag.a x.num.mag.len x.num.mag.cap, .bool x.den.neg, .slice x.den.mag.a x.den.mag.len x.den.mag.cap] K h := by
  obtain ⟨xs, h1, h2⟩ := hp
  exact set_own qc_len (by decide) k h1 hi (by rw [h2.1]; exact hk) (qc_leaf x) fun h' g1 g2 => H h' ⟨_, g1, h2.set hx bx⟩ g2
theorem OD.call {α : Type} {G : (α → Hp → Prop) → Hp → Prop} {K1 K : α → Hp → Prop} (hp : OD D h B l p) (H : callP G K1 D)
    (k : ∀ v D' h', D.le D' → OD D' h' B l p → K1 v D' → K v h') : callP G K h := by
  obtain ⟨xs, h1, h2⟩ := hp
  exact h1.call H fun v D' h' g1 g2 g3 => k v D' h' g1 ⟨_, g2, h2.le g1⟩ g3
theorem OD.app {Ks : Sl → Hp → Prop} {x : TRat} {v : Rat} (hp : OD D h B l p) (hlen : p.length ≤ 1000000) (hx : NR D x v) (bx : BR B v) (H : ∀ y h', OD D h' B y (p ++ [v]) → Ks y h') :
    appP 4 64 [.bool false, .slice nilS.a nilS.len nilS.cap, .bool false, .slice nilS.a nilS.len nilS.cap] l 1 [.bool x.num.neg, .slice x.num.mag.a x.num.mag.len x.num.mag.cap, .bool x.den.neg, .slice x.den.mag.a x.den.mag.len x.den.mag.cap] Ks h := by
  have hl := hp.len
  obtain ⟨xs, h1, h2⟩ := hp
  refine app_own h1 (n := 1) (new := qc x) rfl rfl rfl (by omega) (by omega) fun y h' hy hyl => H y h' ⟨xs ++ [x], ?_, ?_⟩
  · rw [List.flatMap_append]
    simp only [List.flatMap_cons, List.flatMap_nil, List.append_nil]
    exact hy
  · refine ⟨by simp [h2.1], fun k k1 k2 => ?_⟩
    have hl2 := h2.1
    rcases Nat.lt_or_ge k xs.length with h3 | h3
    · rw [List.getElem_append_left h3, List.getElem_append_left (by omega)]
      exact h2.2 k h3 (by omega)
    · have h4 : k = xs.length := by simp at k1; omega
      subst h4
      rw [List.getElem_append_right (Nat.le_refl _), List.getElem_append_right (by omega)]
      simp only [Nat.sub_self, List.getElem_cons_zero]
      have : xs.length - p.length = 0 := by omega
      simp only [this, List.getElem_cons_zero]
      exact ⟨hx, bx⟩
end
end Den
end

section
/-
  Polynomials over the rational numbers as lists of coefficients, plain.
-/
set_option linter.unusedVariables false
namespace Pq

/-- The sum of the first n values. -/
def sm (n : Nat) (f : Nat → Rat) : Rat := match n with | 0 => 0 | n + 1 => sm n f + f n
theorem sm_zero {f : Nat → Rat} : sm 0 f = 0 := rfl
theorem sm_succ {n : Nat} {f : Nat → Rat} : sm (n + 1) f = sm n f + f n := rfl
theorem sm_congr {n : Nat} {f g : Nat → Rat} (h : ∀ i, i < n → f i = g i) : sm n f = sm n g := by
  induction n with
  | zero => rfl
  | succ n ih => rw [sm_succ, sm_succ, ih (fun i hi => h i (by omega)), h n (by omega)]
theorem sm_add {n : Nat} {f g : Nat → Rat} : sm n (fun i => f i + g i) = sm n f + sm n g := by
  induction n with
  | zero => simp only [sm_zero]; grind
  | succ n ih => simp only [sm_succ, ih]; grind
theorem sm_mul {n : Nat} {f : Nat → Rat} {c : Rat} : sm n (fun i => c * f i) = c * sm n f := by
  induction n with
  | zero => simp only [sm_zero]; grind
  | succ n ih => simp only [sm_succ, ih]; grind
theorem sm_zeros {n : Nat} {f : Nat → Rat} (h : ∀ i, i < n → f i = 0) : sm n f = 0 := by
  induction n with
  | zero => rfl
  | succ n ih => rw [sm_succ, ih (fun i hi => h i (by omega)), h n (by omega)]; grind
theorem sm_head {n : Nat} {f : Nat → Rat} : sm (n + 1) f = f 0 + sm n (fun i => f (i + 1)) := by
  induction n with
  | zero => simp only [sm_succ, sm_zero]; grind
  | succ n ih => rw [sm_succ, ih, sm_succ]; grind
theorem sm_rev {n : Nat} {f : Nat → Rat} : sm n f = sm n (fun i => f (n - 1 - i)) := by
  induction n with
  | zero => rfl
  | succ n ih =>
    rw [sm_succ, sm_head (f := fun i => f (n + 1 - 1 - i)), ih]
    have e : sm n (fun i => f (n - 1 - i)) = sm n (fun i => f (n + 1 - 1 - (i + 1))) := sm_congr fun i hi => by congr 1; omega
    rw [e]
    have e2 : n + 1 - 1 - 0 = n := by omega
    rw [e2]; grind
/-- Only one summand is not zero. -/
theorem sm_one {n k : Nat} {f : Nat → Rat} (hk : k < n) (h : ∀ i, i < n → i ≠ k → f i = 0) : sm n f = f k := by
  induction n with
  | zero => omega
  | succ n ih =>
    rw [sm_succ]
    by_cases h1 : k = n
    · subst h1
      rw [sm_zeros fun i hi => h i (by omega) (by omega)]; grind
    · rw [ih (by omega) (fun i hi h2 => h i (by omega) h2), h n (by omega) (by omega)]; grind
theorem sm_more {n m : Nat} {f : Nat → Rat} (hm : n ≤ m) (h : ∀ i, n ≤ i → i < m → f i = 0) : sm m f = sm n f := by
  induction m with
  | zero => have : n = 0 := by omega
            subst this; rfl
  | succ m ih =>
    by_cases h1 : n = m + 1
    · subst h1; rfl
    · rw [sm_succ, ih (by omega) (fun i h2 h3 => h i h2 (by omega)), h m (by omega) (by omega)]; grind

/-- A coefficient. -/
def co (p : List Rat) (i : Nat) : Rat := p.getD i 0
theorem co_nil {i : Nat} : co [] i = 0 := rfl
theorem co_cons_zero {c : Rat} {p : List Rat} : co (c :: p) 0 = c := rfl
theorem co_cons_succ {c : Rat} {p : List Rat} {i : Nat} : co (c :: p) (i + 1) = co p i := rfl
theorem co_ge {p : List Rat} {i : Nat} (h : p.length ≤ i) : co p i = 0 := by
  unfold co; rw [List.getD_eq_getElem?_getD, List.getElem?_eq_none h]; rfl
theorem co_lt {p : List Rat} {i : Nat} (h : i < p.length) : co p i = p[i] := by
  unfold co; rw [List.getD_eq_getElem?_getD, List.getElem?_eq_getElem h]; rfl
theorem co_take {p : List Rat} {n i : Nat} : co (p.take n) i = if i < n then co p i else 0 := by
  unfold co
  rw [List.getD_eq_getElem?_getD, List.getD_eq_getElem?_getD, List.getElem?_take]
  split <;> rfl
theorem co_append {p q : List Rat} {i : Nat} : co (p ++ q) i = if i < p.length then co p i else co q (i - p.length) := by
  unfold co
  rw [List.getD_eq_getElem?_getD, List.getD_eq_getElem?_getD, List.getD_eq_getElem?_getD, List.getElem?_append]
  split <;> rfl
theorem co_set {p : List Rat} {k i : Nat} {c : Rat} (hk : k < p.length) : co (p.set k c) i = if i = k then c else co p i := by
  unfold co
  rw [List.getD_eq_getElem?_getD, List.getD_eq_getElem?_getD, List.getElem?_set]
  by_cases h : k = i
  · subst h; rw [if_pos rfl, if_pos rfl, if_pos hk]; rfl
  · rw [if_neg h, if_neg (fun hh => h hh.symm)]
theorem co_replicate {n i : Nat} : co (List.replicate n 0) i = 0 := by
  unfold co
  rw [List.getD_eq_getElem?_getD, List.getElem?_replicate]
  split <;> rfl
theorem co_map {f : Rat → Rat} (h0 : f 0 = 0) {p : List Rat} {i : Nat} : co (p.map f) i = f (co p i) := by
  unfold co
  rw [List.getD_eq_getElem?_getD, List.getD_eq_getElem?_getD, List.getElem?_map]
  cases p[i]? with
  | none => exact h0.symm
  | some x => rfl

/-- Without zeros at the end. -/
def nf (p : List Rat) : Prop := p = [] ∨ co p (p.length - 1) ≠ 0
theorem nf_nil : nf [] := .inl rfl
theorem nf_len {p : List Rat} {n : Nat} (hp : nf p) (h : ∀ i, n ≤ i → co p i = 0) : p.length ≤ n := by
  rcases hp with rfl | hp
  · simp
  · refine Nat.le_of_not_lt fun hh => hp (h _ (by omega))
theorem nf_top {p : List Rat} (hp : nf p) (h : p ≠ []) : co p (p.length - 1) ≠ 0 := by
  rcases hp with h1 | h1
  · exact absurd h1 h
  · exact h1
theorem nf_ext {p q : List Rat} (hp : nf p) (hq : nf q) (h : ∀ i, co p i = co q i) : p = q := by
  have h1 : p.length ≤ q.length := nf_len hp fun i hi => by rw [h, co_ge hi]
  have h2 : q.length ≤ p.length := nf_len hq fun i hi => by rw [← h, co_ge hi]
  refine List.ext_getElem (by omega) fun i h3 h4 => ?_
  rw [← co_lt h3, ← co_lt h4, h]
theorem nf_eq_nil {p : List Rat} (hp : nf p) (h : ∀ i, co p i = 0) : p = [] := nf_ext hp nf_nil h
theorem nf_take {p : List Rat} {n : Nat} (hn : n ≤ p.length) (h : n = 0 ∨ co p (n - 1) ≠ 0) : nf (p.take n) := by
  rcases Nat.eq_zero_or_pos n with h0 | h0
  · subst h0; exact .inl rfl
  · right
    rw [List.length_take, Nat.min_eq_left hn, co_take, if_pos (by omega)]
    rcases h with h | h
    · omega
    · exact h
/-- The normal form. -/
def trim : List Rat → List Rat
  | [] => []
  | c :: r => match trim r with
    | [] => if c = 0 then [] else [c]
    | d :: t => c :: d :: t
theorem co_trim : ∀ {p : List Rat} {i : Nat}, co (trim p) i = co p i
  | [], _ => rfl
  | c :: r, i => by
    have ih : ∀ j, co (trim r) j = co r j := fun j => co_trim
    unfold trim
    split
    · rename_i h
      rw [h] at ih
      have h0 : ∀ j, co r j = 0 := fun j => (ih j).symm
      split
      · rename_i hc
        cases i with
        | zero => rw [co_cons_zero, hc]; rfl
        | succ i => rw [co_cons_succ, h0]; rfl
      · cases i with
        | zero => rfl
        | succ i => rw [co_cons_succ, co_cons_succ, h0]; rfl
    · rename_i d t h
      cases i with
      | zero => rfl
      | succ i => rw [co_cons_succ, co_cons_succ, ← h]; exact ih i
theorem nf_trim : ∀ {p : List Rat}, nf (trim p)
  | [] => .inl rfl
  | c :: r => by
    have ih : nf (trim r) := nf_trim
    unfold trim
    split
    · split
      · exact .inl rfl
      · rename_i h; exact .inr h
    · rename_i d t h
      rw [h] at ih
      have h3 := nf_top ih (by simp)
      have e1 : (d :: t).length - 1 = t.length := by simp
      have e2 : (c :: d :: t).length - 1 = t.length + 1 := by simp
      right
      rw [e1] at h3
      rw [e2]
      exact h3
theorem trim_of {p r : List Rat} (hr : nf r) (h : ∀ i, co r i = co p i) : r = trim p := nf_ext hr nf_trim fun i => by rw [h, co_trim]
theorem trim_nf {p : List Rat} (hp : nf p) : trim p = p := (trim_of hp fun _ => rfl).symm
theorem trim_len {p : List Rat} : (trim p).length ≤ p.length := nf_len nf_trim fun i hi => by rw [co_trim, co_ge hi]

/-! ### Products -/
def conv (f g : Nat → Rat) (n : Nat) : Rat := sm (n + 1) fun i => f i * g (n - i)
theorem conv_comm {f g : Nat → Rat} {n : Nat} : conv f g n = conv g f n := by
  unfold conv
  rw [sm_rev]
  refine sm_congr fun i hi => ?_
  have e1 : n + 1 - 1 - i = n - i := by omega
  have e2 : n - (n - i) = i := by omega
  rw [e1, e2, Rat.mul_comm]
theorem conv_add {f g k : Nat → Rat} {n : Nat} : conv f (fun i => g i + k i) n = conv f g n + conv f k n := by
  unfold conv
  rw [← sm_add]
  exact sm_congr fun i _ => by grind
theorem conv_congr {f g f' g' : Nat → Rat} {n : Nat} (h1 : ∀ i, f i = f' i) (h2 : ∀ i, g i = g' i) : conv f g n = conv f' g' n := by
  unfold conv
  exact sm_congr fun i _ => by rw [h1, h2]
/-- The sum of some rows. -/
def part (f g : Nat → Rat) (m n : Nat) : Rat := sm m fun i => if i ≤ n then f i * g (n - i) else 0
theorem part_conv {f g : Nat → Rat} {m n : Nat} (h : ∀ i, m ≤ i → f i = 0) : part f g m n = conv f g n := by
  unfold part conv
  rcases Nat.le_total m (n + 1) with h1 | h1
  · rw [sm_more h1 fun i h2 h3 => by rw [h i h2]; grind]
    exact sm_congr fun i hi => if_pos (by omega)
  · rw [sm_more h1 fun i h2 h3 => if_neg (by omega)]
    exact sm_congr fun i hi => if_pos (by omega)
theorem conv_zero_of {f g : Nat → Rat} {a b n : Nat} (h1 : ∀ i, a ≤ i → f i = 0) (h2 : ∀ i, b ≤ i → g i = 0) (hn : a + b ≤ n + 1) : conv f g n = 0 := by
  unfold conv
  refine sm_zeros fun i hi => ?_
  by_cases h3 : a ≤ i
  · rw [h1 i h3]; grind
  · rw [h2 (n - i) (by omega)]; grind
/-- The leading coefficient of a product. -/
theorem conv_top {f g : Nat → Rat} {a b : Nat} (h1 : ∀ i, a < i → f i = 0) (h2 : ∀ i, b < i → g i = 0) : conv f g (a + b) = f a * g b := by
  unfold conv
  rw [sm_one (k := a) (by omega) fun i hi h3 => ?_]
  · congr 2; omega
  · by_cases h4 : a < i
    · rw [h1 i h4]; grind
    · rw [h2 (a + b - i) (by omega)]; grind
end Pq
end

section
/-
  Products, values, derivatives, compositions and quotients of polynomials as lists, plain.
-/
set_option linter.unusedVariables false
namespace Pq

/-! ### Derivatives -/
def der (f : Nat → Rat) (n : Nat) : Rat := ((n + 1 : Nat) : Rat) * f (n + 1)
theorem cast_split {n i : Nat} (h : i ≤ n) : ((n : Nat) : Rat) = ((i : Nat) : Rat) + ((n - i : Nat) : Rat) := by
  rw [← Rat.natCast_add]; congr 1; omega
theorem der_conv {f g : Nat → Rat} {n : Nat} : der (conv f g) n = conv (der f) g n + conv f (der g) n := by
  unfold der
  have e1 : ((n + 1 : Nat) : Rat) * conv f g (n + 1) = sm (n + 2) (fun i => (((i : Nat) : Rat) * f i) * g (n + 1 - i)) + sm (n + 2) (fun i => f i * (((n + 1 - i : Nat) : Rat) * g (n + 1 - i))) := by
    unfold conv
    rw [← sm_mul, ← sm_add]
    refine sm_congr fun i hi => ?_
    rw [cast_split (show i ≤ n + 1 by omega)]; grind
  have e2 : sm (n + 2) (fun i => (((i : Nat) : Rat) * f i) * g (n + 1 - i)) = conv (fun n => ((n + 1 : Nat) : Rat) * f (n + 1)) g n := by
    rw [sm_head]
    unfold conv
    have h0 : ((0 : Nat) : Rat) = 0 := rfl
    rw [h0, Rat.zero_mul, Rat.zero_mul, Rat.zero_add]
    refine sm_congr fun i hi => ?_
    have : n + 1 - (i + 1) = n - i := by omega
    rw [this]
  have e3 : sm (n + 2) (fun i => f i * (((n + 1 - i : Nat) : Rat) * g (n + 1 - i))) = conv f (fun n => ((n + 1 : Nat) : Rat) * g (n + 1)) n := by
    rw [sm_succ]
    unfold conv
    have h0 : n + 1 - (n + 1) = 0 := by omega
    have h1 : ((0 : Nat) : Rat) = 0 := rfl
    rw [h0, h1, Rat.zero_mul, Rat.mul_zero, Rat.add_zero]
    refine sm_congr fun i hi => ?_
    have : n + 1 - i = n - i + 1 := by omega
    rw [this]
  rw [e1, e2, e3]

/-! ### Lists -/
def addL : List Rat → List Rat → List Rat
  | [], q => q
  | p, [] => p
  | a :: p, b :: q => (a + b) :: addL p q
def mulL : List Rat → List Rat → List Rat
  | [], _ => []
  | c :: r, q => addL (q.map (c * ·)) (0 :: mulL r q)
def compL : List Rat → List Rat → List Rat
  | [], _ => []
  | c :: r, q => addL (mulL (compL r q) q) [c]
def ev : List Rat → Rat → Rat
  | [], _ => 0
  | c :: r, x => c + ev r x * x
theorem co_addL : ∀ {p q : List Rat} {i : Nat}, co (addL p q) i = co p i + co q i
  | [], q, i => by rw [addL, co_nil, Rat.zero_add]
  | a :: p, [], i => by rw [addL, co_nil, Rat.add_zero]; simp
  | a :: p, b :: q, 0 => rfl
  | a :: p, b :: q, i + 1 => by rw [addL, co_cons_succ, co_cons_succ, co_cons_succ]; exact co_addL
theorem conv_cons {c : Rat} {r : List Rat} {g : Nat → Rat} {n : Nat} : conv (co (c :: r)) g n = c * g n + (match n with | 0 => 0 | n + 1 => conv (co r) g n) := by
  unfold conv
  rw [sm_head]
  cases n with
  | zero => simp only [sm_zero]; rw [co_cons_zero]
  | succ n =>
    simp only [co_cons_zero, co_cons_succ, Nat.sub_zero]
    congr 1
    refine sm_congr fun i hi => ?_
    have : n + 1 - (i + 1) = n - i := by omega
    rw [this]
theorem conv_nil {g : Nat → Rat} {n : Nat} : conv (co []) g n = 0 := sm_zeros fun i _ => by rw [co_nil, Rat.zero_mul]
theorem co_mulL : ∀ {p q : List Rat} {n : Nat}, co (mulL p q) n = conv (co p) (co q) n
  | [], q, n => by rw [mulL, conv_nil]; rfl
  | c :: r, q, n => by
    rw [mulL, co_addL, conv_cons, co_map (f := (c * ·)) (Rat.mul_zero c)]
    congr 1
    cases n with
    | zero => rfl
    | succ n => rw [co_cons_succ]; exact co_mulL
theorem ev_addL : ∀ {p q : List Rat} {x : Rat}, ev (addL p q) x = ev p x + ev q x
  | [], q, x => by rw [addL, ev, Rat.zero_add]
  | a :: p, [], x => by simp only [addL, ev]; grind
  | a :: p, b :: q, x => by simp only [addL, ev]; rw [ev_addL]; grind
theorem ev_map {c : Rat} : ∀ {p : List Rat} {x : Rat}, ev (p.map (c * ·)) x = c * ev p x
  | [], x => by simp only [List.map_nil, ev]; grind
  | a :: p, x => by simp only [List.map_cons, ev]; rw [ev_map]; grind
theorem ev_mulL : ∀ {p q : List Rat} {x : Rat}, ev (mulL p q) x = ev p x * ev q x
  | [], q, x => by simp only [mulL, ev]; grind
  | c :: r, q, x => by simp only [mulL]; rw [ev_addL, ev_map]; simp only [ev]; rw [ev_mulL]; grind
theorem ev_compL : ∀ {p q : List Rat} {x : Rat}, ev (compL p q) x = ev p (ev q x)
  | [], q, x => rfl
  | c :: r, q, x => by simp only [compL]; rw [ev_addL, ev_mulL, ev_compL]; simp only [ev]; grind
theorem ev_trim : ∀ {p : List Rat} {x : Rat}, ev (trim p) x = ev p x
  | [], x => rfl
  | c :: r, x => by
    have ih := ev_trim (p := r) (x := x)
    unfold trim
    split
    · rename_i h
      rw [h] at ih
      simp only [ev] at ih
      split
      · rename_i hc; simp only [ev]; rw [← ih, hc]; grind
      · simp only [ev]; rw [← ih]
    · rename_i d t h
      rw [h] at ih
      rw [show ev (c :: d :: t) x = c + ev (d :: t) x * x from rfl, ih]; rfl
theorem ev_congr {p q : List Rat} {x : Rat} (h : ∀ i, co p i = co q i) : ev p x = ev q x := by
  have e : trim p = trim q := nf_ext nf_trim nf_trim fun i => by rw [co_trim, co_trim, h]
  rw [← ev_trim (p := p), ← ev_trim (p := q), e]
theorem ev_drop {p : List Rat} {i : Nat} (hi : i < p.length) (x : Rat) : ev (p.drop i) x = p[i] + ev (p.drop (i + 1)) x * x := by
  rw [List.drop_eq_getElem_cons hi]; rfl
theorem compL_drop {p q : List Rat} {i : Nat} (hi : i < p.length) : compL (p.drop i) q = addL (mulL (compL (p.drop (i + 1)) q) q) [p[i]] := by
  rw [List.drop_eq_getElem_cons hi]; rfl

/-! ### Quotients -/
/-- The greatest place at which a function is not zero. -/
theorem top_of {f : Nat → Rat} : ∀ {n : Nat}, (∀ i, n ≤ i → f i = 0) → (∀ i, f i = 0) ∨ ∃ k, k < n ∧ f k ≠ 0 ∧ ∀ i, k < i → f i = 0
  | 0, h => .inl fun i => h i (Nat.zero_le _)
  | n + 1, h => by
    by_cases h0 : f n = 0
    · rcases top_of (f := f) (n := n) fun i hi => by
          rcases Nat.lt_or_ge n i with h1 | h1
          · exact h i h1
          · have : i = n := by omega
            subst this; exact h0 with h2 | ⟨k, h2, h3⟩
      · exact .inl h2
      · exact .inr ⟨k, by omega, h3⟩
    · exact .inr ⟨n, by omega, h0, fun i hi => h i hi⟩
theorem div_unique {q q' b r r' : Nat → Rat} {d n : Nat} (hb : b d ≠ 0) (hb2 : ∀ i, d < i → b i = 0) (hq : ∀ i, n ≤ i → q i = 0) (hq' : ∀ i, n ≤ i → q' i = 0)
    (hr : ∀ i, d ≤ i → r i = 0) (hr' : ∀ i, d ≤ i → r' i = 0) (h : ∀ i, conv q b i + r i = conv q' b i + r' i) : (∀ i, q i = q' i) ∧ ∀ i, r i = r' i := by
  have hs : ∀ i, conv b (fun i => q i + (-1) * q' i) i = r' i - r i := fun i => by
    have e : conv b (fun i => (-1) * q' i) i = (-1) * conv b q' i := by
      unfold conv
      rw [← sm_mul]
      exact sm_congr fun i _ => by grind
    have := h i
    rw [conv_comm (f := q), conv_comm (f := q')] at this
    rw [conv_add, e]; grind
  rcases top_of (f := fun i => q i + (-1) * q' i) (n := n) fun i hi => by rw [hq i hi, hq' i hi]; grind with h0 | ⟨k, _, h1, h2⟩
  · have hqq : ∀ i, q i = q' i := fun i => by have := h0 i; grind
    refine ⟨hqq, fun i => ?_⟩
    have := h i
    rw [conv_congr (g := b) hqq (fun _ => rfl)] at this; grind
  · exfalso
    have e := conv_top (f := b) (g := fun i => q i + (-1) * q' i) (a := d) (b := k) hb2 h2
    rw [hs, hr' _ (by omega), hr _ (by omega)] at e
    have e2 : b d * (q k + (-1) * q' k) = 0 := by rw [← e]; grind
    rcases Rat.mul_eq_zero.1 e2 with h3 | h3
    · exact hb h3
    · exact h1 h3
end Pq
end

section
/-
  Primitive lists of integers, plain.
-/
set_option linter.unusedVariables false
namespace Pq

/-- u is a multiple of p without a common factor; its last number is positive. -/
def Prim (u : List Int) (p : List Rat) : Prop :=
  u.length = p.length ∧ (∃ t : Rat, t ≠ 0 ∧ ∀ i (h1 : i < u.length) (h2 : i < p.length), ((u[i] : Int) : Rat) = t * p[i]) ∧ (∀ k : Nat, (∀ x ∈ u, (k : Int) ∣ x) → k = 1) ∧ ∀ h : u ≠ [], 0 < u.getLast h

theorem num_div_den (x : Rat) : ((x.num : Int) : Rat) / ((x.den : Nat) : Rat) = x := by
  conv => rhs; rw [← Rat.num_divInt_den x, Rat.divInt_eq_div]
  rfl
theorem int_inj {a b : Int} (h : ((a : Int) : Rat) = ((b : Int) : Rat)) : a = b := Rat.intCast_inj.1 h
theorem prim_unique {u v : List Int} {p : List Rat} (hp : p ≠ []) (hu : Prim u p) (hv : Prim v p) : u = v := by
  obtain ⟨l1, ⟨t, t0, h1⟩, g1, p1⟩ := hu
  obtain ⟨l2, ⟨s, s0, h2⟩, g2, p2⟩ := hv
  have hpl : 0 < p.length := List.length_pos_iff.2 hp
  -- s / t in lowest terms
  have key : ∀ i (a : i < u.length) (b : i < v.length), v[i] * ((s / t).den : Int) = u[i] * (s / t).num := fun i a b => by
    have e1 := h1 i a (by omega)
    have e2 := h2 i b (by omega)
    have e3 : ((v[i] : Int) : Rat) = (s / t) * ((u[i] : Int) : Rat) := by rw [e1, e2]; grind
    have e4 : (s / t) * (((s / t).den : Int) : Rat) = (((s / t).num : Int) : Rat) := by
      have e5 := num_div_den (s / t)
      have e6 : (((s / t).den : Nat) : Rat) ≠ 0 := by
        have := (s / t).den_pos
        intro hh
        have : ((s / t).den : Nat) = 0 := by exact_mod_cast hh
        omega
      have e7 : (((s / t).den : Int) : Rat) = (((s / t).den : Nat) : Rat) := rfl
      rw [e7]
      calc (s / t) * (((s / t).den : Nat) : Rat) = ((((s / t).num : Int) : Rat) / (((s / t).den : Nat) : Rat)) * (((s / t).den : Nat) : Rat) := by rw [e5]
        _ = (((s / t).num : Int) : Rat) := by rw [Rat.div_mul_cancel e6]
    refine int_inj ?_
    rw [Rat.intCast_mul, Rat.intCast_mul, e3]
    grind
  generalize s / t = r at key
  have hden : r.den = 1 := g1 r.den fun x hx => by
    obtain ⟨i, hi, rfl⟩ := List.mem_iff_getElem.1 hx
    have e := key i hi (by omega)
    have h3 : (r.den : Int) ∣ u[i] * r.num := ⟨v[i], by rw [← e, Int.mul_comm]⟩
    have h4 : r.den ∣ (u[i]).natAbs * r.num.natAbs := by
      rw [← Int.natAbs_mul]; exact Int.ofNat_dvd_left.1 h3
    exact Int.ofNat_dvd_left.2 (Nat.Coprime.dvd_of_dvd_mul_right r.reduced.symm h4)
  have hnum : r.num.natAbs = 1 := g2 r.num.natAbs fun x hx => by
    obtain ⟨i, hi, rfl⟩ := List.mem_iff_getElem.1 hx
    have e := key i (by omega) hi
    rw [hden] at e
    have h3 : r.num ∣ v[i] := ⟨u[i]'(by omega), by rw [Int.mul_comm, ← e]; simp⟩
    exact Int.ofNat_dvd_left.2 (Int.natAbs_dvd_natAbs.2 h3)
  have hu0 : u ≠ [] := List.length_pos_iff.1 (by omega)
  have hv0 : v ≠ [] := List.length_pos_iff.1 (by omega)
  have hlast := key (p.length - 1) (by omega) (by omega)
  have q1 := p1 hu0
  have q2 := p2 hv0
  have q3 : u.getLast hu0 = u[p.length - 1]'(by omega) := by rw [List.getLast_eq_getElem]; congr 1; omega
  have q4 : v.getLast hv0 = v[p.length - 1]'(by omega) := by rw [List.getLast_eq_getElem]; congr 1; omega
  rw [q3] at q1
  rw [q4] at q2
  rw [hden] at hlast
  have hn1 : r.num = 1 := by
    rcases Int.natAbs_eq r.num with h5 | h5
    · rw [h5, hnum]; rfl
    · exfalso
      rw [hnum] at h5
      rw [h5] at hlast
      simp at hlast
      omega
  refine List.ext_getElem (by omega) fun i a b => ?_
  have := key i a b
  rw [hden, hn1] at this
  simpa using this.symm
theorem Prim.scale {u : List Int} {p q : List Rat} {c : Rat} (hu : Prim u p) (hc : c ≠ 0) (hl : q.length = p.length) (h : ∀ i (h1 : i < q.length) (h2 : i < p.length), q[i] = c * p[i]) : Prim u q := by
  obtain ⟨l1, ⟨t, t0, h1⟩, g1, p1⟩ := hu
  refine ⟨by omega, ⟨t / c, ?_, fun i a b => ?_⟩, g1, p1⟩
  · intro hh
    refine t0 ?_
    have : t = t / c * c := (Rat.div_mul_cancel hc).symm
    rw [this, hh]; grind
  · rw [h i b (by omega), h1 i a (by omega)]
    have : t = t / c * c := (Rat.div_mul_cancel hc).symm
    grind

/-- The least common multiple of the denominators, as the program finds it. -/
def lcmD (m : Nat) : List Rat → Nat
  | [] => m
  | x :: r => lcmD (m * (x.den / Nat.gcd m x.den)) r
theorem lcmD_spec : ∀ {l : List Rat} {m : Nat}, 0 < m → 0 < lcmD m l ∧ m ∣ lcmD m l ∧ ∀ x ∈ l, x.den ∣ lcmD m l
  | [], m, hm => ⟨hm, Nat.dvd_refl _, fun x hx => by simp at hx⟩
  | x :: r, m, hm => by
    have hd := x.den_pos
    have hg : 0 < Nat.gcd m x.den := Nat.gcd_pos_of_pos_left _ hm
    have h1 : 0 < x.den / Nat.gcd m x.den := Nat.div_pos (Nat.le_of_dvd hd (Nat.gcd_dvd_right _ _)) hg
    obtain ⟨a, b, c⟩ := lcmD_spec (l := r) (m := m * (x.den / Nat.gcd m x.den)) (Nat.mul_pos hm h1)
    refine ⟨a, Nat.dvd_trans (Nat.dvd_mul_right _ _) b, fun y hy => ?_⟩
    rcases List.mem_cons.1 hy with rfl | hy
    · refine Nat.dvd_trans ?_ b
      obtain ⟨k, hk⟩ := Nat.gcd_dvd_left m y.den
      have h2 : Nat.gcd m y.den * (y.den / Nat.gcd m y.den) = y.den := Nat.mul_div_cancel' (Nat.gcd_dvd_right _ _)
      refine ⟨k, ?_⟩
      calc m * (y.den / Nat.gcd m y.den) = (Nat.gcd m y.den * k) * (y.den / Nat.gcd m y.den) := by rw [← hk]
        _ = (Nat.gcd m y.den * (y.den / Nat.gcd m y.den)) * k := by rw [Nat.mul_assoc, Nat.mul_comm k, ← Nat.mul_assoc]
        _ = y.den * k := by rw [h2]
    · exact c y hy
theorem lcmD_append {x : Rat} : ∀ {l : List Rat} {m : Nat}, lcmD m (l ++ [x]) = lcmD m l * (x.den / Nat.gcd (lcmD m l) x.den)
  | [], m => rfl
  | y :: r, m => by rw [List.cons_append, lcmD, lcmD_append]; rfl
/-- The multiples that are integers. -/
def ups (L : Nat) (p : List Rat) : List Int := p.map fun x => x.num * ((L / x.den : Nat) : Int)
theorem ups_val {L : Nat} {x : Rat} (h : x.den ∣ L) : ((x.num * ((L / x.den : Nat) : Int) : Int) : Rat) = (L : Rat) * x := by
  obtain ⟨k, rfl⟩ := h
  have hd := x.den_pos
  rw [Nat.mul_div_cancel_left _ hd, Rat.intCast_mul]
  have e7 : ((k : Int) : Rat) = ((k : Nat) : Rat) := rfl
  have e6 : ((x.den : Nat) : Rat) ≠ 0 := by
    intro hh
    have : (x.den : Nat) = 0 := by exact_mod_cast hh
    omega
  have e5 : x * ((x.den : Nat) : Rat) = ((x.num : Int) : Rat) := by
    have := num_div_den x
    calc x * ((x.den : Nat) : Rat) = (((x.num : Int) : Rat) / ((x.den : Nat) : Rat)) * ((x.den : Nat) : Rat) := by rw [this]
      _ = ((x.num : Int) : Rat) := Rat.div_mul_cancel e6
  rw [e7, Rat.natCast_mul, ← e5]
  grind
/-- The greatest common divisor of a list. -/
def gcdL (g : Nat) : List Int → Nat
  | [] => g
  | x :: r => gcdL (Nat.gcd g x.natAbs) r
theorem gcdL_append {x : Int} : ∀ {l : List Int} {g : Nat}, gcdL g (l ++ [x]) = Nat.gcd (gcdL g l) x.natAbs
  | [], g => rfl
  | y :: r, g => by rw [List.cons_append, gcdL, gcdL_append]; rfl
theorem gcdL_dvd : ∀ {l : List Int} {g : Nat}, gcdL g l ∣ g ∧ ∀ x ∈ l, ((gcdL g l : Nat) : Int) ∣ x
  | [], g => ⟨Nat.dvd_refl _, fun x hx => by simp at hx⟩
  | y :: r, g => by
    obtain ⟨a, b⟩ := gcdL_dvd (l := r) (g := Nat.gcd g y.natAbs)
    refine ⟨Nat.dvd_trans a (Nat.gcd_dvd_left _ _), fun x hx => ?_⟩
    rcases List.mem_cons.1 hx with rfl | hx
    · exact Int.ofNat_dvd_left.2 (Nat.dvd_trans a (Nat.gcd_dvd_right _ _))
    · exact b x hx
theorem dvd_gcdL {k : Nat} : ∀ {l : List Int} {g : Nat}, k ∣ g → (∀ x ∈ l, (k : Int) ∣ x) → k ∣ gcdL g l
  | [], g, h, _ => h
  | y :: r, g, h, hl => dvd_gcdL (l := r) (Nat.dvd_gcd h (Int.ofNat_dvd_left.1 (hl y (by simp)))) fun x hx => hl x (by simp [hx])
/-- A list of integers without its common factor. -/
theorem prim_of {p : List Rat} {L : Nat} {o : List Int} {d : Int} (hp : p ≠ []) (hL : 0 < L) (ho : o.length = p.length) (hv : ∀ i (h1 : i < o.length) (h2 : i < p.length), ((o[i] : Int) : Rat) = (L : Rat) * p[i])
    (hd : d.natAbs = gcdL 0 o) (hs : ∀ h : o ≠ [], 0 < o.getLast h * d) : Prim (o.map (· / d)) p := by
  have ho0 : o ≠ [] := List.length_pos_iff.1 (by rw [ho]; exact List.length_pos_iff.2 hp)
  have hs0 := hs ho0
  have hd0 : d ≠ 0 := fun hh => by rw [hh, Int.mul_zero] at hs0; omega
  have hdvd : ∀ x ∈ o, d ∣ x := fun x hx => by
    have := (gcdL_dvd (l := o) (g := 0)).2 x hx
    rw [← hd] at this
    exact Int.natAbs_dvd.1 this
  have hdq : ((d : Int) : Rat) ≠ 0 := fun hh => hd0 (int_inj (b := 0) hh)
  refine ⟨by simp [ho], ⟨(L : Rat) / ((d : Int) : Rat), ?_, fun i h1 h2 => ?_⟩, fun k hk => ?_, fun h => ?_⟩
  · intro hh
    have e : (L : Rat) = (L : Rat) / ((d : Int) : Rat) * ((d : Int) : Rat) := (Rat.div_mul_cancel hdq).symm
    rw [hh, Rat.zero_mul] at e
    have : (L : Nat) = 0 := by exact_mod_cast e
    omega
  · rw [List.length_map] at h1
    rw [List.getElem_map]
    obtain ⟨c, hc⟩ := hdvd _ (List.getElem_mem h1)
    have hv1 := hv i h1 h2
    rw [hc, Rat.intCast_mul] at hv1
    rw [hc, Int.mul_ediv_cancel_left _ hd0]
    have e : (L : Rat) = (L : Rat) / ((d : Int) : Rat) * ((d : Int) : Rat) := (Rat.div_mul_cancel hdq).symm
    have e2 : ((d : Int) : Rat) * ((c : Int) : Rat) = ((d : Int) : Rat) * ((L : Rat) / ((d : Int) : Rat) * p[i]) := by rw [hv1]; grind
    have e3 : ((d : Int) : Rat) * (((c : Int) : Rat) - ((L : Rat) / ((d : Int) : Rat) * p[i])) = 0 := by grind
    rcases Rat.mul_eq_zero.1 e3 with h5 | h5
    · exact absurd h5 hdq
    · grind
  · have h1 : k * d.natAbs ∣ gcdL 0 o := dvd_gcdL (Nat.dvd_zero _) fun x hx => by
      obtain ⟨c, hc⟩ := hdvd x hx
      have h2 := hk (x / d) (List.mem_map.2 ⟨x, hx, rfl⟩)
      rw [hc, Int.mul_ediv_cancel_left _ hd0] at h2
      refine Int.ofNat_dvd_left.2 ?_
      rw [hc, Int.natAbs_mul, Nat.mul_comm]
      exact Nat.mul_dvd_mul_left _ (Int.ofNat_dvd_left.1 h2)
    rw [← hd] at h1
    have h3 : 0 < d.natAbs := Int.natAbs_pos.2 hd0
    have h4 := Nat.le_of_dvd h3 h1
    have h5 : k ≠ 0 := fun hh => by
      rw [hh, Nat.zero_mul] at h1
      have := Nat.eq_zero_of_zero_dvd h1; omega
    rcases Nat.lt_or_ge k 2 with h6 | h6
    · omega
    · have := Nat.mul_le_mul_right d.natAbs h6
      omega
  · rw [List.getLast_map]
    obtain ⟨c, hc⟩ := hdvd _ (List.getLast_mem ho0)
    rw [hc] at hs0 ⊢
    rw [Int.mul_ediv_cancel_left _ hd0]
    have h5 : d * c * d = c * (d * d) := by rw [Int.mul_comm d c, Int.mul_assoc]
    rw [h5] at hs0
    have h6 : 0 ≤ d * d := by
      rcases Int.le_total 0 d with h7 | h7
      · exact Int.mul_nonneg h7 h7
      · exact Int.mul_nonneg_of_nonpos_of_nonpos h7 h7
    rcases Int.lt_or_le 0 c with h7 | h7
    · exact h7
    · have := Int.mul_nonpos_of_nonpos_of_nonneg h7 h6
      omega
end Pq
end

section
/-
  Polynomials: copies, normal forms, degrees (program and reference).
-/
set_option linter.unusedVariables false
namespace Den
open Go Iv Pq

/-- A copy of cells. -/
theorem app_copy {h : Hp} {b : Nat} {xs : List TRat} {n : Nat} {el : TypeId} {K : Sl → Hp → Prop} (hb : h b = none) (hn : n = xs.length) (hlen : xs.length ≤ 1000000)
    (H : ∀ y h', Own h h' 4 y (xs.flatMap qc) → K y h') :
    appP 4 64 [.bool false, .slice nilS.a nilS.len nilS.cap, .bool false, .slice nilS.a nilS.len nilS.cap] ⟨some ⟨b, 0, none⟩, 0, 0⟩ n (xs.flatMap qc) K (h.ins b ⟨[], el, (0, 0)⟩) := by
  have ho : Own h (h.ins b ⟨[], el, (0, 0)⟩) 4 ⟨some ⟨b, 0, none⟩, 0, 0⟩ [] := ⟨Hp.le_ins hb, rfl, Nat.le_refl _, rfl, rfl, hb, _, Hp.ins_same _ _ _, rfl, rfl, rfl⟩
  have hl : (xs.flatMap qc).length = n * 4 := by rw [flat_len qc_len, hn]
  refine app_own ho hl rfl ?_ (by simp only; omega) (by simp only; omega) fun y h' hy hyl => H y h' ?_
  · rw [List.all_flatMap, List.all_eq_true]
    intro x _; exact qc_leaf x
  · simpa using hy
section
variable {h : Hp} {B : Nat} {l : Sl} {p : List Rat} {K : Sl → Hp → Prop}

theorem slQ_of {x : Sl} {lo hi : Int} {n : Nat} {K : Sl → Prop} (a b : Nat) (ha : lo = a) (hb : hi = b) (hab : a ≤ b) (hc : b ≤ x.cap) (H : K (x.cut a b n)) : slP x lo hi n K := by
  subst ha hb
  exact ⟨by omega, by omega, by omega, H⟩
theorem cut0 (x : Sl) (n size : Nat) (h : n ≤ x.cap) : (x.cut 0 n size).len = n ∧ (x.cut 0 n size).cap = x.cap ∧ (x.cut 0 n size).a = x.a := by
  refine ⟨rfl, rfl, ?_⟩
  show (if x.cap = 0 then x.a else x.a.map (·.add (0 * size))) = x.a
  split
  · rfl
  · cases x.a with
    | none => rfl
    | some a => simp only [Option.map_some, Nat.zero_mul, addr_add_zero]
theorem cellsAt_prefix {h : Hp} {a : Addr} : ∀ {n m : Nat} {l : List Value}, cellsAt h a m = some l → n ≤ m → cellsAt h a n = some (l.take n)
  | n, 0, l, e, hn => by
    have : n = 0 := by omega
    subst this
    simp [cellsAt]
  | n, m + 1, l, e, hn => by
    have hl := cellsAt_len e
    by_cases h1 : n = m + 1
    · subst h1; rw [e, List.take_of_length_le (by omega)]
    · unfold cellsAt at e
      split at e
      · rename_i l1 h2
        split at e
        · rename_i v hv
          simp only [Option.some.injEq] at e
          subst e
          have h3 := cellsAt_len h2
          rw [cellsAt_prefix h2 (show n ≤ m by omega), List.take_append_of_le_length (by omega)]
        · cases e
      · cases e
theorem flat_take {α : Type} {c : α → List Value} {n : Nat} (hc : ∀ x, (c x).length = n) : ∀ {xs : List α} {k : Nat}, (xs.flatMap c).take (k * n) = (xs.take k).flatMap c
  | [], k => by simp
  | x :: r, 0 => by simp
  | x :: r, k + 1 => by
    have e1 : (k + 1) * n = n + k * n := by rw [Nat.add_mul]; omega
    rw [List.flatMap_cons, e1, List.take_append, hc, Nat.add_sub_cancel_left, List.take_of_length_le (by rw [hc]; omega), flat_take hc]
    simp
/-- The first numbers of a list. -/
theorem PL.cut (hp : PL h B l p) {n : Nat} (hn : n ≤ p.length) : PL h B (l.cut 0 n 4) (p.take n) := by
  have hlen := hp.len
  obtain ⟨xs, h1, h2, h3⟩ := hp
  have hx := h2.1
  obtain ⟨c1, c2, c3⟩ := cut0 l n 4 (by omega)
  refine ⟨xs.take n, ⟨?_, ?_⟩, h2.take, by rw [c1, c2]; omega⟩
  · rw [c1, flat_len qc_len, List.length_take, Nat.min_eq_left (by omega)]
  · rw [c3, ← flat_take qc_len]
    have hl : ((xs.flatMap qc).take (n * 4)).length = n * 4 := by rw [List.length_take, flat_len qc_len]; omega
    rw [hl]
    have h4 := h1.2
    cases ha : l.a with
    | some a =>
      rw [ha] at h4
      exact cellsAt_prefix h4 (by rw [flat_len qc_len]; omega)
    | none =>
      rw [ha] at h4
      simp only [cellsAtO] at h4 ⊢
      split at h4
      · rename_i h5
        simp only [Option.some.injEq] at h4
        rw [flat_len qc_len] at h5
        have : n = 0 := by omega
        subst this
        simp
      · cases h4
theorem rdO_of (hp : PL h B l p) {Kv : List Value → Prop} {n : Nat} (hn : n = l.len * 4) (H : ∀ xs, xs.length = p.length → QL h B xs p → Kv (xs.flatMap qc)) : rdO l.a n Kv h := by
  have hlen := hp.len
  obtain ⟨xs, h1, h2, h3⟩ := hp
  subst hn
  refine ⟨_, ?_, H xs h2.1 h2⟩
  rw [h1.1]; exact h1.2

theorem qclone_call (hp : PL h B l p) (hlen : p.length ≤ 1000000) (H : ∀ y h', OL h h' B y p → K y h') : callP (F.slices_Clone_api_Rat_api_Rat l) K h := by
  refine callP_of (fun y h' => OL h h' B y p) (fun K' hk => ?_) fun y h' _ hy => H y h' hy
  unfold F.slices_Clone_api_Rat_api_Rat
  refine ifP_intro (fun h1 => ?_) (fun h1 => ?_)
  · have hp0 : p = [] := by
      obtain ⟨xs, g1, g2, g3⟩ := hp
      have := g1.2
      have ha : l.a = none := by cases hl : l.a with
        | none => rfl
        | some a => rw [hl] at h1; cases h1
      rw [ha] at this
      simp only [cellsAtO] at this
      split at this
      · rename_i h5
        rw [flat_len qc_len] at h5
        have := g2.1
        exact List.eq_nil_of_length_eq_zero (by omega)
      · cases this
    subst hp0
    exact hk _ _ (Hp.le_refl _) ⟨h, Hp.le_refl _, OD.nil⟩
  · intro b el hb
    obtain ⟨xs, g1, g2, g3⟩ := hp
    refine ⟨xs.flatMap qc, cellsAtO_le (Hp.le_ins hb) (by rw [g1.1]; exact g1.2), ?_⟩
    refine app_copy hb (by rw [RdQ.len g1]) (by rw [g2.1]; exact hlen) fun y h' hy => ?_
    exact hk _ _ hy.1 ⟨h, Hp.le_refl _, xs, hy, g2⟩

/-! ### Normal forms -/
theorem co_sign {v : Rat} : v.num.sign = 0 ↔ v = 0 := by rw [Int.sign_eq_zero_iff_zero, Rat.num_eq_zero]
theorem trim_take {n : Nat} (hn : n ≤ p.length) (h0 : ∀ i, n ≤ i → co p i = 0) (h1 : n = 0 ∨ co p (n - 1) ≠ 0) : p.take n = trim p := by
  refine Pq.trim_of (nf_take hn h1) fun i => ?_
  rw [co_take]
  split
  · rfl
  · rw [h0 i (by omega)]
theorem pTrim_call (hp : PL h B l p) (hlen : p.length ≤ 1000000) (hB : B ≤ 1000000) (H : ∀ y h', OL h h' B y (trim p) → K y h') : callP (F.polynomial_Trim l) K h := by
  refine callP_of (fun y h' => OL h h' B y (trim p)) (fun K' hk => ?_) fun y h' _ hy => H y h' hy
  unfold F.polynomial_Trim
  have hl := hp.len
  have hcap := hp.cap
  refine joinP_inv (fun s h' => h' = h ∧ ∃ n : Nat, s.1 = (n : Int) ∧ n ≤ p.length ∧ p.take n = trim p) ?_ ?_
  · rintro ⟨_, _⟩ h1 ⟨rfl, n, hn, hn2, ht⟩
    simp only at hn
    subst hn
    refine slQ_of 0 n rfl rfl (Nat.zero_le _) (by omega) ?_
    refine qclone_call (hp.cut hn2) (by rw [List.length_take]; omega) fun y h' hy => ?_
    rw [ht] at hy
    exact hk _ _ hy.hle hy
  · refine loopP_of (fun st h' => h' = h ∧ ∃ n : Nat, st.1 = (n : Int) ∧ n ≤ p.length ∧ ∀ i, n ≤ i → co p i = 0) (fun st => st.1.toNat) ⟨rfl, p.length, by simp only; rw [hl], Nat.le_refl _, fun i hi => co_ge hi⟩ ?_
    rintro ⟨_, _⟩ h1 ⟨rfl, n, hn, hn2, h0⟩
    simp only at hn
    subst hn
    refine joinP_inv (fun _ h' => h' = h1 ∧ 0 < n ∧ co p (n - 1) = 0) ?_ ?_
    · rintro _ h2 ⟨rfl, hpos, hz⟩
      have e : IntKind.i64.wrap ((n : Int) - 1) = ((n - 1 : Nat) : Int) := by rw [w64 (by omega)]; omega
      refine ⟨⟨rfl, n - 1, e, by omega, fun i hi => ?_⟩, by simp only; rw [e]; omega⟩
      by_cases hi2 : i = n - 1
      · rw [hi2]; exact hz
      · exact h0 i (by omega)
    · refine ifP_dec (fun h3 => ?_) (fun h3 => ?_)
      · have hpos : 0 < n := by omega
        have e : IntKind.i64.wrap ((n : Int) - 1) = ((n - 1 : Nat) : Int) := by rw [w64 (by omega)]; omega
        refine hp.get (n - 1) e (by omega) fun x hx bx => ?_
        refine qSign_call hx bx hB (ifP_eq (fun h4 => ⟨rfl, hpos, ?_⟩) (fun h4 => ⟨rfl, n, rfl, hn2, trim_take hn2 h0 (.inr ?_)⟩))
        · rw [co_lt (by omega)]; exact co_sign.1 h4
        · rw [co_lt (by omega)]; exact fun hh => h4 (co_sign.2 hh)
      · exact ⟨rfl, n, rfl, hn2, trim_take hn2 h0 (.inl (by omega))⟩
theorem rTrim_call (hp : PL h B l p) (hlen : p.length ≤ 1000000) (hB : B ≤ 1000000) (H : ∀ y h', OL h h' B y (trim p) → K y h') : callP (F.ref04_Trim l) K h := by
  refine callP_of (fun y h' => OL h h' B y (trim p)) (fun K' hk => ?_) fun y h' _ hy => H y h' hy
  unfold F.ref04_Trim
  have hl := hp.len
  have hcap := hp.cap
  refine joinP_inv (fun s h' => h' = h ∧ ∃ n : Nat, s.1 = (n : Int) ∧ n ≤ p.length ∧ p.take n = trim p) ?_ ?_
  · rintro ⟨_, _⟩ h1 ⟨rfl, n, hn, hn2, ht⟩
    simp only at hn
    subst hn
    intro b el hb
    refine slQ_of 0 n rfl rfl (Nat.zero_le _) (by omega) ?_
    obtain ⟨xs, g1, g2, g3⟩ := hp.cut hn2
    refine ⟨xs.flatMap qc, cellsAtO_le (Hp.le_ins hb) (by rw [g1.1]; exact g1.2), ?_⟩
    refine app_copy hb (by rw [RdQ.len g1]) (by rw [g2.1, List.length_take]; omega) fun y h' hy => ?_
    refine hk _ _ hy.1 ⟨h1, Hp.le_refl _, xs, hy, ?_⟩
    rw [← ht]; exact g2
  · refine loopP_of (fun st h' => h' = h ∧ ∃ n : Nat, st.1 = (n : Int) ∧ n ≤ p.length ∧ ∀ i, n ≤ i → co p i = 0) (fun st => st.1.toNat) ⟨rfl, p.length, by simp only; rw [hl], Nat.le_refl _, fun i hi => co_ge hi⟩ ?_
    rintro ⟨_, _⟩ h1 ⟨rfl, n, hn, hn2, h0⟩
    simp only at hn
    subst hn
    refine joinP_inv (fun _ h' => h' = h1 ∧ 0 < n ∧ co p (n - 1) = 0) ?_ ?_
    · rintro _ h2 ⟨rfl, hpos, hz⟩
      have e : IntKind.i64.wrap ((n : Int) - 1) = ((n - 1 : Nat) : Int) := by rw [w64 (by omega)]; omega
      refine ⟨⟨rfl, n - 1, e, by omega, fun i hi => ?_⟩, by simp only; rw [e]; omega⟩
      by_cases hi2 : i = n - 1
      · rw [hi2]; exact hz
      · exact h0 i (by omega)
    · refine ifP_dec (fun h3 => ?_) (fun h3 => ?_)
      · have hpos : 0 < n := by omega
        have e : IntKind.i64.wrap ((n : Int) - 1) = ((n - 1 : Nat) : Int) := by rw [w64 (by omega)]; omega
        refine hp.get (n - 1) e (by omega) fun x hx bx => ?_
        refine rqSign_call hx bx hB (ifP_eq (fun h4 => ⟨rfl, hpos, ?_⟩) (fun h4 => ⟨rfl, n, rfl, hn2, trim_take hn2 h0 (.inr ?_)⟩))
        · rw [co_lt (by omega)]; exact co_sign.1 h4
        · rw [co_lt (by omega)]; exact fun hh => h4 (co_sign.2 hh)
      · exact ⟨rfl, n, rfl, hn2, trim_take hn2 h0 (.inl (by omega))⟩
theorem pDegree_call {Ki : Int → Hp → Prop} (hp : PL h B l p) (hlen : p.length ≤ 1000000) (hB : B ≤ 1000000) (H : ∀ h', h.le h' → Ki (((trim p).length : Int) - 1) h') : callP (F.polynomial_Degree l) Ki h := by
  refine callP_of (fun r h' => r = ((trim p).length : Int) - 1) (fun K' hk => ?_) fun r h' hl hr => by subst hr; exact H h' hl
  unfold F.polynomial_Degree
  refine pTrim_call hp hlen hB fun y h' hy => ?_
  have := trim_len (p := p)
  rw [hy.len, w64 (by omega)]
  exact hk _ _ hy.hle rfl
theorem rDegree_call {Ki : Int → Hp → Prop} (hp : PL h B l p) (hlen : p.length ≤ 1000000) (hB : B ≤ 1000000) (H : ∀ h', h.le h' → Ki (((trim p).length : Int) - 1) h') : callP (F.ref04_Degree l) Ki h := by
  refine callP_of (fun r h' => r = ((trim p).length : Int) - 1) (fun K' hk => ?_) fun r h' hl hr => by subst hr; exact H h' hl
  unfold F.ref04_Degree
  refine rTrim_call hp hlen hB fun y h' hy => ?_
  have := trim_len (p := p)
  rw [hy.len, w64 (by omega)]
  exact hk _ _ hy.hle rfl
end
end Den
end

section
/-
  Polynomials: sums, multiples, products (reference).
-/
set_option linter.unusedVariables false
namespace Den
open Go Iv Pq

theorem PL.getle {h0 h : Hp} {B : Nat} {l : Sl} {p : List Rat} {i : Int} {K : Bool → Sl → Bool → Sl → Prop} (k : Nat) (hp : PL h0 B l p) (hl : h0.le h) (hi : i = k) (hk : k < p.length)
    (H : ∀ x : TRat, NR h0 x p[k] → BR B p[k] → K x.num.neg x.num.mag x.den.neg x.den.mag) :
    idxP l i 4 fun a => ldL .bool (a.add 0) (fun x0 => ldL .sl (a.add 1) (fun x1 => ldL .bool (a.add 2) (fun x2 => ldL .sl (a.add 3) (fun x3 => K x0 x1 x2 x3) h) h) h) h := by
  obtain ⟨xs, h1, h2, h3⟩ := hp
  have hk' : k < xs.length := by rw [h2.1]; exact hk
  have := h2.2 k hk' hk
  exact rd_rat k (h1.le hl) hi hk' (H _ this.1 this.2)
theorem OL.of {D h h0 : Hp} {B : Nat} {l : Sl} {p : List Rat} (hd : h0.le D) (ho : OD D h B l p) : OL h0 h B l p := ⟨D, hd, ho⟩
theorem OL.base {h h0 h1 : Hp} {B : Nat} {l : Sl} {p : List Rat} (ho : OL h1 h B l p) (hl : h0.le h1) : OL h0 h B l p := by
  obtain ⟨D, a, b⟩ := ho
  exact ⟨D, Hp.le_trans hl a, b⟩
theorem OL.mono {h h0 : Hp} {B C : Nat} {l : Sl} {p : List Rat} (ho : OL h0 h B l p) (hB : B ≤ C) : OL h0 h C l p := by
  obtain ⟨D, a, b⟩ := ho
  exact ⟨D, a, b.mono hB⟩
theorem trim_eq {p q : List Rat} (h : ∀ i, co p i = co q i) : trim p = trim q := nf_ext nf_trim nf_trim fun i => by rw [co_trim, co_trim, h]
theorem trim_trim {p : List Rat} : trim (trim p) = trim p := trim_eq fun i => co_trim
theorem trim_nil : trim [] = [] := rfl
theorem BR.co {B : Nat} {p : List Rat} (hp : ∀ v ∈ p, BR B v) (h1 : 1 ≤ B) (i : Nat) : BR B (co p i) := by
  rcases Nat.lt_or_ge i p.length with h2 | h2
  · rw [co_lt h2]; exact hp _ (List.getElem_mem h2)
  · rw [co_ge h2]; exact BR_zero.mono h1
theorem co_mapc {c : Rat} {p : List Rat} {i : Nat} : co (p.map (c * ·)) i = c * co p i := co_map (f := (c * ·)) (Rat.mul_zero c)
theorem lit0 : ((0 : Int) : Rat) = 0 := rfl

section
variable {h : Hp} {A B : Nat} {l m : Sl} {p q : List Rat} {K : Sl → Hp → Prop} {KR : TRat → Hp → Prop} {Kb : Bool → Hp → Prop} {c : Rat} {x : TRat}

theorem rScale_call (hp : PL h A l p) (hx : NR h x c) (bc : BR B c) (hlen : p.length ≤ 1000000) (hA : A ≤ 400000) (hB : B ≤ 400000) (H : ∀ y h', OL h h' (A + B) y (trim (p.map (c * ·))) → K y h') : callP (F.ref04_Scale l x) K h := by
  refine callP_of (fun y h' => OL h h' (A + B) y (trim (p.map (c * ·)))) (fun K' hk => ?_) fun y h' _ hy => H y h' hy
  unfold F.ref04_Scale
  have hl := hp.len
  refine loopP_of (fun st h' => ∃ D, h.le D ∧ ∃ i : Nat, st.2.1 = (i : Int) ∧ i ≤ p.length ∧ OD D h' (A + B) st.1 ((p.take i).map (c * ·))) (fun st => (p.length - st.2.1).toNat)
    ⟨h, Hp.le_refl _, 0, rfl, Nat.zero_le _, by simpa using OD.nil⟩ ?_
  rintro ⟨s, _, _⟩ h1 ⟨D, hD, i, hi, hi2, ho⟩
  simp only at hi ho
  subst hi
  refine ifP_dec (fun h3 => ?_) (fun h3 => ?_)
  · have hi' : i < p.length := by simp only at h3; omega
    refine hp.getle i (Hp.le_trans hD ho.dle) rfl hi' fun y hy by_ => ?_
    refine ho.call (K1 := fun z D' => NR D' z (p[i] * c)) (rqMul_call (hy.le hD) (hx.le hD) by_ bc hA hB fun z D' hl' hz => hz) fun z D' h2 hl' ho' hz => ?_
    refine ho'.app (by simp; omega) hz (by_.mul bc) fun w h3 hw => ⟨⟨D', Hp.le_trans hD hl', i + 1, ?_, hi', ?_⟩, ?_⟩
    · simp only; rw [w64 (by omega)]; rfl
    · rw [List.take_succ_eq_append_getElem hi', List.map_append]
      simp only [List.map_cons, List.map_nil]
      rw [Rat.mul_comm] at hw
      exact hw
    · simp only; rw [w64 (by omega)]; omega
  · have hi' : i = p.length := by simp only at h3; omega
    subst hi'
    rw [List.take_length] at ho
    refine rTrim_call ho.pl (by simpa using hlen) (by omega) fun y h' hy => hk _ _ ?_ (hy.base ?_)
    · exact Hp.le_trans hD (Hp.le_trans ho.dle hy.hle)
    · exact Hp.le_trans hD ho.dle
theorem rZero_call (H : ∀ z h', h.le h' → NR h' z 0 → KR z h') : callP F.ref04_zero KR h := by
  refine callP_of (fun z h' => NR h' z 0) (fun K' hk => ?_) fun z h' hl hz => H z h' hl hz
  unfold F.ref04_zero
  exact rqFromInt_call (by decide) (by decide) fun z h' hl hz => hk _ _ hl hz
theorem rAt_call {i : Int} (k : Nat) (hp : PL h A l p) (hi : i = k) (H : ∀ z h', h.le h' → NR h' z (co p k) → KR z h') : callP (F.ref04_at l i) KR h := by
  refine callP_of (fun z h' => NR h' z (co p k)) (fun K' hk => ?_) fun z h' hl hz => H z h' hl hz
  unfold F.ref04_at
  subst hi
  have hl := hp.len
  refine joinP_of (ifP_dec (fun h1 => by omega) (fun h1 => ifP_dec (fun h2 => ?_) (fun h2 => ?_)))
  · refine rZero_call fun z h' hl' hz => hk _ _ hl' ?_
    rw [co_ge (by omega)]; exact hz
  · have hk' : k < p.length := by omega
    refine hp.get k rfl hk' fun y hy _ => hk _ _ (Hp.le_refl _) ?_
    rw [co_lt hk']; exact hy
theorem range_map_co (p q : List Rat) (n : Nat) : (List.range n).map (fun i => co p i + co q i) = (List.range n).map fun i => co (addL p q) i := List.map_congr_left fun i _ => co_addL.symm
theorem co_range {f : Nat → Rat} {n i : Nat} : co ((List.range n).map f) i = if i < n then f i else 0 := by
  rcases Nat.lt_or_ge i n with h1 | h1
  · rw [co_lt (by simpa using h1), if_pos h1]; simp
  · rw [co_ge (by simpa using h1), if_neg (by omega)]
theorem rpAdd_call (hp : PL h A l p) (hq : PL h B m q) (hlen : p.length ≤ 100000) (hlen2 : q.length ≤ 100000) (hA : 1 ≤ A ∧ A ≤ 400000) (hB : 1 ≤ B ∧ B ≤ 400000) {C : Nat} (hC : ∀ i, BR C (co p i + co q i)) (hC2 : C ≤ 1000000)
    (H : ∀ y h', OL h h' C y (trim (addL p q)) → K y h') : callP (F.ref04_Add l m) K h := by
  refine callP_of (fun y h' => OL h h' C y (trim (addL p q))) (fun K' hk => ?_) fun y h' _ hy => H y h' hy
  unfold F.ref04_Add
  have hl := hp.len
  have hl2 := hq.len
  have bA := fun i => BR.co hp.bound hA.1 i
  have bB := fun i => BR.co hq.bound hB.1 i
  refine joinP_inv (fun s h' => ∃ D, h.le D ∧ ∃ n : Nat, p.length ≤ n ∧ q.length ≤ n ∧ n ≤ 100000 ∧ OD D h' C s.1 ((List.range n).map fun i => co p i + co q i)) ?_ ?_
  · rintro ⟨s, _⟩ h1 ⟨D, hD, n, hn1, hn2, hn3, ho⟩
    refine rTrim_call ho.pl (by simp; omega) hC2 fun y h' hy => hk _ _ (Hp.le_trans hD (Hp.le_trans ho.dle hy.hle)) ?_
    have e : trim ((List.range n).map fun i => co p i + co q i) = trim (addL p q) := trim_eq fun i => by
      rw [co_range, co_addL]
      split
      · rfl
      · rw [co_ge (by omega), co_ge (by omega)]; exact (Rat.add_zero 0).symm
    rw [e] at hy
    exact hy.base (Hp.le_trans hD ho.dle)
  · refine loopP_of (fun st h' => ∃ D, h.le D ∧ ∃ i : Nat, st.2.1 = (i : Int) ∧ i ≤ max p.length q.length ∧ OD D h' C st.1 ((List.range i).map fun i => co p i + co q i)) (fun st => ((max p.length q.length : Nat) - st.2.1).toNat)
      ⟨h, Hp.le_refl _, 0, rfl, Nat.zero_le _, OD.nil⟩ ?_
    rintro ⟨s, _, _⟩ h1 ⟨D, hD, i, hi, hi2, ho⟩
    simp only at hi ho
    subst hi
    refine joinP_inv (fun _ h' => h' = h1 ∧ i < max p.length q.length) ?_ ?_
    · rintro _ h2 ⟨rfl, hi3⟩
      refine ho.call (K1 := fun z D' => NR D' z (co p i)) (rAt_call i (hp.le hD) rfl fun z D1 hl1 hz => hz) fun z1 D1 h3 hl1 ho1 hz1 => ?_
      have hD1 := Hp.le_trans hD hl1
      refine ho1.call (K1 := fun z D' => NR D' z (co q i)) (rAt_call i (hq.le hD1) rfl fun z D1 hl1 hz => hz) fun z2 D2 h4 hl2 ho2 hz2 => ?_
      have hD2 := Hp.le_trans hD1 hl2
      refine ho2.call (K1 := fun z D' => NR D' z (co p i + co q i)) (rqAdd_call (hz1.le hl2) hz2 (bA i) (bB i) hA.2 hB.2 fun z D1 hl1 hz => hz) fun z3 D3 h5 hl3 ho3 hz3 => ?_
      refine ho3.app (by simp; omega) hz3 (hC i) fun w h6 hw => ⟨⟨D3, Hp.le_trans hD2 hl3, i + 1, ?_, by omega, ?_⟩, ?_⟩
      · simp only; rw [w64 (by omega)]; rfl
      · rw [List.range_succ, List.map_append]
        exact hw
      · simp only; rw [w64 (by omega)]; omega
    · refine ifP_dec (fun h3 => ⟨rfl, by simp only at h3; omega⟩) (fun h3 => ifP_dec (fun h4 => ⟨rfl, by simp only at h4; omega⟩) (fun h4 => ?_))
      simp only at h3 h4
      exact ⟨D, hD, i, by omega, by omega, by omega, ho⟩
theorem trim_addL {p q : List Rat} : trim (addL p (trim q)) = trim (addL p q) := trim_eq fun i => by rw [co_addL, co_addL, co_trim]
theorem addL_trim {p q : List Rat} : trim (addL (trim p) q) = trim (addL p q) := trim_eq fun i => by rw [co_addL, co_addL, co_trim]
def negL (q : List Rat) : List Rat := q.map ((((-1 : Int) : Rat)) * ·)
theorem co_negL {q : List Rat} {i : Nat} : co (negL q) i = - co q i := by
  unfold negL
  rw [co_mapc]
  have : (((-1 : Int) : Rat)) = -1 := rfl
  rw [this]; grind
theorem BR_m1 : BR 1 (((-1 : Int) : Rat)) := ⟨by unfold Lt; decide, by unfold Lt; decide⟩
theorem rpSub_call (hp : PL h A l p) (hq : PL h B m q) (hlen : p.length ≤ 100000) (hlen2 : q.length ≤ 100000) (hA : 1 ≤ A ∧ A ≤ 300000) (hB : 1 ≤ B ∧ B ≤ 300000) {C : Nat} (hC : ∀ i, BR C (co p i - co q i)) (hC2 : C ≤ 1000000)
    (H : ∀ y h', OL h h' C y (trim (addL p (negL q))) → K y h') : callP (F.ref04_Sub l m) K h := by
  refine callP_of (fun y h' => OL h h' C y (trim (addL p (negL q)))) (fun K' hk => ?_) fun y h' _ hy => H y h' hy
  unfold F.ref04_Sub
  refine rqFromInt_call (by decide) (by decide) fun z h1 hl1 hz => ?_
  refine rScale_call (hq.le hl1) hz BR_m1 (by omega) (by omega) (by omega) fun y h2 hy => ?_
  have ht := trim_len (p := q.map ((((-1 : Int) : Rat)) * ·))
  rw [List.length_map] at ht
  have hl2 := Hp.le_trans hl1 hy.hle
  refine rpAdd_call (hp.le hl2) hy.pl hlen (by omega) (by omega) (by omega) (C := C) (fun i => ?_) hC2 fun w h3 hw => ?_
  · rw [co_trim]
    have := hC i
    have e : co p i + co (q.map ((((-1 : Int) : Rat)) * ·)) i = co p i - co q i := by
      have := co_negL (q := q) (i := i)
      unfold negL at this
      rw [this]; grind
    rw [e]; exact this
  · rw [trim_addL] at hw
    exact hk _ _ (Hp.le_trans hl2 hw.hle) (hw.base hl2)
theorem rpSame_call (hp : PL h A l p) (hq : PL h B m q) (hlen : p.length ≤ 100000) (hlen2 : q.length ≤ 100000) (hA : 1 ≤ A ∧ A ≤ 300000) (hB : 1 ≤ B ∧ B ≤ 300000)
    (H : ∀ h', h.le h' → Kb (decide (trim p = trim q)) h') : callP (F.ref04_Same l m) Kb h := by
  refine callP_of (fun b h' => b = decide (trim p = trim q)) (fun K' hk => ?_) fun b h' hl hb => by subst hb; exact H h' hl
  unfold F.ref04_Same
  refine rpSub_call hp hq hlen hlen2 hA hB (C := A + B + 1) (fun i => (BR.co hp.bound hA.1 i).sub (BR.co hq.bound hB.1 i)) (by omega) fun y h' hy => hk _ _ hy.hle ?_
  have e : (trim (addL p (negL q))).length = 0 ↔ trim p = trim q := by
    rw [List.length_eq_zero_iff]
    constructor
    · intro h1
      refine trim_eq fun i => ?_
      have h2 : co (trim (addL p (negL q))) i = 0 := by rw [h1]; rfl
      rw [co_trim, co_addL, co_negL] at h2
      grind
    · intro h1
      refine nf_eq_nil nf_trim fun i => ?_
      have h2 : co (trim p) i = co (trim q) i := by rw [h1]
      rw [co_trim, co_trim] at h2
      rw [co_trim, co_addL, co_negL, h2]; grind
  rw [hy.len]
  by_cases h1 : trim p = trim q
  · rw [decide_eq_true h1, e.2 h1]; rfl
  · rw [decide_eq_false h1]
    have : (trim (addL p (negL q))).length ≠ 0 := fun hh => h1 (e.1 hh)
    simp only [beq_eq_false_iff_ne, ne_eq]
    omega
theorem rpEqual_call (hp : PL h A l p) (hq : PL h B m q) (hlen : p.length ≤ 100000) (hlen2 : q.length ≤ 100000) (hA : 1 ≤ A ∧ A ≤ 300000) (hB : 1 ≤ B ∧ B ≤ 300000)
    (H : ∀ h', h.le h' → Kb (decide (p.length = q.length ∧ trim p = trim q)) h') : callP (F.ref04_Equal l m) Kb h := by
  refine callP_of (fun b h' => b = decide (p.length = q.length ∧ trim p = trim q)) (fun K' hk => ?_) fun b h' hl hb => by subst hb; exact H h' hl
  unfold F.ref04_Equal
  have hl := hp.len
  have hl2 := hq.len
  refine ifP_eq (fun h1 => ?_) (fun h1 => hk _ _ (Hp.le_refl _) (decide_eq_false fun hh => h1 (by rw [hl, hl2, hh.1])).symm)
  refine rpSame_call hp hq hlen hlen2 hA hB fun h' hl' => hk _ _ hl' ?_
  have : p.length = q.length := by omega
  by_cases h2 : trim p = trim q
  · rw [decide_eq_true h2, decide_eq_true ⟨this, h2⟩]
  · rw [decide_eq_false h2, decide_eq_false fun hh => h2 hh.2]

/-! ### Products of the reference -/
theorem OD.apps {D : Hp} {Ks : Sl → Hp → Prop} {xs : List TRat} {n : Nat} (ho : OD D h B l p) (hn : n = xs.length) (hlen : p.length + xs.length ≤ 1000000) (hq : QL D B xs q) (H : ∀ y h', OD D h' B y (p ++ q) → Ks y h') :
    appP 4 64 [.bool false, .slice nilS.a nilS.len nilS.cap, .bool false, .slice nilS.a nilS.len nilS.cap] l n (xs.flatMap qc) Ks h := by
  have hl := ho.len
  obtain ⟨ys, h1, h2⟩ := ho
  refine app_own h1 (n := n) (new := xs.flatMap qc) (by rw [flat_len qc_len, hn]) rfl ?_ (by omega) (by omega) fun y h' hy hyl => H y h' ⟨ys ++ xs, ?_, ?_⟩
  · rw [List.all_flatMap, List.all_eq_true]
    intro x _; exact qc_leaf x
  · rw [List.flatMap_append]; exact hy
  · have hl2 := h2.1
    have hl3 := hq.1
    refine ⟨by simp [hl2, hl3], fun k k1 k2 => ?_⟩
    rcases Nat.lt_or_ge k ys.length with h3 | h3
    · rw [List.getElem_append_left h3, List.getElem_append_left (by omega)]
      exact h2.2 k h3 (by omega)
    · rw [List.getElem_append_right h3, List.getElem_append_right (by omega)]
      have := hq.2 (k - ys.length) (by simp at k1; omega) (by simp at k1; omega)
      simpa [hl2] using this
theorem rShift_call {n : Nat} (hp : PL h B l p) (hlen : p.length + n ≤ 100000) (hB : 1 ≤ B ∧ B ≤ 1000000) (H : ∀ y h', OL h h' B y (trim (List.replicate n 0 ++ p)) → K y h') : callP (F.ref04_Shift l (n : Int)) K h := by
  refine callP_of (fun y h' => OL h h' B y (trim (List.replicate n 0 ++ p))) (fun K' hk => ?_) fun y h' _ hy => H y h' hy
  unfold F.ref04_Shift
  refine loopP_of (fun st h' => ∃ D, h.le D ∧ ∃ i : Nat, st.2.1 = (i : Int) ∧ i ≤ n ∧ OD D h' B st.1 (List.replicate i 0)) (fun st => ((n : Int) - st.2.1).toNat)
    ⟨h, Hp.le_refl _, 0, rfl, Nat.zero_le _, OD.nil⟩ ?_
  rintro ⟨s, _, _⟩ h1 ⟨D, hD, i, hi, hi2, ho⟩
  simp only at hi ho
  subst hi
  refine ifP_dec (fun h3 => ?_) (fun h3 => ?_)
  · simp only at h3
    refine ho.call (K1 := fun z D' => NR D' z 0) (rZero_call fun z D' _ hz => hz) fun z D' h2 hl' ho' hz => ?_
    refine ho'.app (by simp; omega) hz (BR_zero.mono hB.1) fun w h3 hw => ⟨⟨D', Hp.le_trans hD hl', i + 1, ?_, by omega, ?_⟩, ?_⟩
    · simp only; rw [w64 (by omega)]; rfl
    · rw [List.replicate_succ']; exact hw
    · simp only; rw [w64 (by omega)]; omega
  · simp only at h3
    have hi' : i = n := by omega
    subst hi'
    obtain ⟨xs, g1, g2, g3⟩ := hp
    refine ⟨xs.flatMap qc, by rw [g1.1]; exact cellsAtO_le (Hp.le_trans hD ho.dle) g1.2, ?_⟩
    refine ho.apps (RdQ.len g1) (by rw [g2.1]; simp; omega) (g2.le hD) fun y h2 hy => ?_
    refine rTrim_call hy.pl (by simp; omega) hB.2 fun w h3 hw => hk _ _ (Hp.le_trans hD (Hp.le_trans hy.dle hw.hle)) (hw.base (Hp.le_trans hD hy.dle))
theorem co_shift {n i : Nat} : co (List.replicate n 0 ++ p) i = if i < n then 0 else co p (i - n) := by
  rw [co_append, List.length_replicate, co_replicate]
theorem rpMul_call {C : Nat} (hp : PL h A l p) (hq : PL h B m q) (hlen : p.length ≤ 1000) (hlen2 : q.length ≤ 1000) (hA : 1 ≤ A ∧ A ≤ 100000) (hB : 1 ≤ B ∧ B ≤ 100000) (hC : ∀ k n, k ≤ q.length → BR C (part (co q) (co p) k n)) (hC2 : 1 ≤ C ∧ C ≤ 400000)
    (H : ∀ y h', h.le h' → PL h' C y (if q = [] then [] else trim (mulL p q)) → K y h') : callP (F.ref04_Mul l m) K h := by
  have hfin : ∀ r, nf r → (∀ n, co r n = part (co q) (co p) q.length n) → r = (if q = [] then [] else trim (mulL p q)) := fun r h1 h2 => by
    have h3 : r = trim (mulL p q) := Pq.trim_of h1 fun i => by rw [h2, co_mulL, conv_comm, part_conv fun i hi => co_ge hi]
    split
    · rename_i hh
      refine nf_eq_nil h1 fun i => ?_
      rw [h2, hh]; rfl
    · exact h3
  refine callP_of (fun y h' => PL h' C y (if q = [] then [] else trim (mulL p q))) (fun K' hk => ?_) fun y h' hl hy => H y h' hl hy
  unfold F.ref04_Mul
  have hl := hp.len
  have hl2 := hq.len
  refine loopP_of (fun st h' => h.le h' ∧ ∃ i : Nat, st.2.1 = (i : Int) ∧ i ≤ q.length ∧ ∃ r, PL h' C st.1 r ∧ nf r ∧ r.length ≤ p.length + i ∧ ∀ n, co r n = part (co q) (co p) i n) (fun st => ((q.length : Int) - st.2.1).toNat)
    ⟨Hp.le_refl _, 0, rfl, Nat.zero_le _, [], PL.nil, .inl rfl, Nat.zero_le _, fun n => rfl⟩ ?_
  rintro ⟨s, _, _⟩ h1 ⟨hl1, i, hi, hi2, r, hr, nr, lr, cr⟩
  simp only at hi hr
  subst hi
  refine ifP_dec (fun h3 => ?_) (fun h3 => ?_)
  · simp only at h3
    have hi' : i < q.length := by omega
    refine (hq.le hl1).get i rfl hi' fun y hy by_ => ?_
    refine rScale_call (hp.le hl1) hy by_ (by omega) (by omega) (by omega) fun y2 h2 hy2 => ?_
    have ht := trim_len (p := p.map (q[i] * ·))
    rw [List.length_map] at ht
    refine rShift_call (n := i) hy2.pl (by omega) (by omega) fun y3 h3 hy3 => ?_
    have ht3 := trim_len (p := List.replicate i 0 ++ trim (p.map (q[i] * ·)))
    rw [List.length_append, List.length_replicate] at ht3
    have hl3 := Hp.le_trans hy2.hle hy3.hle
    have cnew : ∀ n, co r n + co (trim (List.replicate i 0 ++ trim (p.map (q[i] * ·)))) n = part (co q) (co p) (i + 1) n := fun n => by
      rw [co_trim, co_shift, cr]
      unfold Pq.part
      rw [sm_succ]
      congr 1
      by_cases hn : n < i
      · rw [if_pos hn, if_neg (by omega)]
      · rw [if_neg hn, if_pos (by omega), co_trim, co_mapc, co_lt hi']
    refine rpAdd_call (hr.le hl3) hy3.pl (by omega) (by omega) (by omega) (by omega) (C := C) (fun n => by rw [cnew]; exact hC _ _ hi') (by omega) fun w h4 hw => ?_
    have hlen3 : (addL r (trim (List.replicate i 0 ++ trim (p.map (q[i] * ·))))).length ≤ p.length + (i + 1) ∨ True := .inr trivial
    refine ⟨⟨Hp.le_trans hl1 (Hp.le_trans hl3 hw.hle), i + 1, ?_, hi', _, hw.pl, nf_trim, ?_, fun n => ?_⟩, ?_⟩
    · simp only; rw [w64 (by omega)]; rfl
    · refine nf_len nf_trim fun n hn => ?_
      rw [co_trim, co_addL, co_ge (by omega), co_ge (by omega)]; exact Rat.add_zero 0
    · rw [co_trim, co_addL, cnew]
    · simp only; rw [w64 (by omega)]; omega
  · simp only at h3
    have hi' : i = q.length := by omega
    subst hi'
    refine hk _ _ hl1 ?_
    rw [← hfin r nr cr]; exact hr
end
end Den
end

section
/-
  Polynomials: zeros, sums, multiples, products (program).
-/
set_option linter.unusedVariables false
namespace Den
open Go Iv Pq

theorem and32 {x : Nat} (hx : x < 4294967296) : ibits .and .u64 (x : Int) 4294967295 = (x : Int) := by
  unfold ibits
  simp only
  have e1 : BitVec.ofInt IntKind.u64.bits (x : Int) = BitVec.ofNat 64 x := rfl
  have e2 : BitVec.ofInt IntKind.u64.bits (4294967295 : Int) = BitVec.ofNat 64 4294967295 := rfl
  rw [e1, e2]
  have e3 : (BitVec.ofNat 64 x &&& BitVec.ofNat 64 4294967295).toNat = x := by
    rw [BitVec.toNat_and, BitVec.toNat_ofNat, BitVec.toNat_ofNat, Nat.mod_eq_of_lt (by omega), Nat.mod_eq_of_lt (by omega)]
    have : (4294967295 : Nat) = 2 ^ 32 - 1 := rfl
    rw [this, Nat.and_two_pow_sub_one_eq_mod, Nat.mod_eq_of_lt (by omega)]
  have e4 : IntKind.u64.wrap (((BitVec.ofNat 64 x &&& BitVec.ofNat 64 4294967295).toNat : Nat) : Int) = (x : Int) := by rw [e3, wu64 (by omega)]
  exact e4
theorem qshr32 {x : Nat} (hx : x < 4294967296) : ((x : Int)).fdiv (2 ^ (min (32 : Int).toNat IntKind.u64.bits)) = 0 := by
  have : (2 : Int) ^ (min (32 : Int).toNat IntKind.u64.bits) = 4294967296 := by decide
  rw [this, Int.fdiv_eq_ediv_of_nonneg _ (by decide)]
  omega
theorem bitsMul_call {x y : Nat} {h : Hp} {K : Int × Int → Hp → Prop} (hx : x < 65536) (hy : y < 65536) (H : K (0, ((x * y : Nat) : Int)) h) : callP (F.math_bits_Mul (x : Int) (y : Int)) K h := by
  have hxy : x * y < 4294967296 := Nat.lt_of_le_of_lt (Nat.mul_le_mul (show x ≤ 65535 by omega) (show y ≤ 65535 by omega)) (by decide)
  refine callP_same _ (fun K' hk => ?_) H
  unfold F.math_bits_Mul
  refine callP_same (0, ((x * y : Nat) : Int)) (fun K2 hk2 => ?_) hk
  unfold F.math_bits_Mul64
  refine ⟨by decide, by decide, by decide, by decide, by decide, ?_⟩
  have ex : ((x : Nat) : Int).fdiv (2 ^ (min (32 : Int).toNat IntKind.u64.bits)) = 0 := qshr32 (by omega)
  have ey : ((y : Nat) : Int).fdiv (2 ^ (min (32 : Int).toNat IntKind.u64.bits)) = 0 := qshr32 (by omega)
  have exy : (((x * y : Nat)) : Int).fdiv (2 ^ (min (32 : Int).toNat IntKind.u64.bits)) = 0 := qshr32 hxy
  have e0 : ((0 : Nat) : Int).fdiv (2 ^ (min (32 : Int).toNat IntKind.u64.bits)) = 0 := qshr32 (by decide)
  have ax := and32 (x := x) (by omega)
  have ay := and32 (x := y) (by omega)
  have a0 := and32 (x := 0) (by decide)
  have w0 : IntKind.u64.wrap 0 = 0 := by decide
  have em : ((x : Nat) : Int) * ((y : Nat) : Int) = ((x * y : Nat) : Int) := (Int.natCast_mul x y).symm
  have wm : IntKind.u64.wrap ((x * y : Nat) : Int) = ((x * y : Nat) : Int) := wu64 (by omega)
  have c0 : ((0 : Nat) : Int) = 0 := rfl
  rw [c0] at e0 a0
  simp only [ex, ey, ax, ay, em, wm, exy, Int.zero_mul, Int.mul_zero, Int.add_zero, w0, e0, a0]
  exact hk2

/-- The number whose cells are all zero. -/
def zT : TRat := ⟨⟨false, nilS⟩, ⟨false, nilS⟩⟩
theorem repl_qc {n : Nat} : repl n (qc zT) = (List.replicate n zT).flatMap qc := by
  unfold repl
  induction n with
  | zero => rfl
  | succ n ih => rw [List.replicate_succ, List.replicate_succ, List.flatten_cons, List.flatMap_cons, ih]
section
variable {D h : Hp} {n : Nat} {x y : Sl} {cs vs : List Value}
theorem qsplice_nil {off : Nat} : splice cs off [] = cs := by unfold splice; simp
theorem stO_own {off : Nat} {K : Hp → Prop} (ho : Own D h n x cs) (hoff : off + vs.length ≤ cs.length) (hleaf : vs.all Value.leaf = true) (H : ∀ h', Own D h' n x (splice cs off vs) → K h') : stO x.a off vs K h := by
  obtain ⟨h1, h2, h3, h4⟩ := ho
  cases ha : x.a with
  | none =>
    rw [ha] at h4
    simp only at h4
    have : cs.length = 0 := by rw [← h2, show x.len = 0 by omega, Nat.zero_mul]
    have hv : vs = [] := List.eq_nil_of_length_eq_zero (by omega)
    subst hv
    rw [qsplice_nil] at H
    exact H _ ⟨h1, h2, h3, by rw [ha]; exact h4⟩
  | some a =>
    rw [ha] at h4
    obtain ⟨g1, g2, g3, b, g4, g5, g6, g7⟩ := h4
    have e2 : cs.length ≤ b.cells.length := by rw [g6, ← h2]; exact Nat.mul_le_mul_right _ h3
    refine ⟨b, by rw [add_block]; exact g4, add_spot g2 _, g5, by rw [add_off]; omega, hleaf, ?_⟩
    rw [add_block, add_off, g1, Nat.zero_add]
    refine H _ ⟨?_, ?_, h3, ?_⟩
    · intro kk bk hkk
      rw [Hp.ins_ne (fun hh => by subst hh; rw [g3] at hkk; cases hkk)]
      exact h1 kk bk hkk
    · rw [splice_len hoff]; exact h2
    · rw [ha]
      refine ⟨g1, g2, g3, _, Hp.ins_same _ _ _, g5, ?_, ?_⟩
      · show (splice b.cells off vs).length = _
        rw [splice_len (by omega)]; exact g6
      · show (splice b.cells off vs).take _ = _
        rw [splice_len hoff]
        exact splice_take hoff g7
theorem stO_cut {k e : Nat} {K : Hp → Prop} (hk : k < x.cap) (H : stO x.a (k * n) vs K h) : stO (x.cut k e n).a 0 vs K h := by
  have : (x.cut k e n).a = x.a.map (·.add (k * n)) := by show (if x.cap = k then _ else _) = _; rw [if_neg (by omega)]
  rw [this]
  cases ha : x.a with
  | none => rw [ha] at H; exact H
  | some a =>
    rw [ha] at H
    simp only [Option.map_some]
    show stP ((a.add (k * n)).add 0) vs K h
    rw [addr_add_zero]
    exact H
theorem own_read (ho : Own D h n x cs) {j : Nat} (hj : j ≤ cs.length) : cellsAtO h x.a j = some (cs.take j) := by
  have h1 := ho.rd.2
  cases ha : x.a with
  | some a => rw [ha] at h1; exact cellsAt_prefix h1 hj
  | none =>
    rw [ha] at h1
    simp only [cellsAtO] at h1 ⊢
    split at h1
    · rename_i h5
      simp only [Option.some.injEq] at h1
      have : j = 0 := by omega
      subst this
      simp
    · cases h1
end

theorem splice_mid {A B vs : List Value} (h : vs.length ≤ B.length) : splice (A ++ B) A.length vs = A ++ vs ++ B.drop vs.length := by
  unfold splice
  rw [List.take_left, List.drop_append]
  simp [List.append_assoc]
theorem repeat_call {h : Hp} {x : Sl} {z : TRat} {n : Nat} {K : Sl → Hp → Prop} (hr : RdQ h x [z]) (hn : n < 65536) (H : ∀ y h', Own h h' 4 y ((List.replicate n z).flatMap qc) → K y h') :
    callP (F.slices_Repeat_api_Rat_api_Rat x (n : Int)) K h := by
  refine callP_of (fun y h' => Own h h' 4 y ((List.replicate n z).flatMap qc)) (fun K' hk => ?_) fun y h' _ hy => H y h' hy
  unfold F.slices_Repeat_api_Rat_api_Rat
  have hxl : x.len = 1 := RdQ.len hr
  refine joinP_of (ifP_false (decide_eq_false (by omega)) ?_)
  have e1 : IntKind.u64.wrap ((x.len : Int)) = ((1 : Nat) : Int) := by rw [hxl, wu64 (by decide)]
  have e2 : IntKind.u64.wrap ((n : Int)) = (n : Int) := wu64 (by omega)
  rw [e1, e2]
  refine bitsMul_call (by decide) hn ?_
  have e3 : ((1 * n : Nat) : Int) = (n : Int) := by rw [Nat.one_mul]
  rw [e3]
  refine joinP_of (ifP_false (decide_eq_false (by simp only; omega)) (ifP_false (decide_eq_false (by simp only; omega)) ?_))
  have e4 : IntKind.i64.wrap (((0 : Int), (n : Int)).2) = (n : Int) := w64 (by simp only; omega)
  rw [e4]
  refine mk_own (size := 4) n n rfl rfl (Nat.le_refl _) (by omega) (by omega) rfl fun m h1 ml mc ho => ?_
  have hz : repl n [Value.bool false, .slice nilS.a nilS.len nilS.cap, .bool false, .slice nilS.a nilS.len nilS.cap] = (List.replicate n zT).flatMap qc := repl_qc
  rw [hz] at ho
  have qlen : ∀ j (u : TRat), ((List.replicate j u).flatMap qc).length = j * 4 := fun j u => by rw [flat_len qc_len, List.length_replicate]
  have qleaf : ∀ j (u : TRat), ((List.replicate j u).flatMap qc).all Value.leaf = true := fun j u => by
    rw [List.all_flatMap, List.all_eq_true]; intro x _; exact qc_leaf x
  have qtake : ∀ i j (u : TRat), ((List.replicate i u).flatMap qc).take (j * 4) = (List.replicate (min j i) u).flatMap qc := fun i j u => by
    rw [flat_take qc_len, List.take_replicate]
  have qdrop : ∀ i j (u : TRat), ((List.replicate i u).flatMap qc).drop (j * 4) = (List.replicate (i - j) u).flatMap qc := fun i j u => by
    rcases Nat.le_total i j with h1 | h1
    · rw [List.drop_of_length_le (by rw [qlen]; omega), show i - j = 0 by omega]; rfl
    · have : i = j + (i - j) := by omega
      conv => lhs; rw [this, ← List.replicate_append_replicate, List.flatMap_append]
      rw [List.drop_append_of_le_length (by rw [qlen]; omega), List.drop_of_length_le (by rw [qlen]; omega), List.nil_append]
  have qapp : ∀ i j (u : TRat), (List.replicate i u).flatMap qc ++ (List.replicate j u).flatMap qc = (List.replicate (i + j) u).flatMap qc := fun i j u => by
    rw [← List.flatMap_append, List.replicate_append_replicate]
  -- the first one
  have hmin1 : Nat.min x.len m.len = min 1 n := by rw [hxl, ml]
  refine ⟨(List.replicate (min 1 n) z).flatMap qc, ?_, ?_⟩
  · rw [hmin1]
    have hx2 : cellsAtO h1 x.a 4 = some (qc z) := by
      have := cellsAtO_le ho.1 hr.2
      simpa [qc_len] using this
    rcases Nat.eq_zero_or_pos n with h0 | h0
    · subst h0
      simp only [Nat.min_zero, Nat.zero_mul, List.replicate_zero, List.flatMap_nil]
      cases x.a <;> simp [cellsAtO, cellsAt]
    · have : min 1 n = 1 := by omega
      rw [this]
      simpa using hx2
  refine stO_own ho (by rw [qlen, qlen]; omega) (qleaf _ _) fun h2 ho2 => ?_
  have hfirst : splice ((List.replicate n zT).flatMap qc) 0 ((List.replicate (min 1 n) z).flatMap qc) = (List.replicate (min 1 n) z).flatMap qc ++ (List.replicate (n - min 1 n) zT).flatMap qc := by
    have := splice_mid (A := []) (B := (List.replicate n zT).flatMap qc) (vs := (List.replicate (min 1 n) z).flatMap qc) (by rw [qlen, qlen]; omega)
    simp only [List.nil_append, List.length_nil] at this
    rw [this, qlen, qdrop]
  rw [hfirst] at ho2
  rw [hmin1]
  refine loopP_of (fun st h' => ∃ k : Nat, st.1 = (k : Int) ∧ k ≤ n ∧ (k = 0 → n = 0) ∧ Own h h' 4 m ((List.replicate k z).flatMap qc ++ (List.replicate (n - k) zT).flatMap qc)) (fun st => ((n : Int) - st.1).toNat)
    ⟨min 1 n, rfl, by omega, by omega, ho2⟩ ?_
  rintro ⟨_, _⟩ h3 ⟨k, hk1, hk2, hk3, ho3⟩
  simp only at hk1
  subst hk1
  refine ifP_dec (fun h4 => ?_) (fun h4 => ?_)
  · simp only [ml] at h4
    have hkn : k < n := by omega
    refine slQ_of k n rfl (by rw [ml]) hk2 (by omega) (slQ_of 0 k rfl rfl (Nat.zero_le _) (by omega) ?_)
    obtain ⟨c1, c2, c3⟩ := cut0 m k 4 (by omega)
    have hcl : (m.cut k n 4).len = n - k := rfl
    have hmin2 : Nat.min (m.cut 0 k 4).len (m.cut k n 4).len = min k (n - k) := by rw [c1, hcl]
    refine ⟨(List.replicate (min k (n - k)) z).flatMap qc, ?_, ?_⟩
    · rw [hmin2, c3, own_read ho3 (by rw [List.length_append, qlen, qlen]; omega), List.take_append_of_le_length (by rw [qlen]; omega), qtake, show min (min k (n - k)) k = min k (n - k) by omega]
    · rw [hmin2]
      refine stO_cut (by omega) (stO_own ho3 (by rw [List.length_append, qlen, qlen, qlen]; omega) (qleaf _ _) fun h5 ho5 => ?_)
      have hs := splice_mid (A := (List.replicate k z).flatMap qc) (B := (List.replicate (n - k) zT).flatMap qc) (vs := (List.replicate (min k (n - k)) z).flatMap qc) (by rw [qlen, qlen]; omega)
      rw [qlen, qlen, qdrop, qapp] at hs
      rw [hs, show n - k - min k (n - k) = n - (k + min k (n - k)) by omega] at ho5
      have e5 : IntKind.i64.wrap ((k : Int) + ((min k (n - k) : Nat) : Int)) = ((k + min k (n - k) : Nat) : Int) := by rw [w64 (by omega)]; omega
      exact ⟨⟨k + min k (n - k), e5, by omega, by omega, ho5⟩, by simp only; rw [e5]; omega⟩
  · simp only [ml] at h4
    have hkn : k = n := by omega
    subst hkn
    rw [Nat.sub_self, List.replicate_zero, List.flatMap_nil, List.append_nil] at ho3
    exact hk _ _ ho3.1 ho3
end Den
end

section
/-
  Polynomials: zeros, sums, multiples, products (program), continued.
-/
set_option linter.unusedVariables false
namespace Den
open Go Iv Pq
section
variable {h : Hp} {A B : Nat} {l m : Sl} {p q : List Rat} {K : Sl → Hp → Prop} {KR : TRat → Hp → Prop} {Kb : Bool → Hp → Prop} {c : Rat} {x : TRat}

theorem zeros_call {n : Nat} (hn : n < 65536) (H : ∀ y h', OL h h' 1 y (List.replicate n 0) → K y h') : callP (F.polynomial_zeros (n : Int)) K h := by
  refine callP_of (fun y h' => OL h h' 1 y (List.replicate n 0)) (fun K' hk => ?_) fun y h' _ hy => H y h' hy
  unfold F.polynomial_zeros
  refine qFromInt_call (by decide) (by decide) fun z h1 hl1 hz => ?_
  refine new_rats (xs := [z]) 1 rfl fun a h2 hl2 ha => ?_
  refine repeat_call ha hn fun y h3 hy => ?_
  refine hk _ _ (Hp.le_trans hl1 (Hp.le_trans hl2 hy.1)) ⟨h2, Hp.le_trans hl1 hl2, _, hy, ?_⟩
  refine ⟨by simp, fun k h4 h5 => ?_⟩
  rw [List.getElem_replicate, List.getElem_replicate]
  exact ⟨(hz.le hl2 : NR h2 z 0), BR_zero⟩
theorem pScale_call (hp : PL h A l p) (hx : NR h x c) (bc : BR B c) (hlen : p.length ≤ 1000000) (hA : A ≤ 400000) (hB : B ≤ 400000) (H : ∀ y h', OL h h' (A + B) y (trim (p.map (c * ·))) → K y h') : callP (F.polynomial_Scale l x) K h := by
  refine callP_of (fun y h' => OL h h' (A + B) y (trim (p.map (c * ·)))) (fun K' hk => ?_) fun y h' _ hy => H y h' hy
  unfold F.polynomial_Scale
  have hl := hp.len
  refine mk_own (size := 4) p.length p.length (by rw [hl]) (by rw [hl]) (Nat.le_refl _) (by omega) (by omega) rfl fun m h1 ml mc ho => ?_
  have hz : repl p.length [Value.bool false, .slice nilS.a nilS.len nilS.cap, .bool false, .slice nilS.a nilS.len nilS.cap] = (List.replicate p.length zT).flatMap qc := repl_qc
  rw [hz] at ho
  refine loopP_of (fun st h' => ∃ D, h.le D ∧ ∃ i : Nat, st.1 = (i : Int) ∧ i ≤ p.length ∧ ∃ xs : List TRat, xs.length = p.length ∧ Own D h' 4 m (xs.flatMap qc) ∧ QL D (A + B) (xs.take i) ((p.take i).map (c * ·))) (fun st => (p.length - st.1).toNat)
    ⟨h, Hp.le_refl _, 0, rfl, Nat.zero_le _, List.replicate p.length zT, by simp, ho, ⟨rfl, fun k h1 _ => by simp at h1⟩⟩ ?_
  rintro ⟨_, _⟩ h2 ⟨D, hD, i, hi, hi2, xs, hxs, ho2, hq⟩
  simp only at hi
  subst hi
  refine ifP_dec (fun h3 => ?_) (fun h3 => ?_)
  · simp only at h3
    have hi' : i < p.length := by omega
    refine hp.getle i (Hp.le_trans hD ho2.1) rfl hi' fun y hy by_ => ?_
    refine ho2.call (K1 := fun z D' => NR D' z (p[i] * c)) (qMul_call (hy.le hD) (hx.le hD) by_ bc hA hB fun z D' hl' hz => hz) fun z D' h3 hl' ho' hz => ?_
    refine set_own qc_len (by decide) (x := z) i ho' rfl (by omega) (qc_leaf z) fun h4 ho4 _ => ⟨⟨D', Hp.le_trans hD hl', i + 1, ?_, hi', xs.set i z, by simpa using hxs, ho4, ?_⟩, ?_⟩
    · simp only; rw [w64 (by omega)]; rfl
    · have e1 : (xs.set i z).take (i + 1) = xs.take i ++ [z] := by
        rw [List.take_succ_eq_append_getElem (by simp; omega), List.take_set_of_le (Nat.le_refl _)]
        simp
      have e2 : (p.take (i + 1)).map (c * ·) = (p.take i).map (c * ·) ++ [p[i] * c] := by
        rw [List.take_succ_eq_append_getElem hi', List.map_append]
        simp only [List.map_cons, List.map_nil]
        rw [Rat.mul_comm]
      rw [e1, e2]
      exact QL.snoc (hq.le hl') hz (by_.mul bc)
    · simp only; rw [w64 (by omega)]; omega
  · simp only at h3
    have hi' : i = p.length := by omega
    subst hi'
    rw [List.take_length, ← hxs, List.take_length] at hq
    have hod : OD D h2 (A + B) m (p.map (c * ·)) := ⟨xs, ho2, hq⟩
    refine pTrim_call hod.pl (by simpa using hlen) (by omega) fun y h' hy => hk _ _ (Hp.le_trans hD (Hp.le_trans ho2.1 hy.hle)) (hy.base (Hp.le_trans hD ho2.1))
theorem OD.cp {D h : Hp} {Kn : Nat → Hp → Prop} (ho : OD D h B l q) (hp : PL D A m p) (hAB : A ≤ B) (hlen : p.length ≤ q.length) (H : ∀ h', OD D h' B l (p ++ q.drop p.length) → Kn p.length h') : cpP 4 l m Kn h := by
  have hl := ho.len
  have hml := hp.len
  obtain ⟨ys, h1, h2⟩ := ho
  obtain ⟨xs, g1, g2, g3⟩ := hp
  have hmin : Nat.min m.len l.len = p.length := by rw [hml, hl]; exact Nat.min_eq_left hlen
  have hx := g2.1
  have hy := h2.1
  refine ⟨xs.flatMap qc, ?_, ?_⟩
  · rw [hmin]
    have := cellsAtO_le h1.1 g1.2
    rw [flat_len qc_len, hx] at this
    exact this
  · rw [hmin]
    refine stO_own h1 (by rw [flat_len qc_len, flat_len qc_len]; omega) ?_ fun h' ho' => H h' ⟨xs ++ ys.drop xs.length, ?_, ?_⟩
    · rw [List.all_flatMap, List.all_eq_true]; intro x _; exact qc_leaf x
    · have e := splice_mid (A := []) (B := ys.flatMap qc) (vs := xs.flatMap qc) (by rw [flat_len qc_len, flat_len qc_len]; omega)
      simp only [List.nil_append, List.length_nil] at e
      rw [e] at ho'
      have e2 : (ys.flatMap qc).drop (xs.flatMap qc).length = (ys.drop xs.length).flatMap qc := by
        rw [flat_len qc_len]
        conv => lhs; rw [← List.take_append_drop xs.length ys, List.flatMap_append]
        rw [List.drop_append_of_le_length (by rw [flat_len qc_len, List.length_take]; omega), List.drop_of_length_le (by rw [flat_len qc_len, List.length_take]; omega), List.nil_append]
      rw [e2, ← List.flatMap_append] at ho'
      exact ho'
    · refine ⟨by simp [hx, hy], fun k k1 k2 => ?_⟩
      rcases Nat.lt_or_ge k xs.length with h3 | h3
      · rw [List.getElem_append_left h3, List.getElem_append_left (by omega)]
        have := g2.2 k h3 (by omega)
        exact ⟨this.1, this.2.mono hAB⟩
      · rw [List.getElem_append_right h3, List.getElem_append_right (by omega)]
        rw [List.getElem_drop, List.getElem_drop]
        have := h2.2 (xs.length + (k - xs.length)) (by simp at k1; omega) (by simp at k1; omega)
        simpa [hx] using this
theorem maxI_nat {a b : Nat} : maxI (a : Int) (b : Int) = ((max a b : Nat) : Int) := by
  unfold maxI
  split <;> omega
theorem pAdd_call (hp : PL h A l p) (hq : PL h B m q) (hlen : p.length ≤ 10000) (hlen2 : q.length ≤ 10000) {C : Nat} (hA : A ≤ C) (hB : 1 ≤ B ∧ B ≤ 400000) (hC : ∀ i, BR C (co p i + co q i)) (hC2 : 1 ≤ C ∧ C ≤ 400000)
    (H : ∀ y h', OL h h' C y (trim (addL p q)) → K y h') : callP (F.polynomial_Add l m) K h := by
  refine callP_of (fun y h' => OL h h' C y (trim (addL p q))) (fun K' hk => ?_) fun y h' _ hy => H y h' hy
  unfold F.polynomial_Add
  have hl := hp.len
  have hl2 := hq.len
  rw [hl, hl2, maxI_nat]
  refine zeros_call (by omega) fun r h1 hr => ?_
  obtain ⟨D0, hD0, ho0⟩ := hr
  have hrl := ho0.len
  rw [List.length_replicate] at hrl
  refine (ho0.mono hC2.1).cp (hp.le hD0) hA (by simp; omega) fun h2 ho2 => ?_
  refine loopP_of (fun st h' => ∃ D, h.le D ∧ ∃ i : Nat, st.1 = (i : Int) ∧ i ≤ q.length ∧ ∃ s, s.length = max p.length q.length ∧ OD D h' C r s ∧ ∀ j, co s j = if j < i then co p j + co q j else co p j) (fun st => (q.length - st.1).toNat)
    ⟨D0, hD0, 0, rfl, Nat.zero_le _, _, by simp; omega, ho2, fun j => ?_⟩ ?_
  · rw [if_neg (by omega), co_append]
    split
    · rfl
    · rw [List.drop_replicate, co_replicate, co_ge (by omega)]
  rintro ⟨_, _⟩ h3 ⟨D, hD, i, hi, hi2, s, hs, ho, cs⟩
  simp only at hi
  subst hi
  refine ifP_dec (fun h4 => ?_) (fun h4 => ?_)
  · simp only at h4
    have hi' : i < q.length := by omega
    refine hq.getle i (Hp.le_trans hD ho.dle) rfl hi' fun y hy by_ => ?_
    refine ho.get i rfl (by omega) fun u hu bu => ?_
    refine ho.call (K1 := fun z D' => NR D' z (s[i]'(by omega) + q[i])) (qAdd_call hu (hy.le hD) bu by_ hC2.2 hB.2 fun z D' hl' hz => hz) fun z D' h5 hl' ho' hz => ?_
    have e0 : s[i]'(by omega) = co p i := by rw [← co_lt (show i < s.length by omega), cs, if_neg (by omega)]
    have e1 : q[i] = co q i := (co_lt hi').symm
    rw [e0, e1] at hz
    refine ho'.set i rfl (by omega) hz (hC i) fun h6 ho6 _ => ⟨⟨D', Hp.le_trans hD hl', i + 1, ?_, hi', _, by simpa using hs, ho6, fun j => ?_⟩, ?_⟩
    · simp only; rw [w64 (by omega)]; rfl
    · rw [co_set (by omega), cs]
      by_cases hj : j = i
      · subst hj; rw [if_pos rfl, if_pos (by omega)]
      · rw [if_neg hj]
        by_cases hj2 : j < i
        · rw [if_pos hj2, if_pos (by omega)]
        · rw [if_neg hj2, if_neg (by omega)]
    · simp only; rw [w64 (by omega)]; omega
  · simp only at h4
    have hi' : i = q.length := by omega
    subst hi'
    refine pTrim_call ho.pl (by omega) (by omega) fun y h' hy => ?_
    have e : trim s = trim (addL p q) := trim_eq fun j => by
      rw [cs, co_addL]
      split
      · rfl
      · rw [co_ge (p := q) (by omega)]; exact (Rat.add_zero _).symm
    rw [e] at hy
    exact hk _ _ (Hp.le_trans hD (Hp.le_trans ho.dle hy.hle)) (hy.base (Hp.le_trans hD ho.dle))
theorem pSub_call (hp : PL h A l p) (hq : PL h B m q) (hlen : p.length ≤ 10000) (hlen2 : q.length ≤ 10000) {C : Nat} (hA : A ≤ C) (hB : 1 ≤ B ∧ B ≤ 300000) (hC : ∀ i, BR C (co p i - co q i)) (hC2 : 1 ≤ C ∧ C ≤ 400000)
    (H : ∀ y h', OL h h' C y (trim (addL p (negL q))) → K y h') : callP (F.polynomial_Sub l m) K h := by
  refine callP_of (fun y h' => OL h h' C y (trim (addL p (negL q)))) (fun K' hk => ?_) fun y h' _ hy => H y h' hy
  unfold F.polynomial_Sub
  refine qFromInt_call (by decide) (by decide) fun z h1 hl1 hz => ?_
  refine pScale_call (hq.le hl1) hz BR_m1 (by omega) (by omega) (by omega) fun y h2 hy => ?_
  have ht := trim_len (p := q.map ((((-1 : Int) : Rat)) * ·))
  rw [List.length_map] at ht
  have hl2 := Hp.le_trans hl1 hy.hle
  refine pAdd_call (hp.le hl2) hy.pl hlen (by omega) hA (by omega) (fun i => ?_) hC2 fun w h3 hw => ?_
  · rw [co_trim]
    have := hC i
    have e : co p i + co (q.map ((((-1 : Int) : Rat)) * ·)) i = co p i - co q i := by
      have := co_negL (q := q) (i := i)
      unfold negL at this
      rw [this]; grind
    rw [e]; exact this
  · rw [trim_addL] at hw
    exact hk _ _ (Hp.le_trans hl2 hw.hle) (hw.base hl2)
end
end Den
end
