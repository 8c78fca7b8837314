/-
  Part 6 of the tools and contracts from which the statement is proved.
-/
import Derived.Test.YtlddjhibbccljaaGreatPartr5
set_option linter.unusedVariables false
section
set_option linter.unusedVariables false
namespace Den
open Go Iv Pq
/-- The number of changes of sign in a list, behind a sign. -/
def vr : Int → List Rat → Nat
  | _, [] => 0
  | s, v :: r => if v.num.sign = 0 then vr s r else (if s = -v.num.sign then 1 else 0) + vr v.num.sign r
theorem vr_cons (s : Int) (v : Rat) (r : List Rat) : vr s (v :: r) = if v.num.sign = 0 then vr s r else (if s = -v.num.sign then 1 else 0) + vr v.num.sign r := rfl
theorem chF_vr (c : Rat) : ∀ (ps : List (List Rat)) (n : Nat) (s : Int), (ps.foldl (fun st p => chS st (ev p c)) (n, s)).1 = n + vr s (ps.map fun p => ev p c)
  | [], n, s => rfl
  | p :: r, n, s => by
    simp only [List.foldl_cons, List.map_cons]
    rw [vr_cons]
    by_cases h0 : (ev p c).num.sign = 0
    · have e : chS (n, s) (ev p c) = (n, s) := by unfold chS; rw [if_pos h0]
      rw [e, if_pos h0]
      exact chF_vr c r n s
    · rw [if_neg h0]
      by_cases h1 : s = -(ev p c).num.sign
      · have e : chS (n, s) (ev p c) = (n + 1, (ev p c).num.sign) := by unfold chS; rw [if_neg h0, if_pos h1]
        rw [e, if_pos h1, chF_vr c r]; omega
      · have e : chS (n, s) (ev p c) = (n, (ev p c).num.sign) := by unfold chS; rw [if_neg h0, if_neg h1]
        rw [e, if_neg h1, chF_vr c r]; omega
theorem chN_vr {ps : List (List Rat)} {c : Rat} : chN ps c = vr 0 (ps.map fun p => ev p c) := by
  unfold chN chF
  rw [chF_vr]; omega
theorem rle {a b : Rat} (h : a ≤ b) : a < b ∨ a = b := by
  by_cases h1 : a < b
  · exact .inl h1
  · exact .inr (Rat.le_antisymm h (Rat.not_lt.1 h1))
theorem tri (a b : Rat) : a < b ∨ a = b ∨ b < a := by
  by_cases h : a < b
  · exact .inl h
  · rcases rle (Rat.not_lt.1 h) with h1 | h1
    · exact .inr (.inr h1)
    · exact .inr (.inl h1.symm)
theorem sg_pos {v : Rat} : v.num.sign = 1 ↔ 0 < v := by
  rw [Int.sign_eq_one_iff_pos]
  have := num_lt (q := -v)
  rw [Rat.neg_num] at this
  constructor
  · intro h; have := this.1 (by omega); grind
  · intro h; have := this.2 (by grind); omega
theorem sg_neg {v : Rat} : v.num.sign = -1 ↔ v < 0 := by
  rw [Int.sign_eq_neg_one_iff_neg]
  exact num_lt
theorem sg_zero {v : Rat} : v.num.sign = 0 ↔ v = 0 := by
  rw [Int.sign_eq_zero_iff_zero]
  exact Rat.num_eq_zero
theorem sg_cases (v : Rat) : (v.num.sign = 1 ∧ 0 < v) ∨ (v.num.sign = 0 ∧ v = 0) ∨ (v.num.sign = -1 ∧ v < 0) := by
  rcases tri v 0 with h | h | h
  · exact .inr (.inr ⟨sg_neg.2 h, h⟩)
  · exact .inr (.inl ⟨sg_zero.2 h, h⟩)
  · exact .inl ⟨sg_pos.2 h, h⟩
theorem mul_pos_cases {a b : Rat} : 0 < a * b → (0 < a ∧ 0 < b) ∨ (a < 0 ∧ b < 0) := fun h => by
  rcases tri a 0 with h1 | h1 | h1
  · right
    refine ⟨h1, Rat.not_le.1 fun h2 => ?_⟩
    have := Rat.mul_nonneg (a := -a) (b := b) (by grind) h2
    grind
  · rw [h1, Rat.zero_mul] at h; exact absurd h (Rat.lt_irrefl)
  · left
    refine ⟨h1, Rat.not_le.1 fun h2 => ?_⟩
    have := Rat.mul_nonneg (a := a) (b := -b) (by grind) (by grind)
    grind
theorem mul_neg_cases {a b : Rat} (h : a * b < 0) : (0 < a ∧ b < 0) ∨ (a < 0 ∧ 0 < b) := by
  have h2 : 0 < a * (-b) := by grind
  rcases mul_pos_cases h2 with ⟨h3, h4⟩ | ⟨h3, h4⟩
  · exact .inl ⟨h3, by grind⟩
  · exact .inr ⟨h3, by grind⟩
/-- Values at two points: each one behind the first has the same sign at both, or its neighbours have opposite signs at both. -/
def Cl : List (Rat × Rat) → Prop
  | [] => True
  | [_] => True
  | [_, b] => 0 < b.1 * b.2
  | a :: b :: c :: r => (0 < b.1 * b.2 ∨ (a.1 * c.1 < 0 ∧ a.2 * c.2 < 0)) ∧ Cl (b :: c :: r)
theorem sgn_same {a : Rat × Rat} (h : 0 < a.1 * a.2) : a.1.num.sign = a.2.num.sign ∧ a.1.num.sign ≠ 0 := by
  rcases mul_pos_cases h with ⟨h1, h2⟩ | ⟨h1, h2⟩
  · rw [sg_pos.2 h1, sg_pos.2 h2]; decide
  · rw [sg_neg.2 h1, sg_neg.2 h2]; decide
theorem vr_opp {a b c : Rat} {r : List Rat} (h : a * c < 0) : vr a.num.sign (b :: c :: r) = 1 + vr c.num.sign r := by
  rcases mul_neg_cases h with ⟨h1, h2⟩ | ⟨h1, h2⟩
  · rw [sg_pos.2 h1, vr_cons, vr_cons, vr_cons, sg_neg.2 h2]
    rcases sg_cases b with ⟨hb, _⟩ | ⟨hb, _⟩ | ⟨hb, _⟩ <;> rw [hb] <;> simp
  · rw [sg_neg.2 h1, vr_cons, vr_cons, vr_cons, sg_pos.2 h2]
    rcases sg_cases b with ⟨hb, _⟩ | ⟨hb, _⟩ | ⟨hb, _⟩ <;> rw [hb] <;> simp
theorem vr_cell : ∀ (n : Nat) (a : Rat × Rat) (L : List (Rat × Rat)), L.length < n → 0 < a.1 * a.2 → Cl (a :: L) → vr a.1.num.sign (L.map (·.1)) = vr a.2.num.sign (L.map (·.2))
  | n + 1, a, [], hn, ha, hc => rfl
  | n + 1, a, [b], hn, ha, hc => by
    have hb : 0 < b.1 * b.2 := hc
    have s1 := sgn_same ha
    have s2 := sgn_same hb
    simp only [List.map_cons, List.map_nil]
    rw [vr_cons, vr_cons, ← s1.1, ← s2.1]
  | n + 1, a, b :: c :: r, hn, ha, hc => by
    obtain ⟨h1, h2⟩ := hc
    have s1 := sgn_same ha
    simp only [List.length_cons] at hn
    rcases h1 with hb | ⟨hx, hy⟩
    · have s2 := sgn_same hb
      have ih := vr_cell n b (c :: r) (by simp only [List.length_cons]; omega) hb h2
      simp only [List.map_cons]
      simp only [List.map_cons] at ih
      rw [vr_cons (r := c.1 :: r.map (·.1)), vr_cons (r := c.2 :: r.map (·.2)), ← s1.1, ih, ← s2.1, if_neg s2.2, if_neg s2.2]
    · simp only [List.map_cons]
      rw [vr_opp hx, vr_opp hy]
      have hcc : 0 < c.1 * c.2 := by
        rcases mul_pos_cases ha with ⟨h3, h4⟩ | ⟨h3, h4⟩ <;> rcases mul_neg_cases hx with ⟨h5, h6⟩ | ⟨h5, h6⟩ <;> rcases mul_neg_cases hy with ⟨h7, h8⟩ | ⟨h7, h8⟩ <;> first | (exfalso; grind) | skip
        · have := Rat.mul_pos (a := -c.1) (b := -c.2) (by grind) (by grind); grind
        · exact Rat.mul_pos h6 h8
      have hc2 : Cl (c :: r) := by
        cases r with
        | nil => trivial
        | cons e r => exact h2.2
      rw [vr_cell n c r (by omega) hcc hc2]
/-- What the changes lose from one point to the next. -/
theorem vr_step {p0 p1 : Rat × Rat} {L : List (Rat × Rat)} (hc : Cl (p0 :: p1 :: L)) (hf : 0 < p0.1 * p0.2 ∨ (0 < p1.1 ∧ 0 < p1.2 ∧ p0.1 < p0.2) ∨ (p1.1 < 0 ∧ p1.2 < 0 ∧ p0.2 < p0.1)) :
    vr 0 ((p0 :: p1 :: L).map (·.1)) = vr 0 ((p0 :: p1 :: L).map (·.2)) + (if p0.1 ≠ 0 ∧ p0.1 * p0.2 ≤ 0 then 1 else 0) := by
  by_cases hp : 0 < p0.1 * p0.2
  · rw [if_neg (by rintro ⟨_, h⟩; exact absurd hp (Rat.not_lt.2 h))]
    have s0 := sgn_same hp
    have := vr_cell _ p0 (p1 :: L) (Nat.lt_succ_self _) hp hc
    simp only [List.map_cons] at this ⊢
    rw [vr_cons 0 p0.1, vr_cons 0 p0.2, ← s0.1, if_neg s0.2, if_neg s0.2, this, ← s0.1]
    rfl
  · have hp1 : 0 < p1.1 * p1.2 := by
      rcases hf with h | ⟨h1, h2, _⟩ | ⟨h1, h2, _⟩
      · exact absurd h hp
      · exact Rat.mul_pos h1 h2
      · have := Rat.mul_pos (a := -p1.1) (b := -p1.2) (by grind) (by grind); grind
    have hc2 : Cl (p1 :: L) := by
      cases L with
      | nil => trivial
      | cons e r => exact hc.2
    have ht := vr_cell _ p1 L (Nat.lt_succ_self _) hp1 hc2
    have s1 := sgn_same hp1
    have hle : p0.1 * p0.2 ≤ 0 := Rat.not_lt.1 hp
    simp only [List.map_cons]
    -- both values with their signs
    have key : ∀ (v w : Rat) (l : List Rat), vr 0 (v :: w :: l) = (if v.num.sign = 0 then vr 0 (w :: l) else vr v.num.sign (w :: l)) := fun v w l => by
      rw [vr_cons]
      split
      · rfl
      · rename_i hh
        rw [if_neg (by omega), Nat.zero_add]
    have k2 : ∀ (s : Int) (w : Rat) (l : List Rat), w.num.sign ≠ 0 → vr s (w :: l) = (if s = -w.num.sign then 1 else 0) + vr w.num.sign l := fun s w l hw => by
      rw [vr_cons, if_neg hw]
    have s2 : p1.2.num.sign ≠ 0 := by rw [← s1.1]; exact s1.2
    rw [key, key, k2 _ _ _ s1.2, k2 _ _ _ s2, k2 _ _ _ s1.2, k2 _ _ _ s2, ht, ← s1.1]
    have hJ : (if p0.1 ≠ 0 ∧ p0.1 * p0.2 ≤ 0 then 1 else 0) = (if p0.1.num.sign = 0 then 0 else 1) := by
      by_cases h0 : p0.1 = 0
      · rw [if_neg (fun hh => hh.1 h0), if_pos (sg_zero.2 h0)]
      · rw [if_pos ⟨h0, hle⟩, if_neg (fun hh => h0 (sg_zero.1 hh))]
    rw [hJ]
    rcases hf with h | ⟨h1, h2, h3⟩ | ⟨h1, h2, h3⟩
    · exact absurd h hp
    · rw [sg_pos.2 h1]
      rcases sg_cases p0.1 with ⟨ha, ha'⟩ | ⟨ha, ha'⟩ | ⟨ha, ha'⟩ <;> rcases sg_cases p0.2 with ⟨hb, hb'⟩ | ⟨hb, hb'⟩ | ⟨hb, hb'⟩ <;> rw [ha, hb] <;> first | (exfalso; grind; done) | (exfalso; have := Rat.mul_pos ha' hb'; grind; done) | (exfalso; have := Rat.mul_pos (a := -p0.1) (b := -p0.2) (by grind) (by grind); grind; done) | (simp; done) | (simp; omega)
    · rw [sg_neg.2 h1]
      rcases sg_cases p0.1 with ⟨ha, ha'⟩ | ⟨ha, ha'⟩ | ⟨ha, ha'⟩ <;> rcases sg_cases p0.2 with ⟨hb, hb'⟩ | ⟨hb, hb'⟩ | ⟨hb, hb'⟩ <;> rw [ha, hb] <;> first | (exfalso; grind; done) | (exfalso; have := Rat.mul_pos ha' hb'; grind; done) | (exfalso; have := Rat.mul_pos (a := -p0.1) (b := -p0.2) (by grind) (by grind); grind; done) | (simp; done) | (simp; omega)

def Bd (B x : Rat) : Prop := -B ≤ x ∧ x ≤ B
theorem Bd.mono {A B x : Rat} (h : Bd A x) (hb : A ≤ B) : Bd B x := ⟨by have := h.1; grind, by have := h.2; grind⟩
theorem Bd.nn {B x : Rat} (h : Bd B x) : 0 ≤ B := by have h1 := h.1; have h2 := h.2; grind
theorem Bd.add {A B x y : Rat} (h1 : Bd A x) (h2 : Bd B y) : Bd (A + B) (x + y) := by
  obtain ⟨a, b⟩ := h1; obtain ⟨c, d⟩ := h2
  constructor <;> grind
theorem Bd.neg {A x : Rat} (h1 : Bd A x) : Bd A (-x) := by
  obtain ⟨a, b⟩ := h1
  constructor <;> grind
theorem Bd.mul {A B x y : Rat} (h1 : Bd A x) (h2 : Bd B y) : Bd (A * B) (x * y) := by
  obtain ⟨a, b⟩ := h1; obtain ⟨c, e⟩ := h2
  have k1 := Rat.mul_nonneg (a := A - x) (b := B + y) (by grind) (by grind)
  have k2 := Rat.mul_nonneg (a := A + x) (b := B - y) (by grind) (by grind)
  have k3 := Rat.mul_nonneg (a := A - x) (b := B - y) (by grind) (by grind)
  have k4 := Rat.mul_nonneg (a := A + x) (b := B + y) (by grind) (by grind)
  constructor <;> grind
theorem Bd.self (x : Rat) : ∃ B, 0 ≤ B ∧ Bd B x := by
  rcases Rat.le_total (a := 0) (b := x) with h | h
  · exact ⟨x, h, by constructor <;> grind⟩
  · exact ⟨-x, by grind, by constructor <;> grind⟩
theorem ev_bd (R : Rat) : ∀ p : List Rat, ∃ B, 0 ≤ B ∧ ∀ x, Bd R x → Bd B (ev p x)
  | [] => ⟨0, Rat.le_refl, fun x _ => by show Bd 0 0; constructor <;> grind⟩
  | c :: r => by
    obtain ⟨B, hB, h⟩ := ev_bd R r
    obtain ⟨C, hC, hc⟩ := Bd.self c
    by_cases hR : 0 ≤ R
    · refine ⟨C + B * R, ?_, fun x hx => hc.add ((h x hx).mul hx)⟩
      have := Rat.mul_nonneg hB hR
      grind
    · exact ⟨0, Rat.le_refl, fun x hx => absurd hx.nn hR⟩
/-- The quotient of differences. -/
def dq : List Rat → Rat → Rat → Rat
  | [], _, _ => 0
  | c :: r, x, y => ev r y + x * dq r x y
theorem dq_eq : ∀ (p : List Rat) (x y : Rat), ev p y - ev p x = (y - x) * dq p x y
  | [], x, y => by show (0 : Rat) - 0 = (y - x) * 0; grind
  | c :: r, x, y => by
    have ih := dq_eq r x y
    show (c + ev r y * y) - (c + ev r x * x) = (y - x) * (ev r y + x * dq r x y)
    grind
theorem dq_bd (R : Rat) : ∀ p : List Rat, ∃ B, 0 ≤ B ∧ ∀ x y, Bd R x → Bd R y → Bd B (dq p x y)
  | [] => ⟨0, Rat.le_refl, fun x y _ _ => by show Bd 0 0; constructor <;> grind⟩
  | c :: r => by
    obtain ⟨B, hB, h⟩ := dq_bd R r
    obtain ⟨C, hC, hc⟩ := ev_bd R r
    by_cases hR : 0 ≤ R
    · refine ⟨C + R * B, ?_, fun x y hx hy => (hc y hy).add (hx.mul (h x y hx hy))⟩
      have := Rat.mul_nonneg hR hB
      grind
    · exact ⟨0, Rat.le_refl, fun x y hx => absurd hx.nn hR⟩
def ddq : List Rat → Rat → Rat → Rat
  | [], _, _ => 0
  | c :: r, x, y => dq r x y + x * ddq r x y
theorem ddq_eq : ∀ (p : List Rat) (x y : Rat), dq p x y - dq p x x = (y - x) * ddq p x y
  | [], x, y => by show (0 : Rat) - 0 = (y - x) * 0; grind
  | c :: r, x, y => by
    have ih := ddq_eq r x y
    have h2 := dq_eq r x y
    show (ev r y + x * dq r x y) - (ev r x + x * dq r x x) = (y - x) * (dq r x y + x * ddq r x y)
    grind
theorem ddq_bd (R : Rat) : ∀ p : List Rat, ∃ B, 0 ≤ B ∧ ∀ x y, Bd R x → Bd R y → Bd B (ddq p x y)
  | [] => ⟨0, Rat.le_refl, fun x y _ _ => by show Bd 0 0; constructor <;> grind⟩
  | c :: r => by
    obtain ⟨B, hB, h⟩ := ddq_bd R r
    obtain ⟨C, hC, hc⟩ := dq_bd R r
    by_cases hR : 0 ≤ R
    · refine ⟨C + R * B, ?_, fun x y hx hy => (hc x y hx hy).add (hx.mul (h x y hx hy))⟩
      have := Rat.mul_nonneg hR hB
      grind
    · exact ⟨0, Rat.le_refl, fun x y hx => absurd hx.nn hR⟩
/-- The derivative, as a list. -/
def drv : List Rat → List Rat
  | [] => []
  | _ :: r => addL r (0 :: drv r)
theorem dq_drv : ∀ (p : List Rat) (x : Rat), dq p x x = ev (drv p) x
  | [], x => rfl
  | c :: r, x => by
    have ih := dq_drv r x
    show ev r x + x * dq r x x = ev (addL r (0 :: drv r)) x
    rw [ev_addL, ih]
    show _ = ev r x + (0 + ev (drv r) x * x)
    grind
theorem co_drv : ∀ (p : List Rat) (i : Nat), co (drv p) i = der (co p) i
  | [], i => by
    show (0 : Rat) = _ * 0
    rw [Rat.mul_zero]
  | c :: r, i => by
    show co (addL r (0 :: drv r)) i = ((i + 1 : Nat) : Rat) * co r i
    rw [co_addL]
    cases i with
    | zero =>
      show co r 0 + 0 = _
      have : ((0 + 1 : Nat) : Rat) = 1 := rfl
      rw [this]; grind
    | succ i =>
      show co r (i + 1) + co (drv r) i = _
      rw [co_drv r i]
      unfold der
      have : ((i + 1 + 1 : Nat) : Rat) = ((i + 1 : Nat) : Rat) + 1 := Rat.natCast_add (i + 1) 1
      rw [this]; grind
theorem dq_derL (p : List Rat) (x : Rat) : dq p x x = ev (trim (derL p)) x := by
  rw [dq_drv, ev_trim]
  exact ev_congr fun i => by rw [co_drv, co_derL]
end Den
end

section
set_option linter.unusedVariables false
namespace Den
open Go Iv Pq
theorem sq_nn (u : Rat) : 0 ≤ u * u := by
  rcases Rat.le_total (a := 0) (b := u) with h | h
  · exact Rat.mul_nonneg h h
  · have := Rat.mul_nonneg (a := -u) (b := -u) (by grind) (by grind)
    grind
theorem opp_of {a b c q u v ε U V Q : Rat} (h1 : q * b = a + c) (h2 : u * a + v * b = 1) (hb : Bd ε b) (hu : Bd U u) (hv : Bd V v) (hq : Bd Q q) (e1 : V * ε ≤ 1 / 4) (e2 : U * Q * ε ≤ 1 / 4) : a * c < 0 := by
  have k1 := (hv.mul hb).2
  have k2 := ((hu.mul hq).mul hb).2
  have w : 3 / 4 ≤ u * a := by grind
  have w2 : 1 / 2 ≤ u * a - u * q * b := by grind
  have p := Rat.mul_pos (a := u * a) (b := u * a - u * q * b) (by grind) (by grind)
  refine Rat.not_le.1 fun hh => ?_
  have n1 := Rat.mul_nonneg (sq_nn u) hh
  have e : u * u * (a * c) = -((u * a) * (u * a - u * q * b)) := by grind
  grind
theorem sm_of {x y δ l L bx b2 : Rat} (hxy : ¬ 0 < bx * b2) (h : b2 - bx = (y - x) * l) (hl : Bd L l) (h0 : x ≤ y) (hd : y - x ≤ δ) : Bd (δ * L) bx ∧ Bd (δ * L) b2 := by
  have hb : Bd δ (y - x) := ⟨by grind, hd⟩
  have k := hb.mul hl
  rw [← h] at k
  obtain ⟨k1, k2⟩ := k
  rcases Rat.le_total (a := 0) (b := bx) with s1 | s1 <;> rcases Rat.le_total (a := 0) (b := b2) with s2 | s2
  · rcases rle s1 with t1 | t1
    · rcases rle s2 with t2 | t2
      · exact absurd (Rat.mul_pos t1 t2) hxy
      · constructor <;> constructor <;> grind
    · constructor <;> constructor <;> grind
  · constructor <;> constructor <;> grind
  · constructor <;> constructor <;> grind
  · rcases rle s1 with t1 | t1
    · rcases rle s2 with t2 | t2
      · exact absurd (by have := Rat.mul_pos (a := -bx) (b := -b2) (by grind) (by grind); grind) hxy
      · constructor <;> constructor <;> grind
    · constructor <;> constructor <;> grind
/-- A small positive number for a bound. -/
theorem eps_of {E L : Rat} (hE : 0 ≤ E) (hL : 0 ≤ L) : ∃ δ : Rat, 0 < δ ∧ ∀ e, 0 ≤ e → e ≤ E → e * (δ * L) ≤ 1 / 4 := by
  have hp : 0 < 4 * ((1 + E) * (1 + L)) := by
    have := Rat.mul_pos (a := 1 + E) (b := 1 + L) (by grind) (by grind)
    grind
  refine ⟨(4 * ((1 + E) * (1 + L)))⁻¹, Rat.inv_pos.2 hp, fun e h0 he => ?_⟩
  have hi := Rat.mul_inv_cancel _ (show 4 * ((1 + E) * (1 + L)) ≠ 0 by grind)
  have hd := Rat.inv_pos.2 hp
  generalize (4 * ((1 + E) * (1 + L)))⁻¹ = δ at *
  have k1 : 0 ≤ (1 + E) * (1 + L) - e * L := by
    have h1 := Rat.mul_nonneg (a := E - e) (b := L) (by grind) hL
    grind
  have k2 := Rat.mul_nonneg k1 (Rat.le_of_lt hd)
  grind
theorem min_of {a b : Rat} (ha : 0 < a) (hb : 0 < b) : ∃ c, 0 < c ∧ c ≤ a ∧ c ≤ b := by
  rcases Rat.le_total (a := a) (b := b) with h | h
  · exact ⟨a, ha, Rat.le_refl, h⟩
  · exact ⟨b, hb, h, Rat.le_refl⟩
theorem triple {a b c q u v : List Rat} (R : Rat) (h1 : ∀ x, ev q x * ev b x = ev a x + ev c x) (h2 : ∀ x, ev u x * ev a x + ev v x * ev b x = 1) :
    ∃ δ : Rat, 0 < δ ∧ ∀ x y, Bd R x → Bd R y → x ≤ y → y - x ≤ δ → 0 < ev b x * ev b y ∨ (ev a x * ev c x < 0 ∧ ev a y * ev c y < 0) := by
  obtain ⟨Q, hQ, bq⟩ := ev_bd R q
  obtain ⟨U, hU, bu⟩ := ev_bd R u
  obtain ⟨V, hV, bv⟩ := ev_bd R v
  obtain ⟨L, hL, bl⟩ := dq_bd R b
  have hUQ := Rat.mul_nonneg hU hQ
  obtain ⟨δ, hd, he⟩ := eps_of (E := V + U * Q) (L := L) (by grind) hL
  refine ⟨δ, hd, fun x y hx hy hxy hs => ?_⟩
  by_cases hb : 0 < ev b x * ev b y
  · exact .inl hb
  · right
    obtain ⟨k1, k2⟩ := sm_of hb (dq_eq b x y) (bl x y hx hy) hxy hs
    have e1 := he V hV (by grind)
    have e2 := he (U * Q) hUQ (by grind)
    exact ⟨opp_of (h1 x) (h2 x) k1 (bu x hx) (bv x hx) (bq x hx) e1 e2, opp_of (h1 y) (h2 y) k2 (bu y hy) (bv y hy) (bq y hy) e1 e2⟩
theorem first {p d u v : List Rat} (R : Rat) (h1 : ∀ x, dq p x x = ev d x) (h2 : ∀ x, ev u x * ev p x + ev v x * ev d x = 1) :
    ∃ δ : Rat, 0 < δ ∧ ∀ x y, Bd R x → Bd R y → x < y → y - x ≤ δ → 0 < ev p x * ev p y ∨ (0 < ev d x ∧ 0 < ev d y ∧ ev p x < ev p y) ∨ (ev d x < 0 ∧ ev d y < 0 ∧ ev p y < ev p x) := by
  obtain ⟨U, hU, bu⟩ := ev_bd R u
  obtain ⟨V, hV, bv⟩ := ev_bd R v
  obtain ⟨L, hL, bl⟩ := dq_bd R p
  obtain ⟨M, hM, bm⟩ := ddq_bd R p
  obtain ⟨N, hN, bn⟩ := dq_bd R d
  obtain ⟨δ1, hd1, he1⟩ := eps_of hU hL
  obtain ⟨δ2, hd2, he2⟩ := eps_of hV hM
  obtain ⟨δ3, hd3, he3⟩ := eps_of hV hN
  obtain ⟨δ4, hd4, l1, l2⟩ := min_of hd1 hd2
  obtain ⟨δ, hd, l3, l4⟩ := min_of hd4 hd3
  refine ⟨δ, hd, fun x y hx hy hxy hs => ?_⟩
  by_cases hp : 0 < ev p x * ev p y
  · exact .inl hp
  · right
    have hxy' : x ≤ y := Rat.le_of_lt hxy
    obtain ⟨k1, _⟩ := sm_of hp (dq_eq p x y) (bl x y hx hy) hxy' (δ := δ1) (by grind)
    have e1 := he1 U hU Rat.le_refl
    have e2 := he2 V hV Rat.le_refl
    have e3 := he3 V hV Rat.le_refl
    have w : 3 / 4 ≤ ev v x * ev d x := by
      have := ((bu x hx).mul k1).2
      have := h2 x
      grind
    have b2 : Bd δ2 (y - x) := ⟨by grind, by grind⟩
    have b3 : Bd δ3 (y - x) := ⟨by grind, by grind⟩
    -- the slope between both points, and the derivative at the second one
    have w2 : 1 / 2 ≤ ev v x * dq p x y := by
      have g1 := ((bv x hx).mul (b2.mul (bm x y hx hy))).1
      have g2 := ddq_eq p x y
      rw [h1] at g2
      have g3 : ev v x * dq p x y = ev v x * ev d x + ev v x * ((y - x) * ddq p x y) := by rw [← g2]; grind
      grind
    have w3 : 1 / 2 ≤ ev v x * ev d y := by
      have g1 := ((bv x hx).mul (b3.mul (bn x y hx hy))).1
      have g2 := dq_eq d x y
      have g3 : ev v x * ev d y = ev v x * ev d x + ev v x * ((y - x) * dq d x y) := by rw [← g2]; grind
      grind
    have g := dq_eq p x y
    rcases mul_pos_cases (a := ev v x) (b := ev d x) (by grind) with ⟨s1, s2⟩ | ⟨s1, s2⟩
    · left
      rcases mul_pos_cases (a := ev v x) (b := dq p x y) (by grind) with ⟨_, s3⟩ | ⟨s3, _⟩
      · rcases mul_pos_cases (a := ev v x) (b := ev d y) (by grind) with ⟨_, s4⟩ | ⟨s4, _⟩
        · have := Rat.mul_pos (a := y - x) (b := dq p x y) (by grind) s3
          exact ⟨s2, s4, by grind⟩
        · grind
      · grind
    · right
      rcases mul_pos_cases (a := ev v x) (b := dq p x y) (by grind) with ⟨s3, _⟩ | ⟨_, s3⟩
      · grind
      · rcases mul_pos_cases (a := ev v x) (b := ev d y) (by grind) with ⟨s4, _⟩ | ⟨_, s4⟩
        · grind
        · have := Rat.mul_pos (a := y - x) (b := -(dq p x y)) (by grind) (by grind)
          exact ⟨s2, s4, by grind⟩
/-- A chain, by its values. -/
def StE : List (List Rat) → Prop
  | [] => True
  | [_] => True
  | [_, b] => ∃ k : Rat, k ≠ 0 ∧ ∀ x, ev b x = k
  | a :: b :: c :: r => (∃ q, ∀ x, ev q x * ev b x = ev a x + ev c x) ∧ (∃ u v, ∀ x, ev u x * ev a x + ev v x * ev b x = 1) ∧ StE (b :: c :: r)
theorem StE.cell (R : Rat) : ∀ {ps : List (List Rat)}, StE ps → ∃ δ : Rat, 0 < δ ∧ ∀ x y, Bd R x → Bd R y → x ≤ y → y - x ≤ δ → Cl (ps.map fun p => (ev p x, ev p y))
  | [], _ => ⟨1, by decide, fun _ _ _ _ _ _ => trivial⟩
  | [_], _ => ⟨1, by decide, fun _ _ _ _ _ _ => trivial⟩
  | [_, b], ⟨k, hk, h⟩ => ⟨1, by decide, fun x y _ _ _ _ => by
      show 0 < ev b x * ev b y
      rw [h, h]
      rcases tri k 0 with h1 | h1 | h1
      · have := Rat.mul_pos (a := -k) (b := -k) (by grind) (by grind); grind
      · exact absurd h1 hk
      · exact Rat.mul_pos h1 h1⟩
  | a :: b :: c :: r, ⟨⟨q, hq⟩, ⟨u, v, huv⟩, hr⟩ => by
    obtain ⟨δ1, d1, h1⟩ := triple R hq huv
    obtain ⟨δ2, d2, h2⟩ := StE.cell R hr
    obtain ⟨δ, d3, l1, l2⟩ := min_of d1 d2
    exact ⟨δ, d3, fun x y hx hy hxy hs => ⟨h1 x y hx hy hxy (Rat.le_trans hs l1), h2 x y hx hy hxy (Rat.le_trans hs l2)⟩⟩
theorem StE.first (R : Rat) {p d : List Rat} {r : List (List Rat)} (h : StE (p :: d :: r)) (hd : ∀ x, dq p x x = ev d x) : ∃ δ : Rat, 0 < δ ∧ ∀ x y, Bd R x → Bd R y → x < y → y - x ≤ δ →
    chN (p :: d :: r) x = chN (p :: d :: r) y + (if ev p x ≠ 0 ∧ ev p x * ev p y ≤ 0 then 1 else 0) := by
  have hb : ∃ u v, ∀ x, ev u x * ev p x + ev v x * ev d x = 1 := by
    cases r with
    | nil =>
      obtain ⟨k, hk, h1⟩ := h
      refine ⟨[], [1 / k], fun x => ?_⟩
      rw [h1]
      show 0 * _ + (1 / k + 0 * x) * k = 1
      have := Rat.div_mul_cancel (a := (1 : Rat)) hk
      grind
    | cons c r => exact h.2.1
  obtain ⟨u, v, huv⟩ := hb
  obtain ⟨δ1, d1, h1⟩ := Den.first R hd huv
  obtain ⟨δ2, d2, h2⟩ := StE.cell R h
  obtain ⟨δ, d3, l1, l2⟩ := min_of d1 d2
  refine ⟨δ, d3, fun x y hx hy hxy hs => ?_⟩
  have := vr_step (p0 := (ev p x, ev p y)) (p1 := (ev d x, ev d y)) (L := r.map fun p => (ev p x, ev p y)) (h2 x y hx hy (Rat.le_of_lt hxy) (Rat.le_trans hs l2)) (h1 x y hx hy hxy (Rat.le_trans hs l1))
  rw [chN_vr, chN_vr]
  simp only [List.map_cons, List.map_map] at this ⊢
  exact this
theorem arch {t δ : Rat} (hd : 0 < δ) : ∃ n : Nat, t ≤ (n : Rat) * δ := by
  refine ⟨(t / δ).num.natAbs, ?_⟩
  have h1 : t / δ ≤ (((t / δ).num.natAbs : Nat) : Rat) := by
    have h2 := rat_num_den (t / δ)
    have h3 : (1 : Rat) ≤ (((t / δ).den : Nat) : Rat) := by
      have := (t / δ).den_pos
      have h4 : ((1 : Nat) : Rat) ≤ (((t / δ).den : Nat) : Rat) := Rat.natCast_le_natCast.2 (by omega)
      exact h4
    have h5 : ((t / δ).num : Rat) ≤ (((t / δ).num.natAbs : Nat) : Rat) := by
      rw [← Rat.intCast_natCast]
      exact Rat.intCast_le_intCast.2 (by omega)
    have h6 : (0 : Rat) ≤ (((t / δ).num.natAbs : Nat) : Rat) := by
      rw [← Rat.intCast_natCast]
      exact Rat.intCast_nonneg.2 (by omega)
    generalize ((t / δ).num : Rat) = m at *
    generalize (((t / δ).num.natAbs : Nat) : Rat) = M at *
    generalize (((t / δ).den : Nat) : Rat) = D at *
    generalize t / δ = z at *
    refine Rat.not_lt.1 fun hh => ?_
    have := Rat.mul_nonneg (a := z) (b := D - 1) (by grind) (by grind)
    grind
  have h2 := Rat.mul_nonneg (a := (((t / δ).num.natAbs : Nat) : Rat) - t / δ) (b := δ) (by grind) (Rat.le_of_lt hd)
  have h3 : t / δ * δ = t := Rat.div_mul_cancel (by grind)
  grind
theorem mesh {P : Rat → Rat → Prop} {δ u v : Rat} (hd : 0 < δ) (h1 : ∀ x y, u ≤ x → x < y → y ≤ v → y - x ≤ δ → P x y) (h2 : ∀ x y z, u ≤ x → x < y → y < z → z ≤ v → P x y → P y z → P x z) (huv : u < v) : P u v := by
  have key : ∀ (n : Nat) (x : Rat), u ≤ x → x < v → v - x ≤ (n : Rat) * δ → P x v := by
    intro n
    induction n with
    | zero =>
      intro x hx hxv hn
      exfalso
      have : ((0 : Nat) : Rat) = 0 := rfl
      rw [this, Rat.zero_mul] at hn
      grind
    | succ n ih =>
      intro x hx hxv hn
      by_cases hs : v - x ≤ δ
      · exact h1 x v hx hxv Rat.le_refl hs
      · have e : ((n + 1 : Nat) : Rat) = (n : Rat) + 1 := Rat.natCast_add n 1
        rw [e] at hn
        refine h2 x (x + δ) v hx (by grind) (by grind) Rat.le_refl (h1 x (x + δ) hx (by grind) (by grind) (by grind)) (ih (x + δ) (by grind) (by grind) (by grind))
  obtain ⟨n, hn⟩ := arch (t := v - u) hd
  exact key n u Rat.le_refl huv hn
end Den
end

section
set_option linter.unusedVariables false
namespace Den
open Go Iv Pq PS
theorem toL {u : PS} (hu : Fs u) : ∃ l : List Rat, ps l = u := by
  obtain ⟨n, hn⟩ := hu
  refine ⟨(List.range n).map u.c, PS.ext fun j => ?_⟩
  rw [ps_c, co_range]
  split
  · rfl
  · exact (hn j (by omega)).symm
theorem ev_tri {a b c q : List Rat} (h : ps a = ps q * ps b - ps c) (x : Rat) : ev q x * ev b x = ev a x + ev c x := by
  rw [← ev_mulL, ← ev_addL]
  refine ev_congr fun i => ?_
  have := congrArg (fun s : PS => s.c i) h
  simp only [c_sub, c_mul, ps_c] at this
  rw [co_mulL, co_addL, this]
  have e : conv (ps q).c (ps b).c i = conv (co q) (co b) i := rfl
  grind
theorem ev_comb {a b u v : List Rat} {k : Rat} (h : ps u * ps a + ps v * ps b = cst k) (x : Rat) : ev u x * ev a x + ev v x * ev b x = k := by
  have e : ev (addL (mulL u a) (mulL v b)) x = ev [k] x := ev_congr fun i => by
    have := congrArg (fun s : PS => s.c i) h
    simp only [c_add, c_mul, c_cst] at this
    rw [co_addL, co_mulL, co_mulL]
    have e2 : co [k] i = if i = 0 then k else 0 := by
      cases i with
      | zero => rfl
      | succ i => rfl
    rw [e2]
    exact this
  rw [ev_addL, ev_mulL, ev_mulL] at e
  rw [e]
  show k + 0 * x = k
  grind
theorem ev_cst {b : List Rat} {k : Rat} (h : ps b = cst k) (x : Rat) : ev b x = k := by
  have e : ev b x = ev [k] x := ev_congr fun i => by
    have := congrArg (fun s : PS => s.c i) h
    simp only [c_cst, ps_c] at this
    have e2 : co [k] i = if i = 0 then k else 0 := by
      cases i with
      | zero => rfl
      | succ i => rfl
    rw [e2]; exact this
  rw [e]
  show k + 0 * x = k
  grind
/-- A chain of polynomials. -/
def StP : List (List Rat) → Prop
  | [] => True
  | [_] => True
  | [a, b] => ∃ u : PS, Fs u ∧ ps a = u * ps b
  | a :: b :: c :: r => (∃ u : PS, Fs u ∧ ps a = u * ps b - ps c) ∧ StP (b :: c :: r)
theorem chn_StP : ∀ {n : Nat} {p q : List Rat}, nf q → q ≠ [] → q.length ≤ n → StP (p :: chn n p q)
  | 0, p, q, _, h0, hl => absurd (List.length_pos_iff.2 h0) (by omega)
  | n + 1, p, q, hq, h0, hl => by
    have ht : trim q ≠ [] := by rw [trim_nf hq]; exact h0
    obtain ⟨u, hu, hr⟩ := rem_eq (p := p) ht
    have e : chn (n + 1) p q = q :: chn n q (negT (remL p q)) := by
      show (if q = [] then [] else q :: chn n q (negT (remL p q))) = _
      rw [if_neg h0]
    rw [e]
    by_cases hz : remL p q = []
    · rw [hz, negT_nil, chn_nil]
      rw [hz, ps_nil] at hr
      exact ⟨u, hu, by rw [hr]; grind⟩
    · have hz2 := negT_ne nf_remL hz
      have hlen : (negT (remL p q)).length ≤ n := by
        rw [negT_len nf_remL]
        have := remL_len (p := p) (q := q)
        rw [trim_nf hq] at this
        omega
      have ih := chn_StP (n := n) (p := q) (q := negT (remL p q)) nf_negT hz2 hlen
      obtain ⟨m, rfl⟩ : ∃ m, n = m + 1 := ⟨n - 1, by have := List.length_pos_iff.2 hz2; omega⟩
      have e2 : chn (m + 1) q (negT (remL p q)) = negT (remL p q) :: chn m (negT (remL p q)) (negT (remL q (negT (remL p q)))) := by
        show (if negT (remL p q) = [] then [] else negT (remL p q) :: chn m (negT (remL p q)) (negT (remL q (negT (remL p q))))) = _
        rw [if_neg hz2]
      rw [e2] at ih ⊢
      exact ⟨⟨u, hu, by rw [hr, ps_neg]; grind⟩, ih⟩
/-- The last member divides all, and is a combination of the first two. -/
theorem StP.last : ∀ {L : List (List Rat)} {a b : List Rat}, StP (a :: b :: L) → ∃ s t A B : PS, Fs s ∧ Fs t ∧ Fs A ∧ Fs B ∧ ps ((b :: L).getLast (by simp)) = s * ps a + t * ps b ∧ ps a = ps ((b :: L).getLast (by simp)) * A ∧ ps b = ps ((b :: L).getLast (by simp)) * B
  | [], a, b, ⟨u, hu, h⟩ => ⟨0, 1, u, 1, Fs.cst 0, Fs.cst 1, hu, Fs.cst 1, by simp only [List.getLast_singleton]; grind, by simp only [List.getLast_singleton]; grind, by simp only [List.getLast_singleton]; grind⟩
  | c :: r, a, b, ⟨⟨u, hu, h⟩, hr⟩ => by
    obtain ⟨s, t, B, C, f1, f2, f3, f4, e1, e2, e3⟩ := StP.last hr
    have el : (b :: c :: r).getLast (by simp) = (c :: r).getLast (by simp) := List.getLast_cons (by simp)
    rw [el]
    generalize ps ((c :: r).getLast (by simp)) = e at *
    exact ⟨-t, s + t * u, u * B - C, B, f2.neg, f1.add (f2.mul hu), (hu.mul f3).sub f4, f3, by rw [e1]; grind, by grind, e2⟩
theorem cst_mul (a b : Rat) : cst a * cst b = cst (a * b) := PS.ext fun i => by
  rw [c_cstm, c_cst, c_cst]
  split
  · rfl
  · exact Rat.mul_zero _
theorem StP.toE {k : Rat} (hk : k ≠ 0) : ∀ {L : List (List Rat)} {a b : List Rat}, StP (a :: b :: L) → ps ((b :: L).getLast (by simp)) = cst k → StE (a :: b :: L)
  | [], a, b, h, hl => ⟨k, hk, fun x => ev_cst hl x⟩
  | c :: r, a, b, h, hl => by
    obtain ⟨s, t, A, B, f1, f2, f3, f4, e1, e2, e3⟩ := StP.last h
    rw [hl] at e1
    obtain ⟨⟨u, hu, h1⟩, hr⟩ := h
    obtain ⟨q, rfl⟩ := toL hu
    obtain ⟨s', hs'⟩ := toL ((Fs.cst (1 / k)).mul f1)
    obtain ⟨t', ht'⟩ := toL ((Fs.cst (1 / k)).mul f2)
    refine ⟨⟨q, fun x => ev_tri h1 x⟩, ⟨s', t', fun x => ev_comb ?_ x⟩, StP.toE hk hr (by
      have el : (b :: c :: r).getLast (by simp) = (c :: r).getLast (by simp) := List.getLast_cons (by simp)
      rw [← el]; exact hl)⟩
    rw [hs', ht']
    have e5 : cst (1 / k) * cst k = cst 1 := by rw [cst_mul, Rat.div_mul_cancel hk]
    have e6 : cst (1 / k) * s * ps a + cst (1 / k) * t * ps b = cst (1 / k) * cst k := by rw [e1]; grind
    rw [e6, e5]
/-- The squarefree part. -/
theorem sqf_spec {p : List Rat} (h0 : trim p ≠ []) : ∃ g A B s t : PS, Fs g ∧ Fs A ∧ Fs B ∧ Fs s ∧ Fs t ∧ g ≠ 0 ∧ A ≠ 0 ∧ ps (monQ p) = g * A ∧ d (g * A) = g * B ∧ s * A + t * B = 1 ∧ ∃ k : Rat, k ≠ 0 ∧ ps (sqfL p) = cst k * A := by
  obtain ⟨M, hM⟩ : ∃ M, M = monQ p := ⟨_, rfl⟩
  have nM : nf M := by rw [hM]; exact nf_monQ
  have hM0 : M ≠ [] := fun hh => h0 (List.eq_nil_of_length_eq_zero (by rw [← monQ_len, ← hM, hh]; rfl))
  have tM : trim M ≠ [] := by rw [trim_nf nM]; exact hM0
  have pM : ps M ≠ 0 := fun hh => tM (ps_eq_nil hh)
  obtain ⟨D, hD⟩ : ∃ D, D = trim (derL M) := ⟨_, rfl⟩
  have dD : ps D = d (ps M) := by rw [hD]; exact ps_der M
  obtain ⟨a, b, x', y', fa, fb, fx, fy, e1, e2, e3⟩ := gcd_comb (n := (monQ D).length + 1) (x := monQ M) (y := monQ D) nf_monQ (Nat.lt_succ_self _)
  obtain ⟨G, hG⟩ : ∃ G, G = gcdQ M D := ⟨_, rfl⟩
  have eG : gcdS ((monQ D).length + 1) (monQ M) (monQ D) = G := by rw [hG]; rfl
  rw [eG] at e1 e2 e3
  obtain ⟨k1, hk1, m1, m2⟩ := ps_mon tM
  -- M = G A, M' = G B, G = a1 M + b1 M'
  have hB : ∃ b1 B : PS, Fs b1 ∧ Fs B ∧ ps G = a * cst k1 * ps M + b1 * d (ps M) ∧ d (ps M) = ps G * B := by
    by_cases hz : trim D = []
    · have z1 : ps D = 0 := by rw [← ps_trim, hz, ps_nil]
      rw [ps_mon_nil hz, ps_nil] at e1
      rw [z1] at dD
      exact ⟨0, 0, Fs.cst 0, Fs.cst 0, by rw [e1, m1]; grind, by rw [← dD]; grind⟩
    · obtain ⟨k2, hk2, n1, n2⟩ := ps_mon hz
      rw [n1] at e1
      exact ⟨b * cst k2, cst (1 / k2) * y', fb.mul (Fs.cst _), (Fs.cst _).mul fy, by rw [← dD, e1, m1]; grind, by rw [← dD, n2, e3]; grind⟩
  obtain ⟨b1, B, fb1, fB, g1, g2⟩ := hB
  have hA : ps M = ps G * (cst (1 / k1) * x') := by rw [m2, e2]; grind
  obtain ⟨A, eA⟩ : ∃ A, A = cst (1 / k1) * x' := ⟨_, rfl⟩
  have fA : Fs A := by rw [eA]; exact (Fs.cst _).mul fx
  rw [← eA] at hA
  have hG0 : ps G ≠ 0 := fun hh => pM (by rw [hA, hh]; grind)
  have hA0 : A ≠ 0 := fun hh => pM (by rw [hA, hh]; grind)
  have one : a * cst k1 * A + b1 * B = 1 := by
    refine cancel hG0 ?_
    have : ps G = a * cst k1 * (ps G * A) + b1 * (ps G * B) := by rw [← hA, ← g2]; exact g1
    grind
  -- the quotient
  have tG : trim G ≠ [] := fun hh => hG0 (by rw [← ps_trim, hh, ps_nil])
  obtain ⟨lA, hlA⟩ := toL fA
  have hq : trim lA = quoL M G := quoL_of (rs := []) tG ⟨fun j => by
    have := congrArg (fun s : PS => s.c j) hA
    simp only [c_mul, ps_c] at this
    rw [co_nil, Rat.add_zero, this, ← hlA]
    exact conv_comm, fun j _ => co_nil⟩
  have es : sqfL p = monQ (quoL M G) := by unfold sqfL; rw [if_neg h0, ← hM, ← hD, ← hG]
  have tq : trim (quoL M G) ≠ [] := fun hh => hA0 (by rw [← hlA, ← ps_trim, hq, ← ps_trim, hh, ps_nil])
  obtain ⟨k, hk, w1, w2⟩ := ps_mon tq
  refine ⟨ps G, A, B, a * cst k1, b1, ps_fs G, fA, fB, fa.mul (Fs.cst _), fb1, hG0, hA0, by rw [← hM]; exact hA, by rw [← hA]; exact g2, one, k, hk, ?_⟩
  rw [es, w1, ← hq, ps_trim, hlA]
theorem chn_last {n : Nat} {p q : List Rat} (hq : nf q) (h0 : q ≠ []) (hl : q.length ≤ n) : ∃ r, chn n p q = q :: r := by
  obtain ⟨m, rfl⟩ : ∃ m, n = m + 1 := ⟨n - 1, by have := List.length_pos_iff.2 h0; omega⟩
  exact ⟨_, by show (if q = [] then [] else _) = _; rw [if_neg h0]⟩
/-- The changes of the chain, from one point to a near one. -/
theorem sturm_step {p : List Rat} (h2 : 2 ≤ (trim p).length) (hl : (sqfL p).length ≤ 9) (R : Rat) : ∃ δ : Rat, 0 < δ ∧ ∀ x y, Bd R x → Bd R y → x < y → y - x ≤ δ →
    chN (chainL p) x = chN (chainL p) y + (if ev (sqfL p) x ≠ 0 ∧ ev (sqfL p) x * ev (sqfL p) y ≤ 0 then 1 else 0) := by
  have h0 : trim p ≠ [] := fun hh => by rw [hh] at h2; simp at h2
  obtain ⟨g, A, B, s, t, fg, fA, fB, fs, ft, hg0, hA0, eM, eD, one, k, hk, eW⟩ := sqf_spec h0
  obtain ⟨W, hW⟩ : ∃ W, W = sqfL p := ⟨_, rfl⟩
  have ec : chainL p = W :: chn 9 W (trim (derL W)) := by unfold chainL; rw [if_neg (by omega), ← hW]
  rw [ec, ← hW]
  rw [← hW] at eW hl
  have hW0 : ps W ≠ 0 := fun hh => by
    rw [hh] at eW
    rcases PS.mul_eq_zero eW.symm with h3 | h3
    · have := congrArg (fun s : PS => s.c 0) h3
      simp only [c_cst, c_zero, if_true] at this
      exact hk this
    · exact hA0 h3
  by_cases hD : trim (derL W) = []
  · -- a constant
    rw [hD, chn_nil]
    have z : d (ps W) = 0 := by rw [← ps_der, hD, ps_nil]
    have hc : ps W = cst (co W 0) := PS.ext fun i => by
      rw [c_cst]
      cases i with
      | zero => rfl
      | succ i =>
        rw [if_neg (by omega)]
        have := congrArg (fun s : PS => s.c i) z
        simp only [c_zero] at this
        have h3 : ((i + 1 : Nat) : Rat) * co W (i + 1) = 0 := this
        rcases Rat.mul_eq_zero.1 h3 with h4 | h4
        · exact absurd h4 (by
            intro h5
            have := Rat.natCast_inj.1 (show ((i + 1 : Nat) : Rat) = ((0 : Nat) : Rat) from h5)
            omega)
        · exact h4
    refine ⟨1, by decide, fun x y _ _ _ _ => ?_⟩
    have hv := ev_cst hc
    have hne : co W 0 ≠ 0 := fun hh => hW0 (by rw [hc, hh]; rfl)
    rw [hv x, hv y, if_neg]
    · rw [chN_vr, chN_vr]
      simp only [List.map_cons, List.map_nil]
      rw [hv x, hv y]
      rfl
    · rintro ⟨_, hh⟩
      rcases tri (co W 0) 0 with h1 | h1 | h1
      · have := Rat.mul_pos (a := -(co W 0)) (b := -(co W 0)) (by grind) (by grind); grind
      · exact hne h1
      · have := Rat.mul_pos h1 h1; grind
  · have ldW : (derL W).length = W.length - 1 := by unfold derL derP; simp
    have lD : (trim (derL W)).length ≤ W.length - 1 := by rw [← ldW]; exact trim_len
    have hst := chn_StP (n := 9) (p := W) (q := trim (derL W)) nf_trim hD (by omega)
    obtain ⟨r, hr⟩ := chn_last (n := 9) (p := W) (q := trim (derL W)) nf_trim hD (by omega)
    rw [hr] at hst ⊢
    obtain ⟨s1, t1, A1, B1, f1, f2, f3, f4, e1, e2, e3⟩ := StP.last hst
    obtain ⟨e, he⟩ : ∃ e, e = ps ((trim (derL W) :: r).getLast (by simp)) := ⟨_, rfl⟩
    rw [← he] at e1 e2 e3
    have fe : Fs e := by rw [he]; exact ps_fs _
    rw [ps_der] at e3
    have kk : cst (1 / k) * cst k = 1 := by rw [cst_mul, Rat.div_mul_cancel hk]; rfl
    have hA2 : A = e * (cst (1 / k) * A1) := by
      have : A = cst (1 / k) * ps W := by rw [eW]; grind
      rw [this, e2]; grind
    have dk : d (cst k * A) = cst k * d A := by
      rw [d_mul]
      have : d (cst k) = 0 := PS.ext fun i => by
        show der (cst k).c i = _
        unfold der
        rw [c_cst, if_neg (by omega), Rat.mul_zero, c_zero]
      rw [this]; grind
    have hdA : d A = e * (cst (1 / k) * B1) := by
      have : d A = cst (1 / k) * d (ps W) := by rw [eW, dk]; grind
      rw [this, e3]; grind
    have hcst := coprime hg0 fs ft fA fB fg fe ((Fs.cst (1 / k)).mul f3) ((Fs.cst (1 / k)).mul f4) eD one hA2 hdA hA0
    have ece : e = cst (e.c 0) := PS.ext fun i => by
      rw [c_cst]
      split
      · rename_i hi; rw [hi]
      · exact hcst i (by omega)
    have hne : e.c 0 ≠ 0 := fun hh => by
      rw [hh] at ece
      exact hW0 (by rw [e2, ece]; have : cst 0 = (0 : PS) := rfl
                    rw [this]; grind)
    have hE := StP.toE hne hst (by rw [← he]; exact ece)
    exact StE.first R hE fun x => dq_derL W x
end Den
end

section
set_option linter.unusedVariables false
namespace Den
open Go Iv Pq
section
variable {h : Hp} {A B C c : Nat} {l m : Sl} {p q : List Rat} {K : Sl → Hp → Prop}
theorem cz_pos {c k : Nat} (hc : 1 ≤ c) : 1 ≤ cz c k := by have := cz_mono (c := c) (Nat.zero_le k); rw [cz_zero] at this; omega

theorem pgcd_call (hp : PL h A l p) (hq : PL h B m q) (h1 : CD c (co p)) (h2 : CD c (co q)) (hlt : (trim q).length < (trim p).length) (h8 : (trim p).length ≤ 8) (hlen : p.length ≤ 800) (hlen2 : q.length ≤ 800) (hA : A ≤ 100000000000) (hB : B ≤ 100000000000) (hc : cz c 7 ≤ 20000000000)
    (H : ∀ y h', h.le h' → PL h' (cz c 7) y (gcdQ p q) → K y h') : callP (F.polynomial_GCD l m) K h := by
  refine callP_of (fun y h' => PL h' (cz c 7) y (gcdQ p q)) (fun K' hk => ?_) fun y h' hl hy => H y h' hl hy
  unfold F.polynomial_GCD
  have hs0 := SzI.start h1 h2 hlt h8
  have c1 : 1 ≤ cz c 7 := cz_pos h1.pos
  refine pMonic_call hp (by omega) hA fun a h3 hl3 ha => ?_
  refine pMonic_call (hq.le hl3) (by omega) hB fun b h4 hl4 hb => ?_
  refine loopP_of (fun st h' => h.le h' ∧ ∃ x y n, PL h' (cz c 7) st.1 x ∧ PL h' (cz c 7) st.2.1 y ∧ SzI c x y ∧ y.length < n ∧ gcdS n x y = gcdQ p q) (fun st => st.2.1.len)
    ⟨Hp.le_trans hl3 hl4, _, _, _, (ha.le hl4).cd hs0.bx, hb.cd hs0.by', hs0, Nat.lt_succ_self _, rfl⟩ ?_
  rintro ⟨s, t, _⟩ h5 ⟨hl5, x, y, n, hx, hy, hs, hn, he⟩
  simp only at hx hy
  have ly := hy.len
  have hlt5 := hs.lt
  have hle5 := hs.le
  refine ifP_dec (fun h6 => ?_) (fun h6 => ?_)
  · have h0 : y ≠ [] := fun hh => by rw [hh] at ly; simp only [ly] at h6; exact absurd h6 (by decide)
    have h0' : trim y ≠ [] := by rw [hs.ty]; exact h0
    obtain ⟨n, rfl⟩ : ∃ n', n = n' + 1 := ⟨n - 1, by omega⟩
    unfold gcdS at he
    rw [if_neg h0] at he
    have hs2 := hs.mon h0
    have hlt2 := hs2.lt
    refine pdivide_callR hx hy (by omega) (by omega) ⟨c1, by omega⟩ h0' (C := cz c 7) (fun k j hk => hs.rest h0 hk) ⟨Nat.le_refl _, by omega⟩ fun u v h7 qs rs hl7 hu hv a1 a2 a3 a4 a5 => ?_
    have hz : PL h7 (cz c 7) v (remL x y) := by rw [← remL_of a4 a5]; exact hv
    refine pMonic_call hz (by have := remL_le hs; omega) (by omega) fun w h8 hl8 hw => ?_
    refine ⟨⟨Hp.le_trans hl5 (Hp.le_trans hl7 hl8), y, _, n, (hy.le hl7).le hl8, hw.cd hs2.by', hs2, by omega, he⟩, ?_⟩
    have lw := hw.len
    rw [monQ_len, trim_nf nf_remL] at lw
    have := remL_le hs
    have := List.length_pos_iff.2 h0
    simp only
    omega
  · have h0 : y = [] := List.eq_nil_of_length_eq_zero (by simp only at h6; omega)
    subst h0
    rw [gcdS_nil] at he
    rw [← he] at hk
    exact hk _ _ hl5 hx

theorem rgcd_call (hp : PL h A l p) (hq : PL h B m q) (h1 : CD c (co p)) (h2 : CD c (co q)) (hlt : (trim q).length < (trim p).length) (h8 : (trim p).length ≤ 8) (hlen : p.length ≤ 800) (hlen2 : q.length ≤ 800) (hA : A ≤ 100000000000) (hB : B ≤ 100000000000) (hc : cz c 7 ≤ 20000000000)
    (H : ∀ y h', h.le h' → PL h' (cz c 7) y (gcdQ p q) → K y h') : callP (F.ref04_GCD l m) K h := by
  refine callP_of (fun y h' => PL h' (cz c 7) y (gcdQ p q)) (fun K' hk => ?_) fun y h' hl hy => H y h' hl hy
  unfold F.ref04_GCD
  have hs0 := SzI.start h1 h2 hlt h8
  have c1 : 1 ≤ cz c 7 := cz_pos h1.pos
  refine rMonic_call hp (by omega) hA fun a h3 hl3 ha => ?_
  refine rMonic_call (hq.le hl3) (by omega) hB fun b h4 hl4 hb => ?_
  refine loopP_of (fun st h' => h.le h' ∧ ∃ x y n, PL h' (cz c 7) st.1 x ∧ PL h' (cz c 7) st.2.1 y ∧ SzI c x y ∧ y.length < n ∧ gcdS n x y = gcdQ p q) (fun st => st.2.1.len)
    ⟨Hp.le_trans hl3 hl4, _, _, _, (ha.le hl4).cd hs0.bx, hb.cd hs0.by', hs0, Nat.lt_succ_self _, rfl⟩ ?_
  rintro ⟨s, t, _⟩ h5 ⟨hl5, x, y, n, hx, hy, hs, hn, he⟩
  simp only at hx hy
  have ly := hy.len
  have hlt5 := hs.lt
  have hle5 := hs.le
  refine ifP_dec (fun h6 => ?_) (fun h6 => ?_)
  · have h0 : y ≠ [] := fun hh => by rw [hh] at ly; simp only [ly] at h6; exact absurd h6 (by decide)
    have h0' : trim y ≠ [] := by rw [hs.ty]; exact h0
    obtain ⟨n, rfl⟩ : ∃ n', n = n' + 1 := ⟨n - 1, by omega⟩
    unfold gcdS at he
    rw [if_neg h0] at he
    have hs2 := hs.mon h0
    have hlt2 := hs2.lt
    refine rpDivMod_callR hx hy (by omega) (by omega) ⟨c1, by omega⟩ h0' (C := cz c 7) (fun k j hk => hs.rest h0 hk) ⟨Nat.le_refl _, c1, by omega⟩ fun u v h7 qs rs hl7 hu hu2 hv hv2 a1 a2 a3 a4 a5 => ?_
    have hz : PL h7 (cz c 7) v (remL x y) := by rw [← remL_of a4 a5, trim_nf hv2]; exact hv
    refine rMonic_call hz (by have := remL_le hs; omega) (by omega) fun w h8 hl8 hw => ?_
    refine ⟨⟨Hp.le_trans hl5 (Hp.le_trans hl7 hl8), y, _, n, (hy.le hl7).le hl8, hw.cd hs2.by', hs2, by omega, he⟩, ?_⟩
    have lw := hw.len
    rw [monQ_len, trim_nf nf_remL] at lw
    have := remL_le hs
    have := List.length_pos_iff.2 h0
    simp only
    omega
  · have h0 : y = [] := List.eq_nil_of_length_eq_zero (by simp only at h6; omega)
    subst h0
    rw [gcdS_nil] at he
    rw [← he] at hk
    exact hk _ _ hl5 hx

theorem pSqf_call (hp : PL h A l p) (h8 : p.length ≤ 8) (h1 : CD 28 (co p)) (hA : A ≤ 100000000000)
    (H : ∀ y h', h.le h' → PL h' 5400000 y (sqfL p) → (sqfL p).length ≤ 8 → nf (sqfL p) → CD 5400000 (co (sqfL p)) → K y h') : callP (F.polynomial_Squarefree l) K h := by
  refine callP_of (fun y h' => PL h' 5400000 y (sqfL p) ∧ (sqfL p).length ≤ 8 ∧ nf (sqfL p) ∧ CD 5400000 (co (sqfL p))) (fun K' hk => ?_) fun y h' hl ⟨a, b, c, d⟩ => H y h' hl a b c d
  unfold F.polynomial_Squarefree
  have tl : (trim p).length ≤ 8 := Nat.le_trans trim_len h8
  have lM : (monQ p).length ≤ 8 := by rw [monQ_len]; exact tl
  refine pMonic_call hp (by omega) hA fun r1 h3 hl3 hr1 => ?_
  have cM := CD_monQ h1
  have hr1 := hr1.cd cM
  have e1 := hr1.len
  refine ifP_eq (fun h4 => ?_) (fun h4 => ?_)
  · have h0 : trim p = [] := List.eq_nil_of_length_eq_zero (by rw [← monQ_len]; omega)
    have es : sqfL p = [] := by unfold sqfL; rw [if_pos h0]
    rw [es] at hk
    refine hk _ _ hl3 ⟨PL.nil, Nat.zero_le _, nf_nil, CD_nil (by decide)⟩
  · have h0 : trim p ≠ [] := fun hh => by
      have : (monQ p).length = 0 := by rw [monQ_len, hh]; rfl
      omega
    have es : sqfL p = monQ (quoL (monQ p) (gcdQ (monQ p) (trim (derL (monQ p))))) := by unfold sqfL; rw [if_neg h0]
    obtain ⟨M, hM⟩ : ∃ M, M = monQ p := ⟨_, rfl⟩
    have nM : nf M := by rw [hM]; exact nf_monQ
    rw [← hM] at es hr1 cM lM e1
    have l0 : 0 < M.length := by omega
    have cD := CD_der cM lM
    have ldM : (derL M).length = M.length - 1 := by unfold derL derP; simp
    have lD : (trim (derL M)).length ≤ M.length - 1 := by rw [← ldM]; exact trim_len
    obtain ⟨Dd, hD⟩ : ∃ D, D = trim (derL M) := ⟨_, rfl⟩
    have nD : nf Dd := by rw [hD]; exact nf_trim
    refine pDerivative_call hr1 (by omega) (by decide) fun r2 h5 hr2 => ?_
    have hl5 := hr2.hle
    have hr2 := hr2.pl.cd cD
    rw [← hD] at es hr2 cD lD
    have hlt : (trim Dd).length < (trim M).length := by rw [trim_nf nM, trim_nf nD]; omega
    have tM : (trim M).length ≤ 8 := by rw [trim_nf nM]; exact lM
    have z7 : cz 29 7 = 65609 := by decide
    refine pgcd_call (c := 29) (hr1.le hl5) hr2 (cM.mono (by decide)) cD hlt tM (by omega) (by omega) (by decide) (by decide) (by decide) fun r3 h6 hl6 hr3 => ?_
    obtain ⟨g1, g2, g3, g4⟩ := gcdQ_facts (c := 29) (cM.mono (by decide)) cD hlt tM
    obtain ⟨G, hG⟩ : ∃ G, G = gcdQ M Dd := ⟨_, rfl⟩
    rw [← hG] at es hr3 g1 g2 g3 g4
    have tG := trim_nf g1
    have hG0 : trim G ≠ [] := by rw [tG]; exact g2
    have htop : co G ((trim G).length - 1) ≠ 0 := by rw [tG]; exact nf_top g1 g2
    have lG := List.length_pos_iff.2 g2
    rw [z7] at hr3 g4
    have crest : ∀ k j, k ≤ (trim M).length + 1 - (trim G).length → BR 524908 (restK (co G) ((trim G).length - 1) ((trim M).length + 1 - (trim G).length) (co M) k j) := fun k j hk => by
      have h9 : k ≤ 8 := by rw [tG] at hk; omega
      have := Nat.mul_le_mul_right (65609 + 1) h9
      exact ((cM.restK g4 htop).br j).mono (by omega)
    refine pdivide_callR ((hr1.le hl5).le hl6) hr3 (by omega) (by omega) (by decide) hG0 (C := 524908) crest (by decide) fun u v h7 qs rs hl7 hu hv a1 a2 a3 a4 a5 => ?_
    have hu2 : PL h7 590517 u (quoL M G) := by rw [← quoL_of hG0 ⟨a3, a4⟩]; exact hu
    have lq : (quoL M G).length ≤ 8 := by rw [← quoL_of hG0 ⟨a3, a4⟩]; exact Nat.le_trans (quo_len hG0 ⟨a3, a4⟩) lM
    have cq : CD 5400000 (co (quoL M G)) := (CD_list hu2.bound (by decide) lq).mono (by decide)
    refine pMonic_call hu2 (by omega) (by decide) fun w h8 hl8 hw => ?_
    have cw := CD_monQ cq
    have hw := hw.cd cw
    rw [← es] at hw cw
    refine hk _ _ (Hp.le_trans hl3 (Hp.le_trans hl5 (Hp.le_trans hl6 (Hp.le_trans hl7 hl8)))) ⟨hw, ?_, ?_, cw⟩
    · rw [es, monQ_len]; exact Nat.le_trans trim_len lq
    · rw [es]; exact nf_monQ

theorem rSqf_call (hp : PL h A l p) (h8 : p.length ≤ 8) (h1 : CD 28 (co p)) (hA : A ≤ 100000000000)
    (H : ∀ y h', h.le h' → PL h' 5400000 y (sqfL p) → (sqfL p).length ≤ 8 → nf (sqfL p) → CD 5400000 (co (sqfL p)) → K y h') : callP (F.ref04_Squarefree l) K h := by
  refine callP_of (fun y h' => PL h' 5400000 y (sqfL p) ∧ (sqfL p).length ≤ 8 ∧ nf (sqfL p) ∧ CD 5400000 (co (sqfL p))) (fun K' hk => ?_) fun y h' hl ⟨a, b, c, d⟩ => H y h' hl a b c d
  unfold F.ref04_Squarefree
  have tl : (trim p).length ≤ 8 := Nat.le_trans trim_len h8
  have lM : (monQ p).length ≤ 8 := by rw [monQ_len]; exact tl
  refine rMonic_call hp (by omega) hA fun r1 h3 hl3 hr1 => ?_
  have cM := CD_monQ h1
  have hr1 := hr1.cd cM
  have e1 := hr1.len
  refine ifP_eq (fun h4 => ?_) (fun h4 => ?_)
  · have h0 : trim p = [] := List.eq_nil_of_length_eq_zero (by rw [← monQ_len]; omega)
    have es : sqfL p = [] := by unfold sqfL; rw [if_pos h0]
    rw [es] at hk
    refine hk _ _ hl3 ⟨(by rw [List.eq_nil_of_length_eq_zero (show (monQ p).length = 0 by omega)] at hr1; exact hr1.mono (by decide)), Nat.zero_le _, nf_nil, CD_nil (by decide)⟩
  · have h0 : trim p ≠ [] := fun hh => by
      have : (monQ p).length = 0 := by rw [monQ_len, hh]; rfl
      omega
    have es : sqfL p = monQ (quoL (monQ p) (gcdQ (monQ p) (trim (derL (monQ p))))) := by unfold sqfL; rw [if_neg h0]
    obtain ⟨M, hM⟩ : ∃ M, M = monQ p := ⟨_, rfl⟩
    have nM : nf M := by rw [hM]; exact nf_monQ
    rw [← hM] at es hr1 cM lM e1
    have l0 : 0 < M.length := by omega
    have cD := CD_der cM lM
    have ldM : (derL M).length = M.length - 1 := by unfold derL derP; simp
    have lD : (trim (derL M)).length ≤ M.length - 1 := by rw [← ldM]; exact trim_len
    obtain ⟨Dd, hD⟩ : ∃ D, D = trim (derL M) := ⟨_, rfl⟩
    have nD : nf Dd := by rw [hD]; exact nf_trim
    refine rDerivative_call hr1 (by omega) (by decide) fun r2 h5 hr2 => ?_
    have hl5 := hr2.hle
    have hr2 := hr2.pl.cd cD
    rw [← hD] at es hr2 cD lD
    have hlt : (trim Dd).length < (trim M).length := by rw [trim_nf nM, trim_nf nD]; omega
    have tM : (trim M).length ≤ 8 := by rw [trim_nf nM]; exact lM
    have z7 : cz 29 7 = 65609 := by decide
    refine rgcd_call (c := 29) (hr1.le hl5) hr2 (cM.mono (by decide)) cD hlt tM (by omega) (by omega) (by decide) (by decide) (by decide) fun r3 h6 hl6 hr3 => ?_
    obtain ⟨g1, g2, g3, g4⟩ := gcdQ_facts (c := 29) (cM.mono (by decide)) cD hlt tM
    obtain ⟨G, hG⟩ : ∃ G, G = gcdQ M Dd := ⟨_, rfl⟩
    rw [← hG] at es hr3 g1 g2 g3 g4
    have tG := trim_nf g1
    have hG0 : trim G ≠ [] := by rw [tG]; exact g2
    have htop : co G ((trim G).length - 1) ≠ 0 := by rw [tG]; exact nf_top g1 g2
    have lG := List.length_pos_iff.2 g2
    rw [z7] at hr3 g4
    have crest : ∀ k j, k ≤ (trim M).length + 1 - (trim G).length → BR 524908 (restK (co G) ((trim G).length - 1) ((trim M).length + 1 - (trim G).length) (co M) k j) := fun k j hk => by
      have h9 : k ≤ 8 := by rw [tG] at hk; omega
      have := Nat.mul_le_mul_right (65609 + 1) h9
      exact ((cM.restK g4 htop).br j).mono (by omega)
    refine rpDivMod_callR ((hr1.le hl5).le hl6) hr3 (by omega) (by omega) (by decide) hG0 (C := 524908) crest (by decide) fun u v h7 qs rs hl7 hu hu2 hv hv2 a1 a2 a3 a4 a5 => ?_
    have hu2 : PL h7 590517 u (quoL M G) := by rw [← quoL_of hG0 ⟨a3, a4⟩, trim_nf hu2]; exact hu
    have lq : (quoL M G).length ≤ 8 := by rw [← quoL_of hG0 ⟨a3, a4⟩]; exact Nat.le_trans (quo_len hG0 ⟨a3, a4⟩) lM
    have cq : CD 5400000 (co (quoL M G)) := (CD_list hu2.bound (by decide) lq).mono (by decide)
    refine rMonic_call hu2 (by omega) (by decide) fun w h8 hl8 hw => ?_
    have cw := CD_monQ cq
    have hw := hw.cd cw
    rw [← es] at hw cw
    refine hk _ _ (Hp.le_trans hl3 (Hp.le_trans hl5 (Hp.le_trans hl6 (Hp.le_trans hl7 hl8)))) ⟨hw, ?_, ?_, cw⟩
    · rw [es, monQ_len]; exact Nat.le_trans trim_len lq
    · rw [es]; exact nf_monQ

end
end Den
end

section
set_option linter.unusedVariables false
namespace Den
open Go Iv Pq
/-- l holds the polynomials ps, in memory of its own beside D. -/
def QD (D h : Hp) (B : Nat) (l : Sl) (ps : List (List Rat)) : Prop := ∃ ss : List Sl, Own D h 1 l (ss.map slc) ∧ ss.length = ps.length ∧ ∀ k (h1 : k < ss.length) (h2 : k < ps.length), PL D B ss[k] ps[k]
section
variable {D h : Hp} {A B C c : Nat} {l m : Sl} {p q : List Rat} {ps : List (List Rat)} {K : Sl → Hp → Prop}
theorem QD.qql (hq : QD D h B l ps) : QQL h B l ps := by
  obtain ⟨ss, h1, h2, h3⟩ := hq
  exact ⟨ss, h1.rd, h2, fun k g1 g2 => (h3 k g1 g2).le h1.1⟩
theorem QD.dle (hq : QD D h B l ps) : D.le h := by
  obtain ⟨ss, h1, h2, h3⟩ := hq
  exact h1.1
theorem QD.call {α : Type} {G : (α → Hp → Prop) → Hp → Prop} {K1 K : α → Hp → Prop} (hq : QD D h B l ps) (H : callP G K1 D)
    (k : ∀ v D' h', D.le D' → QD D' h' B l ps → K1 v D' → K v h') : callP G K h := by
  obtain ⟨ss, h1, h2, h3⟩ := hq
  exact h1.call H fun v D' h' g1 g2 g3 => k v D' h' g1 ⟨ss, g2, h2, fun j j1 j2 => (h3 j j1 j2).le g1⟩ g3
theorem QD.app {s : Sl} (hq : QD D h B l ps) (hx : PL D B s p) (hlen : ps.length ≤ 1000) (H : ∀ y h', QD D h' B y (ps ++ [p]) → K y h') : appP 1 24 [.slice nilS.a nilS.len nilS.cap] l 1 [.slice s.a s.len s.cap] K h := by
  obtain ⟨ss, h1, h2, h3⟩ := hq
  have hl := h1.2.1
  simp at hl
  refine app_own h1 (n := 1) (new := [slc s]) rfl rfl rfl (by omega) (by omega) fun y h' hy _ => H y h' ⟨ss ++ [s], ?_, by simp [h2], fun k g1 g2 => ?_⟩
  · rw [List.map_append]; exact hy
  · rcases Nat.lt_or_ge k ss.length with g | g
    · rw [List.getElem_append_left g, List.getElem_append_left (by omega)]; exact h3 k g (by omega)
    · have e1 : k = ss.length := by simp at g1; omega
      subst e1
      have a1 : (ss ++ [s])[ss.length]'g1 = s := by simp
      have a2 : (ps ++ [p])[ss.length]'g2 = p := by simp [h2]
      rw [a1, a2]; exact hx
theorem z57 : cz 5400001 7 = 11809804373 := by decide
theorem SzI.sqf {W : List Rat} (lW : W.length ≤ 8) (nW : nf W) (cW : CD 5400000 (co W)) (h0 : trim (derL W) ≠ []) : SzI 5400001 W (trim (derL W)) := by
  have ldW : (derL W).length = W.length - 1 := by unfold derL derP; simp
  have lD : (trim (derL W)).length ≤ W.length - 1 := by rw [← ldW]; exact trim_len
  have := List.length_pos_iff.2 h0
  have hz : 5400001 ≤ cz 5400001 (8 - W.length) := by have := cz_mono (c := 5400001) (Nat.zero_le (8 - W.length)); rwa [cz_zero] at this
  exact ⟨by omega, lW, nW, nf_trim, cW.mono (by omega), (CD_der cW lW).mono hz⟩
theorem pChain_call (hp : PL h A l p) (h8 : p.length ≤ 8) (h1 : CD 28 (co p)) (hA : A ≤ 100000000000)
    (H : ∀ y h' ps, h.le h' → QQL h' 11809804373 y ps → ps.length ≤ 10 → (∀ p ∈ ps, p.length ≤ 8 ∧ CD 11809804373 (co p)) → (∀ u, chN ps u = chN (chainL p) u) → K y h') : callP (F.sturm_Chain l) K h := by
  refine callP_of (fun y h' => ∃ ps, QQL h' 11809804373 y ps ∧ ps.length ≤ 10 ∧ (∀ p ∈ ps, p.length ≤ 8 ∧ CD 11809804373 (co p)) ∧ (∀ u, chN ps u = chN (chainL p) u)) (fun K' hk => ?_) fun y h' hl ⟨ps, a, b, c, d⟩ => H y h' ps hl a b c d
  unfold F.sturm_Chain
  refine pDegree_call hp (by omega) (by omega) fun h2 hl2 => ?_
  refine ifP_dec (fun h3 => ?_) (fun h3 => ?_)
  · have e : chainL p = [] := by unfold chainL; rw [if_pos (by omega)]
    rw [e] at hk
    exact hk _ _ hl2 ⟨[], ⟨[], Rd.nil, rfl, fun k g1 => by simp at g1⟩, by decide, fun p hp => by simp at hp, fun u => rfl⟩
  · have e : chainL p = sqfL p :: chn 9 (sqfL p) (trim (derL (sqfL p))) := by unfold chainL; rw [if_neg (by omega)]
    refine pSqf_call (hp.le hl2) h8 h1 hA fun r2 h4 hl4 hr2 lW nW cW => ?_
    obtain ⟨W, hW⟩ : ∃ W, W = sqfL p := ⟨_, rfl⟩
    rw [← hW] at e hr2 lW nW cW
    have ldW : (derL W).length = W.length - 1 := by unfold derL derP; simp
    have lD : (trim (derL W)).length ≤ W.length - 1 := by rw [← ldW]; exact trim_len
    have cD := CD_der cW lW
    have hs0 := SzI.sqf lW nW cW
    refine pDerivative_call hr2 (by omega) (by decide) fun r3 h5 hr3 => ?_
    have hl5 := hr3.hle
    have hr3 := hr3.pl.cd cD
    obtain ⟨E, hE⟩ : ∃ E, E = trim (derL W) := ⟨_, rfl⟩
    rw [← hE] at e hr3 cD lD hs0
    have hr2 := (hr2.le hl5).mono (show 5400000 ≤ 11809804373 by decide)
    have hr3 := hr3.mono (show 5400000 + 1 ≤ 11809804373 by decide)
    refine new_own (n := 2) (size := 1) rfl fun b4 h6 hb4 ho => ?_
    have hq0 : QD h5 h6 11809804373 ⟨some ⟨b4, 0, none⟩, 2, 2⟩ [W, E] := ⟨[r2, r3], ho, rfl, fun k g1 g2 => by
      match k, g1 with
      | 0, _ => exact hr2
      | 1, _ => exact hr3⟩
    have facts0 : ∀ p ∈ [W, E], p.length ≤ 8 ∧ CD 11809804373 (co p) := fun p hp => by
      rcases List.mem_cons.1 hp with rfl | hp
      · exact ⟨lW, cW.mono (by decide)⟩
      · rw [List.mem_singleton.1 hp]; exact ⟨by omega, cD.mono (by decide)⟩
    refine loopP_of (fun st h' => ∃ Dh, h5.le Dh ∧ ∃ x y ps, PL Dh 11809804373 st.1 x ∧ PL Dh 11809804373 st.2.1 y ∧ QD Dh h' 11809804373 st.2.2.1 ps ∧ (∀ p ∈ ps, p.length ≤ 8 ∧ CD 11809804373 (co p)) ∧ ps.length + y.length ≤ 10 ∧ x.length ≤ 8 ∧ y.length ≤ 8
      ∧ ((y = [] ∧ ∀ u, chN ps u = chN (chainL p) u) ∨ (y ≠ [] ∧ SzI 5400001 x y ∧ ∃ n, y.length ≤ n ∧ ps ++ chn n y (negT (remL x y)) = chainL p))) (fun st => st.2.1.len)
      ⟨h5, Hp.le_refl _, W, E, [W, E], hr2, hr3, hq0, facts0, by simp; omega, lW, by omega, ?_⟩ ?_
    · by_cases h0 : E = []
      · refine .inl ⟨h0, fun u => ?_⟩
        rw [e, h0, chn_nil]
        exact chN_nil (ps := [W])
      · refine .inr ⟨h0, hs0 h0, 8, by omega, ?_⟩
        rw [e]
        show _ = W :: (if E = [] then [] else E :: chn 8 E (negT (remL W E)))
        rw [if_neg h0]; rfl
    · rintro ⟨s, t, out, _⟩ h7 ⟨Dh, hD, x, y, ps, hx, hy, hq, facts, hlen, l8x, l8, hcase⟩
      simp only at hx hy hq
      have lp : ps.length ≤ 10 := by omega
      have hhh : h.le h7 := Hp.le_trans hl2 (Hp.le_trans hl4 (Hp.le_trans hl5 (Hp.le_trans hD hq.dle)))
      refine hq.call (K1 := fun r D' => (y = [] ∧ r.2.2 ≠ 0) ∨ (y ≠ [] ∧ r.2.2 = 0 ∧ PL D' 11809804373 r.2.1 (remL x y))) (ppDivMod_callR hx hy (by omega) (by omega) (by decide) (C := 11809804373) (fun k j hq0 hk => ?_) (by decide) (fun hh D' _ => ?_) (fun hq0 u v D' qs rs hl7 hu hv a1 a2 a3 a4 a5 => ?_)) fun r D1 h8 hl8 hq8 hr => ?_
      · rcases hcase with ⟨g0, _⟩ | ⟨g0, g1, _⟩
        · exact absurd (by rw [g0]; rfl) hq0
        · have := g1.rest g0 (j := j) hk; rwa [z57] at this
      · rcases hcase with ⟨g0, _⟩ | ⟨g0, g1, _⟩
        · exact .inl ⟨g0, by simp⟩
        · exact absurd (by rw [← g1.ty]; exact hh) g0
      · rcases hcase with ⟨g0, _⟩ | ⟨g0, g1, _⟩
        · exact absurd (by rw [g0]; rfl) hq0
        · refine .inr ⟨g0, rfl, ?_⟩
          rw [← remL_of a4 a5]; exact hv
      · have hhh8 : h.le h8 := Hp.le_trans hl2 (Hp.le_trans hl4 (Hp.le_trans hl5 (Hp.le_trans hD (Hp.le_trans hl8 hq8.dle))))
        refine joinP_inv (fun _ h' => h' = h8 ∧ y ≠ [] ∧ remL x y ≠ [] ∧ PL D1 11809804373 r.2.1 (remL x y)) ?_ ?_
        · rintro _ h9 ⟨rfl, g0, gr, hz⟩
          rcases hcase with ⟨g0', _⟩ | ⟨_, g1, n, hn, he⟩
          · exact absurd g0' g0
          · have hs2 := g1.neg g0
            have hlt2 := hs2.lt
            obtain ⟨n, rfl⟩ : ∃ n', n = n' + 1 := ⟨n - 1, by have := List.length_pos_iff.2 g0; omega⟩
            refine hq8.call (K1 := fun v D' => NR D' v (((-1 : Int) : Rat))) (qFromInt_call (by decide) (by decide) fun v D' _ hv => hv) fun v D2 h10 hl10 hq10 hv => ?_
            refine hq10.call (K1 := fun u D' => PL D' 11809804373 u (negT (remL x y))) (pScale_call (hz.le hl10) hv BR_m1 (by have := remL_le g1; omega) (by decide) (by decide) fun u D' hu => (hu.pl : PL D' _ u (negT (remL x y))).cd (by have := hs2.by'; rwa [z57] at this)) fun u D3 h11 hl11 hq11 hu => ?_
            refine hq11.app hu (by omega) fun w h12 hq12 => ⟨⟨D3, Hp.le_trans hD (Hp.le_trans hl8 (Hp.le_trans hl10 hl11)), y, negT (remL x y), ps ++ [negT (remL x y)], ((hy.le hl8).le hl10).le hl11, hu, hq12, ?_, ?_, l8, by omega, .inr ⟨negT_ne nf_remL gr, hs2, n, by omega, ?_⟩⟩, ?_⟩
            · intro p hp
              rcases List.mem_append.1 hp with hp | hp
              · exact facts p hp
              · rw [List.mem_singleton.1 hp]; exact ⟨by omega, by have := hs2.by'; rwa [z57] at this⟩
            · rw [List.length_append, List.length_singleton]; omega
            · rw [← he]
              show _ = ps ++ (if negT (remL x y) = [] then [] else negT (remL x y) :: chn n (negT (remL x y)) (negT (remL y (negT (remL x y)))))
              rw [if_neg (negT_ne nf_remL gr), List.append_assoc]; rfl
            · simp only
              rw [hu.len, hy.len]; omega
        · rcases hr with ⟨g0, gr⟩ | ⟨g0, gr, hz⟩
          · rcases hcase with ⟨_, g1⟩ | ⟨g1, _⟩
            · exact ifP_true (by simpa using gr) (hk _ _ hhh8 ⟨ps, hq8.qql, lp, facts, g1⟩)
            · exact absurd g0 g1
          · rw [gr]
            refine ifP_false rfl (ifP_eq (fun h9 => ?_) (fun h9 => ⟨rfl, g0, ?_, hz⟩))
            · have lz := hz.len
              have e0 : remL x y = [] := List.eq_nil_of_length_eq_zero (by omega)
              rcases hcase with ⟨g0', _⟩ | ⟨_, g1, n, hn, he⟩
              · exact absurd g0' g0
              · rw [e0, negT_nil, chn_nil, List.append_nil] at he
                rw [← he] at hk
                exact hk _ _ hhh8 ⟨ps, hq8.qql, lp, facts, fun u => rfl⟩
            · intro e0
              have lz := hz.len
              rw [e0] at lz
              exact h9 (by rw [lz]; rfl)
theorem rChain_call (hp : PL h A l p) (h8 : p.length ≤ 8) (h1 : CD 28 (co p)) (hA : A ≤ 100000000000)
    (H : ∀ y h' ps, h.le h' → QQL h' 11809804373 y ps → ps.length ≤ 10 → (∀ p ∈ ps, p.length ≤ 8 ∧ CD 11809804373 (co p)) → (∀ u, chN ps u = chN (chainL p) u) → K y h') : callP (F.ref05_Chain l) K h := by
  refine callP_of (fun y h' => ∃ ps, QQL h' 11809804373 y ps ∧ ps.length ≤ 10 ∧ (∀ p ∈ ps, p.length ≤ 8 ∧ CD 11809804373 (co p)) ∧ (∀ u, chN ps u = chN (chainL p) u)) (fun K' hk => ?_) fun y h' hl ⟨ps, a, b, c, d⟩ => H y h' ps hl a b c d
  unfold F.ref05_Chain
  refine rDegree_call hp (by omega) (by omega) fun h2 hl2 => ?_
  refine ifP_dec (fun h3 => ?_) (fun h3 => ?_)
  · have e : chainL p = [] := by unfold chainL; rw [if_pos (by omega)]
    rw [e] at hk
    exact hk _ _ hl2 ⟨[], ⟨[], Rd.nil, rfl, fun k g1 => by simp at g1⟩, by decide, fun p hp => by simp at hp, fun u => rfl⟩
  · have e : chainL p = sqfL p :: chn 9 (sqfL p) (trim (derL (sqfL p))) := by unfold chainL; rw [if_neg (by omega)]
    refine rSqf_call (hp.le hl2) h8 h1 hA fun r2 h4 hl4 hr2 lW nW cW => ?_
    obtain ⟨W, hW⟩ : ∃ W, W = sqfL p := ⟨_, rfl⟩
    rw [← hW] at e hr2 lW nW cW
    have ldW : (derL W).length = W.length - 1 := by unfold derL derP; simp
    have lD : (trim (derL W)).length ≤ W.length - 1 := by rw [← ldW]; exact trim_len
    have cD := CD_der cW lW
    have hs0 := SzI.sqf lW nW cW
    have hr2 := hr2.mono (show 5400000 ≤ 11809804373 by decide)
    refine new_own (n := 1) (size := 1) rfl fun b4 h5 hb4 ho => ?_
    have hq0 : QD h4 h5 11809804373 ⟨some ⟨b4, 0, none⟩, 1, 1⟩ [W] := ⟨[r2], ho, rfl, fun k g1 g2 => by
      match k, g1 with
      | 0, _ => exact hr2⟩
    have facts0 : ∀ p ∈ [W], p.length ≤ 8 ∧ CD 11809804373 (co p) := fun p hp => by
      rw [List.mem_singleton.1 hp]
      exact ⟨lW, cW.mono (by decide)⟩
    refine hq0.call (K1 := fun r D' => PL D' 11809804373 r (trim (derL W))) (rDerivative_call hr2 (by omega) (by decide) fun r D' hr => (hr.pl.cd cD).mono (by decide)) fun r3 D1 h6 hl6 hq6 hr3 => ?_
    obtain ⟨E, hE⟩ : ∃ E, E = trim (derL W) := ⟨_, rfl⟩
    rw [← hE] at e hr3 cD lD hs0
    refine loopP_of (fun st h' => ∃ Dh, h4.le Dh ∧ ∃ x y ps n, PL Dh 11809804373 st.1 x ∧ PL Dh 11809804373 st.2.2.1 y ∧ QD Dh h' 11809804373 st.2.1 ps ∧ (∀ p ∈ ps, p.length ≤ 8 ∧ CD 11809804373 (co p)) ∧ ps.length + y.length ≤ 10 ∧ x.length ≤ 8 ∧ y.length ≤ 8
      ∧ (y ≠ [] → SzI 5400001 x y) ∧ y.length < n ∧ ps ++ chn n x y = chainL p) (fun st => st.2.2.1.len)
      ⟨D1, hl6, W, E, [W], 9, hr2.le hl6, hr3, hq6, facts0, by simp; omega, lW, by omega, hs0, by omega, by rw [e]; rfl⟩ ?_
    rintro ⟨s, out, t, _⟩ h7 ⟨Dh, hD, x, y, ps, n, hx, hy, hq, facts, hlen, l8x, l8, hs, hn, he⟩
    simp only at hx hy hq
    have ly := hy.len
    have hhh : h.le h7 := Hp.le_trans hl2 (Hp.le_trans hl4 (Hp.le_trans hD hq.dle))
    refine ifP_dec (fun h9 => ?_) (fun h9 => ?_)
    · have h0 : y ≠ [] := fun hh => by rw [hh] at ly; simp only [ly] at h9; exact absurd h9 (by decide)
      have hs := hs h0
      have h0' : trim y ≠ [] := by rw [hs.ty]; exact h0
      have hs2 := hs.neg h0
      have hlt2 := hs2.lt
      obtain ⟨n, rfl⟩ : ∃ n', n = n' + 1 := ⟨n - 1, by omega⟩
      have cy := hs.by'
      have c2 := hs2.by'
      rw [z57] at cy c2
      refine hq.app hy (by omega) fun w h10 hq10 => ?_
      refine hq10.call (K1 := fun r D' => PL D' 11809804373 r.2 (remL x y)) (rpDivMod_callR hx hy (by omega) (by omega) (by decide) h0' (C := 11809804373) (fun k j hk => by have := hs.rest h0 (j := j) hk; rwa [z57] at this) (by decide) fun u v D' qs rs hl7 hu hu2 hv hv2 a1 a2 a3 a4 a5 => by rw [← remL_of a4 a5, trim_nf hv2]; exact hv) fun r D2 h11 hl11 hq11 hz => ?_
      refine hq11.call (K1 := fun v D' => NR D' v (((-1 : Int) : Rat))) (rqFromInt_call (by decide) (by decide) fun v D' _ hv => hv) fun v D3 h12 hl12 hq12 hv => ?_
      refine hq12.call (K1 := fun u D' => PL D' 11809804373 u (negT (remL x y))) (rScale_call (hz.le hl12) hv BR_m1 (by have := remL_le hs; omega) (by decide) (by decide) fun u D' hu => (hu.pl : PL D' _ u (negT (remL x y))).cd c2) fun u D4 h13 hl13 hq13 hu => ?_
      refine ⟨⟨D4, Hp.le_trans hD (Hp.le_trans hl11 (Hp.le_trans hl12 hl13)), y, negT (remL x y), ps ++ [y], n, ((hy.le hl11).le hl12).le hl13, hu, hq13, ?_, ?_, l8, by omega, fun _ => hs2, by omega, ?_⟩, ?_⟩
      · intro p hp
        rcases List.mem_append.1 hp with hp | hp
        · exact facts p hp
        · rw [List.mem_singleton.1 hp]; exact ⟨l8, cy⟩
      · rw [List.length_append, List.length_singleton]; omega
      · rw [← he]
        show _ = ps ++ (if y = [] then [] else y :: chn n y (negT (remL x y)))
        rw [if_neg h0, List.append_assoc]; rfl
      · simp only
        rw [hu.len, hy.len]; omega
    · have h0 : y = [] := List.eq_nil_of_length_eq_zero (by simp only at h9; omega)
      rw [h0, chn_nil, List.append_nil] at he
      rw [← he] at hk
      exact hk _ _ hhh ⟨ps, hq.qql, by omega, facts, fun u => rfl⟩
end
end Den
end

section
set_option linter.unusedVariables false
namespace Den
open Go Iv Pq
/-- The number of roots in an interval, as program and reference compute it. -/
noncomputable def cntQ (p : List Rat) (u v : Rat) : Int := if cmpQ u v ≥ 0 then 0 else (chN (chainL p) u : Int) - (chN (chainL p) v : Int)
theorem cmpQ_ge {a b : Rat} : cmpQ a b ≥ 0 ↔ ¬ a < b := by rw [← cmpQ_lt]; omega
theorem cnt_self {p : List Rat} {u : Rat} : cntQ p u u = 0 := by
  unfold cntQ; rw [if_pos (cmpQ_ge.2 Rat.lt_irrefl)]
theorem cnt_of {p : List Rat} {u v : Rat} (h : u ≤ v) : cntQ p u v = (chN (chainL p) u : Int) - (chN (chainL p) v : Int) := by
  unfold cntQ
  split
  · rename_i h1
    have : u = v := Rat.le_antisymm h (Rat.not_lt.1 (cmpQ_ge.1 h1))
    rw [this]; omega
  · rfl
theorem chn_len : ∀ {n : Nat} {p q : List Rat}, (chn n p q).length ≤ n
  | 0, _, _ => Nat.le_refl _
  | n + 1, p, q => by
    unfold chn
    split
    · exact Nat.zero_le _
    · have := chn_len (n := n) (p := q) (q := negT (remL p q))
      rw [List.length_cons]; omega
theorem cnt_rng (p : List Rat) (u v : Rat) : -10 ≤ cntQ p u v ∧ cntQ p u v ≤ 10 := by
  have hl : (chainL p).length ≤ 10 := by
    unfold chainL
    split
    · decide
    · have := chn_len (n := 9) (p := sqfL p) (q := trim (derL (sqfL p)))
      rw [List.length_cons]; omega
  have h1 := chF_bound (ps := chainL p) (c := u)
  have h2 := chF_bound (ps := chainL p) (c := v)
  unfold cntQ chN
  split
  · decide
  · omega
theorem bnd_BR {A : Nat} {p : List Rat} (hA : 1 ≤ A) (hp : ∀ v ∈ monQ p, BR A v) : BR (A + 2) (bndQ p) := by
  unfold bndQ
  have b0 : BR A (((0 : Int) : Rat)) := BR_zero.mono hA
  split
  · exact b0.mono (by omega)
  · have key : ∀ (L : List Rat) (m : Rat), BR A m → (∀ v ∈ L, BR A v) → BR A (L.foldl mxS m) := by
      intro L
      induction L with
      | nil => intro m hm _; exact hm
      | cons a L ih => intro m hm hL; exact ih _ (mx_BR hm (hL a (by simp))) fun v hv => hL v (by simp [hv])
    exact ((key _ _ b0 fun v hv => hp v (List.mem_of_mem_take hv)).add BR_one).mono (by omega)
theorem bnd28 {p : List Rat} (h1 : CD 28 (co p)) : BR 30 (bndQ p) := bnd_BR (A := 28) (by decide) fun v hv => by
  obtain ⟨i, hi, rfl⟩ := List.mem_iff_getElem.1 hv
  have := (CD_monQ h1).br i
  rwa [co_lt hi] at this
theorem ev_drop_cd {B i : Nat} {p : List Rat} {u : Rat} (bu : BR B u) (hp : p.length ≤ 8 ∧ CD 11809804373 (co p)) (hB : B ≤ 1000) : BR 11809820000 (ev (p.drop i) u) := by
  have hc : CD 11809804373 (co (p.drop i)) := hp.2.shift.congr fun j => by
    show co (p.drop i) j = co p (i + j)
    unfold co
    rw [List.getD_eq_getElem?_getD, List.getElem?_drop, ← List.getD_eq_getElem?_getD]
  have hl : (p.drop i).length ≤ 8 := by rw [List.length_drop]; omega
  refine (hc.evb bu).mono ?_
  have := Nat.mul_le_mul (show (p.drop i).length + 1 ≤ 9 by omega) (show B + 1 ≤ 1001 by omega)
  omega
section
variable {h : Hp} {A B C : Nat} {l m : Sl} {p q : List Rat} {K : Sl → Hp → Prop} {Ki : Int → Hp → Prop} {Kb : Bool → Hp → Prop} {x y : TRat} {u v : Rat}
theorem rCount_call (hp : PL h A l p) (h8 : p.length ≤ 8) (h1 : CD 28 (co p)) (hA : A ≤ 100000000000) (hx : NR h x u) (hy : NR h y v) (bu : BR B u) (bv : BR B v) (hB : B ≤ 1000) (H : ∀ h', h.le h' → Ki (cntQ p u v) h') : callP (F.ref05_Count l x y) Ki h := by
  refine callP_of (fun r h' => r = cntQ p u v) (fun K' hk => ?_) fun r h' hl hr => by subst hr; exact H h' hl
  unfold F.ref05_Count
  refine rqCmp_call hx hy bu bv (by omega) (by omega) fun h2 hl2 => ?_
  refine ifP_dec (fun h3 => hk _ _ hl2 (by unfold cntQ; rw [if_pos h3])) (fun h3 => ?_)
  refine rChain_call (hp.le hl2) h8 h1 hA fun c h4 ps hl4 hc hn hf he => ?_
  have hl24 := Hp.le_trans hl2 hl4
  have e1 := chF_bound (ps := ps) (c := u)
  have e2 := chF_bound (ps := ps) (c := v)
  refine rChanges_call hc (hx.le hl24) bu (by omega) (by decide) (by omega) (fun p hp => by have := (hf p hp).1; omega) (fun p hp i => ev_drop_cd bu (hf p hp) hB) (by decide) fun h5 hl5 => ?_
  refine rChanges_call (hc.le hl5) ((hy.le hl24).le hl5) bv (by omega) (by decide) (by omega) (fun p hp => by have := (hf p hp).1; omega) (fun p hp i => ev_drop_cd bv (hf p hp) hB) (by decide) fun h6 hl6 => hk _ _ (Hp.le_trans hl24 (Hp.le_trans hl5 hl6)) ?_
  unfold cntQ
  rw [if_neg h3, ← he, ← he]
  unfold chN
  exact w64 (by omega)
theorem cp5_call (hp : PL h B l p) (hlen : p.length ≤ 1000000000000) (H : ∀ y h', h.le h' → PL h' B y p → K y h') : callP (F.law05_cp l) K h := by
  refine callP_of (fun y h' => PL h' B y p) (fun K' hk => ?_) fun y h' hl hy => H y h' hl hy
  unfold F.law05_cp
  intro b el hb
  obtain ⟨xs, g1, g2, g3⟩ := hp
  refine ⟨xs.flatMap qc, cellsAtO_le (Hp.le_ins hb) (by rw [g1.1]; exact g1.2), ?_⟩
  refine app_copy hb (by rw [RdQ.len g1]) (by rw [g2.1]; exact hlen) fun y h' hy => ?_
  exact hk _ _ hy.1 ⟨xs, hy.rd, g2.le hy.1, hy.2.2.1⟩
end
end Den
end

section
set_option linter.unusedVariables false
namespace Den
open Go Iv Pq
theorem NI.back {h h' : Hp} {a : TInt} {n : Int} (ha : AI h a) (hl : h.le h') (hn : NI h' a n) : NI h a n := by
  obtain ⟨l, h1, _⟩ := ha
  refine ⟨?_, hn.2⟩
  rw [← RdW.uniq (h1.le hl) hn.1]
  exact h1
theorem NR.back {h h' : Hp} {x : TRat} {q : Rat} (ha : AR h x) (hl : h.le h') (hn : NR h' x q) : NR h x q := ⟨hn.1.back ha.1 hl, hn.2.back ha.2 hl⟩
theorem NR.inj {h : Hp} {x : TRat} {p q : Rat} (h1 : NR h x p) (h2 : NR h x q) : p = q := by
  have e1 := NI.inj h1.1 h2.1
  have e2 := NI.inj h1.2 h2.2
  exact Rat.ext e1 (by exact_mod_cast e2)
/-- The interval has two valid ends, in this order, and one root. -/
def oneQ (p : List Rat) (u v : Rat) : Prop := u < v ∧ (chN (chainL p) u : Int) - (chN (chainL p) v : Int) = 1
theorem oneQ_cnt {p : List Rat} {u v : Rat} : oneQ p u v ↔ u ≤ v ∧ cntQ p u v = 1 := by
  unfold oneQ
  constructor
  · rintro ⟨h1, h2⟩
    exact ⟨Rat.le_of_lt h1, by rw [cnt_of (Rat.le_of_lt h1)]; exact h2⟩
  · rintro ⟨h1, h2⟩
    rcases rle h1 with h3 | h3
    · exact ⟨h3, by rw [← cnt_of h1]; exact h2⟩
    · rw [h3, cnt_self] at h2; exact absurd h2 (by decide)
section
variable {h : Hp} {A B : Nat} {l : Sl} {p : List Rat} {ps : List (List Rat)} {Kb : Bool → Hp → Prop} {Ki : Int → Hp → Prop} {i : TInterval} {x y : TRat} {u v : Rat}
theorem pBetween_call (hc : QQL h 11809804373 l ps) (hn : ps.length ≤ 10) (hf : ∀ p ∈ ps, p.length ≤ 8 ∧ CD 11809804373 (co p)) (hx : NR h x u) (hy : NR h y v) (bu : BR B u) (bv : BR B v) (hB : B ≤ 1000) (H : ∀ h', h.le h' → Ki ((chN ps u : Int) - (chN ps v : Int)) h') : callP (F.sturm_between l x y) Ki h := by
  refine callP_of (fun r h' => r = (chN ps u : Int) - (chN ps v : Int)) (fun K' hk => ?_) fun r h' hl hr => by subst hr; exact H h' hl
  unfold F.sturm_between
  have e1 := chF_bound (ps := ps) (c := u)
  have e2 := chF_bound (ps := ps) (c := v)
  refine pChanges_call hc hx bu (by omega) (by decide) (by omega) (fun p hp => by have := (hf p hp).1; omega) (fun p hp i => ev_drop_cd bu (hf p hp) hB) (by decide) fun h5 hl5 => ?_
  refine pChanges_call (hc.le hl5) (hy.le hl5) bv (by omega) (by decide) (by omega) (fun p hp => by have := (hf p hp).1; omega) (fun p hp i => ev_drop_cd bv (hf p hp) hB) (by decide) fun h6 hl6 => hk _ _ (Hp.le_trans hl5 hl6) ?_
  unfold chN
  exact w64 (by omega)
theorem pSingle_call (hc : QQL h 11809804373 l ps) (hn : ps.length ≤ 10) (hf : ∀ p ∈ ps, p.length ≤ 8 ∧ CD 11809804373 (co p)) (hi : AV h i) (hl : i.low.num.mag.len ≤ 4 ∧ i.low.den.mag.len ≤ 4 ∧ i.high.num.mag.len ≤ 4 ∧ i.high.den.mag.len ≤ 4)
    (H1 : ∀ u v b h', NR h i.low u → NR h i.high v → BR 4 u → BR 4 v → h.le h' → (b = true ↔ (u < v ∧ (chN ps u : Int) - (chN ps v : Int) = 1)) → Kb b h') (H0 : (¬ ∃ u v, NR h i.low u ∧ NR h i.high v) → ∀ h', h.le h' → Kb false h') : callP (F.sturm_single l i) Kb h := by
  obtain ⟨l1, l2, l3, l4⟩ := hl
  by_cases hx : ∃ u v, NR h i.low u ∧ NR h i.high v
  · obtain ⟨u, v, hu, hv⟩ := hx
    have bu : BR 4 u := NR_BR hu (by omega) (by omega)
    have bv : BR 4 v := NR_BR hv (by omega) (by omega)
    refine callP_of (fun b h' => b = true ↔ (u < v ∧ (chN ps u : Int) - (chN ps v : Int) = 1)) (fun K' hk => ?_) fun b h' hl hb => H1 u v b h' hu hv bu bv hl hb
    unfold F.sturm_single
    refine qValid_call hi.1 (by omega) (by omega) (fun _ h1 hl1 _ => ifP_true rfl ?_) (fun _ _ hno => absurd ⟨_, hu⟩ hno)
    refine qValid_call (hi.2.le hl1) (by omega) (by omega) (fun _ h2 hl2 _ => ifP_true rfl ?_) (fun _ _ hno => absurd ⟨_, hv.le hl1⟩ hno)
    have k2 := Hp.le_trans hl1 hl2
    refine callP_of (fun b h' => b = decide (u ≤ v)) (fun K2 hk2 => ?_) fun b h3 hl3 hb => ?_
    · unfold F.interval_Valid
      refine qValid_call (hi.1.le k2) (by omega) (by omega) (fun _ h3 hl3 _ => ifP_true rfl ?_) (fun _ _ hno => absurd ⟨_, hu.le k2⟩ hno)
      have k3 := Hp.le_trans k2 hl3
      refine qValid_call (hi.2.le k3) (by omega) (by omega) (fun _ h4 hl4 _ => ifP_true rfl ?_) (fun _ _ hno => absurd ⟨_, hv.le k3⟩ hno)
      have k4 := Hp.le_trans k3 hl4
      refine qCmp_call (hu.le k4) (hv.le k4) bu bv (by decide) (by decide) fun h5 hl5 => hk2 _ _ (Hp.le_trans hl3 (Hp.le_trans hl4 hl5)) ?_
      rw [decide_eq_decide]; exact cmpQ_le
    · subst hb
      have k3 := Hp.le_trans k2 hl3
      refine ifP_dec (fun hle => ?_) (fun hle => hk _ _ k3 ⟨fun hh => (by cases hh), fun hh => absurd (Rat.le_of_lt hh.1) hle⟩)
      refine qCmp_call (hu.le k3) (hv.le k3) bu bv (by decide) (by decide) fun h4 hl4 => ?_
      have k4 := Hp.le_trans k3 hl4
      refine ifP_dec (fun hlt => ?_) (fun hlt => hk _ _ k4 ⟨fun hh => (by cases hh), fun hh => absurd (cmpQ_lt.2 hh.1) hlt⟩)
      refine pBetween_call (hc.le k4) hn hf (hu.le k4) (hv.le k4) bu bv (by decide) fun h5 hl5 => hk _ _ (Hp.le_trans k4 hl5) ?_
      rw [beq_iff_eq]
      exact ⟨fun hh => ⟨cmpQ_lt.1 hlt, hh⟩, fun hh => hh.2⟩
  · refine callP_of (fun b h' => b = false) (fun K' hk => ?_) fun b h' hl hb => by subst hb; exact H0 hx h' hl
    unfold F.sturm_single
    refine qValid_call hi.1 (by omega) (by omega) (fun u h1 hl1 hu => ifP_true rfl ?_) (fun h1 hl1 _ => ifP_false rfl (hk _ _ hl1 rfl))
    refine qValid_call (hi.2.le hl1) (by omega) (by omega) (fun v h2 hl2 hv => absurd ⟨u, v, hu, hv.back hi.2 hl1⟩ hx) (fun h2 hl2 _ => ifP_false rfl (hk _ _ (Hp.le_trans hl1 hl2) rfl))
theorem rOne_call (hp : PL h A l p) (h8 : p.length ≤ 8) (h1 : CD 28 (co p)) (hA : A ≤ 100000000000) (hi : AV h i) (hl : i.low.num.mag.len ≤ 1000 ∧ i.low.den.mag.len ≤ 1000 ∧ i.high.num.mag.len ≤ 1000 ∧ i.high.den.mag.len ≤ 1000)
    (H1 : ∀ u v b h', NR h i.low u → NR h i.high v → BR 1000 u → BR 1000 v → h.le h' → (b = true ↔ oneQ p u v) → Kb b h') (H0 : (¬ ∃ u v, NR h i.low u ∧ NR h i.high v) → ∀ h', h.le h' → Kb false h') : callP (F.ref05_One l i) Kb h := by
  obtain ⟨l1, l2, l3, l4⟩ := hl
  by_cases hx : ∃ u v, NR h i.low u ∧ NR h i.high v
  · obtain ⟨u, v, hu, hv⟩ := hx
    have bu : BR 1000 u := NR_BR hu (by omega) (by omega)
    have bv : BR 1000 v := NR_BR hv (by omega) (by omega)
    refine callP_of (fun b h' => b = true ↔ oneQ p u v) (fun K' hk => ?_) fun b h' hl hb => H1 u v b h' hu hv bu bv hl hb
    unfold F.ref05_One
    refine callP_of (fun b h' => b = decide (u ≤ v)) (fun K2 hk2 => ?_) fun b h3 hl3 hb => ?_
    · unfold F.ref05_Interval
      refine rqValid_call hi.1 (by omega) (by omega) (fun _ h3 hl3 _ => ifP_true rfl ?_) (fun _ _ hno => absurd ⟨_, hu⟩ hno)
      refine rqValid_call (hi.2.le hl3) (by omega) (by omega) (fun _ h4 hl4 _ => ifP_true rfl ?_) (fun _ _ hno => absurd ⟨_, hv.le hl3⟩ hno)
      have k4 := Hp.le_trans hl3 hl4
      refine rqCmp_call (hu.le k4) (hv.le k4) bu bv (by decide) (by decide) fun h5 hl5 => hk2 _ _ (Hp.le_trans k4 hl5) ?_
      rw [decide_eq_decide]; exact cmpQ_le
    · subst hb
      refine ifP_dec (fun hle => ?_) (fun hle => hk _ _ hl3 ⟨fun hh => (by cases hh), fun hh => absurd (Rat.le_of_lt hh.1) hle⟩)
      refine rCount_call (hp.le hl3) h8 h1 hA (hu.le hl3) (hv.le hl3) bu bv (by decide) fun h5 hl5 => hk _ _ (Hp.le_trans hl3 hl5) ?_
      rw [beq_iff_eq, oneQ_cnt]
      exact ⟨fun hh => ⟨hle, hh⟩, fun hh => hh.2⟩
  · refine callP_of (fun b h' => b = false) (fun K' hk => ?_) fun b h' hl hb => by subst hb; exact H0 hx h' hl
    unfold F.ref05_One
    refine callP_of (fun b h' => b = false) (fun K2 hk2 => ?_) fun b h3 hl3 hb => by subst hb; exact ifP_false rfl (hk _ _ hl3 rfl)
    unfold F.ref05_Interval
    refine rqValid_call hi.1 (by omega) (by omega) (fun u h1 hl1 hu => ifP_true rfl ?_) (fun h1 hl1 _ => ifP_false rfl (hk2 _ _ hl1 rfl))
    refine rqValid_call (hi.2.le hl1) (by omega) (by omega) (fun v h2 hl2 hv => absurd ⟨u, v, hu, hv.back hi.2 hl1⟩ hx) (fun h2 hl2 _ => ifP_false rfl (hk2 _ _ (Hp.le_trans hl1 hl2) rfl))
/-- The number of a root, as the program computes it. -/
noncomputable def rootQ (p : List Rat) (u : Rat) : Int := if cmpQ u (-(bndQ p)) ≤ 0 then 0 else (chN (chainL p) (-(bndQ p)) : Int) - (chN (chainL p) u : Int)
theorem pRoot_call {Kp : (Int × Int) → Hp → Prop} (hp : PL h A l p) (h8 : p.length ≤ 8) (h1 : CD 28 (co p)) (hA : A ≤ 50000000000) (hi : AV h i) (hl : i.low.num.mag.len ≤ 4 ∧ i.low.den.mag.len ≤ 4 ∧ i.high.num.mag.len ≤ 4 ∧ i.high.den.mag.len ≤ 4)
    (H1 : ∀ u v h', NR h i.low u → NR h i.high v → oneQ p u v → h.le h' → Kp (rootQ p u, 0) h') (H0 : (¬ ∃ u v, NR h i.low u ∧ NR h i.high v ∧ oneQ p u v) → ∀ h', h.le h' → Kp (0, 1) h') : callP (F.sturm_Root l i) Kp h := by
  refine callP_of (fun r h' => (∃ u v, NR h i.low u ∧ NR h i.high v ∧ oneQ p u v ∧ r = (rootQ p u, 0)) ∨ ((¬ ∃ u v, NR h i.low u ∧ NR h i.high v ∧ oneQ p u v) ∧ r = (0, 1))) (fun K' hk => ?_) fun r h' hl hr => by
    rcases hr with ⟨u, v, a, b, c, rfl⟩ | ⟨a, rfl⟩
    · exact H1 u v h' a b c hl
    · exact H0 a h' hl
  unfold F.sturm_Root
  refine pChain_call hp h8 h1 (by omega) fun c h2 ps hl2 hc hn hf he => ?_
  refine pSingle_call hc hn hf ⟨hi.1.le hl2, hi.2.le hl2⟩ hl (fun u v b h3 hu hv bu bv hl3 hb => ?_) (fun hno h3 hl3 => ifP_true rfl (hk _ _ (Hp.le_trans hl2 hl3) (.inr ⟨fun ⟨u, v, a, b, _⟩ => hno ⟨u, v, a.le hl2, b.le hl2⟩, rfl⟩)))
  have k3 := Hp.le_trans hl2 hl3
  have hu0 := hu.back hi.1 hl2
  have hv0 := hv.back hi.2 hl2
  have hb2 : b = true ↔ oneQ p u v := by rw [hb]; unfold oneQ; rw [he, he]
  cases b with
  | false =>
    refine ifP_true rfl (hk _ _ k3 (.inr ⟨fun ⟨u', v', a, b', c'⟩ => ?_, rfl⟩))
    have e1 : u' = u := NR.inj a hu0
    have e2 : v' = v := NR.inj b' hv0
    subst e1 e2
    exact absurd (hb2.2 c') (by decide)
  | true =>
    have hone := hb2.1 rfl
    refine ifP_false rfl ?_
    have bb := bnd28 h1
    refine callP_of (fun v h' => NR h' v.low (-(bndQ p)) ∧ NR h' v.high (bndQ p)) (fun K1 hk1 => ?_) fun w h4 hl4 ⟨hw1, hw2⟩ => ?_
    · unfold F.sturm_around
      refine pBound_call (hp.le k3) (by omega) hA fun r1 h4 hl4 hr1 => ?_
      refine qNeg_call hr1 bb (by decide) fun r2 h5 hl5 hr2 => hk1 _ _ (Hp.le_trans hl4 hl5) ⟨hr2, hr1.le hl5⟩
    · have k4 := Hp.le_trans k3 hl4
      refine qCmp_call (hu0.le k4) hw1 bu bb.neg (by decide) (by decide) fun h5 hl5 => ?_
      have k5 := Hp.le_trans k4 hl5
      refine ifP_dec (fun hle => hk _ _ k5 (.inl ⟨u, v, hu0, hv0, hone, ?_⟩)) (fun hle => ?_)
      · unfold rootQ; rw [if_pos hle]
      · refine pBetween_call (hc.le (Hp.le_trans hl3 (Hp.le_trans hl4 hl5))) hn hf (hw1.le hl5) (hu0.le k5) (bb.neg.mono (show 30 ≤ 1000 by decide)) (bu.mono (by decide)) (by decide) fun h6 hl6 => hk _ _ (Hp.le_trans k5 hl6) (.inl ⟨u, v, hu0, hv0, hone, ?_⟩)
        unfold rootQ; rw [if_neg hle, he, he]
theorem rRoot_call (hp : PL h A l p) (h8 : p.length ≤ 8) (h1 : CD 28 (co p)) (hA : A ≤ 50000000000) (hv : NR h i.high v) (bv : BR 4 v) (H : ∀ h', h.le h' → Ki (cntQ p (-(bndQ p)) v - 1) h') : callP (F.ref05_Root l i) Ki h := by
  refine callP_of (fun r h' => r = cntQ p (-(bndQ p)) v - 1) (fun K' hk => ?_) fun r h' hl hr => by subst hr; exact H h' hl
  unfold F.ref05_Root
  have bb := bnd28 h1
  refine callP_of (fun v h' => NR h' v.1 (-(bndQ p)) ∧ NR h' v.2 (bndQ p)) (fun K1 hk1 => ?_) fun w h2 hl2 ⟨hw1, hw2⟩ => ?_
  · unfold F.ref05_ends
    refine rBound_call hp (by omega) hA fun r1 h4 hl4 hr1 => ?_
    refine rqNeg_call hr1 bb (by decide) fun r2 hr2 => hk1 _ _ hl4 ⟨hr2, hr1⟩
  · refine rCount_call (hp.le hl2) h8 h1 (by omega) hw1 (hv.le hl2) bb.neg (bv.mono (show 4 ≤ 30 by decide)) (by decide) fun h3 hl3 => hk _ _ (Hp.le_trans hl2 hl3) ?_
    have := cnt_rng p (-(bndQ p)) v
    exact w64 (by omega)
end
end Den
end

section
set_option linter.unusedVariables false
namespace Den
open Go Iv Pq PS
theorem mx_ge : ∀ (L : List Rat) (m : Rat), m ≤ L.foldl mxS m ∧ ∀ v ∈ L, absQ v ≤ L.foldl mxS m
  | [], m => ⟨Rat.le_refl, fun v hv => by simp at hv⟩
  | a :: L, m => by
    obtain ⟨h1, h2⟩ := mx_ge L (mxS m a)
    have h3 : m ≤ mxS m a ∧ absQ a ≤ mxS m a := by
      unfold mxS
      split
      · rename_i h; exact ⟨Rat.le_of_lt h, Rat.le_refl⟩
      · rename_i h; exact ⟨Rat.le_refl, Rat.not_lt.1 h⟩
    refine ⟨Rat.le_trans h3.1 h1, fun v hv => ?_⟩
    rcases List.mem_cons.1 hv with rfl | hv
    · exact Rat.le_trans h3.2 h1
    · exact h2 v hv
theorem abs_bd {v B : Rat} (h : absQ v ≤ B) : Bd B v := by
  unfold absQ at h
  split at h
  · constructor <;> grind
  · constructor <;> grind
theorem big_neg {b x : Rat} (hb : 1 ≤ b) (hx : x ≤ -b) : ∀ (l : List Rat), (∀ v ∈ l, Bd (b - 1) v) → 1 ≤ ev (l ++ [1]) x ∨ ev (l ++ [1]) x ≤ -1
  | [], _ => by
    left
    show 1 ≤ 1 + 0 * x
    grind
  | c :: l, h => by
    have ih := big_neg hb hx l fun v hv => h v (List.mem_cons_of_mem _ hv)
    have hc := h c (by simp)
    obtain ⟨c1, c2⟩ := hc
    show 1 ≤ c + ev (l ++ [1]) x * x ∨ c + ev (l ++ [1]) x * x ≤ -1
    generalize ev (l ++ [1]) x = r at *
    rcases ih with h1 | h1
    · right
      have := Rat.mul_nonneg (a := r - 1) (b := -x) (by grind) (by grind)
      grind
    · left
      have := Rat.mul_nonneg (a := -1 - r) (b := -x) (by grind) (by grind)
      grind
theorem big_pos {b x : Rat} (hb : 1 ≤ b) (hx : b ≤ x) : ∀ (l : List Rat), (∀ v ∈ l, Bd (b - 1) v) → 1 ≤ ev (l ++ [1]) x ∨ ev (l ++ [1]) x ≤ -1
  | [], _ => by
    left
    show 1 ≤ 1 + 0 * x
    grind
  | c :: l, h => by
    have ih := big_pos hb hx l fun v hv => h v (List.mem_cons_of_mem _ hv)
    have hc := h c (by simp)
    obtain ⟨c1, c2⟩ := hc
    show 1 ≤ c + ev (l ++ [1]) x * x ∨ c + ev (l ++ [1]) x * x ≤ -1
    generalize ev (l ++ [1]) x = r at *
    rcases ih with h1 | h1
    · left
      have := Rat.mul_nonneg (a := r - 1) (b := x) (by grind) (by grind)
      grind
    · right
      have := Rat.mul_nonneg (a := -1 - r) (b := x) (by grind) (by grind)
      grind
/-- Beyond the bound the values are at least 1. -/
theorem beyond {p : List Rat} (h2 : 2 ≤ (trim p).length) {x : Rat} (hx : x ≤ -(bndQ p) ∨ bndQ p ≤ x) : 1 ≤ ev (monQ p) x ∨ ev (monQ p) x ≤ -1 := by
  have h0 : trim p ≠ [] := fun hh => by rw [hh] at h2; simp at h2
  have lM : (monQ p).length = (trim p).length := monQ_len
  obtain ⟨hn, e⟩ := mon_last h0
  have eM : monQ p = (monQ p).take ((monQ p).length - 1) ++ [1] := by
    have h3 := List.take_append_drop ((monQ p).length - 1) (monQ p)
    rw [List.drop_eq_getElem_cons hn, e] at h3
    have h4 : (monQ p).drop ((monQ p).length - 1 + 1) = [] := List.drop_eq_nil_of_le (by omega)
    rw [h4] at h3
    exact h3.symm
  have hb : bndQ p = ((monQ p).take ((monQ p).length - 1)).foldl mxS (((0 : Int) : Rat)) + (((1 : Int) : Rat)) := by
    unfold bndQ
    rw [if_neg (by omega)]
  obtain ⟨g1, g2⟩ := mx_ge ((monQ p).take ((monQ p).length - 1)) (((0 : Int) : Rat))
  have z0 : (((0 : Int) : Rat)) = 0 := rfl
  have z1 : (((1 : Int) : Rat)) = 1 := rfl
  rw [z1] at hb
  have hb1 : 1 ≤ bndQ p := by rw [hb]; grind
  have hall : ∀ v ∈ (monQ p).take ((monQ p).length - 1), Bd (bndQ p - 1) v := fun v hv => (abs_bd (g2 v hv)).mono (by rw [hb]; grind)
  rw [eM]
  rcases hx with hx | hx
  · exact big_neg hb1 hx _ hall
  · exact big_pos hb1 hx _ hall
theorem same_sign {M G W : List Rat} (R : Rat) (h : ∀ x, ev M x = ev G x * ev W x) : ∃ δ : Rat, 0 < δ ∧ ∀ x y, Bd R x → Bd R y → x < y → y - x ≤ δ → (1 ≤ ev M x ∨ ev M x ≤ -1) → 0 < ev W x * ev W y := by
  obtain ⟨E, hE, be⟩ := ev_bd R G
  obtain ⟨L, hL, bl⟩ := dq_bd R W
  obtain ⟨δ, hd, he⟩ := eps_of hE hL
  refine ⟨δ, hd, fun x y hx hy hxy hs hm => Classical.byContradiction fun hp => ?_⟩
  obtain ⟨k1, _⟩ := sm_of hp (dq_eq W x y) (bl x y hx hy) (Rat.le_of_lt hxy) hs
  have e1 := he E hE Rat.le_refl
  obtain ⟨k2, k3⟩ := (be x hx).mul k1
  rw [← h] at k2 k3
  grind
theorem bd_between {x y : Rat} : ∃ R, ∀ z, x ≤ z → z ≤ y → Bd R z := by
  obtain ⟨A, hA, a⟩ := Bd.self x
  obtain ⟨B, hB, b⟩ := Bd.self y
  obtain ⟨a1, a2⟩ := a
  obtain ⟨b1, b2⟩ := b
  exact ⟨A + B, fun z h1 h2 => by constructor <;> grind⟩
/-- The squarefree part as a factor. -/
theorem sqf_factor {p : List Rat} (h0 : trim p ≠ []) : ∃ G : List Rat, ps (monQ p) = ps G * ps (sqfL p) := by
  obtain ⟨g, A, B, s, t, fg, fA, fB, fs, ft, hg0, hA0, eM, eD, one, k, hk, eW⟩ := sqf_spec h0
  obtain ⟨G, hG⟩ := toL ((Fs.cst (1 / k)).mul fg)
  refine ⟨G, ?_⟩
  have kk : cst (1 / k) * cst k = 1 := by rw [cst_mul, Rat.div_mul_cancel hk]; rfl
  rw [hG, eW, eM]
  grind
theorem ev_prod {a b c : List Rat} (h : ps a = ps b * ps c) (x : Rat) : ev a x = ev b x * ev c x := by
  rw [← ev_mulL]
  refine ev_congr fun i => ?_
  have := congrArg (fun s : PS => s.c i) h
  simp only [c_mul, ps_c] at this
  rw [co_mulL]
  exact this
theorem cnt_const {p : List Rat} (hl : (sqfL p).length ≤ 9) {x y : Rat} (hxy : x < y) (hM : 2 ≤ (trim p).length → ∀ z, x ≤ z → z ≤ y → 1 ≤ ev (monQ p) z ∨ ev (monQ p) z ≤ -1) : chN (chainL p) x = chN (chainL p) y := by
  by_cases h2 : 2 ≤ (trim p).length
  · have h0 : trim p ≠ [] := fun hh => by rw [hh] at h2; simp at h2
    obtain ⟨R, hR⟩ := bd_between (x := x) (y := y)
    obtain ⟨G, hG⟩ := sqf_factor h0
    obtain ⟨δ1, d1, s1⟩ := sturm_step h2 hl R
    obtain ⟨δ2, d2, s2⟩ := same_sign R (fun z => ev_prod hG z)
    obtain ⟨δ, d3, l1, l2⟩ := min_of d1 d2
    refine mesh (P := fun x y => chN (chainL p) x = chN (chainL p) y) d3 (fun a b ha hab hb hs => ?_) (fun a b c _ _ _ _ h3 h4 => h3.trans h4) hxy
    have ba := hR a ha (by grind)
    have bb := hR b (by grind) hb
    have h5 := s1 a b ba bb hab (Rat.le_trans hs l1)
    have h6 := s2 a b ba bb hab (Rat.le_trans hs l2) (hM h2 a ha (by grind))
    rw [if_neg (by rintro ⟨_, h7⟩; grind)] at h5
    exact h5
  · have : chainL p = [] := by unfold chainL; rw [if_pos (by omega)]
    rw [this]; rfl
theorem cnt_left {p : List Rat} (hl : (sqfL p).length ≤ 9) {x y : Rat} (hxy : x ≤ y) (hy : y ≤ -(bndQ p)) : chN (chainL p) x = chN (chainL p) y := by
  rcases rle hxy with h | h
  · exact cnt_const hl h fun h2 z _ hz => beyond h2 (.inl (Rat.le_trans hz hy))
  · rw [h]
theorem rootQ_eq {p : List Rat} (hl : (sqfL p).length ≤ 9) {u v : Rat} (h : oneQ p u v) : rootQ p u = cntQ p (-(bndQ p)) v - 1 := by
  obtain ⟨h1, h2⟩ := h
  unfold rootQ
  by_cases hc : cmpQ u (-(bndQ p)) ≤ 0
  · rw [if_pos hc]
    have hu := cmpQ_le.1 hc
    have e1 := cnt_left hl hu Rat.le_refl
    have hv : -(bndQ p) ≤ v := Classical.byContradiction fun hh => by
      have e2 := cnt_left hl (Rat.le_of_lt h1) (Rat.le_of_lt (Rat.not_le.1 hh))
      omega
    rw [cnt_of hv]
    omega
  · rw [if_neg hc]
    have hu : -(bndQ p) < u := Rat.not_le.1 fun hh => hc (cmpQ_le.2 hh)
    rw [cnt_of (Rat.le_trans (Rat.le_of_lt hu) (Rat.le_of_lt h1))]
    omega
end Den
end

section
set_option linter.unusedVariables false
namespace Den
open Go Iv Pq
section
variable {h : Hp} {A B : Nat} {l : Sl} {p : List Rat} {Kb : Bool → Hp → Prop} {i : TInterval}
theorem sqf_len8 {h : Hp} {A : Nat} {l : Sl} {p : List Rat} (hp : PL h A l p) (h8 : p.length ≤ 8) (h1 : CD 28 (co p)) : (sqfL p).length ≤ 9 := by
  by_cases h0 : trim p = []
  · have : sqfL p = [] := by unfold sqfL; rw [if_pos h0]
    rw [this]; exact Nat.zero_le _
  · obtain ⟨G, hG⟩ := sqf_factor h0
    obtain ⟨W, hW⟩ : ∃ W, W = sqfL p := ⟨_, rfl⟩
    have nW : nf W := by rw [hW]; unfold sqfL; rw [if_neg h0]; exact nf_monQ
    rw [← hW] at hG ⊢
    -- the degree of a factor
    have nM : nf (monQ p) := nf_monQ
    have lM : (monQ p).length ≤ 8 := by rw [monQ_len]; exact Nat.le_trans trim_len h8
    have hM0 : monQ p ≠ [] := fun hh => h0 (List.eq_nil_of_length_eq_zero (by rw [← monQ_len, hh]; rfl))
    have pM : PS.ps (monQ p) ≠ 0 := fun hh => hM0 (by have := PS.ps_eq_nil hh; rwa [trim_nf nM] at this)
    have hW0 : W ≠ [] := fun hh => pM (by rw [hG, hh, PS.ps_nil]; grind)
    have tG : trim G ≠ [] := fun hh => pM (by rw [hG, ← PS.ps_trim G, hh, PS.ps_nil]; grind)
    have t1 := nf_top nf_trim tG
    have t2 := nf_top nW hW0
    rw [co_trim] at t1
    have k := (PS.top_mul (a := PS.ps G) (b := PS.ps W) (k := (trim G).length - 1) (j := W.length - 1) t1 (fun i hi => by rw [PS.ps_c, ← co_trim, co_ge (by omega)]) t2 (fun i hi => by rw [PS.ps_c, co_ge (by omega)])).1
    rw [← hG, PS.ps_c] at k
    have : (trim G).length - 1 + (W.length - 1) < (monQ p).length := Classical.byContradiction fun hh => k (co_ge (by omega))
    omega
theorem law_SturmRoot (ha : AQX h l) (hi : AV h i) (H : ∀ h', h.le h' → Kb true h') : F.law05_SturmRoot l i Kb h := by
  unfold F.law05_SturmRoot
  refine joinP_inv (fun _ h' => h.le h' ∧ ∃ p, PL h' 3 l p ∧ p.length ≤ 8 ∧ i.low.num.mag.len ≤ 4 ∧ i.low.den.mag.len ≤ 4 ∧ i.high.num.mag.len ≤ 4 ∧ i.high.den.mag.len ≤ 4) ?_ ?_
  · rintro _ h1 ⟨hl1, p, hp, h8, l1, l2, l3, l4⟩
    have cp : CD 28 (co p) := (CD_list (k := 8) hp.bound (by decide) h8).mono (by decide)
    have hl9 := sqf_len8 hp h8 cp
    have hi1 : AV h1 i := hi.le hl1
    refine cp5_call hp (by omega) fun y1 h2 hl2 hy1 => ?_
    have hi2 := hi1.le hl2
    refine pRoot_call hy1 h8 cp (by decide) hi2 ⟨l1, l2, l3, l4⟩ (fun u v h3 hu hv hone hl3 => ?_) (fun hno h3 hl3 => ?_)
    · have k3 := Hp.le_trans hl2 hl3
      have hi3 := hi2.le hl3
      refine rOne_call (hp.le k3) h8 cp (by decide) hi3 ⟨by omega, by omega, by omega, by omega⟩ (fun u' v' b h4 hu' hv' _ _ hl4 hb => ?_) (fun hno h4 hl4 => absurd ⟨u, v, hu.le hl3, hv.le hl3⟩ hno)
      have e1 := NR.inj hu' (hu.le hl3)
      have e2 := NR.inj hv' (hv.le hl3)
      subst e1 e2
      have hbt : b = true := hb.2 hone
      subst hbt
      have k4 := Hp.le_trans k3 hl4
      refine ifP_false rfl ?_
      have bv : BR 4 v' := NR_BR hv (by omega) (by omega)
      refine rRoot_call (hp.le k4) h8 cp (by decide) (hv'.le hl4) bv fun h5 hl5 => ?_
      have := H h5 (Hp.le_trans hl1 (Hp.le_trans k4 hl5))
      exact ifP_true (by rw [beq_iff_eq]; exact rootQ_eq hl9 hone) (by simpa using this)
    · have k3 := Hp.le_trans hl2 hl3
      have hi3 := hi2.le hl3
      have fin : ∀ h4, h3.le h4 → ifP (((0 : Int), (1 : Int)).1 == 0) (Kb (((0 : Int), (1 : Int)).2 == 1) h4) (Kb false h4) := fun h4 hl4 => by
        have := H h4 (Hp.le_trans hl1 (Hp.le_trans k3 hl4))
        exact ifP_true rfl (by simpa using this)
      refine rOne_call (hp.le k3) h8 cp (by decide) hi3 ⟨by omega, by omega, by omega, by omega⟩ (fun u' v' b h4 hu' hv' _ _ hl4 hb => ?_) (fun _ h4 hl4 => ifP_true rfl (fin h4 hl4))
      cases b with
      | true => exact absurd ⟨u', v', hu'.back hi2.1 hl3, hv'.back hi2.2 hl3, hb.1 rfl⟩ hno
      | false => exact ifP_true rfl (fin h4 hl4)
  · refine awake5_call fun h1 hl1 => ifP_false rfl ?_
    refine new_own (n := 1) (size := 1) rfl fun b h2 hb ho => ?_
    have l2 := Hp.le_trans hl1 ho.1
    refine small5_call (ss := [l]) ho.rd (fun s hs => by rw [List.mem_singleton.1 hs]; exact ha.le l2) (by simp) (fun h3 hl3 hsm => ifP_false rfl ?_) (fun h3 hl3 => ifP_true rfl (awake5_call fun h4 hl4 => H _ (Hp.le_trans l2 (Hp.le_trans hl3 hl4))))
    obtain ⟨p, hp, h8⟩ := hsm l (by simp)
    have l3 := Hp.le_trans l2 hl3
    refine ifP_dec (fun _ => awake5_call fun h5 hl5 => H _ (Hp.le_trans l3 hl5)) (fun g1 => ?_)
    refine ifP_dec (fun _ => awake5_call fun h5 hl5 => H _ (Hp.le_trans l3 hl5)) (fun g2 => ?_)
    refine ifP_dec (fun _ => awake5_call fun h5 hl5 => H _ (Hp.le_trans l3 hl5)) (fun g3 => ?_)
    refine ifP_dec (fun _ => awake5_call fun h5 hl5 => H _ (Hp.le_trans l3 hl5)) (fun g4 => ?_)
    exact ⟨l3, p, hp.le hl3, h8, by omega, by omega, by omega, by omega⟩
end
end Den
end
