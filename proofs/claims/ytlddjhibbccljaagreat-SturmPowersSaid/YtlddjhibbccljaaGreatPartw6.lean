/-
  Part 6 of the tools and contracts from which the statement is proved.
-/
import Derived.Test.YtlddjhibbccljaaGreatPartw5
set_option linter.unusedVariables false
section
set_option linter.unusedVariables false
namespace Den
open Go Iv Pq
/-- The number of changes of sign in a list, behind a sign. -/
def vr : Int → List Rat → Nat
  | _, [] => 0
  | s, v :: r => if v.num.sign = 0 then vr s r else (if s = -v.num.sign then 1 else 0) + vr v.num.sign r
theorem vr_cons (s : Int) (v : Rat) (r : List Rat) : vr s (v :: r) = if v.num.sign = 0 then vr s r else (if s = -v.num.sign then 1 else 0) + vr v.num.sign r := rfl
theorem chF_vr (c : Rat) : ∀ (ps : List (List Rat)) (n : Nat) (s : Int), (ps.foldl (fun st p => chS st (ev p c)) (n, s)).1 = n + vr s (ps.map fun p => ev p c)
  | [], n, s => rfl
  | p :: r, n, s => by
    simp only [List.foldl_cons, List.map_cons]
    rw [vr_cons]
    by_cases h0 : (ev p c).num.sign = 0
    · have e : chS (n, s) (ev p c) = (n, s) := by unfold chS; rw [if_pos h0]
      rw [e, if_pos h0]
      exact chF_vr c r n s
    · rw [if_neg h0]
      by_cases h1 : s = -(ev p c).num.sign
      · have e : chS (n, s) (ev p c) = (n + 1, (ev p c).num.sign) := by unfold chS; rw [if_neg h0, if_pos h1]
        rw [e, if_pos h1, chF_vr c r]; omega
      · have e : chS (n, s) (ev p c) = (n, (ev p c).num.sign) := by unfold chS; rw [if_neg h0, if_neg h1]
        rw [e, if_neg h1, chF_vr c r]; omega
theorem chN_vr {ps : List (List Rat)} {c : Rat} : chN ps c = vr 0 (ps.map fun p => ev p c) := by
  unfold chN chF
  rw [chF_vr]; omega
theorem rle {a b : Rat} (h : a ≤ b) : a < b ∨ a = b := by
  by_cases h1 : a < b
  · exact .inl h1
  · exact .inr (Rat.le_antisymm h (Rat.not_lt.1 h1))
theorem tri (a b : Rat) : a < b ∨ a = b ∨ b < a := by
  by_cases h : a < b
  · exact .inl h
  · rcases rle (Rat.not_lt.1 h) with h1 | h1
    · exact .inr (.inr h1)
    · exact .inr (.inl h1.symm)
theorem sg_pos {v : Rat} : v.num.sign = 1 ↔ 0 < v := by
  rw [Int.sign_eq_one_iff_pos]
  have := num_lt (q := -v)
  rw [Rat.neg_num] at this
  constructor
  · intro h; have := this.1 (by omega); grind
  · intro h; have := this.2 (by grind); omega
theorem sg_neg {v : Rat} : v.num.sign = -1 ↔ v < 0 := by
  rw [Int.sign_eq_neg_one_iff_neg]
  exact num_lt
theorem sg_zero {v : Rat} : v.num.sign = 0 ↔ v = 0 := by
  rw [Int.sign_eq_zero_iff_zero]
  exact Rat.num_eq_zero
theorem sg_cases (v : Rat) : (v.num.sign = 1 ∧ 0 < v) ∨ (v.num.sign = 0 ∧ v = 0) ∨ (v.num.sign = -1 ∧ v < 0) := by
  rcases tri v 0 with h | h | h
  · exact .inr (.inr ⟨sg_neg.2 h, h⟩)
  · exact .inr (.inl ⟨sg_zero.2 h, h⟩)
  · exact .inl ⟨sg_pos.2 h, h⟩
theorem mul_pos_cases {a b : Rat} : 0 < a * b → (0 < a ∧ 0 < b) ∨ (a < 0 ∧ b < 0) := fun h => by
  rcases tri a 0 with h1 | h1 | h1
  · right
    refine ⟨h1, Rat.not_le.1 fun h2 => ?_⟩
    have := Rat.mul_nonneg (a := -a) (b := b) (by grind) h2
    grind
  · rw [h1, Rat.zero_mul] at h; exact absurd h (Rat.lt_irrefl)
  · left
    refine ⟨h1, Rat.not_le.1 fun h2 => ?_⟩
    have := Rat.mul_nonneg (a := a) (b := -b) (by grind) (by grind)
    grind
theorem mul_neg_cases {a b : Rat} (h : a * b < 0) : (0 < a ∧ b < 0) ∨ (a < 0 ∧ 0 < b) := by
  have h2 : 0 < a * (-b) := by grind
  rcases mul_pos_cases h2 with ⟨h3, h4⟩ | ⟨h3, h4⟩
  · exact .inl ⟨h3, by grind⟩
  · exact .inr ⟨h3, by grind⟩
/-- Values at two points: each one behind the first has the same sign at both, or its neighbours have opposite signs at both. -/
def Cl : List (Rat × Rat) → Prop
  | [] => True
  | [_] => True
  | [_, b] => 0 < b.1 * b.2
  | a :: b :: c :: r => (0 < b.1 * b.2 ∨ (a.1 * c.1 < 0 ∧ a.2 * c.2 < 0)) ∧ Cl (b :: c :: r)
theorem sgn_same {a : Rat × Rat} (h : 0 < a.1 * a.2) : a.1.num.sign = a.2.num.sign ∧ a.1.num.sign ≠ 0 := by
  rcases mul_pos_cases h with ⟨h1, h2⟩ | ⟨h1, h2⟩
  · rw [sg_pos.2 h1, sg_pos.2 h2]; decide
  · rw [sg_neg.2 h1, sg_neg.2 h2]; decide
theorem vr_opp {a b c : Rat} {r : List Rat} (h : a * c < 0) : vr a.num.sign (b :: c :: r) = 1 + vr c.num.sign r := by
  rcases mul_neg_cases h with ⟨h1, h2⟩ | ⟨h1, h2⟩
  · rw [sg_pos.2 h1, vr_cons, vr_cons, vr_cons, sg_neg.2 h2]
    rcases sg_cases b with ⟨hb, _⟩ | ⟨hb, _⟩ | ⟨hb, _⟩ <;> rw [hb] <;> simp
  · rw [sg_neg.2 h1, vr_cons, vr_cons, vr_cons, sg_pos.2 h2]
    rcases sg_cases b with ⟨hb, _⟩ | ⟨hb, _⟩ | ⟨hb, _⟩ <;> rw [hb] <;> simp
theorem vr_cell : ∀ (n : Nat) (a : Rat × Rat) (L : List (Rat × Rat)), L.length < n → 0 < a.1 * a.2 → Cl (a :: L) → vr a.1.num.sign (L.map (·.1)) = vr a.2.num.sign (L.map (·.2))
  | n + 1, a, [], hn, ha, hc => rfl
  | n + 1, a, [b], hn, ha, hc => by
    have hb : 0 < b.1 * b.2 := hc
    have s1 := sgn_same ha
    have s2 := sgn_same hb
    simp only [List.map_cons, List.map_nil]
    rw [vr_cons, vr_cons, ← s1.1, ← s2.1]
  | n + 1, a, b :: c :: r, hn, ha, hc => by
    obtain ⟨h1, h2⟩ := hc
    have s1 := sgn_same ha
    simp only [List.length_cons] at hn
    rcases h1 with hb | ⟨hx, hy⟩
    · have s2 := sgn_same hb
      have ih := vr_cell n b (c :: r) (by simp only [List.length_cons]; omega) hb h2
      simp only [List.map_cons]
      simp only [List.map_cons] at ih
      rw [vr_cons (r := c.1 :: r.map (·.1)), vr_cons (r := c.2 :: r.map (·.2)), ← s1.1, ih, ← s2.1, if_neg s2.2, if_neg s2.2]
    · simp only [List.map_cons]
      rw [vr_opp hx, vr_opp hy]
      have hcc : 0 < c.1 * c.2 := by
        rcases mul_pos_cases ha with ⟨h3, h4⟩ | ⟨h3, h4⟩ <;> rcases mul_neg_cases hx with ⟨h5, h6⟩ | ⟨h5, h6⟩ <;> rcases mul_neg_cases hy with ⟨h7, h8⟩ | ⟨h7, h8⟩ <;> first | (exfalso; grind) | skip
        · have := Rat.mul_pos (a := -c.1) (b := -c.2) (by grind) (by grind); grind
        · exact Rat.mul_pos h6 h8
      have hc2 : Cl (c :: r) := by
        cases r with
        | nil => trivial
        | cons e r => exact h2.2
      rw [vr_cell n c r (by omega) hcc hc2]
/-- What the changes lose from one point to the next. -/
theorem vr_step {p0 p1 : Rat × Rat} {L : List (Rat × Rat)} (hc : Cl (p0 :: p1 :: L)) (hf : 0 < p0.1 * p0.2 ∨ (0 < p1.1 ∧ 0 < p1.2 ∧ p0.1 < p0.2) ∨ (p1.1 < 0 ∧ p1.2 < 0 ∧ p0.2 < p0.1)) :
    vr 0 ((p0 :: p1 :: L).map (·.1)) = vr 0 ((p0 :: p1 :: L).map (·.2)) + (if p0.1 ≠ 0 ∧ p0.1 * p0.2 ≤ 0 then 1 else 0) := by
  by_cases hp : 0 < p0.1 * p0.2
  · rw [if_neg (by rintro ⟨_, h⟩; exact absurd hp (Rat.not_lt.2 h))]
    have s0 := sgn_same hp
    have := vr_cell _ p0 (p1 :: L) (Nat.lt_succ_self _) hp hc
    simp only [List.map_cons] at this ⊢
    rw [vr_cons 0 p0.1, vr_cons 0 p0.2, ← s0.1, if_neg s0.2, if_neg s0.2, this, ← s0.1]
    rfl
  · have hp1 : 0 < p1.1 * p1.2 := by
      rcases hf with h | ⟨h1, h2, _⟩ | ⟨h1, h2, _⟩
      · exact absurd h hp
      · exact Rat.mul_pos h1 h2
      · have := Rat.mul_pos (a := -p1.1) (b := -p1.2) (by grind) (by grind); grind
    have hc2 : Cl (p1 :: L) := by
      cases L with
      | nil => trivial
      | cons e r => exact hc.2
    have ht := vr_cell _ p1 L (Nat.lt_succ_self _) hp1 hc2
    have s1 := sgn_same hp1
    have hle : p0.1 * p0.2 ≤ 0 := Rat.not_lt.1 hp
    simp only [List.map_cons]
    -- both values with their signs
    have key : ∀ (v w : Rat) (l : List Rat), vr 0 (v :: w :: l) = (if v.num.sign = 0 then vr 0 (w :: l) else vr v.num.sign (w :: l)) := fun v w l => by
      rw [vr_cons]
      split
      · rfl
      · rename_i hh
        rw [if_neg (by omega), Nat.zero_add]
    have k2 : ∀ (s : Int) (w : Rat) (l : List Rat), w.num.sign ≠ 0 → vr s (w :: l) = (if s = -w.num.sign then 1 else 0) + vr w.num.sign l := fun s w l hw => by
      rw [vr_cons, if_neg hw]
    have s2 : p1.2.num.sign ≠ 0 := by rw [← s1.1]; exact s1.2
    rw [key, key, k2 _ _ _ s1.2, k2 _ _ _ s2, k2 _ _ _ s1.2, k2 _ _ _ s2, ht, ← s1.1]
    have hJ : (if p0.1 ≠ 0 ∧ p0.1 * p0.2 ≤ 0 then 1 else 0) = (if p0.1.num.sign = 0 then 0 else 1) := by
      by_cases h0 : p0.1 = 0
      · rw [if_neg (fun hh => hh.1 h0), if_pos (sg_zero.2 h0)]
      · rw [if_pos ⟨h0, hle⟩, if_neg (fun hh => h0 (sg_zero.1 hh))]
    rw [hJ]
    rcases hf with h | ⟨h1, h2, h3⟩ | ⟨h1, h2, h3⟩
    · exact absurd h hp
    · rw [sg_pos.2 h1]
      rcases sg_cases p0.1 with ⟨ha, ha'⟩ | ⟨ha, ha'⟩ | ⟨ha, ha'⟩ <;> rcases sg_cases p0.2 with ⟨hb, hb'⟩ | ⟨hb, hb'⟩ | ⟨hb, hb'⟩ <;> rw [ha, hb] <;> first | (exfalso; grind; done) | (exfalso; have := Rat.mul_pos ha' hb'; grind; done) | (exfalso; have := Rat.mul_pos (a := -p0.1) (b := -p0.2) (by grind) (by grind); grind; done) | (simp; done) | (simp; omega)
    · rw [sg_neg.2 h1]
      rcases sg_cases p0.1 with ⟨ha, ha'⟩ | ⟨ha, ha'⟩ | ⟨ha, ha'⟩ <;> rcases sg_cases p0.2 with ⟨hb, hb'⟩ | ⟨hb, hb'⟩ | ⟨hb, hb'⟩ <;> rw [ha, hb] <;> first | (exfalso; grind; done) | (exfalso; have := Rat.mul_pos ha' hb'; grind; done) | (exfalso; have := Rat.mul_pos (a := -p0.1) (b := -p0.2) (by grind) (by grind); grind; done) | (simp; done) | (simp; omega)

def Bd (B x : Rat) : Prop := -B ≤ x ∧ x ≤ B
theorem Bd.mono {A B x : Rat} (h : Bd A x) (hb : A ≤ B) : Bd B x := ⟨by have := h.1; grind, by have := h.2; grind⟩
theorem Bd.nn {B x : Rat} (h : Bd B x) : 0 ≤ B := by have h1 := h.1; have h2 := h.2; grind
theorem Bd.add {A B x y : Rat} (h1 : Bd A x) (h2 : Bd B y) : Bd (A + B) (x + y) := by
  obtain ⟨a, b⟩ := h1; obtain ⟨c, d⟩ := h2
  constructor <;> grind
theorem Bd.neg {A x : Rat} (h1 : Bd A x) : Bd A (-x) := by
  obtain ⟨a, b⟩ := h1
  constructor <;> grind
theorem Bd.mul {A B x y : Rat} (h1 : Bd A x) (h2 : Bd B y) : Bd (A * B) (x * y) := by
  obtain ⟨a, b⟩ := h1; obtain ⟨c, e⟩ := h2
  have k1 := Rat.mul_nonneg (a := A - x) (b := B + y) (by grind) (by grind)
  have k2 := Rat.mul_nonneg (a := A + x) (b := B - y) (by grind) (by grind)
  have k3 := Rat.mul_nonneg (a := A - x) (b := B - y) (by grind) (by grind)
  have k4 := Rat.mul_nonneg (a := A + x) (b := B + y) (by grind) (by grind)
  constructor <;> grind
theorem Bd.self (x : Rat) : ∃ B, 0 ≤ B ∧ Bd B x := by
  rcases Rat.le_total (a := 0) (b := x) with h | h
  · exact ⟨x, h, by constructor <;> grind⟩
  · exact ⟨-x, by grind, by constructor <;> grind⟩
theorem ev_bd (R : Rat) : ∀ p : List Rat, ∃ B, 0 ≤ B ∧ ∀ x, Bd R x → Bd B (ev p x)
  | [] => ⟨0, Rat.le_refl, fun x _ => by show Bd 0 0; constructor <;> grind⟩
  | c :: r => by
    obtain ⟨B, hB, h⟩ := ev_bd R r
    obtain ⟨C, hC, hc⟩ := Bd.self c
    by_cases hR : 0 ≤ R
    · refine ⟨C + B * R, ?_, fun x hx => hc.add ((h x hx).mul hx)⟩
      have := Rat.mul_nonneg hB hR
      grind
    · exact ⟨0, Rat.le_refl, fun x hx => absurd hx.nn hR⟩
/-- The quotient of differences. -/
def dq : List Rat → Rat → Rat → Rat
  | [], _, _ => 0
  | c :: r, x, y => ev r y + x * dq r x y
theorem dq_eq : ∀ (p : List Rat) (x y : Rat), ev p y - ev p x = (y - x) * dq p x y
  | [], x, y => by show (0 : Rat) - 0 = (y - x) * 0; grind
  | c :: r, x, y => by
    have ih := dq_eq r x y
    show (c + ev r y * y) - (c + ev r x * x) = (y - x) * (ev r y + x * dq r x y)
    grind
theorem dq_bd (R : Rat) : ∀ p : List Rat, ∃ B, 0 ≤ B ∧ ∀ x y, Bd R x → Bd R y → Bd B (dq p x y)
  | [] => ⟨0, Rat.le_refl, fun x y _ _ => by show Bd 0 0; constructor <;> grind⟩
  | c :: r => by
    obtain ⟨B, hB, h⟩ := dq_bd R r
    obtain ⟨C, hC, hc⟩ := ev_bd R r
    by_cases hR : 0 ≤ R
    · refine ⟨C + R * B, ?_, fun x y hx hy => (hc y hy).add (hx.mul (h x y hx hy))⟩
      have := Rat.mul_nonneg hR hB
      grind
    · exact ⟨0, Rat.le_refl, fun x y hx => absurd hx.nn hR⟩
def ddq : List Rat → Rat → Rat → Rat
  | [], _, _ => 0
  | c :: r, x, y => dq r x y + x * ddq r x y
theorem ddq_eq : ∀ (p : List Rat) (x y : Rat), dq p x y - dq p x x = (y - x) * ddq p x y
  | [], x, y => by show (0 : Rat) - 0 = (y - x) * 0; grind
  | c :: r, x, y => by
    have ih := ddq_eq r x y
    have h2 := dq_eq r x y
    show (ev r y + x * dq r x y) - (ev r x + x * dq r x x) = (y - x) * (dq r x y + x * ddq r x y)
    grind
theorem ddq_bd (R : Rat) : ∀ p : List Rat, ∃ B, 0 ≤ B ∧ ∀ x y, Bd R x → Bd R y → Bd B (ddq p x y)
  | [] => ⟨0, Rat.le_refl, fun x y _ _ => by show Bd 0 0; constructor <;> grind⟩
  | c :: r => by
    obtain ⟨B, hB, h⟩ := ddq_bd R r
    obtain ⟨C, hC, hc⟩ := dq_bd R r
    by_cases hR : 0 ≤ R
    · refine ⟨C + R * B, ?_, fun x y hx hy => (hc x y hx hy).add (hx.mul (h x y hx hy))⟩
      have := Rat.mul_nonneg hR hB
      grind
    · exact ⟨0, Rat.le_refl, fun x y hx => absurd hx.nn hR⟩
/-- The derivative, as a list. -/
def drv : List Rat → List Rat
  | [] => []
  | _ :: r => addL r (0 :: drv r)
theorem dq_drv : ∀ (p : List Rat) (x : Rat), dq p x x = ev (drv p) x
  | [], x => rfl
  | c :: r, x => by
    have ih := dq_drv r x
    show ev r x + x * dq r x x = ev (addL r (0 :: drv r)) x
    rw [ev_addL, ih]
    show _ = ev r x + (0 + ev (drv r) x * x)
    grind
theorem co_drv : ∀ (p : List Rat) (i : Nat), co (drv p) i = der (co p) i
  | [], i => by
    show (0 : Rat) = _ * 0
    rw [Rat.mul_zero]
  | c :: r, i => by
    show co (addL r (0 :: drv r)) i = ((i + 1 : Nat) : Rat) * co r i
    rw [co_addL]
    cases i with
    | zero =>
      show co r 0 + 0 = _
      have : ((0 + 1 : Nat) : Rat) = 1 := rfl
      rw [this]; grind
    | succ i =>
      show co r (i + 1) + co (drv r) i = _
      rw [co_drv r i]
      unfold der
      have : ((i + 1 + 1 : Nat) : Rat) = ((i + 1 : Nat) : Rat) + 1 := Rat.natCast_add (i + 1) 1
      rw [this]; grind
theorem dq_derL (p : List Rat) (x : Rat) : dq p x x = ev (trim (derL p)) x := by
  rw [dq_drv, ev_trim]
  exact ev_congr fun i => by rw [co_drv, co_derL]
end Den
end

section
set_option linter.unusedVariables false
namespace Den
open Go Iv Pq
theorem sq_nn (u : Rat) : 0 ≤ u * u := by
  rcases Rat.le_total (a := 0) (b := u) with h | h
  · exact Rat.mul_nonneg h h
  · have := Rat.mul_nonneg (a := -u) (b := -u) (by grind) (by grind)
    grind
theorem opp_of {a b c q u v ε U V Q : Rat} (h1 : q * b = a + c) (h2 : u * a + v * b = 1) (hb : Bd ε b) (hu : Bd U u) (hv : Bd V v) (hq : Bd Q q) (e1 : V * ε ≤ 1 / 4) (e2 : U * Q * ε ≤ 1 / 4) : a * c < 0 := by
  have k1 := (hv.mul hb).2
  have k2 := ((hu.mul hq).mul hb).2
  have w : 3 / 4 ≤ u * a := by grind
  have w2 : 1 / 2 ≤ u * a - u * q * b := by grind
  have p := Rat.mul_pos (a := u * a) (b := u * a - u * q * b) (by grind) (by grind)
  refine Rat.not_le.1 fun hh => ?_
  have n1 := Rat.mul_nonneg (sq_nn u) hh
  have e : u * u * (a * c) = -((u * a) * (u * a - u * q * b)) := by grind
  grind
theorem sm_of {x y δ l L bx b2 : Rat} (hxy : ¬ 0 < bx * b2) (h : b2 - bx = (y - x) * l) (hl : Bd L l) (h0 : x ≤ y) (hd : y - x ≤ δ) : Bd (δ * L) bx ∧ Bd (δ * L) b2 := by
  have hb : Bd δ (y - x) := ⟨by grind, hd⟩
  have k := hb.mul hl
  rw [← h] at k
  obtain ⟨k1, k2⟩ := k
  rcases Rat.le_total (a := 0) (b := bx) with s1 | s1 <;> rcases Rat.le_total (a := 0) (b := b2) with s2 | s2
  · rcases rle s1 with t1 | t1
    · rcases rle s2 with t2 | t2
      · exact absurd (Rat.mul_pos t1 t2) hxy
      · constructor <;> constructor <;> grind
    · constructor <;> constructor <;> grind
  · constructor <;> constructor <;> grind
  · constructor <;> constructor <;> grind
  · rcases rle s1 with t1 | t1
    · rcases rle s2 with t2 | t2
      · exact absurd (by have := Rat.mul_pos (a := -bx) (b := -b2) (by grind) (by grind); grind) hxy
      · constructor <;> constructor <;> grind
    · constructor <;> constructor <;> grind
/-- A small positive number for a bound. -/
theorem eps_of {E L : Rat} (hE : 0 ≤ E) (hL : 0 ≤ L) : ∃ δ : Rat, 0 < δ ∧ ∀ e, 0 ≤ e → e ≤ E → e * (δ * L) ≤ 1 / 4 := by
  have hp : 0 < 4 * ((1 + E) * (1 + L)) := by
    have := Rat.mul_pos (a := 1 + E) (b := 1 + L) (by grind) (by grind)
    grind
  refine ⟨(4 * ((1 + E) * (1 + L)))⁻¹, Rat.inv_pos.2 hp, fun e h0 he => ?_⟩
  have hi := Rat.mul_inv_cancel _ (show 4 * ((1 + E) * (1 + L)) ≠ 0 by grind)
  have hd := Rat.inv_pos.2 hp
  generalize (4 * ((1 + E) * (1 + L)))⁻¹ = δ at *
  have k1 : 0 ≤ (1 + E) * (1 + L) - e * L := by
    have h1 := Rat.mul_nonneg (a := E - e) (b := L) (by grind) hL
    grind
  have k2 := Rat.mul_nonneg k1 (Rat.le_of_lt hd)
  grind
theorem min_of {a b : Rat} (ha : 0 < a) (hb : 0 < b) : ∃ c, 0 < c ∧ c ≤ a ∧ c ≤ b := by
  rcases Rat.le_total (a := a) (b := b) with h | h
  · exact ⟨a, ha, Rat.le_refl, h⟩
  · exact ⟨b, hb, h, Rat.le_refl⟩
theorem triple {a b c q u v : List Rat} (R : Rat) (h1 : ∀ x, ev q x * ev b x = ev a x + ev c x) (h2 : ∀ x, ev u x * ev a x + ev v x * ev b x = 1) :
    ∃ δ : Rat, 0 < δ ∧ ∀ x y, Bd R x → Bd R y → x ≤ y → y - x ≤ δ → 0 < ev b x * ev b y ∨ (ev a x * ev c x < 0 ∧ ev a y * ev c y < 0) := by
  obtain ⟨Q, hQ, bq⟩ := ev_bd R q
  obtain ⟨U, hU, bu⟩ := ev_bd R u
  obtain ⟨V, hV, bv⟩ := ev_bd R v
  obtain ⟨L, hL, bl⟩ := dq_bd R b
  have hUQ := Rat.mul_nonneg hU hQ
  obtain ⟨δ, hd, he⟩ := eps_of (E := V + U * Q) (L := L) (by grind) hL
  refine ⟨δ, hd, fun x y hx hy hxy hs => ?_⟩
  by_cases hb : 0 < ev b x * ev b y
  · exact .inl hb
  · right
    obtain ⟨k1, k2⟩ := sm_of hb (dq_eq b x y) (bl x y hx hy) hxy hs
    have e1 := he V hV (by grind)
    have e2 := he (U * Q) hUQ (by grind)
    exact ⟨opp_of (h1 x) (h2 x) k1 (bu x hx) (bv x hx) (bq x hx) e1 e2, opp_of (h1 y) (h2 y) k2 (bu y hy) (bv y hy) (bq y hy) e1 e2⟩
theorem first {p d u v : List Rat} (R : Rat) (h1 : ∀ x, dq p x x = ev d x) (h2 : ∀ x, ev u x * ev p x + ev v x * ev d x = 1) :
    ∃ δ : Rat, 0 < δ ∧ ∀ x y, Bd R x → Bd R y → x < y → y - x ≤ δ → 0 < ev p x * ev p y ∨ (0 < ev d x ∧ 0 < ev d y ∧ ev p x < ev p y) ∨ (ev d x < 0 ∧ ev d y < 0 ∧ ev p y < ev p x) := by
  obtain ⟨U, hU, bu⟩ := ev_bd R u
  obtain ⟨V, hV, bv⟩ := ev_bd R v
  obtain ⟨L, hL, bl⟩ := dq_bd R p
  obtain ⟨M, hM, bm⟩ := ddq_bd R p
  obtain ⟨N, hN, bn⟩ := dq_bd R d
  obtain ⟨δ1, hd1, he1⟩ := eps_of hU hL
  obtain ⟨δ2, hd2, he2⟩ := eps_of hV hM
  obtain ⟨δ3, hd3, he3⟩ := eps_of hV hN
  obtain ⟨δ4, hd4, l1, l2⟩ := min_of hd1 hd2
  obtain ⟨δ, hd, l3, l4⟩ := min_of hd4 hd3
  refine ⟨δ, hd, fun x y hx hy hxy hs => ?_⟩
  by_cases hp : 0 < ev p x * ev p y
  · exact .inl hp
  · right
    have hxy' : x ≤ y := Rat.le_of_lt hxy
    obtain ⟨k1, _⟩ := sm_of hp (dq_eq p x y) (bl x y hx hy) hxy' (δ := δ1) (by grind)
    have e1 := he1 U hU Rat.le_refl
    have e2 := he2 V hV Rat.le_refl
    have e3 := he3 V hV Rat.le_refl
    have w : 3 / 4 ≤ ev v x * ev d x := by
      have := ((bu x hx).mul k1).2
      have := h2 x
      grind
    have b2 : Bd δ2 (y - x) := ⟨by grind, by grind⟩
    have b3 : Bd δ3 (y - x) := ⟨by grind, by grind⟩
    -- the slope between both points, and the derivative at the second one
    have w2 : 1 / 2 ≤ ev v x * dq p x y := by
      have g1 := ((bv x hx).mul (b2.mul (bm x y hx hy))).1
      have g2 := ddq_eq p x y
      rw [h1] at g2
      have g3 : ev v x * dq p x y = ev v x * ev d x + ev v x * ((y - x) * ddq p x y) := by rw [← g2]; grind
      grind
    have w3 : 1 / 2 ≤ ev v x * ev d y := by
      have g1 := ((bv x hx).mul (b3.mul (bn x y hx hy))).1
      have g2 := dq_eq d x y
      have g3 : ev v x * ev d y = ev v x * ev d x + ev v x * ((y - x) * dq d x y) := by rw [← g2]; grind
      grind
    have g := dq_eq p x y
    rcases mul_pos_cases (a := ev v x) (b := ev d x) (by grind) with ⟨s1, s2⟩ | ⟨s1, s2⟩
    · left
      rcases mul_pos_cases (a := ev v x) (b := dq p x y) (by grind) with ⟨_, s3⟩ | ⟨s3, _⟩
      · rcases mul_pos_cases (a := ev v x) (b := ev d y) (by grind) with ⟨_, s4⟩ | ⟨s4, _⟩
        · have := Rat.mul_pos (a := y - x) (b := dq p x y) (by grind) s3
          exact ⟨s2, s4, by grind⟩
        · grind
      · grind
    · right
      rcases mul_pos_cases (a := ev v x) (b := dq p x y) (by grind) with ⟨s3, _⟩ | ⟨_, s3⟩
      · grind
      · rcases mul_pos_cases (a := ev v x) (b := ev d y) (by grind) with ⟨s4, _⟩ | ⟨_, s4⟩
        · grind
        · have := Rat.mul_pos (a := y - x) (b := -(dq p x y)) (by grind) (by grind)
          exact ⟨s2, s4, by grind⟩
/-- A chain, by its values. -/
def StE : List (List Rat) → Prop
  | [] => True
  | [_] => True
  | [_, b] => ∃ k : Rat, k ≠ 0 ∧ ∀ x, ev b x = k
  | a :: b :: c :: r => (∃ q, ∀ x, ev q x * ev b x = ev a x + ev c x) ∧ (∃ u v, ∀ x, ev u x * ev a x + ev v x * ev b x = 1) ∧ StE (b :: c :: r)
theorem StE.cell (R : Rat) : ∀ {ps : List (List Rat)}, StE ps → ∃ δ : Rat, 0 < δ ∧ ∀ x y, Bd R x → Bd R y → x ≤ y → y - x ≤ δ → Cl (ps.map fun p => (ev p x, ev p y))
  | [], _ => ⟨1, by decide, fun _ _ _ _ _ _ => trivial⟩
  | [_], _ => ⟨1, by decide, fun _ _ _ _ _ _ => trivial⟩
  | [_, b], ⟨k, hk, h⟩ => ⟨1, by decide, fun x y _ _ _ _ => by
      show 0 < ev b x * ev b y
      rw [h, h]
      rcases tri k 0 with h1 | h1 | h1
      · have := Rat.mul_pos (a := -k) (b := -k) (by grind) (by grind); grind
      · exact absurd h1 hk
      · exact Rat.mul_pos h1 h1⟩
  | a :: b :: c :: r, ⟨⟨q, hq⟩, ⟨u, v, huv⟩, hr⟩ => by
    obtain ⟨δ1, d1, h1⟩ := triple R hq huv
    obtain ⟨δ2, d2, h2⟩ := StE.cell R hr
    obtain ⟨δ, d3, l1, l2⟩ := min_of d1 d2
    exact ⟨δ, d3, fun x y hx hy hxy hs => ⟨h1 x y hx hy hxy (Rat.le_trans hs l1), h2 x y hx hy hxy (Rat.le_trans hs l2)⟩⟩
theorem StE.first (R : Rat) {p d : List Rat} {r : List (List Rat)} (h : StE (p :: d :: r)) (hd : ∀ x, dq p x x = ev d x) : ∃ δ : Rat, 0 < δ ∧ ∀ x y, Bd R x → Bd R y → x < y → y - x ≤ δ →
    chN (p :: d :: r) x = chN (p :: d :: r) y + (if ev p x ≠ 0 ∧ ev p x * ev p y ≤ 0 then 1 else 0) := by
  have hb : ∃ u v, ∀ x, ev u x * ev p x + ev v x * ev d x = 1 := by
    cases r with
    | nil =>
      obtain ⟨k, hk, h1⟩ := h
      refine ⟨[], [1 / k], fun x => ?_⟩
      rw [h1]
      show 0 * _ + (1 / k + 0 * x) * k = 1
      have := Rat.div_mul_cancel (a := (1 : Rat)) hk
      grind
    | cons c r => exact h.2.1
  obtain ⟨u, v, huv⟩ := hb
  obtain ⟨δ1, d1, h1⟩ := Den.first R hd huv
  obtain ⟨δ2, d2, h2⟩ := StE.cell R h
  obtain ⟨δ, d3, l1, l2⟩ := min_of d1 d2
  refine ⟨δ, d3, fun x y hx hy hxy hs => ?_⟩
  have := vr_step (p0 := (ev p x, ev p y)) (p1 := (ev d x, ev d y)) (L := r.map fun p => (ev p x, ev p y)) (h2 x y hx hy (Rat.le_of_lt hxy) (Rat.le_trans hs l2)) (h1 x y hx hy hxy (Rat.le_trans hs l1))
  rw [chN_vr, chN_vr]
  simp only [List.map_cons, List.map_map] at this ⊢
  exact this
theorem arch {t δ : Rat} (hd : 0 < δ) : ∃ n : Nat, t ≤ (n : Rat) * δ := by
  refine ⟨(t / δ).num.natAbs, ?_⟩
  have h1 : t / δ ≤ (((t / δ).num.natAbs : Nat) : Rat) := by
    have h2 := rat_num_den (t / δ)
    have h3 : (1 : Rat) ≤ (((t / δ).den : Nat) : Rat) := by
      have := (t / δ).den_pos
      have h4 : ((1 : Nat) : Rat) ≤ (((t / δ).den : Nat) : Rat) := Rat.natCast_le_natCast.2 (by omega)
      exact h4
    have h5 : ((t / δ).num : Rat) ≤ (((t / δ).num.natAbs : Nat) : Rat) := by
      rw [← Rat.intCast_natCast]
      exact Rat.intCast_le_intCast.2 (by omega)
    have h6 : (0 : Rat) ≤ (((t / δ).num.natAbs : Nat) : Rat) := by
      rw [← Rat.intCast_natCast]
      exact Rat.intCast_nonneg.2 (by omega)
    generalize ((t / δ).num : Rat) = m at *
    generalize (((t / δ).num.natAbs : Nat) : Rat) = M at *
    generalize (((t / δ).den : Nat) : Rat) = D at *
    generalize t / δ = z at *
    refine Rat.not_lt.1 fun hh => ?_
    have := Rat.mul_nonneg (a := z) (b := D - 1) (by grind) (by grind)
    grind
  have h2 := Rat.mul_nonneg (a := (((t / δ).num.natAbs : Nat) : Rat) - t / δ) (b := δ) (by grind) (Rat.le_of_lt hd)
  have h3 : t / δ * δ = t := Rat.div_mul_cancel (by grind)
  grind
theorem mesh {P : Rat → Rat → Prop} {δ u v : Rat} (hd : 0 < δ) (h1 : ∀ x y, u ≤ x → x < y → y ≤ v → y - x ≤ δ → P x y) (h2 : ∀ x y z, u ≤ x → x < y → y < z → z ≤ v → P x y → P y z → P x z) (huv : u < v) : P u v := by
  have key : ∀ (n : Nat) (x : Rat), u ≤ x → x < v → v - x ≤ (n : Rat) * δ → P x v := by
    intro n
    induction n with
    | zero =>
      intro x hx hxv hn
      exfalso
      have : ((0 : Nat) : Rat) = 0 := rfl
      rw [this, Rat.zero_mul] at hn
      grind
    | succ n ih =>
      intro x hx hxv hn
      by_cases hs : v - x ≤ δ
      · exact h1 x v hx hxv Rat.le_refl hs
      · have e : ((n + 1 : Nat) : Rat) = (n : Rat) + 1 := Rat.natCast_add n 1
        rw [e] at hn
        refine h2 x (x + δ) v hx (by grind) (by grind) Rat.le_refl (h1 x (x + δ) hx (by grind) (by grind) (by grind)) (ih (x + δ) (by grind) (by grind) (by grind))
  obtain ⟨n, hn⟩ := arch (t := v - u) hd
  exact key n u Rat.le_refl huv hn
end Den
end

section
set_option linter.unusedVariables false
namespace Den
open Go Iv Pq PS
theorem toL {u : PS} (hu : Fs u) : ∃ l : List Rat, ps l = u := by
  obtain ⟨n, hn⟩ := hu
  refine ⟨(List.range n).map u.c, PS.ext fun j => ?_⟩
  rw [ps_c, co_range]
  split
  · rfl
  · exact (hn j (by omega)).symm
theorem ev_tri {a b c q : List Rat} (h : ps a = ps q * ps b - ps c) (x : Rat) : ev q x * ev b x = ev a x + ev c x := by
  rw [← ev_mulL, ← ev_addL]
  refine ev_congr fun i => ?_
  have := congrArg (fun s : PS => s.c i) h
  simp only [c_sub, c_mul, ps_c] at this
  rw [co_mulL, co_addL, this]
  have e : conv (ps q).c (ps b).c i = conv (co q) (co b) i := rfl
  grind
theorem ev_comb {a b u v : List Rat} {k : Rat} (h : ps u * ps a + ps v * ps b = cst k) (x : Rat) : ev u x * ev a x + ev v x * ev b x = k := by
  have e : ev (addL (mulL u a) (mulL v b)) x = ev [k] x := ev_congr fun i => by
    have := congrArg (fun s : PS => s.c i) h
    simp only [c_add, c_mul, c_cst] at this
    rw [co_addL, co_mulL, co_mulL]
    have e2 : co [k] i = if i = 0 then k else 0 := by
      cases i with
      | zero => rfl
      | succ i => rfl
    rw [e2]
    exact this
  rw [ev_addL, ev_mulL, ev_mulL] at e
  rw [e]
  show k + 0 * x = k
  grind
theorem ev_cst {b : List Rat} {k : Rat} (h : ps b = cst k) (x : Rat) : ev b x = k := by
  have e : ev b x = ev [k] x := ev_congr fun i => by
    have := congrArg (fun s : PS => s.c i) h
    simp only [c_cst, ps_c] at this
    have e2 : co [k] i = if i = 0 then k else 0 := by
      cases i with
      | zero => rfl
      | succ i => rfl
    rw [e2]; exact this
  rw [e]
  show k + 0 * x = k
  grind
/-- A chain of polynomials. -/
def StP : List (List Rat) → Prop
  | [] => True
  | [_] => True
  | [a, b] => ∃ u : PS, Fs u ∧ ps a = u * ps b
  | a :: b :: c :: r => (∃ u : PS, Fs u ∧ ps a = u * ps b - ps c) ∧ StP (b :: c :: r)
theorem chn_StP : ∀ {n : Nat} {p q : List Rat}, nf q → q ≠ [] → q.length ≤ n → StP (p :: chn n p q)
  | 0, p, q, _, h0, hl => absurd (List.length_pos_iff.2 h0) (by omega)
  | n + 1, p, q, hq, h0, hl => by
    have ht : trim q ≠ [] := by rw [trim_nf hq]; exact h0
    obtain ⟨u, hu, hr⟩ := rem_eq (p := p) ht
    have e : chn (n + 1) p q = q :: chn n q (negT (remL p q)) := by
      show (if q = [] then [] else q :: chn n q (negT (remL p q))) = _
      rw [if_neg h0]
    rw [e]
    by_cases hz : remL p q = []
    · rw [hz, negT_nil, chn_nil]
      rw [hz, ps_nil] at hr
      exact ⟨u, hu, by rw [hr]; grind⟩
    · have hz2 := negT_ne nf_remL hz
      have hlen : (negT (remL p q)).length ≤ n := by
        rw [negT_len nf_remL]
        have := remL_len (p := p) (q := q)
        rw [trim_nf hq] at this
        omega
      have ih := chn_StP (n := n) (p := q) (q := negT (remL p q)) nf_negT hz2 hlen
      obtain ⟨m, rfl⟩ : ∃ m, n = m + 1 := ⟨n - 1, by have := List.length_pos_iff.2 hz2; omega⟩
      have e2 : chn (m + 1) q (negT (remL p q)) = negT (remL p q) :: chn m (negT (remL p q)) (negT (remL q (negT (remL p q)))) := by
        show (if negT (remL p q) = [] then [] else negT (remL p q) :: chn m (negT (remL p q)) (negT (remL q (negT (remL p q))))) = _
        rw [if_neg hz2]
      rw [e2] at ih ⊢
      exact ⟨⟨u, hu, by rw [hr, ps_neg]; grind⟩, ih⟩
/-- The last member divides all, and is a combination of the first two. -/
theorem StP.last : ∀ {L : List (List Rat)} {a b : List Rat}, StP (a :: b :: L) → ∃ s t A B : PS, Fs s ∧ Fs t ∧ Fs A ∧ Fs B ∧ ps ((b :: L).getLast (by simp)) = s * ps a + t * ps b ∧ ps a = ps ((b :: L).getLast (by simp)) * A ∧ ps b = ps ((b :: L).getLast (by simp)) * B
  | [], a, b, ⟨u, hu, h⟩ => ⟨0, 1, u, 1, Fs.cst 0, Fs.cst 1, hu, Fs.cst 1, by simp only [List.getLast_singleton]; grind, by simp only [List.getLast_singleton]; grind, by simp only [List.getLast_singleton]; grind⟩
  | c :: r, a, b, ⟨⟨u, hu, h⟩, hr⟩ => by
    obtain ⟨s, t, B, C, f1, f2, f3, f4, e1, e2, e3⟩ := StP.last hr
    have el : (b :: c :: r).getLast (by simp) = (c :: r).getLast (by simp) := List.getLast_cons (by simp)
    rw [el]
    generalize ps ((c :: r).getLast (by simp)) = e at *
    exact ⟨-t, s + t * u, u * B - C, B, f2.neg, f1.add (f2.mul hu), (hu.mul f3).sub f4, f3, by rw [e1]; grind, by grind, e2⟩
theorem cst_mul (a b : Rat) : cst a * cst b = cst (a * b) := PS.ext fun i => by
  rw [c_cstm, c_cst, c_cst]
  split
  · rfl
  · exact Rat.mul_zero _
theorem StP.toE {k : Rat} (hk : k ≠ 0) : ∀ {L : List (List Rat)} {a b : List Rat}, StP (a :: b :: L) → ps ((b :: L).getLast (by simp)) = cst k → StE (a :: b :: L)
  | [], a, b, h, hl => ⟨k, hk, fun x => ev_cst hl x⟩
  | c :: r, a, b, h, hl => by
    obtain ⟨s, t, A, B, f1, f2, f3, f4, e1, e2, e3⟩ := StP.last h
    rw [hl] at e1
    obtain ⟨⟨u, hu, h1⟩, hr⟩ := h
    obtain ⟨q, rfl⟩ := toL hu
    obtain ⟨s', hs'⟩ := toL ((Fs.cst (1 / k)).mul f1)
    obtain ⟨t', ht'⟩ := toL ((Fs.cst (1 / k)).mul f2)
    refine ⟨⟨q, fun x => ev_tri h1 x⟩, ⟨s', t', fun x => ev_comb ?_ x⟩, StP.toE hk hr (by
      have el : (b :: c :: r).getLast (by simp) = (c :: r).getLast (by simp) := List.getLast_cons (by simp)
      rw [← el]; exact hl)⟩
    rw [hs', ht']
    have e5 : cst (1 / k) * cst k = cst 1 := by rw [cst_mul, Rat.div_mul_cancel hk]
    have e6 : cst (1 / k) * s * ps a + cst (1 / k) * t * ps b = cst (1 / k) * cst k := by rw [e1]; grind
    rw [e6, e5]
/-- The squarefree part. -/
theorem sqf_spec {p : List Rat} (h0 : trim p ≠ []) : ∃ g A B s t : PS, Fs g ∧ Fs A ∧ Fs B ∧ Fs s ∧ Fs t ∧ g ≠ 0 ∧ A ≠ 0 ∧ ps (monQ p) = g * A ∧ d (g * A) = g * B ∧ s * A + t * B = 1 ∧ ∃ k : Rat, k ≠ 0 ∧ ps (sqfL p) = cst k * A := by
  obtain ⟨M, hM⟩ : ∃ M, M = monQ p := ⟨_, rfl⟩
  have nM : nf M := by rw [hM]; exact nf_monQ
  have hM0 : M ≠ [] := fun hh => h0 (List.eq_nil_of_length_eq_zero (by rw [← monQ_len, ← hM, hh]; rfl))
  have tM : trim M ≠ [] := by rw [trim_nf nM]; exact hM0
  have pM : ps M ≠ 0 := fun hh => tM (ps_eq_nil hh)
  obtain ⟨D, hD⟩ : ∃ D, D = trim (derL M) := ⟨_, rfl⟩
  have dD : ps D = d (ps M) := by rw [hD]; exact ps_der M
  obtain ⟨a, b, x', y', fa, fb, fx, fy, e1, e2, e3⟩ := gcd_comb (n := (monQ D).length + 1) (x := monQ M) (y := monQ D) nf_monQ (Nat.lt_succ_self _)
  obtain ⟨G, hG⟩ : ∃ G, G = gcdQ M D := ⟨_, rfl⟩
  have eG : gcdS ((monQ D).length + 1) (monQ M) (monQ D) = G := by rw [hG]; rfl
  rw [eG] at e1 e2 e3
  obtain ⟨k1, hk1, m1, m2⟩ := ps_mon tM
  -- M = G A, M' = G B, G = a1 M + b1 M'
  have hB : ∃ b1 B : PS, Fs b1 ∧ Fs B ∧ ps G = a * cst k1 * ps M + b1 * d (ps M) ∧ d (ps M) = ps G * B := by
    by_cases hz : trim D = []
    · have z1 : ps D = 0 := by rw [← ps_trim, hz, ps_nil]
      rw [ps_mon_nil hz, ps_nil] at e1
      rw [z1] at dD
      exact ⟨0, 0, Fs.cst 0, Fs.cst 0, by rw [e1, m1]; grind, by rw [← dD]; grind⟩
    · obtain ⟨k2, hk2, n1, n2⟩ := ps_mon hz
      rw [n1] at e1
      exact ⟨b * cst k2, cst (1 / k2) * y', fb.mul (Fs.cst _), (Fs.cst _).mul fy, by rw [← dD, e1, m1]; grind, by rw [← dD, n2, e3]; grind⟩
  obtain ⟨b1, B, fb1, fB, g1, g2⟩ := hB
  have hA : ps M = ps G * (cst (1 / k1) * x') := by rw [m2, e2]; grind
  obtain ⟨A, eA⟩ : ∃ A, A = cst (1 / k1) * x' := ⟨_, rfl⟩
  have fA : Fs A := by rw [eA]; exact (Fs.cst _).mul fx
  rw [← eA] at hA
  have hG0 : ps G ≠ 0 := fun hh => pM (by rw [hA, hh]; grind)
  have hA0 : A ≠ 0 := fun hh => pM (by rw [hA, hh]; grind)
  have one : a * cst k1 * A + b1 * B = 1 := by
    refine cancel hG0 ?_
    have : ps G = a * cst k1 * (ps G * A) + b1 * (ps G * B) := by rw [← hA, ← g2]; exact g1
    grind
  -- the quotient
  have tG : trim G ≠ [] := fun hh => hG0 (by rw [← ps_trim, hh, ps_nil])
  obtain ⟨lA, hlA⟩ := toL fA
  have hq : trim lA = quoL M G := quoL_of (rs := []) tG ⟨fun j => by
    have := congrArg (fun s : PS => s.c j) hA
    simp only [c_mul, ps_c] at this
    rw [co_nil, Rat.add_zero, this, ← hlA]
    exact conv_comm, fun j _ => co_nil⟩
  have es : sqfL p = monQ (quoL M G) := by unfold sqfL; rw [if_neg h0, ← hM, ← hD, ← hG]
  have tq : trim (quoL M G) ≠ [] := fun hh => hA0 (by rw [← hlA, ← ps_trim, hq, ← ps_trim, hh, ps_nil])
  obtain ⟨k, hk, w1, w2⟩ := ps_mon tq
  refine ⟨ps G, A, B, a * cst k1, b1, ps_fs G, fA, fB, fa.mul (Fs.cst _), fb1, hG0, hA0, by rw [← hM]; exact hA, by rw [← hA]; exact g2, one, k, hk, ?_⟩
  rw [es, w1, ← hq, ps_trim, hlA]
theorem chn_last {n : Nat} {p q : List Rat} (hq : nf q) (h0 : q ≠ []) (hl : q.length ≤ n) : ∃ r, chn n p q = q :: r := by
  obtain ⟨m, rfl⟩ : ∃ m, n = m + 1 := ⟨n - 1, by have := List.length_pos_iff.2 h0; omega⟩
  exact ⟨_, by show (if q = [] then [] else _) = _; rw [if_neg h0]⟩
/-- The changes of the chain, from one point to a near one. -/
theorem sturm_step {p : List Rat} (h2 : 2 ≤ (trim p).length) (hl : (sqfL p).length ≤ 9) (R : Rat) : ∃ δ : Rat, 0 < δ ∧ ∀ x y, Bd R x → Bd R y → x < y → y - x ≤ δ →
    chN (chainL p) x = chN (chainL p) y + (if ev (sqfL p) x ≠ 0 ∧ ev (sqfL p) x * ev (sqfL p) y ≤ 0 then 1 else 0) := by
  have h0 : trim p ≠ [] := fun hh => by rw [hh] at h2; simp at h2
  obtain ⟨g, A, B, s, t, fg, fA, fB, fs, ft, hg0, hA0, eM, eD, one, k, hk, eW⟩ := sqf_spec h0
  obtain ⟨W, hW⟩ : ∃ W, W = sqfL p := ⟨_, rfl⟩
  have ec : chainL p = W :: chn 9 W (trim (derL W)) := by unfold chainL; rw [if_neg (by omega), ← hW]
  rw [ec, ← hW]
  rw [← hW] at eW hl
  have hW0 : ps W ≠ 0 := fun hh => by
    rw [hh] at eW
    rcases PS.mul_eq_zero eW.symm with h3 | h3
    · have := congrArg (fun s : PS => s.c 0) h3
      simp only [c_cst, c_zero, if_true] at this
      exact hk this
    · exact hA0 h3
  by_cases hD : trim (derL W) = []
  · -- a constant
    rw [hD, chn_nil]
    have z : d (ps W) = 0 := by rw [← ps_der, hD, ps_nil]
    have hc : ps W = cst (co W 0) := PS.ext fun i => by
      rw [c_cst]
      cases i with
      | zero => rfl
      | succ i =>
        rw [if_neg (by omega)]
        have := congrArg (fun s : PS => s.c i) z
        simp only [c_zero] at this
        have h3 : ((i + 1 : Nat) : Rat) * co W (i + 1) = 0 := this
        rcases Rat.mul_eq_zero.1 h3 with h4 | h4
        · exact absurd h4 (by
            intro h5
            have := Rat.natCast_inj.1 (show ((i + 1 : Nat) : Rat) = ((0 : Nat) : Rat) from h5)
            omega)
        · exact h4
    refine ⟨1, by decide, fun x y _ _ _ _ => ?_⟩
    have hv := ev_cst hc
    have hne : co W 0 ≠ 0 := fun hh => hW0 (by rw [hc, hh]; rfl)
    rw [hv x, hv y, if_neg]
    · rw [chN_vr, chN_vr]
      simp only [List.map_cons, List.map_nil]
      rw [hv x, hv y]
      rfl
    · rintro ⟨_, hh⟩
      rcases tri (co W 0) 0 with h1 | h1 | h1
      · have := Rat.mul_pos (a := -(co W 0)) (b := -(co W 0)) (by grind) (by grind); grind
      · exact hne h1
      · have := Rat.mul_pos h1 h1; grind
  · have ldW : (derL W).length = W.length - 1 := by unfold derL derP; simp
    have lD : (trim (derL W)).length ≤ W.length - 1 := by rw [← ldW]; exact trim_len
    have hst := chn_StP (n := 9) (p := W) (q := trim (derL W)) nf_trim hD (by omega)
    obtain ⟨r, hr⟩ := chn_last (n := 9) (p := W) (q := trim (derL W)) nf_trim hD (by omega)
    rw [hr] at hst ⊢
    obtain ⟨s1, t1, A1, B1, f1, f2, f3, f4, e1, e2, e3⟩ := StP.last hst
    obtain ⟨e, he⟩ : ∃ e, e = ps ((trim (derL W) :: r).getLast (by simp)) := ⟨_, rfl⟩
    rw [← he] at e1 e2 e3
    have fe : Fs e := by rw [he]; exact ps_fs _
    rw [ps_der] at e3
    have kk : cst (1 / k) * cst k = 1 := by rw [cst_mul, Rat.div_mul_cancel hk]; rfl
    have hA2 : A = e * (cst (1 / k) * A1) := by
      have : A = cst (1 / k) * ps W := by rw [eW]; grind
      rw [this, e2]; grind
    have dk : d (cst k * A) = cst k * d A := by
      rw [d_mul]
      have : d (cst k) = 0 := PS.ext fun i => by
        show der (cst k).c i = _
        unfold der
        rw [c_cst, if_neg (by omega), Rat.mul_zero, c_zero]
      rw [this]; grind
    have hdA : d A = e * (cst (1 / k) * B1) := by
      have : d A = cst (1 / k) * d (ps W) := by rw [eW, dk]; grind
      rw [this, e3]; grind
    have hcst := coprime hg0 fs ft fA fB fg fe ((Fs.cst (1 / k)).mul f3) ((Fs.cst (1 / k)).mul f4) eD one hA2 hdA hA0
    have ece : e = cst (e.c 0) := PS.ext fun i => by
      rw [c_cst]
      split
      · rename_i hi; rw [hi]
      · exact hcst i (by omega)
    have hne : e.c 0 ≠ 0 := fun hh => by
      rw [hh] at ece
      exact hW0 (by rw [e2, ece]; have : cst 0 = (0 : PS) := rfl
                    rw [this]; grind)
    have hE := StP.toE hne hst (by rw [← he]; exact ece)
    exact StE.first R hE fun x => dq_derL W x
end Den
end

section
set_option linter.unusedVariables false
namespace Den
open Go Iv Pq
namespace PS
/-- No common divisor. -/
def Cop (a b : PS) : Prop := ∃ s t : PS, Fs s ∧ Fs t ∧ s * a + t * b = 1
/-- a divides b. -/
def Dv (a b : PS) : Prop := ∃ c : PS, Fs c ∧ b = a * c
def Con (a : PS) : Prop := ∀ i, 0 < i → a.c i = 0
def Sqf (a : PS) : Prop := Cop a (d a)
theorem Cop.symm {a b : PS} (h : Cop a b) : Cop b a := by
  obtain ⟨s, t, hs, ht, e⟩ := h
  exact ⟨t, s, ht, hs, by grind⟩
theorem Cop.mul {a b c : PS} (h1 : Cop a c) (h2 : Cop b c) (ha : Fs a) (hb : Fs b) (hc : Fs c) : Cop (a * b) c := by
  obtain ⟨s, t, hs, ht, e⟩ := h1
  obtain ⟨u, v, hu, hv, e2⟩ := h2
  refine ⟨s * u, s * a * v + t * (u * b + v * c), hs.mul hu, ((hs.mul ha).mul hv).add (ht.mul ((hu.mul hb).add (hv.mul hc))), ?_⟩
  have : (s * a + t * c) * (u * b + v * c) = 1 := by rw [e, e2]; grind
  grind
theorem Cop.dvd {a c q : PS} (h : Cop a c) (hd : Dv q a) : Cop q c := by
  obtain ⟨s, t, hs, ht, e⟩ := h
  obtain ⟨x, hx, ex⟩ := hd
  exact ⟨s * x, t, hs.mul hx, ht, by grind⟩
theorem Cop.addm {a b m : PS} (h : Cop a b) (hm : Fs m) : Cop a (b + a * m) := by
  obtain ⟨s, t, hs, ht, e⟩ := h
  exact ⟨s - t * m, t, hs.sub (ht.mul hm), ht, by grind⟩
theorem Dv.trans {a b c : PS} (h1 : Dv a b) (h2 : Dv b c) : Dv a c := by
  obtain ⟨x, hx, ex⟩ := h1
  obtain ⟨y, hy, ey⟩ := h2
  exact ⟨x * y, hx.mul hy, by grind⟩
theorem Dv.comb {q a b s t : PS} (h1 : Dv q a) (h2 : Dv q b) (hs : Fs s) (ht : Fs t) : Dv q (s * a + t * b) := by
  obtain ⟨x, hx, ex⟩ := h1
  obtain ⟨y, hy, ey⟩ := h2
  exact ⟨s * x + t * y, (hs.mul hx).add (ht.mul hy), by grind⟩
theorem Dv.refl (a : PS) : Dv a a := ⟨1, Fs.cst 1, by grind⟩
theorem gauss {q a b : PS} (h : Cop q a) (hb : Fs b) (hd : Dv q (a * b)) : Dv q b := by
  obtain ⟨s, t, hs, ht, e⟩ := h
  obtain ⟨c, hc, ec⟩ := hd
  refine ⟨b * s + t * c, (hb.mul hs).add (ht.mul hc), ?_⟩
  have : b = b * (s * q + t * a) := by rw [e]; grind
  grind
theorem ne_one : (1 : PS) ≠ 0 := fun h => by
  have := congrArg (fun s : PS => s.c 0) h
  simp only [c_one, c_zero, if_true] at this
  exact absurd this (by decide)
/-- A divisor of 1 is constant. -/
theorem con_of {q c : PS} (hq : Fs q) (hc : Fs c) (h : q * c = 1) : Con q := by
  have hq0 : q ≠ 0 := fun hh => ne_one (by rw [← h, hh]; grind)
  have hc0 : c ≠ 0 := fun hh => ne_one (by rw [← h, hh]; grind)
  obtain ⟨k, k1, k2⟩ := top_ps hq hq0
  obtain ⟨m, m1, m2⟩ := top_ps hc hc0
  have := (top_mul k1 k2 m1 m2).1
  rw [h, c_one] at this
  have hz : k + m = 0 := Classical.byContradiction fun hh => this (by rw [if_neg hh])
  intro i hi
  exact k2 i (by omega)
theorem Cop.con {a b q : PS} (h : Cop a b) (hq : Fs q) (h1 : Dv q a) (h2 : Dv q b) : Con q := by
  obtain ⟨s, t, hs, ht, e⟩ := h
  obtain ⟨c, hc, ec⟩ := h1.comb h2 hs ht
  exact con_of hq hc (by rw [← ec, e])
theorem Con.eq {a : PS} (h : Con a) : a = cst (a.c 0) := ext fun i => by
  rw [c_cst]
  split
  · rename_i hi; rw [hi]
  · exact h i (by omega)
theorem Con.inv {a : PS} (h : Con a) (h0 : a ≠ 0) : ∃ k : Rat, k ≠ 0 ∧ a = cst k ∧ cst (1 / k) * a = 1 := by
  have e := h.eq
  have hk : a.c 0 ≠ 0 := fun hh => h0 (by rw [e, hh]; rfl)
  refine ⟨a.c 0, hk, e, ?_⟩
  have : cst (1 / a.c 0) * a = cst (1 / a.c 0) * cst (a.c 0) := by rw [← e]
  rw [this, cst_mul, Rat.div_mul_cancel hk]
  rfl
theorem gcd_ex {a b : PS} (ha : Fs a) (hb : Fs b) : ∃ e x y s t : PS, Fs e ∧ Fs x ∧ Fs y ∧ Fs s ∧ Fs t ∧ a = e * x ∧ b = e * y ∧ e = s * a + t * b := by
  obtain ⟨la, rfl⟩ := toL ha
  obtain ⟨lb, rfl⟩ := toL hb
  obtain ⟨s, t, x, y, hs, ht, hx, hy, e1, e2, e3⟩ := gcd_comb (n := (trim lb).length + 1) (x := la) (y := trim lb) nf_trim (Nat.lt_succ_self _)
  rw [ps_trim] at e1 e3
  exact ⟨_, x, y, s, t, ps_fs _, hx, hy, hs, ht, e2, e3, e1⟩
theorem cop_of {a b : PS} (ha : Fs a) (hb : Fs b) (ha0 : a ≠ 0) (h : ∀ q, Fs q → Dv q a → Dv q b → Con q) : Cop a b := by
  obtain ⟨e, x, y, s, t, he, hx, hy, hs, ht, e1, e2, e3⟩ := gcd_ex ha hb
  have e0 : e ≠ 0 := fun hh => ha0 (by rw [e1, hh]; grind)
  obtain ⟨k, hk, _, ki⟩ := (h e he ⟨x, hx, e1⟩ ⟨y, hy, e2⟩).inv e0
  exact ⟨cst (1 / k) * s, cst (1 / k) * t, (Fs.cst _).mul hs, (Fs.cst _).mul ht, by rw [← ki]; grind⟩
theorem Sqf.split {x y : PS} (h : Sqf (x * y)) (hx : Fs x) (hy : Fs y) (h0 : x ≠ 0) : Cop x y := cop_of hx hy h0 fun q hq h1 h2 => by
  refine Cop.con h hq ?_ ?_
  · obtain ⟨c, hc, e⟩ := h1
    exact ⟨c * y, hc.mul hy, by rw [e]; grind⟩
  · rw [d_mul]
    have e : d x * y + x * d y = d x * y + d y * x := by grind
    rw [e]
    exact h2.comb h1 hx.d hy.d
theorem Sqf.dvd {x y : PS} (h : Sqf (x * y)) (hx : Fs x) (hy : Fs y) (h0 : x ≠ 0) : Sqf x := cop_of hx hx.d h0 fun q hq h1 h2 => by
  refine Cop.con h hq ?_ ?_
  · obtain ⟨c, hc, e⟩ := h1
    exact ⟨c * y, hc.mul hy, by rw [e]; grind⟩
  · rw [d_mul]
    have e : d x * y + x * d y = y * d x + d y * x := by grind
    rw [e]
    exact h2.comb h1 hy hy.d
theorem Sqf.mul {x y : PS} (h1 : Sqf x) (h2 : Sqf y) (h : Cop x y) (hx : Fs x) (hy : Fs y) : Sqf (x * y) := by
  unfold Sqf
  rw [d_mul]
  have c1 : Cop x (d x * y + x * d y) := by
    have := ((h1.symm.mul h.symm hx.d hy hx).symm).addm hy.d
    exact this
  have c2 : Cop y (d x * y + x * d y) := by
    have := ((h2.symm.mul h hy.d hx hy).symm).addm hx.d
    have e : d y * x + y * d x = d x * y + x * d y := by grind
    rw [e] at this; exact this
  exact c1.mul c2 hx hy ((hx.d.mul hy).add (hx.mul hy.d))
/-- M = g A, where g is the greatest common divisor of M and M'. -/
structure Rad (M g A B : PS) : Prop where
  fg : Fs g
  fA : Fs A
  fB : Fs B
  g0 : g ≠ 0
  A0 : A ≠ 0
  eM : M = g * A
  eD : d (g * A) = g * B
  one : ∃ s t : PS, Fs s ∧ Fs t ∧ s * A + t * B = 1
theorem Rad.sqf {M g A B : PS} (h : Rad M g A B) : Sqf A := cop_of h.fA h.fA.d h.A0 fun q hq h1 h2 => by
  obtain ⟨P, hP, e1⟩ := h1
  obtain ⟨Q, hQ, e2⟩ := h2
  obtain ⟨s, t, hs, ht, e3⟩ := h.one
  exact coprime h.g0 hs ht h.fA h.fB h.fg hq hP hQ h.eD e3 e1 e2 h.A0
theorem no_new {M g A B q : PS} (hr : Rad M g A B) (hq : Fs q) (hs : Sqf q) (hc : Cop q A) (hd : Dv q M) : Con q := by
  have hq0 : q ≠ 0 := fun hh => by
    obtain ⟨c, hc, e⟩ := hd
    rw [hh] at e
    rcases mul_eq_zero (show g * A = 0 by rw [← hr.eM, e]; grind) with h | h
    · exact hr.g0 h
    · exact hr.A0 h
  obtain ⟨k, k1, k2⟩ := top_ps hq hq0
  rcases Nat.eq_zero_or_pos k with hk | hk
  · intro i hi; exact k2 i (by omega)
  · exfalso
    have key : ∀ j : Nat, ∃ h, Fs h ∧ g = q ^ (j + 1) * h := by
      intro j
      induction j with
      | zero =>
        rw [hr.eM] at hd
        have e : g * A = A * g := by grind
        rw [e] at hd
        obtain ⟨h, hh, e2⟩ := gauss hc hr.fg hd
        refine ⟨h, hh, ?_⟩
        have e3 : q ^ (0 + 1) = q := by
          have : q ^ (0 + 1) = q ^ 0 * q := rfl
          have e4 : q ^ 0 = (1 : PS) := rfl
          rw [this, e4]; grind
        rw [e3]; exact e2
      | succ j ih =>
        obtain ⟨h, hh, e⟩ := ih
        have hj := pow_ne hq0 (j + 1)
        obtain ⟨X, hX⟩ : ∃ X, X = q ^ (j + 1) := ⟨_, rfl⟩
        have dX := d_pow q (j + 1)
        rw [← hX] at e hj dX
        have dg := d_mul X h
        rw [← e] at dg
        have h1 := hr.eD
        rw [d_mul] at h1
        have k1 : (cst ((j + 1 : Nat) : Rat) * d q * h + q * d h) * A = q * h * (B - d A) := by
          refine cancel hj ?_
          have : q * d g = X * (cst ((j + 1 : Nat) : Rat) * d q * h + q * d h) := by rw [dg]; grind
          have h3 : q * d g * A = q * g * (B - d A) := by grind
          grind
        have k2 : Dv q (d q * (A * (cst ((j + 1 : Nat) : Rat) * h))) := ⟨h * (B - d A) - d h * A, (hh.mul (hr.fB.sub hr.fA.d)).sub (hh.d.mul hr.fA), by grind⟩
        have k3 := gauss hs (hr.fA.mul ((Fs.cst _).mul hh)) k2
        have k4 := gauss hc ((Fs.cst _).mul hh) k3
        obtain ⟨m, hm, em⟩ := k4
        have hne : ((j + 1 : Nat) : Rat) ≠ 0 := by
          intro h5
          have := Rat.natCast_inj.1 (show ((j + 1 : Nat) : Rat) = ((0 : Nat) : Rat) from h5)
          omega
        refine ⟨cst (1 / ((j + 1 : Nat) : Rat)) * m, (Fs.cst _).mul hm, ?_⟩
        have e2 : q ^ (j + 1 + 1) = X * q := by rw [hX]; rfl
        have e5 : cst (1 / ((j + 1 : Nat) : Rat)) * cst ((j + 1 : Nat) : Rat) = 1 := by rw [cst_mul, Rat.div_mul_cancel hne]; rfl
        have e6 : h = q * (cst (1 / ((j + 1 : Nat) : Rat)) * m) := by
          have : h = cst (1 / ((j + 1 : Nat) : Rat)) * cst ((j + 1 : Nat) : Rat) * h := by rw [e5]; grind
          rw [this]
          generalize cst (1 / ((j + 1 : Nat) : Rat)) = z at *
          generalize cst ((j + 1 : Nat) : Rat) = z2 at *
          grind
        rw [e2, e]
        generalize cst (1 / ((j + 1 : Nat) : Rat)) * m = y at *
        grind
    obtain ⟨n, hn⟩ := hr.fg
    obtain ⟨h, hh, e⟩ := key n
    have h0 : h ≠ 0 := fun h3 => hr.g0 (by rw [e, h3]; grind)
    obtain ⟨m, m1, m2⟩ := top_ps hh h0
    obtain ⟨p1, p2⟩ := top_pow k1 k2 (n + 1)
    have := (top_mul p1 p2 m1 m2).1
    rw [← e] at this
    refine this (hn _ ?_)
    have := Nat.mul_le_mul_left (n + 1) hk
    omega
/-- A squarefree divisor divides the squarefree part. -/
theorem rad_dvd {M g A B D : PS} (hr : Rad M g A B) (hD : Fs D) (hs : Sqf D) (hd : Dv D M) : Dv D A := by
  have hD0 : D ≠ 0 := fun hh => by
    obtain ⟨c, hc, e⟩ := hd
    rw [hh] at e
    rcases mul_eq_zero (show g * A = 0 by rw [← hr.eM, e]; grind) with h | h
    · exact hr.g0 h
    · exact hr.A0 h
  obtain ⟨E, D2, A2, s, t, fE, fD2, fA2, hs', ht, e1, e2, e3⟩ := gcd_ex hD hr.fA
  have hE0 : E ≠ 0 := fun hh => hD0 (by rw [e1, hh]; grind)
  have hD20 : D2 ≠ 0 := fun hh => hD0 (by rw [e1, hh]; grind)
  rw [e1] at hs
  have c1 := hs.split fE fD2 hE0
  have hs2 : Sqf (D2 * E) := by have e : D2 * E = E * D2 := by grind
                                rw [e]; exact hs
  have sD2 : Sqf D2 := hs2.dvd fD2 fE hD20
  have c2 : Cop D2 A := cop_of fD2 hr.fA hD20 fun q hq h1 h2 => by
    refine c1.con hq ?_ h1
    rw [e3]
    refine Dv.comb ?_ h2 hs' ht
    rw [e1]
    obtain ⟨c, hc, ec⟩ := h1
    exact ⟨c * E, hc.mul fE, by rw [ec]; grind⟩
  have hd2 : Dv D2 M := Dv.trans ⟨E, fE, by rw [e1]; grind⟩ hd
  obtain ⟨k, hk, ek, ki⟩ := (no_new hr fD2 sD2 c2 hd2).inv hD20
  refine ⟨cst (1 / k) * A2, (Fs.cst _).mul fA2, ?_⟩
  have : A2 = cst (1 / k) * D2 * A2 := by rw [ki]; grind
  rw [e2, e1]
  grind
/-- The squarefree part of a product. -/
theorem rad_mul {M1 g1 A1 B1 M2 g2 A2 B2 M3 g3 A3 B3 M4 g4 A4 B4 : PS} (r1 : Rad M1 g1 A1 B1) (r2 : Rad M2 g2 A2 B2) (r3 : Rad M3 g3 A3 B3) (r4 : Rad M4 g4 A4 B4)
    (h3 : Dv M3 (M1 * M2)) (h3' : Dv (M1 * M2) M3) (h41 : Dv M4 M1) (h42 : Dv M4 M2) (h4 : ∀ q, Fs q → Dv q M1 → Dv q M2 → Dv q M4) :
    ∃ X Y : PS, ∃ k : Rat, k ≠ 0 ∧ Fs X ∧ Fs Y ∧ A1 = A4 * X ∧ A2 = A4 * Y ∧ A3 = cst k * (A4 * (X * Y)) ∧ Cop A4 X ∧ Cop A4 Y ∧ Cop X Y := by
  have a1M : Dv A1 M1 := ⟨g1, r1.fg, by rw [r1.eM]; grind⟩
  have a2M : Dv A2 M2 := ⟨g2, r2.fg, by rw [r2.eM]; grind⟩
  have a3M : Dv A3 M3 := ⟨g3, r3.fg, by rw [r3.eM]; grind⟩
  have a4M : Dv A4 M4 := ⟨g4, r4.fg, by rw [r4.eM]; grind⟩
  obtain ⟨X, fX, eX⟩ := rad_dvd r1 r4.fA r4.sqf (a4M.trans h41)
  obtain ⟨Y, fY, eY⟩ := rad_dvd r2 r4.fA r4.sqf (a4M.trans h42)
  have X0 : X ≠ 0 := fun hh => r1.A0 (by rw [eX, hh]; grind)
  have Y0 : Y ≠ 0 := fun hh => r2.A0 (by rw [eY, hh]; grind)
  have s1 := r1.sqf
  rw [eX] at s1
  have s2 := r2.sqf
  rw [eY] at s2
  have c1 := s1.split r4.fA fX r4.A0
  have c2 := s2.split r4.fA fY r4.A0
  have sX : Sqf X := by
    have e : X * A4 = A4 * X := by grind
    exact Sqf.dvd (y := A4) (by rw [e]; exact s1) fX r4.fA X0
  have sY : Sqf Y := by
    have e : Y * A4 = A4 * Y := by grind
    exact Sqf.dvd (y := A4) (by rw [e]; exact s2) fY r4.fA Y0
  have c3 : Cop X Y := cop_of fX fY X0 fun q hq d1 d2 => by
    have q0 : q ≠ 0 := fun hh => by
      obtain ⟨c, hc, ec⟩ := d1
      exact X0 (by rw [ec, hh]; grind)
    have sq : Sqf q := by
      obtain ⟨c, hc, ec⟩ := d1
      exact Sqf.dvd (y := c) (by rw [← ec]; exact sX) hq hc q0
    have h1 : Dv q M1 := Dv.trans d1 (Dv.trans ⟨A4, r4.fA, by rw [eX]; grind⟩ a1M)
    have h2 : Dv q M2 := Dv.trans d2 (Dv.trans ⟨A4, r4.fA, by rw [eY]; grind⟩ a2M)
    exact c1.con hq (rad_dvd r4 hq sq (h4 q hq h1 h2)) d1
  have c4 : Cop A4 (X * Y) := (c1.symm.mul c2.symm fX fY r4.fA).symm
  have sF : Sqf (A4 * (X * Y)) := r4.sqf.mul (sX.mul sY c3 fX fY) c4 r4.fA (fX.mul fY)
  have fF : Fs (A4 * (X * Y)) := r4.fA.mul (fX.mul fY)
  have dF : Dv (A4 * (X * Y)) M3 := by
    refine Dv.trans ?_ h3'
    obtain ⟨u, hu, eu⟩ := a1M
    obtain ⟨v, hv, ev⟩ := a2M
    exact ⟨u * A4 * v, (hu.mul r4.fA).mul hv, by rw [eu, ev, eX, eY]; grind⟩
  obtain ⟨Z, fZ, eZ⟩ := rad_dvd r3 fF sF dF
  have Z0 : Z ≠ 0 := fun hh => r3.A0 (by rw [eZ, hh]; grind)
  have s3 := r3.sqf
  rw [eZ] at s3
  have F0 : A4 * (X * Y) ≠ 0 := fun hh => r3.A0 (by rw [eZ, hh]; grind)
  have cZ : Cop Z (A4 * (X * Y)) := (s3.split fF fZ F0).symm
  have sZ : Sqf Z := by
    have e : Z * (A4 * (X * Y)) = A4 * (X * Y) * Z := by grind
    exact Sqf.dvd (y := A4 * (X * Y)) (by rw [e]; exact s3) fZ fF Z0
  have cZ1 : Cop Z A1 := (cZ.symm.dvd ⟨Y, fY, by rw [eX]; grind⟩).symm
  have cZ2 : Cop Z A2 := (cZ.symm.dvd ⟨X, fX, by rw [eY]; grind⟩).symm
  have fM1 : Fs M1 := by rw [r1.eM]; exact r1.fg.mul r1.fA
  have fM2 : Fs M2 := by rw [r2.eM]; exact r2.fg.mul r2.fA
  have cZM : Cop Z M1 := cop_of fZ fM1 Z0 fun q hq d1 d2 => by
    have q0 : q ≠ 0 := fun hh => by
      obtain ⟨c, hc, ec⟩ := d1
      exact Z0 (by rw [ec, hh]; grind)
    have sq : Sqf q := by
      obtain ⟨c, hc, ec⟩ := d1
      exact Sqf.dvd (y := c) (by rw [← ec]; exact sZ) hq hc q0
    exact no_new r1 hq sq (cZ1.dvd d1) d2
  have dZ : Dv Z (M1 * M2) := Dv.trans (Dv.trans ⟨A4 * (X * Y), fF, by rw [eZ]; grind⟩ a3M) h3
  have hcon := no_new r2 fZ sZ cZ2 (gauss cZM fM2 dZ)
  obtain ⟨k, hk, ek, _⟩ := hcon.inv Z0
  exact ⟨X, Y, k, hk, fX, fY, eX, eY, by rw [eZ, ek]; grind, c1, c2, c3⟩
end PS
end Den
end

section
set_option linter.unusedVariables false
namespace Den
open Go Iv Pq
section
variable {h : Hp} {A B : Nat} {l : Sl} {p : List Rat} {ps : List (List Rat)} {Kb : Bool → Hp → Prop} {Ki : Int → Hp → Prop} {i : TInterval} {x y : TRat} {u v : Rat}
end
end Den
end

section
set_option linter.unusedVariables false
namespace Den
open Go Iv Pq PS
theorem mx_ge : ∀ (L : List Rat) (m : Rat), m ≤ L.foldl mxS m ∧ ∀ v ∈ L, absQ v ≤ L.foldl mxS m
  | [], m => ⟨Rat.le_refl, fun v hv => by simp at hv⟩
  | a :: L, m => by
    obtain ⟨h1, h2⟩ := mx_ge L (mxS m a)
    have h3 : m ≤ mxS m a ∧ absQ a ≤ mxS m a := by
      unfold mxS
      split
      · rename_i h; exact ⟨Rat.le_of_lt h, Rat.le_refl⟩
      · rename_i h; exact ⟨Rat.le_refl, Rat.not_lt.1 h⟩
    refine ⟨Rat.le_trans h3.1 h1, fun v hv => ?_⟩
    rcases List.mem_cons.1 hv with rfl | hv
    · exact Rat.le_trans h3.2 h1
    · exact h2 v hv
theorem abs_bd {v B : Rat} (h : absQ v ≤ B) : Bd B v := by
  unfold absQ at h
  split at h
  · constructor <;> grind
  · constructor <;> grind
theorem big_neg {b x : Rat} (hb : 1 ≤ b) (hx : x ≤ -b) : ∀ (l : List Rat), (∀ v ∈ l, Bd (b - 1) v) → 1 ≤ ev (l ++ [1]) x ∨ ev (l ++ [1]) x ≤ -1
  | [], _ => by
    left
    show 1 ≤ 1 + 0 * x
    grind
  | c :: l, h => by
    have ih := big_neg hb hx l fun v hv => h v (List.mem_cons_of_mem _ hv)
    have hc := h c (by simp)
    obtain ⟨c1, c2⟩ := hc
    show 1 ≤ c + ev (l ++ [1]) x * x ∨ c + ev (l ++ [1]) x * x ≤ -1
    generalize ev (l ++ [1]) x = r at *
    rcases ih with h1 | h1
    · right
      have := Rat.mul_nonneg (a := r - 1) (b := -x) (by grind) (by grind)
      grind
    · left
      have := Rat.mul_nonneg (a := -1 - r) (b := -x) (by grind) (by grind)
      grind
theorem big_pos {b x : Rat} (hb : 1 ≤ b) (hx : b ≤ x) : ∀ (l : List Rat), (∀ v ∈ l, Bd (b - 1) v) → 1 ≤ ev (l ++ [1]) x ∨ ev (l ++ [1]) x ≤ -1
  | [], _ => by
    left
    show 1 ≤ 1 + 0 * x
    grind
  | c :: l, h => by
    have ih := big_pos hb hx l fun v hv => h v (List.mem_cons_of_mem _ hv)
    have hc := h c (by simp)
    obtain ⟨c1, c2⟩ := hc
    show 1 ≤ c + ev (l ++ [1]) x * x ∨ c + ev (l ++ [1]) x * x ≤ -1
    generalize ev (l ++ [1]) x = r at *
    rcases ih with h1 | h1
    · left
      have := Rat.mul_nonneg (a := r - 1) (b := x) (by grind) (by grind)
      grind
    · right
      have := Rat.mul_nonneg (a := -1 - r) (b := x) (by grind) (by grind)
      grind
/-- Beyond the bound the values are at least 1. -/
theorem beyond {p : List Rat} (h2 : 2 ≤ (trim p).length) {x : Rat} (hx : x ≤ -(bndQ p) ∨ bndQ p ≤ x) : 1 ≤ ev (monQ p) x ∨ ev (monQ p) x ≤ -1 := by
  have h0 : trim p ≠ [] := fun hh => by rw [hh] at h2; simp at h2
  have lM : (monQ p).length = (trim p).length := monQ_len
  obtain ⟨hn, e⟩ := mon_last h0
  have eM : monQ p = (monQ p).take ((monQ p).length - 1) ++ [1] := by
    have h3 := List.take_append_drop ((monQ p).length - 1) (monQ p)
    rw [List.drop_eq_getElem_cons hn, e] at h3
    have h4 : (monQ p).drop ((monQ p).length - 1 + 1) = [] := List.drop_eq_nil_of_le (by omega)
    rw [h4] at h3
    exact h3.symm
  have hb : bndQ p = ((monQ p).take ((monQ p).length - 1)).foldl mxS (((0 : Int) : Rat)) + (((1 : Int) : Rat)) := by
    unfold bndQ
    rw [if_neg (by omega)]
  obtain ⟨g1, g2⟩ := mx_ge ((monQ p).take ((monQ p).length - 1)) (((0 : Int) : Rat))
  have z0 : (((0 : Int) : Rat)) = 0 := rfl
  have z1 : (((1 : Int) : Rat)) = 1 := rfl
  rw [z1] at hb
  have hb1 : 1 ≤ bndQ p := by rw [hb]; grind
  have hall : ∀ v ∈ (monQ p).take ((monQ p).length - 1), Bd (bndQ p - 1) v := fun v hv => (abs_bd (g2 v hv)).mono (by rw [hb]; grind)
  rw [eM]
  rcases hx with hx | hx
  · exact big_neg hb1 hx _ hall
  · exact big_pos hb1 hx _ hall
theorem same_sign {M G W : List Rat} (R : Rat) (h : ∀ x, ev M x = ev G x * ev W x) : ∃ δ : Rat, 0 < δ ∧ ∀ x y, Bd R x → Bd R y → x < y → y - x ≤ δ → (1 ≤ ev M x ∨ ev M x ≤ -1) → 0 < ev W x * ev W y := by
  obtain ⟨E, hE, be⟩ := ev_bd R G
  obtain ⟨L, hL, bl⟩ := dq_bd R W
  obtain ⟨δ, hd, he⟩ := eps_of hE hL
  refine ⟨δ, hd, fun x y hx hy hxy hs hm => Classical.byContradiction fun hp => ?_⟩
  obtain ⟨k1, _⟩ := sm_of hp (dq_eq W x y) (bl x y hx hy) (Rat.le_of_lt hxy) hs
  have e1 := he E hE Rat.le_refl
  obtain ⟨k2, k3⟩ := (be x hx).mul k1
  rw [← h] at k2 k3
  grind
theorem bd_between {x y : Rat} : ∃ R, ∀ z, x ≤ z → z ≤ y → Bd R z := by
  obtain ⟨A, hA, a⟩ := Bd.self x
  obtain ⟨B, hB, b⟩ := Bd.self y
  obtain ⟨a1, a2⟩ := a
  obtain ⟨b1, b2⟩ := b
  exact ⟨A + B, fun z h1 h2 => by constructor <;> grind⟩
/-- The squarefree part as a factor. -/
theorem sqf_factor {p : List Rat} (h0 : trim p ≠ []) : ∃ G : List Rat, ps (monQ p) = ps G * ps (sqfL p) := by
  obtain ⟨g, A, B, s, t, fg, fA, fB, fs, ft, hg0, hA0, eM, eD, one, k, hk, eW⟩ := sqf_spec h0
  obtain ⟨G, hG⟩ := toL ((Fs.cst (1 / k)).mul fg)
  refine ⟨G, ?_⟩
  have kk : cst (1 / k) * cst k = 1 := by rw [cst_mul, Rat.div_mul_cancel hk]; rfl
  rw [hG, eW, eM]
  grind
theorem ev_prod {a b c : List Rat} (h : ps a = ps b * ps c) (x : Rat) : ev a x = ev b x * ev c x := by
  rw [← ev_mulL]
  refine ev_congr fun i => ?_
  have := congrArg (fun s : PS => s.c i) h
  simp only [c_mul, ps_c] at this
  rw [co_mulL]
  exact this
theorem cnt_const {p : List Rat} (hl : (sqfL p).length ≤ 9) {x y : Rat} (hxy : x < y) (hM : 2 ≤ (trim p).length → ∀ z, x ≤ z → z ≤ y → 1 ≤ ev (monQ p) z ∨ ev (monQ p) z ≤ -1) : chN (chainL p) x = chN (chainL p) y := by
  by_cases h2 : 2 ≤ (trim p).length
  · have h0 : trim p ≠ [] := fun hh => by rw [hh] at h2; simp at h2
    obtain ⟨R, hR⟩ := bd_between (x := x) (y := y)
    obtain ⟨G, hG⟩ := sqf_factor h0
    obtain ⟨δ1, d1, s1⟩ := sturm_step h2 hl R
    obtain ⟨δ2, d2, s2⟩ := same_sign R (fun z => ev_prod hG z)
    obtain ⟨δ, d3, l1, l2⟩ := min_of d1 d2
    refine mesh (P := fun x y => chN (chainL p) x = chN (chainL p) y) d3 (fun a b ha hab hb hs => ?_) (fun a b c _ _ _ _ h3 h4 => h3.trans h4) hxy
    have ba := hR a ha (by grind)
    have bb := hR b (by grind) hb
    have h5 := s1 a b ba bb hab (Rat.le_trans hs l1)
    have h6 := s2 a b ba bb hab (Rat.le_trans hs l2) (hM h2 a ha (by grind))
    rw [if_neg (by rintro ⟨_, h7⟩; grind)] at h5
    exact h5
  · have : chainL p = [] := by unfold chainL; rw [if_pos (by omega)]
    rw [this]; rfl
theorem cnt_left {p : List Rat} (hl : (sqfL p).length ≤ 9) {x y : Rat} (hxy : x ≤ y) (hy : y ≤ -(bndQ p)) : chN (chainL p) x = chN (chainL p) y := by
  rcases rle hxy with h | h
  · exact cnt_const hl h fun h2 z _ hz => beyond h2 (.inl (Rat.le_trans hz hy))
  · rw [h]
theorem cnt_right {p : List Rat} (hl : (sqfL p).length ≤ 9) {x y : Rat} (hxy : x ≤ y) (hx : bndQ p ≤ x) : chN (chainL p) x = chN (chainL p) y := by
  rcases rle hxy with h | h
  · exact cnt_const hl h fun h2 z hz _ => beyond h2 (.inr (Rat.le_trans hx hz))
  · rw [h]
end Den
end

section
set_option linter.unusedVariables false
namespace Den
open Go Iv Pq
section
variable {h : Hp} {A B : Nat} {l : Sl} {p : List Rat} {Kb : Bool → Hp → Prop} {i : TInterval}
end
end Den
end

section
set_option linter.unusedVariables false
namespace Den
open Go Iv Pq PS
/-- A change of sign from one point to the next. -/
def jmp (p : List Rat) (x y : Rat) : Nat := if ev p x ≠ 0 ∧ ev p x * ev p y ≤ 0 then 1 else 0
theorem pos_mul_le {s t : Rat} (hs : 0 < s) : s * t ≤ 0 ↔ t ≤ 0 := by
  constructor
  · intro h
    refine Rat.not_lt.1 fun ht => ?_
    have := Rat.mul_pos hs ht
    grind
  · intro h
    have := Rat.mul_nonneg (a := s) (b := -t) (Rat.le_of_lt hs) (by grind)
    grind
theorem sq_pos {k : Rat} (hk : k ≠ 0) : 0 < k * k := by
  rcases tri k 0 with h | h | h
  · have := Rat.mul_pos (a := -k) (b := -k) (by grind) (by grind); grind
  · exact absurd h hk
  · exact Rat.mul_pos h h
theorem jmp_scale {p q : List Rat} {k : Rat} (hk : k ≠ 0) (h : ∀ x, ev p x = k * ev q x) (x y : Rat) : jmp p x y = jmp q x y := by
  unfold jmp
  have e1 : ev p x ≠ 0 ↔ ev q x ≠ 0 := by
    rw [h]
    constructor
    · intro h1 h2; exact h1 (by rw [h2, Rat.mul_zero])
    · intro h1 h2
      rcases Rat.mul_eq_zero.1 h2 with h3 | h3
      · exact hk h3
      · exact h1 h3
  have e2 : ev p x * ev p y ≤ 0 ↔ ev q x * ev q y ≤ 0 := by
    have : ev p x * ev p y = (k * k) * (ev q x * ev q y) := by rw [h, h]; grind
    rw [this]
    exact pos_mul_le (sq_pos hk)
  by_cases hh : ev q x ≠ 0 ∧ ev q x * ev q y ≤ 0
  · rw [if_pos hh, if_pos ⟨e1.2 hh.1, e2.2 hh.2⟩]
  · rw [if_neg hh, if_neg (fun h => hh ⟨e1.1 h.1, e2.1 h.2⟩)]
theorem jmp_pos {p : List Rat} {x y : Rat} (h : 0 < ev p x * ev p y) : jmp p x y = 0 := by
  unfold jmp
  rw [if_neg (fun hh => by have := hh.2; grind)]
theorem ne_of_pos {a b : Rat} (h : 0 < a * b) : a ≠ 0 := fun hh => by rw [hh, Rat.zero_mul] at h; exact absurd h Rat.lt_irrefl
theorem jmp_left {P F G : List Rat} (h : ∀ x, ev P x = ev F x * ev G x) {x y : Rat} (hf : 0 < ev F x * ev F y) : jmp P x y = jmp F x y + jmp G x y := by
  rw [jmp_pos hf, Nat.zero_add]
  unfold jmp
  have h0 := ne_of_pos hf
  have e1 : ev P x ≠ 0 ↔ ev G x ≠ 0 := by
    rw [h]
    constructor
    · intro h1 h2; exact h1 (by rw [h2, Rat.mul_zero])
    · intro h1 h2
      rcases Rat.mul_eq_zero.1 h2 with h3 | h3
      · exact h0 h3
      · exact h1 h3
  have e2 : ev P x * ev P y ≤ 0 ↔ ev G x * ev G y ≤ 0 := by
    have : ev P x * ev P y = (ev F x * ev F y) * (ev G x * ev G y) := by rw [h, h]; grind
    rw [this]
    exact pos_mul_le hf
  by_cases hh : ev G x ≠ 0 ∧ ev G x * ev G y ≤ 0
  · rw [if_pos hh, if_pos ⟨e1.2 hh.1, e2.2 hh.2⟩]
  · rw [if_neg hh, if_neg (fun h => hh ⟨e1.1 h.1, e2.1 h.2⟩)]
theorem jmp_mul {P F G u v : List Rat} (R : Rat) (h : ∀ x, ev P x = ev F x * ev G x) (hc : ∀ x, ev u x * ev F x + ev v x * ev G x = 1) :
    ∃ δ : Rat, 0 < δ ∧ ∀ x y, Bd R x → Bd R y → x < y → y - x ≤ δ → jmp P x y = jmp F x y + jmp G x y := by
  obtain ⟨U, hU, bu⟩ := ev_bd R u
  obtain ⟨V, hV, bv⟩ := ev_bd R v
  obtain ⟨L, hL, bl⟩ := dq_bd R F
  obtain ⟨N, hN, bn⟩ := dq_bd R G
  obtain ⟨δ1, hd1, he1⟩ := eps_of hU hL
  obtain ⟨δ2, hd2, he2⟩ := eps_of hV hN
  obtain ⟨δ, hd, l1, l2⟩ := min_of hd1 hd2
  refine ⟨δ, hd, fun x y hx hy hxy hs => ?_⟩
  by_cases hf : 0 < ev F x * ev F y
  · exact jmp_left h hf
  · obtain ⟨k1, _⟩ := sm_of hf (dq_eq F x y) (bl x y hx hy) (Rat.le_of_lt hxy) (Rat.le_trans hs l1)
    have e1 := he1 U hU Rat.le_refl
    have e2 := he2 V hV Rat.le_refl
    have w : 3 / 4 ≤ ev v x * ev G x := by
      have := ((bu x hx).mul k1).2
      have := hc x
      grind
    have b2 : Bd δ2 (y - x) := ⟨by grind, by grind⟩
    have w3 : 1 / 2 ≤ ev v x * ev G y := by
      have g1 := ((bv x hx).mul (b2.mul (bn x y hx hy))).1
      have g2 := dq_eq G x y
      have g3 : ev v x * ev G y = ev v x * ev G x + ev v x * ((y - x) * dq G x y) := by rw [← g2]; grind
      grind
    have hg : 0 < ev G x * ev G y := by
      rcases mul_pos_cases (a := ev v x) (b := ev G x) (by grind) with ⟨s1, s2⟩ | ⟨s1, s2⟩ <;> rcases mul_pos_cases (a := ev v x) (b := ev G y) (by grind) with ⟨s3, s4⟩ | ⟨s3, s4⟩
      · exact Rat.mul_pos s2 s4
      · grind
      · grind
      · have := Rat.mul_pos (a := -(ev G x)) (b := -(ev G y)) (by grind) (by grind); grind
    have := jmp_left (P := P) (F := G) (G := F) (fun z => by rw [h z]; grind) hg
    omega
/-- Coprime polynomials, as lists. -/
theorem jmp_cop {P F G : List Rat} (R : Rat) (h : ps P = ps F * ps G) (hc : Cop (ps F) (ps G)) : ∃ δ : Rat, 0 < δ ∧ ∀ x y, Bd R x → Bd R y → x < y → y - x ≤ δ → jmp P x y = jmp F x y + jmp G x y := by
  obtain ⟨s, t, hs, ht, e⟩ := hc
  obtain ⟨u, rfl⟩ := toL hs
  obtain ⟨v, rfl⟩ := toL ht
  exact jmp_mul R (fun x => ev_prod h x) (fun x => ev_comb (k := 1) e x)
theorem ev_scal {p q : List Rat} {k : Rat} (h : ps p = cst k * ps q) (x : Rat) : ev p x = k * ev q x := by
  rw [← ev_map]
  refine ev_congr fun i => ?_
  have := congrArg (fun s : PS => s.c i) h
  simp only [c_cstm, ps_c] at this
  rw [co_mapc]; exact this
theorem rad_of {p : List Rat} (h0 : trim p ≠ []) : ∃ g A B : PS, ∃ k : Rat, Rad (ps (monQ p)) g A B ∧ k ≠ 0 ∧ ps (sqfL p) = cst k * A := by
  obtain ⟨g, A, B, s, t, fg, fA, fB, fs, ft, hg0, hA0, eM, eD, one, k, hk, eW⟩ := sqf_spec h0
  exact ⟨g, A, B, k, ⟨fg, fA, fB, hg0, hA0, eM, eD, s, t, fs, ft, one⟩, hk, eW⟩
/-- One step, for all polynomials but 0. -/
theorem step_jmp {p : List Rat} (h0 : trim p ≠ []) (hl : (sqfL p).length ≤ 9) (R : Rat) : ∃ δ : Rat, 0 < δ ∧ ∀ x y, Bd R x → Bd R y → x < y → y - x ≤ δ → chN (chainL p) x = chN (chainL p) y + jmp (sqfL p) x y := by
  by_cases h2 : 2 ≤ (trim p).length
  · exact sturm_step h2 hl R
  · have hc : chainL p = [] := by unfold chainL; rw [if_pos (by omega)]
    obtain ⟨g, A, B, k, hr, hk, eW⟩ := rad_of h0
    obtain ⟨i, i1, i2⟩ := top_ps hr.fg hr.g0
    obtain ⟨j, j1, j2⟩ := top_ps hr.fA hr.A0
    have ht := (top_mul i1 i2 j1 j2).1
    rw [← hr.eM, ps_c] at ht
    have hij : i + j < (monQ p).length := Classical.byContradiction fun hh => ht (co_ge (by omega))
    have lM : (monQ p).length = (trim p).length := monQ_len
    have hA : A = cst (A.c 0) := Con.eq fun n hn => j2 n (by omega)
    have hA0 : A.c 0 ≠ 0 := fun hh => hr.A0 (by rw [hA, hh]; rfl)
    have eW2 : ps (sqfL p) = cst (k * A.c 0) := by rw [eW, hA, cst_mul]; rfl
    refine ⟨1, by decide, fun x y _ _ _ _ => ?_⟩
    rw [hc, jmp_pos]
    · rfl
    · rw [ev_cst eW2, ev_cst eW2]
      exact sq_pos fun hh => by
        rcases Rat.mul_eq_zero.1 hh with h3 | h3
        · exact hk h3
        · exact hA0 h3
theorem bnd_nn (p : List Rat) : 0 ≤ bndQ p := by
  unfold bndQ
  split
  · exact Rat.le_refl
  · have := (mx_ge ((monQ p).take ((monQ p).length - 1)) (((0 : Int) : Rat))).1
    have z0 : (((0 : Int) : Rat)) = 0 := rfl
    have z1 : (((1 : Int) : Rat)) = 1 := rfl
    grind
/-- The total, between points far away. -/
theorem tot_far {p : List Rat} (hl : (sqfL p).length ≤ 9) {R : Rat} (hR : bndQ p ≤ R) : totQ p = (chN (chainL p) (-R) : Int) - (chN (chainL p) R : Int) := by
  have hb := bnd_nn p
  unfold totQ
  rw [cnt_of (by grind), cnt_left hl (x := -R) (y := -(bndQ p)) (by grind) Rat.le_refl, cnt_right hl (x := bndQ p) (y := R) hR Rat.le_refl]
theorem mon_dv {p : List Rat} (h0 : trim p ≠ []) : Dv (ps p) (ps (monQ p)) ∧ Dv (ps (monQ p)) (ps p) := by
  obtain ⟨k, hk, e1, e2⟩ := ps_mon h0
  exact ⟨⟨cst k, Fs.cst k, by rw [e1]; grind⟩, ⟨cst (1 / k), Fs.cst _, by rw [e2]; grind⟩⟩
theorem Dv.mul {a b c d : PS} (h1 : Dv a b) (h2 : Dv c d) : Dv (a * c) (b * d) := by
  obtain ⟨x, hx, ex⟩ := h1
  obtain ⟨y, hy, ey⟩ := h2
  exact ⟨x * y, hx.mul hy, by rw [ex, ey]; grind⟩
section
variable {a b m G : List Rat}
/-- A square has the roots of the polynomial. -/
theorem tot_sq (ha : trim a ≠ []) (hm : trim m ≠ []) (e : ps m = ps a * ps a) (la : (sqfL a).length ≤ 9) (lm : (sqfL m).length ≤ 9) : totQ m = totQ a := by
  obtain ⟨g1, A1, B1, k1, r1, hk1, w1⟩ := rad_of ha
  obtain ⟨g3, A3, B3, k3, r3, hk3, w3⟩ := rad_of hm
  obtain ⟨m1, m2⟩ := mon_dv ha
  obtain ⟨m3, m4⟩ := mon_dv hm
  obtain ⟨X, Y, k, hk, fX, fY, eX, eY, eA3, _, _, _⟩ := rad_mul r1 r1 r3 r1 (Dv.trans m4 (by rw [e]; exact Dv.mul m1 m1)) (Dv.trans (by have := Dv.mul m2 m2; rw [← e] at this; exact this) m3) (Dv.refl _) (Dv.refl _) (fun q _ h _ => h)
  have x1 : X = 1 := by
    refine cancel r1.A0 ?_
    rw [← eX]; grind
  have y1 : Y = 1 := by
    refine cancel r1.A0 ?_
    rw [← eY]; grind
  rw [x1, y1] at eA3
  have hw : ps (sqfL m) = cst (k3 * k * (1 / k1)) * ps (sqfL a) := by
    rw [w3, w1, eA3, ← cst_mul, ← cst_mul]
    have : cst (1 / k1) * cst k1 = 1 := by rw [cst_mul, Rat.div_mul_cancel hk1]; rfl
    generalize cst (1 / k1) = z at *
    grind
  have hkk : k3 * k * (1 / k1) ≠ 0 := fun hh => by
    rcases Rat.mul_eq_zero.1 hh with h1 | h1
    · rcases Rat.mul_eq_zero.1 h1 with h2 | h2
      · exact hk3 h2
      · exact hk h2
    · have := Rat.div_mul_cancel (a := (1 : Rat)) hk1
      rw [h1, Rat.zero_mul] at this
      exact absurd this (by decide)
  have b1 := bnd_nn a
  have b2 := bnd_nn m
  obtain ⟨R, hR⟩ : ∃ R, R = 1 + bndQ a + bndQ m := ⟨_, rfl⟩
  rw [tot_far la (R := R) (by grind), tot_far lm (R := R) (by grind)]
  obtain ⟨δ1, d1, s1⟩ := step_jmp ha la R
  obtain ⟨δ2, d2, s2⟩ := step_jmp hm lm R
  obtain ⟨δ, d3, l1, l2⟩ := min_of d1 d2
  have := mesh (P := fun x y => (chN (chainL m) x : Int) - (chN (chainL m) y : Int) = (chN (chainL a) x : Int) - (chN (chainL a) y : Int)) (u := -R) (v := R) d3 (fun x y hx hxy hy hs => ?_) (fun x y z _ _ _ _ h3 h4 => by omega) (by grind)
  · exact this
  · have bx : Bd R x := ⟨by grind, by grind⟩
    have by' : Bd R y := ⟨by grind, by grind⟩
    have e1 := s1 x y bx by' hxy (Rat.le_trans hs l1)
    have e2 := s2 x y bx by' hxy (Rat.le_trans hs l2)
    rw [jmp_scale hkk (fun z => ev_scal hw z)] at e2
    omega
/-- The roots of a product. -/
theorem tot_mul (ha : trim a ≠ []) (hb : trim b ≠ []) (hm : trim m ≠ []) (hG : trim G ≠ []) (e : ps m = ps a * ps b) (hga : Dv (ps G) (ps (monQ a))) (hgb : Dv (ps G) (ps (monQ b))) (hg : ∀ q, Fs q → Dv q (ps (monQ a)) → Dv q (ps (monQ b)) → Dv q (ps G))
    (la : (sqfL a).length ≤ 9) (lb : (sqfL b).length ≤ 9) (lm : (sqfL m).length ≤ 9) (lG : (sqfL G).length ≤ 9) : totQ m + totQ G = totQ a + totQ b := by
  obtain ⟨g1, A1, B1, k1, r1, hk1, w1⟩ := rad_of ha
  obtain ⟨g2, A2, B2, k2, r2, hk2, w2⟩ := rad_of hb
  obtain ⟨g3, A3, B3, k3, r3, hk3, w3⟩ := rad_of hm
  obtain ⟨g4, A4, B4, k4, r4, hk4, w4⟩ := rad_of hG
  obtain ⟨a1, a2⟩ := mon_dv ha
  obtain ⟨b1, b2⟩ := mon_dv hb
  obtain ⟨m3, m4⟩ := mon_dv hm
  obtain ⟨q1, q2⟩ := mon_dv hG
  obtain ⟨X, Y, k, hk, fX, fY, eX, eY, eA3, c1, c2, c3⟩ := rad_mul r1 r2 r3 r4 (Dv.trans m4 (by rw [e]; exact Dv.mul a1 b1)) (Dv.trans (by have := Dv.mul a2 b2; rw [← e] at this; exact this) m3) (Dv.trans q2 hga) (Dv.trans q2 hgb) (fun q fq h1 h2 => Dv.trans (hg q fq h1 h2) q1)
  obtain ⟨lA4, h4⟩ := toL r4.fA
  obtain ⟨lX, hX⟩ := toL fX
  obtain ⟨lY, hY⟩ := toL fY
  obtain ⟨l1, hl1⟩ := toL r1.fA
  obtain ⟨l2, hl2⟩ := toL r2.fA
  obtain ⟨l3, hl3⟩ := toL (r4.fA.mul (fX.mul fY))
  obtain ⟨l5, hl5⟩ := toL (fX.mul fY)
  have n1 := bnd_nn a
  have n2 := bnd_nn b
  have n3 := bnd_nn m
  have n4 := bnd_nn G
  obtain ⟨R, hR⟩ : ∃ R, R = 1 + bndQ a + bndQ b + bndQ m + bndQ G := ⟨_, rfl⟩
  rw [tot_far la (R := R) (by grind), tot_far lb (R := R) (by grind), tot_far lm (R := R) (by grind), tot_far lG (R := R) (by grind)]
  obtain ⟨δ1, d1, s1⟩ := step_jmp ha la R
  obtain ⟨δ2, d2, s2⟩ := step_jmp hb lb R
  obtain ⟨δ3, d3, s3⟩ := step_jmp hm lm R
  obtain ⟨δ4, d4, s4⟩ := step_jmp hG lG R
  obtain ⟨δ5, d5, s5⟩ := jmp_cop (P := l1) (F := lA4) (G := lX) R (by rw [hl1, h4, hX]; exact eX) (by rw [h4, hX]; exact c1)
  obtain ⟨δ6, d6, s6⟩ := jmp_cop (P := l2) (F := lA4) (G := lY) R (by rw [hl2, h4, hY]; exact eY) (by rw [h4, hY]; exact c2)
  obtain ⟨δ7, d7, s7⟩ := jmp_cop (P := l3) (F := lA4) (G := l5) R (by rw [hl3, h4, hl5]) (by rw [h4, hl5]; exact (c1.symm.mul c2.symm fX fY r4.fA).symm)
  obtain ⟨δ8, d8, s8⟩ := jmp_cop (P := l5) (F := lX) (G := lY) R (by rw [hl5, hX, hY]) (by rw [hX, hY]; exact c3)
  obtain ⟨e1, f1, i1, i2⟩ := min_of d1 d2
  obtain ⟨e2, f2, i3, i4⟩ := min_of d3 d4
  obtain ⟨e3, f3, i5, i6⟩ := min_of d5 d6
  obtain ⟨e4, f4, i7, i8⟩ := min_of d7 d8
  obtain ⟨e5, f5, i9, i10⟩ := min_of f1 f2
  obtain ⟨e6, f6, i11, i12⟩ := min_of f3 f4
  obtain ⟨δ, f7, i13, i14⟩ := min_of f5 f6
  have := mesh (P := fun x y => ((chN (chainL m) x : Int) - (chN (chainL m) y : Int)) + ((chN (chainL G) x : Int) - (chN (chainL G) y : Int)) = ((chN (chainL a) x : Int) - (chN (chainL a) y : Int)) + ((chN (chainL b) x : Int) - (chN (chainL b) y : Int))) (u := -R) (v := R) f7 (fun x y hx hxy hy hs => ?_) (fun x y z _ _ _ _ h3 h4 => by omega) (by grind)
  · exact this
  · have bx : Bd R x := ⟨by grind, by grind⟩
    have by' : Bd R y := ⟨by grind, by grind⟩
    have j1 := s1 x y bx by' hxy (by grind)
    have j2 := s2 x y bx by' hxy (by grind)
    have j3 := s3 x y bx by' hxy (by grind)
    have j4 := s4 x y bx by' hxy (by grind)
    have j5 := s5 x y bx by' hxy (by grind)
    have j6 := s6 x y bx by' hxy (by grind)
    have j7 := s7 x y bx by' hxy (by grind)
    have j8 := s8 x y bx by' hxy (by grind)
    rw [jmp_scale (q := l1) hk1 (fun z => ev_scal (by rw [hl1]; exact w1) z)] at j1
    rw [jmp_scale (q := l2) hk2 (fun z => ev_scal (by rw [hl2]; exact w2) z)] at j2
    rw [jmp_scale (q := lA4) hk4 (fun z => ev_scal (by rw [h4]; exact w4) z)] at j4
    have hk3k : k3 * k ≠ 0 := fun hh => by
      rcases Rat.mul_eq_zero.1 hh with h2 | h2
      · exact hk3 h2
      · exact hk h2
    rw [jmp_scale (q := l3) hk3k (fun z => ev_scal (by rw [hl3, w3, eA3, ← cst_mul]; grind) z)] at j3
    omega
end
end Den
end

section
set_option linter.unusedVariables false
namespace Den
open Go Iv Pq PS
theorem sqf_le8 {p : List Rat} (h8 : p.length ≤ 8) : (sqfL p).length ≤ 9 := by
  by_cases h0 : trim p = []
  · have : sqfL p = [] := by unfold sqfL; rw [if_pos h0]
    rw [this]; exact Nat.zero_le _
  · obtain ⟨G, hG⟩ := sqf_factor h0
    obtain ⟨W, hW⟩ : ∃ W, W = sqfL p := ⟨_, rfl⟩
    have nW : nf W := by rw [hW]; unfold sqfL; rw [if_neg h0]; exact nf_monQ
    rw [← hW] at hG ⊢
    have nM : nf (monQ p) := nf_monQ
    have lM : (monQ p).length ≤ 8 := by rw [monQ_len]; exact Nat.le_trans trim_len h8
    have hM0 : monQ p ≠ [] := fun hh => h0 (List.eq_nil_of_length_eq_zero (by rw [← monQ_len, hh]; rfl))
    have pM : PS.ps (monQ p) ≠ 0 := fun hh => hM0 (by have := PS.ps_eq_nil hh; rwa [trim_nf nM] at this)
    have hW0 : W ≠ [] := fun hh => pM (by rw [hG, hh, PS.ps_nil]; grind)
    have tG : trim G ≠ [] := fun hh => pM (by rw [hG, ← PS.ps_trim G, hh, PS.ps_nil]; grind)
    have t1 := nf_top nf_trim tG
    have t2 := nf_top nW hW0
    rw [co_trim] at t1
    have k := (PS.top_mul (a := PS.ps G) (b := PS.ps W) (k := (trim G).length - 1) (j := W.length - 1) t1 (fun i hi => by rw [PS.ps_c, ← co_trim, co_ge (by omega)]) t2 (fun i hi => by rw [PS.ps_c, co_ge (by omega)])).1
    rw [← hG, PS.ps_c] at k
    have : (trim G).length - 1 + (W.length - 1) < (monQ p).length := Classical.byContradiction fun hh => k (co_ge (by omega))
    omega
theorem ps_mulT (p q : List Rat) : ps (trim (mulL p q)) = ps p * ps q := ext fun n => by
  rw [ps_c, co_trim, co_mulL, c_mul]; rfl
section
variable {h : Hp} {A B : Nat} {l m : Sl} {p q : List Rat} {Kb : Bool → Hp → Prop} {Ki : Int → Hp → Prop} {Ks : Sl → Hp → Prop}
theorem totA_call (hp : PL h 3 l p) (h4 : p.length ≤ 4) (H : ∀ h', h.le h' → Ki (totQ p) h') : callP (F.sturm_Total l) Ki h :=
  pTotalK_call (K := 4) (c := 16) (g := 485) (C := 1960) (q := 2445) (w := 12226) (z := 330155) hp h4 (by decide) ((CD_list (k := 4) hp.bound (by decide) h4).mono (by decide)) (by decide) (by decide +kernel) (by decide) (by decide) (by decide) (by decide +kernel) (by decide) (by decide) H
theorem totB_call (hp : PL h 29 l p) (h7 : p.length ≤ 7) (H : ∀ h', h.le h' → Ki (totQ p) h') : callP (F.sturm_Total l) Ki h :=
  pTotalK_call (K := 7) (c := 233) (g := 171314) (C := 1199438) (q := 1370752) (w := 10966017) (z := 7994227850) hp h7 (by decide) ((CD_list (k := 7) hp.bound (by decide) h7).mono (by decide)) (by decide) (by decide +kernel) (by decide) (by decide) (by decide) (by decide +kernel) (by decide) (by decide) H
theorem totC_call (hp : PL h A l p) (hA : A ≤ 50000000000) (h4 : p.length ≤ 4) (hc : CD 917 (co p)) (H : ∀ h', h.le h' → Ki (totQ p) h') : callP (F.sturm_Total l) Ki h :=
  pTotalK_call (K := 4) (c := 917) (g := 24812) (C := 100169) (q := 124981) (w := 624906) (z := 16872515) hp h4 (by decide) hc hA (by decide +kernel) (by decide) (by decide) (by decide) (by decide +kernel) (by decide) (by decide) H
theorem mul4_call (hp : PL h 3 l p) (hq : PL h 3 m q) (lp : p.length ≤ 4) (lq : q.length ≤ 4) (H : ∀ y h', h.le h' → PL h' 29 y (trim (mulL p q)) → (trim (mulL p q)).length ≤ 7 → Ks y h') : callP (F.ref04_Mul l m) Ks h := by
  have bp := fun i => BR.co hp.bound (by decide) i
  have bq := fun i => BR.co hq.bound (by decide) i
  have zp : ∀ i, 4 ≤ i → co p i = 0 := fun i hi => co_ge (by omega)
  refine rpMul2_call hp hq (by omega) (by omega) (by decide) (by decide) (C := 29) (fun k n _ => (part_BR bq bp zp k n).mono (by decide)) (by decide) fun y h' hl hy => H y h' hl hy ?_
  refine nf_len nf_trim fun k hk => ?_
  rw [co_trim, co_mulL]
  exact conv_zero_of (a := 4) (b := 4) (fun i hi => co_ge (by omega)) (fun i hi => co_ge (by omega)) (by omega)
theorem law_SturmPowers {a b : Sl} (ha : AQX h a) (hb : AQX h b) (H : ∀ h', h.le h' → Kb true h') : F.law05_SturmPowers a b Kb h := by
  unfold F.law05_SturmPowers
  refine joinP_inv (fun _ h' => h.le h' ∧ ∃ p q, PL h' 3 a p ∧ PL h' 3 b q ∧ p.length ≤ 4 ∧ q.length ≤ 4 ∧ trim p ≠ [] ∧ trim q ≠ []) ?_ ?_
  · rintro _ h1 ⟨hl1, p, q, hp, hq, lp, lq, np, nq⟩
    have cp : CD 16 (co p) := (CD_list (k := 4) hp.bound (by decide) lp).mono (by decide)
    have cq : CD 16 (co q) := (CD_list (k := 4) hq.bound (by decide) lq).mono (by decide)
    have tp := trim_len (p := p)
    have tq := trim_len (p := q)
    refine rgcd2_call (K := 4) (c := 16) hp hq cp cq (by omega) (by omega) nq (by decide) (by omega) (by omega) (by decide) (by decide) (by decide +kernel) fun y3 h2 hl2 hy3 lG nG fG cG => ?_
    have e917 : cz (2 * 16 + 1) (4 - 1) = 917 := by decide +kernel
    rw [e917] at hy3 cG
    refine mul4_call (hp.le hl2) (hp.le hl2) lp lp fun y4 h3 hl3 hy4 l4 => ?_
    have k3 := Hp.le_trans hl2 hl3
    refine totB_call hy4 l4 fun h4 hl4 => ?_
    have k4 := Hp.le_trans k3 hl4
    refine cp5_call (hp.le k4) (by omega) fun y6 h5 hl5 hy6 => ?_
    refine totA_call hy6 lp fun h6 hl6 => ?_
    have k6 := Hp.le_trans k4 (Hp.le_trans hl5 hl6)
    have pp0 : ps p ≠ 0 := fun hh => np (ps_eq_nil hh)
    have pq0 : ps q ≠ 0 := fun hh => nq (ps_eq_nil hh)
    have nz : ∀ {u v : List Rat}, ps u ≠ 0 → ps v ≠ 0 → trim (trim (mulL u v)) ≠ [] := fun {u v} hu hv hh => by
      have e := ps_mulT u v
      rw [← ps_trim, hh, ps_nil] at e
      rcases mul_eq_zero e.symm with h9 | h9
      · exact hu h9
      · exact hv h9
    have e1 : totQ (trim (mulL p p)) = totQ p := tot_sq np (nz pp0 pp0) (ps_mulT p p) (sqf_le8 (by omega)) (sqf_le8 (by omega))
    refine ifP_true (by rw [beq_iff_eq]; exact e1) ?_
    refine mul4_call (hp.le k6) (hq.le k6) lp lq fun y8 h7 hl7 hy8 l8 => ?_
    refine totB_call hy8 l8 fun h8 hl8 => ?_
    have k8 := Hp.le_trans k6 (Hp.le_trans hl7 hl8)
    refine cp5_call (hp.le k8) (by omega) fun y10 h9 hl9 hy10 => ?_
    refine totA_call hy10 lp fun h10 hl10 => ?_
    have k10 := Hp.le_trans k8 (Hp.le_trans hl9 hl10)
    refine cp5_call (hq.le k10) (by omega) fun y12 h11 hl11 hy12 => ?_
    refine totA_call hy12 lq fun h12 hl12 => ?_
    have k12 := Hp.le_trans k10 (Hp.le_trans hl11 hl12)
    have g2 : h2.le h12 := Hp.le_trans hl3 (Hp.le_trans hl4 (Hp.le_trans hl5 (Hp.le_trans hl6 (Hp.le_trans hl7 (Hp.le_trans hl8 (Hp.le_trans hl9 (Hp.le_trans hl10 (Hp.le_trans hl11 hl12))))))))
    refine totC_call (hy3.le g2) (by decide) lG cG fun h13 hl13 => ?_
    obtain ⟨s, t, x', y', fs, ft, fx, fy, ec, ex, ey⟩ := gcd_comb (n := (monQ q).length + 1) (x := monQ p) (y := monQ q) nf_monQ (Nat.lt_succ_self _)
    have e2 := tot_mul (m := trim (mulL p q)) (G := gcdQ p q) np nq (nz pp0 pq0) (by rw [trim_nf fG]; exact nG) (ps_mulT p q) ⟨x', fx, ex⟩ ⟨y', fy, ey⟩ (fun r fr h9 h10 => by
      have := Dv.comb h9 h10 fs ft
      rw [← ec] at this
      exact this) (sqf_le8 (by omega)) (sqf_le8 (by omega)) (sqf_le8 (by omega)) (sqf_le8 (by omega))
    have r1 : -10 ≤ totQ p ∧ totQ p ≤ 10 := cnt_rng _ _ _
    have r2 : -10 ≤ totQ q ∧ totQ q ≤ 10 := cnt_rng _ _ _
    have r3 : -10 ≤ totQ (gcdQ p q) ∧ totQ (gcdQ p q) ≤ 10 := cnt_rng _ _ _
    have := H h13 (Hp.le_trans hl1 (Hp.le_trans k12 hl13))
    rw [show IntKind.i64.wrap (totQ p + totQ q) = totQ p + totQ q from w64 (by omega), w64 (by omega)]
    have hb : (totQ (trim (mulL p q)) == totQ p + totQ q - totQ (gcdQ p q)) = true := by rw [beq_iff_eq]; omega
    rw [hb]; exact this
  · refine awake5_call fun h1 hl1 => ifP_false rfl ?_
    refine new_own (n := 2) (size := 1) rfl fun c h2 hb2 ho => ?_
    have l2 := Hp.le_trans hl1 ho.1
    refine small5_call (ss := [a, b]) ho.rd (fun s hs => by
      rcases List.mem_cons.1 hs with rfl | hs
      · exact ha.le l2
      · rw [List.mem_singleton.1 hs]; exact hb.le l2) (by simp) (fun h3 hl3 hsm => ifP_false rfl ?_) (fun h3 hl3 => ifP_true rfl (awake5_call fun h4 hl4 => H _ (Hp.le_trans l2 (Hp.le_trans hl3 hl4))))
    obtain ⟨p, hp, h8⟩ := hsm a (by simp)
    obtain ⟨q, hq, q8⟩ := hsm b (by simp)
    have l3 := Hp.le_trans l2 hl3
    have elp := hp.len
    have elq := hq.len
    refine ifP_dec (fun _ => awake5_call fun h5 hl5 => H _ (Hp.le_trans l3 hl5)) (fun g1 => ?_)
    refine ifP_dec (fun _ => awake5_call fun h5 hl5 => H _ (Hp.le_trans l3 hl5)) (fun g2 => ?_)
    refine rDegree_call (hp.le hl3) (by omega) (by decide) fun h4 hl4 => ?_
    have l4 := Hp.le_trans l3 hl4
    refine ifP_dec (fun _ => awake5_call fun h5 hl5 => H _ (Hp.le_trans l4 hl5)) (fun g3 => ?_)
    refine rDegree_call ((hq.le hl3).le hl4) (by omega) (by decide) fun h5 hl5 => ?_
    have l5 := Hp.le_trans l4 hl5
    refine ifP_dec (fun _ => awake5_call fun h6 hl6 => H _ (Hp.le_trans l5 hl6)) (fun g4 => ?_)
    have k5 := Hp.le_trans hl3 (Hp.le_trans hl4 hl5)
    refine ⟨l5, p, q, hp.le k5, hq.le k5, by omega, by omega, fun hh => ?_, fun hh => ?_⟩
    · rw [hh] at g3; simp at g3
    · rw [hh] at g4; simp at g4
end
end Den
end
