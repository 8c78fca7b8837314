/-
  The lexer, in plain Lean: what the tokens of a text are.
-/
import Derived.Test.YtnahjnlkpmbhlaaFl
set_option linter.unusedVariables false
namespace Lx
abbrev B := List UInt8

def isL (c : UInt8) : Bool := (97 ≤ c && c ≤ 122) || (65 ≤ c && c ≤ 90)
def isD (c : UInt8) : Bool := 48 ≤ c && c ≤ 57
def isW (c : UInt8) : Bool := isL c || isD c || c == 95
def spn (p : UInt8 → Bool) : B → Nat
  | [] => 0
  | c :: r => if p c = true then spn p r + 1 else 0
def syms : B := [43, 45, 42, 47, 40, 41, 91, 93, 123, 125, 44, 58, 59, 61, 46, 60, 62, 64, 35]
def num (l : B) : Nat :=
  match l.drop (spn isD l) with
  | [] => spn isD l
  | c :: r => if c = 46 ∧ 0 < spn isD r then spn isD l + 1 + spn isD r else spn isD l
/-- What stands behind an opening quotation mark: the length up to the closing one, and the text. -/
def qs : Nat → B → Option (Nat × B)
  | 0, _ => none
  | _, [] => none
  | f + 1, c :: r =>
    if c < 32 then none else if c = 34 then some (1, [])
    else if c = 92 then
      match r with
      | [] => none
      | d :: r' => if d = 34 ∨ d = 92 ∨ d = 110 then (qs f r').map fun p => (p.1 + 2, (if d = 110 then 10 else d) :: p.2) else none
    else (qs f r).map fun p => (p.1 + 1, c :: p.2)
def quo (l : B) : Option (Nat × B) :=
  match l with
  | [] => none
  | c :: r => if c = 34 then (qs (r.length + 1) r).map fun p => (p.1 + 1, p.2) else none
def quoN (l : B) : Nat := match quo l with | some p => p.1 | none => 0
def quoT (l : B) : B := match quo l with | some p => p.2 | none => []
def nxt (l : B) : Int × Nat :=
  match l with
  | [] => (0, 0)
  | c :: r =>
    if isL c = true then (1, spn isW (c :: r)) else if isD c = true then (2, num (c :: r))
    else if c = 34 then (3, quoN (c :: r)) else if c = 10 then (5, 1) else if c ∈ syms then (4, 1) else (0, 0)

def isNm (l : B) : Bool :=
  match l with
  | [] => false
  | c :: r => decide ((c :: r).length ≤ 24) && isL c && (spn isW (c :: r) == (c :: r).length)

structure Tok where
  kind : Int
  text : B
  pos : Nat
deriving DecidableEq

inductive Res where
  | ok (ts : List Tok)
  | err (at_ : Nat) (e : Int)
deriving DecidableEq

def Res.pre (acc : List Tok) : Res → Res
  | .ok ts => .ok (acc ++ ts)
  | .err a e => .err a e

/-- The tokens of l, which begins at a position. -/
def lexF : Nat → Nat → B → Res
  | 0, _, _ => .err 0 0
  | f + 1, p, l =>
    match l with
    | [] => .ok [⟨0, [], p⟩]
    | c :: r =>
      if c = 32 ∨ c = 9 then lexF f (p + 1) r
      else if (nxt (c :: r)).2 = 0 then .err p 2
      else if (nxt (c :: r)).1 = 1 ∧ 24 < (nxt (c :: r)).2 then .err p 3
      else (lexF f (p + (nxt (c :: r)).2) ((c :: r).drop (nxt (c :: r)).2)).pre [⟨(nxt (c :: r)).1, (c :: r).take (nxt (c :: r)).2, p⟩]
def lex (l : B) : Res := if 65536 < l.length then .err 0 3 else lexF (l.length + 1) 0 l

theorem spn_le (p : UInt8 → Bool) : ∀ l, spn p l ≤ l.length
  | [] => Nat.le_refl _
  | c :: r => by
    unfold spn
    split
    · have := spn_le p r; simp only [List.length_cons]; omega
    · exact Nat.zero_le _
theorem num_le (l : B) : num l ≤ l.length := by
  unfold num
  have h1 := spn_le isD l
  split
  · exact h1
  · rename_i c r hd
    have h2 : (l.drop (spn isD l)).length = r.length + 1 := by rw [hd]; rfl
    rw [List.length_drop] at h2
    have h3 := spn_le isD r
    split <;> omega
theorem qs_le : ∀ f l p, qs f l = some p → p.1 ≤ l.length ∧ 0 < p.1
  | 0, l, p, h => by simp [qs] at h
  | f + 1, [], p, h => by simp [qs] at h
  | f + 1, c :: r, p, h => by
    unfold qs at h
    split at h
    · cases h
    · split at h
      · simp only [Option.some.injEq] at h; subst h; simp
      · split at h
        · split at h
          · cases h
          · split at h
            · simp only [Option.map_eq_some_iff] at h
              obtain ⟨q, hq, rfl⟩ := h
              have := qs_le f _ q hq
              simp only [List.length_cons]; omega
            · cases h
        · simp only [Option.map_eq_some_iff] at h
          obtain ⟨q, hq, rfl⟩ := h
          have := qs_le f _ q hq
          simp only [List.length_cons]; omega
theorem quoN_le (l : B) : quoN l ≤ l.length := by
  unfold quoN quo
  cases l with
  | nil => simp
  | cons c r =>
    simp only
    split
    · rename_i p hp
      split at hp
      · simp only [Option.map_eq_some_iff] at hp
        obtain ⟨q, hq, rfl⟩ := hp
        have := qs_le _ _ q hq
        simp only [List.length_cons]; omega
      · cases hp
    · exact Nat.zero_le _
theorem nxt_le (l : B) : (nxt l).2 ≤ l.length := by
  unfold nxt
  cases l with
  | nil => simp
  | cons c r =>
    simp only
    split
    · exact spn_le _ _
    · split
      · exact num_le _
      · split
        · exact quoN_le _
        · split
          · simp
          · split <;> simp
theorem nxt_kind (l : B) : (nxt l).2 ≠ 0 → 1 ≤ (nxt l).1 ∧ (nxt l).1 ≤ 5 := by
  unfold nxt
  cases l with
  | nil => simp
  | cons c r =>
    simp only
    repeat' split
    all_goals simp

/-- The fuel does not matter. -/
theorem qs_fuel : ∀ f g l, l.length < f → l.length < g → qs f l = qs g l
  | 0, _, l, h, _ => by omega
  | _, 0, l, _, h => by omega
  | f + 1, g + 1, [], _, _ => by simp [qs]
  | f + 1, g + 1, c :: r, hf, hg => by
    simp only [List.length_cons] at hf hg
    unfold qs
    split
    · rfl
    · split
      · rfl
      · split
        · cases r with
          | nil => rfl
          | cons d r' =>
            simp only [List.length_cons] at hf hg
            simp only
            split
            · rw [qs_fuel f g r' (by omega) (by omega)]
            · rfl
        · rw [qs_fuel f g r (by omega) (by omega)]
theorem lexF_fuel : ∀ f g p l, l.length < f → l.length < g → lexF f p l = lexF g p l
  | 0, _, p, l, h, _ => by omega
  | _, 0, p, l, _, h => by omega
  | f + 1, g + 1, p, [], _, _ => by simp [lexF]
  | f + 1, g + 1, p, c :: r, hf, hg => by
    simp only [List.length_cons] at hf hg
    unfold lexF
    simp only
    split
    · exact lexF_fuel f g _ r (by omega) (by omega)
    · split
      · rfl
      · split
        · rfl
        · rename_i h1 _
          have : ((c :: r).drop (nxt (c :: r)).2).length ≤ r.length := by
            rw [List.length_drop]; simp only [List.length_cons]; omega
          rw [lexF_fuel f g _ _ (by omega) (by omega)]

/-! How the reference chooses. -/
def wordN (l : B) : Nat := match l with | [] => 0 | c :: _ => if isL c = true then spn isW l else 0
def numN (l : B) : Nat := if 0 < spn isD l then num l else 0
def rn1 (l : B) : Int × Nat := if wordN l = 0 then (2, numN l) else (1, wordN l)
def rn2 (l : B) : Int × Nat := if (rn1 l).2 = 0 then (3, quoN l) else rn1 l
def rn3 (c : UInt8) (l : B) : Int × Nat := if (rn2 l).2 = 0 ∧ c ∈ syms then (4, 1) else rn2 l
def rn4 (c : UInt8) (l : B) : Int × Nat := if (rn3 c l).2 = 0 ∧ c = 10 then (5, 1) else rn3 c l

theorem isL_ne {c : UInt8} (h : isL c = true) : c ≠ 34 ∧ c ≠ 10 ∧ isD c = false ∧ c ∉ syms := by
  refine ⟨?_, ?_, ?_, ?_⟩
  · rintro rfl; exact absurd h (by decide)
  · rintro rfl; exact absurd h (by decide)
  · cases hd : isD c with
    | false => rfl
    | true =>
      simp [isD, isL, UInt8.le_iff_toNat_le] at h hd
      omega
  · intro hm
    simp only [syms, List.mem_cons, List.not_mem_nil, or_false] at hm
    rcases hm with rfl | rfl | rfl | rfl | rfl | rfl | rfl | rfl | rfl | rfl | rfl | rfl | rfl | rfl | rfl | rfl | rfl | rfl | rfl <;> exact absurd h (by decide)
theorem isD_ne {c : UInt8} (h : isD c = true) : c ≠ 34 ∧ c ≠ 10 ∧ c ∉ syms := by
  refine ⟨?_, ?_, ?_⟩
  · rintro rfl; exact absurd h (by decide)
  · rintro rfl; exact absurd h (by decide)
  · intro hm
    simp only [syms, List.mem_cons, List.not_mem_nil, or_false] at hm
    rcases hm with rfl | rfl | rfl | rfl | rfl | rfl | rfl | rfl | rfl | rfl | rfl | rfl | rfl | rfl | rfl | rfl | rfl | rfl | rfl <;> exact absurd h (by decide)
theorem num_pos {l : B} (h : 0 < spn isD l) : 0 < num l := by
  unfold num
  split
  · exact h
  · split <;> omega
theorem quoN_ne {c : UInt8} {r : B} (h : c ≠ 34) : quoN (c :: r) = 0 := by
  unfold quoN quo; simp only [if_neg h]
theorem rn_eq (c : UInt8) (r : B) : (rn4 c (c :: r)).2 = (nxt (c :: r)).2 ∧ ((nxt (c :: r)).2 ≠ 0 → (rn4 c (c :: r)).1 = (nxt (c :: r)).1) := by
  by_cases hL : isL c = true
  · have hw : isW c = true := by simp [isW, hL]
    have h1 : spn isW (c :: r) ≠ 0 := by simp [spn, hw]
    have e1 : rn1 (c :: r) = (1, spn isW (c :: r)) := by simp [rn1, wordN, hL, h1]
    have e2 : rn2 (c :: r) = (1, spn isW (c :: r)) := by simp [rn2, e1, h1]
    have e3 : rn3 c (c :: r) = (1, spn isW (c :: r)) := by simp [rn3, e2, h1]
    have e4 : rn4 c (c :: r) = (1, spn isW (c :: r)) := by simp [rn4, e3, h1]
    have en : nxt (c :: r) = (1, spn isW (c :: r)) := by simp [nxt, hL]
    rw [e4, en]; simp
  · by_cases hD : isD c = true
    · have h1 : 0 < spn isD (c :: r) := by simp [spn, hD]
      have h2 := num_pos h1
      have h2' : num (c :: r) ≠ 0 := by omega
      have e1 : rn1 (c :: r) = (2, num (c :: r)) := by simp [rn1, wordN, hL, numN, h1]
      have e2 : rn2 (c :: r) = (2, num (c :: r)) := by simp [rn2, e1, h2']
      have e3 : rn3 c (c :: r) = (2, num (c :: r)) := by simp [rn3, e2, h2']
      have e4 : rn4 c (c :: r) = (2, num (c :: r)) := by simp [rn4, e3, h2']
      have en : nxt (c :: r) = (2, num (c :: r)) := by simp [nxt, hL, hD]
      rw [e4, en]; simp
    · have h1 : spn isD (c :: r) = 0 := by simp [spn, hD]
      have e1 : rn1 (c :: r) = (2, 0) := by simp [rn1, wordN, hL, numN, h1]
      have e2 : rn2 (c :: r) = (3, quoN (c :: r)) := by simp [rn2, e1]
      by_cases hq : c = 34
      · subst hq
        have hs : (34 : UInt8) ∉ syms := by decide
        have e3 : rn3 34 (34 :: r) = (3, quoN (34 :: r)) := by simp [rn3, e2, hs]
        have e4 : rn4 34 (34 :: r) = (3, quoN (34 :: r)) := by simp [rn4, e3]
        have en : nxt (34 :: r) = (3, quoN (34 :: r)) := by simp [nxt, hL, hD]
        rw [e4, en]; simp
      · have hq0 : quoN (c :: r) = 0 := quoN_ne hq
        by_cases hn : c = 10
        · subst hn
          have hs : (10 : UInt8) ∉ syms := by decide
          have e3 : rn3 10 (10 :: r) = (3, 0) := by simp [rn3, e2, hs, hq0]
          have e4 : rn4 10 (10 :: r) = (5, 1) := by simp [rn4, e3]
          have en : nxt (10 :: r) = (5, 1) := by simp [nxt, hL, hD]
          rw [e4, en]; simp
        · by_cases hs : c ∈ syms
          · have e3 : rn3 c (c :: r) = (4, 1) := by simp [rn3, e2, hs, hq0]
            have e4 : rn4 c (c :: r) = (4, 1) := by simp [rn4, e3]
            have en : nxt (c :: r) = (4, 1) := by simp [nxt, hL, hD, hq, hn, hs]
            rw [e4, en]; simp
          · have e3 : rn3 c (c :: r) = (3, 0) := by simp [rn3, e2, hs, hq0]
            have e4 : rn4 c (c :: r) = (3, 0) := by simp [rn4, e3, hn]
            have en : nxt (c :: r) = (0, 0) := by simp [nxt, hL, hD, hq, hn, hs]
            rw [e4, en]; simp
theorem rn_le (c : UInt8) (r : B) : (rn1 (c :: r)).2 ≤ (c :: r).length ∧ (rn2 (c :: r)).2 ≤ (c :: r).length ∧ (rn3 c (c :: r)).2 ≤ (c :: r).length ∧ (rn4 c (c :: r)).2 ≤ (c :: r).length := by
  have h1 : (rn1 (c :: r)).2 ≤ (c :: r).length := by
    unfold rn1
    split
    · unfold numN; split
      · exact num_le _
      · exact Nat.zero_le _
    · unfold wordN; simp only; split
      · exact spn_le _ _
      · exact Nat.zero_le _
  have h2 : (rn2 (c :: r)).2 ≤ (c :: r).length := by
    unfold rn2; split
    · exact quoN_le _
    · exact h1
  have h3 : (rn3 c (c :: r)).2 ≤ (c :: r).length := by
    unfold rn3; split
    · simp
    · exact h2
  refine ⟨h1, h2, h3, ?_⟩
  unfold rn4; split
  · simp
  · exact h3
end Lx
