/-
  The program's lexer computes what the plain lexer says.
-/
import Derived.Test.YtnahjnlkpmbhlaaLxS
import Derived.Test.YtnahjnlkpmbhlaaLxF
set_option linter.unusedVariables false
namespace Den
open Go Lx

theorem drop_next {l : List UInt8} {k : Nat} {c : UInt8} {r : List UInt8} (h : l.drop k = c :: r) : l.drop (k + 1) = r ∧ k < l.length := by
  have h2 : (l.drop k).length = r.length + 1 := by rw [h]; rfl
  rw [List.length_drop] at h2
  refine ⟨?_, by omega⟩
  rw [← List.drop_drop, h]; rfl

theorem isL_int (c : UInt8) : isL c = ((decide ((c.toNat : Int) ≥ 97) && decide ((c.toNat : Int) ≤ 122)) || (decide ((c.toNat : Int) ≥ 65) && decide ((c.toNat : Int) ≤ 90))) := by
  rw [Bool.eq_iff_iff]
  simp [isL, UInt8.le_iff_toNat_le]
  omega
theorem isD_int (c : UInt8) : isD c = (decide ((c.toNat : Int) ≥ 48) && decide ((c.toNat : Int) ≤ 57)) := by
  rw [Bool.eq_iff_iff]
  simp [isD, UInt8.le_iff_toNat_le]
  omega
theorem u8_eq {c : UInt8} {n : Nat} (hn : n < 256) : (c.toNat : Int) = (n : Int) ↔ c = UInt8.ofNat n := by
  rw [← UInt8.toNat_inj]
  simp
  omega

section
variable {K : Bool → Hp → Prop} {Ki : Int → Hp → Prop} {h : Hp} {c : UInt8} {s : ByteArray}

theorem isLetter_of (H : K (isL c) h) : F.lexer_isLetter c.toNat K h := by
  rw [isL_int] at H
  unfold F.lexer_isLetter
  generalize decide ((c.toNat : Int) ≥ 97) = a1 at H ⊢
  generalize decide ((c.toNat : Int) ≤ 122) = a2 at H ⊢
  generalize decide ((c.toNat : Int) ≥ 65) = a3 at H ⊢
  cases a1 <;> cases a2 <;> cases a3 <;> exact H
theorem isDigit_of (H : K (isD c) h) : F.lexer_isDigit c.toNat K h := by
  rw [isD_int] at H
  unfold F.lexer_isDigit
  generalize decide ((c.toNat : Int) ≥ 48) = a1 at H ⊢
  cases a1 <;> exact H
theorem isWord_of (H : K (isW c) h) : F.lexer_isWord c.toNat K h := by
  unfold F.lexer_isWord
  refine callP_same (isL c) (fun K' => isLetter_of) ?_
  unfold isW at H
  cases h1 : isL c
  · show callP (F.lexer_isDigit ↑c.toNat) (fun r2 h2 => ifP r2 (K true h2) (K ((c.toNat : Int) == 95) h2)) h
    refine callP_same (isD c) (fun K' => isDigit_of) ?_
    rw [h1] at H
    cases h2 : isD c
    · rw [h2] at H
      have : ((c.toNat : Int) == 95) = (c == 95) := by
        rw [Bool.eq_iff_iff]
        simp only [beq_iff_eq]
        exact u8_eq (n := 95) (by decide)
      show K ((c.toNat : Int) == 95) h
      rw [this]; exact H
    · rw [h2] at H; exact H
  · rw [h1] at H; exact H

theorem span_word_of (hs : s.size ≤ 1000000) (H : Ki (spn isW (BS s)) h) : F.lexer_span_lexer_isWord s Ki h := by
  unfold F.lexer_span_lexer_isWord
  refine loopP_of (fun st h' => h' = h ∧ ∃ k : Nat, st = ((k : Int), ()) ∧ spn isW (BS s) = k + spn isW ((BS s).drop k)) (fun st => ((s.size : Int) - st.1).toNat) ⟨rfl, 0, rfl, by simp⟩ ?_
  rintro st h' ⟨rfl, k, rfl, hk⟩
  refine joinP_of (ifP_dec (fun h1 => ?_) (fun h1 => ?_))
  · cases hd : (BS s).drop k with
    | nil => have := List.drop_eq_nil_iff.1 hd; rw [BS_len] at this; simp only at h1; omega
    | cons c r =>
      obtain ⟨h2, h3⟩ := drop_next hd
      rw [BS_len] at h3
      refine strIdx_drop hd rfl (callP_same (isW c) (fun K' => isWord_of) (ifP_intro (fun h4 => ?_) (fun h4 => ?_)))
      · simp only at h1
        refine ⟨⟨rfl, k + 1, by simp only; rw [w64 (by omega)]; rfl, ?_⟩, by simp only; rw [w64 (by omega)]; omega⟩
        rw [h2, hk, hd]; simp only [spn, h4, if_true]; omega
      · rw [hk, hd] at H
        simp only [spn, h4] at H
        simpa using H
  · have hd : (BS s).drop k = [] := by apply List.drop_eq_nil_of_le; rw [BS_len]; simp only at h1; omega
    rw [hk, hd] at H
    simpa [spn] using H
theorem span_digit_of (hs : s.size ≤ 1000000) (H : Ki (spn isD (BS s)) h) : F.lexer_span_lexer_isDigit s Ki h := by
  unfold F.lexer_span_lexer_isDigit
  refine loopP_of (fun st h' => h' = h ∧ ∃ k : Nat, st = ((k : Int), ()) ∧ spn isD (BS s) = k + spn isD ((BS s).drop k)) (fun st => ((s.size : Int) - st.1).toNat) ⟨rfl, 0, rfl, by simp⟩ ?_
  rintro st h' ⟨rfl, k, rfl, hk⟩
  refine joinP_of (ifP_dec (fun h1 => ?_) (fun h1 => ?_))
  · cases hd : (BS s).drop k with
    | nil => have := List.drop_eq_nil_iff.1 hd; rw [BS_len] at this; simp only at h1; omega
    | cons c r =>
      obtain ⟨h2, h3⟩ := drop_next hd
      rw [BS_len] at h3
      refine strIdx_drop hd rfl (callP_same (isD c) (fun K' => isDigit_of) (ifP_intro (fun h4 => ?_) (fun h4 => ?_)))
      · simp only at h1
        refine ⟨⟨rfl, k + 1, by simp only; rw [w64 (by omega)]; rfl, ?_⟩, by simp only; rw [w64 (by omega)]; omega⟩
        rw [h2, hk, hd]; simp only [spn, h4, if_true]; omega
      · rw [hk, hd] at H
        simp only [spn, h4] at H
        simpa using H
  · have hd : (BS s).drop k = [] := by apply List.drop_eq_nil_of_le; rw [BS_len]; simp only at h1; omega
    rw [hk, hd] at H
    simpa [spn] using H

theorem number_of (hs : s.size ≤ 1000000) (H : Ki (num (BS s)) h) : F.lexer_number s Ki h := by
  unfold F.lexer_number
  have hle := spn_le isD (BS s)
  rw [BS_len] at hle
  refine callP_same _ (fun K' => span_digit_of hs) (ifP_dec (fun h1 => ?_) (fun h1 => ?_))
  · cases hd : (BS s).drop (spn isD (BS s)) with
    | nil => have := List.drop_eq_nil_iff.1 hd; rw [BS_len] at this; omega
    | cons c r =>
      obtain ⟨h2, h3⟩ := drop_next hd
      rw [BS_len] at h3
      unfold num at H
      rw [hd] at H
      simp only at H
      refine strIdx_drop hd rfl (ifP_eq (fun h4 => ?_) (fun h4 => ?_))
      · have h5 : c = 46 := (u8_eq (n := 46) (by decide)).1 h4
        rw [w64 (by omega)]
        refine strCut_of (spn isD (BS s) + 1) s.size rfl rfl (by omega) (Nat.le_refl _) fun t ht => ?_
        have ht' : BS t = r := by
          rw [ht, h2]; apply List.take_of_length_le
          rw [← h2, List.length_drop, BS_len]; omega
        have hts : t.size ≤ s.size := by
          rw [← BS_len, ht', ← h2, List.length_drop, BS_len]; omega
        have hr := spn_le isD r
        rw [← ht', BS_len] at hr
        refine callP_same _ (fun K' => span_digit_of (by omega)) (ifP_dec (fun h6 => ?_) (fun h6 => ?_))
        · rw [ht'] at h6 ⊢
          rw [if_pos ⟨h5, by omega⟩] at H
          rw [ht'] at hr
          rw [w64 (by omega)]
          have : ((spn isD (BS s) : Int) + 1 + (spn isD r : Int)) = ((spn isD (BS s) + 1 + spn isD r : Nat) : Int) := by omega
          rw [this]; exact H
        · rw [ht'] at h6
          rw [if_neg (by omega)] at H; exact H
      · rw [if_neg (fun hh => h4 (by rw [hh.1]; rfl))] at H; exact H
  · have hd : (BS s).drop (spn isD (BS s)) = [] := by apply List.drop_eq_nil_of_le; rw [BS_len]; omega
    unfold num at H
    rw [hd] at H; exact H

theorem indexByte_neg {l : List UInt8} {b : UInt8} : (Lib.indexByte l b < 0) ↔ b ∉ l := by
  induction l with
  | nil => simp [Lib.indexByte]
  | cons x r ih =>
    unfold Lib.indexByte
    have := Lib.indexByte_ge r b
    by_cases hx : x = b
    · simp [hx]
    · have hx' : ¬ b = x := fun hh => hx hh.symm
      simp only [beq_iff_eq, hx, if_false, List.mem_cons, hx', false_or]
      rw [← ih]
      by_cases h1 : Lib.indexByte r b = -1
      · simp [h1]
      · simp only [h1, if_false]; omega

theorem IndexByte_of {t : ByteArray} (H : Ki (Lib.indexByte (BS t) c) h) : F.strings_IndexByte t c.toNat Ki h := by
  unfold F.strings_IndexByte
  refine callP_same (Lib.indexByte (BS t) c) (fun K' hk => ?_) H
  show K' (idxByte t c.toNat) h
  have : idxByte t c.toNat = Lib.indexByte (BS t) c := by
    unfold idxByte BS
    congr 1
    simp
  rw [this]; exact hk

theorem lt32 {c : UInt8} : (c.toNat : Int) < 32 ↔ c < 32 := by
  rw [UInt8.lt_iff_toNat_lt]; simp; omega

theorem quoted_of (hs : s.size ≤ 1000000) (h34 : ∃ r, BS s = 34 :: r) (H : Ki (quoN (BS s)) h) : F.lexer_quoted s Ki h := by
  obtain ⟨r0, hr0⟩ := h34
  have hlen : s.size = r0.length + 1 := by rw [← BS_len, hr0]; rfl
  -- what is still to be read decides
  have key : ∀ P : Nat → Prop, P (quoN (BS s)) → P (match qs (r0.length + 1) r0 with | some p => p.1 + 1 | none => 0) := fun P hp => by
    rw [hr0] at hp
    unfold quoN quo at hp
    simp only [if_true] at hp
    cases hq : qs (r0.length + 1) r0 with
    | none => rw [hq] at hp; exact hp
    | some p => rw [hq] at hp; exact hp
  have H' := key (fun n => Ki n h) H
  unfold F.lexer_quoted
  refine loopP_of (fun st h' => h' = h ∧ ∃ k : Nat, st = ((k : Int), ()) ∧ 1 ≤ k ∧ k ≤ s.size ∧
      (match qs (r0.length + 1) r0 with | some p => p.1 + 1 | none => 0) = (match qs (((BS s).drop k).length + 1) ((BS s).drop k) with | some p => p.1 + k | none => 0))
      (fun st => ((s.size : Int) - st.1).toNat) ⟨rfl, 1, rfl, Nat.le_refl _, by omega, by rw [hr0]; rfl⟩ ?_
  rintro st h' ⟨rfl, k, rfl, hk1, hks, hk⟩
  refine ifP_dec (fun h1 => ?_) (fun h1 => ?_)
  · simp only at h1
    cases hd : (BS s).drop k with
    | nil => have := List.drop_eq_nil_iff.1 hd; rw [BS_len] at this; omega
    | cons c r =>
      obtain ⟨h2, h3⟩ := drop_next hd
      rw [BS_len] at h3
      rw [hd] at hk
      rw [hk] at H'
      refine joinP_of (strIdx_drop hd rfl (ifP_eq (fun h4 => ?_) (fun h4 => ?_)))
      · have h5 : c = 34 := (u8_eq (n := 34) (by decide)).1 h4
        subst h5
        rw [w64 (by simp only; omega)]
        have e : qs ((34 :: r).length + 1) (34 :: r) = some (1, []) := by simp [qs]
        rw [e] at H'
        simp only at H' ⊢
        have : ((k : Int) + 1) = ((1 + k : Nat) : Int) := by omega
        rw [this]; exact H'
      · have h5 : c ≠ 34 := fun hh => h4 (by rw [hh]; rfl)
        refine strIdx_drop hd rfl (ifP_dec (fun h6 => ?_) (fun h6 => ?_))
        · have e : qs ((c :: r).length + 1) (c :: r) = none := by unfold qs; rw [if_pos (lt32.1 h6)]
          rw [e] at H'; exact H'
        · have h6' : ¬ c < 32 := fun hh => h6 (lt32.2 hh)
          refine strIdx_drop hd rfl (ifP_eq (fun h7 => ?_) (fun h7 => ?_))
          · have h8 : c = 92 := (u8_eq (n := 92) (by decide)).1 h7
            refine ifP_eq (fun h9 => ?_) (fun h9 => ?_)
            · simp only at h9
              rw [w64 (by omega)] at h9
              have hr : r = [] := by rw [← h2]; apply List.drop_eq_nil_of_le; rw [BS_len]; omega
              subst hr
              have e : qs ([c].length + 1) [c] = none := by unfold qs; rw [if_neg h6', if_neg h5, if_pos h8]
              rw [e] at H'; exact H'
            · simp only at h9
              rw [w64 (by omega)] at h9
              cases hr : r with
              | nil =>
                have := List.drop_eq_nil_iff.1 (h2.trans hr); rw [BS_len] at this; omega
              | cons d r' =>
                have hd2 : (BS s).drop (k + 1) = d :: r' := h2.trans hr
                obtain ⟨i2, i3⟩ := drop_next hd2
                rw [BS_len] at i3
                rw [hr] at H' hk
                have e : qs ((c :: d :: r').length + 1) (c :: d :: r') = if d = 34 ∨ d = 92 ∨ d = 110 then (qs (r'.length + 1) r').map fun p => (p.1 + 2, (if d = 110 then 10 else d) :: p.2) else none := by
                  conv => lhs; unfold qs
                  rw [if_neg h6', if_neg h5, if_pos h8]
                  simp only
                  rw [qs_fuel (c :: d :: r').length (r'.length + 1) r' (by simp only [List.length_cons]; omega) (by omega)]
                rw [e] at H' hk
                refine strIdx_drop hd2 (by simp only; rw [w64 (by omega)]; rfl) (callP_same _ (fun K' => IndexByte_of) (ifP_dec (fun j1 => ?_) (fun j1 => ?_)))
                · rw [if_neg] at H'
                  · exact H'
                  · rw [indexByte_neg] at j1
                    rintro (hh | hh | hh) <;> (rw [hh] at j1; exact j1 (by decide))
                · rw [indexByte_neg] at j1
                  have j2 : d = 34 ∨ d = 92 ∨ d = 110 := by
                    have : d ∈ BS ⟨#[34, 92, 110]⟩ := Classical.not_not.1 j1
                    simpa [BS] using this
                  rw [if_pos j2] at hk
                  have w1 : IntKind.i64.wrap (IntKind.i64.wrap ((k : Int) + 1) + 1) = ((k + 2 : Nat) : Int) := by rw [w64 (n := (k : Int) + 1) (by omega), w64 (by omega)]; omega
                  refine ⟨⟨rfl, k + 2, by simp only; rw [w1], by omega, by omega, ?_⟩, by simp only; rw [w1]; omega⟩
                  rw [hk, show k + 2 = k + 1 + 1 by omega, i2]
                  cases hq : qs (r'.length + 1) r' with
                  | none => rfl
                  | some p => simp only [Option.map_some]; exact (by omega : p.1 + 2 + k = p.1 + (k + 2))
          · have h8 : ¬ c = 92 := fun hh => h7 (by rw [hh]; rfl)
            have e : qs ((c :: r).length + 1) (c :: r) = (qs (r.length + 1) r).map fun p => (p.1 + 1, c :: p.2) := by
              conv => lhs; unfold qs
              rw [if_neg h6', if_neg h5, if_neg h8]
              rfl
            rw [e] at hk
            refine ⟨⟨rfl, k + 1, by simp only; rw [w64 (by omega)]; rfl, by omega, by omega, ?_⟩, by simp only; rw [w64 (by omega)]; omega⟩
            rw [hk, h2]
            cases hq : qs (r.length + 1) r with
            | none => rfl
            | some p => simp only [Option.map_some]; exact (by omega : p.1 + 1 + k = p.1 + (k + 1))
  · simp only at h1
    have hd : (BS s).drop k = [] := by apply List.drop_eq_nil_of_le; rw [BS_len]; omega
    rw [hd] at hk
    rw [hk] at H'
    simpa [qs] using H'

end
end Den
