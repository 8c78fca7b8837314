/-
  The program's lexer: tokens, names.
-/
import Derived.Test.YtnahjnlkpmbhlaaLxA
set_option linter.unusedVariables false
namespace Den
open Go Lx

def tokCells (t : Tok) : List Value := [.int .i64 t.kind, .string ⟨t.text.toArray⟩, .int .i64 (t.pos : Int)]
theorem tokCells_len (ts : List Tok) : (ts.flatMap tokCells).length = ts.length * 3 := by
  induction ts with
  | nil => rfl
  | cons t r ih => simp only [List.flatMap_cons, List.length_append, ih, List.length_cons]; simp [tokCells]; omega

/-- What a call of Tokens hands back. -/
def LexR (h : Hp) (r : Sl × Int × Int) : Res → Prop
  | .ok ts => Rd h 3 r.1 (ts.flatMap tokCells) ∧ r.2.1 = 0 ∧ r.2.2 = 0
  | .err p e => r = (nilS, (p : Int), e)

theorem Res.pre_pre (a b : List Tok) (r : Res) : (r.pre b).pre a = r.pre (a ++ b) := by
  cases r <;> simp [Res.pre]

section
variable {Kp : Int × Int → Hp → Prop} {Kt : Sl × Int × Int → Hp → Prop} {K : Bool → Hp → Prop} {h : Hp} {s : ByteArray}

theorem next_of (hs : s.size ≤ 1000000) {c : UInt8} {r : List UInt8} (hd : BS s = c :: r) (H : Kp ((nxt (BS s)).1, ((nxt (BS s)).2 : Int)) h) : F.lexer_next s Kp h := by
  unfold F.lexer_next
  have hd0 : (BS s).drop 0 = c :: r := hd
  refine strIdx_drop hd0 rfl (callP_same (isL c) (fun K' => isLetter_of) ?_)
  have H2 : Kp ((nxt (c :: r)).1, ((nxt (c :: r)).2 : Int)) h := hd ▸ H
  unfold nxt at H2
  simp only at H2
  refine ifP_intro (fun h1 => ?_) (fun h1 => ?_)
  · rw [if_pos h1, ← hd] at H2
    exact callP_same _ (fun K' => span_word_of hs) H2
  · rw [if_neg (by rw [h1]; decide)] at H2
    refine callP_same (isD c) (fun K' => isDigit_of) (ifP_intro (fun h2 => ?_) (fun h2 => ?_))
    · rw [if_pos h2, ← hd] at H2
      exact callP_same _ (fun K' => number_of hs) H2
    · rw [if_neg (by rw [h2]; decide)] at H2
      refine ifP_eq (fun h3 => ?_) (fun h3 => ?_)
      · have h4 : c = 34 := (u8_eq (n := 34) (by decide)).1 h3
        rw [if_pos h4, ← hd] at H2
        exact callP_same _ (fun K' => quoted_of hs ⟨r, by rw [hd, h4]⟩) H2
      · rw [if_neg (fun hh => h3 (by rw [hh]; rfl))] at H2
        refine ifP_eq (fun h5 => ?_) (fun h5 => ?_)
        · have h5' : c = 10 := (u8_eq (n := 10) (by decide)).1 h5
          rw [if_pos h5'] at H2
          exact H2
        · rw [if_neg (fun hh => h5 (by rw [hh]; rfl))] at H2
          refine callP_same _ (fun K' => IndexByte_of) (ifP_dec (fun h6 => ?_) (fun h6 => ?_))
          · have : c ∈ syms := by
              have h7 := mt (indexByte_neg (l := syms) (b := c)).2
              refine Classical.byContradiction fun hh => ?_
              have := (indexByte_neg (l := syms) (b := c)).2 hh
              have h8 : Lib.indexByte syms c ≥ 0 := h6
              omega
            rw [if_pos this] at H2; exact H2
          · have : c ∉ syms := by
              have h8 : ¬ Lib.indexByte syms c ≥ 0 := h6
              exact (indexByte_neg (l := syms) (b := c)).1 (by omega)
            rw [if_neg this] at H2; exact H2

theorem Tokens_of (H : ∀ r h', h.le h' → LexR h' r (lex (BS s)) → Kt r h') : F.lexer_Tokens s Kt h := by
  unfold F.lexer_Tokens
  refine ifP_dec (fun h1 => ?_) (fun h1 => ?_)
  · refine H _ _ (Hp.le_refl _) ?_
    unfold lex
    rw [if_pos (by rw [BS_len]; omega)]
    rfl
  · have hs : s.size ≤ 65536 := by omega
    have hlex : lex (BS s) = lexF ((BS s).length + 1) 0 (BS s) := by unfold lex; rw [if_neg (by rw [BS_len]; omega)]
    refine loopP_of (fun st h' => ∃ (x : Sl) (k : Nat) (acc : List Tok), st = (x, (k : Int), ()) ∧ Own h h' 3 x (acc.flatMap tokCells) ∧ k ≤ s.size ∧ acc.length ≤ k ∧
        lex (BS s) = (lexF (((BS s).drop k).length + 1) k ((BS s).drop k)).pre acc) (fun st => ((s.size : Int) - st.2.1).toNat)
        ⟨nilS, 0, [], rfl, Own.nil (Hp.le_refl _), Nat.zero_le _, Nat.le_refl _, by rw [hlex]; simp only [List.drop_zero]; cases lexF ((BS s).length + 1) 0 (BS s) <;> simp [Res.pre]⟩ ?_
    rintro st h' ⟨x, k, acc, rfl, hown, hks, hacc, hk⟩
    have hxl : x.len = acc.length := by
      have := hown.2.1
      rw [tokCells_len] at this; omega
    refine ifP_dec (fun h2 => ?_) (fun h2 => ?_)
    · simp only at h2
      cases hd : (BS s).drop k with
      | nil => have := List.drop_eq_nil_iff.1 hd; rw [BS_len] at this; omega
      | cons c r =>
        obtain ⟨g2, g3⟩ := drop_next hd
        rw [BS_len] at g3
        rw [hd] at hk
        unfold lexF at hk
        simp only at hk
        have hrl : (c :: r).length = s.size - k := by rw [← hd, List.length_drop, BS_len]
        -- a blank
        have blank : (c = 32 ∨ c = 9) → ∃ (x' : Sl) (k' : Nat) (acc : List Tok), ((x, IntKind.i64.wrap ((k : Int) + 1), ()) : Sl × Int × Unit) = (x', (k' : Int), ()) ∧ Own h h' 3 x' (acc.flatMap tokCells) ∧ k' ≤ s.size ∧ acc.length ≤ k' ∧
            lex (BS s) = (lexF (((BS s).drop k').length + 1) k' ((BS s).drop k')).pre acc := fun hc => by
          refine ⟨x, k + 1, acc, by rw [w64 (by omega)]; rfl, hown, by omega, by omega, ?_⟩
          rw [if_pos hc] at hk
          rw [hk, g2]
          rfl
        have dec : ((s.size : Int) - IntKind.i64.wrap ((k : Int) + 1)).toNat < ((s.size : Int) - (k : Int)).toNat := by rw [w64 (by omega)]; omega
        refine joinP_inv (fun s3 h'' => s3 = ((k : Int), ()) ∧ h'' = h' ∧ ¬ (c = 32 ∨ c = 9)) ?_ ?_
        · rintro s3 h'' ⟨rfl, rfl, hc⟩
          rw [if_neg hc] at hk
          refine strCut_of k s.size rfl rfl hks (Nat.le_refl _) fun t ht => ?_
          have ht' : BS t = c :: r := by
            rw [ht, hd]; exact List.take_of_length_le (by omega)
          have hts : t.size ≤ 65536 := by rw [← BS_len, ht']; omega
          have hnl := nxt_le (c :: r)
          refine callP_same _ (fun K' => next_of (by omega) ht') ?_
          rw [ht']
          simp only
          generalize hkn : nxt (c :: r) = kn at hk hnl ⊢
          refine joinP_inv (fun _ h4 => h4 = h'' ∧ kn.2 ≠ 0 ∧ ¬ (kn.1 = 1 ∧ 24 < kn.2)) ?_ ?_
          · rintro _ h4 ⟨rfl, hn0, hnm⟩
            rw [if_neg hn0, if_neg hnm] at hk
            have w1 : IntKind.i64.wrap ((k : Int) + (kn.2 : Int)) = ((k + kn.2 : Nat) : Int) := by rw [w64 (by omega)]; omega
            rw [w1]
            refine strCut_of k (k + kn.2) rfl rfl (by omega) (by omega) fun u hu => ?_
            have hu' : BS u = (c :: r).take kn.2 := by rw [hu, hd]; congr 1; omega
            refine app_own hown (n := 1) rfl rfl rfl (by omega) (by omega) fun y h5 hy hyl => ?_
            have hu2 : u = ⟨((c :: r).take kn.2).toArray⟩ := BS_inj (by rw [hu'])
            refine ⟨⟨y, k + kn.2, acc ++ [⟨kn.1, (c :: r).take kn.2, k⟩], rfl, ?_, by omega, by simp; omega, ?_⟩, by show ((s.size : Int) - ((k + kn.2 : Nat) : Int)).toNat < ((s.size : Int) - (k : Int)).toNat; omega⟩
            · rw [List.flatMap_append]
              simp only [List.flatMap_cons, List.flatMap_nil, tokCells, List.append_nil]
              rw [← hu2]; exact hy
            · rw [hk, Res.pre_pre]
              rw [← List.drop_drop, hd]
              rw [lexF_fuel (c :: r).length (((c :: r).drop kn.2).length + 1) (k + kn.2) _ (by rw [List.length_drop]; omega) (by omega)]
          · refine ifP_eq (fun h7 => ?_) (fun h7 => ?_)
            · rw [if_pos (by omega)] at hk
              refine H _ _ hown.1 ?_
              rw [hk]; rfl
            · have hn0 : kn.2 ≠ 0 := by omega
              rw [if_neg hn0] at hk
              refine ifP_eq (fun h8 => ?_) (fun h8 => ?_)
              · refine ifP_dec (fun h9 => ?_) (fun h9 => ?_)
                · rw [if_pos ⟨h8, by omega⟩] at hk
                  refine H _ _ hown.1 ?_
                  rw [hk]; rfl
                · exact ⟨rfl, hn0, fun hh => h9 (by omega)⟩
              · exact ⟨rfl, hn0, fun hh => h8 hh.1⟩
        · refine strIdx_drop hd rfl (ifP_eq (fun h3 => ?_) (fun h3 => ?_))
          · exact ⟨blank (.inl ((u8_eq (n := 32) (by decide)).1 h3)), dec⟩
          · refine strIdx_drop hd rfl (ifP_eq (fun h4 => ?_) (fun h4 => ?_))
            · exact ⟨blank (.inr ((u8_eq (n := 9) (by decide)).1 h4)), dec⟩
            · refine ⟨rfl, rfl, ?_⟩
              rintro (hh | hh)
              · exact h3 (by rw [hh]; rfl)
              · exact h4 (by rw [hh]; rfl)
    · simp only at h2
      have hd : (BS s).drop k = [] := by apply List.drop_eq_nil_of_le; rw [BS_len]; omega
      have hke : k = s.size := by omega
      rw [hd] at hk
      have e : lexF (([] : List UInt8).length + 1) k [] = .ok [⟨0, [], k⟩] := by simp [lexF]
      rw [e] at hk
      refine app_own hown (n := 1) rfl rfl rfl (by simp only; omega) (by simp only; omega) fun y h5 hy hyl => ?_
      refine H _ _ hy.1 ?_
      rw [hk]
      refine ⟨?_, rfl, rfl⟩
      have := hy.rd
      rw [List.flatMap_append]
      simp only [List.flatMap_cons, List.flatMap_nil, tokCells, List.append_nil]
      rw [hke]
      exact this

theorem emptyS_toList : (emptyS : ByteArray).toList = [] := by rw [BS_toList]; rfl
theorem ifP_empty {A B : Prop} (hA : BS s ≠ [] → A) (hB : BS s = [] → B) : ifP (!((s : ByteArray).toList == (emptyS : ByteArray).toList)) A B := by
  rw [emptyS_toList, BS_toList]
  refine ifP_intro (fun hh => hA ?_) (fun hh => hB ?_)
  · intro h0; rw [h0] at hh; cases hh
  · simpa using hh

theorem IsName_of (H : K (isNm (BS s)) h) : F.lexer_IsName s K h := by
  unfold F.lexer_IsName
  refine ifP_empty (fun h1 => ?_) (fun h1 => by rw [h1] at H; exact H)
  cases hd : BS s with
  | nil => exact absurd hd h1
  | cons c r =>
    have hl : s.size = (c :: r).length := by rw [← BS_len, hd]
    rw [hd] at H
    unfold isNm at H
    simp only at H
    refine ifP_dec (fun h2 => ?_) (fun h2 => ?_)
    · rw [decide_eq_true (show (c :: r).length ≤ 24 by omega)] at H
      refine strIdx_drop (k := 0) (by rw [List.drop_zero]; exact hd) rfl (callP_same (isL c) (fun K' => isLetter_of) (ifP_intro (fun h3 => ?_) (fun h3 => ?_)))
      · rw [h3] at H
        refine callP_same _ (fun K' => span_word_of (by omega)) ?_
        have : ((spn isW (BS s) : Int) == (s.size : Int)) = (spn isW (c :: r) == (c :: r).length) := by
          rw [Bool.eq_iff_iff]; simp only [beq_iff_eq]; rw [hd, hl]; omega
        rw [this]; simpa using H
      · rw [h3] at H; simpa using H
    · rw [decide_eq_false (show ¬ (c :: r).length ≤ 24 by omega)] at H
      exact H
end
end Den
