/-
  The reference's tokens; comparing tokens; the examples.
-/
import Derived.Test.YtnahjnlkpmbhlaaLxC
set_option linter.unusedVariables false
namespace Den
open Go Lx

section
variable {Kt : Sl × Int × Int → Hp → Prop} {K : Bool → Hp → Prop} {h : Hp} {s : ByteArray}

theorem rTokens_of (H : ∀ r h', h.le h' → LexR h' r (lex (BS s)) → Kt r h') : F.ref21_Tokens s Kt h := by
  unfold F.ref21_Tokens
  refine ifP_dec (fun h1 => ?_) (fun h1 => ?_)
  · refine H _ _ (Hp.le_refl _) ?_
    unfold lex
    rw [if_pos (by rw [BS_len]; omega)]
    rfl
  · have hs : s.size ≤ 65536 := by omega
    have hlex : lex (BS s) = lexF ((BS s).length + 1) 0 (BS s) := by unfold lex; rw [if_neg (by rw [BS_len]; omega)]
    refine loopP_of (fun st h' => ∃ (x : Sl) (k : Nat) (acc : List Tok), st = (x, (k : Int), ()) ∧ Own h h' 3 x (acc.flatMap tokCells) ∧ k ≤ s.size ∧ acc.length ≤ k ∧
        lex (BS s) = (lexF (((BS s).drop k).length + 1) k ((BS s).drop k)).pre acc) (fun st => ((s.size : Int) - st.2.1).toNat)
        ⟨nilS, 0, [], rfl, Own.nil (Hp.le_refl _), Nat.zero_le _, Nat.le_refl _, by rw [hlex]; simp only [List.drop_zero]; cases lexF ((BS s).length + 1) 0 (BS s) <;> simp [Res.pre]⟩ ?_
    rintro st h' ⟨x, k, acc, rfl, hown, hks, hacc, hk⟩
    have hxl : x.len = acc.length := by
      have := hown.2.1
      rw [tokCells_len] at this; omega
    refine ifP_dec (fun h2 => ?_) (fun h2 => ?_)
    · simp only at h2
      cases hd : (BS s).drop k with
      | nil => have := List.drop_eq_nil_iff.1 hd; rw [BS_len] at this; omega
      | cons c r =>
        obtain ⟨g2, g3⟩ := drop_next hd
        rw [BS_len] at g3
        rw [hd] at hk
        unfold lexF at hk
        simp only at hk
        have hrl : (c :: r).length = s.size - k := by rw [← hd, List.length_drop, BS_len]
        have w1 : IntKind.i64.wrap ((k : Int) + 1) = ((k + 1 : Nat) : Int) := by rw [w64 (by omega)]; omega
        have blank : (c = 32 ∨ c = 9) → ∃ (x' : Sl) (k' : Nat) (acc : List Tok), ((x, IntKind.i64.wrap ((k : Int) + 1), ()) : Sl × Int × Unit) = (x', (k' : Int), ()) ∧ Own h h' 3 x' (acc.flatMap tokCells) ∧ k' ≤ s.size ∧ acc.length ≤ k' ∧
            lex (BS s) = (lexF (((BS s).drop k').length + 1) k' ((BS s).drop k')).pre acc := fun hc => by
          refine ⟨x, k + 1, acc, by rw [w1], hown, by omega, by omega, ?_⟩
          rw [if_pos hc] at hk
          rw [hk, g2]
          rfl
        have dec : ((s.size : Int) - IntKind.i64.wrap ((k : Int) + 1)).toNat < ((s.size : Int) - (k : Int)).toNat := by rw [w1]; omega
        refine joinP_inv (fun s3 h'' => s3 = ((k : Int), ()) ∧ h'' = h' ∧ ¬ (c = 32 ∨ c = 9)) ?_ ?_
        · rintro s3 h'' ⟨rfl, rfl, hc⟩
          rw [if_neg hc] at hk
          obtain ⟨b1, b2, b3, b4⟩ := rn_le c r
          obtain ⟨q1, q2⟩ := rn_eq c r
          have hwl : wordN (c :: r) ≤ (c :: r).length := by
            unfold wordN; simp only; split
            · exact spn_le _ _
            · exact Nat.zero_le _
          refine callP_same _ (fun K' => rword_of (by omega) hks) ?_
          rw [hd]
          have w2 : IntKind.i64.wrap (((k + wordN (c :: r) : Nat) : Int) - (k : Int)) = (wordN (c :: r) : Int) := by rw [w64 (by omega)]; omega
          simp only
          rw [w2, w1]
          refine ifP_dec (fun h3 => ?_) (fun h3 => ?_)
          · have hL : isL c = true := by
              cases hL : isL c with
              | true => rfl
              | false => simp [wordN, hL] at h3
            have en : nxt (c :: r) = (1, wordN (c :: r)) := by simp [nxt, hL, wordN]
            rw [en] at hk
            rw [if_neg (by simp only; omega), if_pos ⟨rfl, by simp only; omega⟩] at hk
            refine H _ _ hown.1 ?_
            rw [hk]; rfl
          · have hnm : (nxt (c :: r)).2 ≠ 0 → ¬ ((nxt (c :: r)).1 = 1 ∧ 24 < (nxt (c :: r)).2) := by
              intro hn0 hh
              cases hL : isL c with
              | true =>
                have en : nxt (c :: r) = (1, wordN (c :: r)) := by simp [nxt, hL, wordN]
                rw [en] at hh
                simp only at hh; omega
              | false =>
                have : (nxt (c :: r)).1 ≠ 1 := by
                  simp only [nxt, hL, Bool.false_eq_true, if_false]
                  repeat' split
                  all_goals simp
                exact this hh.1
            -- the four choices, one behind the other
            refine joinP_inv (fun s6 h4 => h4 = h'' ∧ s6 = ((rn1 (c :: r)).1, ((k + (rn1 (c :: r)).2 : Nat) : Int), ())) ?_ ?_
            · rintro s6 h4 ⟨rfl, rfl⟩
              refine joinP_inv (fun s8 h5 => h4.le h5 ∧ s8 = ((rn2 (c :: r)).1, ((k + (rn2 (c :: r)).2 : Nat) : Int), ())) ?_ ?_
              · rintro s8 h5 ⟨hl5, rfl⟩
                refine joinP_inv (fun s10 h6 => h6 = h5 ∧ s10 = ((rn3 c (c :: r)).1, ((k + (rn3 c (c :: r)).2 : Nat) : Int), ())) ?_ ?_
                · rintro s10 h6 ⟨rfl, rfl⟩
                  refine joinP_inv (fun s12 h7 => h7 = h6 ∧ s12 = ((rn4 c (c :: r)).1, ((k + (rn4 c (c :: r)).2 : Nat) : Int), ())) ?_ ?_
                  · rintro s12 h7 ⟨rfl, rfl⟩
                    refine ifP_eq (fun e1 => ?_) (fun e1 => ?_)
                    · have hn0 : (nxt (c :: r)).2 = 0 := by simp only at e1; omega
                      rw [if_pos hn0] at hk
                      refine H _ _ (Hp.le_trans hown.1 hl5) ?_
                      rw [hk]; rfl
                    · have hn0 : (nxt (c :: r)).2 ≠ 0 := by simp only at e1; omega
                      rw [if_neg hn0, if_neg (hnm hn0)] at hk
                      simp only
                      rw [q1, q2 hn0]
                      have hnl := nxt_le (c :: r)
                      generalize nxt (c :: r) = kn at hk hnl hn0 ⊢
                      refine strCut_of k (k + kn.2) rfl rfl (by omega) (by omega) fun u hu => ?_
                      have hu' : BS u = (c :: r).take kn.2 := by rw [hu, hd]; congr 1; omega
                      refine app_own (hown.le hl5) (n := 1) rfl rfl rfl (by omega) (by omega) fun y h5 hy hyl => ?_
                      have hu2 : u = ⟨((c :: r).take kn.2).toArray⟩ := BS_inj (by rw [hu'])
                      refine ⟨⟨y, k + kn.2, acc ++ [⟨kn.1, (c :: r).take kn.2, k⟩], rfl, ?_, by omega, by simp; omega, ?_⟩, by show ((s.size : Int) - ((k + kn.2 : Nat) : Int)).toNat < ((s.size : Int) - (k : Int)).toNat; omega⟩
                      · rw [List.flatMap_append]
                        simp only [List.flatMap_cons, List.flatMap_nil, tokCells, List.append_nil]
                        rw [← hu2]; exact hy
                      · rw [hk, Res.pre_pre]
                        rw [← List.drop_drop, hd]
                        rw [lexF_fuel (c :: r).length (((c :: r).drop kn.2).length + 1) (k + kn.2) _ (by rw [List.length_drop]; omega) (by omega)]
                  · refine ifP_eq (fun e1 => ?_) (fun e1 => ?_)
                    · have e2 : (rn3 c (c :: r)).2 = 0 := by simp only at e1; omega
                      refine strIdx_drop hd rfl (ifP_eq (fun e3 => ?_) (fun e3 => ?_))
                      · have e4 : c = 10 := (u8_eq (n := 10) (by decide)).1 e3
                        refine ⟨rfl, ?_⟩
                        unfold rn4; rw [if_pos ⟨e2, e4⟩]
                      · have e4 : ¬ c = 10 := fun hh => e3 (by rw [hh]; rfl)
                        refine ⟨rfl, ?_⟩
                        unfold rn4; rw [if_neg (fun hh => e4 hh.2)]
                    · have e2 : ¬ (rn3 c (c :: r)).2 = 0 := by simp only at e1; omega
                      refine ⟨rfl, ?_⟩
                      unfold rn4; rw [if_neg (fun hh => e2 hh.1)]
                · refine ifP_eq (fun e1 => ?_) (fun e1 => ?_)
                  · have e2 : (rn2 (c :: r)).2 = 0 := by simp only at e1; omega
                    refine strIdx_drop hd rfl (callP_same (decide (c ∈ syms)) (fun K' => rsymbol_of) (ifP_dec (fun e3 => ?_) (fun e3 => ?_)))
                    · refine ⟨rfl, ?_⟩
                      unfold rn3; rw [if_pos ⟨e2, e3⟩]
                    · refine ⟨rfl, ?_⟩
                      unfold rn3; rw [if_neg (fun hh => e3 hh.2)]
                  · have e2 : ¬ (rn2 (c :: r)).2 = 0 := by simp only at e1; omega
                    refine ⟨rfl, ?_⟩
                    unfold rn3; rw [if_neg (fun hh => e2 hh.1)]
              · refine ifP_eq (fun e1 => ?_) (fun e1 => ?_)
                · have e2 : (rn1 (c :: r)).2 = 0 := by simp only at e1; omega
                  refine callP_of (fun v h9 => v.1 = ((k + quoN (c :: r) : Nat) : Int)) (fun K' hk' => rquoted_of (by omega) hks fun h9 hl9 => hk' _ _ hl9 (by rw [hd])) ?_
                  rintro v h9 hl9 hv
                  refine ⟨hl9, ?_⟩
                  unfold rn2; rw [if_pos e2]; simp only; rw [hv]
                · have e2 : ¬ (rn1 (c :: r)).2 = 0 := by simp only at e1; omega
                  refine ⟨Hp.le_refl _, ?_⟩
                  unfold rn2; rw [if_neg e2]
            · refine ifP_eq (fun e1 => ?_) (fun e1 => ?_)
              · have e2 : wordN (c :: r) = 0 := by omega
                refine callP_same _ (fun K' => rnumber_of (by omega) hks) ?_
                rw [hd]
                refine ⟨rfl, ?_⟩
                unfold rn1; rw [if_pos e2]
              · have e2 : ¬ wordN (c :: r) = 0 := by omega
                refine ⟨rfl, ?_⟩
                unfold rn1; rw [if_neg e2]
        · refine strIdx_drop hd rfl (ifP_eq (fun h3 => ?_) (fun h3 => ?_))
          · exact ⟨blank (.inl ((u8_eq (n := 32) (by decide)).1 h3)), dec⟩
          · refine strIdx_drop hd rfl (ifP_eq (fun h4 => ?_) (fun h4 => ?_))
            · exact ⟨blank (.inr ((u8_eq (n := 9) (by decide)).1 h4)), dec⟩
            · refine ⟨rfl, rfl, ?_⟩
              rintro (hh | hh)
              · exact h3 (by rw [hh]; rfl)
              · exact h4 (by rw [hh]; rfl)
    · simp only at h2
      have hd : (BS s).drop k = [] := by apply List.drop_eq_nil_of_le; rw [BS_len]; omega
      have hke : k = s.size := by omega
      rw [hd] at hk
      have e : lexF (([] : List UInt8).length + 1) k [] = .ok [⟨0, [], k⟩] := by simp [lexF]
      rw [e] at hk
      refine app_own hown (n := 1) rfl rfl rfl (by simp only; omega) (by simp only; omega) fun y h5 hy hyl => ?_
      refine H _ _ hy.1 ?_
      rw [hk]
      refine ⟨?_, rfl, rfl⟩
      have := hy.rd
      rw [List.flatMap_append]
      simp only [List.flatMap_cons, List.flatMap_nil, tokCells, List.append_nil]
      rw [hke]
      exact this

theorem rIsName_of (H : K (isNm (BS s)) h) : F.ref21_IsName s K h := by
  unfold F.ref21_IsName
  refine ifP_empty (fun h1 => ?_) (fun h1 => by rw [h1] at H; exact H)
  cases hd : BS s with
  | nil => exact absurd hd h1
  | cons c r =>
    have hl : s.size = (c :: r).length := by rw [← BS_len, hd]
    rw [hd] at H
    unfold isNm at H
    simp only at H
    refine ifP_dec (fun h2 => ?_) (fun h2 => ?_)
    · rw [decide_eq_true (show (c :: r).length ≤ 24 by omega)] at H
      refine callP_same _ (fun K' hk' => rword_of (p := 0) (by omega) (Nat.zero_le _) hk') ?_
      rw [List.drop_zero, hd]
      have : ((((0 + wordN (c :: r) : Nat) : Int)) == (s.size : Int)) = (true && isL c && (spn isW (c :: r) == (c :: r).length)) := by
        rw [Bool.eq_iff_iff]
        simp only [beq_iff_eq, Bool.true_and, Bool.and_eq_true]
        cases hL : isL c
        · simp only [wordN, hL, Bool.false_eq_true, if_false, false_and, iff_false]
          simp only [List.length_cons] at hl; omega
        · simp only [wordN, hL, if_true, true_and]
          omega
      rw [this]; exact H
    · rw [decide_eq_false (show ¬ (c :: r).length ≤ 24 by omega)] at H
      exact H

/-! ### Comparing -/

theorem tok_at {ts : List Tok} {k : Nat} (hk : k < ts.length) : ∀ j, j < 3 → (ts.flatMap tokCells)[k * 3 + j]? = (tokCells ts[k])[j]? := by
  induction ts generalizing k with
  | nil => simp at hk
  | cons t r ih =>
    intro j hj
    cases k with
    | zero =>
      simp only [List.flatMap_cons, List.getElem_cons_zero]
      rw [List.getElem?_append_left (by simp [tokCells]; omega)]
      congr 1; omega
    | succ k =>
      simp only [List.flatMap_cons, List.getElem_cons_succ]
      rw [List.getElem?_append_right (by simp [tokCells]; omega)]
      rw [← ih (by simpa using hk) j hj]
      congr 1
      simp [tokCells]; omega

theorem rd_tok {x : Sl} {ts : List Tok} {i : Int} {Ka : Addr → Prop} (k : Nat) (hr : Rd h 3 x (ts.flatMap tokCells)) (hi : i = k) (hk : k < ts.length)
    (H : ∀ a, h.cell (a.add 0) = some (.int .i64 ts[k].kind) → h.cell (a.add 1) = some (.string ⟨ts[k].text.toArray⟩) → h.cell (a.add 2) = some (.int .i64 (ts[k].pos : Int)) → Ka a) : idxP x i 3 Ka := by
  have hl : x.len = ts.length := by have := hr.1; rw [tokCells_len] at this; omega
  refine idxP_of k hr hi (by omega) (by decide) fun a ha => H a (ha 0 _ ?_) (ha 1 _ ?_) (ha 2 _ ?_)
  · rw [tok_at hk 0 (by decide)]; rfl
  · rw [tok_at hk 1 (by decide)]; rfl
  · rw [tok_at hk 2 (by decide)]; rfl

theorem rd_toks_len {x : Sl} {ts : List Tok} (hr : Rd h 3 x (ts.flatMap tokCells)) : x.len = ts.length := by
  have := hr.1; rw [tokCells_len] at this; omega

def okPos (ts : List Tok) : Prop := ∀ t ∈ ts, (t.pos : Int) ≤ 140737488355328

theorem same_of {x y : Sl} {ts us : List Tok} (hx : Rd h 3 x (ts.flatMap tokCells)) (hy : Rd h 3 y (us.flatMap tokCells)) (hlen : ts.length ≤ 140737488355328) (H : K (decide (ts = us)) h) : F.law21_same x y K h := by
  have lx := rd_toks_len hx
  have ly := rd_toks_len hy
  unfold F.law21_same
  refine ifP_ne (fun h1 => ?_) (fun h1 => ?_)
  · rw [decide_eq_false (fun hh => h1 (by rw [lx, ly, hh]))] at H; exact H
  · have hl : ts.length = us.length := by omega
    refine loopP_of (fun st h' => h' = h ∧ ∃ k : Nat, st = ((k : Int), ()) ∧ ts.take k = us.take k) (fun st => ((x.len : Int) - st.1).toNat) ⟨rfl, 0, rfl, by simp⟩ ?_
    rintro st h' ⟨rfl, k, rfl, hk⟩
    refine ifP_dec (fun h2 => ?_) (fun h2 => ?_)
    · simp only at h2
      have k1 : k < ts.length := by omega
      have k2 : k < us.length := by omega
      have no : ts[k] ≠ us[k] → K false h' := fun hh => by
        rw [decide_eq_false] at H
        · exact H
        · intro h5; subst h5; exact hh rfl
      refine joinP_inv (fun _ h3 => h3 = h' ∧ ts.take (k + 1) = us.take (k + 1)) ?_ ?_
      · rintro _ h3 ⟨rfl, h4⟩
        exact ⟨⟨rfl, k + 1, by simp only; rw [w64 (by omega)]; rfl, h4⟩, by simp only; rw [w64 (by omega)]; omega⟩
      · refine rd_tok k hx rfl k1 fun a a0 a1 a2 => ⟨_, a0, _, a1, _, a2, ?_⟩
        refine rd_tok k hy rfl k2 fun b b0 b1 b2 => ⟨_, b0, ifP_ne (fun h3 => no fun hh => h3 (by rw [hh])) (fun h3 => ?_)⟩
        refine rd_tok k hy rfl k2 fun b b0 b1 b2 => ⟨_, b1, ifP_intro (fun h4 => no fun hh => ?_) (fun h4 => ?_)⟩
        · rw [hh] at h4; simp at h4
        · refine rd_tok k hy rfl k2 fun b b0 b1 b2 => ⟨_, b2, ifP_ne (fun h5 => no fun hh => h5 (by rw [hh])) (fun h5 => ⟨rfl, ?_⟩)⟩
          rw [List.take_succ_eq_append_getElem k1, List.take_succ_eq_append_getElem k2, hk]
          have e1 : ts[k].text = us[k].text := by
            rw [BS_toList, BS_toList] at h4
            simpa using h4
          have e3 : ts[k].pos = us[k].pos := by omega
          have e2 : ts[k] = us[k] := by
            generalize ts[k] = t at *
            generalize us[k] = u at *
            cases t; cases u
            simp only at h3 e1 e3
            subst h3 e1 e3; rfl
          rw [e2]
    · simp only at h2
      rw [List.take_of_length_le (by omega), List.take_of_length_le (by omega)] at hk
      rw [decide_eq_true hk] at H; exact H
end
end Den
