/-
  The law on texts with spaces between the tokens.
-/
import Derived.Test.YtnahjnlkpmbhlaaLxE
set_option linter.unusedVariables false
namespace Lx

theorem spn_take (p : UInt8 → Bool) (d : UInt8) (rest : B) (hd : p d = false) : ∀ l, spn p (l.take (spn p l) ++ d :: rest) = spn p l
  | [] => by simp [spn, hd]
  | c :: r => by
    by_cases hc : p c = true
    · have e : spn p (c :: r) = spn p r + 1 := by simp [spn, hc]
      rw [e, List.take_succ_cons, List.cons_append]
      simp only [spn, hc, if_true]
      rw [spn_take p d rest hd r]
    · have e : spn p (c :: r) = 0 := by simp [spn, hc]
      rw [e]
      simp [spn, hd]

theorem take_drop_spn (p : UInt8 → Bool) (d : UInt8) (rest : B) (hd : p d = false) (l : B) : (l.take (spn p l) ++ d :: rest).drop (spn p l) = d :: rest := by
  have := spn_le p l
  rw [List.drop_append_of_le_length (by rw [List.length_take]; omega)]
  rw [List.drop_eq_nil_of_le (by rw [List.length_take]; omega)]
  rfl

theorem num_take (rest : B) (l : B) : num (l.take (num l) ++ 32 :: rest) = num l := by
  have hle := spn_le isD l
  cases hd : l.drop (spn isD l) with
  | nil =>
    have e : num l = spn isD l := by unfold num; rw [hd]
    rw [e]
    have e1 := spn_take isD 32 rest (by decide) l
    unfold num
    rw [e1, take_drop_spn isD 32 rest (by decide) l]
    simp
  | cons c r =>
    by_cases hc : c = 46 ∧ 0 < spn isD r
    · have e : num l = spn isD l + 1 + spn isD r := by unfold num; rw [hd]; simp only; rw [if_pos hc]
      have hl : l.take (spn isD l + 1 + spn isD r) = l.take (spn isD l) ++ 46 :: r.take (spn isD r) := by
        have key : ∀ m k, m ≤ l.length → l.drop m = 46 :: r → l.take (m + 1 + k) = l.take m ++ 46 :: r.take k := by
          intro m k hm hdm
          rw [Nat.add_assoc, List.take_add, hdm]
          congr 1
          rw [Nat.add_comm, List.take_succ_cons]
        exact key _ _ hle (by rw [hd, hc.1])
      rw [e, hl, List.append_assoc, List.cons_append]
      have e1 := spn_take isD 46 (r.take (spn isD r) ++ 32 :: rest) (by decide) l
      have e3 := spn_take isD 32 rest (by decide) r
      unfold num
      rw [e1, take_drop_spn isD 46 _ (by decide) l]
      simp [e3, hc.2]
    · have e : num l = spn isD l := by unfold num; rw [hd]; simp only; rw [if_neg hc]
      rw [e]
      have e1 := spn_take isD 32 rest (by decide) l
      unfold num
      rw [e1, take_drop_spn isD 32 rest (by decide) l]
      simp

theorem qs_take : ∀ f r p, qs f r = some p → ∀ rest f', (r.take p.1).length < f' → qs f' (r.take p.1 ++ rest) = some p
  | 0, r, p, h => by simp [qs] at h
  | f + 1, [], p, h => by simp [qs] at h
  | f + 1, c :: r, p, h => by
    intro rest f' hf
    unfold qs at h
    cases f' with
    | zero => omega
    | succ g =>
      split at h
      · cases h
      · rename_i h32
        split at h
        · rename_i h34
          simp only [Option.some.injEq] at h; subst h
          simp only [List.take_succ_cons, List.take_zero, List.cons_append]
          unfold qs; rw [if_neg h32, if_pos h34]
        · rename_i h34
          split at h
          · rename_i h92
            split at h
            · cases h
            · rename_i d r'
              split at h
              · rename_i hdd
                simp only [Option.map_eq_some_iff] at h
                obtain ⟨q, hq, rfl⟩ := h
                simp only at hf ⊢
                rw [List.take_succ_cons, List.take_succ_cons, List.cons_append, List.cons_append]
                rw [List.take_succ_cons, List.take_succ_cons] at hf
                simp only [List.length_cons] at hf
                unfold qs; rw [if_neg h32, if_neg h34, if_pos h92]
                simp only
                rw [if_pos hdd, qs_take f r' q hq rest g (by omega)]
                rfl
              · cases h
          · rename_i h92
            simp only [Option.map_eq_some_iff] at h
            obtain ⟨q, hq, rfl⟩ := h
            simp only at hf ⊢
            rw [List.take_succ_cons, List.cons_append]
            rw [List.take_succ_cons] at hf
            simp only [List.length_cons] at hf
            unfold qs; rw [if_neg h32, if_neg h34, if_neg h92]
            rw [qs_take f r q hq rest g (by omega)]
            rfl

theorem quo_take (rest : B) {l : B} {p : Nat × B} (h : quo l = some p) : quo (l.take p.1 ++ rest) = some p := by
  unfold quo at h
  split at h
  · cases h
  · rename_i c r
    split at h
    · rename_i hc
      simp only [Option.map_eq_some_iff] at h
      obtain ⟨q, hq, rfl⟩ := h
      simp only
      rw [List.take_succ_cons, List.cons_append]
      unfold quo
      simp only
      rw [if_pos hc, qs_take _ _ _ hq rest _ (by rw [List.length_append]; omega)]
      rfl
    · cases h

theorem nxt_take (rest : B) (c : UInt8) (r : B) (hn : (nxt (c :: r)).2 ≠ 0) : nxt ((c :: r).take (nxt (c :: r)).2 ++ 32 :: rest) = nxt (c :: r) := by
  obtain ⟨m, hm⟩ : ∃ m, (nxt (c :: r)).2 = m + 1 := ⟨(nxt (c :: r)).2 - 1, by omega⟩
  have hc : (c :: r).take (nxt (c :: r)).2 ++ 32 :: rest = c :: (r.take m ++ 32 :: rest) := by rw [hm]; simp
  by_cases hL : isL c = true
  · have en : nxt (c :: r) = (1, spn isW (c :: r)) := by simp [nxt, hL]
    have en2 : nxt (c :: (r.take m ++ 32 :: rest)) = (1, spn isW (c :: (r.take m ++ 32 :: rest))) := by simp [nxt, hL]
    rw [hc, en2, ← hc, en]
    simp only
    rw [spn_take isW 32 rest (by decide)]
  · by_cases hD : isD c = true
    · have en : nxt (c :: r) = (2, num (c :: r)) := by simp [nxt, hL, hD]
      have en2 : nxt (c :: (r.take m ++ 32 :: rest)) = (2, num (c :: (r.take m ++ 32 :: rest))) := by simp [nxt, hL, hD]
      rw [hc, en2, ← hc, en]
      simp only
      rw [num_take]
    · by_cases hq : c = 34
      · have en : nxt (c :: r) = (3, quoN (c :: r)) := by unfold nxt; simp only; rw [if_neg hL, if_neg hD, if_pos hq]
        have en2 : nxt (c :: (r.take m ++ 32 :: rest)) = (3, quoN (c :: (r.take m ++ 32 :: rest))) := by unfold nxt; simp only; rw [if_neg hL, if_neg hD, if_pos hq]
        rw [hc, en2, ← hc, en]
        rw [en] at hn
        simp only at hn ⊢
        cases hqq : quo (c :: r) with
        | none => simp [quoN, hqq] at hn
        | some p =>
          have e1 : quoN (c :: r) = p.1 := by simp [quoN, hqq]
          rw [e1]
          unfold quoN
          rw [quo_take _ hqq]
      · by_cases hl : c = 10
        · have en : nxt (c :: r) = (5, 1) := by unfold nxt; simp only; rw [if_neg hL, if_neg hD, if_neg hq, if_pos hl]
          have en2 : nxt (c :: (r.take m ++ 32 :: rest)) = (5, 1) := by unfold nxt; simp only; rw [if_neg hL, if_neg hD, if_neg hq, if_pos hl]
          rw [hc, en2, en]
        · by_cases hs : c ∈ syms
          · have en : nxt (c :: r) = (4, 1) := by unfold nxt; simp only; rw [if_neg hL, if_neg hD, if_neg hq, if_neg hl, if_pos hs]
            have en2 : nxt (c :: (r.take m ++ 32 :: rest)) = (4, 1) := by unfold nxt; simp only; rw [if_neg hL, if_neg hD, if_neg hq, if_neg hl, if_pos hs]
            rw [hc, en2, en]
          · have en : nxt (c :: r) = (0, 0) := by unfold nxt; simp only; rw [if_neg hL, if_neg hD, if_neg hq, if_neg hl, if_neg hs]
            rw [en] at hn; exact absurd rfl hn

/-- The texts, each with a space behind it. -/
def spc (ts : List Tok) : B := ts.flatMap fun t => t.text ++ [32]

theorem spaced : ∀ f p l ts, lexF f p l = .ok ts → ∀ q f', (spc ts).length < f' → ∃ us, lexF f' q (spc ts) = .ok us ∧ us.map (fun t => (t.kind, t.text)) = ts.map (fun t => (t.kind, t.text))
  | 0, p, l, ts, h => by cases h
  | f + 1, p, [], ts, h => by
    intro q f' hf
    simp only [lexF, Res.ok.injEq] at h
    subst h
    have hsp : spc [⟨0, [], p⟩] = [32] := rfl
    rw [hsp] at hf ⊢
    cases f' with
    | zero => omega
    | succ g =>
      cases g with
      | zero => simp at hf
      | succ g => exact ⟨[⟨0, [], q + 1⟩], by simp [lexF], by simp⟩
  | f + 1, p, c :: r, ts, h => by
    intro q f' hf
    unfold lexF at h
    simp only at h
    split at h
    · exact spaced f _ _ ts h q f' hf
    · rename_i hcb
      split at h
      · cases h
      · rename_i hn
        split at h
        · cases h
        · rename_i hnm
          cases hx : lexF f (p + (nxt (c :: r)).2) ((c :: r).drop (nxt (c :: r)).2) with
          | err a b => rw [hx] at h; cases h
          | ok us =>
            rw [hx] at h
            simp only [Res.pre, Res.ok.injEq] at h
            subst h
            have e1 : spc ([⟨(nxt (c :: r)).1, (c :: r).take (nxt (c :: r)).2, p⟩] ++ us) = (c :: r).take (nxt (c :: r)).2 ++ 32 :: spc us := by simp [spc]
            rw [e1] at hf ⊢
            have hst := nxt_take (spc us) c r hn
            obtain ⟨m, hm⟩ : ∃ m, (nxt (c :: r)).2 = m + 1 := ⟨(nxt (c :: r)).2 - 1, by omega⟩
            have hc : (c :: r).take (nxt (c :: r)).2 ++ 32 :: spc us = c :: (r.take m ++ 32 :: spc us) := by rw [hm]; simp
            have hnl := nxt_le (c :: r)
            have htl : ((c :: r).take (nxt (c :: r)).2).length = (nxt (c :: r)).2 := by rw [List.length_take]; omega
            have hdrop : ((c :: r).take (nxt (c :: r)).2 ++ 32 :: spc us).drop (nxt (c :: r)).2 = 32 :: spc us := by
              rw [List.drop_append_of_le_length (by omega), List.drop_eq_nil_of_le (by omega)]; rfl
            have htake : ((c :: r).take (nxt (c :: r)).2 ++ 32 :: spc us).take (nxt (c :: r)).2 = (c :: r).take (nxt (c :: r)).2 := by
              rw [List.take_append_of_le_length (by omega), List.take_of_length_le (by omega)]
            rw [List.length_append] at hf
            simp only [List.length_cons] at hf
            cases f' with
            | zero => omega
            | succ g =>
              cases g with
              | zero => omega
              | succ g =>
                obtain ⟨vs, hv1, hv2⟩ := spaced f _ _ us hx (q + (nxt (c :: r)).2 + 1) g (by omega)
                have hblank : lexF (g + 1) (q + (nxt (c :: r)).2) (32 :: spc us) = .ok vs := by
                  conv => lhs; unfold lexF
                  exact (if_pos (.inl rfl)).trans hv1
                refine ⟨⟨(nxt (c :: r)).1, (c :: r).take (nxt (c :: r)).2, q⟩ :: vs, ?_, by simp only [List.map_cons, hv2, List.cons_append, List.nil_append]⟩
                rw [hc] at hst hdrop htake ⊢
                conv => lhs; unfold lexF
                simp only
                rw [if_neg hcb, hst, if_neg hn, if_neg hnm, hdrop, htake, hblank]
                rfl

theorem spc_len : ∀ f p l ts, lexF f p l = .ok ts → (spc ts).length ≤ l.length + ts.length
  | 0, p, l, ts, h => by cases h
  | f + 1, p, [], ts, h => by
    simp only [lexF, Res.ok.injEq] at h
    subst h; simp [spc]
  | f + 1, p, c :: r, ts, h => by
    unfold lexF at h
    simp only at h
    split at h
    · have := spc_len f _ r ts h
      simp only [List.length_cons]; omega
    · split at h
      · cases h
      · split at h
        · cases h
        · cases hx : lexF f (p + (nxt (c :: r)).2) ((c :: r).drop (nxt (c :: r)).2) with
          | err a e => rw [hx] at h; cases h
          | ok us =>
            rw [hx] at h
            simp only [Res.pre, Res.ok.injEq] at h
            subst h
            have := spc_len f _ _ us hx
            have hnl := nxt_le (c :: r)
            rw [List.length_drop] at this
            have e1 : (spc ([⟨(nxt (c :: r)).1, (c :: r).take (nxt (c :: r)).2, p⟩] ++ us)).length = (nxt (c :: r)).2 + 1 + (spc us).length := by
              simp [spc, List.length_take]; simp only [List.length_cons] at hnl; omega
            rw [e1]
            simp only [List.length_append, List.length_cons, List.length_nil] at this hnl ⊢
            omega
end Lx
namespace Den
open Go Lx
section
variable {K : Bool → Hp → Prop} {h : Hp} {s : ByteArray}

theorem law_spaced (H : ∀ h', h.le h' → K true h') : F.law21_LexerSpaced s K h := by
  unfold F.law21_LexerSpaced
  refine joinP_inv (fun _ h1 => h.le h1 ∧ s.size ≤ 2000) ?_ ?_
  · intro _ h1 ⟨hl1, hs⟩
    refine callP_of (fun r h' => LexR h' r (lex _)) (fun K' hk => Tokens_of hk) fun r1 h2 l1 q1 => ?_
    have hle := Hp.le_trans hl1 l1
    refine ifP_ne (fun _ => H _ hle) (fun he => ?_)
    cases hx : lex (BS s) with
    | err p e =>
      rw [hx] at q1
      have c1 : r1 = (nilS, (p : Int), e) := q1
      subst c1
      exact absurd he (lex_err hx)
    | ok ts =>
      rw [hx] at q1
      obtain ⟨a1, a2, a3⟩ := q1
      have hlt := lex_ok hx
      have hxl := rd_toks_len a1
      unfold lex at hx
      rw [if_neg (by rw [BS_len]; omega)] at hx
      have hsl := spc_len _ _ _ _ hx
      have htl := lex_len _ _ _ _ hx
      rw [BS_len] at hsl htl
      have hpre : ∀ k, (spc (ts.take k)).length ≤ (spc ts).length := fun k => by
        have : spc ts = spc (ts.take k) ++ spc (ts.drop k) := by
          unfold spc; rw [← List.flatMap_append, List.take_append_drop]
        rw [this, List.length_append]; omega
      refine loopP_of (fun st h' => h' = h2 ∧ ∃ (u : ByteArray) (k : Nat), st = (u, (k : Int), ()) ∧ k ≤ ts.length ∧ BS u = spc (ts.take k)) (fun st => ((ts.length : Int) - st.2.1).toNat)
        ⟨rfl, emptyS, 0, rfl, Nat.zero_le _, rfl⟩ ?_
      rintro st h' ⟨rfl, u, k, rfl, hkl, hu⟩
      refine ifP_dec (fun h3 => ?_) (fun h3 => ?_)
      · simp only at h3
        have hk : k < ts.length := by omega
        have hul : u.size = (spc (ts.take k)).length := by rw [← BS_len, hu]
        have h5 := hpre (k + 1)
        have e1 : spc (ts.take (k + 1)) = spc (ts.take k) ++ (ts[k].text ++ [32]) := by
          rw [List.take_succ_eq_append_getElem hk]; simp only [spc, List.flatMap_append, List.flatMap_cons, List.flatMap_nil, List.append_nil]
        rw [e1, List.length_append, List.length_append] at h5
        refine rd_tok k a1 rfl hk fun a b0 b1 b2 => ⟨_, b0, _, b1, _, b2, ?_⟩
        have z1 : (⟨ts[k].text.toArray⟩ : ByteArray).size = ts[k].text.length := by rw [← BS_len]
        have z2 : (⟨#[32]⟩ : ByteArray).size = 1 := rfl
        have z3 : ((⟨ts[k].text.toArray⟩ : ByteArray) ++ (⟨#[32]⟩ : ByteArray)).size = ts[k].text.length + 1 := by
          rw [ByteArray.size_append, z1, z2]
        simp only
        rw [z1, z2, z3, hul]
        simp only [List.length_singleton] at h5
        refine ⟨by omega, by omega, ⟨by trivial, _, k + 1, by rw [w64 (by omega)]; rfl, by omega, ?_⟩, by rw [w64 (by omega)]; omega⟩
        rw [e1, ← hu]
        simp [BS]
      · simp only at h3
        have hk : ts.length = k := by omega
        subst hk
        rw [List.take_of_length_le (Nat.le_refl _)] at hu
        have hul : (BS u).length ≤ 65536 := by rw [hu]; omega
        obtain ⟨us, hv1, hv2⟩ := spaced _ _ _ ts hx 0 ((spc ts).length + 1) (by omega)
        have hlu : lex (BS u) = .ok us := by
          unfold lex; rw [if_neg (by omega), hu]; exact hv1
        refine callP_of (fun r h' => LexR h' r (lex _)) (fun K' hk => Tokens_of hk) fun r2 h3 l3 q3 => ?_
        simp only at q3
        rw [hlu] at q3
        obtain ⟨b1, b2, b3⟩ := q3
        have hyl := rd_toks_len b1
        have hll : us.length = ts.length := by
          have := congrArg List.length hv2
          simpa using this
        refine joinP_inv (fun _ h4 => h4 = h3) ?_ ?_
        · rintro _ h4 rfl
          refine loopP_of (fun st h6 => h6 = h4 ∧ ∃ j : Nat, st = ((j : Int), ())) (fun st => ((r1.1.len : Int) - st.1).toNat) ⟨rfl, 0, rfl⟩ ?_
          rintro st h6 ⟨rfl, j, rfl⟩
          refine ifP_dec (fun h7 => ?_) (fun h7 => ?_)
          · simp only at h7
            have hj : j < ts.length := by omega
            have hj2 : j < us.length := by omega
            have heq : (us[j].kind, us[j].text) = (ts[j].kind, ts[j].text) := by
              have := congrArg (fun l => l[j]?) hv2
              simp only [List.getElem?_map] at this
              rw [List.getElem?_eq_getElem hj, List.getElem?_eq_getElem hj2] at this
              simpa using this
            refine joinP_inv (fun _ h8 => h8 = h6) ?_ ?_
            · rintro _ h8 rfl
              exact ⟨⟨rfl, j + 1, by simp only; rw [w64 (by omega)]; rfl⟩, by simp only; rw [w64 (by omega)]; omega⟩
            · refine rd_tok j (a1.le l3) rfl hj fun a c0 c1 c2 => ⟨_, c0, ?_⟩
              refine rd_tok j b1 rfl hj2 fun a' d0 d1 d2 => ⟨_, d0, ?_⟩
              refine ifP_ne (fun hh => absurd (congrArg Prod.fst heq).symm hh) (fun _ => ?_)
              refine rd_tok j (a1.le l3) rfl hj fun a c0 c1 c2 => ⟨_, c1, ?_⟩
              refine rd_tok j b1 rfl hj2 fun a' d0 d1 d2 => ⟨_, d1, ?_⟩
              refine ifP_intro (fun hh => ?_) (fun _ => rfl)
              exfalso
              have e2 : us[j].text = ts[j].text := congrArg Prod.snd heq
              rw [e2] at hh
              simp at hh
          · exact H _ (Hp.le_trans hle l3)
        · refine ifP_ne (fun hh => absurd b3 hh) (fun _ => ifP_ne (fun hh => ?_) (fun _ => rfl))
          exfalso
          exact hh (by rw [hxl, hyl, hll])
  · refine awake_callP fun h1 l1 => ?_
    refine ifP_false rfl (ifP_dec (fun _ => ?_) (fun hh => ⟨l1, by omega⟩))
    exact awake_callP fun h2 l2 => H _ (Hp.le_trans l1 l2)
end
end Den
