/-
  The law on limits.
-/
import Derived.Test.YtnahjnlkpmbhlaaLxP
set_option linter.unusedVariables false
namespace Lx

theorem lexF_blanks (l : B) : ∀ k f p, lexF (f + k) p (List.replicate k 32 ++ l) = lexF f (p + k) l
  | 0, f, p => by simp
  | k + 1, f, p => by
    rw [List.replicate_succ, List.cons_append, show f + (k + 1) = (f + k) + 1 by omega]
    conv => lhs; unfold lexF
    simp only [true_or, if_true]
    rw [lexF_blanks l k f (p + 1)]
    congr 1; omega

theorem spn_rep (p : UInt8 → Bool) (c d : UInt8) (hc : p c = true) (hd : p d = false) (rest : B) : ∀ n, spn p (List.replicate n c ++ d :: rest) = n
  | 0 => by simp [spn, hd]
  | n + 1 => by
    rw [List.replicate_succ, List.cons_append]
    simp only [spn, hc, if_true]
    rw [spn_rep p c d hc hd rest n]

/-- The text of the law: blanks, some letters at 20, blanks. -/
def lim (n m : Nat) : B := List.replicate 20 32 ++ (List.replicate n 97 ++ List.replicate m 32)
theorem lim_len (n m : Nat) : (lim n m).length = 20 + n + m := by simp [lim]; omega

theorem lexF_end (m f p : Nat) : lexF (f + 1 + m) p (List.replicate m 32) = .ok [⟨0, [], p + m⟩] := by
  have := lexF_blanks [] m (f + 1) p
  rw [List.append_nil] at this
  rw [this]
  simp [lexF]

theorem lex_lim (n m : Nat) (hm : 0 < m) : lexF ((lim n m).length + 1) 0 (lim n m) =
    if n = 0 then .ok [⟨0, [], 20 + n + m⟩] else if 24 < n then .err 20 3 else .ok [⟨1, List.replicate n 97, 20⟩, ⟨0, [], 20 + n + m⟩] := by
  rw [lim_len]
  have e0 : lexF (20 + n + m + 1) 0 (lim n m) = lexF (n + m + 1) 20 (List.replicate n 97 ++ List.replicate m 32) := by
    rw [show 20 + n + m + 1 = (n + m + 1) + 20 by omega]
    exact lexF_blanks _ 20 (n + m + 1) 0
  rw [e0]
  by_cases hn : n = 0
  · subst hn
    rw [if_pos rfl]
    simp only [List.replicate_zero, List.nil_append]
    rw [show 0 + m + 1 = 0 + 1 + m by omega, lexF_end]
  · rw [if_neg hn]
    obtain ⟨k, rfl⟩ : ∃ k, n = k + 1 := ⟨n - 1, by omega⟩
    obtain ⟨j, rfl⟩ : ∃ j, m = j + 1 := ⟨m - 1, by omega⟩
    have hcons : List.replicate (k + 1) (97 : UInt8) ++ List.replicate (j + 1) 32 = 97 :: (List.replicate k 97 ++ List.replicate (j + 1) 32) := by
      rw [List.replicate_succ, List.cons_append]
    have hL : isL 97 = true := by decide
    have hn1 : nxt (97 :: (List.replicate k 97 ++ List.replicate (j + 1) 32)) = (1, k + 1) := by
      simp only [nxt, hL, if_true]
      rw [← hcons]
      rw [show List.replicate (j + 1) (32 : UInt8) = 32 :: List.replicate j 32 from List.replicate_succ]
      rw [spn_rep isW 97 32 (by decide) (by decide)]
    rw [hcons]
    conv => lhs; unfold lexF
    simp only
    rw [if_neg (by decide), hn1]
    simp only
    rw [if_neg (by omega)]
    by_cases h24 : 24 < k + 1
    · rw [if_pos h24]
      simp [h24]
    · rw [if_neg (fun hh => h24 hh.2), if_neg h24, ← hcons]
      have ed : (List.replicate (k + 1) (97 : UInt8) ++ List.replicate (j + 1) 32).drop (k + 1) = List.replicate (j + 1) 32 := by
        rw [List.drop_append_of_le_length (by simp), List.drop_eq_nil_of_le (by simp)]; rfl
      have et : (List.replicate (k + 1) (97 : UInt8) ++ List.replicate (j + 1) 32).take (k + 1) = List.replicate (k + 1) 97 := by
        rw [List.take_append_of_le_length (by simp), List.take_of_length_le (by simp)]
      rw [ed, et, show k + 1 + (j + 1) = k + 1 + (j + 1) by rfl]
      have := lexF_end (j + 1) k (20 + (k + 1))
      rw [this]
      rfl
end Lx
namespace Den
open Go Lx
section
variable {K : Bool → Hp → Prop} {h : Hp}

theorem bcells_set (a b : List UInt8) (c d : UInt8) : splice (bcells (a ++ c :: b)) a.length [.int .u8 (d.toNat : Int)] = bcells (a ++ d :: b) := by
  rw [splice_one]
  unfold bcells
  simp only [List.map_append, List.map_cons]
  congr 1
  · exact List.take_left' (by simp)
  · congr 1
    rw [← List.singleton_append, ← List.append_assoc]
    exact List.drop_left' (by simp)

theorem app_one (A X : List UInt8) (m : Nat) (d : UInt8) : A ++ (X ++ List.replicate (m + 1) d) = (A ++ X) ++ d :: List.replicate m d := by
  rw [List.append_assoc, List.replicate_succ]
theorem app_two (A R : List UInt8) (j : Nat) (d : UInt8) : A ++ (List.replicate (j + 1) d ++ R) = (A ++ List.replicate j d) ++ d :: R := by
  rw [List.append_assoc, List.replicate_succ', List.append_assoc]; rfl

theorem rep_mid (k n : Nat) (c d : UInt8) (rest : List UInt8) (hk : k < n) : List.replicate k c ++ (List.replicate (n - k) d ++ rest) = List.replicate k c ++ d :: (List.replicate (n - (k + 1)) d ++ rest) := by
  rw [show n - k = (n - (k + 1)) + 1 by omega, List.replicate_succ, List.cons_append]
theorem rep_mid2 (k n : Nat) (c d : UInt8) (rest : List UInt8) : List.replicate k c ++ c :: rest = List.replicate (k + 1) c ++ rest := by
  rw [show k + 1 = k + 1 from rfl, List.replicate_succ', List.append_assoc]; rfl

theorem law_limits (more name : Int) (hmore : 0 ≤ more ∧ more ≤ 255) (hname : 0 ≤ name ∧ name ≤ 255) (H : ∀ h', h.le h' → K true h') : F.law21_LexerLimits more name K h := by
  unfold F.law21_LexerLimits
  refine awake_callP fun h1 l1 => ifP_false rfl ?_
  obtain ⟨t, rfl⟩ : ∃ t : Nat, more = t := ⟨more.toNat, by omega⟩
  obtain ⟨q, rfl⟩ : ∃ q : Nat, name = q := ⟨name.toNat, by omega⟩
  have w0 : IntKind.i64.wrap (65436 + IntKind.i64.wrap (t : Int)) = ((65436 + t : Nat) : Int) := by rw [w64 (n := (t : Int)) (by omega), w64 (by omega)]; omega
  have w1 : IntKind.i64.wrap (q : Int) = (q : Int) := w64 (by omega)
  have w2 : ((q : Int).tmod 40) = ((q % 40 : Nat) : Int) := by rw [Int.tmod_eq_emod_of_nonneg (by omega)]; omega
  rw [w0]
  refine mk_own (size := 1) (65436 + t) (65436 + t) rfl rfl (Nat.le_refl _) (by omega) (by omega) rfl fun x h2 hxl hxc hown => ?_
  generalize hN : 65436 + t = N at *
  have hN1 : 65436 ≤ N ∧ N ≤ 65691 := by omega
  have e0 : repl N [Value.int .u8 0] = bcells (List.replicate N 0) := by
    unfold repl bcells
    simp
  rw [e0] at hown
  refine loopP_of (fun st h' => ∃ k : Nat, st = ((k : Int), ()) ∧ k ≤ N ∧ Own h1 h' 1 x (bcells (List.replicate k 32 ++ (List.replicate (N - k) 0 ++ [])))) (fun st => ((N : Int) - st.1).toNat) ⟨0, rfl, Nat.zero_le _, by simpa using hown⟩ ?_
  rintro st h' ⟨k, rfl, hkN, ho⟩
  refine ifP_dec (fun h3 => ?_) (fun h3 => ?_)
  · simp only at h3
    have hk : k < N := by omega
    rw [rep_mid k N 32 0 [] hk] at ho
    refine st_own k ho rfl (by omega) rfl (by decide) rfl fun h4 ho4 => ?_
    refine ⟨⟨k + 1, by simp only; rw [w64 (by omega)]; rfl, by omega, ?_⟩, by simp only; rw [w64 (by omega)]; omega⟩
    have := bcells_set (List.replicate k 32) (List.replicate (N - (k + 1)) 0 ++ []) 0 32
    rw [List.length_replicate] at this
    rw [Nat.mul_one] at ho4
    change splice _ k [Value.int IntKind.u8 32] = _ at this
    rw [this, rep_mid2 k N 32 0] at ho4
    exact ho4
  · simp only at h3
    have hk : k = N := by omega
    subst hk
    simp only [Nat.sub_self, List.replicate_zero, List.append_nil] at ho
    refine ⟨by decide, ?_⟩
    generalize hn : q % 40 = n at w2
    have hn40 : n < 40 := by omega
    -- the letters
    have esplit : ∀ j, j ≤ n → List.replicate 20 (32 : UInt8) ++ (List.replicate j 97 ++ List.replicate (k - 20 - j) 32) = List.replicate 20 32 ++ (List.replicate j 97 ++ (List.replicate (k - 20 - j) 32 ++ [])) := fun j _ => by rw [List.append_nil]
    refine loopP_of (fun st h'' => ∃ j : Nat, st = ((j : Int), ()) ∧ j ≤ n ∧ Own h1 h'' 1 x (bcells (lim j (k - 20 - j)))) (fun st => ((n : Int) - st.1).toNat) ⟨0, rfl, Nat.zero_le _, ?_⟩ ?_
    · have : lim 0 (k - 20 - 0) = List.replicate k 32 := by
        unfold lim
        simp only [List.replicate_zero, List.nil_append, List.replicate_append_replicate]
        congr 1; omega
      rw [this]; exact ho
    rintro st h'' ⟨j, rfl, hjn, hoj⟩
    refine ifP_dec (fun h5 => ?_) (fun h5 => ?_)
    · simp only at h5
      rw [w1, w2] at h5
      have hj : j < n := by omega
      have e1 : lim j (k - 20 - j) = (List.replicate 20 32 ++ List.replicate j 97) ++ 32 :: List.replicate (k - 20 - (j + 1)) 32 := by
        unfold lim
        rw [show k - 20 - j = (k - 20 - (j + 1)) + 1 by omega]
        exact app_one _ _ _ _
      have e2 : lim (j + 1) (k - 20 - (j + 1)) = (List.replicate 20 32 ++ List.replicate j 97) ++ 97 :: List.replicate (k - 20 - (j + 1)) 32 := by
        unfold lim
        exact app_two _ _ _ _
      rw [e1] at hoj
      refine st_own (j + 20) hoj (by simp only; rw [w64 (by omega)]; rfl) (by omega) rfl (by decide) rfl fun h6 ho6 => ?_
      refine ⟨⟨j + 1, by simp only; rw [w64 (by omega)]; rfl, by omega, ?_⟩, by simp only; rw [w64 (by omega)]; omega⟩
      have := bcells_set (List.replicate 20 32 ++ List.replicate j 97) (List.replicate (k - 20 - (j + 1)) 32) 32 97
      rw [List.length_append, List.length_replicate, List.length_replicate, Nat.add_comm 20 j] at this
      rw [Nat.mul_one] at ho6
      change splice _ (j + 20) [Value.int IntKind.u8 97] = _ at this
      rw [this, ← e2] at ho6
      exact ho6
    · simp only at h5
      rw [w1, w2] at h5
      have hj : j = n := by omega
      subst hj
      have hrd := hoj.rd
      refine ⟨lim j (k - 20 - j), ?_, ?_⟩
      · have := hrd.2
        simp only [bcells, List.length_map] at this
        rw [hxl]
        have e : (lim j (k - 20 - j)).length = k := by rw [lim_len]; omega
        rw [e] at this
        exact this
      · have hbs : BS ⟨(lim j (k - 20 - j)).toArray⟩ = lim j (k - 20 - j) := rfl
        have hlen : (lim j (k - 20 - j)).length = k := by rw [lim_len]; omega
        have hll := lex_lim j (k - 20 - j) (by omega)
        have hle : h.le h'' := Hp.le_trans l1 hoj.1
        refine callP_of (fun r h' => LexR h' r (lex _)) (fun K' hk => Tokens_of hk) fun r h7 l7 q7 => ?_
        rw [hbs] at q7
        unfold lex at q7
        rw [hlen, hxl] at *
        refine ifP_dec (fun h8 => ?_) (fun h8 => ?_)
        · rw [if_pos (by omega)] at q7
          have c1 : r = (nilS, ((0 : Nat) : Int), 3) := q7
          subst c1
          exact ifP_true rfl (ifP_true rfl (H _ (Hp.le_trans hle l7)))
        · rw [if_neg (by omega), hll] at q7
          refine ⟨by decide, ?_⟩
          rw [w1, w2]
          refine ifP_dec (fun h9 => ?_) (fun h9 => ?_)
          · rw [if_neg (by omega), if_pos (by omega)] at q7
            have c1 : r = (nilS, ((20 : Nat) : Int), 3) := q7
            subst c1
            exact ifP_true rfl (ifP_true rfl (H _ (Hp.le_trans hle l7)))
          · refine ⟨by decide, ?_⟩
            refine ifP_eq (fun h10 => ?_) (fun h10 => ?_)
            · have hj0 : j = 0 := by omega
              rw [if_pos hj0] at q7
              obtain ⟨c1, c2, c3⟩ := q7
              have := rd_toks_len c1
              refine ifP_true (by rw [this]; rfl) ?_
              rw [c3]
              exact H _ (Hp.le_trans hle l7)
            · have hj0 : ¬ j = 0 := by omega
              rw [if_neg hj0, if_neg (by omega)] at q7
              obtain ⟨c1, c2, c3⟩ := q7
              have := rd_toks_len c1
              refine ifP_true (by rw [this]; rfl) ?_
              refine rd_tok 1 c1 rfl (by simp) fun a d0 d1 d2 => ⟨_, d2, ?_⟩
              refine ifP_true ?_ ?_
              · have : 20 + j + (k - 20 - j) = k := by omega
                simp only [List.getElem_cons_succ, List.getElem_cons_zero, this]
                simp
              · rw [c3]
                exact H _ (Hp.le_trans hle l7)
end
end Den
