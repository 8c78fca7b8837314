/-
  The examples; the laws on tokens and on names.
-/
import Derived.Test.YtnahjnlkpmbhlaaLxD
set_option linter.unusedVariables false
namespace Den
open Go Lx

theorem ex1 : lex [97, 49, 32, 61, 32, 50, 46, 53, 48, 42, 40, 98, 41] = .ok [⟨1, [97, 49], 0⟩, ⟨4, [61], 3⟩, ⟨2, [50, 46, 53, 48], 5⟩, ⟨4, [42], 9⟩, ⟨4, [40], 10⟩, ⟨1, [98], 11⟩, ⟨4, [41], 12⟩, ⟨0, [], 13⟩] := by decide +kernel
theorem ex2 : lex [49, 46, 120] = .ok [⟨2, [49], 0⟩, ⟨4, [46], 1⟩, ⟨1, [120], 2⟩, ⟨0, [], 3⟩] := by decide +kernel
theorem ex3 : lex [92] = .err 0 2 := by decide +kernel

section
variable {K : Bool → Hp → Prop} {h : Hp} {s : ByteArray}

theorem awake_of (H : ∀ h', h.le h' → K true h') : F.law21_awake K h := by
  unfold F.law21_awake
  refine callP_of (fun r h' => LexR h' r (lex _)) (fun K' hk => Tokens_of hk) fun r1 h1 l1 q1 => ?_
  refine callP_of (fun r h' => LexR h' r (lex _)) (fun K' hk => Tokens_of hk) fun r2 h2 l2 q2 => ?_
  refine callP_of (fun r h' => LexR h' r (lex _)) (fun K' hk => Tokens_of hk) fun r3 h3 l3 q3 => ?_
  have e1 := ex1
  have e2 := ex2
  have e3 := ex3
  change lex (BS ⟨#[97, 49, 32, 61, 32, 50, 46, 53, 48, 42, 40, 98, 41]⟩) = _ at e1
  change lex (BS ⟨#[49, 46, 120]⟩) = _ at e2
  change lex (BS ⟨#[92]⟩) = _ at e3
  rw [e1] at q1; rw [e2] at q2; rw [e3] at q3
  obtain ⟨a1, a2, a3⟩ := q1
  obtain ⟨b1, b2, b3⟩ := q2
  have c1 : r3 = (nilS, ((0 : Nat) : Int), 2) := q3
  subst c1
  refine new_own (n := 8) (size := 3) rfl fun b h4 hb hown => ?_
  have hl4 : h3.le h4 := hown.1
  have d1 : Rd h4 3 ⟨some ⟨b, 0, none⟩, 8, 8⟩ (List.flatMap tokCells [⟨1, [97, 49], 0⟩, ⟨4, [61], 3⟩, ⟨2, [50, 46, 53, 48], 5⟩, ⟨4, [42], 9⟩, ⟨4, [40], 10⟩, ⟨1, [98], 11⟩, ⟨4, [41], 12⟩, ⟨0, [], 13⟩]) := hown.rd
  refine callP_same true (fun K' hk => same_of (a1.le (Hp.le_trans l2 (Hp.le_trans l3 hl4))) d1 (by decide) (by rw [decide_eq_true rfl]; exact hk)) ?_
  refine ifP_true rfl (ifP_true (by rw [a2]; rfl) (ifP_true (by rw [a3]; rfl) (ifP_true ?_ (ifP_true (by rw [b3]; rfl) (ifP_true rfl (H _ (Hp.le_trans l1 (Hp.le_trans l2 (Hp.le_trans l3 hl4)))))))))
  have := rd_toks_len b1
  rw [this]; rfl

theorem awake_callP {Kb : Bool → Hp → Prop} (H : ∀ h', h.le h' → Kb true h') : callP F.law21_awake Kb h :=
  callP_of (fun v _ => v = true) (fun K' hk => awake_of fun h' hl => hk _ _ hl rfl) fun v h' hl hv => by subst hv; exact H h' hl

theorem lex_len : ∀ f p l ts, lexF f p l = .ok ts → ts.length ≤ l.length + 1
  | 0, p, l, ts, h => by cases h
  | f + 1, p, [], ts, h => by
    simp only [lexF, Res.ok.injEq] at h
    subst h; simp
  | f + 1, p, c :: r, ts, h => by
    unfold lexF at h
    simp only at h
    split at h
    · have := lex_len f _ r ts h
      simp only [List.length_cons]; omega
    · split at h
      · cases h
      · split at h
        · cases h
        · rename_i hn _
          cases hx : lexF f (p + (nxt (c :: r)).2) ((c :: r).drop (nxt (c :: r)).2) with
          | err a e => rw [hx] at h; cases h
          | ok us =>
            rw [hx] at h
            simp only [Res.pre, Res.ok.injEq] at h
            subst h
            have := lex_len f _ _ us hx
            rw [List.length_drop] at this
            simp only [List.length_append, List.length_cons, List.length_nil] at this ⊢
            omega
theorem lex_ok {l : B} {ts : List Tok} (h : lex l = .ok ts) : ts.length ≤ 65537 := by
  unfold lex at h
  split at h
  · cases h
  · have := lex_len _ _ _ _ h; omega

theorem lexF_err : ∀ f p l a e, lexF f p l = .err a e → l.length < f → e ≠ 0 := by
  intro f
  induction f with
  | zero => intro _ _ _ _ _ h0; omega
  | succ f ih =>
    intro p l a e hh hlf
    unfold lexF at hh
    cases l with
    | nil => cases hh
    | cons c r =>
      simp only [List.length_cons] at hlf
      simp only at hh
      split at hh
      · exact ih _ _ _ _ hh (by omega)
      · split at hh
        · simp only [Res.err.injEq] at hh; omega
        · split at hh
          · simp only [Res.err.injEq] at hh; omega
          · rename_i hn _
            cases hy : lexF f (p + (nxt (c :: r)).2) ((c :: r).drop (nxt (c :: r)).2) with
            | ok us => rw [hy] at hh; cases hh
            | err a' e' =>
              rw [hy] at hh
              simp only [Res.pre, Res.err.injEq] at hh
              have := ih _ _ _ _ hy (by rw [List.length_drop]; simp only [List.length_cons]; omega)
              omega
theorem lex_err {l : B} {a : Nat} {e : Int} (h : lex l = .err a e) : e ≠ 0 := by
  unfold lex at h
  split at h
  · simp only [Res.err.injEq] at h; omega
  · exact lexF_err _ _ _ _ _ h (by omega)

theorem law_tokens (H : ∀ h', h.le h' → K true h') : F.law21_LexerTokens s K h := by
  unfold F.law21_LexerTokens
  refine joinP_inv (fun _ h1 => h.le h1) ?_ ?_
  · intro _ h1 hl1
    refine callP_of (fun r h' => LexR h' r (lex _)) (fun K' hk => Tokens_of hk) fun r1 h2 l1 q1 => ?_
    refine callP_of (fun r h' => LexR h' r (lex _)) (fun K' hk => rTokens_of hk) fun r2 h3 l2 q2 => ?_
    have hle := Hp.le_trans hl1 (Hp.le_trans l1 l2)
    cases hx : lex (BS s) with
    | ok ts =>
      rw [hx] at q1 q2
      obtain ⟨a1, a2, a3⟩ := q1
      obtain ⟨b1, b2, b3⟩ := q2
      have := lex_ok hx
      refine callP_same true (fun K' hk => same_of (a1.le l2) b1 (by omega) (by rw [decide_eq_true rfl]; exact hk)) ?_
      refine ifP_true rfl (ifP_true (by rw [a2, b2]; rfl) ?_)
      rw [a3, b3]; exact H _ hle
    | err p e =>
      rw [hx] at q1 q2
      have c1 : r1 = (nilS, (p : Int), e) := q1
      have c2 : r2 = (nilS, (p : Int), e) := q2
      subst c1 c2
      refine callP_same true (fun K' hk => same_of (ts := []) (us := []) Rd.nil Rd.nil (by decide) (by rw [decide_eq_true rfl]; exact hk)) ?_
      refine ifP_true rfl (ifP_true (by simp) ?_)
      have : ((nilS, (p : Int), e).2.2 == (nilS, (p : Int), e).2.2) = true := by simp
      rw [this]; exact H _ hle
  · refine awake_callP fun h1 l1 => ?_
    refine ifP_false rfl (ifP_dec (fun _ => ?_) (fun _ => l1))
    exact awake_callP fun h2 l2 => H _ (Hp.le_trans l1 l2)

theorem law_names (H : ∀ h', h.le h' → K true h') : F.law21_LexerNames s K h := by
  unfold F.law21_LexerNames
  refine joinP_inv (fun _ h1 => h.le h1) ?_ ?_
  · intro _ h1 hl1
    refine callP_same _ (fun K' => IsName_of) (callP_same _ (fun K' => rIsName_of) ?_)
    have : (isNm (BS s) == isNm (BS s)) = true := by simp
    rw [this]; exact H _ hl1
  · refine awake_callP fun h1 l1 => ?_
    refine ifP_false rfl (ifP_dec (fun _ => ?_) (fun _ => l1))
    exact awake_callP fun h2 l2 => H _ (Hp.le_trans l1 l2)
end
end Den
