/-
  The law on positions.
-/
import Derived.Test.YtnahjnlkpmbhlaaLxE
set_option linter.unusedVariables false
namespace Lx

def blankB (c : UInt8) : Prop := c = 32 ∨ c = 9
/-- The tokens ts stand in l behind position e, with blanks between. -/
def Good (l : B) : Nat → List Tok → Prop
  | e, [] => e = l.length
  | e, t :: r => e ≤ t.pos ∧ t.pos + t.text.length ≤ l.length ∧ (l.drop t.pos).take t.text.length = t.text ∧ (∀ b ∈ (l.drop e).take (t.pos - e), blankB b) ∧ Good l (t.pos + t.text.length) r

theorem good_of (l : B) : ∀ f p e ts, lexF f p (l.drop p) = .ok ts → e ≤ p → p ≤ l.length → (∀ b ∈ (l.drop e).take (p - e), blankB b) →
    Good l e ts ∧ ∃ t, ts.getLast? = some t ∧ t.kind = 0
  | 0, p, e, ts, h, _, _, _ => by cases h
  | f + 1, p, e, ts, h, he, hp, hb => by
    unfold lexF at h
    cases hd : l.drop p with
    | nil =>
      rw [hd] at h
      simp only [Res.ok.injEq] at h
      subst h
      have hpl : p = l.length := by
        have := List.drop_eq_nil_iff.1 hd; omega
      refine ⟨⟨he, by simp; omega, by simp, hb, ?_⟩, ⟨0, [], p⟩, rfl, rfl⟩
      show p + 0 = l.length; omega
    | cons c r =>
      rw [hd] at h
      simp only at h
      obtain ⟨g2, g3⟩ := Den.drop_next hd
      split at h
      · rename_i hc
        rw [← g2] at h
        refine good_of l f (p + 1) e ts h (by omega) (by omega) fun b hbm => ?_
        have e1 : p + 1 - e = (p - e) + 1 := by omega
        rw [e1, List.take_add_one, List.mem_append] at hbm
        rcases hbm with hbm | hbm
        · exact hb b hbm
        · have : (l.drop e)[p - e]? = some c := by
            rw [List.getElem?_drop]
            have h0 : (l.drop p)[0]? = some c := by rw [hd]; rfl
            rw [List.getElem?_drop] at h0
            rw [← h0]; congr 1; omega
          rw [this] at hbm
          simp only [Option.toList, List.mem_singleton] at hbm
          subst hbm; exact hc
      · split at h
        · cases h
        · split at h
          · cases h
          · rename_i hn _
            cases hx : lexF f (p + (nxt (c :: r)).2) ((c :: r).drop (nxt (c :: r)).2) with
            | err a b => rw [hx] at h; cases h
            | ok us =>
              rw [hx] at h
              simp only [Res.pre, Res.ok.injEq] at h
              subst h
              have hnl := nxt_le (c :: r)
              have hrl : (c :: r).length = l.length - p := by rw [← hd, List.length_drop]
              have e2 : ((c :: r).take (nxt (c :: r)).2).length = (nxt (c :: r)).2 := by rw [List.length_take]; omega
              rw [← hd, List.drop_drop] at hx
              rw [hd] at hx
              obtain ⟨i1, t, i2, i3⟩ := good_of l f _ (p + (nxt (c :: r)).2) us hx (Nat.le_refl _) (by omega) (fun b hbm => by simp at hbm)
              refine ⟨?_, t, ?_, i3⟩
              · refine ⟨he, ?_, ?_, hb, ?_⟩
                · simp only; rw [e2]; omega
                · simp only; rw [e2, hd]
                · simp only; rw [e2]; exact i1
              · cases us with
                | nil => cases i2
                | cons u v => simpa using i2

end Lx
namespace Den
open Go Lx

theorem rd_byte {h : Hp} {x : Sl} {l : List UInt8} {i : Int} {Ka : Addr → Prop} (k : Nat) (hr : Rd h 1 x (bcells l)) (hi : i = k) (hk : k < l.length)
    (H : ∀ a, h.cell a = some (.int .u8 (l[k].toNat : Int)) → Ka a) : idxP x i 1 Ka :=
  rd_one k hr hi (v := .int .u8 (l[k].toNat : Int)) (by simp [bcells, hk]) H

section
variable {K : Bool → Hp → Prop} {h : Hp} {s : ByteArray}

theorem law_positions (H : ∀ h', h.le h' → K true h') : F.law21_LexerPositions s K h := by
  unfold F.law21_LexerPositions
  refine joinP_inv (fun _ h1 => h.le h1 ∧ s.size ≤ 2000) ?_ ?_
  · intro _ h1 ⟨hl1, hs⟩
    refine callP_of (fun r h' => LexR h' r (lex _)) (fun K' hk => Tokens_of hk) fun r1 h2 l1 q1 => ?_
    have hle := Hp.le_trans hl1 l1
    cases hx : lex (BS s) with
    | err p e =>
      rw [hx] at q1
      have c1 : r1 = (nilS, (p : Int), e) := q1
      subst c1
      refine ifP_ne (fun _ => H _ hle) (fun he => ?_)
      exfalso
      have : ∀ f p l a e, lexF f p l = .err a e → f ≠ 0 → l.length < f → e ≠ 0 := by
        intro f
        induction f with
        | zero => intro _ _ _ _ _ h0; exact absurd rfl h0
        | succ f ih =>
          intro p l a e hh _ hlf
          unfold lexF at hh
          cases l with
          | nil => cases hh
          | cons c r =>
            simp only [List.length_cons] at hlf
            simp only at hh
            split at hh
            · exact ih _ _ _ _ hh (by omega) (by omega)
            · split at hh
              · simp only [Res.err.injEq] at hh; omega
              · split at hh
                · simp only [Res.err.injEq] at hh; omega
                · rename_i hn _
                  cases hy : lexF f (p + (nxt (c :: r)).2) ((c :: r).drop (nxt (c :: r)).2) with
                  | ok us => rw [hy] at hh; cases hh
                  | err a' e' =>
                    rw [hy] at hh
                    simp only [Res.pre, Res.err.injEq] at hh
                    have := ih _ _ _ _ hy (by omega) (by rw [List.length_drop]; simp only [List.length_cons]; omega)
                    omega
      unfold lex at hx
      rw [if_neg (by rw [BS_len]; omega)] at hx
      exact this _ _ _ _ _ hx (by omega) (by omega) he
    | ok ts =>
      rw [hx] at q1
      obtain ⟨a1, a2, a3⟩ := q1
      have hlt := lex_ok hx
      have hxl := rd_toks_len a1
      unfold lex at hx
      rw [if_neg (by rw [BS_len]; omega)] at hx
      obtain ⟨hgood, t0, hlast, hk0⟩ := good_of (BS s) _ 0 0 ts (by rw [List.drop_zero]; exact hx) (Nat.le_refl _) (Nat.zero_le _) (fun b hb => by simp at hb)
      refine ifP_ne (fun hh => absurd a3 hh) (fun _ => ?_)
      refine loopP_of (fun st h' => h2.le h' ∧ ∃ e k : Nat, st = ((e : Int), (k : Int), ()) ∧ k ≤ ts.length ∧ e ≤ s.size ∧ Good (BS s) e (ts.drop k)) (fun st => ((ts.length : Int) - st.2.1).toNat)
        ⟨Hp.le_refl _, 0, 0, rfl, Nat.zero_le _, Nat.zero_le _, hgood⟩ ?_
      rintro st h' ⟨hl', e, k, rfl, hkl, hes, hg⟩
      refine ifP_dec (fun h3 => ?_) (fun h3 => ?_)
      · simp only at h3
        have hk : k < ts.length := by omega
        rw [List.drop_eq_getElem_cons hk] at hg
        obtain ⟨g1, g2, g3, g4, g5⟩ := hg
        rw [BS_len] at g2
        generalize ht : ts[k] = t at g1 g2 g3 g4 g5
        refine rd_tok k (a1.le hl') rfl hk fun a b0 b1 b2 => ⟨_, b0, _, b1, _, b2, ?_⟩
        rw [ht]
        have hsz : (⟨t.text.toArray⟩ : ByteArray).size = t.text.length := by
          rw [← BS_len]
        have w1 : IntKind.i64.wrap ((t.pos : Int) + ((⟨t.text.toArray⟩ : ByteArray).size : Int)) = ((t.pos + t.text.length : Nat) : Int) := by
          rw [hsz, w64 (by omega)]; omega
        refine joinP_inv (fun _ h4 => h4 = h') ?_ ?_
        · rintro _ h4 rfl
          refine strCut_of e t.pos rfl rfl g1 (by omega) fun u hu => ?_
          refine bytes_of fun x h5 l5 hr5 hx5 => ?_
          have hul : u.size = t.pos - e := by rw [← BS_len, hu, List.length_take, List.length_drop, BS_len]; omega
          refine loopP_of (fun st h6 => h6 = h5 ∧ ∃ j : Nat, st = ((j : Int), ())) (fun st => ((x.len : Int) - st.1).toNat) ⟨rfl, 0, rfl⟩ ?_
          rintro st h6 ⟨rfl, j, rfl⟩
          refine ifP_dec (fun h7 => ?_) (fun h7 => ?_)
          · simp only at h7
            have hj : j < (BS u).length := by rw [BS_len]; omega
            refine joinP_inv (fun _ h8 => h8 = h6) ?_ ?_
            · rintro _ h8 rfl
              exact ⟨⟨rfl, j + 1, by simp only; rw [w64 (by omega)]; rfl⟩, by simp only; rw [w64 (by omega)]; omega⟩
            · refine rd_byte j hr5 rfl hj fun a hc => ⟨_, hc, ?_⟩
              have hm : (BS u)[j] ∈ ((BS s).drop e).take (t.pos - e) := by rw [← hu]; exact List.getElem_mem hj
              rcases g4 _ hm with hb | hb
              · rw [hb]; exact ifP_ne (fun hh => absurd rfl hh) (fun _ => rfl)
              · rw [hb]; exact ifP_ne (fun _ => ifP_ne (fun hh => absurd rfl hh) (fun _ => rfl)) (fun _ => rfl)
          · refine ⟨⟨Hp.le_trans hl' l5, t.pos + t.text.length, k + 1, ?_, by omega, by omega, g5⟩, by simp only; rw [w64 (by omega)]; omega⟩
            simp only
            rw [w1, w64 (by omega)]; rfl
        · simp only
          rw [w1]
          refine ifP_dec (fun hh => ?_) (fun _ => ifP_dec (fun hh => ?_) (fun _ => ?_))
          · exfalso
            have h9 : t.pos < e := Int.ofNat_lt.1 hh
            exact absurd g1 (Nat.not_le.2 h9)
          · exfalso
            have h9 : s.size < t.pos + t.text.length := Int.ofNat_lt.1 hh
            exact absurd g2 (Nat.not_le.2 h9)
          refine strCut_of t.pos (t.pos + t.text.length) rfl rfl (by omega) (by omega) fun u hu => ?_
          have : BS u = t.text := by rw [hu, Nat.add_sub_cancel_left, g3]
          refine ifP_intro (fun hh => ?_) (fun _ => trivial)
          exfalso
          rw [BS_toList, BS_toList, this] at hh
          simp at hh
      · simp only at h3
        have hk : ts.length ≤ k := by omega
        rw [List.drop_eq_nil_of_le hk] at hg
        have he : e = (BS s).length := hg
        rw [BS_len] at he
        have hne : ts ≠ [] := fun hh => by rw [hh] at hlast; cases hlast
        have hpos : 0 < ts.length := List.length_pos_iff.2 hne
        refine ifP_eq (fun _ => ?_) (fun hh => absurd (by simp only; omega) hh)
        refine ifP_dec (fun _ => ?_) (fun hh => absurd (by omega) hh)
        have w2 : IntKind.i64.wrap ((r1.1.len : Int) - 1) = ((ts.length - 1 : Nat) : Int) := by rw [w64 (by omega)]; omega
        rw [w2]
        refine rd_tok (ts.length - 1) (a1.le hl') rfl (by omega) fun a b0 b1 b2 => ⟨_, b0, ?_⟩
        have : ts[ts.length - 1] = t0 := by
          rw [List.getLast?_eq_getElem?, List.getElem?_eq_getElem (by omega)] at hlast
          simpa using hlast
        rw [this, hk0]
        exact H _ (Hp.le_trans hle hl')
  · refine awake_callP fun h1 l1 => ?_
    refine ifP_false rfl (ifP_dec (fun _ => ?_) (fun hh => ⟨l1, by omega⟩))
    exact awake_callP fun h2 l2 => H _ (Hp.le_trans l1 l2)
end
end Den
