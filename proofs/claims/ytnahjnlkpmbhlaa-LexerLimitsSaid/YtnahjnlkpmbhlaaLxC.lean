/-
  The reference's lexer computes what the plain lexer says.
-/
import Derived.Test.YtnahjnlkpmbhlaaLxB
set_option linter.unusedVariables false
namespace Den
open Go Lx

section
variable {Kp : Int × ByteArray → Hp → Prop} {Kt : Sl × Int × Int → Hp → Prop} {K : Bool → Hp → Prop} {Ki : Int → Hp → Prop} {h : Hp} {s : ByteArray} {c : UInt8} {p : Nat}

theorem rletter_of (H : K (isL c) h) : F.ref21_letter c.toNat K h := isLetter_of H
theorem rdigit_of (H : K (isD c) h) : F.ref21_digit c.toNat K h := isDigit_of H

theorem rword_of (hs : s.size ≤ 1000000) (hp : p ≤ s.size) (H : Ki ((p + wordN ((BS s).drop p) : Nat) : Int) h) : F.ref21_word s p Ki h := by
  unfold F.ref21_word
  refine joinP_inv (fun _ h1 => h1 = h ∧ ∃ c r, (BS s).drop p = c :: r ∧ isL c = true) ?_ ?_
  · rintro _ h1 ⟨rfl, c0, r0, hd0, hL⟩
    have e0 : wordN ((BS s).drop p) = spn isW ((BS s).drop p) := by rw [hd0]; simp [wordN, hL]
    rw [e0] at H
    refine loopP_of (fun st h' => h' = h1 ∧ ∃ k : Nat, st = ((k : Int), ()) ∧ p + spn isW ((BS s).drop p) = k + spn isW ((BS s).drop k)) (fun st => ((s.size : Int) - st.1).toNat) ⟨rfl, p, rfl, rfl⟩ ?_
    rintro st h' ⟨rfl, k, rfl, hk⟩
    refine joinP_inv (fun _ h2 => h2 = h' ∧ k < s.size ∧ ∃ c r, (BS s).drop k = c :: r ∧ isW c = true) ?_ ?_
    · rintro _ h2 ⟨rfl, hks, c, r, hd, hW⟩
      obtain ⟨h4, h3⟩ := drop_next hd
      refine ⟨⟨rfl, k + 1, by simp only; rw [w64 (by omega)]; rfl, ?_⟩, by simp only; rw [w64 (by omega)]; omega⟩
      rw [h4, hk, hd]; simp only [spn, hW, if_true]; omega
    · have stop : (spn isW ((BS s).drop k) = 0) → Ki ((k : Nat) : Int) h' := fun h0 => by
        rw [hk, h0] at H; exact H
      refine ifP_dec (fun h1 => ?_) (fun h1 => ?_)
      · cases hd : (BS s).drop k with
        | nil => have := List.drop_eq_nil_iff.1 hd; rw [BS_len] at this; simp only at h1; omega
        | cons c r =>
          obtain ⟨h2, h3⟩ := drop_next hd
          rw [BS_len] at h3
          refine strIdx_drop hd rfl (callP_same (isL c) (fun K' => rletter_of) (ifP_intro (fun h4 => ?_) (fun h4 => ?_)))
          · exact ⟨rfl, h3, c, r, rfl, by simp [isW, h4]⟩
          · refine strIdx_drop hd rfl (callP_same (isD c) (fun K' => rdigit_of) (ifP_intro (fun h5 => ?_) (fun h5 => ?_)))
            · exact ⟨rfl, h3, c, r, rfl, by simp [isW, h5]⟩
            · refine strIdx_drop hd rfl (ifP_eq (fun h6 => ?_) (fun h6 => ?_))
              · have : c = 95 := (u8_eq (n := 95) (by decide)).1 h6
                exact ⟨rfl, h3, c, r, rfl, by simp [isW, this]⟩
              · have hc : c ≠ 95 := fun hh => h6 (by rw [hh]; rfl)
                refine stop ?_
                rw [hd]
                simp [spn, isW, h4, h5, hc]
      · have hd : (BS s).drop k = [] := by apply List.drop_eq_nil_of_le; rw [BS_len]; simp only at h1; omega
        exact stop (by rw [hd]; rfl)
  · have stop : wordN ((BS s).drop p) = 0 → Ki (p : Int) h := fun h0 => by rw [h0] at H; exact H
    refine ifP_eq (fun h1 => ?_) (fun h1 => ?_)
    · have hd : (BS s).drop p = [] := by apply List.drop_eq_nil_of_le; rw [BS_len]; omega
      exact stop (by rw [hd]; rfl)
    · cases hd : (BS s).drop p with
      | nil => have := List.drop_eq_nil_iff.1 hd; rw [BS_len] at this; omega
      | cons c r =>
        refine strIdx_drop hd rfl (callP_same (isL c) (fun K' => rletter_of) (ifP_intro (fun h4 => ?_) (fun h4 => ?_)))
        · have h5 : isL c = false := by simpa using h4
          exact stop (by rw [hd]; simp [wordN, h5])
        · have h5 : isL c = true := by simpa using h4
          exact ⟨rfl, c, r, rfl, h5⟩

theorem rdigits_of (hs : s.size ≤ 1000000) (hp : p ≤ s.size) (H : Ki ((p + spn isD ((BS s).drop p) : Nat) : Int) h) : F.ref21_digits s p Ki h := by
  unfold F.ref21_digits
  refine loopP_of (fun st h' => h' = h ∧ ∃ k : Nat, st = ((k : Int), ()) ∧ p + spn isD ((BS s).drop p) = k + spn isD ((BS s).drop k)) (fun st => ((s.size : Int) - st.1).toNat) ⟨rfl, p, rfl, rfl⟩ ?_
  rintro st h' ⟨rfl, k, rfl, hk⟩
  refine joinP_of (ifP_dec (fun h1 => ?_) (fun h1 => ?_))
  · cases hd : (BS s).drop k with
    | nil => have := List.drop_eq_nil_iff.1 hd; rw [BS_len] at this; simp only at h1; omega
    | cons c r =>
      obtain ⟨h2, h3⟩ := drop_next hd
      rw [BS_len] at h3
      refine strIdx_drop hd rfl (callP_same (isD c) (fun K' => rdigit_of) (ifP_intro (fun h4 => ?_) (fun h4 => ?_)))
      · refine ⟨⟨rfl, k + 1, by simp only; rw [w64 (by omega)]; rfl, ?_⟩, by simp only; rw [w64 (by omega)]; omega⟩
        rw [h2, hk, hd]; simp only [spn, h4, if_true]; omega
      · rw [hk, hd] at H
        simp only [spn, h4] at H
        simpa using H
  · have hd : (BS s).drop k = [] := by apply List.drop_eq_nil_of_le; rw [BS_len]; simp only at h1; omega
    rw [hk, hd] at H
    simpa [spn] using H

theorem rnumber_of (hs : s.size ≤ 1000000) (hp : p ≤ s.size) (H : Ki ((p + numN ((BS s).drop p) : Nat) : Int) h) : F.ref21_number s p Ki h := by
  unfold F.ref21_number
  have hle := spn_le isD ((BS s).drop p)
  rw [List.length_drop, BS_len] at hle
  refine callP_same _ (fun K' => rdigits_of hs hp) (ifP_dec (fun h1 => ?_) (fun h1 => ?_))
  · have hpos : 0 < spn isD ((BS s).drop p) := by omega
    have e1 : numN ((BS s).drop p) = num ((BS s).drop p) := by simp [numN, hpos]
    rw [e1] at H
    generalize hn : spn isD ((BS s).drop p) = n at *
    have hnum : num ((BS s).drop p) = match (BS s).drop (p + n) with | [] => n | c :: r => if c = 46 ∧ 0 < spn isD r then n + 1 + spn isD r else n := by
      unfold num; rw [hn, List.drop_drop]; rfl
    refine ifP_dec (fun h2 => ?_) (fun h2 => ?_)
    · cases hd : (BS s).drop (p + n) with
      | nil => have := List.drop_eq_nil_iff.1 hd; rw [BS_len] at this; omega
      | cons c r =>
        obtain ⟨g2, g3⟩ := drop_next hd
        rw [BS_len] at g3
        rw [hd] at hnum
        simp only at hnum
        refine strIdx_drop hd rfl (ifP_eq (fun h3 => ?_) (fun h3 => ?_))
        · have hc : c = 46 := (u8_eq (n := 46) (by decide)).1 h3
          have w1 : IntKind.i64.wrap (((p + n : Nat) : Int) + 1) = ((p + n + 1 : Nat) : Int) := by rw [w64 (by omega)]; omega
          rw [w1]
          have hr := spn_le isD r
          have hrl : r.length = s.size - (p + n + 1) := by rw [← g2, List.length_drop, BS_len]
          refine callP_same _ (fun K' => rdigits_of hs (by omega)) (ifP_dec (fun h4 => ?_) (fun h4 => ?_))
          · rw [g2] at h4
            rw [if_pos ⟨hc, by omega⟩] at hnum
            refine callP_same _ (fun K' => rdigits_of hs (by omega)) ?_
            rw [hnum] at H
            rw [g2, show p + n + 1 + spn isD r = p + (n + 1 + spn isD r) by omega]; exact H
          · rw [g2] at h4
            rw [if_neg (by omega)] at hnum
            rw [hnum] at H; exact H
        · rw [if_neg (fun hh => h3 (by rw [hh.1]; rfl))] at hnum
          rw [hnum] at H; exact H
    · have hd : (BS s).drop (p + n) = [] := by apply List.drop_eq_nil_of_le; rw [BS_len]; omega
      rw [hd] at hnum
      rw [hnum] at H; exact H
  · have h0 : spn isD ((BS s).drop p) = 0 := by omega
    have e1 : numN ((BS s).drop p) = 0 := by simp [numN, h0]
    rw [e1] at H; rw [h0]; exact H

theorem rsymbol_of (H : K (decide (c ∈ syms)) h) : F.ref21_symbol c.toNat K h := by
  unfold F.ref21_symbol
  refine loopP_of (fun st h' => h' = h ∧ ∃ k : Nat, st = ((k : Int), ()) ∧ c ∉ syms.take k) (fun st => (19 - st.1).toNat) ⟨rfl, 0, rfl, by simp⟩ ?_
  rintro st h' ⟨rfl, k, rfl, hk⟩
  have hsl : syms.length = 19 := by decide
  refine ifP_dec (fun h1 => ?_) (fun h1 => ?_)
  · simp only at h1
    cases hd : syms.drop k with
    | nil => have := List.drop_eq_nil_iff.1 hd; omega
    | cons d r =>
      obtain ⟨h2, h3⟩ := drop_next hd
      refine strIdx_drop (s := ⟨#[43, 45, 42, 47, 40, 41, 91, 93, 123, 125, 44, 58, 59, 61, 46, 60, 62, 64, 35]⟩) (k := k) (c := d) (r := r) hd rfl (ifP_eq (fun h4 => ?_) (fun h4 => ?_))
      · have hdc : d = c := by
          rw [← UInt8.toNat_inj]; omega
        have : c ∈ syms := by
          have : d ∈ syms.drop k := by rw [hd]; exact List.mem_cons_self
          rw [← hdc]; exact List.mem_of_mem_drop this
        rw [decide_eq_true this] at H; exact H
      · refine ⟨⟨rfl, k + 1, by simp only; rw [w64 (by omega)]; rfl, ?_⟩, by simp only; rw [w64 (by omega)]; omega⟩
        have hg : syms[k]? = some d := by
          have : (syms.drop k)[0]? = some d := by rw [hd]; rfl
          simpa using this
        rw [List.take_add_one, hg]
        simp only [Option.toList, List.mem_append, List.mem_singleton, not_or]
        exact ⟨hk, fun hh => h4 (by rw [hh])⟩
  · simp only at h1
    rw [List.take_of_length_le (by omega)] at hk
    rw [decide_eq_false hk] at H; exact H

def bcells (l : List UInt8) : List Value := l.map fun b => .int .u8 b.toNat

theorem rquoted_of (hs : s.size ≤ 1000000) (hp : p ≤ s.size) (H : ∀ h', h.le h' → Kp (((p + quoN ((BS s).drop p) : Nat) : Int), ⟨(quoT ((BS s).drop p)).toArray⟩) h') : F.ref21_quoted s p Kp h := by
  unfold F.ref21_quoted
  refine new_own (n := 0) (size := 1) rfl fun b h1 hb hown0 => ?_
  have none_ : quo ((BS s).drop p) = none → ∀ h', h.le h' → Kp ((p : Int), emptyS) h' := fun hq h' hl => by
    have := H h' hl
    unfold quoN quoT at this
    rw [hq] at this
    exact this
  refine joinP_inv (fun _ h2 => h2 = h1 ∧ ∃ r, (BS s).drop p = 34 :: r) ?_ ?_
  · rintro _ h2 ⟨rfl, r0, hd0⟩
    obtain ⟨e0, e1⟩ := drop_next hd0
    rw [BS_len] at e1
    have hq0 : quo ((BS s).drop p) = (qs (r0.length + 1) r0).map fun q => (q.1 + 1, q.2) := by rw [hd0]; simp [quo]
    have w0 : IntKind.i64.wrap ((p : Int) + 1) = ((p + 1 : Nat) : Int) := by rw [w64 (by omega)]; omega
    rw [w0]
    refine loopP_of (fun st h' => ∃ (x : Sl) (k : Nat) (acc : List UInt8), st = (x, (k : Int), ()) ∧ Own h h' 1 x (bcells acc) ∧ p + 1 ≤ k ∧ k ≤ s.size ∧ acc.length ≤ k ∧
        qs (r0.length + 1) r0 = (qs (((BS s).drop k).length + 1) ((BS s).drop k)).map fun q => (q.1 + (k - (p + 1)), acc ++ q.2)) (fun st => ((s.size : Int) - st.2.1).toNat)
        ⟨_, p + 1, [], rfl, hown0, Nat.le_refl _, by omega, Nat.zero_le _, by rw [e0]; cases qs (r0.length + 1) r0 <;> simp⟩ ?_
    rintro st h' ⟨x, k, acc, rfl, hown, hk1, hks, hacc, hk⟩
    have hxl : x.len = acc.length := by have := hown.2.1; simp [bcells] at this; exact this
    have fail : qs (((BS s).drop k).length + 1) ((BS s).drop k) = none → Kp ((p : Int), emptyS) h' := fun hn => by
      refine none_ ?_ _ hown.1
      rw [hq0, hk, hn]; rfl
    refine ifP_dec (fun h3 => ?_) (fun h3 => ?_)
    · simp only at h3
      cases hd : (BS s).drop k with
      | nil => have := List.drop_eq_nil_iff.1 hd; rw [BS_len] at this; omega
      | cons c r =>
        obtain ⟨g2, g3⟩ := drop_next hd
        rw [BS_len] at g3
        rw [hd] at hk fail
        refine strIdx_drop hd rfl (ifP_dec (fun h4 => ?_) (fun h4 => ?_))
        · exact fail (by unfold qs; rw [if_pos (lt32.1 h4)])
        · have h4' : ¬ c < 32 := fun hh => h4 (lt32.2 hh)
          refine ifP_eq (fun h5 => ?_) (fun h5 => ?_)
          · have h6 : c = 34 := (u8_eq (n := 34) (by decide)).1 h5
            subst h6
            have e : qs ((34 :: r).length + 1) (34 :: r) = some (1, []) := by simp [qs]
            rw [e] at hk
            have hrd := hown.rd
            refine ⟨acc, ?_, ?_⟩
            · rw [hxl]; have := hrd.2; simp only [bcells, List.length_map] at this; exact this
            · simp only
              rw [w64 (by omega)]
              have := H h' hown.1
              have hfin : quo ((BS s).drop p) = some (1 + (k - (p + 1)) + 1, acc) := by rw [hq0, hk]; simp
              unfold quoN quoT at this
              rw [hfin] at this
              simp only at this
              have e2 : p + (1 + (k - (p + 1)) + 1) = k + 1 := by omega
              rw [e2] at this
              exact this
          · have h6 : ¬ c = 34 := fun hh => h5 (by rw [hh]; rfl)
            refine joinP_inv (fun s8 h4 => h4 = h' ∧ ∃ (k' : Nat) (d : UInt8), s8 = ((k' : Int), (d.toNat : Int), ()) ∧ k ≤ k' ∧ k' < s.size ∧
                qs ((c :: r).length + 1) (c :: r) = (qs (((BS s).drop (k' + 1)).length + 1) ((BS s).drop (k' + 1))).map fun q => (q.1 + (k' + 1 - k), d :: q.2)) ?_ ?_
            · rintro s8 h4 ⟨rfl, k', d, rfl, j1, j2, j3⟩
              refine app_own hown (n := 1) rfl rfl rfl (by simp only; omega) (by simp only; omega) fun y h5 hy hyl => ?_
              refine ⟨⟨y, k' + 1, acc ++ [d], by simp only; rw [w64 (by omega)]; rfl, ?_, by omega, by omega, by simp; omega, ?_⟩, by simp only; rw [w64 (by omega)]; omega⟩
              · have : bcells (acc ++ [d]) = bcells acc ++ [.int .u8 (d.toNat : Int)] := by simp [bcells]
                rw [this]; exact hy
              · rw [hk, j3, Option.map_map]
                congr 1
                funext q
                simp only [Function.comp, List.append_assoc, List.singleton_append]
                congr 1
                omega
            · refine ifP_eq (fun h7 => ?_) (fun h7 => ?_)
              · have h8 : c = 92 := (u8_eq (n := 92) (by decide)).1 h7
                have w1 : IntKind.i64.wrap ((k : Int) + 1) = ((k + 1 : Nat) : Int) := by rw [w64 (by omega)]; omega
                simp only
                rw [w1]
                cases hr : r with
                | nil =>
                  have hend : k + 1 = s.size := by
                    have := List.drop_eq_nil_iff.1 (g2.trans hr); rw [BS_len] at this; omega
                  rw [hr] at fail
                  have e : qs ([c].length + 1) [c] = none := by unfold qs; rw [if_neg h4', if_neg h6, if_pos h8]
                  exact joinP_of (ifP_eq (fun _ => fail e) (fun hh => absurd (by omega) hh))
                | cons d r' =>
                  have hd2 : (BS s).drop (k + 1) = d :: r' := g2.trans hr
                  obtain ⟨i2, i3⟩ := drop_next hd2
                  rw [BS_len] at i3
                  rw [hr] at fail
                  have e : qs ((c :: d :: r').length + 1) (c :: d :: r') = if d = 34 ∨ d = 92 ∨ d = 110 then (qs (r'.length + 1) r').map fun p => (p.1 + 2, (if d = 110 then 10 else d) :: p.2) else none := by
                    conv => lhs; unfold qs
                    rw [if_neg h4', if_neg h6, if_pos h8]
                    simp only
                    rw [qs_fuel (c :: d :: r').length (r'.length + 1) r' (by simp only [List.length_cons]; omega) (by omega)]
                  refine joinP_inv (fun _ h5 => h5 = h' ∧ (d = 34 ∨ d = 92 ∨ d = 110)) ?_ ?_
                  · rintro _ h5 ⟨rfl, hdd⟩
                    rw [if_pos hdd] at e
                    refine strIdx_drop hd2 rfl (ifP_eq (fun j1 => ?_) (fun j1 => ?_))
                    · have j2 : d = 110 := (u8_eq (n := 110) (by decide)).1 j1
                      refine ⟨rfl, k + 1, 10, rfl, by omega, by omega, ?_⟩
                      rw [e, i2, if_pos j2]
                      congr 1
                      funext q
                      congr 1
                      omega
                    · have j2 : ¬ d = 110 := fun hh => j1 (by rw [hh]; rfl)
                      refine ⟨rfl, k + 1, d, rfl, by omega, by omega, ?_⟩
                      rw [e, i2, if_neg j2]
                      congr 1
                      funext q
                      congr 1
                      omega
                  · have nn : ¬ (d = 34 ∨ d = 92 ∨ d = 110) → Kp ((p : Int), emptyS) h' := fun hh => fail (by rw [e, if_neg hh])
                    refine ifP_eq (fun hh => absurd hh (by omega)) (fun _ => ?_)
                    refine strIdx_drop hd2 rfl (ifP_ne (fun j1 => ?_) (fun j1 => ⟨rfl, .inl ((u8_eq (n := 34) (by decide)).1 j1)⟩))
                    refine strIdx_drop hd2 rfl (ifP_ne (fun j2 => ?_) (fun j2 => ⟨rfl, .inr (.inl ((u8_eq (n := 92) (by decide)).1 j2))⟩))
                    refine strIdx_drop hd2 rfl (ifP_ne (fun j3 => ?_) (fun j3 => ⟨rfl, .inr (.inr ((u8_eq (n := 110) (by decide)).1 j3))⟩))
                    refine nn ?_
                    rintro (hh | hh | hh)
                    · exact j1 (by rw [hh]; rfl)
                    · exact j2 (by rw [hh]; rfl)
                    · exact j3 (by rw [hh]; rfl)
              · have h8 : ¬ c = 92 := fun hh => h7 (by rw [hh]; rfl)
                refine ⟨rfl, k, c, rfl, Nat.le_refl _, g3, ?_⟩
                conv => lhs; unfold qs
                rw [if_neg h4', if_neg h6, if_neg h8, g2]
                have : k + 1 - k = 1 := by omega
                rw [this]
                rfl
    · simp only at h3
      have hd : (BS s).drop k = [] := by apply List.drop_eq_nil_of_le; rw [BS_len]; omega
      refine fail ?_
      rw [hd]; simp [qs]
  · refine ifP_eq (fun h3 => ?_) (fun h3 => ?_)
    · have hd : (BS s).drop p = [] := by apply List.drop_eq_nil_of_le; rw [BS_len]; omega
      exact none_ (by rw [hd]; rfl) _ hown0.1
    · cases hd : (BS s).drop p with
      | nil => have := List.drop_eq_nil_iff.1 hd; rw [BS_len] at this; omega
      | cons c r =>
        refine strIdx_drop hd rfl (ifP_ne (fun h4 => ?_) (fun h4 => ?_))
        · exact none_ (by rw [hd]; simp only [quo]; rw [if_neg (fun hh => h4 (by rw [hh]; rfl))]) _ hown0.1
        · have : c = 34 := (u8_eq (n := 34) (by decide)).1 h4
          exact ⟨rfl, r, by rw [this]⟩
end
end Den
