/-
  Part 6 of the tools and contracts from which the statement is proved.
-/
import Derived.Test.YtlddjhibbccljaaGreatPartc5
import Derived.Test.YtlddjhibbccljaaGreatProg
import Derived.Laws.Externs
import Derived.RangeFuncBox
import Derived.RangeFuncLeaves
import Derived.Shelf.Abstract
import Derived.WalkKit
import Derived.OwnWalkIn
import Derived.TacticsInMore
import Derived.LoopNIn
import Derived.LoopIn
set_option linter.unusedVariables false
section
/-
  Polynomials: products, values, compositions.
-/
set_option linter.unusedVariables false
namespace Den
open Go Iv Pq
section
variable {h : Hp} {A B C : Nat} {l m : Sl} {p q : List Rat} {K : Sl → Hp → Prop} {KR : TRat → Hp → Prop} {Kb : Bool → Hp → Prop} {c : Rat} {x : TRat}

theorem part_succ {f g : Nat → Rat} {i j : Nat} : Pq.part f g (i + 1) j = Pq.part f g i j + (if i ≤ j then f i * g (j - i) else 0) := rfl
theorem pMul_call (hp : PL h A l p) (hq : PL h B m q) (hlen : p.length ≤ 1000) (hlen2 : q.length ≤ 1000) (hA : A ≤ 100000) (hB : B ≤ 100000) (hC : ∀ k n, k ≤ p.length → BR C (Pq.part (co p) (co q) k n)) (hC2 : 1 ≤ C ∧ C ≤ 400000)
    (H : ∀ y h', OL h h' C y (trim (mulL p q)) → K y h') : callP (F.polynomial_Mul l m) K h := by
  refine callP_of (fun y h' => OL h h' C y (trim (mulL p q))) (fun K' hk => ?_) fun y h' _ hy => H y h' hy
  unfold F.polynomial_Mul
  have hl := hp.len
  have hl2 := hq.len
  have fin : ∀ s : List Rat, (∀ j, co s j = Pq.part (co p) (co q) p.length j) → trim s = trim (mulL p q) := fun s hs => trim_eq fun j => by
    rw [hs, co_mulL, part_conv fun i hi => co_ge hi]
  have nilK : (p = [] ∨ q = []) → K' nilS h := fun hh => by
    refine hk _ _ (Hp.le_refl _) ?_
    have e : trim (mulL p q) = [] := nf_eq_nil nf_trim fun i => by
      rw [co_trim, co_mulL]
      rcases hh with rfl | rfl
      · exact conv_nil
      · rw [conv_comm]; exact conv_nil
    rw [e]
    exact ⟨h, Hp.le_refl _, OD.nil⟩
  refine joinP_inv (fun _ h' => h' = h ∧ 0 < p.length ∧ 0 < q.length) ?_ ?_
  · rintro _ h0 ⟨rfl, pp, pq⟩
    have e1 : IntKind.i64.wrap (IntKind.i64.wrap ((l.len : Int) + (m.len : Int)) - 1) = ((p.length + q.length - 1 : Nat) : Int) := by
      rw [w64 (n := (l.len : Int) + (m.len : Int)) (by omega), w64 (by omega)]; omega
    rw [e1]
    refine zeros_call (by omega) fun r h1 hr => ?_
    obtain ⟨D0, hD0, ho0⟩ := hr
    refine loopP_of (fun st h' => ∃ D, h0.le D ∧ ∃ i : Nat, st.1 = (i : Int) ∧ i ≤ p.length ∧ ∃ s, s.length = p.length + q.length - 1 ∧ OD D h' C r s ∧ ∀ j, co s j = Pq.part (co p) (co q) i j) (fun st => (p.length - st.1).toNat)
      ⟨D0, hD0, 0, rfl, Nat.zero_le _, _, by simp, ho0.mono hC2.1, fun j => co_replicate⟩ ?_
    rintro ⟨_, _⟩ h2 ⟨D, hD, i, hi, hi2, s, hs, ho, cs⟩
    simp only at hi
    subst hi
    refine ifP_dec (fun h3 => ?_) (fun h3 => ?_)
    · simp only at h3
      have hi' : i < p.length := by omega
      refine hp.getle i (Hp.le_trans hD ho.dle) rfl hi' fun y hy by_ => ?_
      have ep : p[i] = co p i := (co_lt hi').symm
      rw [ep] at hy by_
      refine loopP_of (fun st h' => ∃ D, h0.le D ∧ ∃ k : Nat, st.1 = (k : Int) ∧ k ≤ q.length ∧ ∃ s, s.length = p.length + q.length - 1 ∧ OD D h' C r s ∧ ∀ j, co s j = Pq.part (co p) (co q) i j + (if i ≤ j ∧ j < i + k then co p i * co q (j - i) else 0)) (fun st => (q.length - st.1).toNat)
        ⟨D, hD, 0, rfl, Nat.zero_le _, s, hs, ho, fun j => by rw [if_neg (by omega), cs, Rat.add_zero]⟩ ?_
      rintro ⟨_, _⟩ h4 ⟨D1, hD1, k, hk1, hk2, s1, hs1, ho1, cs1⟩
      simp only at hk1
      subst hk1
      refine ifP_dec (fun h5 => ?_) (fun h5 => ?_)
      · simp only at h5
        have hk' : k < q.length := by omega
        refine hq.getle k (Hp.le_trans hD1 ho1.dle) rfl hk' fun u hu bu => ?_
        have eq : q[k] = co q k := (co_lt hk').symm
        rw [eq] at hu bu
        have e2 : IntKind.i64.wrap ((i : Int) + (k : Int)) = ((i + k : Nat) : Int) := by rw [w64 (by omega)]; omega
        have hik : i + k < s1.length := by omega
        refine ho1.get (i + k) e2 hik fun v hv bv => ?_
        refine ho1.call (K1 := fun z D' => NR D' z (co p i * co q k)) (qMul_call (hy.le hD1) (hu.le hD1) by_ bu (by omega) (by omega) fun z D' hl' hz => hz) fun z D2 h6 hl2' ho2 hz => ?_
        refine ho2.call (K1 := fun z D' => NR D' z (s1[i + k] + co p i * co q k)) (qAdd_call (hv.le hl2') hz bv (by_.mul bu) hC2.2 (by omega) fun z D' hl' hz => hz) fun z2 D3 h7 hl3 ho3 hz2 => ?_
        have e3 : s1[i + k] + co p i * co q k = Pq.part (co p) (co q) (i + 1) (i + k) := by
          rw [← co_lt hik, cs1, if_neg (by omega), Rat.add_zero, part_succ, if_pos (by omega), Nat.add_sub_cancel_left]
        rw [e3] at hz2
        refine ho3.set (i + k) e2 hik hz2 (hC _ _ hi') fun h8 ho4 _ => ⟨⟨D3, Hp.le_trans hD1 (Hp.le_trans hl2' hl3), k + 1, ?_, hk', _, by simpa using hs1, ho4, fun j => ?_⟩, ?_⟩
        · simp only; rw [w64 (by omega)]; rfl
        · rw [co_set hik]
          by_cases hj : j = i + k
          · subst hj
            rw [if_pos rfl, if_pos (by omega), part_succ, if_pos (by omega), Nat.add_sub_cancel_left]
          · rw [if_neg hj, cs1]
            congr 1
            by_cases hj2 : i ≤ j ∧ j < i + k
            · rw [if_pos hj2, if_pos (by omega)]
            · rw [if_neg hj2, if_neg (by omega)]
        · simp only; rw [w64 (by omega)]; omega
      · simp only at h5
        have hk' : k = q.length := by omega
        subst hk'
        refine ⟨⟨D1, hD1, i + 1, ?_, hi', s1, hs1, ho1, fun j => ?_⟩, ?_⟩
        · simp only; rw [w64 (by omega)]; rfl
        · rw [cs1, part_succ]
          congr 1
          by_cases hj : i ≤ j
          · rw [if_pos hj]
            by_cases hj2 : j < i + q.length
            · rw [if_pos ⟨hj, hj2⟩]
            · rw [if_neg (fun hh => hj2 hh.2), co_ge (p := q) (by omega), Rat.mul_zero]
          · rw [if_neg hj, if_neg (fun hh => hj hh.1)]
        · simp only; rw [w64 (by omega)]; omega
    · simp only at h3
      have hi' : i = p.length := by omega
      subst hi'
      refine pTrim_call ho.pl (by omega) (by omega) fun y h' hy => ?_
      rw [fin s cs] at hy
      exact hk _ _ (Hp.le_trans hD (Hp.le_trans ho.dle hy.hle)) (hy.base (Hp.le_trans hD ho.dle))
  · refine ifP_eq (fun h1 => nilK (.inl (List.eq_nil_of_length_eq_zero (by omega)))) (fun h1 => ifP_eq (fun h2 => nilK (.inr (List.eq_nil_of_length_eq_zero (by omega)))) (fun h2 => ⟨rfl, by omega, by omega⟩))

/-! ### Ranges over slices.Backward -/
theorem qbackward_call {Ka : Addr → Hp → Prop} (H : ∀ a h', h.le h' → h'.cell a = some (.slice l.a l.len l.cap) → Ka a h') : callP (F.slices_Backward_api_Rat_api_Rat l) Ka h := by
  refine callP_of (fun a h' => h'.cell a = some (.slice l.a l.len l.cap)) (fun K' hk => ?_) fun a h' hl ha => H a h' hl ha
  unfold F.slices_Backward_api_Rat_api_Rat
  intro b e hb
  refine hk _ _ (Hp.le_ins hb) ?_
  unfold Hp.cell
  simp only [Hp.ins_same]
  rfl
abbrev qt (x : TRat) : Bool × Sl × Bool × Sl × Unit := (x.num.neg, x.num.mag, x.den.neg, x.den.mag, ())
theorem back_rat {h' : Hp} (hp : PL h B l p) (hl : h.le h') {i : Nat} (hi : i < p.length) :
    ∃ (ad : Addr) (x : TRat), l.a = some ad ∧ NR h x p[i] ∧ BR B p[i] ∧ ∀ j u, (qc x)[j]? = some u → h'.cell (ad.add (i * 4 + j)) = some u := by
  obtain ⟨xs, h1, h2, h3⟩ := hp
  have hi' : i < xs.length := by rw [h2.1]; exact hi
  have h4 := (h1.le hl).2
  have hpos : 0 < (xs.flatMap qc).length := by rw [flat_len qc_len]; omega
  cases ha : l.a with
  | none =>
    rw [ha] at h4
    simp only [cellsAtO] at h4
    split at h4
    · omega
    · cases h4
  | some ad =>
    rw [ha] at h4
    simp only [cellsAtO] at h4
    refine ⟨ad, xs[i], rfl, (h2.2 i hi' hi).1, (h2.2 i hi' hi).2, fun j u hj => ?_⟩
    have hj4 : j < 4 := by
      rcases Nat.lt_or_ge j 4 with h5 | h5
      · exact h5
      · rw [List.getElem?_eq_none (by rw [qc_len]; exact h5)] at hj; cases hj
    exact cellsAt_get h4 (i * 4 + j) u (by rw [flat_get qc_len hi' hj4]; exact hj)
theorem pEval_call (hp : PL h A l p) (hx : NR h x c) (bc : BR B c) (hlen : p.length ≤ 1000000) (hA : A ≤ 100000) (hB : B ≤ 100000) (hC : ∀ i, BR C (ev (p.drop i) c)) (hC2 : C ≤ 200000) (H : ∀ z h', h.le h' → NR h' z (ev p c) → KR z h') : callP (F.polynomial_Eval l x) KR h := by
  refine callP_of (fun z h' => NR h' z (ev p c)) (fun K' hk => ?_) fun z h' hl hz => H z h' hl hz
  unfold F.polynomial_Eval
  have hl := hp.len
  refine qFromInt_call (by decide) (by decide) fun z0 h1 hl1 hz0 => ?_
  refine qbackward_call fun ad h2 hl2 had => ?_
  have hl02 := Hp.le_trans hl1 hl2
  refine ⟨l, fun i st h' => i ≤ p.length ∧ h2.le h' ∧ NR h' (q4 st.1) (ev (p.drop i) c), by omega, ⟨by omega, Hp.le_refl _, ?_⟩, fun i st h' hI => Hp.cell_le hI.2.1 had, fun i st h' hi hI => ?_, fun st h' hI => ?_⟩
  · rw [hl, List.drop_length]; exact hz0.le hl2
  · obtain ⟨_, hl3, hs⟩ := hI
    have hi' : i < p.length := by omega
    obtain ⟨a, y, ha, hy, by_, hc⟩ := back_rat hp (Hp.le_trans hl02 hl3) hi'
    refine ⟨a, qt y, ha, fun j u hj => hc j u hj, ?_⟩
    have hl03 := Hp.le_trans hl02 hl3
    refine qMul_call hs (hx.le hl03) (hC _) bc (by omega) (by omega) fun r h4 hl4 hr => ?_
    refine qAdd_call hr ((hy.le hl03).le hl4) ((hC _).mul bc) by_ (by omega) (by omega) fun w h5 hl5 hw => ?_
    refine ⟨by omega, Hp.le_trans hl3 (Hp.le_trans hl4 hl5), ?_⟩
    rw [ev_drop hi', Rat.add_comm]
    exact hw
  · have := hI.2.2
    rw [List.drop_zero] at this
    exact hk _ _ (Hp.le_trans hl02 hI.2.1) this
end
end Den
end

section
/-
  Polynomials: values of the reference, compositions.
-/
set_option linter.unusedVariables false
namespace Den
open Go Iv Pq
section
variable {h : Hp} {A B C : Nat} {l m : Sl} {p q : List Rat} {K : Sl → Hp → Prop} {KR : TRat → Hp → Prop} {Kb : Bool → Hp → Prop} {c : Rat} {x : TRat}

theorem rpEval_call (hp : PL h A l p) (hx : NR h x c) (bc : BR B c) (hlen : p.length ≤ 1000000) (hA : A ≤ 100000) (hB : B ≤ 100000) (hC : ∀ i, BR C (ev (p.drop i) c)) (hC2 : C ≤ 200000) (H : ∀ z h', h.le h' → NR h' z (ev p c) → KR z h') : callP (F.ref04_Eval l x) KR h := by
  refine callP_of (fun z h' => NR h' z (ev p c)) (fun K' hk => ?_) fun z h' hl hz => H z h' hl hz
  unfold F.ref04_Eval
  have hl := hp.len
  refine rZero_call fun z0 h1 hl1 hz0 => ?_
  have e0 : IntKind.i64.wrap ((l.len : Int) - 1) = (p.length : Int) - 1 := by rw [w64 (by omega)]; omega
  rw [e0]
  refine loopP_of (fun st h' => h1.le h' ∧ ∃ i : Nat, st.2.1 = (i : Int) - 1 ∧ i ≤ p.length ∧ NR h' (q4 st.1) (ev (p.drop i) c)) (fun st => (st.2.1 + 1).toNat)
    ⟨Hp.le_refl _, p.length, rfl, Nat.le_refl _, by rw [List.drop_length]; exact hz0⟩ ?_
  rintro ⟨s, _, _⟩ h2 ⟨hl2, i, hi, hi2, hs⟩
  simp only at hi hs
  subst hi
  refine ifP_dec (fun h3 => ?_) (fun h3 => ?_)
  · simp only at h3
    have hl12 := Hp.le_trans hl1 hl2
    refine (hp.le hl12).get (i - 1) (by simp only; omega) (by omega) fun y hy by_ => ?_
    refine rqMul_call hs (hx.le hl12) (hC _) bc (by omega) (by omega) fun r h4 hl4 hr => ?_
    refine rqAdd_call hr (hy.le hl4) ((hC _).mul bc) by_ (by omega) (by omega) fun w h5 hl5 hw => ?_
    have e1 : IntKind.i64.wrap ((i : Int) - 1 - 1) = ((i - 1 : Nat) : Int) - 1 := by rw [w64 (by omega)]; omega
    refine ⟨⟨Hp.le_trans hl2 (Hp.le_trans hl4 hl5), i - 1, e1, by omega, ?_⟩, by simp only; rw [e1]; omega⟩
    have e2 : ev (p.drop (i - 1)) c = ev (p.drop i) c * c + p[i - 1]'(by omega) := by
      rw [ev_drop (show i - 1 < p.length by omega), Rat.add_comm, show i - 1 + 1 = i by omega]
    rw [e2]
    exact hw
  · simp only at h3
    have hi' : i = 0 := by omega
    subst hi'
    rw [List.drop_zero] at hs
    exact hk _ _ (Hp.le_trans hl1 hl2) hs

theorem trim_mul_trim {r : List Rat} : trim (mulL (trim r) q) = trim (mulL r q) := trim_eq fun i => by
  rw [co_mulL, co_mulL]
  exact conv_congr (fun _ => co_trim) fun _ => rfl
theorem comp_step {i : Nat} (hi : i < p.length) : trim (addL (trim (mulL (trim (compL (p.drop (i + 1)) q)) q)) [p[i]]) = trim (compL (p.drop i) q) := by
  rw [compL_drop hi, addL_trim]
  refine trim_eq fun j => ?_
  rw [co_addL, co_addL, co_mulL, co_mulL]
  congr 1
  exact conv_congr (fun _ => co_trim) fun _ => rfl
theorem compL_len : ∀ {p : List Rat}, (compL p q).length ≤ p.length * (q.length + 1)
  | [] => Nat.zero_le _
  | c :: r => by
    have ha : ∀ (u v : List Rat), (addL u v).length ≤ max u.length v.length := by
      intro u
      induction u with
      | nil => intro v; rw [addL]; omega
      | cons a u ih =>
        intro v
        cases v with
        | nil => simp [addL]
        | cons b v => have := ih v; simp only [addL, List.length_cons]; omega
    have hm : ∀ (u : List Rat), (mulL u q).length ≤ u.length + q.length := by
      intro u
      induction u with
      | nil => simp [mulL]
      | cons a u ih =>
        have := ha (q.map (a * ·)) (0 :: mulL u q)
        simp only [List.length_map, List.length_cons] at this
        simp only [mulL, List.length_cons]
        omega
    have h1 := ha (mulL (compL r q) q) [c]
    have h2 := hm (compL r q)
    have h3 := compL_len (p := r)
    simp only [compL, List.length_cons, List.length_nil] at h1 ⊢
    rw [Nat.add_mul]
    omega
theorem PL.one {a : Addr} {y : TRat} {v : Rat} (hr : RdQ h ⟨some a, 1, 1⟩ [y]) (hy : NR h y v) (by_ : BR B v) : PL h B ⟨some a, 1, 1⟩ [v] := by
  refine ⟨[y], hr, ⟨rfl, fun k h1 h2 => ?_⟩, Nat.le_refl _⟩
  have : k = 0 := by simp at h1; omega
  subst this
  exact ⟨hy, by_⟩
theorem pCompose_call (hp : PL h A l p) (hq : PL h B m q) (hlen : p.length ≤ 10) (hlen2 : q.length ≤ 10) (hA : 1 ≤ A ∧ A ≤ 100000) (hB : B ≤ 100000) {M : Nat} (hM : ∀ i k n, BR M (Pq.part (co (compL (p.drop i) q)) (co q) k n)) (hM2 : 1 ≤ M ∧ M ≤ 100000) (hC : ∀ i j, BR C (co (compL (p.drop i) q) j)) (hC2 : M ≤ C ∧ C ≤ 100000)
    (H : ∀ y h', h.le h' → PL h' C y (trim (compL p q)) → K y h') : callP (F.polynomial_Compose l m) K h := by
  refine callP_of (fun y h' => PL h' C y (trim (compL p q))) (fun K' hk => ?_) fun y h' hl hy => H y h' hl hy
  unfold F.polynomial_Compose
  have hl := hp.len
  have hb := compL_len (q := q) (p := p)
  have hlc : ∀ i, (trim (compL (p.drop i) q)).length ≤ 110 := fun i => by
    have h1 := compL_len (q := q) (p := p.drop i)
    have h2 := trim_len (p := compL (p.drop i) q)
    rw [List.length_drop] at h1
    have h3 : (p.length - i) * (q.length + 1) ≤ 10 * 11 := Nat.mul_le_mul (by omega) (by omega)
    omega
  refine qbackward_call fun ad h2 hl2 had => ?_
  refine ⟨l, fun i st h' => i ≤ p.length ∧ h2.le h' ∧ PL h' C st.1.1 (trim (compL (p.drop i) q)), by omega, ⟨by omega, Hp.le_refl _, ?_⟩, fun i st h' hI => Hp.cell_le hI.2.1 had, fun i st h' hi hI => ?_, fun st h' hI => ?_⟩
  · rw [hl, List.drop_length]; exact PL.nil
  · obtain ⟨_, hl3, hs⟩ := hI
    have hi' : i < p.length := by omega
    have hl03 := Hp.le_trans hl2 hl3
    obtain ⟨a, y, ha, hy, by_, hc⟩ := back_rat hp hl03 hi'
    refine ⟨a, qt y, ha, fun j u hj => hc j u hj, ?_⟩
    have hcp : ∀ k n, Pq.part (co (trim (compL (p.drop (i + 1)) q))) (co q) k n = Pq.part (co (compL (p.drop (i + 1)) q)) (co q) k n := fun k n => by
      unfold Pq.part
      exact sm_congr fun _ _ => by rw [co_trim]
    have := hlc (i + 1)
    refine pMul_call hs (hq.le hl03) (by omega) (by omega) (by omega) hB (C := M) (fun k n _ => by rw [hcp]; exact hM _ _ _) (by omega) fun r h4 hr => ?_
    refine new_rats (xs := [y]) 1 rfl fun b h5 hl5 hb5 => ?_
    have hl35 := Hp.le_trans hr.hle hl5
    have hone : PL h5 A ⟨some b, 1, 1⟩ [p[i]] := PL.one hb5 ((hy.le hl03).le hl35) by_
    have hml : (trim (mulL (trim (compL (p.drop (i + 1)) q)) q)).length ≤ 1000 := nf_len nf_trim fun n hn => by
      rw [co_trim, co_mulL]
      exact conv_zero_of (a := 110) (b := 10) (fun i hi => co_ge (by omega)) (fun i hi => co_ge (by omega)) (by omega)
    refine pAdd_call (hr.pl.le hl5) hone (by omega) (by simp) hC2.1 (by omega) (fun j => ?_) (by omega) fun w h6 hw => ⟨by omega, Hp.le_trans hl3 (Hp.le_trans hl35 hw.hle), ?_⟩
    · have := hC i j
      rw [← co_trim (p := compL (p.drop i) q), ← comp_step hi', co_trim, co_addL] at this
      exact this
    · have := hw.pl
      rw [comp_step hi'] at this
      exact this
  · have := hI.2.2
    rw [List.drop_zero] at this
    exact hk _ _ (Hp.le_trans hl2 hI.2.1) this
theorem rCompose_call (hp : PL h A l p) (hq : PL h B m q) (hlen : p.length ≤ 10) (hlen2 : q.length ≤ 10) (hA : 1 ≤ A ∧ A ≤ 100000) (hB : 1 ≤ B ∧ B ≤ 100000) {M : Nat} (hM : ∀ i k n, BR M (Pq.part (co q) (co (compL (p.drop i) q)) k n)) (hM2 : 1 ≤ M ∧ M ≤ 100000) (hC : ∀ i j, BR C (co (compL (p.drop i) q) j)) (hC2 : M ≤ C ∧ C ≤ 100000)
    (H : ∀ y h', h.le h' → PL h' C y (trim (compL p q)) → K y h') : callP (F.ref04_Compose l m) K h := by
  refine callP_of (fun y h' => PL h' C y (trim (compL p q))) (fun K' hk => ?_) fun y h' hl hy => H y h' hl hy
  unfold F.ref04_Compose
  have hl := hp.len
  have hlc : ∀ i, (trim (compL (p.drop i) q)).length ≤ 110 := fun i => by
    have h1 := compL_len (q := q) (p := p.drop i)
    have h2 := trim_len (p := compL (p.drop i) q)
    rw [List.length_drop] at h1
    have h3 : (p.length - i) * (q.length + 1) ≤ 10 * 11 := Nat.mul_le_mul (by omega) (by omega)
    omega
  have e0 : IntKind.i64.wrap ((l.len : Int) - 1) = (p.length : Int) - 1 := by rw [w64 (by omega)]; omega
  rw [e0]
  refine loopP_of (fun st h' => h.le h' ∧ ∃ i : Nat, st.2.1 = (i : Int) - 1 ∧ i ≤ p.length ∧ PL h' C st.1 (trim (compL (p.drop i) q))) (fun st => (st.2.1 + 1).toNat)
    ⟨Hp.le_refl _, p.length, rfl, Nat.le_refl _, by rw [List.drop_length]; exact PL.nil⟩ ?_
  rintro ⟨s, _, _⟩ h2 ⟨hl2, i, hi, hi2, hs⟩
  simp only at hi hs
  subst hi
  refine ifP_dec (fun h3 => ?_) (fun h3 => ?_)
  · simp only at h3
    obtain ⟨j, rfl⟩ : ∃ j, i = j + 1 := ⟨i - 1, by omega⟩
    have hi' : j < p.length := by omega
    refine (hp.le hl2).get j (by simp only; omega) hi' fun y hy by_ => ?_
    have hcp : ∀ k n, Pq.part (co q) (co (trim (compL (p.drop (j + 1)) q))) k n = Pq.part (co q) (co (compL (p.drop (j + 1)) q)) k n := fun k n => by
      unfold Pq.part
      exact sm_congr fun _ _ => by rw [co_trim]
    have := hlc (j + 1)
    refine rpMul_call hs (hq.le hl2) (by omega) (by omega) (by omega) (by omega) (C := M) (fun k n _ => by rw [hcp]; exact hM _ _ _) (by omega) fun r h4 hl4 hr => ?_
    have hr' : PL h4 M r (trim (mulL (trim (compL (p.drop (j + 1)) q)) q)) := by
      split at hr
      · rename_i hq0
        have e : trim (mulL (trim (compL (p.drop (j + 1)) q)) q) = [] := nf_eq_nil nf_trim fun i => by
          rw [co_trim, co_mulL, conv_comm, hq0]; exact conv_nil
        rw [e]; exact hr
      · exact hr
    refine new_rats (xs := [y]) 1 rfl fun b h5 hl5 hb5 => ?_
    have hl35 := Hp.le_trans hl4 hl5
    have hone : PL h5 A ⟨some b, 1, 1⟩ [p[j]] := PL.one hb5 (hy.le hl35) by_
    have hml : (trim (mulL (trim (compL (p.drop (j + 1)) q)) q)).length ≤ 1000 := nf_len nf_trim fun n hn => by
      rw [co_trim, co_mulL]
      exact conv_zero_of (a := 110) (b := 10) (fun i hi => co_ge (by omega)) (fun i hi => co_ge (by omega)) (by omega)
    have e1 : IntKind.i64.wrap (((j + 1 : Nat) : Int) - 1 - 1) = (j : Int) - 1 := by rw [w64 (by omega)]; omega
    refine rpAdd_call (hr'.le hl5) hone (by omega) (by simp) (by omega) (by omega) (C := C) (fun n => ?_) (by omega) fun w h6 hw => ⟨⟨Hp.le_trans hl2 (Hp.le_trans hl35 hw.hle), j, e1, by omega, ?_⟩, by simp only; rw [e1]; omega⟩
    · have := hC j n
      rw [← co_trim (p := compL (p.drop j) q), ← comp_step hi', co_trim, co_addL] at this
      exact this
    · have := hw.pl
      rw [comp_step hi'] at this
      exact this
  · simp only at h3
    have hi' : i = 0 := by omega
    subst hi'
    rw [List.drop_zero] at hs
    have := hlc 0
    rw [List.drop_zero] at this
    refine rTrim_call hs (by omega) (by omega) fun y h' hy => hk _ _ (Hp.le_trans hl2 hy.hle) ?_
    have := hy.pl
    rw [trim_trim] at this
    exact this
end
end Den
end

section
/-
  Polynomials: quotients (program).
-/
set_option linter.unusedVariables false
namespace Den
open Go Iv Pq

/-- One step of the division: the multiple of b (of degree d) that removes the coefficient at i + d. -/
def stepF (b : Nat → Rat) (d i : Nat) (f : Nat → Rat) : Nat → Rat := fun j => if i ≤ j then f j - (f (i + d) / b d) * b (j - i) else f j
/-- What is left after k of N steps. -/
def restK (b : Nat → Rat) (d N : Nat) (f : Nat → Rat) : Nat → (Nat → Rat)
  | 0 => f
  | k + 1 => stepF b d (N - 1 - k) (restK b d N f k)
section
variable {D h h' : Hp} {A B C : Nat} {l m x : Sl} {p q : List Rat} {K : Sl → Hp → Prop} {KK : Sl × Sl → Hp → Prop}

theorem OD.stay (ho : OD D h B l p) (hap : Apt x l) (hl : D.le h') (hs : ∀ j, (∀ a, x.a = some a → j ≠ a.block) → h' j = h j) : OD D h' B l p := by
  obtain ⟨xs, h1, h2⟩ := ho
  exact ⟨xs, own_stay h1 hap hl hs, h2⟩
theorem OD.call2 {α : Type} {G : (α → Hp → Prop) → Hp → Prop} {K1 K : α → Hp → Prop} (h1 : OD D h A l p) (h2 : OD D h B m q) (H : callP G K1 D)
    (k : ∀ v D' h', D.le D' → OD D' h' A l p → OD D' h' B m q → K1 v D' → K v h') : callP G K h := by
  obtain ⟨xs, a1, a2⟩ := h1
  obtain ⟨ys, b1, b2⟩ := h2
  exact callP_sub a1.1 H fun v D' h' g1 g2 g3 g4 => k v D' h' g1 ⟨xs, a1.move g2 g3, a2.le g1⟩ ⟨ys, b1.move g2 g3, b2.le g1⟩ g4
/-- A new list beside a list of one's own. -/
theorem OD.pair {D1 D2 : Hp} {r s : Sl} (h1 : ∃ xs, Own D2 h 4 r (xs.flatMap qc) ∧ QL D1 A xs p) (h2 : OL D1 D2 B s q) : ∃ D3, D1.le D3 ∧ OD D3 h A r p ∧ OD D3 h B s q ∧ Apt r s := by
  obtain ⟨xs, a1, a2⟩ := h1
  obtain ⟨D3, c1, ys, b1, b2⟩ := h2
  refine ⟨D3, c1, ⟨xs, a1.base b1.1, a2.le c1⟩, ⟨ys, b1.le a1.1, b2⟩, fun a b ha hb => ?_⟩
  obtain ⟨_, _, _, g4⟩ := a1
  rw [ha] at g4
  obtain ⟨_, _, k3, _⟩ := g4
  obtain ⟨_, _, _, f4⟩ := b1
  rw [hb] at f4
  obtain ⟨_, _, _, bb, e4, _⟩ := f4
  intro hh
  rw [hh, e4] at k3
  cases k3
theorem NR.num_ne {y : TRat} {v : Rat} (h0 : v ≠ 0) : v.num ≠ 0 := fun hh => h0 (Rat.num_eq_zero.1 hh)

theorem pdivide_call (hp : PL h A l p) (hq : PL h B m q) (hlen : p.length ≤ 1000) (hlen2 : q.length ≤ 1000) (hB : 1 ≤ B ∧ B ≤ 50000) (hq0 : trim q ≠ [])
    (hC : ∀ k j, k ≤ (trim p).length + 1 - (trim q).length → BR C (restK (co q) ((trim q).length - 1) ((trim p).length + 1 - (trim q).length) (co p) k j)) (hC2 : A ≤ C ∧ C ≤ 50000)
    (H : ∀ y z h' qs rs, h.le h' → PL h' (C + B) y (trim qs) → PL h' C z (trim rs) → qs.length ≤ 1001 → rs.length ≤ 1000 → (∀ j, conv (co qs) (co q) j + co rs j = co p j) → (∀ j, (trim q).length - 1 ≤ j → co rs j = 0) → KK (y, z) h') :
    callP (F.polynomial_divide l m) KK h := by
  refine callP_of (fun yz h' => ∃ qs rs, PL h' (C + B) yz.1 (trim qs) ∧ PL h' C yz.2 (trim rs) ∧ qs.length ≤ 1001 ∧ rs.length ≤ 1000 ∧ (∀ j, conv (co qs) (co q) j + co rs j = co p j) ∧ (∀ j, (trim q).length - 1 ≤ j → co rs j = 0)) (fun K' hk => ?_)
    fun yz h' hl ⟨qs, rs, g1, g2, g3, g4, g5, g6⟩ => H yz.1 yz.2 h' qs rs hl g1 g2 g3 g4 g5 g6
  unfold F.polynomial_divide
  have tq := trim_len (p := q)
  have tp := trim_len (p := p)
  have hd0 : 0 < (trim q).length := List.length_pos_iff.2 hq0
  obtain ⟨d, hd⟩ : ∃ d, (trim q).length = d + 1 := ⟨(trim q).length - 1, by omega⟩
  obtain ⟨N, hN⟩ : ∃ N, N = (trim p).length + 1 - (trim q).length := ⟨_, rfl⟩
  rw [← hN] at hC
  have hdd : (trim q).length - 1 = d := by omega
  rw [hdd] at hC hk
  have hb : co q d ≠ 0 := by
    have := nf_top nf_trim hq0
    rw [hdd, co_trim] at this
    exact this
  have hb2 : ∀ j, d < j → co q j = 0 := fun j hj => by rw [← co_trim, co_ge (by omega)]
  refine pTrim_call hq (by omega) (by omega) fun r1 h1 hr1 => ?_
  refine pTrim_call (hp.le hr1.hle) (by omega) (by omega) fun r2 h2 hr2 => ?_
  have len1 := hr1.len
  have len2 := hr2.len
  have eN : maxI 0 (IntKind.i64.wrap (IntKind.i64.wrap ((r2.len : Int) - (r1.len : Int)) + 1)) = (N : Int) := by
    rw [len1, len2, w64 (n := ((trim p).length : Int) - ((trim q).length : Int)) (by omega), w64 (by omega)]
    unfold maxI
    split <;> omega
  rw [eN]
  have hpl1 := hr1.pl
  obtain ⟨D2, hD2, xs, ho2, hq2⟩ := hr2
  refine ho2.call (K1 := fun v D' => OL D2 D' 1 v (List.replicate N 0)) (zeros_call (by omega) fun y h' hy => hy) fun r3 D' h3 _ ho3 hr3 => ?_
  obtain ⟨D3, hD3, hoR, hoQ, hap⟩ := OD.pair ⟨xs, ho3, hq2⟩ hr3
  have hh1D : h1.le D3 := Hp.le_trans hD2 hD3
  have e0 : IntKind.i64.wrap ((r2.len : Int) - (r1.len : Int)) = ((trim p).length : Int) - ((trim q).length : Int) := by rw [len1, len2, w64 (by omega)]
  rw [e0]
  refine loopP_of (fun st h' => ∃ D, h1.le D ∧ ∃ n : Nat, (st.1 = (n : Int) - 1 ∨ (st.1 < 0 ∧ n = 0)) ∧ n ≤ N ∧ ∃ qs rs, qs.length = N ∧ rs.length = (trim p).length ∧ OD D h' C r2 rs ∧ OD D h' (C + B) r3 qs ∧
      (∀ j, co rs j = restK (co q) d N (co p) (N - n) j) ∧ (∀ j, j < n → co qs j = 0) ∧ (∀ j, conv (co qs) (co q) j + co rs j = co p j) ∧ (∀ j, n + d ≤ j → co rs j = 0)) (fun st => (st.1 + 1).toNat)
    ⟨D3, hh1D, N, ?_, Nat.le_refl _, _, _, by simp, rfl, hoR.mono hC2.1, hoQ.mono (by omega), fun j => by rw [Nat.sub_self, co_trim]; rfl, fun j _ => co_replicate, fun j => ?_, fun j hj => ?_⟩ ?_
  · simp only; omega
  · rw [conv_comm, conv_congr (g' := co []) (fun _ => rfl) (fun _ => co_replicate), conv_comm, conv_nil, Rat.zero_add, co_trim]
  · rw [co_ge (by omega)]
  rintro ⟨st, _⟩ h4 ⟨D, hD, n, hst, hn, qs, rs, lq, lr, oR, oQ, cR, cQ, cc, cz⟩
  simp only at hst
  refine ifP_dec (fun h5 => ?_) (fun h5 => ?_)
  · simp only at h5
    have hst' : st = (n : Int) - 1 := by omega
    subst hst'
    obtain ⟨i, rfl⟩ : ∃ i, n = i + 1 := ⟨n - 1, by omega⟩
    have hiN : i < N := by omega
    have e1 : (((i + 1 : Nat) : Int) - 1) = (i : Int) := by omega
    simp only [e1]
    have e2 : IntKind.i64.wrap (IntKind.i64.wrap ((i : Int) + (r1.len : Int)) - 1) = ((i + d : Nat) : Int) := by
      rw [len1, w64 (n := (i : Int) + ((trim q).length : Int)) (by omega), w64 (by omega)]; omega
    have e3 : IntKind.i64.wrap ((r1.len : Int) - 1) = (d : Int) := by rw [len1, w64 (by omega)]; omega
    rw [e2, e3]
    have hid : i + d < rs.length := by omega
    refine oR.get (i + d) rfl hid fun u hu bu => ?_
    refine hpl1.getle d (Hp.le_trans hD oR.dle) rfl (by omega) fun v hv bv => ?_
    have ev1 : (trim q)[d]'(by omega) = co q d := by rw [← co_lt (show d < (trim q).length by omega), co_trim]
    have eu1 : rs[i + d] = co rs (i + d) := (co_lt hid).symm
    rw [ev1] at hv bv
    rw [eu1] at hu bu
    refine oR.call2 (K1 := fun z D' => NR D' z.1 (co rs (i + d) / co q d)) oQ (qDiv_call hu (hv.le hD) bu bv (by omega) (by omega) (NR.num_ne (y := v) hb) fun z D' _ hz => hz) fun z D1 h6 hl1 oR1 oQ1 hz => ?_
    have bz : BR (C + B) (co rs (i + d) / co q d) := bu.div bv (NR.num_ne (y := v) hb)
    refine oQ1.set i rfl (by omega) hz bz fun h7 oQ2 hfr => ?_
    have oR2 : OD D1 h7 C r2 rs := oR1.stay hap.symm oQ2.dle hfr
    have hfk : ∀ j, restK (co q) d N (co p) (N - i) j = stepF (co q) d i (co rs) j := fun j => by
      have e4 : N - i = (N - (i + 1)) + 1 := by omega
      have e5 : N - 1 - (N - (i + 1)) = i := by omega
      rw [e4, restK, e5]
      unfold stepF
      rw [cR, cR]
    refine loopP_of (fun st h' => ∃ D, h1.le D ∧ ∃ k : Nat, st.1 = (k : Int) ∧ k ≤ d + 1 ∧ ∃ rs', rs'.length = rs.length ∧ OD D h' C r2 rs' ∧ OD D h' (C + B) r3 (qs.set i (co rs (i + d) / co q d)) ∧
        ∀ j, co rs' j = if i ≤ j ∧ j < i + k then stepF (co q) d i (co rs) j else co rs j) (fun st => (((d + 1 : Nat) : Int) - st.1).toNat)
      ⟨D1, Hp.le_trans hD hl1, 0, rfl, Nat.zero_le _, rs, rfl, oR2, oQ2, fun j => by rw [if_neg (by omega)]⟩ ?_
    rintro ⟨_, _⟩ h8 ⟨D4, hD4, k, hk1, hk2, rs', lr', oR3, oQ3, cR3⟩
    simp only at hk1
    subst hk1
    refine ifP_dec (fun h9 => ?_) (fun h9 => ?_)
    · simp only [len1] at h9
      have hkd : k ≤ d := by omega
      refine hpl1.getle k (Hp.le_trans hD4 oR3.dle) rfl (by omega) fun w hw bw => ?_
      have ew1 : (trim q)[k]'(by omega) = co q k := by rw [← co_lt (show k < (trim q).length by omega), co_trim]
      rw [ew1] at hw bw
      have e6 : IntKind.i64.wrap ((i : Int) + (k : Int)) = ((i + k : Nat) : Int) := by rw [w64 (by omega)]; omega
      have hik : i + k < rs'.length := by omega
      refine oR3.get (i + k) e6 hik fun t ht bt => ?_
      refine oQ3.get i rfl (by simp; omega) fun g hg bg => ?_
      have eg : (qs.set i (co rs (i + d) / co q d))[i]'(by simp; omega) = co rs (i + d) / co q d := by simp
      rw [eg] at hg bg
      have et : rs'[i + k] = co rs (i + k) := by rw [← co_lt hik, cR3, if_neg (by omega)]
      rw [et] at ht bt
      refine oR3.call2 (K1 := fun z D' => NR D' z (co rs (i + d) / co q d * co q k)) oQ3 (qMul_call hg (hw.le hD4) bg bw (by omega) (by omega) fun z D' _ hz => hz) fun z2 D5 h10 hl5 oR4 oQ4 hz2 => ?_
      refine oR4.call2 (K1 := fun z D' => NR D' z (co rs (i + k) - co rs (i + d) / co q d * co q k)) oQ4 (qSub_call (ht.le hl5) hz2 bt (bg.mul bw) (by omega) (by omega) fun z D' _ hz => hz) fun z3 D6 h11 hl6 oR5 oQ5 hz3 => ?_
      have es : co rs (i + k) - co rs (i + d) / co q d * co q k = stepF (co q) d i (co rs) (i + k) := by
        unfold stepF
        rw [if_pos (by omega), Nat.add_sub_cancel_left]
      rw [es] at hz3
      have bs : BR C (stepF (co q) d i (co rs) (i + k)) := by rw [← hfk]; exact hC _ _ (by omega)
      refine oR5.set (i + k) e6 hik hz3 bs fun h12 oR6 hfr2 => ⟨⟨D6, Hp.le_trans hD4 (Hp.le_trans hl5 hl6), k + 1, ?_, by omega, _, by simpa using lr', oR6, oQ5.stay hap oR6.dle hfr2, fun j => ?_⟩, ?_⟩
      · simp only; rw [w64 (by omega)]; rfl
      · rw [co_set hik]
        by_cases hj : j = i + k
        · subst hj; rw [if_pos rfl, if_pos (by omega)]
        · rw [if_neg hj, cR3]
          by_cases hj2 : i ≤ j ∧ j < i + k
          · rw [if_pos hj2, if_pos (by omega)]
          · rw [if_neg hj2, if_neg (by omega)]
      · simp only; rw [w64 (by omega)]; omega
    · simp only [len1] at h9
      have hkd : k = d + 1 := by omega
      subst hkd
      have cR4 : ∀ j, co rs' j = stepF (co q) d i (co rs) j := fun j => by
        rw [cR3]
        by_cases hj : i ≤ j ∧ j < i + (d + 1)
        · rw [if_pos hj]
        · rw [if_neg hj]
          unfold stepF
          by_cases hj2 : i ≤ j
          · rw [if_pos hj2, hb2 (j - i) (by omega)]; grind
          · rw [if_neg hj2]
      have e7 : IntKind.i64.wrap ((i : Int) - 1) = (i : Int) - 1 := w64 (by omega)
      refine ⟨⟨D4, hD4, i, .inl e7, by omega, _, rs', by simpa using lq, by omega, oR3, oQ3, fun j => by rw [cR4, hfk], fun j hj => ?_, fun j => ?_, fun j hj => ?_⟩, by rw [e7]; omega⟩
      · rw [co_set (by omega), if_neg (by omega)]
        exact cQ j (by omega)
      · -- the product of the quotient grows by this multiple
        have e8 : conv (co (qs.set i (co rs (i + d) / co q d))) (co q) j = conv (co qs) (co q) j + (if i ≤ j then co rs (i + d) / co q d * co q (j - i) else 0) := by
          unfold conv
          have e9 : ∀ t, co (qs.set i (co rs (i + d) / co q d)) t = co qs t + (if t = i then co rs (i + d) / co q d else 0) := fun t => by
            rw [co_set (by omega)]
            by_cases ht : t = i
            · subst ht; rw [if_pos rfl, if_pos rfl, cQ t (by omega), Rat.zero_add]
            · rw [if_neg ht, if_neg ht, Rat.add_zero]
          have e10 : sm (j + 1) (fun t => (if t = i then co rs (i + d) / co q d else 0) * co q (j - t)) = if i ≤ j then co rs (i + d) / co q d * co q (j - i) else 0 := by
            by_cases hij : i ≤ j
            · rw [if_pos hij, sm_one (k := i) (by omega) fun t _ ht => by rw [if_neg ht, Rat.zero_mul], if_pos rfl]
            · rw [if_neg hij]
              exact sm_zeros fun t ht => by rw [if_neg (by omega), Rat.zero_mul]
          rw [← e10, ← sm_add]
          exact sm_congr fun t _ => by rw [e9]; grind
        rw [e8, cR4]
        unfold stepF
        have := cc j
        by_cases hij : i ≤ j
        · rw [if_pos hij, if_pos hij]; grind
        · rw [if_neg hij, if_neg hij]; grind
      · rw [cR4]
        unfold stepF
        rw [if_pos (by omega)]
        by_cases hj2 : j = i + d
        · subst hj2
          rw [Nat.add_sub_cancel_left, Rat.div_mul_cancel hb]; grind
        · rw [cz j (by omega), hb2 (j - i) (by omega)]; grind
  · simp only at h5
    have hn0 : n = 0 := by omega
    subst hn0
    refine pTrim_call oQ.pl (by omega) (by omega) fun y h6 hy => ?_
    refine pTrim_call (oR.pl.le hy.hle) (by omega) (by omega) fun z h7 hz => ?_
    refine hk _ _ (Hp.le_trans hr1.hle (Hp.le_trans hD (Hp.le_trans oR.dle (Hp.le_trans hy.hle hz.hle)))) ⟨qs, rs, hy.pl.le hz.hle, hz.pl, by omega, by omega, cc, fun j hj => cz j (by omega)⟩
end
end Den
end

section
/-
  Polynomials: quotients (reference), both quotients are equal.
-/
set_option linter.unusedVariables false
namespace Den
open Go Iv Pq
theorem restK_skip {b f : Nat → Rat} {d N k : Nat} : ∀ {k' : Nat}, k ≤ k' → k' ≤ N → (∀ j, N - k' + d ≤ j → restK b d N f k j = 0) → ∀ j, restK b d N f k' j = restK b d N f k j
  | 0, h1, _, _, j => by have : k = 0 := by omega
                         subst this; rfl
  | k' + 1, h1, h2, hz, j => by
    by_cases hk : k = k' + 1
    · subst hk; rfl
    · have ih := restK_skip (b := b) (f := f) (d := d) (N := N) (k := k) (k' := k') (by omega) (by omega) fun j hj => hz j (by omega)
      show stepF b d (N - 1 - k') (restK b d N f k') j = _
      unfold stepF
      rw [ih, ih, hz (N - 1 - k' + d) (by omega)]
      split
      · grind
      · rfl
section
variable {h : Hp} {A B C : Nat} {l m : Sl} {p q : List Rat} {KK : Sl × Sl → Hp → Prop} {KR : TRat → Hp → Prop} {KQ : Sl × Sl × Int → Hp → Prop} {x y : TRat} {u v : Rat}
theorem rQuot_call (hx : NR h x u) (hy : NR h y v) (bu : BR A u) (bv : BR B v) (hA : A ≤ 400000) (hB : B ≤ 400000) (h0 : v ≠ 0) (H : ∀ z h', h.le h' → NR h' z (u / v) → KR z h') : callP (F.ref04_quotient x y) KR h := by
  refine callP_of (fun z h' => NR h' z (u / v)) (fun K' hk => ?_) fun z h' hl hz => H z h' hl hz
  unfold F.ref04_quotient
  exact rqDiv_call hx hy bu bv hA hB (NR.num_ne (y := y) h0) fun z h' hl hz => hk _ _ hl hz
theorem co_term {i j : Nat} {t : Rat} : co (trim (List.replicate i 0 ++ [t])) j = if j = i then t else 0 := by
  rw [co_trim, co_shift]
  by_cases h1 : j < i
  · rw [if_pos h1, if_neg (by omega)]
  · rw [if_neg h1]
    by_cases h2 : j = i
    · subst h2; rw [if_pos rfl, Nat.sub_self]; rfl
    · rw [if_neg h2, co_ge (by simp; omega)]
theorem conv_term {i j : Nat} {t : Rat} {g : Nat → Rat} : conv (co (trim (List.replicate i 0 ++ [t]))) g j = if i ≤ j then t * g (j - i) else 0 := by
  unfold conv
  by_cases hij : i ≤ j
  · rw [if_pos hij, sm_one (k := i) (by omega) fun s _ hs => by rw [co_term, if_neg hs, Rat.zero_mul], co_term, if_pos rfl]
  · rw [if_neg hij]
    exact sm_zeros fun s hs => by rw [co_term, if_neg (by omega), Rat.zero_mul]
theorem rpDivMod_call (hp : PL h A l p) (hq : PL h B m q) (hlen : p.length ≤ 900) (hlen2 : q.length ≤ 900) (hB : 1 ≤ B ∧ B ≤ 20000) (hq0 : trim q ≠ [])
    (hC : ∀ k j, k ≤ (trim p).length + 1 - (trim q).length → BR C (restK (co q) ((trim q).length - 1) ((trim p).length + 1 - (trim q).length) (co p) k j)) (hC2 : A ≤ C ∧ 1 ≤ C ∧ C ≤ 20000)
    (H : ∀ y z h' qs rs, h.le h' → PL h' (C + B) y qs → nf qs → PL h' C z rs → nf rs → qs.length ≤ 1000 → rs.length ≤ 1000 → (∀ j, conv (co qs) (co q) j + co rs j = co p j) → (∀ j, (trim q).length - 1 ≤ j → co rs j = 0) → KK (y, z) h') :
    callP (F.ref04_DivMod l m) KK h := by
  refine callP_of (fun yz h' => ∃ qs rs, PL h' (C + B) yz.1 qs ∧ nf qs ∧ PL h' C yz.2 rs ∧ nf rs ∧ qs.length ≤ 1000 ∧ rs.length ≤ 1000 ∧ (∀ j, conv (co qs) (co q) j + co rs j = co p j) ∧ (∀ j, (trim q).length - 1 ≤ j → co rs j = 0)) (fun K' hk => ?_)
    fun yz h' hl ⟨qs, rs, g1, g2, g3, g4, g5, g6, g7, g8⟩ => H yz.1 yz.2 h' qs rs hl g1 g2 g3 g4 g5 g6 g7 g8
  unfold F.ref04_DivMod
  have tq := trim_len (p := q)
  have tp := trim_len (p := p)
  have hd0 : 0 < (trim q).length := List.length_pos_iff.2 hq0
  obtain ⟨d, hd⟩ : ∃ d, (trim q).length = d + 1 := ⟨(trim q).length - 1, by omega⟩
  obtain ⟨N, hN⟩ : ∃ N, N = (trim p).length + 1 - (trim q).length := ⟨_, rfl⟩
  rw [← hN] at hC
  have hdd : (trim q).length - 1 = d := by omega
  rw [hdd] at hC hk
  have hb : co q d ≠ 0 := by
    have := nf_top nf_trim hq0
    rw [hdd, co_trim] at this
    exact this
  have hb2 : ∀ j, d < j → co q j = 0 := fun j hj => by rw [← co_trim, co_ge (by omega)]
  refine rTrim_call hq (by omega) (by omega) fun r1 h1 hr1 => ?_
  refine rTrim_call (hp.le hr1.hle) (by omega) (by omega) fun r2 h2 hr2 => ?_
  have len1 := hr1.len
  have hpl1 := hr1.pl.le hr2.hle
  refine loopP_of (fun st h' => h2.le h' ∧ ∃ qs rs k, PL h' (C + B) st.2.1 qs ∧ nf qs ∧ PL h' C st.1 rs ∧ nf rs ∧ k ≤ N ∧ (∀ j, co rs j = restK (co q) d N (co p) k j) ∧ rs.length ≤ N - k + d ∧ (∀ j, j < N - k → co qs j = 0) ∧
      (∀ j, conv (co qs) (co q) j + co rs j = co p j) ∧ rs.length ≤ (trim p).length ∧ qs.length ≤ N) (fun st => st.1.len)
    ⟨Hp.le_refl _, [], trim p, 0, PL.nil, nf_nil, hr2.pl.mono hC2.1, nf_trim, Nat.zero_le _, fun j => co_trim, by omega, fun j _ => rfl, fun j => by rw [conv_nil, Rat.zero_add, co_trim], Nat.le_refl _, Nat.zero_le _⟩ ?_
  rintro ⟨s, w, _⟩ h3 ⟨hl3, qs, rs, k, hQ, nQ, hR, nR, hk1, cR, lR, cQ, cc, lR2, lQ⟩
  simp only at hQ hR
  have lenR := hR.len
  refine ifP_dec (fun h4 => ?_) (fun h4 => ?_)
  · simp only [lenR, len1] at h4
    obtain ⟨i, hi⟩ : ∃ i, rs.length = i + d + 1 := ⟨rs.length - (d + 1), by omega⟩
    have hiN : i < N := by omega
    have hz : ∀ j, N - (N - 1 - i) + d ≤ j → restK (co q) d N (co p) k j = 0 := fun j hj => by rw [← cR, co_ge (by omega)]
    have hskip := restK_skip (b := co q) (f := co p) (d := d) (N := N) (k := k) (k' := N - 1 - i) (by omega) (by omega) hz
    have hnew : ∀ j, restK (co q) d N (co p) (N - i) j = stepF (co q) d i (co rs) j := fun j => by
      have e4 : N - i = (N - 1 - i) + 1 := by omega
      have e5 : N - 1 - (N - 1 - i) = i := by omega
      rw [e4, restK, e5]
      unfold stepF
      rw [hskip, hskip, cR, cR]
    have e2 : IntKind.i64.wrap ((s.len : Int) - 1) = ((i + d : Nat) : Int) := by rw [lenR, w64 (by omega)]; omega
    have e3 : IntKind.i64.wrap ((r1.len : Int) - 1) = (d : Int) := by rw [len1, w64 (by omega)]; omega
    have e4 : IntKind.i64.wrap ((s.len : Int) - (r1.len : Int)) = (i : Int) := by rw [lenR, len1, w64 (by omega)]; omega
    simp only [e2, e3, e4]
    refine hR.get (i + d) rfl (by omega) fun u hu bu => ?_
    refine (hpl1.le hl3).get d rfl (by omega) fun v hv bv => ?_
    have ev1 : (trim q)[d]'(by omega) = co q d := by rw [← co_lt (show d < (trim q).length by omega), co_trim]
    have eu1 : rs[i + d]'(by omega) = co rs (i + d) := (co_lt (by omega)).symm
    rw [ev1] at hv bv
    rw [eu1] at hu bu
    refine rQuot_call hu hv bu bv (by omega) (by omega) hb fun t h5 hl5 ht => ?_
    have bt : BR (C + B) (co rs (i + d) / co q d) := bu.div bv (NR.num_ne (y := v) hb)
    obtain ⟨tt, htt⟩ : ∃ tt, tt = co rs (i + d) / co q d := ⟨_, rfl⟩
    rw [← htt] at ht bt
    refine new_rats (xs := [t]) 1 rfl fun a h6 hl6 ha => ?_
    have hone : PL h6 (C + B) ⟨some a, 1, 1⟩ [tt] := PL.one ha (ht.le hl6) bt
    refine rShift_call hone (by simp; omega) (by omega) fun r11 h7 hr11 => ?_
    have hl36 := Hp.le_trans hl5 (Hp.le_trans hl6 hr11.hle)
    have lterm : (trim (List.replicate i 0 ++ [tt])).length ≤ i + 1 := by
      have := trim_len (p := List.replicate i 0 ++ [tt])
      simpa using this
    refine rpAdd_call (hQ.le hl36) hr11.pl (by omega) (by omega) (by omega) (by omega) (C := C + B) (fun j => ?_) (by omega) fun r12 h8 hr12 => ?_
    · rw [co_term]
      by_cases hj : j = i
      · rw [if_pos hj, hj, cQ i (by omega), Rat.zero_add]; exact bt
      · rw [if_neg hj, Rat.add_zero]
        exact BR.co hQ.bound (by omega) j
    have hl38 := Hp.le_trans hl36 hr12.hle
    refine rpMul_call (hr11.pl.le hr12.hle) ((hpl1.le hl3).le hl38) (by omega) (by omega) (by omega) (by omega) (C := C + B + B) (fun k n _ => ?_) (by omega) fun r13 h9 hl9 hr13 => ?_
    · -- a partial sum has at most one summand
      unfold Pq.part
      have bq := fun j => BR.co (hpl1.bound) hB.1 j
      have hzero : BR (C + B + B) 0 := BR_zero.mono (by omega)
      by_cases hn : i ≤ n ∧ n - i < k
      · rw [sm_one (k := n - i) hn.2 fun s hs hs2 => ?_]
        · rw [if_pos (by omega), co_term, if_pos (by omega)]
          exact ((bq (n - i)).mul bt).mono (by omega)
        · split
          · rw [co_term, if_neg (by omega), Rat.mul_zero]
          · rfl
      · rw [sm_zeros fun s hs => ?_]
        · exact hzero
        · split
          · rw [co_term, if_neg (by omega), Rat.mul_zero]
          · rfl
    rw [if_neg hq0] at hr13
    have hl39 := Hp.le_trans hl38 hl9
    have cM : ∀ j, co (trim (mulL (trim (List.replicate i 0 ++ [tt])) (trim q))) j = if i ≤ j then tt * co q (j - i) else 0 := fun j => by
      rw [co_trim, co_mulL, conv_term]
      split
      · rw [co_trim]
      · rfl
    have lM : (trim (mulL (trim (List.replicate i 0 ++ [tt])) (trim q))).length ≤ 100000 := nf_len nf_trim fun n hn => by
      rw [cM]
      split
      · rw [hb2 _ (by omega), Rat.mul_zero]
      · rfl
    have cS : ∀ j, co rs j - co (trim (mulL (trim (List.replicate i 0 ++ [tt])) (trim q))) j = stepF (co q) d i (co rs) j := fun j => by
      rw [cM]
      unfold stepF
      rw [← htt]
      split
      · rfl
      · grind
    refine rpSub_call (hR.le hl39) hr13 (by omega) lM (by omega) (by omega) (C := C) (fun j => by rw [cS, ← hnew]; exact hC _ _ (by omega)) (by omega) fun r14 h10 hr14 => ?_
    have hl310 := Hp.le_trans hl39 hr14.hle
    have cN : ∀ j, co (trim (addL rs (negL (trim (mulL (trim (List.replicate i 0 ++ [tt])) (trim q)))))) j = stepF (co q) d i (co rs) j := fun j => by
      rw [co_trim, co_addL, co_negL, ← cS]; grind
    have lN : (trim (addL rs (negL (trim (mulL (trim (List.replicate i 0 ++ [tt])) (trim q)))))).length ≤ i + d := nf_len nf_trim fun j hj => by
      rw [cN]
      unfold stepF
      rw [if_pos (by omega)]
      by_cases hj2 : j = i + d
      · subst hj2
        rw [Nat.add_sub_cancel_left, Rat.div_mul_cancel hb]; grind
      · rw [co_ge (by omega), hb2 (j - i) (by omega)]; grind
    refine ⟨⟨Hp.le_trans hl3 hl310, _, _, N - i, (hr12.pl.le (Hp.le_trans hl9 hr14.hle)), nf_trim, hr14.pl, nf_trim, by omega, fun j => by rw [cN, hnew], by omega, fun j hj => ?_, fun j => ?_, by omega, ?_⟩, ?_⟩
    · rw [co_trim, co_addL, cQ j (by omega), co_term, if_neg (by omega)]; grind
    · rw [cN, ← cS, cM]
      have e6 : conv (co (trim (addL qs (trim (List.replicate i 0 ++ [tt]))))) (co q) j = conv (co qs) (co q) j + (if i ≤ j then tt * co q (j - i) else 0) := by
        rw [← conv_term (g := co q), conv_comm, conv_comm (f := co qs), conv_comm (f := co (trim (List.replicate i 0 ++ [tt]))), ← conv_add]
        exact conv_congr (fun _ => rfl) fun n => by rw [co_trim, co_addL]
      rw [e6]
      have := cc j
      grind
    · refine nf_len nf_trim fun j hj => ?_
      rw [co_trim, co_addL, co_ge (by omega), co_term, if_neg (by omega)]; grind
    · have := hr14.len
      omega
  · simp only [lenR, len1] at h4
    refine hk _ _ (Hp.le_trans hr1.hle (Hp.le_trans hr2.hle hl3)) ⟨qs, rs, hQ, nQ, hR, nR, by omega, by omega, cc, fun j hj => co_ge (by omega)⟩
theorem ppDivMod_call (hp : PL h A l p) (hq : PL h B m q) (hlen : p.length ≤ 1000) (hlen2 : q.length ≤ 1000) (hB : 1 ≤ B ∧ B ≤ 50000)
    (hC : ∀ k j, trim q ≠ [] → k ≤ (trim p).length + 1 - (trim q).length → BR C (restK (co q) ((trim q).length - 1) ((trim p).length + 1 - (trim q).length) (co p) k j)) (hC2 : A ≤ C ∧ C ≤ 50000)
    (H0 : trim q = [] → ∀ h', h.le h' → KQ (nilS, nilS, 6) h')
    (H : trim q ≠ [] → ∀ y z h' qs rs, h.le h' → PL h' (C + B) y (trim qs) → PL h' C z (trim rs) → qs.length ≤ 1001 → rs.length ≤ 1000 → (∀ j, conv (co qs) (co q) j + co rs j = co p j) → (∀ j, (trim q).length - 1 ≤ j → co rs j = 0) → KQ (y, z, 0) h') :
    callP (F.polynomial_DivMod l m) KQ h := by
  refine callP_of (fun r h' => (trim q = [] ∧ r = (nilS, nilS, 6)) ∨ (trim q ≠ [] ∧ r.2.2 = 0 ∧ ∃ qs rs, PL h' (C + B) r.1 (trim qs) ∧ PL h' C r.2.1 (trim rs) ∧ qs.length ≤ 1001 ∧ rs.length ≤ 1000 ∧ (∀ j, conv (co qs) (co q) j + co rs j = co p j) ∧ (∀ j, (trim q).length - 1 ≤ j → co rs j = 0))) (fun K' hk => ?_)
    fun r h' hl hr => by
      rcases hr with ⟨g1, rfl⟩ | ⟨g1, g2, qs, rs, g3, g4, g5, g6, g7, g8⟩
      · exact H0 g1 h' hl
      · obtain ⟨y, z, e⟩ := r
        simp only at g2
        subst g2
        exact H g1 y z h' qs rs hl g3 g4 g5 g6 g7 g8
  unfold F.polynomial_DivMod
  refine pDegree_call hq (by omega) (by omega) fun h1 hl1 => ?_
  refine ifP_dec (fun h2 => ?_) (fun h2 => ?_)
  · exact hk _ _ hl1 (.inl ⟨List.eq_nil_of_length_eq_zero (by omega), rfl⟩)
  · have hq0 : trim q ≠ [] := fun hh => by rw [hh] at h2; exact h2 (by decide)
    exact pdivide_call (hp.le hl1) (hq.le hl1) hlen hlen2 hB hq0 (fun k j hk => hC k j hq0 hk) hC2 fun y z h' qs rs hl g3 g4 g5 g6 g7 g8 => hk _ _ (Hp.le_trans hl1 hl) (.inr ⟨hq0, rfl, qs, rs, g3, g4, g5, g6, g7, g8⟩)
end
end Den
end

section
/-
  Polynomials: leading coefficient 1, derivatives, bounds.
-/
set_option linter.unusedVariables false
namespace Den
open Go Iv Pq
def lead (p : List Rat) : Rat := co p ((trim p).length - 1)
/-- The multiple with the leading coefficient 1. -/
def monQ (p : List Rat) : List Rat := (trim p).map (((((1 : Int) : Rat)) / lead p) * ·)
theorem one_val : (((1 : Int) : Rat)) = 1 := rfl
theorem lead_ne {p : List Rat} (h : trim p ≠ []) : lead p ≠ 0 := by
  have := nf_top nf_trim h
  rw [co_trim] at this
  exact this
theorem nf_mapc {c : Rat} {p : List Rat} (hc : c ≠ 0) (hp : nf p) : nf (p.map (c * ·)) := by
  rcases hp with rfl | hp
  · exact .inl rfl
  · right
    rw [List.length_map, co_mapc]
    intro hh
    rcases Rat.mul_eq_zero.1 hh with h | h
    · exact hc h
    · exact hp h
theorem inv_ne {a : Rat} (h : a ≠ 0) : (((1 : Int) : Rat)) / a ≠ 0 := fun hh => by
  have e : (((1 : Int) : Rat)) = (((1 : Int) : Rat)) / a * a := (Rat.div_mul_cancel h).symm
  rw [hh, Rat.zero_mul, one_val] at e
  exact absurd e (by decide)
theorem nf_monQ {p : List Rat} : nf (monQ p) := by
  by_cases h : trim p = []
  · unfold monQ; rw [h]; exact .inl rfl
  · exact nf_mapc (inv_ne (lead_ne h)) nf_trim
theorem monQ_len {p : List Rat} : (monQ p).length = (trim p).length := by unfold monQ; simp
theorem co_monQ {p : List Rat} {i : Nat} : co (monQ p) i = (((1 : Int) : Rat)) / lead p * co p i := by unfold monQ; rw [co_mapc, co_trim]
theorem BR_int {n : Nat} (h : n < 4294967296) : BR 1 (((n : Int) : Rat)) := by
  refine ⟨?_, ?_⟩
  · unfold Lt
    show (n : Int).natAbs < W ^ 1
    rw [Int.natAbs_natCast, Nat.pow_one, W_eq]; exact h
  · unfold Lt
    show ((1 : Nat) : Int).natAbs < W ^ 1
    decide
section
variable {h : Hp} {A B C : Nat} {l m : Sl} {p q : List Rat} {K : Sl → Hp → Prop} {KR : TRat → Hp → Prop} {x y : TRat} {u v : Rat}

theorem pMonic_call (hp : PL h A l p) (hlen : p.length ≤ 100000) (hA : A ≤ 100000) (H : ∀ y h', h.le h' → PL h' (A + (1 + A)) y (monQ p) → K y h') : callP (F.polynomial_monic l) K h := by
  refine callP_of (fun y h' => PL h' (A + (1 + A)) y (monQ p)) (fun K' hk => ?_) fun y h' hl hy => H y h' hl hy
  unfold F.polynomial_monic
  have tp := trim_len (p := p)
  refine pTrim_call hp (by omega) (by omega) fun r1 h1 hr1 => ?_
  have len1 := hr1.len
  have hpl := hr1.pl
  refine ifP_eq (fun h2 => ?_) (fun h2 => ?_)
  · have h0 : trim p = [] := List.eq_nil_of_length_eq_zero (by omega)
    refine hk _ _ hr1.hle ?_
    unfold monQ
    rw [h0]; exact PL.nil
  · have h0 : trim p ≠ [] := fun hh => by rw [hh] at len1; exact h2 (by rw [len1]; rfl)
    have hpos : 0 < (trim p).length := List.length_pos_iff.2 h0
    have e : IntKind.i64.wrap ((r1.len : Int) - 1) = (((trim p).length - 1 : Nat) : Int) := by rw [len1, w64 (by omega)]; omega
    refine hpl.get _ e (by omega) fun y hy by_ => ?_
    have ey : (trim p)[(trim p).length - 1]'(by omega) = lead p := by rw [← co_lt (show (trim p).length - 1 < (trim p).length by omega), co_trim]; rfl
    rw [ey] at hy by_
    refine qFromInt_call (by decide) (by decide) fun o h3 hl3 ho => ?_
    refine qDiv_call ho (hy.le hl3) BR_one by_ (by omega) (by omega) (NR.num_ne (y := y) (lead_ne h0)) fun z h4 hl4 hz => ?_
    refine pScale_call ((hpl.le hl3).le hl4) hz (BR_one.div by_ (NR.num_ne (y := y) (lead_ne h0))) (by omega) (by omega) (by omega) fun w h5 hw => ?_
    rw [trim_nf (nf_mapc (inv_ne (lead_ne h0)) nf_trim)] at hw
    exact hk _ _ (Hp.le_trans hr1.hle (Hp.le_trans hl3 (Hp.le_trans hl4 hw.hle))) hw.pl
theorem rMonic_call (hp : PL h A l p) (hlen : p.length ≤ 100000) (hA : A ≤ 100000) (H : ∀ y h', h.le h' → PL h' (A + (1 + A)) y (monQ p) → K y h') : callP (F.ref04_Monic l) K h := by
  refine callP_of (fun y h' => PL h' (A + (1 + A)) y (monQ p)) (fun K' hk => ?_) fun y h' hl hy => H y h' hl hy
  unfold F.ref04_Monic
  have tp := trim_len (p := p)
  refine rTrim_call hp (by omega) (by omega) fun r1 h1 hr1 => ?_
  have len1 := hr1.len
  have hpl := hr1.pl
  refine ifP_eq (fun h2 => ?_) (fun h2 => ?_)
  · have h0 : trim p = [] := List.eq_nil_of_length_eq_zero (by omega)
    refine hk _ _ hr1.hle ?_
    have e : monQ p = trim p := by unfold monQ; rw [h0]; rfl
    rw [e]
    exact hpl.mono (by omega)
  · have h0 : trim p ≠ [] := fun hh => by rw [hh] at len1; exact h2 (by rw [len1]; rfl)
    have hpos : 0 < (trim p).length := List.length_pos_iff.2 h0
    have e : IntKind.i64.wrap ((r1.len : Int) - 1) = (((trim p).length - 1 : Nat) : Int) := by rw [len1, w64 (by omega)]; omega
    refine hpl.get _ e (by omega) fun y hy by_ => ?_
    have ey : (trim p)[(trim p).length - 1]'(by omega) = lead p := by rw [← co_lt (show (trim p).length - 1 < (trim p).length by omega), co_trim]; rfl
    rw [ey] at hy by_
    refine rqFromInt_call (by decide) (by decide) fun o h3 hl3 ho => ?_
    refine rQuot_call ho (hy.le hl3) BR_one by_ (by omega) (by omega) (lead_ne h0) fun z h4 hl4 hz => ?_
    refine rScale_call ((hpl.le hl3).le hl4) hz (BR_one.div by_ (NR.num_ne (y := y) (lead_ne h0))) (by omega) (by omega) (by omega) fun w h5 hw => ?_
    rw [trim_nf (nf_mapc (inv_ne (lead_ne h0)) nf_trim)] at hw
    exact hk _ _ (Hp.le_trans hr1.hle (Hp.le_trans hl3 (Hp.le_trans hl4 hw.hle))) hw.pl

/-! ### Derivatives -/
def derP (p : List Rat) (n : Nat) : List Rat := (List.range n).map fun i => co p (i + 1) * (((i + 1 : Nat) : Int) : Rat)
def derL (p : List Rat) : List Rat := derP p (p.length - 1)
theorem co_derL {i : Nat} : co (derL p) i = der (co p) i := by
  unfold derL derP der
  rw [co_range]
  split
  · rw [Rat.mul_comm]; rfl
  · rw [co_ge (by omega), Rat.mul_zero]
theorem derP_succ {n : Nat} (hn : n + 1 < p.length) : derP p (n + 1) = derP p n ++ [p[n + 1] * (((n + 1 : Nat) : Int) : Rat)] := by
  unfold derP
  rw [List.range_succ, List.map_append]
  simp only [List.map_cons, List.map_nil]
  rw [co_lt hn]
theorem pDerivative_call (hp : PL h A l p) (hlen : p.length ≤ 100000) (hA : A ≤ 100000) (H : ∀ y h', OL h h' (A + 1) y (trim (derL p)) → K y h') : callP (F.polynomial_Derivative l) K h := by
  refine callP_of (fun y h' => OL h h' (A + 1) y (trim (derL p))) (fun K' hk => ?_) fun y h' _ hy => H y h' hy
  unfold F.polynomial_Derivative
  have hl := hp.len
  refine loopP_of (fun st h' => ∃ D, h.le D ∧ ∃ i : Nat, st.2.1 = (i : Int) ∧ i ≤ p.length ∧ OD D h' (A + 1) st.1 (derP p (i - 1))) (fun st => (p.length - st.2.1).toNat)
    ⟨h, Hp.le_refl _, 0, rfl, Nat.zero_le _, OD.nil⟩ ?_
  rintro ⟨s, _, _⟩ h1 ⟨D, hD, i, hi, hi2, ho⟩
  simp only at hi ho
  subst hi
  refine ifP_dec (fun h3 => ?_) (fun h3 => ?_)
  · have hi' : i < p.length := by simp only at h3; omega
    refine joinP_inv (fun s' h' => ∃ D, h.le D ∧ OD D h' (A + 1) s'.1 (derP p i)) ?_ ?_
    · rintro ⟨s', _⟩ h4 ⟨D', hD', ho'⟩
      refine ⟨⟨D', hD', i + 1, ?_, hi', ho'⟩, ?_⟩
      · simp only; rw [w64 (by omega)]; rfl
      · simp only; rw [w64 (by omega)]; omega
    · refine hp.getle i (Hp.le_trans hD ho.dle) rfl hi' fun y hy by_ => ?_
      refine ifP_dec (fun h4 => ?_) (fun h4 => ?_)
      · simp only at h4
        obtain ⟨j, rfl⟩ : ∃ j, i = j + 1 := ⟨i - 1, by omega⟩
        refine ho.call (K1 := fun z D' => NR D' z ((((j + 1 : Nat) : Int)) : Rat)) (qFromInt_call (by simp only; omega) (by simp only; omega) fun z D' _ hz => hz) fun z D1 h5 hl1 ho1 hz => ?_
        refine ho1.call (K1 := fun z D' => NR D' z (p[j + 1] * ((((j + 1 : Nat) : Int)) : Rat))) (qMul_call ((hy.le hD).le hl1) hz by_ (BR_int (by omega)) (by omega) (by omega) fun z D' _ hz => hz) fun z2 D2 h6 hl2 ho2 hz2 => ?_
        refine ho2.app (by unfold derP; simp; omega) hz2 (by_.mul (BR_int (by omega))) fun w h7 hw => ⟨D2, Hp.le_trans hD (Hp.le_trans hl1 hl2), ?_⟩
        rw [derP_succ hi']
        exact hw
      · simp only at h4
        have : i = 0 := by omega
        subst this
        exact ⟨D, hD, ho⟩
  · have hi' : i = p.length := by simp only at h3; omega
    subst hi'
    refine pTrim_call ho.pl (by unfold derP; simp; omega) (by omega) fun y h' hy => hk _ _ (Hp.le_trans hD (Hp.le_trans ho.dle hy.hle)) (hy.base (Hp.le_trans hD ho.dle))
theorem rDerivative_call (hp : PL h A l p) (hlen : p.length ≤ 100000) (hA : A ≤ 100000) (H : ∀ y h', OL h h' (A + 1) y (trim (derL p)) → K y h') : callP (F.ref04_Derivative l) K h := by
  refine callP_of (fun y h' => OL h h' (A + 1) y (trim (derL p))) (fun K' hk => ?_) fun y h' _ hy => H y h' hy
  unfold F.ref04_Derivative
  have hl := hp.len
  refine loopP_of (fun st h' => ∃ D, h.le D ∧ ∃ i : Nat, st.2.1 = ((i + 1 : Nat) : Int) ∧ i ≤ p.length - 1 ∧ OD D h' (A + 1) st.1 (derP p i)) (fun st => (p.length - st.2.1).toNat)
    ⟨h, Hp.le_refl _, 0, rfl, Nat.zero_le _, OD.nil⟩ ?_
  rintro ⟨s, _, _⟩ h1 ⟨D, hD, i, hi, hi2, ho⟩
  simp only at hi ho
  subst hi
  refine ifP_dec (fun h3 => ?_) (fun h3 => ?_)
  · have hi' : i + 1 < p.length := by simp only at h3; omega
    refine hp.getle (i + 1) (Hp.le_trans hD ho.dle) rfl hi' fun y hy by_ => ?_
    refine ho.call (K1 := fun z D' => NR D' z ((((i + 1 : Nat) : Int)) : Rat)) (rqFromInt_call (by simp only; omega) (by simp only; omega) fun z D' _ hz => hz) fun z D1 h5 hl1 ho1 hz => ?_
    refine ho1.call (K1 := fun z D' => NR D' z (p[i + 1] * ((((i + 1 : Nat) : Int)) : Rat))) (rqMul_call ((hy.le hD).le hl1) hz by_ (BR_int (by omega)) (by omega) (by omega) fun z D' _ hz => hz) fun z2 D2 h6 hl2 ho2 hz2 => ?_
    refine ho2.app (by unfold derP; simp; omega) hz2 (by_.mul (BR_int (by omega))) fun w h7 hw => ⟨⟨D2, Hp.le_trans hD (Hp.le_trans hl1 hl2), i + 1, ?_, by omega, ?_⟩, ?_⟩
    · simp only; rw [w64 (by omega)]; rfl
    · rw [derP_succ hi']; exact hw
    · simp only; rw [w64 (by omega)]; omega
  · have hi' : i = p.length - 1 := by simp only at h3; omega
    subst hi'
    refine rTrim_call ho.pl (by unfold derP; simp; omega) (by omega) fun y h' hy => hk _ _ (Hp.le_trans hD (Hp.le_trans ho.dle hy.hle)) (hy.base (Hp.le_trans hD ho.dle))

/-! ### Bounds -/
def absQ (x : Rat) : Rat := if x < 0 then -x else x
def mxS (m x : Rat) : Rat := if m < absQ x then absQ x else m
def bndQ (p : List Rat) : Rat := if (monQ p).length < 2 then (((0 : Int) : Rat)) else ((monQ p).take ((monQ p).length - 1)).foldl mxS (((0 : Int) : Rat)) + (((1 : Int) : Rat))
theorem abs_BR (hv : BR B v) : BR B (absQ v) := by
  unfold absQ; split
  · exact hv.neg
  · exact hv
theorem mx_BR (hu : BR B u) (hv : BR B v) : BR B (mxS u v) := by
  unfold mxS; split
  · exact abs_BR hv
  · exact hu
theorem take_foldl2 {f : Rat → Rat → Rat} {q : Rat} {l : List Rat} {i : Nat} (hi : i < l.length) : (l.take (i + 1)).foldl f q = f ((l.take i).foldl f q) l[i] := take_foldl hi
theorem sign_neg {v : Rat} : v.num.sign < 0 ↔ v < 0 := by
  rw [Int.sign_neg_iff]; exact num_lt
theorem pBound_call (hp : PL h A l p) (hlen : p.length ≤ 100000) (hA : A ≤ 50000) (H : ∀ z h', h.le h' → NR h' z (bndQ p) → KR z h') : callP (F.polynomial_Bound l) KR h := by
  refine callP_of (fun z h' => NR h' z (bndQ p)) (fun K' hk => ?_) fun z h' hl hz => H z h' hl hz
  unfold F.polynomial_Bound
  refine pMonic_call hp hlen (by omega) fun r1 h1 hl1 hr1 => ?_
  obtain ⟨M, hM⟩ : ∃ M, M = monQ p := ⟨_, rfl⟩
  have hb : bndQ p = if M.length < 2 then (((0 : Int) : Rat)) else (M.take (M.length - 1)).foldl mxS (((0 : Int) : Rat)) + (((1 : Int) : Rat)) := by rw [hM]; rfl
  rw [hb] at hk
  rw [← hM] at hr1
  have len1 := hr1.len
  have hcap := hr1.cap
  have lM : M.length ≤ 100000 := by rw [hM, monQ_len]; exact Nat.le_trans trim_len hlen
  refine ifP_dec (fun h2 => ?_) (fun h2 => ?_)
  · refine qFromInt_call (by decide) (by decide) fun z h3 hl3 hz => hk _ _ (Hp.le_trans hl1 hl3) ?_
    rw [if_pos (by omega)]; exact hz
  · rw [if_neg (by omega)] at hk
    refine qFromInt_call (by decide) (by decide) fun z h3 hl3 hz => ?_
    have e : IntKind.i64.wrap ((r1.len : Int) - 1) = ((M.length - 1 : Nat) : Int) := by rw [len1, w64 (by omega)]; omega
    refine slQ_of 0 (M.length - 1) rfl e (Nat.zero_le _) (by omega) ?_
    have hcut := (hr1.le hl3).cut (n := M.length - 1) (by omega)
    have lc : (r1.cut 0 (M.length - 1) 4).len = M.length - 1 := rfl
    obtain ⟨T, hT⟩ : ∃ T, T = M.take (M.length - 1) := ⟨_, rfl⟩
    rw [← hT] at hcut hk
    have lT : T.length = M.length - 1 := by rw [hT, List.length_take]; omega
    have bT := hcut.bound
    have b0 : BR (A + (1 + A)) (((0 : Int) : Rat)) := BR_zero.mono (by omega)
    have bF : ∀ i, BR (A + (1 + A)) ((T.take i).foldl mxS (((0 : Int) : Rat))) := fun i => by
      have key : ∀ (L : List Rat) (m : Rat), BR (A + (1 + A)) m → (∀ v ∈ L, BR (A + (1 + A)) v) → BR (A + (1 + A)) (L.foldl mxS m) := by
        intro L
        induction L with
        | nil => intro m hm _; exact hm
        | cons a L ih => intro m hm hL; exact ih _ (mx_BR hm (hL a (by simp))) fun v hv => hL v (by simp [hv])
      exact key _ _ b0 fun v hv => bT v (List.mem_of_mem_take hv)
    refine loopP_of (fun st h' => h3.le h' ∧ ∃ i : Nat, st.2.1 = (i : Int) ∧ i ≤ T.length ∧ NR h' (q4 st.1) ((T.take i).foldl mxS (((0 : Int) : Rat)))) (fun st => (T.length - st.2.1).toNat)
      ⟨Hp.le_refl _, 0, rfl, Nat.zero_le _, hz⟩ ?_
    rintro ⟨s, _, _⟩ h4 ⟨hl4, i, hi, hi2, hs⟩
    simp only at hi hs
    subst hi
    refine ifP_dec (fun h5 => ?_) (fun h5 => ?_)
    · have hi' : i < T.length := by simp only [lc] at h5; omega
      refine joinP_inv (fun s' h' => h4.le h' ∧ NR h' (q4 s'.1) ((T.take (i + 1)).foldl mxS (((0 : Int) : Rat)))) ?_ ?_
      · rintro ⟨s', _⟩ h6 ⟨hl6, hs'⟩
        refine ⟨⟨Hp.le_trans hl4 hl6, i + 1, ?_, hi', hs'⟩, ?_⟩
        · simp only; rw [w64 (by omega)]; rfl
        · simp only; rw [w64 (by omega)]; omega
      · refine (hcut.le hl4).get i rfl hi' fun y hy by_ => ?_
        refine joinP_inv (fun s' h' => h4.le h' ∧ NR h' (q4 s'.1) (absQ T[i])) ?_ ?_
        · rintro ⟨⟨s1, s2, s3, s4, _⟩, _⟩ h6 ⟨hl6, hs'⟩
          refine qCmp_call hs' (hs.le hl6) (abs_BR by_) (bF i) (by omega) (by omega) fun h7 hl7 => ?_
          refine ifP_dec (fun h8 => ⟨Hp.le_trans hl6 hl7, ?_⟩) (fun h8 => ⟨Hp.le_trans hl6 hl7, ?_⟩)
          · rw [take_foldl2 hi', mxS, if_pos (cmpQ_gt.1 h8)]; exact hs'.le hl7
          · rw [take_foldl2 hi', mxS, if_neg (fun hh => h8 (cmpQ_gt.2 hh))]; exact (hs.le hl6).le hl7
        · refine qSign_call hy by_ (by omega) ?_
          refine ifP_dec (fun h6 => ?_) (fun h6 => ⟨Hp.le_refl _, ?_⟩)
          · refine qNeg_call hy by_ (by omega) fun w h7 hl7 hw => ⟨hl7, ?_⟩
            have : absQ T[i] = - T[i] := by unfold absQ; rw [if_pos (sign_neg.1 h6)]
            rw [this]; exact hw
          · have : absQ T[i] = T[i] := by unfold absQ; rw [if_neg (fun hh => h6 (sign_neg.2 hh))]
            rw [this]; exact hy
    · have hi' : i = T.length := by simp only [lc] at h5; omega
      subst hi'
      rw [List.take_length] at hs
      have bL := bF T.length
      rw [List.take_length] at bL
      refine qFromInt_call (by decide) (by decide) fun o h6 hl6 ho => ?_
      refine qAdd_call (hs.le hl6) ho bL BR_one (by omega) (by omega) fun w h7 hl7 hw => hk _ _ (Hp.le_trans hl1 (Hp.le_trans hl3 (Hp.le_trans hl4 (Hp.le_trans hl6 hl7)))) hw
theorem rAbs_call (hx : NR h x v) (bv : BR B v) (hB : B ≤ 1000000) (H : ∀ z h', h.le h' → NR h' z (absQ v) → KR z h') : callP (F.ref04_abs x) KR h := by
  refine callP_of (fun z h' => NR h' z (absQ v)) (fun K' hk => ?_) fun z h' hl hz => H z h' hl hz
  unfold F.ref04_abs
  refine rqSign_call hx bv hB ?_
  refine ifP_dec (fun h6 => ?_) (fun h6 => ?_)
  · refine rqNeg_call hx bv hB fun w hw => hk _ _ (Hp.le_refl _) ?_
    have : absQ v = - v := by unfold absQ; rw [if_pos (sign_neg.1 h6)]
    rw [this]; exact hw
  · refine hk _ _ (Hp.le_refl _) ?_
    have : absQ v = v := by unfold absQ; rw [if_neg (fun hh => h6 (sign_neg.2 hh))]
    rw [this]; exact hx
theorem rBound_call (hp : PL h A l p) (hlen : p.length ≤ 100000) (hA : A ≤ 50000) (H : ∀ z h', h.le h' → NR h' z (bndQ p) → KR z h') : callP (F.ref04_Bound l) KR h := by
  refine callP_of (fun z h' => NR h' z (bndQ p)) (fun K' hk => ?_) fun z h' hl hz => H z h' hl hz
  unfold F.ref04_Bound
  refine rMonic_call hp hlen (by omega) fun r1 h1 hl1 hr1 => ?_
  obtain ⟨M, hM⟩ : ∃ M, M = monQ p := ⟨_, rfl⟩
  have hb : bndQ p = if M.length < 2 then (((0 : Int) : Rat)) else (M.take (M.length - 1)).foldl mxS (((0 : Int) : Rat)) + (((1 : Int) : Rat)) := by rw [hM]; rfl
  rw [hb] at hk
  rw [← hM] at hr1
  have len1 := hr1.len
  have lM : M.length ≤ 100000 := by rw [hM, monQ_len]; exact Nat.le_trans trim_len hlen
  refine ifP_dec (fun h2 => ?_) (fun h2 => ?_)
  · refine rZero_call fun z h3 hl3 hz => hk _ _ (Hp.le_trans hl1 hl3) ?_
    rw [if_pos (by omega)]; exact hz
  · rw [if_neg (by omega)] at hk
    refine rZero_call fun z h3 hl3 hz => ?_
    have hpl := hr1.le hl3
    obtain ⟨T, hT⟩ : ∃ T, T = M.take (M.length - 1) := ⟨_, rfl⟩
    rw [← hT] at hk
    have lT : T.length = M.length - 1 := by rw [hT, List.length_take]; omega
    have bT : ∀ v ∈ T, BR (A + (1 + A)) v := fun v hv => by rw [hT] at hv; exact hpl.bound v (List.mem_of_mem_take hv)
    have b0 : BR (A + (1 + A)) (((0 : Int) : Rat)) := BR_zero.mono (by omega)
    have bF : ∀ i, BR (A + (1 + A)) ((T.take i).foldl mxS (((0 : Int) : Rat))) := fun i => by
      have key : ∀ (L : List Rat) (m : Rat), BR (A + (1 + A)) m → (∀ v ∈ L, BR (A + (1 + A)) v) → BR (A + (1 + A)) (L.foldl mxS m) := by
        intro L
        induction L with
        | nil => intro m hm _; exact hm
        | cons a L ih => intro m hm hL; exact ih _ (mx_BR hm (hL a (by simp))) fun v hv => hL v (by simp [hv])
      exact key _ _ b0 fun v hv => bT v (List.mem_of_mem_take hv)
    refine loopP_of (fun st h' => h3.le h' ∧ ∃ i : Nat, st.2.1 = (i : Int) ∧ i ≤ T.length ∧ NR h' (q4 st.1) ((T.take i).foldl mxS (((0 : Int) : Rat)))) (fun st => (T.length - st.2.1).toNat)
      ⟨Hp.le_refl _, 0, rfl, Nat.zero_le _, hz⟩ ?_
    rintro ⟨s, _, _⟩ h4 ⟨hl4, i, hi, hi2, hs⟩
    simp only at hi hs
    subst hi
    have e1 : IntKind.i64.wrap ((i : Int) + 1) = ((i + 1 : Nat) : Int) := by rw [w64 (by omega)]; rfl
    refine ifP_dec (fun h5 => ?_) (fun h5 => ?_)
    · have hi' : i < T.length := by simp only [e1] at h5; omega
      have hiM : i < M.length := by omega
      have eT : M[i] = T[i] := by simp only [hT, List.getElem_take]
      refine joinP_inv (fun s' h' => h4.le h' ∧ NR h' (q4 s'.1) ((T.take (i + 1)).foldl mxS (((0 : Int) : Rat)))) ?_ ?_
      · rintro ⟨s', _⟩ h6 ⟨hl6, hs'⟩
        refine ⟨⟨Hp.le_trans hl4 hl6, i + 1, e1, hi', hs'⟩, ?_⟩
        simp only; rw [e1]; omega
      · refine (hpl.le hl4).get i rfl hiM fun y hy by_ => ?_
        rw [eT] at hy by_
        refine rAbs_call hy by_ (by omega) fun w h6 hl6 hw => ?_
        refine rqCmp_call hw (hs.le hl6) (abs_BR by_) (bF i) (by omega) (by omega) fun h7 hl7 => ?_
        have hl67 := Hp.le_trans hl6 hl7
        refine ifP_dec (fun h8 => ?_) (fun h8 => ⟨hl67, ?_⟩)
        · refine (hpl.le (Hp.le_trans hl4 hl67)).get i rfl hiM fun y2 hy2 by2 => ?_
          rw [eT] at hy2 by2
          refine rAbs_call hy2 by2 (by omega) fun w2 h9 hl9 hw2 => ⟨Hp.le_trans hl67 hl9, ?_⟩
          rw [take_foldl2 hi', mxS, if_pos (cmpQ_gt.1 h8)]; exact hw2
        · rw [take_foldl2 hi', mxS, if_neg (fun hh => h8 (cmpQ_gt.2 hh))]; exact (hs.le hl6).le hl7
    · have hi' : i = T.length := by simp only [e1] at h5; omega
      subst hi'
      rw [List.take_length] at hs
      have bL := bF T.length
      rw [List.take_length] at bL
      refine rqFromInt_call (by decide) (by decide) fun o h6 hl6 ho => ?_
      refine rqAdd_call (hs.le hl6) ho bL BR_one (by omega) (by omega) fun w h7 hl7 hw => hk _ _ (Hp.le_trans hl1 (Hp.le_trans hl3 (Hp.le_trans hl4 (Hp.le_trans hl6 hl7)))) hw
end
end Den
end

section
/-
  The statements' guards: short coefficients, copies, comparisons, small examples.
-/
set_option linter.unusedVariables false
namespace Den
open Go Iv Pq
/-- l is any value of the type. -/
def AQ (h : Hp) (l : Sl) : Prop := ∃ xs, RdQ h l xs ∧ (∀ x ∈ xs, AR h x) ∧ l.len ≤ l.cap
theorem AQ.le {h h' : Hp} {l : Sl} (ha : AQ h l) (hl : h.le h') : AQ h' l := by
  obtain ⟨xs, h1, h2, h3⟩ := ha
  exact ⟨xs, h1.le hl, fun x hx => (h2 x hx).le hl, h3⟩
theorem NI.ai {h : Hp} {a : TInt} {n : Int} (hn : NI h a n) : AI h a := ⟨_, hn.1, ok_dg _⟩
theorem NR.ar {h : Hp} {x : TRat} {q : Rat} (hx : NR h x q) : AR h x := ⟨hx.1.ai, hx.2.ai⟩
theorem NR.lens {h : Hp} {x : TRat} {q : Rat} {B : Nat} (hx : NR h x q) (hb : BR B q) : x.num.mag.len ≤ B ∧ x.den.mag.len ≤ B := by
  have e1 := hx.1.1.len
  have e2 := hx.2.1.len
  have e3 := dg_len.2 hb.1
  have e4 := dg_len.2 hb.2
  omega
section
variable {h : Hp} {A B : Nat} {l m : Sl} {p q : List Rat} {K : Sl → Hp → Prop} {Kb : Bool → Hp → Prop} {x : TRat}
theorem rShort_call (hx : AR h x) (H1 : ∀ v h', h.le h' → NR h x v → BR 4 v → Kb true h') (H0 : ∀ h', h.le h' → Kb false h') : callP (F.ref04_Short x) Kb h := by
  refine callP_of (fun b h' => (b = true ∧ ∃ v, NR h x v ∧ BR 4 v) ∨ b = false) (fun K' hk => ?_) fun b h' hl hv => by
    rcases hv with ⟨rfl, v, h1, h2⟩ | rfl
    · exact H1 v h' hl h1 h2
    · exact H0 h' hl
  unfold F.ref04_Short
  refine ifP_dec (fun h1 => ifP_dec (fun h2 => ?_) (fun h2 => hk _ _ (Hp.le_refl _) (.inr rfl))) (fun h1 => hk _ _ (Hp.le_refl _) (.inr rfl))
  refine rqValid_call hx (by omega) (by omega) (fun v h3 hl3 hv => ifP_true rfl ?_) (fun h3 hl3 _ => ifP_false rfl (hk _ _ hl3 (.inr rfl)))
  have hb : BR 4 v := NR_BR hv (by omega) (by omega)
  refine rBits_call (hv.1.le hl3) (hb.1.ok (by decide)) (ifP_dec (fun h4 => ?_) (fun h4 => hk _ _ hl3 (.inr rfl)))
  refine rBits_call (hv.2.le hl3) (hb.2.ok (by decide)) (hk _ _ hl3 ?_)
  rcases Bool.eq_false_or_eq_true (decide (((bl (((v.den : Nat) : Int)).natAbs : Nat) : Int) ≤ 120)) with h5 | h5
  · exact .inl ⟨h5, v, hv, hb⟩
  · exact .inr h5
theorem rSmall_call {n : Nat} (ha : AQ h l) (hn : n ≤ 100) (H1 : ∀ vs h', h.le h' → PL h 4 l vs → vs.length ≤ n → Kb true h') (H0 : ∀ h', h.le h' → Kb false h') : callP (F.ref04_Small l (n : Int)) Kb h := by
  refine callP_of (fun b h' => (b = true ∧ ∃ vs, PL h 4 l vs ∧ vs.length ≤ n) ∨ b = false) (fun K' hk => ?_) fun b h' hl hv => by
    rcases hv with ⟨rfl, v, h1, h2⟩ | rfl
    · exact H1 v h' hl h1 h2
    · exact H0 h' hl
  unfold F.ref04_Small
  obtain ⟨xs, h1, h2, h3⟩ := ha
  have hl := RdQ.len h1
  refine ifP_dec (fun h4 => hk _ _ (Hp.le_refl _) (.inr rfl)) (fun h4 => ?_)
  refine loopP_of (fun st h' => h.le h' ∧ ∃ i : Nat, st.1 = (i : Int) ∧ i ≤ xs.length ∧ ∃ vs, QL h 4 (xs.take i) vs) (fun st => (xs.length - st.1).toNat) ⟨Hp.le_refl _, 0, rfl, Nat.zero_le _, [], rfl, fun k g1 _ => by simp at g1⟩ ?_
  rintro ⟨_, _⟩ h5 ⟨hl5, i, hi, hi2, vs, hq⟩
  simp only at hi
  subst hi
  refine ifP_dec (fun h6 => ?_) (fun h6 => ?_)
  · simp only at h6
    have hi' : i < xs.length := by omega
    refine rd_rat i (h1.le hl5) rfl hi' ?_
    refine callP_sub hl5 (K1 := fun b _ => (b = true ∧ ∃ v, NR h xs[i] v ∧ BR 4 v) ∨ b = false) (rShort_call (h2 _ (List.getElem_mem hi')) (fun v h' _ hv hb => .inl ⟨rfl, v, hv, hb⟩) (fun h' _ => .inr rfl)) fun b D' h7 hl7 hl8 hfr hb => ?_
    have hh7 : h.le h7 := Hp.le_trans hl7 hl8
    rcases hb with ⟨rfl, v, hv, hb⟩ | rfl
    · refine ifP_false rfl ⟨⟨hh7, i + 1, ?_, hi', vs ++ [v], ?_⟩, ?_⟩
      · simp only; rw [w64 (by omega)]; rfl
      · rw [List.take_succ_eq_append_getElem hi']
        exact QL.snoc hq hv hb
      · simp only; rw [w64 (by omega)]; omega
    · exact ifP_true rfl (hk _ _ hh7 (.inr rfl))
  · simp only at h6
    have hi' : i = xs.length := by omega
    subst hi'
    rw [List.take_length] at hq
    exact hk _ _ hl5 (.inl ⟨rfl, vs, ⟨xs, h1, hq, h3⟩, by rw [← hq.1]; omega⟩)
/-- The cell of a slice. -/
def slc (s : Sl) : Value := .slice s.a s.len s.cap
theorem few4_call {ss : List Sl} (hr : Rd h 1 l (ss.map slc)) (ha : ∀ s ∈ ss, AQ h s) (hlen : ss.length ≤ 100) (H1 : ∀ h', h.le h' → (∀ s ∈ ss, ∃ vs, PL h 4 s vs ∧ vs.length ≤ 8) → Kb true h') (H0 : ∀ h', h.le h' → Kb false h') : callP (F.law04_few l) Kb h := by
  refine callP_of (fun b h' => (b = true ∧ ∀ s ∈ ss, ∃ vs, PL h 4 s vs ∧ vs.length ≤ 8) ∨ b = false) (fun K' hk => ?_) fun b h' hl hv => by
    rcases hv with ⟨rfl, h1⟩ | rfl
    · exact H1 h' hl h1
    · exact H0 h' hl
  unfold F.law04_few
  have hl : l.len = ss.length := by have := hr.1; simp at this; omega
  refine loopP_of (fun st h' => h.le h' ∧ ∃ i : Nat, st.1 = (i : Int) ∧ i ≤ ss.length ∧ ∀ s ∈ ss.take i, ∃ vs, PL h 4 s vs ∧ vs.length ≤ 8) (fun st => (ss.length - st.1).toNat) ⟨Hp.le_refl _, 0, rfl, Nat.zero_le _, fun s hs => by simp at hs⟩ ?_
  rintro ⟨_, _⟩ h5 ⟨hl5, i, hi, hi2, hall⟩
  simp only at hi
  subst hi
  refine ifP_dec (fun h6 => ?_) (fun h6 => ?_)
  · simp only at h6
    have hi' : i < ss.length := by omega
    refine rd_one i (hr.le hl5) rfl (v := slc ss[i]) (by rw [List.getElem?_map, List.getElem?_eq_getElem hi']; rfl) fun a hc => ⟨ss[i], hc, ?_⟩
    refine callP_sub hl5 (K1 := fun b _ => (b = true ∧ ∃ vs, PL h 4 ss[i] vs ∧ vs.length ≤ 8) ∨ b = false) (rSmall_call (n := 8) (ha _ (List.getElem_mem hi')) (by decide) (fun vs h' _ hv hb => .inl ⟨rfl, vs, hv, hb⟩) (fun h' _ => .inr rfl)) fun b D' h7 hl7 hl8 hfr hb => ?_
    have hh7 : h.le h7 := Hp.le_trans hl7 hl8
    rcases hb with ⟨rfl, hv⟩ | rfl
    · refine ifP_false rfl ⟨⟨hh7, i + 1, ?_, hi', ?_⟩, ?_⟩
      · simp only; rw [w64 (by omega)]; rfl
      · rw [List.take_succ_eq_append_getElem hi']
        intro s hs
        rcases List.mem_append.1 hs with hs | hs
        · exact hall s hs
        · rw [List.mem_singleton.1 hs]; exact hv
      · simp only; rw [w64 (by omega)]; omega
    · exact ifP_true rfl (hk _ _ hh7 (.inr rfl))
  · simp only at h6
    have hi' : i = ss.length := by omega
    subst hi'
    rw [List.take_length] at hall
    exact hk _ _ hl5 (.inl ⟨rfl, hall⟩)
theorem own4_call (hp : PL h B l p) (hlen : p.length ≤ 1000000) (H : ∀ y h', h.le h' → PL h' B y p → K y h') : callP (F.law04_own l) K h := by
  refine callP_of (fun y h' => PL h' B y p) (fun K' hk => ?_) fun y h' hl hy => H y h' hl hy
  unfold F.law04_own
  intro b el hb
  obtain ⟨xs, g1, g2, g3⟩ := hp
  refine ⟨xs.flatMap qc, cellsAtO_le (Hp.le_ins hb) (by rw [g1.1]; exact g1.2), ?_⟩
  refine app_copy hb (by rw [RdQ.len g1]) (by rw [g2.1]; exact hlen) fun y h' hy => ?_
  exact hk _ _ hy.1 ⟨xs, hy.rd, g2.le hy.1, hy.2.2.1⟩
theorem good4_call (hp : PL h A l p) (hq : PL h B m q) (hlen : p.length ≤ 100000) (hlen2 : q.length ≤ 100000) (hA : 1 ≤ A ∧ A ≤ 300000) (hB : 1 ≤ B ∧ B ≤ 300000)
    (H : ∀ h', h.le h' → Kb (decide (p.length = q.length ∧ trim p = trim q)) h') : callP (F.law04_good l m) Kb h := by
  refine callP_of (fun b h' => b = decide (p.length = q.length ∧ trim p = trim q)) (fun K' hk => ?_) fun b h' hl hb => by subst hb; exact H h' hl
  unfold F.law04_good
  have hl := hp.len
  refine loopP_of (fun st h' => h.le h' ∧ ∃ i : Nat, st.1 = (i : Int) ∧ i ≤ p.length) (fun st => (p.length - st.1).toNat) ⟨Hp.le_refl _, 0, rfl, Nat.zero_le _⟩ ?_
  rintro ⟨_, _⟩ h5 ⟨hl5, i, hi, hi2⟩
  simp only at hi
  subst hi
  refine ifP_dec (fun h6 => ?_) (fun h6 => ?_)
  · simp only at h6
    have hi' : i < p.length := by omega
    refine (hp.le hl5).get i rfl hi' fun y hy by_ => ?_
    have hl2 := hy.lens by_
    refine rqValid_call (x := y) hy.ar (by omega) (by omega) (fun v h7 hl7 _ => ifP_false rfl ⟨⟨Hp.le_trans hl5 hl7, i + 1, ?_, hi'⟩, ?_⟩) (fun h7 _ hn => absurd ⟨_, hy⟩ hn)
    · simp only; rw [w64 (by omega)]; rfl
    · simp only; rw [w64 (by omega)]; omega
  · exact rpEqual_call (hp.le hl5) (hq.le hl5) hlen hlen2 hA hB fun h' hl' => hk _ _ (Hp.le_trans hl5 hl') rfl

/-! ### Small examples -/
def zc (z : Int × Int) : List Value := [.int .i64 z.1, .int .i64 z.2]
theorem zc_len (z : Int × Int) : (zc z).length = 2 := rfl
def qz (z : Int × Int) : Rat := Rat.divInt z.1 z.2
theorem qz_BR {z : Int × Int} (h1 : z.1.natAbs < 4294967296) (h2 : z.2.natAbs < 4294967296) (h3 : z.2 ≠ 0) : BR 1 (qz z) := BR.divInt (by unfold Lt; rw [Nat.pow_one, W_eq]; exact h1) (by unfold Lt; rw [Nat.pow_one, W_eq]; exact h2) h3
theorem rats4_call {zs : List (Int × Int)} (hr : Rd h 2 l (zs.flatMap zc)) (hlen : zs.length ≤ 1000) (hz : ∀ z ∈ zs, z.1.natAbs < 4294967296 ∧ z.2.natAbs < 4294967296 ∧ z.2 ≠ 0) (H : ∀ y h', h.le h' → PL h' 1 y (zs.map qz) → K y h') : callP (F.law04_rats l) K h := by
  refine callP_of (fun y h' => PL h' 1 y (zs.map qz)) (fun K' hk => ?_) fun y h' hl hy => H y h' hl hy
  unfold F.law04_rats
  have hl : l.len = zs.length := by have := hr.1; rw [flat_len zc_len] at this; omega
  refine loopP_of (fun st h' => ∃ D, h.le D ∧ ∃ i : Nat, st.2.1 = (i : Int) ∧ i ≤ zs.length ∧ OD D h' 1 st.1 ((zs.take i).map qz)) (fun st => (zs.length - st.2.1).toNat)
    ⟨h, Hp.le_refl _, 0, rfl, Nat.zero_le _, OD.nil⟩ ?_
  rintro ⟨s, _, _⟩ h1 ⟨D, hD, i, hi, hi2, ho⟩
  simp only at hi ho
  subst hi
  refine ifP_dec (fun h3 => ?_) (fun h3 => ?_)
  · have hi' : i < zs.length := by simp only at h3; omega
    refine idxP_of i (hr.le (Hp.le_trans hD ho.dle)) rfl (by omega) (by decide) fun a hcell => ?_
    have g : ∀ j v, j < 2 → (zc zs[i])[j]? = some v → h1.cell (a.add j) = some v := fun j v hj hv => hcell j v (by rw [flat_get zc_len hi' hj]; exact hv)
    refine ⟨zs[i].1, g 0 _ (by decide) rfl, zs[i].2, g 1 _ (by decide) rfl, ?_⟩
    obtain ⟨b1, b2, b3⟩ := hz _ (List.getElem_mem hi')
    refine ho.call (K1 := fun z D' => NR D' z (qz zs[i])) (rqFrac_call (by omega) (by omega) (by omega) (by omega) b3 fun z D' _ hz => hz) fun z D1 h5 hl1 ho1 hz1 => ?_
    refine ho1.app (by simp; omega) hz1 (qz_BR b1 b2 b3) fun w h7 hw => ⟨⟨D1, Hp.le_trans hD hl1, i + 1, ?_, hi', ?_⟩, ?_⟩
    · simp only; rw [w64 (by omega)]; rfl
    · rw [List.take_succ_eq_append_getElem hi', List.map_append]; exact hw
    · simp only; rw [w64 (by omega)]; omega
  · have hi' : i = zs.length := by simp only at h3; omega
    subst hi'
    rw [List.take_length] at ho
    exact hk _ _ (Hp.le_trans hD ho.dle) ho.pl
end
end Den
end

section
/-
  Lists of rational numbers as arguments.
-/
set_option linter.unusedVariables false
namespace Den
open Go Iv Go.Proofs
open Go.ChangeShapes Go.WideShapes Go.ChangeAt Go.RowKit
section
variable {H : Type} {enc : TypeId × Value → H} {w : World} {s : Sl}
theorem qc_of : ∀ {css : List (List Value)}, (∀ c ∈ css, c.length = 4 ∧ Okt enc Tryz.prog w 39 c) → ∃ xs : List TRat, css.flatten = xs.flatMap qc ∧ ∀ x ∈ xs, AR (hpW w) x
  | [], _ => ⟨[], rfl, fun d hd => by simp at hd⟩
  | c :: r, h => by
    obtain ⟨l, h1, h2⟩ := qc_of (css := r) fun x hx => h x (List.mem_cons_of_mem _ hx)
    obtain ⟨x, hx, _, ax⟩ := okt_R (h c (by simp)).2
    refine ⟨x :: l, ?_, fun d hd => ?_⟩
    · rw [List.flatten_cons, h1, hx]; rfl
    · rcases List.mem_cons.1 hd with rfl | hd
      · exact ax
      · exact h2 d hd
theorem by_R : Tryz.prog.bytesOf 39 = 64 := by kernel_rfl
theorem okt_Q (h : Okt enc Tryz.prog w 22 [Lf.sl.up s]) : AQ (hpW w) s ∧ s.len ≤ 35184372088832 := by
  obtain ⟨s', hs, h1, h2, css, h3, h4, h5⟩ := h.slice Tryz.underlying22
  have e : s = s' := by
    simp only [List.cons.injEq, and_true] at hs
    exact Lf.up_inj hs
  subst e
  rw [c_R] at h4 h5
  rw [by_R, show reachBytes = 140737488351232 from rfl] at h2
  obtain ⟨xs, hx, ax⟩ := qc_of h4
  rw [hx] at h5
  exact ⟨⟨xs, h5, ax, h1⟩, by omega⟩
end
end Den
end

section
/-
  Polynomials: primitive lists of integers (program and reference).
-/
set_option linter.unusedVariables false
namespace Den
open Go Iv Pq
/-- The cells of an integer. -/
def nc (x : TInt) : List Value := [.bool x.neg, .slice x.mag.a x.mag.len x.mag.cap]
theorem nc_len (x : TInt) : (nc x).length = 2 := rfl
theorem nc_leaf (x : TInt) : (nc x).all Value.leaf = true := rfl
def NL (h : Hp) (B : Nat) (xs : List TInt) (us : List Int) : Prop := xs.length = us.length ∧ ∀ k (h1 : k < xs.length) (h2 : k < us.length), NI h xs[k] us[k] ∧ Lt B us[k]
theorem NL.le {h h' : Hp} {B : Nat} {xs : List TInt} {us : List Int} (hq : NL h B xs us) (hl : h.le h') : NL h' B xs us := ⟨hq.1, fun k h1 h2 => ⟨(hq.2 k h1 h2).1.le hl, (hq.2 k h1 h2).2⟩⟩
theorem NL.set {h : Hp} {B : Nat} {xs : List TInt} {us : List Int} {x : TInt} {v : Int} {k : Nat} (hq : NL h B xs us) (h1 : NI h x v) (h2 : Lt B v) : NL h B (xs.set k x) (us.set k v) := by
  refine ⟨by simp [hq.1], fun j j1 j2 => ?_⟩
  rw [List.getElem_set, List.getElem_set]
  by_cases hj : k = j
  · rw [if_pos hj, if_pos hj]; exact ⟨h1, h2⟩
  · rw [if_neg hj, if_neg hj]
    exact hq.2 j (by simpa using j1) (by simpa using j2)
theorem NL.snoc {h : Hp} {B : Nat} {xs : List TInt} {us : List Int} {x : TInt} {v : Int} (hq : NL h B xs us) (h1 : NI h x v) (h2 : Lt B v) : NL h B (xs ++ [x]) (us ++ [v]) := by
  refine ⟨by simp [hq.1], fun k k1 k2 => ?_⟩
  have hl := hq.1
  rcases Nat.lt_or_ge k xs.length with h3 | h3
  · rw [List.getElem_append_left h3, List.getElem_append_left (by omega)]
    exact hq.2 k h3 (by omega)
  · have h4 : k = xs.length := by simp at k1; omega
    subst h4
    rw [List.getElem_append_right (Nat.le_refl _), List.getElem_append_right (by omega)]
    simp only [Nat.sub_self, List.getElem_cons_zero]
    have : xs.length - us.length = 0 := by omega
    simp only [this, List.getElem_cons_zero]
    exact ⟨h1, h2⟩
/-- l holds the integers us. -/
def IL (h : Hp) (B : Nat) (l : Sl) (us : List Int) : Prop := ∃ xs, Rd h 2 l (xs.flatMap nc) ∧ NL h B xs us
def OI (D h : Hp) (B : Nat) (l : Sl) (us : List Int) : Prop := ∃ xs, Own D h 2 l (xs.flatMap nc) ∧ NL D B xs us
theorem rd_int {h : Hp} {l : Sl} {xs : List TInt} {i : Int} {K : Bool → Sl → Prop} (k : Nat) (hr : Rd h 2 l (xs.flatMap nc)) (hi : i = k) (hk : k < xs.length) (H : K xs[k].neg xs[k].mag) :
    idxP l i 2 fun a => ldL .bool (a.add 0) (fun x0 => ldL .sl (a.add 1) (fun x1 => K x0 x1) h) h := by
  have hl : l.len = xs.length := by have := hr.1; rw [flat_len nc_len] at this; omega
  refine idxP_of k hr hi (by omega) (by decide) fun a ha => ?_
  have g : ∀ j v, j < 2 → (nc xs[k])[j]? = some v → h.cell (a.add j) = some v := fun j v hj hv => ha j v (by rw [flat_get nc_len hk hj]; exact hv)
  exact ⟨_, g 0 _ (by decide) rfl, _, g 1 _ (by decide) rfl, H⟩
section
variable {D h h' : Hp} {A B : Nat} {l m : Sl} {us vs : List Int} {K : Sl → Hp → Prop}
theorem IL.le (hp : IL h B l us) (hl : h.le h') : IL h' B l us := by obtain ⟨xs, h1, h2⟩ := hp; exact ⟨xs, h1.le hl, h2.le hl⟩
theorem IL.len (hp : IL h B l us) : l.len = us.length := by
  obtain ⟨xs, h1, h2⟩ := hp
  have := h1.1
  rw [flat_len nc_len, h2.1] at this; omega
theorem IL.get {i : Int} {K : Bool → Sl → Prop} (k : Nat) (hp : IL h B l us) (hi : i = k) (hk : k < us.length) (H : ∀ x : TInt, NI h x us[k] → Lt B us[k] → K x.neg x.mag) :
    idxP l i 2 fun a => ldL .bool (a.add 0) (fun x0 => ldL .sl (a.add 1) (fun x1 => K x0 x1) h) h := by
  obtain ⟨xs, h1, h2⟩ := hp
  have hk' : k < xs.length := by rw [h2.1]; exact hk
  have := h2.2 k hk' hk
  exact rd_int k h1 hi hk' (H _ this.1 this.2)
theorem OI.il (ho : OI D h B l us) : IL h B l us := by obtain ⟨xs, h1, h2⟩ := ho; exact ⟨xs, h1.rd, h2.le h1.1⟩
theorem OI.dle (ho : OI D h B l us) : D.le h := by obtain ⟨xs, h1, h2⟩ := ho; exact h1.1
theorem OI.len (ho : OI D h B l us) : l.len = us.length := ho.il.len
theorem OI.nil : OI h h B nilS [] := ⟨[], Own.nil (Hp.le_refl _), ⟨rfl, fun k h1 _ => by simp at h1⟩⟩
theorem OI.get {i : Int} {K : Bool → Sl → Prop} (k : Nat) (hp : OI D h B l us) (hi : i = k) (hk : k < us.length) (H : ∀ x : TInt, NI D x us[k] → Lt B us[k] → K x.neg x.mag) :
    idxP l i 2 fun a => ldL .bool (a.add 0) (fun x0 => ldL .sl (a.add 1) (fun x1 => K x0 x1) h) h := by
  obtain ⟨xs, h1, h2⟩ := hp
  have hk' : k < xs.length := by rw [h2.1]; exact hk
  have := h2.2 k hk' hk
  exact rd_int k h1.rd hi hk' (H _ this.1 this.2)
theorem OI.set {i : Int} {K : Hp → Prop} {x : TInt} {v : Int} (k : Nat) (hp : OI D h B l us) (hi : i = k) (hk : k < us.length) (hx : NI D x v) (bx : Lt B v) (H : ∀ h', OI D h' B l (us.set k v) → K h') :
    idxP l i 2 fun a => stP a [.bool x.neg, .slice x.mag.a x.mag.len x.mag.cap] K h := by
  obtain ⟨xs, h1, h2⟩ := hp
  exact set_own nc_len (by decide) k h1 hi (by rw [h2.1]; exact hk) (nc_leaf x) fun h' g1 g2 => H h' ⟨_, g1, h2.set hx bx⟩
theorem OI.call {α : Type} {G : (α → Hp → Prop) → Hp → Prop} {K1 K : α → Hp → Prop} (hp : OI D h B l us) (H : callP G K1 D)
    (k : ∀ v D' h', D.le D' → OI D' h' B l us → K1 v D' → K v h') : callP G K h := by
  obtain ⟨xs, h1, h2⟩ := hp
  exact h1.call H fun v D' h' g1 g2 g3 => k v D' h' g1 ⟨_, g2, h2.le g1⟩ g3
theorem OI.app {Ks : Sl → Hp → Prop} {x : TInt} {v : Int} (hp : OI D h B l us) (hlen : us.length ≤ 1000000) (hx : NI D x v) (bx : Lt B v) (H : ∀ y h', OI D h' B y (us ++ [v]) → Ks y h') :
    appP 2 32 [.bool false, .slice nilS.a nilS.len nilS.cap] l 1 [.bool x.neg, .slice x.mag.a x.mag.len x.mag.cap] Ks h := by
  have hl := hp.len
  obtain ⟨xs, h1, h2⟩ := hp
  refine app_own h1 (n := 1) (new := nc x) rfl rfl rfl (by omega) (by omega) fun y h' hy hyl => H y h' ⟨xs ++ [x], ?_, h2.snoc hx bx⟩
  rw [List.flatMap_append]
  simp only [List.flatMap_cons, List.flatMap_nil, List.append_nil]
  exact hy
end

/-! ### Plain facts -/
theorem lcmD_lt {k : Nat} : ∀ {l : List Rat} {m j : Nat}, (∀ x ∈ l, x.den < W ^ k) → m < W ^ j → lcmD m l < W ^ (j + l.length * k)
  | [], m, j, _, h => by simpa [lcmD] using h
  | x :: r, m, j, hl, h => by
    have h1 : m * (x.den / Nat.gcd m x.den) < W ^ (j + k) := by
      rw [Nat.pow_add]
      refine Nat.lt_of_le_of_lt (Nat.mul_le_mul_left _ (Nat.div_le_self _ _)) ?_
      exact Nat.mul_lt_mul'' h (hl x (by simp))
    have h2 := lcmD_lt (l := r) (m := m * (x.den / Nat.gcd m x.den)) (j := j + k) (fun y hy => hl y (by simp [hy])) h1
    have e : j + (x :: r).length * k = j + k + r.length * k := by rw [List.length_cons, Nat.add_mul]; omega
    rw [e]; exact h2
theorem take_lcm {M : List Rat} {i : Nat} (hi : i < M.length) : lcmD 1 (M.take (i + 1)) = lcmD 1 (M.take i) * (M[i].den / Nat.gcd (lcmD 1 (M.take i)) M[i].den) := by
  rw [List.take_succ_eq_append_getElem hi, lcmD_append]
theorem ups_get {L i : Nat} {M : List Rat} (hi : i < M.length) : (ups L M)[i]'(by unfold ups; simpa using hi) = M[i].num * ((L / M[i].den : Nat) : Int) := by simp [ups]
theorem ups_len {L : Nat} {M : List Rat} : (ups L M).length = M.length := by simp [ups]
theorem ndiv {a b : Nat} : ((a : Int)) / ((b : Int)) = ((a / b : Nat) : Int) := rfl
theorem gcd_zero_pos {o : List Int} {x : Int} (hx : x ∈ o) (h0 : x ≠ 0) : 0 < gcdL 0 o := by
  rcases Nat.eq_zero_or_pos (gcdL 0 o) with h1 | h1
  · have := (gcdL_dvd (l := o) (g := 0)).2 x hx
    rw [h1] at this
    exact absurd (Int.zero_dvd.1 this) h0
  · exact h1
theorem getLast_get {α : Type} {o : List α} (h : o ≠ []) : o.getLast h = o[o.length - 1]'(by have := List.length_pos_iff.2 h; omega) := List.getLast_eq_getElem h
abbrev t2 (s : Bool × Sl × Unit) : TInt := ⟨s.1, s.2.1⟩
end Den
end

section
/-
  Polynomials: the primitive multiple (program).
-/
set_option linter.unusedVariables false
namespace Den
open Go Iv Pq
def zI : TInt := ⟨false, nilS⟩
theorem repl_nc {n : Nat} : repl n (nc zI) = (List.replicate n zI).flatMap nc := by
  unfold repl
  induction n with
  | zero => rfl
  | succ n ih => rw [List.replicate_succ, List.replicate_succ, List.flatten_cons, List.flatMap_cons, ih]
/-- The numbers, the first i of them divided by d. -/
def divs (d : Int) (o : List Int) (i : Nat) : List Int := (o.take i).map (· / d) ++ o.drop i
theorem divs_len {d : Int} {o : List Int} {i : Nat} : (divs d o i).length = o.length := by unfold divs; simp; omega
theorem divs_get {d : Int} {o : List Int} {i : Nat} (hi : i < o.length) : (divs d o i)[i]'(by rw [divs_len]; exact hi) = o[i] := by
  unfold divs
  rw [List.getElem_append_right (by simp; omega)]
  simp only [List.length_map, List.length_take]
  rw [List.getElem_drop]
  congr 1
  omega
theorem divs_succ {d : Int} {o : List Int} {i : Nat} (hi : i < o.length) : (divs d o i).set i (o[i] / d) = divs d o (i + 1) := by
  unfold divs
  have hl : ((o.take i).map (· / d)).length = i := by simp; omega
  rw [List.set_append_right _ _ (by omega), hl, Nat.sub_self, List.drop_eq_getElem_cons hi, List.set_cons_zero, List.take_succ_eq_append_getElem hi, List.map_append]
  simp
theorem divs_zero {d : Int} {o : List Int} : divs d o 0 = o := by unfold divs; simp
theorem divs_all {d : Int} {o : List Int} : divs d o o.length = o.map (· / d) := by unfold divs; simp
theorem mon_last {p : List Rat} (h : trim p ≠ []) : ∃ hn : (monQ p).length - 1 < (monQ p).length, (monQ p)[(monQ p).length - 1] = 1 := by
  have hpos : 0 < (trim p).length := List.length_pos_iff.2 h
  have hl := monQ_len (p := p)
  refine ⟨by omega, ?_⟩
  rw [← co_lt (show (monQ p).length - 1 < (monQ p).length by omega), co_monQ, hl]
  show (((1 : Int) : Rat)) / lead p * lead p = 1
  rw [Rat.div_mul_cancel (lead_ne h)]; rfl
section
variable {h : Hp} {A : Nat} {l : Sl} {p : List Rat} {K : Sl → Hp → Prop}

theorem ppPrim_call (hp : PL h A l p) (hlen : p.length ≤ 100) (hA : 1 ≤ A ∧ A ≤ 1000) (H : ∀ y h' us, h.le h' → IL h' 300000 y us → us.length = (trim p).length → (trim p ≠ [] → Prim us (trim p)) → K y h') : callP (F.polynomial_Primitive l) K h := by
  refine callP_of (fun y h' => ∃ us, IL h' 300000 y us ∧ us.length = (trim p).length ∧ (trim p ≠ [] → Prim us (trim p))) (fun K' hk => ?_) fun y h' hl ⟨us, g1, g2, g3⟩ => H y h' us hl g1 g2 g3
  unfold F.polynomial_Primitive
  refine pMonic_call hp (by omega) (by omega) fun r1 h1 hl1 hr1 => ?_
  obtain ⟨M, hM⟩ : ∃ M, M = monQ p := ⟨_, rfl⟩
  have lM : M.length = (trim p).length := by rw [hM, monQ_len]
  have lM2 : M.length ≤ 100 := by rw [lM]; exact Nat.le_trans trim_len hlen
  have hlast : trim p ≠ [] → ∃ hn : M.length - 1 < M.length, M[M.length - 1] = 1 := fun hh => by rw [hM]; exact mon_last hh
  have hmul : ∀ i (h1 : i < (trim p).length) (h2 : i < M.length), (trim p)[i] = lead p * M[i] := fun i g1 g2 => by
    simp only [hM]
    by_cases h0 : trim p = []
    · rw [h0] at g1; simp at g1
    · rw [← co_lt g1, ← co_lt (show i < (monQ p).length by rw [← hM]; exact g2), co_monQ, co_trim]
      have := Rat.div_mul_cancel (a := (((1 : Int) : Rat))) (lead_ne h0)
      have e1 : lead p * ((((1 : Int) : Rat)) / lead p) = 1 := by rw [Rat.mul_comm, this]; rfl
      rw [← Rat.mul_assoc, e1, Rat.one_mul]
  rw [← hM] at hr1
  have len1 := hr1.len
  have bM := hr1.bound
  have bden : ∀ x ∈ M, x.den < W ^ (A + (1 + A)) := fun x hx => by
    have := (bM x hx).2
    unfold Lt at this
    simpa using this
  have lcb : ∀ i, Lt (1 + 100 * (A + (1 + A))) ((lcmD 1 (M.take i) : Nat) : Int) := fun i => by
    unfold Lt
    rw [Int.natAbs_natCast]
    refine Nat.lt_of_lt_of_le (lcmD_lt (k := A + (1 + A)) (j := 1) (fun x hx => bden x (List.mem_of_mem_take hx)) (by decide)) (Nat.pow_le_pow_right W_pos ?_)
    have : (M.take i).length ≤ 100 := by rw [List.length_take]; omega
    have := Nat.mul_le_mul_right (A + (1 + A)) this
    omega
  have lcp : ∀ i, 0 < lcmD 1 (M.take i) := fun i => (lcmD_spec (l := M.take i) (m := 1) (by decide)).1
  refine FromInt_call (by decide) (by decide) fun o h2 hl2 ho => ?_
  have hpl := hr1.le hl2
  refine loopP_of (fun st h' => h2.le h' ∧ ∃ i : Nat, st.2.1 = (i : Int) ∧ i ≤ M.length ∧ NI h' (t2 st.1) ((lcmD 1 (M.take i) : Nat) : Int)) (fun st => (M.length - st.2.1).toNat)
    ⟨Hp.le_refl _, 0, rfl, Nat.zero_le _, ho⟩ ?_
  rintro ⟨s, _, _⟩ h3 ⟨hl3, i, hi, hi2, hc⟩
  simp only at hi hc
  subst hi
  refine ifP_dec (fun h4 => ?_) (fun h4 => ?_)
  · simp only at h4
    have hi' : i < M.length := by omega
    refine (hpl.le hl3).get i rfl hi' fun x hx bx => ?_
    have okc : Ok ((lcmD 1 (M.take i) : Nat) : Int) := (lcb i).ok (by omega)
    have okd : Ok ((M[i].den : Nat) : Int) := bx.2.ok (by omega)
    refine GCD_call hc hx.2 okc okd fun g h5 hl5 hg => ?_
    rw [Int.natAbs_natCast, Int.natAbs_natCast] at hg
    obtain ⟨G, hG⟩ : ∃ G, G = Nat.gcd (lcmD 1 (M.take i)) M[i].den := ⟨_, rfl⟩
    rw [← hG] at hg
    have hGp : 0 < G := by rw [hG]; exact Nat.gcd_pos_of_pos_left _ (lcp i)
    have hGle : G ≤ M[i].den := by rw [hG]; exact Nat.le_of_dvd M[i].den_pos (Nat.gcd_dvd_right _ _)
    have okg : Ok ((G : Nat) : Int) := okd.le (by rw [Int.natAbs_natCast, Int.natAbs_natCast]; exact hGle)
    refine DivMod_call (hx.2.le hl5) hg okd okg (by omega) fun z w h6 q r hl6 hz hw hdm => ?_
    have eq : q = ((M[i].den / G : Nat) : Int) := by rw [hdm.div (by omega) (.inl (by omega))]; exact ndiv
    have okq : Ok q := by rw [eq]; exact okd.le (by rw [Int.natAbs_natCast, Int.natAbs_natCast]; exact Nat.div_le_self _ _)
    refine Mul_call ((hc.le hl5).le hl6) hz okc okq fun v h7 hl7 hv => ⟨⟨Hp.le_trans hl3 (Hp.le_trans hl5 (Hp.le_trans hl6 hl7)), i + 1, ?_, hi', ?_⟩, ?_⟩
    · simp only; rw [w64 (by omega)]; rfl
    · rw [take_lcm hi', ← hG]
      rw [eq, ← Int.natCast_mul] at hv
      exact hv
    · simp only; rw [w64 (by omega)]; omega
  · simp only at h4
    have hi' : i = M.length := by omega
    subst hi'
    rw [List.take_length] at hc
    obtain ⟨L, hL⟩ : ∃ L, L = lcmD 1 M := ⟨_, rfl⟩
    have hLp : 0 < L := by have := lcp M.length; rw [List.take_length] at this; rw [hL]; exact this
    have hLb : Lt (1 + 100 * (A + (1 + A))) ((L : Nat) : Int) := by have := lcb M.length; rw [List.take_length] at this; rw [hL]; exact this
    have hLd : ∀ x ∈ M, x.den ∣ L := by rw [hL]; exact (lcmD_spec (l := M) (m := 1) (by decide)).2.2
    rw [← hL] at hc
    obtain ⟨o2, ho2⟩ : ∃ o2, o2 = ups L M := ⟨_, rfl⟩
    have lo : o2.length = M.length := by rw [ho2, ups_len]
    have og : ∀ i (g : i < M.length), o2[i]'(by omega) = M[i].num * ((L / M[i].den : Nat) : Int) := fun i g => by simp only [ho2]; exact ups_get g
    have ob : ∀ x ∈ o2, Lt 300000 x := fun x hx => by
      obtain ⟨i, hi, rfl⟩ := List.mem_iff_getElem.1 hx
      have hiM : i < M.length := by omega
      rw [og i hiM]
      have b1 := (bM _ (List.getElem_mem hiM)).1
      have b2 : Lt (1 + 100 * (A + (1 + A))) ((L / M[i].den : Nat) : Int) := by
        unfold Lt at hLb ⊢
        rw [Int.natAbs_natCast] at hLb ⊢
        exact Nat.lt_of_le_of_lt (Nat.div_le_self _ _) hLb
      exact (b1.mul b2).mono (by omega)
    obtain ⟨d, hd⟩ : ∃ d, d = gcdL 0 o2 := ⟨_, rfl⟩
    have hdp : 0 < M.length → 0 < d := fun hpos => by
      have h0 : trim p ≠ [] := fun hh => by rw [hh, List.length_nil] at lM; omega
      obtain ⟨hn, e1⟩ := hlast h0
      rw [hd]
      refine gcd_zero_pos (x := o2[M.length - 1]'(by omega)) (List.getElem_mem _) ?_
      rw [og _ hn, e1]
      show (1 : Int) * ((L / 1 : Nat) : Int) ≠ 0
      rw [Nat.div_one]; omega
    have gb : ∀ i, Ok ((gcdL 0 (o2.take i) : Nat) : Int) := fun i => by
      rcases Nat.eq_zero_or_pos (gcdL 0 (o2.take i)) with h0 | h0
      · rw [h0]; unfold Ok; rw [show ((0 : Nat) : Int).natAbs = 0 from rfl, dg_zero]; decide
      · have hne : ∃ x ∈ o2.take i, x ≠ 0 := by
          by_cases hall : ∀ x ∈ o2.take i, x = 0
          · have : gcdL 0 (o2.take i) = 0 := by
              have key : ∀ (t : List Int), (∀ x ∈ t, x = 0) → gcdL 0 t = 0 := by
                intro t
                induction t with
                | nil => intro _; rfl
                | cons a t ih =>
                  intro ht
                  have ha := ht a (by simp)
                  subst ha
                  show gcdL (Nat.gcd 0 0) t = 0
                  exact ih fun x hx => ht x (by simp [hx])
              exact key _ hall
            omega
          · exact Classical.byContradiction fun hn => hall fun x hx => Classical.byContradiction fun h1 => hn ⟨x, hx, h1⟩
        obtain ⟨x, hx, hx0⟩ := hne
        have hdv := (gcdL_dvd (l := o2.take i) (g := 0)).2 x hx
        have hok : Ok x := (ob x (List.mem_of_mem_take hx)).ok (by decide)
        refine hok.le ?_
        rw [Int.natAbs_natCast]
        exact Nat.le_of_dvd (Int.natAbs_pos.2 hx0) (Int.ofNat_dvd_left.1 hdv)
    refine mk_own (size := 2) M.length M.length (by rw [len1]) (by rw [len1]) (Nat.le_refl _) (by omega) (by omega) rfl fun m h5 ml mc how => ?_
    have hzr : repl M.length [Value.bool false, .slice nilS.a nilS.len nilS.cap] = (List.replicate M.length zI).flatMap nc := repl_nc
    rw [hzr] at how
    have hpl3 := hpl.le hl3
    refine loopP_of (fun st h' => ∃ D, h3.le D ∧ ∃ i : Nat, st.2.1 = (i : Int) ∧ i ≤ M.length ∧ NI D (t2 st.1) ((gcdL 0 (o2.take i) : Nat) : Int) ∧ ∃ xs : List TInt, xs.length = M.length ∧ Own D h' 2 m (xs.flatMap nc) ∧ NL D 300000 (xs.take i) (o2.take i)) (fun st => (M.length - st.2.1).toNat)
      ⟨h3, Hp.le_refl _, 0, rfl, Nat.zero_le _, NI.zero, _, by simp, how, ⟨rfl, fun k g1 _ => by simp at g1⟩⟩ ?_
    rintro ⟨s2, _, _⟩ h6 ⟨D, hD, i, hi, hi2, hg, xs, hxs, hown, hnl⟩
    simp only at hi hg
    subst hi
    refine ifP_dec (fun h7 => ?_) (fun h7 => ?_)
    · simp only at h7
      have hi' : i < M.length := by omega
      refine hpl3.getle i (Hp.le_trans hD hown.1) rfl hi' fun x hx bx => ?_
      have okd : Ok ((M[i].den : Nat) : Int) := bx.2.ok (by omega)
      have okL : Ok ((L : Nat) : Int) := hLb.ok (by omega)
      have dpos := M[i].den_pos
      refine hown.call (K1 := fun v D' => NI D' v.1 ((L / M[i].den : Nat) : Int)) (DivMod_call (hc.le hD) (hx.2.le hD) okL okd (by omega) fun z w h8 q r hl8 hz hw hdm => by
        have eq : q = ((L / M[i].den : Nat) : Int) := by rw [hdm.div (by omega) (.inl (by omega))]; exact ndiv
        rw [eq] at hz; exact hz) fun v D1 h8 hl8 hown1 hv => ?_
      have okq : Ok ((L / M[i].den : Nat) : Int) := okL.le (by rw [Int.natAbs_natCast, Int.natAbs_natCast]; exact Nat.div_le_self _ _)
      refine hown1.call (K1 := fun v D' => NI D' v (o2[i]'(by omega))) (Mul_call ((hx.1.le hD).le hl8) hv (bx.1.ok (by omega)) okq fun z h9 _ hz => by rw [og i hi']; exact hz) fun z D2 h9 hl9 hown2 hz => ?_
      refine set_own nc_len (by decide) (x := z) i hown2 rfl (by omega) (nc_leaf z) fun h10 hown3 _ => ?_
      refine rd_int i hown3.rd rfl (by simp; omega) ?_
      have ez : (xs.set i z)[i]'(by simp; omega) = z := by simp
      rw [ez]
      have okz : Ok (o2[i]'(by omega)) := (ob _ (List.getElem_mem _)).ok (by decide)
      refine hown3.call (K1 := fun v D' => NI D' v ((gcdL 0 (o2.take (i + 1)) : Nat) : Int)) (GCD_call ((hg.le hl8).le hl9) hz (gb i) okz fun y h11 _ hy => by
        rw [Int.natAbs_natCast] at hy
        rw [List.take_succ_eq_append_getElem (show i < o2.length by omega), gcdL_append]
        exact hy) fun y D3 h11 hl11 hown4 hy => ?_
      refine ⟨⟨D3, Hp.le_trans hD (Hp.le_trans hl8 (Hp.le_trans hl9 hl11)), i + 1, ?_, hi', hy, xs.set i z, by simpa using hxs, hown4, ?_⟩, ?_⟩
      · simp only; rw [w64 (by omega)]; rfl
      · have e1 : (xs.set i z).take (i + 1) = xs.take i ++ [z] := by
          rw [List.take_succ_eq_append_getElem (by simp; omega), List.take_set_of_le (Nat.le_refl _)]
          simp
        rw [e1, List.take_succ_eq_append_getElem (show i < o2.length by omega)]
        exact NL.snoc (hnl.le (Hp.le_trans hl8 (Hp.le_trans hl9 hl11))) (hz.le hl11) (ob _ (List.getElem_mem _))
      · simp only; rw [w64 (by omega)]; omega
    · simp only at h7
      have hi' : i = M.length := by omega
      subst hi'
      rw [← lo, List.take_length, ← hd] at hg
      rw [List.take_of_length_le (by omega), List.take_of_length_le (by omega)] at hnl
      have hoi : OI D h6 300000 m (divs (d : Int) o2 0) := by rw [divs_zero]; exact ⟨xs, hown, hnl⟩
      refine loopP_of (fun st h' => ∃ D', D.le D' ∧ ∃ i : Nat, st.1 = (i : Int) ∧ i ≤ M.length ∧ OI D' h' 300000 m (divs (d : Int) o2 i)) (fun st => (M.length - st.1).toNat) ⟨D, Hp.le_refl _, 0, rfl, Nat.zero_le _, hoi⟩ ?_
      rintro ⟨_, _⟩ h8 ⟨D', hD', i, hi, hi2, hoi2⟩
      simp only at hi
      subst hi
      refine ifP_dec (fun h9 => ?_) (fun h9 => ?_)
      · simp only [ml] at h9
        have hi' : i < M.length := by omega
        have hio : i < o2.length := by omega
        refine hoi2.get i rfl (by rw [divs_len]; omega) fun x hx bx => ?_
        rw [divs_get hio] at hx bx
        have hdpos := hdp (by omega)
        have okd : Ok ((d : Nat) : Int) := by have := gb o2.length; rw [List.take_length, ← hd] at this; exact this
        have ddvd : ((d : Nat) : Int) ∣ o2[i] := by rw [hd]; exact (gcdL_dvd (l := o2) (g := 0)).2 _ (List.getElem_mem _)
        refine hoi2.call (K1 := fun v D'' => NI D'' v.1 (o2[i] / (d : Int))) (DivMod_call hx (hg.le hD') (bx.ok (by decide)) okd (by omega) fun z w h10 q r _ hz _ hdm => by
          rw [hdm.div (by omega) (.inl (by omega))] at hz; exact hz) fun v D2 h10 hl10 hoi3 hv => ?_
        have bq : Lt 300000 (o2[i] / (d : Int)) := by
          unfold Lt at bx ⊢
          exact Nat.lt_of_le_of_lt (Int.natAbs_ediv_le_natAbs _ _) bx
        refine hoi3.set i rfl (by rw [divs_len]; omega) hv bq fun h11 hoi4 => ⟨⟨D2, Hp.le_trans hD' hl10, i + 1, ?_, hi', ?_⟩, ?_⟩
        · simp only; rw [w64 (by omega)]; rfl
        · rw [divs_succ hio] at hoi4; exact hoi4
        · simp only; rw [w64 (by omega)]; omega
      · simp only [ml] at h9
        have hi' : i = o2.length := by omega
        subst hi'
        rw [divs_all] at hoi2
        refine hk _ _ (Hp.le_trans hl1 (Hp.le_trans hl2 (Hp.le_trans hl3 (Hp.le_trans hD (Hp.le_trans hD' hoi2.dle))))) ⟨_, hoi2.il, by simp; omega, fun h0 => ?_⟩
        obtain ⟨hn, e1⟩ := hlast h0
        have hM0 : M ≠ [] := List.length_pos_iff.1 (by omega)
        have hpr : Prim (o2.map (· / (d : Int))) M := by
          refine prim_of hM0 hLp lo (fun i g1 g2 => ?_) (by rw [Int.natAbs_natCast]; exact hd) fun h1 => ?_
          · rw [og i g2]; exact ups_val (hLd _ (List.getElem_mem g2))
          · rw [getLast_get]
            have e2 : o2[o2.length - 1]'(by omega) = ((L : Nat) : Int) := by
              have := og (M.length - 1) hn
              rw [e1] at this
              have e3 : o2[o2.length - 1]'(by omega) = o2[M.length - 1]'(by omega) := by congr 1; omega
              rw [e3, this]
              show (1 : Int) * ((L / 1 : Nat) : Int) = _
              rw [Nat.div_one, Int.one_mul]
            rw [e2]
            have := hdp (by omega)
            exact Int.mul_pos (by omega) (by omega)
        exact hpr.scale (lead_ne h0) (by omega) hmul
end
end Den
end

section
/-
  Polynomials: the primitive multiple (reference), comparison of lists of integers.
-/
set_option linter.unusedVariables false
namespace Den
open Go Iv Pq
section
variable {h h0 : Hp} {A B : Nat} {l m : Sl} {p : List Rat} {K : Sl → Hp → Prop} {Kb : Bool → Hp → Prop} {us vs : List Int}
theorem PL.getden {i : Int} {K : Bool → Sl → Prop} (k : Nat) (hp : PL h0 B l p) (hl : h0.le h) (hi : i = k) (hk : k < p.length) (H : ∀ x : TInt, NI h0 x ((p[k].den : Nat) : Int) → Lt B ((p[k].den : Nat) : Int) → K x.neg x.mag) :
    idxP l i 4 fun a => ldL .bool ((a.add 2).add 0) (fun x0 => ldL .sl ((a.add 2).add 1) (fun x1 => K x0 x1) h) h := by
  obtain ⟨xs, h1, h2, h3⟩ := hp
  have hk' : k < xs.length := by rw [h2.1]; exact hk
  have hq := h2.2 k hk' hk
  refine idxP_of k (h1.le hl) hi (by rw [RdQ.len h1]; exact hk') (by decide) fun a ha => ?_
  have g : ∀ j v, j < 4 → (qc xs[k])[j]? = some v → h.cell (a.add j) = some v := fun j v hj hv => ha j v (by rw [flat_get qc_len hk' hj]; exact hv)
  refine ⟨xs[k].den.neg, ?_, xs[k].den.mag, ?_, H _ hq.1.2 hq.2.2⟩
  · rw [addr_add_add]; exact g 2 _ (by decide) rfl
  · rw [addr_add_add]; exact g 3 _ (by decide) rfl
theorem PL.getnum {i : Int} {K : Bool → Sl → Prop} (k : Nat) (hp : PL h0 B l p) (hl : h0.le h) (hi : i = k) (hk : k < p.length) (H : ∀ x : TInt, NI h0 x p[k].num → Lt B p[k].num → K x.neg x.mag) :
    idxP l i 4 fun a => ldL .bool ((a.add 0).add 0) (fun x0 => ldL .sl ((a.add 0).add 1) (fun x1 => K x0 x1) h) h := by
  obtain ⟨xs, h1, h2, h3⟩ := hp
  have hk' : k < xs.length := by rw [h2.1]; exact hk
  have hq := h2.2 k hk' hk
  refine idxP_of k (h1.le hl) hi (by rw [RdQ.len h1]; exact hk') (by decide) fun a ha => ?_
  have g : ∀ j v, j < 4 → (qc xs[k])[j]? = some v → h.cell (a.add j) = some v := fun j v hj hv => ha j v (by rw [flat_get qc_len hk' hj]; exact hv)
  refine ⟨xs[k].num.neg, ?_, xs[k].num.mag, ?_, H _ hq.1.1 hq.2.1⟩
  · rw [addr_add_add]; exact g 0 _ (by decide) rfl
  · rw [addr_add_add]; exact g 1 _ (by decide) rfl

theorem rpPrim_call (hp : PL h A l p) (hlen : p.length ≤ 100) (hA : 1 ≤ A ∧ A ≤ 1000) (H : ∀ y h' us, h.le h' → IL h' 300000 y us → us.length = (trim p).length → (trim p ≠ [] → Prim us (trim p)) → K y h') : callP (F.ref04_Primitive l) K h := by
  refine callP_of (fun y h' => ∃ us, IL h' 300000 y us ∧ us.length = (trim p).length ∧ (trim p ≠ [] → Prim us (trim p))) (fun K' hk => ?_) fun y h' hl ⟨us, g1, g2, g3⟩ => H y h' us hl g1 g2 g3
  unfold F.ref04_Primitive
  refine rTrim_call hp (by omega) (by omega) fun r1 h1 hr1 => ?_
  have hl1 := hr1.hle
  have hr1 := hr1.pl
  obtain ⟨M, hM⟩ : ∃ M, M = trim p := ⟨_, rfl⟩
  have lM2 : M.length ≤ 100 := by rw [hM]; exact Nat.le_trans trim_len hlen
  rw [← hM] at hr1 hk
  have len1 := hr1.len
  have bM := hr1.bound
  refine ifP_eq (fun h2 => ?_) (fun h2 => ?_)
  · have h0 : M = [] := List.eq_nil_of_length_eq_zero (by omega)
    exact hk _ _ hl1 ⟨[], ⟨[], Rd.nil, ⟨rfl, fun k g1 _ => by simp at g1⟩⟩, by rw [h0]; rfl, fun hh => absurd h0 hh⟩
  have hM0 : M ≠ [] := fun hh => by rw [hh, List.length_nil] at len1; exact h2 (by rw [len1]; rfl)
  have hpos : 0 < M.length := List.length_pos_iff.2 hM0
  have hlast : M[M.length - 1]'(by omega) ≠ 0 := by
    have h3 := nf_top (nf_trim (p := p)) (by rw [← hM]; exact hM0)
    rw [← hM, co_lt (by omega)] at h3
    exact h3
  have bden : ∀ x ∈ M, x.den < W ^ A := fun x hx => by
    have := (bM x hx).2
    unfold Lt at this
    simpa using this
  have lcb : ∀ i, Lt (1 + 100 * A) ((lcmD 1 (M.take i) : Nat) : Int) := fun i => by
    unfold Lt
    rw [Int.natAbs_natCast]
    refine Nat.lt_of_lt_of_le (lcmD_lt (k := A) (j := 1) (fun x hx => bden x (List.mem_of_mem_take hx)) (by decide)) (Nat.pow_le_pow_right W_pos ?_)
    have : (M.take i).length ≤ 100 := by rw [List.length_take]; omega
    have := Nat.mul_le_mul_right A this
    omega
  have lcp : ∀ i, 0 < lcmD 1 (M.take i) := fun i => (lcmD_spec (l := M.take i) (m := 1) (by decide)).1
  refine rFromInt_call (by decide) (by decide) fun o h2 hl2 ho => ?_
  have hpl := hr1.le hl2
  refine loopP_of (fun st h' => h2.le h' ∧ ∃ i : Nat, st.2.1 = (i : Int) ∧ i ≤ M.length ∧ NI h' (t2 st.1) ((lcmD 1 (M.take i) : Nat) : Int)) (fun st => (M.length - st.2.1).toNat)
    ⟨Hp.le_refl _, 0, rfl, Nat.zero_le _, ho⟩ ?_
  rintro ⟨s, _, _⟩ h3 ⟨hl3, i, hi, hi2, hc⟩
  simp only at hi hc
  subst hi
  refine ifP_dec (fun h4 => ?_) (fun h4 => ?_)
  · simp only at h4
    have hi' : i < M.length := by omega
    refine hpl.getden i hl3 rfl hi' fun x hx bx => hpl.getden i hl3 rfl hi' fun x2 hx2 _ => ?_
    have okc : Ok ((lcmD 1 (M.take i) : Nat) : Int) := (lcb i).ok (by omega)
    have okd : Ok ((M[i].den : Nat) : Int) := bx.ok (by omega)
    refine rGCD_call hc (hx2.le hl3) okc okd fun g h5 hl5 hg => ?_
    rw [Int.natAbs_natCast, Int.natAbs_natCast] at hg
    obtain ⟨G, hG⟩ : ∃ G, G = Nat.gcd (lcmD 1 (M.take i)) M[i].den := ⟨_, rfl⟩
    rw [← hG] at hg
    have hGp : 0 < G := by rw [hG]; exact Nat.gcd_pos_of_pos_left _ (lcp i)
    have hGle : G ≤ M[i].den := by rw [hG]; exact Nat.le_of_dvd M[i].den_pos (Nat.gcd_dvd_right _ _)
    have okg : Ok ((G : Nat) : Int) := okd.le (by rw [Int.natAbs_natCast, Int.natAbs_natCast]; exact hGle)
    refine rDivMod_call ((hx.le hl3).le hl5) hg okd okg (by omega) fun z w h6 q r hl6 hz hw hdm => ?_
    have eq : q = ((M[i].den / G : Nat) : Int) := by rw [hdm.div (by omega) (.inl (by omega))]; exact ndiv
    have okq : Ok q := by rw [eq]; exact okd.le (by rw [Int.natAbs_natCast, Int.natAbs_natCast]; exact Nat.div_le_self _ _)
    refine rMul_call ((hc.le hl5).le hl6) hz okc okq fun v h7 hl7 hv => ⟨⟨Hp.le_trans hl3 (Hp.le_trans hl5 (Hp.le_trans hl6 hl7)), i + 1, ?_, hi', ?_⟩, ?_⟩
    · simp only; rw [w64 (by omega)]; rfl
    · rw [take_lcm hi', ← hG]
      rw [eq, ← Int.natCast_mul] at hv
      exact hv
    · simp only; rw [w64 (by omega)]; omega
  · simp only at h4
    have hi' : i = M.length := by omega
    subst hi'
    rw [List.take_length] at hc
    obtain ⟨L, hL⟩ : ∃ L, L = lcmD 1 M := ⟨_, rfl⟩
    have hLp : 0 < L := by have := lcp M.length; rw [List.take_length] at this; rw [hL]; exact this
    have hLb : Lt (1 + 100 * A) ((L : Nat) : Int) := by have := lcb M.length; rw [List.take_length] at this; rw [hL]; exact this
    have hLd : ∀ x ∈ M, x.den ∣ L := by rw [hL]; exact (lcmD_spec (l := M) (m := 1) (by decide)).2.2
    rw [← hL] at hc
    obtain ⟨o2, ho2⟩ : ∃ o2, o2 = ups L M := ⟨_, rfl⟩
    have lo : o2.length = M.length := by rw [ho2, ups_len]
    have og : ∀ i (g : i < M.length), o2[i]'(by omega) = M[i].num * ((L / M[i].den : Nat) : Int) := fun i g => by simp only [ho2]; exact ups_get g
    have ob : ∀ x ∈ o2, Lt 300000 x := fun x hx => by
      obtain ⟨i, hi, rfl⟩ := List.mem_iff_getElem.1 hx
      have hiM : i < M.length := by omega
      rw [og i hiM]
      have b1 := (bM _ (List.getElem_mem hiM)).1
      have b2 : Lt (1 + 100 * A) ((L / M[i].den : Nat) : Int) := by
        unfold Lt at hLb ⊢
        rw [Int.natAbs_natCast] at hLb ⊢
        exact Nat.lt_of_le_of_lt (Nat.div_le_self _ _) hLb
      exact (b1.mul b2).mono (by omega)
    have olast : o2[o2.length - 1]'(by omega) ≠ 0 := fun hh => by
      have e3 : o2[o2.length - 1]'(by omega) = o2[M.length - 1]'(by omega) := by congr 1; omega
      rw [e3, og _ (by omega)] at hh
      have hL2 : 0 < L / (M[M.length - 1]'(by omega)).den := Nat.div_pos (Nat.le_of_dvd hLp (hLd _ (List.getElem_mem _))) (M[M.length - 1]'(by omega)).den_pos
      rcases Int.mul_eq_zero.1 hh with h8 | h8
      · exact hlast (Rat.num_eq_zero.1 h8)
      · omega
    obtain ⟨d, hd⟩ : ∃ d, d = gcdL 0 o2 := ⟨_, rfl⟩
    have hdp : 0 < d := by rw [hd]; exact gcd_zero_pos (List.getElem_mem (by omega)) olast
    have gb : ∀ i, Ok ((gcdL 0 (o2.take i) : Nat) : Int) := fun i => by
      rcases Nat.eq_zero_or_pos (gcdL 0 (o2.take i)) with h0 | h0
      · rw [h0]; unfold Ok; rw [show ((0 : Nat) : Int).natAbs = 0 from rfl, dg_zero]; decide
      · have hne : ∃ x ∈ o2.take i, x ≠ 0 := by
          by_cases hall : ∀ x ∈ o2.take i, x = 0
          · have : gcdL 0 (o2.take i) = 0 := by
              have key : ∀ (t : List Int), (∀ x ∈ t, x = 0) → gcdL 0 t = 0 := by
                intro t
                induction t with
                | nil => intro _; rfl
                | cons a t ih =>
                  intro ht
                  have ha := ht a (by simp)
                  subst ha
                  show gcdL (Nat.gcd 0 0) t = 0
                  exact ih fun x hx => ht x (by simp [hx])
              exact key _ hall
            omega
          · exact Classical.byContradiction fun hn => hall fun x hx => Classical.byContradiction fun h1 => hn ⟨x, hx, h1⟩
        obtain ⟨x, hx, hx0⟩ := hne
        have hdv := (gcdL_dvd (l := o2.take i) (g := 0)).2 x hx
        have hok : Ok x := (ob x (List.mem_of_mem_take hx)).ok (by decide)
        refine hok.le ?_
        rw [Int.natAbs_natCast]
        exact Nat.le_of_dvd (Int.natAbs_pos.2 hx0) (Int.ofNat_dvd_left.1 hdv)
    refine rFromInt_call (by decide) (by decide) fun g0 h5 hl5 hg0 => ?_
    have hpl3 := hpl.le (Hp.le_trans hl3 hl5)
    have hc5 := hc.le hl5
    refine loopP_of (fun st h' => ∃ D, h5.le D ∧ ∃ i : Nat, st.2.2.1 = (i : Int) ∧ i ≤ M.length ∧ NI D (t2 st.2.1) ((gcdL 0 (o2.take i) : Nat) : Int) ∧ OI D h' 300000 st.1 (o2.take i)) (fun st => (M.length - st.2.2.1).toNat)
      ⟨h5, Hp.le_refl _, 0, rfl, Nat.zero_le _, hg0, OI.nil⟩ ?_
    rintro ⟨s1, s2, _, _⟩ h6 ⟨D, hD, i, hi, hi2, hg, hoi⟩
    simp only at hi hg hoi
    subst hi
    refine ifP_dec (fun h7 => ?_) (fun h7 => ?_)
    · simp only at h7
      have hi' : i < M.length := by omega
      have hio : i < o2.length := by omega
      refine hpl3.getden i (Hp.le_trans hD hoi.dle) rfl hi' fun x hx bx => ?_
      have okd : Ok ((M[i].den : Nat) : Int) := bx.ok (by omega)
      have okL : Ok ((L : Nat) : Int) := hLb.ok (by omega)
      have dpos := M[i].den_pos
      refine hoi.call (K1 := fun v D' => NI D' v.1 ((L / M[i].den : Nat) : Int)) (rDivMod_call (hc5.le hD) (hx.le hD) okL okd (by omega) fun z w h8 q r hl8 hz hw hdm => by
        have eq : q = ((L / M[i].den : Nat) : Int) := by rw [hdm.div (by omega) (.inl (by omega))]; exact ndiv
        rw [eq] at hz; exact hz) fun v D1 h8 hl8 hoi1 hv => ?_
      have okq : Ok ((L / M[i].den : Nat) : Int) := okL.le (by rw [Int.natAbs_natCast, Int.natAbs_natCast]; exact Nat.div_le_self _ _)
      refine hpl3.getnum i (Hp.le_trans hD (Hp.le_trans hl8 hoi1.dle)) rfl hi' fun x2 hx2 bx2 => ?_
      refine hoi1.call (K1 := fun v D' => NI D' v o2[i]) (rMul_call ((hx2.le hD).le hl8) hv (bx2.ok (by omega)) okq fun z h9 _ hz => by rw [og i hi']; exact hz) fun z D2 h9 hl9 hoi2 hz => ?_
      refine hoi2.app (by simp; omega) hz (ob _ (List.getElem_mem hio)) fun w h10 hoi3 => ?_
      rw [← List.take_succ_eq_append_getElem hio] at hoi3
      refine hoi3.get i rfl (by simp; omega) fun y hy _ => ?_
      have ey : (o2.take (i + 1))[i]'(by simp; omega) = o2[i] := by simp
      rw [ey] at hy
      have okz : Ok o2[i] := (ob _ (List.getElem_mem hio)).ok (by decide)
      refine hoi3.call (K1 := fun v D' => NI D' v ((gcdL 0 (o2.take (i + 1)) : Nat) : Int)) (rGCD_call ((hg.le hl8).le hl9) hy (gb i) okz fun y h11 _ hy => by
        rw [Int.natAbs_natCast] at hy
        rw [List.take_succ_eq_append_getElem hio, gcdL_append]
        exact hy) fun y D3 h11 hl11 hoi4 hy2 => ?_
      refine ⟨⟨D3, Hp.le_trans hD (Hp.le_trans hl8 (Hp.le_trans hl9 hl11)), i + 1, ?_, hi', hy2, hoi4⟩, ?_⟩
      · simp only; rw [w64 (by omega)]; rfl
      · simp only; rw [w64 (by omega)]; omega
    · simp only at h7
      have hi' : i = M.length := by omega
      subst hi'
      rw [← lo, List.take_length, ← hd] at hg
      rw [← lo, List.take_length] at hoi
      have lens := hoi.len
      have okd : Ok ((d : Nat) : Int) := by have := gb o2.length; rw [List.take_length, ← hd] at this; exact this
      refine joinP_inv (fun s25 h' => ∃ D', D.le D' ∧ OI D' h' 300000 s1 o2 ∧ ∃ e : Int, NI D' (t2 s25.1) e ∧ e.natAbs = d ∧ 0 < o2[o2.length - 1]'(by omega) * e) ?_ ?_
      · rintro ⟨s25, _⟩ h8 ⟨D', hD', hoi1, e, he, hed, hsg⟩
        simp only at he
        have he0 : e ≠ 0 := fun hh => by rw [hh] at hed; simp at hed; omega
        have oke : Ok e := okd.le (by rw [hed, Int.natAbs_natCast]; exact Nat.le_refl _)
        have hoi0 : OI D' h8 300000 s1 (divs e o2 0) := by rw [divs_zero]; exact hoi1
        refine loopP_of (fun st h' => ∃ D2, D'.le D2 ∧ ∃ i : Nat, st.1 = (i : Int) ∧ i ≤ o2.length ∧ OI D2 h' 300000 s1 (divs e o2 i)) (fun st => (o2.length - st.1).toNat) ⟨D', Hp.le_refl _, 0, rfl, Nat.zero_le _, hoi0⟩ ?_
        rintro ⟨_, _⟩ h9 ⟨D2, hD2, i, hi, hi2, hoi2⟩
        simp only at hi
        subst hi
        refine ifP_dec (fun h10 => ?_) (fun h10 => ?_)
        · simp only [lens] at h10
          have hio : i < o2.length := by omega
          refine hoi2.get i rfl (by rw [divs_len]; omega) fun x hx bx => ?_
          rw [divs_get hio] at hx bx
          have ddvd : e ∣ o2[i] := by
            have := (gcdL_dvd (l := o2) (g := 0)).2 _ (List.getElem_mem hio)
            rw [← hd, ← hed] at this
            exact Int.natAbs_dvd.1 this
          refine hoi2.call (K1 := fun v D'' => NI D'' v.1 (o2[i] / e)) (rDivMod_call hx (he.le hD2) (bx.ok (by decide)) oke he0 fun z w h10 q r _ hz _ hdm => by
            rw [hdm.div he0 (.inr ddvd)] at hz; exact hz) fun v D3 h10 hl10 hoi3 hv => ?_
          have bq : Lt 300000 (o2[i] / e) := by
            unfold Lt at bx ⊢
            exact Nat.lt_of_le_of_lt (Int.natAbs_ediv_le_natAbs _ _) bx
          refine hoi3.set i rfl (by rw [divs_len]; omega) hv bq fun h11 hoi4 => ⟨⟨D3, Hp.le_trans hD2 hl10, i + 1, ?_, hio, ?_⟩, ?_⟩
          · simp only; rw [w64 (by omega)]; rfl
          · rw [divs_succ hio] at hoi4; exact hoi4
          · simp only; rw [w64 (by omega)]; omega
        · simp only [lens] at h10
          have hi' : i = o2.length := by omega
          subst hi'
          rw [divs_all] at hoi2
          refine hk _ _ (Hp.le_trans hl1 (Hp.le_trans hl2 (Hp.le_trans hl3 (Hp.le_trans hl5 (Hp.le_trans hD (Hp.le_trans hD' (Hp.le_trans hD2 hoi2.dle))))))) ⟨_, hoi2.il, by simp; omega, fun _ => ?_⟩
          refine prim_of hM0 hLp lo (fun i g1 g2 => ?_) (by rw [hed]; exact hd) fun h1 => ?_
          · rw [og i g2]; exact ups_val (hLd _ (List.getElem_mem g2))
          · rw [getLast_get]; exact hsg
      · have e3 : IntKind.i64.wrap ((s1.len : Int) - 1) = ((o2.length - 1 : Nat) : Int) := by rw [lens, w64 (by omega)]; omega
        refine hoi.get (o2.length - 1) e3 (by omega) fun x hx bx => ?_
        refine rSign_call (hx.le hoi.dle) (bx.ok (by decide)) ?_
        refine ifP_dec (fun h8 => ?_) (fun h8 => ?_)
        · have hneg : o2[o2.length - 1]'(by omega) < 0 := Int.sign_neg_iff.1 h8
          refine hoi.call (K1 := fun v D' => NI D' v (-((d : Nat) : Int))) (rNeg_call hg okd fun y hy => hy) fun y D1 h9 hl9 hoi1 hy => ⟨D1, hl9, hoi1, -((d : Nat) : Int), hy, by rw [Int.natAbs_neg, Int.natAbs_natCast], ?_⟩
          have : 0 < (-(o2[o2.length - 1]'(by omega))) * ((d : Nat) : Int) := Int.mul_pos (by omega) (by omega)
          rw [Int.mul_neg, ← Int.neg_mul]; exact this
        · have hposl : 0 < o2[o2.length - 1]'(by omega) := by
            have : ¬ o2[o2.length - 1]'(by omega) < 0 := fun hh => h8 (Int.sign_neg_iff.2 hh)
            omega
          exact ⟨D, Hp.le_refl _, hoi, ((d : Nat) : Int), hg, Int.natAbs_natCast _, Int.mul_pos hposl (by omega)⟩

theorem same4_call (hp : IL h 300000 l us) (hq : IL h 300000 m us) (hlen : us.length ≤ 100000) (H : ∀ h', h.le h' → Kb true h') : callP (F.law04_same l m) Kb h := by
  refine callP_of (fun b h' => b = true) (fun K' hk => ?_) fun b h' hl hb => by subst hb; exact H h' hl
  unfold F.law04_same
  have hl := hp.len
  have hl2 := hq.len
  refine ifP_ne (fun h1 => absurd (by rw [hl, hl2]) h1) (fun _ => ?_)
  refine loopP_of (fun st h' => h.le h' ∧ ∃ i : Nat, st.1 = (i : Int) ∧ i ≤ us.length) (fun st => (us.length - st.1).toNat) ⟨Hp.le_refl _, 0, rfl, Nat.zero_le _⟩ ?_
  rintro ⟨_, _⟩ h2 ⟨hl2', i, hi, hi2⟩
  simp only at hi
  subst hi
  refine ifP_dec (fun h3 => ?_) (fun h3 => hk _ _ hl2' rfl)
  simp only at h3
  have hi' : i < us.length := by omega
  refine joinP_inv (fun _ h' => h2.le h') ?_ ?_
  · rintro _ h4 hl4
    refine ⟨⟨Hp.le_trans hl2' hl4, i + 1, ?_, hi'⟩, ?_⟩
    · simp only; rw [w64 (by omega)]; rfl
    · simp only; rw [w64 (by omega)]; omega
  · refine (hp.le hl2').get i rfl hi' fun x hx bx => ?_
    have hlx : x.mag.len ≤ 35184372087808 := by have := hx.1.len; have := dg_len.2 bx; omega
    refine rValid_call (a := x) hx.ai hlx (fun n _ => ifP_false rfl ?_) (fun hn => absurd ⟨_, hx⟩ hn)
    refine (hp.le hl2').get i rfl hi' fun y hy by_ => (hq.le hl2').get i rfl hi' fun z hz bz => ?_
    have oz : Ok (us[i] - us[i]) := by rw [Int.sub_self]; unfold Ok; rw [show (0 : Int).natAbs = 0 from rfl, dg_zero]; decide
    refine rCmp_call hy hz (by_.ok (by decide)) (bz.ok (by decide)) oz fun h4 hl4 => ?_
    rw [Int.sub_self]
    exact ifP_false rfl hl4
end
end Den
end

section
/-
  Polynomials: sizes of results.
-/
set_option linter.unusedVariables false
namespace Den
open Go Iv Pq
section
variable {h h0 : Hp} {A B C : Nat} {l m : Sl} {p q : List Rat} {K : Sl → Hp → Prop} {Kb : Bool → Hp → Prop} {f g : Nat → Rat}
theorem PL.re (hp : PL h B l p) (hb : ∀ v ∈ p, BR C v) : PL h C l p := by
  obtain ⟨xs, h1, h2, h3⟩ := hp
  exact ⟨xs, h1, ⟨h2.1, fun k g1 g2 => ⟨(h2.2 k g1 g2).1, hb _ (List.getElem_mem g2)⟩⟩, h3⟩
theorem BR.sub' {k j : Nat} {a b : Rat} (ha : BR k a) (hb : BR j b) : BR (k + j + 1) (a - b) := ha.sub hb
/-- The size of what is left after k steps of a division. -/
def gB (A B : Nat) : Nat → Nat
  | 0 => A
  | k + 1 => 2 * gB A B k + 2 * B + 1
theorem gB_succ {A B k : Nat} : gB A B (k + 1) = 2 * gB A B k + 2 * B + 1 := rfl
theorem gB_mono {A B : Nat} : ∀ {k j : Nat}, k ≤ j → gB A B k ≤ gB A B j
  | k, 0, h => by have : k = 0 := by omega
                  subst this; exact Nat.le_refl _
  | k, j + 1, h => by
    by_cases hk : k = j + 1
    · subst hk; exact Nat.le_refl _
    · have := gB_mono (A := A) (B := B) (k := k) (j := j) (by omega)
      rw [gB_succ]; omega
theorem restK_BR {b : Nat → Rat} {d N : Nat} (hf : ∀ j, BR A (f j)) (hb : ∀ j, BR B (b j)) (h0 : b d ≠ 0) : ∀ {k j : Nat}, BR (gB A B k) (restK b d N f k j)
  | 0, j => hf j
  | k + 1, j => by
    have ih := fun j => restK_BR (N := N) hf hb h0 (k := k) (j := j)
    show BR (gB A B (k + 1)) (stepF b d (N - 1 - k) (restK b d N f k) j)
    rw [gB_succ]
    unfold stepF
    split
    · have h1 := ((ih (N - 1 - k + d)).div (hb d) (NR.num_ne (y := zT) h0)).mul (hb (j - (N - 1 - k)))
      exact ((ih j).sub h1).mono (by omega)
    · exact (ih j).mono (by omega)
theorem part_BR {N : Nat} (hf : ∀ i, BR A (f i)) (hg : ∀ i, BR B (g i)) (hN : ∀ i, N ≤ i → g i = 0) (m n : Nat) : BR (N * (A + B + 1) + 1) (Pq.part f g m n) := by
  have key : ∀ m, BR ((min m (n + 1) - min m (n + 1 - N)) * (A + B + 1) + 1) (Pq.part f g m n) := by
    intro m
    induction m with
    | zero => exact BR_zero.mono (by omega)
    | succ m ih =>
      rw [part_succ]
      by_cases h1 : m ≤ n
      · rw [if_pos h1]
        by_cases h2 : n - m < N
        · have h3 := ih.add ((hf m).mul (hg (n - m)))
          have e : min (m + 1) (n + 1) - min (m + 1) (n + 1 - N) = (min m (n + 1) - min m (n + 1 - N)) + 1 := by omega
          rw [e, Nat.add_mul]
          exact h3.mono (by omega)
        · rw [hN _ (by omega), Rat.mul_zero, Rat.add_zero]
          refine ih.mono ?_
          have e : min m (n + 1) - min m (n + 1 - N) ≤ min (m + 1) (n + 1) - min (m + 1) (n + 1 - N) := by omega
          have := Nat.mul_le_mul_right (A + B + 1) e
          omega
      · rw [if_neg h1, Rat.add_zero]
        refine ih.mono ?_
        have e : min m (n + 1) - min m (n + 1 - N) ≤ min (m + 1) (n + 1) - min (m + 1) (n + 1 - N) := by omega
        have := Nat.mul_le_mul_right (A + B + 1) e
        omega
  refine (key m).mono ?_
  have e : min m (n + 1) - min m (n + 1 - N) ≤ N := by omega
  have := Nat.mul_le_mul_right (A + B + 1) e
  omega
theorem part_BR' {N : Nat} (hf : ∀ i, BR A (f i)) (hg : ∀ i, BR B (g i)) (hN : ∀ i, N ≤ i → f i = 0) (m n : Nat) : BR (N * (A + B + 1) + 1) (Pq.part f g m n) := by
  have key : ∀ m, BR ((min m N) * (A + B + 1) + 1) (Pq.part f g m n) := by
    intro m
    induction m with
    | zero => exact BR_zero.mono (by omega)
    | succ m ih =>
      rw [part_succ]
      have e : min m N ≤ min (m + 1) N := by omega
      have e2 := Nat.mul_le_mul_right (A + B + 1) e
      by_cases h1 : m < N
      · split
        · have h3 := ih.add ((hf m).mul (hg (n - m)))
          have e : min (m + 1) N = min m N + 1 := by omega
          rw [e, Nat.add_mul]
          exact h3.mono (by omega)
        · rw [Rat.add_zero]; exact ih.mono (by omega)
      · rw [hN m (by omega), Rat.zero_mul, ite_self, Rat.add_zero]
        exact ih.mono (by omega)
  refine (key m).mono ?_
  have := Nat.mul_le_mul_right (A + B + 1) (show min m N ≤ N by omega)
  omega
theorem conv_part {n : Nat} : conv f g n = Pq.part f g (n + 1) n := by
  unfold conv Pq.part
  exact sm_congr fun i hi => (if_pos (by omega)).symm
theorem conv_BR {N : Nat} (hf : ∀ i, BR A (f i)) (hg : ∀ i, BR B (g i)) (hN : ∀ i, N ≤ i → g i = 0) (n : Nat) : BR (N * (A + B + 1) + 1) (conv f g n) := by
  rw [conv_part]; exact part_BR hf hg hN _ _
/-- The size of a composition. -/
def cB (N A B : Nat) : Nat → Nat
  | 0 => 1
  | k + 1 => N * (cB N A B k + B + 1) + 1 + A + 1
theorem cB_succ {N A B k : Nat} : cB N A B (k + 1) = N * (cB N A B k + B + 1) + 1 + A + 1 := rfl
theorem comp_BR (hA : 1 ≤ A) (hq : ∀ v ∈ q, BR B v) (hB : 1 ≤ B) : ∀ {p : List Rat}, (∀ v ∈ p, BR A v) → ∀ j, BR (cB q.length A B p.length) (co (compL p q) j)
  | [], _, j => BR_zero
  | c :: r, hp, j => by
    have ih := comp_BR hA hq hB (p := r) fun v hv => hp v (by simp [hv])
    simp only [compL]
    rw [co_addL, co_mulL]
    have h1 := conv_BR (N := q.length) ih (BR.co hq hB) (fun i hi => co_ge hi) j
    have h2 : BR A (co [c] j) := BR.co (fun v hv => hp v (by simp at hv; simp [hv])) hA j
    exact (h1.add h2).mono (by show _ ≤ cB q.length A B (r.length + 1); rw [cB_succ]; omega)
theorem cB_mono {N M A B : Nat} (hN : N ≤ M) : ∀ {k j : Nat}, k ≤ j → cB N A B k ≤ cB M A B j
  | 0, j, _ => by
    cases j with
    | zero => exact Nat.le_refl _
    | succ j => rw [cB_succ]; show 1 ≤ _; omega
  | k + 1, 0, h => by omega
  | k + 1, j + 1, h => by
    have := cB_mono (A := A) (B := B) hN (k := k) (j := j) (by omega)
    rw [cB_succ, cB_succ]
    have := Nat.mul_le_mul hN (show cB N A B k + B + 1 ≤ cB M A B j + B + 1 by omega)
    omega
theorem ev_BR {c : Rat} (hc : BR B c) : ∀ {p : List Rat}, (∀ v ∈ p, BR A v) → BR (p.length * (A + B + 1) + 1) (ev p c)
  | [], _ => by rw [List.length_nil, Nat.zero_mul]; exact BR_zero
  | a :: r, hp => by
    have ih := ev_BR hc (p := r) fun v hv => hp v (by simp [hv])
    have h1 := (hp a (by simp)).add (ih.mul hc)
    show BR _ (a + ev r c * c)
    exact h1.mono (by rw [List.length_cons, Nat.add_mul]; omega)
theorem ev_drop_BR {c : Rat} (hc : BR B c) (hp : ∀ v ∈ p, BR A v) (i : Nat) : BR (p.length * (A + B + 1) + 1) (ev (p.drop i) c) := by
  refine (ev_BR hc (p := p.drop i) fun v hv => hp v (List.mem_of_mem_drop hv)).mono ?_
  have := Nat.mul_le_mul_right (A + B + 1) (show (p.drop i).length ≤ p.length by simp)
  omega

theorem rpMul2_call (hp : PL h A l p) (hq : PL h B m q) (hlen : p.length ≤ 1000) (hlen2 : q.length ≤ 1000) (hA : 1 ≤ A ∧ A ≤ 100000) (hB : 1 ≤ B ∧ B ≤ 100000) (hC : ∀ k n, k ≤ q.length → BR C (Pq.part (co q) (co p) k n)) (hC2 : 1 ≤ C ∧ C ≤ 400000)
    (H : ∀ y h', h.le h' → PL h' C y (trim (mulL p q)) → K y h') : callP (F.ref04_Mul l m) K h :=
  rpMul_call hp hq hlen hlen2 hA hB hC hC2 fun y h' hl hy => H y h' hl (by
    split at hy
    · rename_i hq0
      have e : trim (mulL p q) = [] := nf_eq_nil nf_trim fun i => by
        rw [co_trim, co_mulL, conv_comm, hq0]; exact conv_nil
      rw [e]; exact hy
    · exact hy)

/-- A known quotient. -/
theorem known_div {q' r' qs rs : List Rat} (hq0 : trim q ≠ []) (hc : ∀ j, conv (co qs) (co q) j + co rs j = co p j) (hz : ∀ j, (trim q).length - 1 ≤ j → co rs j = 0) (hlen : qs.length ≤ 1001) (hlen2 : q'.length ≤ 1001)
    (hk : trim (addL (mulL q' q) r') = trim p) (hr : r'.length ≤ (trim q).length - 1) : trim qs = trim q' ∧ trim rs = trim r' := by
  have hb : co q ((trim q).length - 1) ≠ 0 := lead_ne hq0
  have hpos : 0 < (trim q).length := List.length_pos_iff.2 hq0
  have := div_unique (q := co qs) (q' := co q') (b := co q) (r := co rs) (r' := co r') (d := (trim q).length - 1) (n := 1001) hb (fun i hi => by rw [← co_trim, co_ge (by omega)]) (fun i hi => co_ge (by omega)) (fun i hi => co_ge (by omega)) hz (fun i hi => co_ge (by omega)) fun i => by
    rw [hc]
    have e : co (trim (addL (mulL q' q) r')) i = co (trim p) i := by rw [hk]
    rw [co_trim, co_trim, co_addL, co_mulL] at e
    exact e.symm
  exact ⟨trim_eq this.1, trim_eq this.2⟩
end
end Den
end

section
/-
  Polynomials: the examples of the chapter.
-/
set_option linter.unusedVariables false
namespace Den
open Go Iv Pq
section
variable {h h0 : Hp} {A B C : Nat} {l m : Sl} {p q : List Rat} {K : Sl → Hp → Prop} {Kb : Bool → Hp → Prop} {us : List Int}
theorem br1 {p : List Rat} (h : (p.all fun v => decide (v.num.natAbs < 4294967296 ∧ v.den < 4294967296)) = true) : ∀ v ∈ p, BR 1 v := fun v hv => by
  have := of_decide_eq_true (List.all_eq_true.1 h v hv)
  refine ⟨?_, ?_⟩
  · unfold Lt; rw [Nat.pow_one, W_eq]; exact this.1
  · unfold Lt; rw [Nat.pow_one, W_eq, Int.natAbs_natCast]; exact this.2
theorem PL.re1 (hp : PL h B l p) (hq : p = q) (hb : (q.all fun v => decide (v.num.natAbs < 4294967296 ∧ v.den < 4294967296)) = true) : PL h 1 l q := by
  subst hq; exact hp.re (br1 hb)
def zOk (zs : List (Int × Int)) : Bool := zs.all fun z => decide (z.1.natAbs < 4294967296 ∧ z.2.natAbs < 4294967296 ∧ z.2 ≠ 0)
theorem rats_lit {cells : List Value} {n : Nat} (zs : List (Int × Int)) (ps : List Rat) (hc : cells = zs.flatMap zc) (hn : zs.length = n) (hz : zOk zs = true) (hps : zs.map qz = ps) (hlen : n ≤ 1000) (H : ∀ y h', h.le h' → PL h' 1 y ps → K y h') :
    newP cells (fun a h1 => callP (F.law04_rats ⟨some a, n, n⟩) K h1) h := by
  subst hc hps
  refine new_own (n := n) (size := 2) (by rw [flat_len zc_len, hn]) fun b h1 hb ho => ?_
  exact rats4_call ho.rd (by omega) (fun z hz' => of_decide_eq_true (List.all_eq_true.1 hz z hz')) fun y h' hl hy => H y h' (Hp.le_trans ho.1 hl) hy
def icel (n : Int) : Value := .int .i64 n
theorem ints4_call (hp : IL h 300000 l us) (hw : Rd h 1 m (us.map icel)) (hlen : us.length ≤ 1000) (hb : ∀ u ∈ us, u.natAbs < 4294967296) (H : ∀ h', h.le h' → Kb true h') : callP (F.law04_ints l m) Kb h := by
  refine callP_of (fun b h' => b = true) (fun K' hk => ?_) fun b h' hl hb => by subst hb; exact H h' hl
  unfold F.law04_ints
  have hl := hp.len
  have hl2 : m.len = us.length := by have := hw.1; simp at this; omega
  refine ifP_ne (fun h1 => absurd (by rw [hl, hl2]) h1) (fun _ => ?_)
  refine loopP_of (fun st h' => h.le h' ∧ ∃ i : Nat, st.1 = (i : Int) ∧ i ≤ us.length) (fun st => (us.length - st.1).toNat) ⟨Hp.le_refl _, 0, rfl, Nat.zero_le _⟩ ?_
  rintro ⟨_, _⟩ h2 ⟨hl2', i, hi, hi2⟩
  simp only at hi
  subst hi
  refine ifP_dec (fun h3 => ?_) (fun h3 => hk _ _ hl2' rfl)
  simp only at h3
  have hi' : i < us.length := by omega
  refine rd_one i (hw.le hl2') rfl (v := icel us[i]) (by rw [List.getElem?_map, List.getElem?_eq_getElem hi']; rfl) fun a hc => ⟨us[i], hc, ?_⟩
  refine (hp.le hl2').get i rfl hi' fun x hx bx => ?_
  have hbi := hb _ (List.getElem_mem hi')
  refine rFromInt_call (by omega) (by omega) fun y h4 hl4 hy => ?_
  have oz : Ok (us[i] - us[i]) := by rw [Int.sub_self]; unfold Ok; rw [show (0 : Int).natAbs = 0 from rfl, dg_zero]; decide
  refine rCmp_call (hx.le hl4) hy (bx.ok (by decide)) (bx.ok (by decide)) oz fun h5 hl5 => ?_
  rw [Int.sub_self]
  refine ifP_false rfl ⟨⟨Hp.le_trans hl2' (Hp.le_trans hl4 hl5), i + 1, ?_, hi'⟩, ?_⟩
  · simp only; rw [w64 (by omega)]; rfl
  · simp only; rw [w64 (by omega)]; omega
theorem ints_lit {cells : List Value} {n : Nat} (hp : IL h 300000 l us) (hc : cells = us.map icel) (hn : us.length = n) (hlen : n ≤ 1000) (hb : ∀ u ∈ us, u.natAbs < 4294967296) (H : ∀ h', h.le h' → Kb true h') :
    newP cells (fun a h1 => callP (F.law04_ints l ⟨some a, n, n⟩) Kb h1) h := by
  subst hc
  refine new_own (n := n) (size := 1) (by simp [hn]) fun b h1 hb1 ho => ?_
  exact ints4_call (hp.le ho.1) ho.rd (by omega) hb fun h' hl => H h' (Hp.le_trans ho.1 hl)

/-- A division of small numbers. -/
theorem restK_1 {k j N : Nat} (hp : PL h 1 l p) (hq : PL h 1 m q) (hq0 : trim q ≠ []) (hk : k ≤ 8) : BR 2000 (restK (co q) ((trim q).length - 1) N (co p) k j) :=
  (restK_BR (fun j => BR.co hp.bound (by decide) j) (fun j => BR.co hq.bound (by decide) j) (lead_ne hq0)).mono (Nat.le_trans (gB_mono hk) (by decide))
theorem divide_lit {KK : Sl × Sl → Hp → Prop} (q' r' : List Rat) (hp : PL h 1 l p) (hq : PL h 1 m q) (hlen : p.length ≤ 7) (hlen2 : q.length ≤ 7) (hq0 : trim q ≠ []) (hk : trim (addL (mulL q' q) r') = trim p) (hr : r'.length ≤ (trim q).length - 1) (hql : q'.length ≤ 7)
    (hb : ((trim q').all fun v => decide (v.num.natAbs < 4294967296 ∧ v.den < 4294967296)) = true) (hb2 : ((trim r').all fun v => decide (v.num.natAbs < 4294967296 ∧ v.den < 4294967296)) = true)
    (H : ∀ y z h', h.le h' → PL h' 1 y (trim q') → PL h' 1 z (trim r') → KK (y, z) h') : callP (F.polynomial_divide l m) KK h := by
  have tp := trim_len (p := p)
  refine pdivide_call hp hq (by omega) (by omega) (by decide) hq0 (C := 2000) (fun k j hk => restK_1 hp hq hq0 (by omega)) (by decide) fun y z h' qs rs hl hy hz lq lr hc hz2 => ?_
  obtain ⟨e1, e2⟩ := known_div hq0 hc hz2 lq (by omega) hk hr
  exact H y z h' hl (hy.re1 e1 hb) (hz.re1 e2 hb2)
theorem sqf_call (hp : PL h 1 l [0, 2, -4, 2]) (H : ∀ y h', h.le h' → PL h' 1 y [0, -1, 1] → K y h') : callP (F.polynomial_Squarefree l) K h := by
  refine callP_of (fun y h' => PL h' 1 y [0, -1, 1]) (fun K' hk => ?_) fun y h' hl hy => H y h' hl hy
  unfold F.polynomial_Squarefree
  refine pMonic_call hp (by decide) (by decide) fun r1 h1 hl1 hr1 => ?_
  have hr1 := hr1.re1 (q := [0, 1, -2, 1]) (by decide +kernel) (by decide +kernel)
  refine ifP_eq (fun h2 => absurd h2 (by rw [hr1.len]; decide)) (fun h2 => ?_)
  refine pDerivative_call hr1 (by decide) (by decide) fun r2 h3 hr2 => ?_
  have hl3 := hr2.hle
  have hr2 := hr2.pl.re1 (q := [1, -4, 3]) (by decide +kernel) (by decide +kernel)
  -- the greatest common divisor
  have hgcd : ∀ {K3 : Sl → Hp → Prop}, (∀ y h', h3.le h' → PL h' 1 y [-1, 1] → K3 y h') → callP (F.polynomial_GCD r1 r2) K3 h3 := by
    intro K3 H3
    refine callP_of (fun y h' => PL h' 1 y [-1, 1]) (fun K4 hk4 => ?_) fun y h' hl hy => H3 y h' hl hy
    unfold F.polynomial_GCD
    refine pMonic_call (hr1.le hl3) (by decide) (by decide) fun a h4 hl4 ha => ?_
    have ha := ha.re1 (q := [0, 1, -2, 1]) (by decide +kernel) (by decide +kernel)
    refine pMonic_call (hr2.le hl4) (by decide) (by decide) fun b h5 hl5 hb => ?_
    have hb := hb.re1 (q := [(1 : Rat) / 3, -4 / 3, 1]) (by decide +kernel) (by decide +kernel)
    refine loopP_of (fun st h' => h3.le h' ∧ ∃ x y, PL h' 1 st.1 x ∧ PL h' 1 st.2.1 y ∧ ((x = [0, 1, -2, 1] ∧ y = [(1 : Rat) / 3, -4 / 3, 1]) ∨ (x = [(1 : Rat) / 3, -4 / 3, 1] ∧ y = [-1, 1]) ∨ (x = [-1, 1] ∧ y = []))) (fun st => st.2.1.len)
      ⟨Hp.le_trans hl4 hl5, _, _, ha.le hl5, hb, .inl ⟨rfl, rfl⟩⟩ ?_
    rintro ⟨s, t, _⟩ h6 ⟨hl6, x, y, hx, hy, hxy⟩
    simp only at hx hy
    have ly := hy.len
    refine ifP_dec (fun h7 => ?_) (fun h7 => ?_)
    · rcases hxy with ⟨rfl, rfl⟩ | ⟨rfl, rfl⟩ | ⟨rfl, rfl⟩
      · refine divide_lit [-2 / 3, 1] [(2 : Rat) / 9, -2 / 9] hx hy (by decide) (by decide) (by decide +kernel) (by decide +kernel) (by decide +kernel) (by decide) (by decide +kernel) (by decide +kernel) fun u v h8 hl8 hu hv => ?_
        refine pMonic_call hv (by decide +kernel) (by decide) fun w h9 hl9 hw => ?_
        have hw := hw.re1 (q := [-1, 1]) (by decide +kernel) (by decide +kernel)
        exact ⟨⟨Hp.le_trans hl6 (Hp.le_trans hl8 hl9), _, _, (hy.le hl8).le hl9, hw, .inr (.inl ⟨rfl, rfl⟩)⟩, by rw [hw.len, ly]; decide⟩
      · refine divide_lit [-1 / 3, 1] [] hx hy (by decide) (by decide) (by decide +kernel) (by decide +kernel) (by decide +kernel) (by decide) (by decide +kernel) (by decide +kernel) fun u v h8 hl8 hu hv => ?_
        refine pMonic_call hv (by decide +kernel) (by decide) fun w h9 hl9 hw => ?_
        have hw := hw.re1 (q := []) (by decide +kernel) (by decide +kernel)
        exact ⟨⟨Hp.le_trans hl6 (Hp.le_trans hl8 hl9), _, _, (hy.le hl8).le hl9, hw, .inr (.inr ⟨rfl, rfl⟩)⟩, by rw [hw.len, ly]; decide⟩
      · rw [ly] at h7; exact absurd h7 (by decide)
    · rcases hxy with ⟨rfl, rfl⟩ | ⟨rfl, rfl⟩ | ⟨rfl, rfl⟩
      · exact absurd (by rw [ly]; decide) h7
      · exact absurd (by rw [ly]; decide) h7
      · exact hk4 _ _ hl6 hx
  refine hgcd fun r3 h4 hl4 hr3 => ?_
  refine divide_lit [0, -1, 1] [] ((hr1.le hl3).le hl4) hr3 (by decide) (by decide) (by decide +kernel) (by decide +kernel) (by decide +kernel) (by decide) (by decide +kernel) (by decide +kernel) fun u v h5 hl5 hu hv => ?_
  refine pMonic_call hu (by decide +kernel) (by decide) fun w h6 hl6 hw => ?_
  have hw := hw.re1 (q := [0, -1, 1]) (by decide +kernel) (by decide +kernel)
  exact hk _ _ (Hp.le_trans hl1 (Hp.le_trans hl3 (Hp.le_trans hl4 (Hp.le_trans hl5 hl6)))) hw
theorem prim_a : Prim [-2, 3] [-1 / 3, (1 : Rat) / 2] := by
  refine ⟨rfl, ⟨6, by decide, fun i h1 h2 => ?_⟩, fun k hk => ?_, fun _ => (by decide : (0 : Int) < 3)⟩
  · match i, h1 with
    | 0, _ => exact (by decide +kernel : ((-2 : Int) : Rat) = 6 * (-1 / 3))
    | 1, _ => exact (by decide +kernel : ((3 : Int) : Rat) = 6 * ((1 : Rat) / 2))
  · have h1 := hk (-2) (by simp)
    have h2 := hk 3 (by simp)
    have h3 := Int.dvd_add h1 h2
    have : (k : Int) ∣ 1 := h3
    have := Int.ofNat_dvd_left.1 this
    exact Nat.dvd_one.1 this
theorem prim_b : Prim [0, 1] [(0 : Rat), -1] := by
  refine ⟨rfl, ⟨-1, by decide, fun i h1 h2 => ?_⟩, fun k hk => ?_, fun _ => (by decide : (0 : Int) < 1)⟩
  · match i, h1 with
    | 0, _ => exact (by decide +kernel : ((0 : Int) : Rat) = -1 * 0)
    | 1, _ => exact (by decide +kernel : ((1 : Int) : Rat) = -1 * -1)
  · have h2 := hk 1 (by simp)
    have := Int.ofNat_dvd_left.1 h2
    exact Nat.dvd_one.1 this
end
end Den
end

section
/-
  Polynomials: all examples of the chapter hold.
-/
set_option linter.unusedVariables false
namespace Den
open Go Iv Pq
section
variable {h : Hp} {Kb : Bool → Hp → Prop}
theorem equal_lit {l m : Sl} {p q : List Rat} (hp : PL h 1 l p) (hq : PL h 1 m q) (he : p = q) (hlen : p.length ≤ 100) (H : ∀ h', h.le h' → Kb true h') : callP (F.ref04_Equal l m) Kb h := by
  subst he
  exact rpEqual_call hp hq (by omega) (by omega) (by decide) (by decide) fun h' hl => by
    rw [decide_eq_true (p := p.length = p.length ∧ trim p = trim p) ⟨rfl, rfl⟩]; exact H h' hl
theorem awake4_call (H : ∀ h', h.le h' → Kb true h') : callP F.law04_awake Kb h := by
  refine callP_of (fun b h' => b = true) (fun K' hk => ?_) fun b h' hl hb => by subst hb; exact H h' hl
  unfold F.law04_awake
  refine rats_lit [(-1, 1), (0, 1), (1, 1)] [-1, 0, 1] rfl rfl (by decide) (by decide +kernel) (by decide) fun r2 h2 hl2 hr2 => ?_
  refine rats_lit [(2, 1), (2, 1)] [2, 2] rfl rfl (by decide) (by decide +kernel) (by decide) fun r4 h4 hl4 hr4 => ?_
  refine ppDivMod_call (hr2.le hl4) hr4 (by decide) (by decide) (by decide) (C := 2000) (fun k j hq0 hk => restK_1 (hr2.le hl4) hr4 hq0 (Nat.le_trans hk (by decide +kernel))) (by decide) (fun hh => absurd hh (by decide +kernel)) fun hq0 y z h5 qs rs hl5 hy hz lq lr hc hz2 => ?_
  obtain ⟨e1, e2⟩ := known_div (q' := [-1 / 2, (1 : Rat) / 2]) (r' := []) hq0 hc hz2 lq (by decide) (by decide +kernel) (by decide +kernel)
  have hy := hy.re1 (q := [-1 / 2, (1 : Rat) / 2]) (e1.trans (by decide +kernel)) (by decide +kernel)
  have hz := hz.re1 (q := []) (e2.trans (by decide +kernel)) (by decide +kernel)
  refine rats_lit [(0, 1), (2, 1), (-4, 1), (2, 1)] [0, 2, -4, 2] rfl rfl (by decide) (by decide +kernel) (by decide) fun r7 h7 hl7 hr7 => ?_
  refine sqf_call hr7 fun r8 h8 hl8 hr8 => ?_
  refine rats_lit [(-1, 3), (1, 2)] [-1 / 3, (1 : Rat) / 2] rfl rfl (by decide) (by decide +kernel) (by decide) fun r10 h10 hl10 hr10 => ?_
  refine ppPrim_call hr10 (by decide) (by decide) fun r11 h11 us hl11 hu11 lu pu => ?_
  have t1 : trim [-1 / 3, (1 : Rat) / 2] = [-1 / 3, (1 : Rat) / 2] := by decide +kernel
  rw [t1] at pu
  have eu : us = [-2, 3] := prim_unique (by simp) (pu (by simp)) prim_a
  subst eu
  refine rats_lit [(0, 1), (-1, 1)] [0, -1] rfl rfl (by decide) (by decide +kernel) (by decide) fun r13 h13 hl13 hr13 => ?_
  refine ppPrim_call hr13 (by decide) (by decide) fun r14 h14 vs hl14 hu14 lv pv => ?_
  have t2 : trim [(0 : Rat), -1] = [0, -1] := by decide +kernel
  rw [t2] at pv
  have ev : vs = [0, 1] := prim_unique (by simp) (pv (by simp)) prim_b
  subst ev
  refine rats_lit [(1, 1), (-3, 1), (2, 1)] [1, -3, 2] rfl rfl (by decide) (by decide +kernel) (by decide) fun r16 h16 hl16 hr16 => ?_
  refine pBound_call hr16 (by decide) (by decide) fun r17 h17 hl17 hr17 => ?_
  have eb : bndQ [1, -3, 2] = (5 : Rat) / 2 := by decide +kernel
  rw [eb] at hr17
  refine rats_lit [(0, 1), (0, 1), (1, 1)] [0, 0, 1] rfl rfl (by decide) (by decide +kernel) (by decide) fun r19 h19 hl19 hr19 => ?_
  refine rats_lit [(1, 1), (1, 1)] [1, 1] rfl rfl (by decide) (by decide +kernel) (by decide) fun r21 h21 hl21 hr21 => ?_
  have hcb : ∀ i j, BR 1000 (co (compL (List.drop i [(0 : Rat), 0, 1]) [1, 1]) j) := fun i j =>
    (comp_BR (A := 1) (B := 1) (q := [1, 1]) (by decide) (hr21.bound) (by decide) (p := List.drop i [(0 : Rat), 0, 1]) (fun v hv => hr19.bound v (List.mem_of_mem_drop hv)) j).mono
      (Nat.le_trans (cB_mono (Nat.le_refl _) (j := 3) (by simp)) (by decide))
  refine pCompose_call (hr19.le hl21) hr21 (by decide) (by decide) (by decide) (by decide) (M := 5000) (fun i k n => (part_BR (N := 2) (hcb i) (fun j => BR.co hr21.bound (by decide) j) (fun j hj => co_ge (by simpa using hj)) k n).mono (by decide)) (by decide) (C := 6000) (fun i j => (hcb i j).mono (by decide)) (by decide) fun r22 h22 hl22 hr22 => ?_
  have hr22 := hr22.re1 (q := [1, 2, 1]) (by decide +kernel) (by decide +kernel)
  -- the comparisons
  refine ifP_true rfl ?_
  have l5 : h5.le h22 := Hp.le_trans hl7 (Hp.le_trans hl8 (Hp.le_trans hl10 (Hp.le_trans hl11 (Hp.le_trans hl13 (Hp.le_trans hl14 (Hp.le_trans hl16 (Hp.le_trans hl17 (Hp.le_trans hl19 (Hp.le_trans hl21 hl22)))))))))
  have l8 : h8.le h22 := Hp.le_trans hl10 (Hp.le_trans hl11 (Hp.le_trans hl13 (Hp.le_trans hl14 (Hp.le_trans hl16 (Hp.le_trans hl17 (Hp.le_trans hl19 (Hp.le_trans hl21 hl22)))))))
  have l11 : h11.le h22 := Hp.le_trans hl13 (Hp.le_trans hl14 (Hp.le_trans hl16 (Hp.le_trans hl17 (Hp.le_trans hl19 (Hp.le_trans hl21 hl22)))))
  have l14 : h14.le h22 := Hp.le_trans hl16 (Hp.le_trans hl17 (Hp.le_trans hl19 (Hp.le_trans hl21 hl22)))
  have l17 : h17.le h22 := Hp.le_trans hl19 (Hp.le_trans hl21 hl22)
  have l0 : h.le h22 := Hp.le_trans hl2 (Hp.le_trans hl4 (Hp.le_trans hl5 l5))
  refine rats_lit [(-1, 2), (1, 2)] [-1 / 2, (1 : Rat) / 2] rfl rfl (by decide) (by decide +kernel) (by decide) fun r24 h24 hl24 hr24 => ?_
  refine equal_lit ((hy.le l5).le hl24) hr24 rfl (by decide) fun h25 hl25 => ifP_true rfl ?_
  refine ifP_true (by rw [hz.len]; rfl) ?_
  refine rats_lit [(0, 1), (-1, 1), (1, 1)] [0, -1, 1] rfl rfl (by decide) (by decide +kernel) (by decide) fun r27 h27 hl27 hr27 => ?_
  have l2427 := Hp.le_trans hl24 (Hp.le_trans hl25 hl27)
  refine equal_lit ((hr8.le l8).le l2427) hr27 rfl (by decide) fun h28 hl28 => ifP_true rfl ?_
  have l28 := Hp.le_trans l2427 hl28
  refine ints_lit ((hu11.le l11).le l28) rfl rfl (by decide) (by decide) fun h30 hl30 => ifP_true rfl ?_
  have l30 := Hp.le_trans l28 hl30
  refine ints_lit ((hu14.le l14).le l30) rfl rfl (by decide) (by decide) fun h32 hl32 => ifP_true rfl ?_
  have l32 := Hp.le_trans l30 hl32
  have h17' := (hr17.le l17).le l32
  have b52 : BR 1 ((5 : Rat) / 2) := br1 (p := [(5 : Rat) / 2]) (by decide +kernel) _ (by simp)
  have ln := h17'.lens b52
  refine rqValid_call h17'.ar (by omega) (by omega) (fun v h33 hl33 _ => ifP_true rfl ?_) (fun _ _ hn => absurd ⟨_, h17'⟩ hn)
  refine rqFrac_call (by decide) (by decide) (by decide) (by decide) (by decide) fun z34 h34 hl34 hz34 => ?_
  have e52 : Rat.divInt 5 2 = (5 : Rat) / 2 := by decide +kernel
  rw [e52] at hz34
  refine rqCmp_call ((h17'.le hl33).le hl34) hz34 b52 b52 (by decide) (by decide) fun h35 hl35 => ?_
  refine ifP_true (by decide +kernel) ?_
  have l35 := Hp.le_trans l32 (Hp.le_trans hl33 (Hp.le_trans hl34 hl35))
  refine rats_lit [(1, 1), (2, 1), (1, 1)] [1, 2, 1] rfl rfl (by decide) (by decide +kernel) (by decide) fun r37 h37 hl37 hr37 => ?_
  refine equal_lit ((hr22.le l35).le hl37) hr37 rfl (by decide) fun h38 hl38 => hk _ _ ?_ rfl
  exact Hp.le_trans l0 (Hp.le_trans l35 (Hp.le_trans hl37 hl38))
end
end Den
end

section
/-
  Sturm chains: lists of polynomials, changes of sign (program and reference).
-/
set_option linter.unusedVariables false
namespace Den
open Go Iv Pq
/-- One more value: the number of changes and the last sign that is not 0. -/
def chS (st : Nat × Int) (v : Rat) : Nat × Int := if v.num.sign = 0 then st else if st.2 = - v.num.sign then (st.1 + 1, v.num.sign) else (st.1, v.num.sign)
def chF (ps : List (List Rat)) (c : Rat) : Nat × Int := ps.foldl (fun st p => chS st (ev p c)) (0, 0)
def chN (ps : List (List Rat)) (c : Rat) : Nat := (chF ps c).1
theorem chF_snoc {ps : List (List Rat)} {p : List Rat} {c : Rat} : chF (ps ++ [p]) c = chS (chF ps c) (ev p c) := by unfold chF; rw [List.foldl_append]; rfl
theorem chF_bound {ps : List (List Rat)} {c : Rat} : (chF ps c).1 ≤ ps.length ∧ -1 ≤ (chF ps c).2 ∧ (chF ps c).2 ≤ 1 := by
  have key : ∀ (qs : List (List Rat)) (st : Nat × Int), (-1 ≤ st.2 ∧ st.2 ≤ 1) → (qs.foldl (fun st p => chS st (ev p c)) st).1 ≤ st.1 + qs.length ∧ -1 ≤ (qs.foldl (fun st p => chS st (ev p c)) st).2 ∧ (qs.foldl (fun st p => chS st (ev p c)) st).2 ≤ 1 := by
    intro qs
    induction qs with
    | nil => intro st h; exact ⟨Nat.le_refl _, h⟩
    | cons q qs ih =>
      intro st h
      have hs : -1 ≤ (ev q c).num.sign ∧ (ev q c).num.sign ≤ 1 := by
        rcases Int.lt_trichotomy (ev q c).num 0 with h1 | h1 | h1
        · rw [Int.sign_eq_neg_one_of_neg h1]; omega
        · rw [h1]; decide
        · rw [Int.sign_eq_one_of_pos h1]; omega
      have h2 : (chS st (ev q c)).1 ≤ st.1 + 1 ∧ -1 ≤ (chS st (ev q c)).2 ∧ (chS st (ev q c)).2 ≤ 1 := by
        unfold chS
        split
        · omega
        · split <;> (simp only; omega)
      have h3 := ih (chS st (ev q c)) h2.2
      simp only [List.foldl_cons, List.length_cons]
      omega
  have := key ps (0, 0) (by decide)
  unfold chF
  omega
/-- l holds the polynomials ps. -/
def QQL (h : Hp) (B : Nat) (l : Sl) (ps : List (List Rat)) : Prop := ∃ ss : List Sl, Rd h 1 l (ss.map slc) ∧ ss.length = ps.length ∧ ∀ k (h1 : k < ss.length) (h2 : k < ps.length), PL h B ss[k] ps[k]
theorem QQL.le {h h' : Hp} {B : Nat} {l : Sl} {ps : List (List Rat)} (hq : QQL h B l ps) (hl : h.le h') : QQL h' B l ps := by
  obtain ⟨ss, h1, h2, h3⟩ := hq
  exact ⟨ss, h1.le hl, h2, fun k g1 g2 => (h3 k g1 g2).le hl⟩
theorem QQL.len {h : Hp} {B : Nat} {l : Sl} {ps : List (List Rat)} (hq : QQL h B l ps) : l.len = ps.length := by
  obtain ⟨ss, h1, h2, h3⟩ := hq
  have := h1.1
  simp at this; omega
section
variable {h : Hp} {A B C : Nat} {l m : Sl} {p q : List Rat} {ps : List (List Rat)} {K : Sl → Hp → Prop} {Ki : Int → Hp → Prop} {Kb : Bool → Hp → Prop} {c : Rat} {x : TRat}
theorem QQL.get {i : Int} {K : Sl → Prop} (k : Nat) (hq : QQL h B l ps) (hi : i = k) (hk : k < ps.length) (H : ∀ s, PL h B s ps[k] → K s) : idxP l i 1 fun a => ldL .sl a (fun x => K x) h := by
  obtain ⟨ss, h1, h2, h3⟩ := hq
  have hk' : k < ss.length := by omega
  refine rd_one k h1 hi (v := slc ss[k]) (by rw [List.getElem?_map, List.getElem?_eq_getElem hk']; rfl) fun a hc => ⟨ss[k], hc, H _ (h3 k hk' hk)⟩
theorem ratsgn_range {v : Rat} : -1 ≤ v.num.sign ∧ v.num.sign ≤ 1 := by
  rcases Int.lt_trichotomy v.num 0 with h1 | h1 | h1
  · rw [Int.sign_eq_neg_one_of_neg h1]; omega
  · rw [h1]; decide
  · rw [Int.sign_eq_one_of_pos h1]; omega
theorem pChanges_call (hq : QQL h B l ps) (hx : NR h x c) (bc : BR A c) (hlen : ps.length ≤ 1000) (hB : B ≤ 100000) (hA : A ≤ 100000) (hpl : ∀ p ∈ ps, p.length ≤ 1000) (hC : ∀ p ∈ ps, ∀ i, BR C (ev (p.drop i) c)) (hC2 : C ≤ 200000) (H : ∀ h', h.le h' → Ki (chN ps c : Int) h') : callP (F.sturm_Changes l x) Ki h := by
  refine callP_of (fun v h' => v = (chN ps c : Int)) (fun K' hk => ?_) fun v h' hl hv => by subst hv; exact H h' hl
  unfold F.sturm_Changes
  have hl := hq.len
  refine loopP_of (fun st h' => h.le h' ∧ ∃ i : Nat, st.2.2.1 = (i : Int) ∧ i ≤ ps.length ∧ st.1 = ((chF (ps.take i) c).1 : Int) ∧ st.2.1 = (chF (ps.take i) c).2) (fun st => (ps.length - st.2.2.1).toNat)
    ⟨Hp.le_refl _, 0, rfl, Nat.zero_le _, rfl, rfl⟩ ?_
  rintro ⟨n, t, _, _⟩ h1 ⟨hl1, i, hi, hi2, hn, ht⟩
  simp only at hi hn ht
  subst hi hn ht
  refine ifP_dec (fun h2 => ?_) (fun h2 => ?_)
  · simp only at h2
    have hi' : i < ps.length := by omega
    have hb := chF_bound (ps := ps.take i) (c := c)
    have hlt : (ps.take i).length = i := by rw [List.length_take]; omega
    refine joinP_inv (fun s h' => h1.le h' ∧ s.1 = ((chF (ps.take (i + 1)) c).1 : Int) ∧ s.2.1 = (chF (ps.take (i + 1)) c).2) ?_ ?_
    · rintro ⟨s1, s2, _⟩ h3 ⟨hl3, e1, e2⟩
      refine ⟨⟨Hp.le_trans hl1 hl3, i + 1, ?_, hi', e1, e2⟩, ?_⟩
      · simp only; rw [w64 (by omega)]; rfl
      · simp only; rw [w64 (by omega)]; omega
    · refine (hq.le hl1).get i rfl hi' fun s hs => ?_
      have hm := List.getElem_mem hi'
      refine pEval_call hs (hx.le hl1) bc (by have := hpl _ hm; omega) hB hA (hC _ hm) hC2 fun z h3 hl3 hz => ?_
      have bz : BR C (ev ps[i] c) := by have := hC _ hm 0; rwa [List.drop_zero] at this
      refine qSign_call hz bz (by omega) ?_
      have hsr := ratsgn_range (v := ev ps[i] c)
      have en : IntKind.i64.wrap (0 - (ev ps[i] c).num.sign) = - (ev ps[i] c).num.sign := by rw [w64 (by omega)]; omega
      have estep : chF (ps.take (i + 1)) c = chS (chF (ps.take i) c) (ev ps[i] c) := by rw [List.take_succ_eq_append_getElem hi', chF_snoc]
      rw [estep, en]
      refine ifP_eq (fun h4 => ⟨hl3, ?_, ?_⟩) (fun h4 => ifP_eq (fun h5 => ⟨hl3, ?_, ?_⟩) (fun h5 => ⟨hl3, ?_, ?_⟩))
      · unfold chS; rw [if_pos h4]
      · unfold chS; rw [if_pos h4]
      · unfold chS; rw [if_neg h4, if_pos h5]; simp only; rw [w64 (by omega)]; rfl
      · unfold chS; rw [if_neg h4, if_pos h5]
      · unfold chS; rw [if_neg h4, if_neg h5]
      · unfold chS; rw [if_neg h4, if_neg h5]
  · simp only at h2
    have hi' : i = ps.length := by omega
    subst hi'
    refine hk _ _ hl1 ?_
    rw [List.take_length]; rfl
theorem rChanges_call (hq : QQL h B l ps) (hx : NR h x c) (bc : BR A c) (hlen : ps.length ≤ 1000) (hB : B ≤ 100000) (hA : A ≤ 100000) (hpl : ∀ p ∈ ps, p.length ≤ 1000) (hC : ∀ p ∈ ps, ∀ i, BR C (ev (p.drop i) c)) (hC2 : C ≤ 200000) (H : ∀ h', h.le h' → Ki (chN ps c : Int) h') : callP (F.ref05_Changes l x) Ki h := by
  refine callP_of (fun v h' => v = (chN ps c : Int)) (fun K' hk => ?_) fun v h' hl hv => by subst hv; exact H h' hl
  unfold F.ref05_Changes
  have hl := hq.len
  refine loopP_of (fun st h' => h.le h' ∧ ∃ i : Nat, st.2.2.1 = (i : Int) ∧ i ≤ ps.length ∧ st.1 = ((chF (ps.take i) c).1 : Int) ∧ st.2.1 = (chF (ps.take i) c).2) (fun st => (ps.length - st.2.2.1).toNat)
    ⟨Hp.le_refl _, 0, rfl, Nat.zero_le _, rfl, rfl⟩ ?_
  rintro ⟨n, t, _, _⟩ h1 ⟨hl1, i, hi, hi2, hn, ht⟩
  simp only at hi hn ht
  subst hi hn ht
  refine ifP_dec (fun h2 => ?_) (fun h2 => ?_)
  · simp only at h2
    have hi' : i < ps.length := by omega
    have hb := chF_bound (ps := ps.take i) (c := c)
    have hlt : (ps.take i).length = i := by rw [List.length_take]; omega
    refine joinP_inv (fun s h' => h1.le h' ∧ s.1 = ((chF (ps.take (i + 1)) c).1 : Int) ∧ s.2.1 = (chF (ps.take (i + 1)) c).2) ?_ ?_
    · rintro ⟨s1, s2, _⟩ h3 ⟨hl3, e1, e2⟩
      refine ⟨⟨Hp.le_trans hl1 hl3, i + 1, ?_, hi', e1, e2⟩, ?_⟩
      · simp only; rw [w64 (by omega)]; rfl
      · simp only; rw [w64 (by omega)]; omega
    · refine (hq.le hl1).get i rfl hi' fun s hs => ?_
      have hm := List.getElem_mem hi'
      refine rpEval_call hs (hx.le hl1) bc (by have := hpl _ hm; omega) hB hA (hC _ hm) hC2 fun z h3 hl3 hz => ?_
      have bz : BR C (ev ps[i] c) := by have := hC _ hm 0; rwa [List.drop_zero] at this
      refine rqSign_call hz bz (by omega) ?_
      have en : IntKind.i64.wrap (0 - (chF (ps.take i) c).2) = - (chF (ps.take i) c).2 := by rw [w64 (by omega)]; omega
      have estep : chF (ps.take (i + 1)) c = chS (chF (ps.take i) c) (ev ps[i] c) := by rw [List.take_succ_eq_append_getElem hi', chF_snoc]
      rw [estep, en]
      refine ifP_ne (fun h4 => ifP_eq (fun h5 => ⟨hl3, ?_, ?_⟩) (fun h5 => ⟨hl3, ?_, ?_⟩)) (fun h4 => ⟨hl3, ?_, ?_⟩)
      · unfold chS; rw [if_neg h4, if_pos (by omega)]; simp only; rw [w64 (by omega)]; rfl
      · unfold chS; rw [if_neg h4, if_pos (by omega)]
      · unfold chS; rw [if_neg h4, if_neg (by omega)]
      · unfold chS; rw [if_neg h4, if_neg (by omega)]
      · unfold chS; rw [if_pos h4]
      · unfold chS; rw [if_pos h4]
  · simp only at h2
    have hi' : i = ps.length := by omega
    subst hi'
    refine hk _ _ hl1 ?_
    rw [List.take_length]; rfl
theorem poly5_lit {cells : List Value} {n : Nat} (zs : List Int) (ps : List Rat) (hc : cells = zs.map icel) (hn : zs.length = n) (hz : (zs.all fun z => decide (z.natAbs < 4294967296)) = true) (hps : zs.map (fun z => ((z : Int) : Rat)) = ps) (hlen : n ≤ 1000) (H : ∀ y h', h.le h' → PL h' 1 y ps → K y h') :
    newP cells (fun a h1 => callP (F.law05_poly ⟨some a, n, n⟩) K h1) h := by
  subst hc hps
  refine new_own (n := n) (size := 1) (by simp [hn]) fun b h1 hb ho => ?_
  refine callP_of (fun y h' => PL h' 1 y (zs.map fun z => ((z : Int) : Rat))) (fun K' hk => ?_) fun y h' hl hy => H y h' (Hp.le_trans ho.1 hl) hy
  unfold F.law05_poly
  have hr := ho.rd
  refine loopP_of (fun st h' => ∃ D, h1.le D ∧ ∃ i : Nat, st.2.1 = (i : Int) ∧ i ≤ zs.length ∧ OD D h' 1 st.1 ((zs.take i).map fun z => ((z : Int) : Rat))) (fun st => (zs.length - st.2.1).toNat)
    ⟨h1, Hp.le_refl _, 0, rfl, Nat.zero_le _, OD.nil⟩ ?_
  rintro ⟨s, _, _⟩ h2 ⟨D, hD, i, hi, hi2, ho2⟩
  simp only at hi ho2
  subst hi
  refine ifP_dec (fun h3 => ?_) (fun h3 => ?_)
  · simp only at h3
    have hi' : i < zs.length := by omega
    refine rd_one i (hr.le (Hp.le_trans hD ho2.dle)) rfl (v := icel zs[i]) (by rw [List.getElem?_map, List.getElem?_eq_getElem hi']; rfl) fun a hc => ⟨zs[i], hc, ?_⟩
    have hbz := of_decide_eq_true (List.all_eq_true.1 hz _ (List.getElem_mem hi'))
    have bq : BR 1 (((zs[i] : Int) : Rat)) := by
      refine ⟨?_, ?_⟩
      · unfold Lt
        show (zs[i]).natAbs < W ^ 1
        rw [Nat.pow_one, W_eq]; exact hbz
      · unfold Lt
        show ((1 : Nat) : Int).natAbs < W ^ 1
        decide
    refine ho2.call (K1 := fun z D' => NR D' z (((zs[i] : Int) : Rat))) (rqFromInt_call (by omega) (by omega) fun z D' _ hz => hz) fun z D1 h5 hl1 ho1 hz1 => ?_
    refine ho1.app (by simp; omega) hz1 bq fun w h7 hw => ⟨⟨D1, Hp.le_trans hD hl1, i + 1, ?_, hi', ?_⟩, ?_⟩
    · simp only; rw [w64 (by omega)]; rfl
    · rw [List.take_succ_eq_append_getElem hi', List.map_append]; exact hw
    · simp only; rw [w64 (by omega)]; omega
  · simp only at h3
    have hi' : i = zs.length := by omega
    subst hi'
    rw [List.take_length] at ho2
    exact hk _ _ (Hp.le_trans hD ho2.dle) ho2.pl
theorem same5_call {qs : List (List Rat)} (hp : QQL h 1 l ps) (hq : QQL h 1 m qs) (he : ps = qs) (hlen : ps.length ≤ 1000) (hpl : ∀ p ∈ ps, p.length ≤ 100) (H : ∀ h', h.le h' → Kb true h') : callP (F.ref05_Same l m) Kb h := by
  subst he
  refine callP_of (fun b h' => b = true) (fun K' hk => ?_) fun b h' hl hb => by subst hb; exact H h' hl
  unfold F.ref05_Same
  have hl := hp.len
  have hl2 := hq.len
  refine ifP_ne (fun h1 => absurd (by rw [hl, hl2]) h1) (fun _ => ?_)
  refine loopP_of (fun st h' => h.le h' ∧ ∃ i : Nat, st.1 = (i : Int) ∧ i ≤ ps.length) (fun st => (ps.length - st.1).toNat) ⟨Hp.le_refl _, 0, rfl, Nat.zero_le _⟩ ?_
  rintro ⟨_, _⟩ h2 ⟨hl2', i, hi, hi2⟩
  simp only at hi
  subst hi
  refine ifP_dec (fun h3 => ?_) (fun h3 => hk _ _ hl2' rfl)
  simp only at h3
  have hi' : i < ps.length := by omega
  refine (hp.le hl2').get i rfl hi' fun s hs => (hq.le hl2').get i rfl hi' fun t ht => ?_
  refine equal_lit hs ht rfl (hpl _ (List.getElem_mem hi')) fun h4 hl4 => ifP_false rfl ⟨⟨Hp.le_trans hl2' hl4, i + 1, ?_, hi'⟩, ?_⟩
  · simp only; rw [w64 (by omega)]; rfl
  · simp only; rw [w64 (by omega)]; omega
end
end Den
end

section
/-
  Sturm chains of known polynomials; the examples of the chapter.
-/
set_option linter.unusedVariables false
namespace Den
open Go Iv Pq
def b1 (p : List Rat) : Bool := p.all fun v => decide (v.num.natAbs < 4294967296 ∧ v.den < 4294967296)
/-- The steps of the computation of a squarefree part, with two divisions in the greatest common divisor. -/
def sqfOk (P M D E q1 r1 c1 q2 Q W : List Rat) : Bool :=
  decide (monQ P = M) && decide (trim (derL M) = D) && decide (monQ D = E) && decide (trim (addL (mulL q1 E) r1) = trim M) && decide (monQ (trim r1) = c1) && decide (trim (mulL q2 c1) = trim E) && decide (trim (mulL Q c1) = trim M) && decide (monQ (trim Q) = W)
    && decide (P.length ≤ 7) && decide (M.length ≤ 7) && decide (D.length ≤ 7) && decide (E.length ≤ 7) && decide (c1.length ≤ 7) && decide (q1.length ≤ 7) && decide (q2.length ≤ 7) && decide (Q.length ≤ 7) && decide (r1.length ≤ (trim E).length - 1) && decide (r1.length ≤ 7)
    && decide (trim E ≠ []) && decide (trim c1 ≠ []) && decide (0 < M.length) && decide (E.length ≤ M.length) && decide (c1.length < E.length) && decide (0 < c1.length)
    && b1 M && b1 D && b1 E && b1 c1 && b1 W && b1 (trim q1) && b1 (trim r1) && b1 (trim q2) && b1 (trim Q)
section
variable {h : Hp} {A B C : Nat} {l m : Sl} {p q : List Rat} {ps : List (List Rat)} {K : Sl → Hp → Prop} {Ki : Int → Hp → Prop} {Kb : Bool → Hp → Prop} {c : Rat} {x : TRat}
theorem tlenz {p : List Rat} {i : Nat} (hp : p.length ≤ i) : (trim p).length ≤ i := Nat.le_trans trim_len hp
theorem addL_nil {p : List Rat} : trim (addL p []) = trim p := trim_eq fun i => by rw [co_addL, co_nil, Rat.add_zero]
theorem sqf_lit {P M D E q1 r1 c1 q2 Q W : List Rat} (hok : sqfOk P M D E q1 r1 c1 q2 Q W = true) (hp : PL h 1 l P) (H : ∀ y h', h.le h' → PL h' 1 y W → K y h') : callP (F.polynomial_Squarefree l) K h := by
  unfold sqfOk at hok
  simp only [Bool.and_eq_true, decide_eq_true_eq] at hok
  obtain ⟨⟨⟨⟨⟨⟨⟨⟨⟨⟨⟨⟨⟨⟨⟨⟨⟨⟨⟨⟨⟨⟨⟨⟨⟨⟨⟨⟨⟨⟨⟨⟨e1, e2⟩, e3⟩, e4⟩, e5⟩, e6⟩, e7⟩, e8⟩, f1⟩, f2⟩, f3⟩, f4⟩, f5⟩, f6⟩, f7⟩, f8⟩, f9⟩, f10⟩, g1⟩, g2⟩, g3⟩, g4⟩, g5⟩, g6⟩, k1⟩, k2⟩, k3⟩, k4⟩, k5⟩, k6⟩, k7⟩, k8⟩, k9⟩ := hok
  refine callP_of (fun y h' => PL h' 1 y W) (fun K' hk => ?_) fun y h' hl hy => H y h' hl hy
  unfold F.polynomial_Squarefree
  refine pMonic_call hp (by omega) (by decide) fun s1 h1 hl1 hr1 => ?_
  have hr1 := hr1.re1 e1 k1
  refine ifP_eq (fun h2 => absurd h2 (by rw [hr1.len]; omega)) (fun h2 => ?_)
  refine pDerivative_call hr1 (by omega) (by decide) fun s2 h3 hr2 => ?_
  have hl3 := hr2.hle
  have hr2 := hr2.pl.re1 e2 k2
  have hgcd : ∀ {K3 : Sl → Hp → Prop}, (∀ y h', h3.le h' → PL h' 1 y c1 → K3 y h') → callP (F.polynomial_GCD s1 s2) K3 h3 := by
    intro K3 H3
    refine callP_of (fun y h' => PL h' 1 y c1) (fun K4 hk4 => ?_) fun y h' hl hy => H3 y h' hl hy
    unfold F.polynomial_GCD
    refine pMonic_call (hr1.le hl3) (by omega) (by decide) fun a h4 hl4 ha => ?_
    have ha : PL h4 (1 + (1 + 1)) a (monQ M) := ha
    -- the monic polynomial stays as it is
    have eM : monQ M = M := by
      have hl := nf_monQ (p := P)
      rw [e1] at hl
      have hM0 : M ≠ [] := List.length_pos_iff.1 g3
      have hP0 : trim P ≠ [] := fun hh => by
        have := monQ_len (p := P)
        rw [e1, hh] at this
        exact hM0 (List.eq_nil_of_length_eq_zero this)
      have hlead : lead M = 1 := by
        unfold lead
        rw [trim_nf hl]
        obtain ⟨hn, e⟩ := mon_last hP0
        simp only [e1] at hn e
        rw [co_lt hn, e]
      unfold monQ
      rw [trim_nf hl, hlead]
      have : (fun x : Rat => (((1 : Int) : Rat)) / 1 * x) = id := by
        funext x
        have : (((1 : Int) : Rat)) / 1 = 1 := by decide +kernel
        rw [this]; exact Rat.one_mul x
      rw [this, List.map_id]
    have ha := ha.re1 eM k1
    refine pMonic_call (hr2.le hl4) (by omega) (by decide) fun b h5 hl5 hb => ?_
    have hb := hb.re1 e3 k3
    refine loopP_of (fun st h' => h3.le h' ∧ ∃ x y, PL h' 1 st.1 x ∧ PL h' 1 st.2.1 y ∧ ((x = M ∧ y = E) ∨ (x = E ∧ y = c1) ∨ (x = c1 ∧ y = []))) (fun st => st.2.1.len)
      ⟨Hp.le_trans hl4 hl5, _, _, ha.le hl5, hb, .inl ⟨rfl, rfl⟩⟩ ?_
    rintro ⟨s, t, _⟩ h6 ⟨hl6, x, y, hx, hy, hxy⟩
    simp only at hx hy
    have ly := hy.len
    refine ifP_dec (fun h7 => ?_) (fun h7 => ?_)
    · rcases hxy with ⟨rfl, rfl⟩ | ⟨rfl, rfl⟩ | ⟨rfl, rfl⟩
      · refine divide_lit q1 r1 hx hy f2 f4 g1 e4 f9 f6 k6 k7 fun u v h8 hl8 hu hv => ?_
        refine pMonic_call hv (tlenz (by omega)) (by decide) fun w h9 hl9 hw => ?_
        have hw := hw.re1 e5 k4
        exact ⟨⟨Hp.le_trans hl6 (Hp.le_trans hl8 hl9), _, _, (hy.le hl8).le hl9, hw, .inr (.inl ⟨rfl, rfl⟩)⟩, by rw [hw.len, ly]; exact g5⟩
      · refine divide_lit q2 [] hx hy f4 f5 g2 (by rw [addL_nil]; exact e6) (Nat.zero_le _) f7 k8 (by decide) fun u v h8 hl8 hu hv => ?_
        refine pMonic_call hv (by decide) (by decide) fun w h9 hl9 hw => ?_
        have hw := hw.re1 (q := []) (by decide +kernel) (by decide)
        exact ⟨⟨Hp.le_trans hl6 (Hp.le_trans hl8 hl9), _, _, (hy.le hl8).le hl9, hw, .inr (.inr ⟨rfl, rfl⟩)⟩, by rw [hw.len, ly]; exact g6⟩
      · rw [ly] at h7; exact absurd h7 (by decide)
    · rcases hxy with ⟨rfl, rfl⟩ | ⟨rfl, rfl⟩ | ⟨rfl, rfl⟩
      · exact absurd (by rw [ly]; omega) h7
      · exact absurd (by rw [ly]; omega) h7
      · exact hk4 _ _ hl6 hx
  refine hgcd fun s3 h4 hl4 hr3 => ?_
  refine divide_lit Q [] ((hr1.le hl3).le hl4) hr3 f2 f5 g2 (by rw [addL_nil]; exact e7) (Nat.zero_le _) f8 k9 (by decide) fun u v h5 hl5 hu hv => ?_
  refine pMonic_call hu (tlenz (by omega)) (by decide) fun w h6 hl6 hw => ?_
  exact hk _ _ (Hp.le_trans hl1 (Hp.le_trans hl3 (Hp.le_trans hl4 (Hp.le_trans hl5 hl6)))) (hw.re1 e8 k5)

/-- The steps of the computation of a chain of three polynomials. -/
def chainOk (P W E q1 r1 c q2 : List Rat) : Bool :=
  decide (2 ≤ (trim P).length) && decide (trim (derL W) = E) && decide (trim (addL (mulL q1 E) r1) = trim W) && decide (trim ((trim r1).map ((((-1 : Int) : Rat)) * ·)) = c) && decide (trim (mulL q2 c) = trim E)
    && decide (P.length ≤ 7) && decide (W.length ≤ 7) && decide (E.length ≤ 7) && decide (c.length ≤ 7) && decide (q1.length ≤ 7) && decide (q2.length ≤ 7) && decide (r1.length ≤ (trim E).length - 1) && decide (r1.length ≤ 7) && decide (trim E ≠ []) && decide (trim c ≠ []) && decide (trim r1 ≠ []) && decide (c.length < E.length)
    && b1 E && b1 c && b1 (trim q1) && b1 (trim r1) && b1 (trim q2)
theorem chain_lit {P M D E0 q10 r10 c10 q20 Q W E q1 r1 c q2 : List Rat} (hok : sqfOk P M D E0 q10 r10 c10 q20 Q W = true) (hok2 : chainOk P W E q1 r1 c q2 = true) (hp : PL h 1 l P) (H : ∀ y h', h.le h' → QQL h' 1 y [W, E, c] → K y h') : callP (F.sturm_Chain l) K h := by
  unfold chainOk at hok2
  simp only [Bool.and_eq_true, decide_eq_true_eq] at hok2
  obtain ⟨⟨⟨⟨⟨⟨⟨⟨⟨⟨⟨⟨⟨⟨⟨⟨⟨⟨⟨⟨⟨e1, e2⟩, e3⟩, e4⟩, e5⟩, f1⟩, f2⟩, f3⟩, f4⟩, f5⟩, f6⟩, f7⟩, f8⟩, g1⟩, g2⟩, g3⟩, g4⟩, k1⟩, k2⟩, k3⟩, k4⟩, k5⟩ := hok2
  refine callP_of (fun y h' => QQL h' 1 y [W, E, c]) (fun K' hk => ?_) fun y h' hl hy => H y h' hl hy
  unfold F.sturm_Chain
  refine pDegree_call hp (by omega) (by decide) fun h1 hl1 => ?_
  refine ifP_false (decide_eq_false (by omega)) ?_
  refine sqf_lit hok (hp.le hl1) fun r2 h2 hl2 hr2 => ?_
  refine pDerivative_call hr2 (by omega) (by decide) fun r3 h3 hr3 => ?_
  have hl3 := hr3.hle
  have hr3 := hr3.pl.re1 e2 k1
  have hr2 := hr2.le hl3
  refine new_own (n := 2) (size := 1) rfl fun b4 h4 hb4 ho => ?_
  refine loopP_of (fun st h' => ∃ Dh, h3.le Dh ∧ ((∃ ss : List Sl, ss = [r2, r3] ∧ st.1 = r2 ∧ st.2.1 = r3 ∧ Own Dh h' 1 st.2.2.1 (ss.map slc)) ∨ (∃ r11, PL Dh 1 r11 c ∧ st.1 = r3 ∧ st.2.1 = r11 ∧ Own Dh h' 1 st.2.2.1 ([r2, r3, r11].map slc)))) (fun st => st.2.1.len)
    ⟨h3, Hp.le_refl _, .inl ⟨_, rfl, rfl, rfl, ho⟩⟩ ?_
  rintro ⟨s, t, w, _⟩ h5 ⟨Dh, hD, hcase⟩
  rcases hcase with ⟨ss, rfl, es, et, ho5⟩ | ⟨r11, hr11, es, et, ho5⟩
  · simp only at es et ho5
    subst es et
    refine ho5.call (K1 := fun r D' => r.2.2 = 0 ∧ PL D' 1 r.2.1 (trim r1)) (ppDivMod_call (hr2.le hD) (hr3.le hD) (by omega) (by omega) (by decide) (C := 2000) (fun k j hq0 hk => restK_1 (hr2.le hD) (hr3.le hD) hq0 (by have := tlenz f2; have : 0 < (trim E).length := List.length_pos_iff.2 hq0; omega)) (by decide) (fun hh => absurd hh g1) fun hq0 y z h' qs rs hl hy hz lq lr hc hz2 => ⟨rfl, ?_⟩) fun r D1 h6 hl6 ho6 ⟨er, hz⟩ => ?_
    · obtain ⟨_, d2⟩ := known_div (q' := q1) (r' := r1) hq0 hc hz2 lq (by omega) e3 f7
      exact hz.re1 d2 k4
    refine joinP_inv (fun _ h' => h' = h6) ?_ ?_
    · rintro _ h7 rfl
      refine ho6.call (K1 := fun v D' => NR D' v (((-1 : Int) : Rat))) (qFromInt_call (by decide) (by decide) fun v D' _ hv => hv) fun v D2 h8 hl8 ho8 hv => ?_
      refine ho8.call (K1 := fun u D' => PL D' 1 u c) (pScale_call (hz.le hl8) hv BR_m1 (Nat.le_trans (tlenz f8) (by decide)) (by decide) (by decide) fun u D' hu => hu.pl.re1 e4 k2) fun u D3 h9 hl9 ho9 hu => ?_
      have hlw := ho9.2.1
      simp at hlw
      refine app_own ho9 (n := 1) (new := [slc u]) rfl rfl rfl (by simp only; omega) (by simp only; omega) fun y h10 hy _ => ⟨⟨D3, Hp.le_trans hD (Hp.le_trans hl6 (Hp.le_trans hl8 hl9)), .inr ⟨u, hu, rfl, rfl, hy⟩⟩, ?_⟩
      rw [hu.len, hr3.len]; exact g4
    · have ez : r.2.1.len = (trim r1).length := hz.len
      have : 0 < (trim r1).length := List.length_pos_iff.2 g3
      rw [er]
      refine ifP_false rfl (ifP_eq (fun h7 => by omega) (fun h7 => rfl))
  · simp only at es et ho5
    subst es et
    refine ho5.call (K1 := fun r D' => r.2.2 = 0 ∧ PL D' 1 r.2.1 []) (ppDivMod_call (hr3.le hD) hr11 (by omega) (by omega) (by decide) (C := 2000) (fun k j hq0 hk => restK_1 (hr3.le hD) hr11 hq0 (by have := tlenz f3; have : 0 < (trim c).length := List.length_pos_iff.2 hq0; omega)) (by decide) (fun hh => absurd hh g2) fun hq0 y z h' qs rs hl hy hz lq lr hc hz2 => ⟨rfl, ?_⟩) fun r D1 h6 hl6 ho6 ⟨er, hz⟩ => ?_
    · obtain ⟨_, d2⟩ := known_div (q' := q2) (r' := []) hq0 hc hz2 lq (by omega) (by rw [addL_nil]; exact e5) (Nat.zero_le _)
      exact hz.re1 d2 (by decide)
    refine joinP_inv (fun _ _ => False) (fun _ _ hh => hh.elim) ?_
    rw [er]
    refine ifP_false rfl (ifP_true (by rw [hz.len]; rfl) ?_)
    refine hk _ _ (Hp.le_trans hl1 (Hp.le_trans hl2 (Hp.le_trans hl3 (Hp.le_trans hD (Hp.le_trans hl6 ho6.1))))) ⟨[r2, s, t], ho6.rd, rfl, fun k g1 g2 => ?_⟩
    have hd6 := Hp.le_trans hl6 ho6.1
    match k, g1 with
    | 0, _ => exact (hr2.le hD).le hd6
    | 1, _ => exact (hr3.le hD).le hd6
    | 2, _ => exact hr11.le hd6
theorem sqf_x : sqfOk [-2, 0, 1] [-2, 0, 1] [0, 2] [0, 1] [0, 1] [-2] [1] [0, 1] [-2, 0, 1] [-2, 0, 1] = true := by decide +kernel
theorem chain_x : chainOk [-2, 0, 1] [-2, 0, 1] [0, 2] [0, (1 : Rat) / 2] [-2] [2] [0, 1] = true := by decide +kernel
theorem sqf_y : sqfOk [3, -5, 1, 1] [3, -5, 1, 1] [-5, 2, 3] [-5 / 3, (2 : Rat) / 3, 1] [(1 : Rat) / 3, 1] [(32 : Rat) / 9, -32 / 9] [-1, 1] [(5 : Rat) / 3, 1] [-3, 2, 1] [-3, 2, 1] = true := by decide +kernel
theorem chain_y : chainOk [3, -5, 1, 1] [-3, 2, 1] [2, 2] [(1 : Rat) / 2, (1 : Rat) / 2] [-4] [4] [(1 : Rat) / 2, (1 : Rat) / 2] = true := by decide +kernel
end
end Den
end

section
/-
  Sturm: the examples of the chapter, and the guards.
-/
set_option linter.unusedVariables false
namespace Den
open Go Iv Pq
/-- A variable that is set at once. -/
theorem var_set {h : Hp} {v w : Value} {K : Addr → Hp → Prop} (hw : ([w] : List Value).all Value.leaf = true) (H : ∀ p h', h.le h' → h'.cell p = some w → K p h') : newP [v] (fun p h1 => stP p [w] (fun h2 => K p h2) h1) h := by
  refine new_own (n := 1) (size := 1) rfl fun b h1 hb ho => ?_
  have key := (st_own (i := 0) (vs := [w]) (K := fun h2 => K ⟨b, 0, none⟩ h2) 0 ho rfl Nat.one_pos rfl (by decide) hw fun h' ho' => H _ h' ho'.1 ?_).2.2
  · exact key
  · have h2 := ho'.rd.2
    have e : splice [v] (0 * 1) [w] = [w] := rfl
    rw [e] at h2
    have h3 : cellsAt h' (⟨b, 0, none⟩ : Addr) 1 = some [w] := h2
    simp only [cellsAt] at h3
    split at h3
    · rename_i l e1
      have e2 : l = w := by simpa using h3
      rw [← e2, ← e1]; rfl
    · simp at h3
theorem b1_BR {c : Rat} (h : b1 [c] = true) : BR 1 c := by
  have h3 := of_decide_eq_true (List.all_eq_true.1 h c (by simp))
  refine ⟨?_, ?_⟩
  · unfold Lt; rw [Nat.pow_one, W_eq]; exact h3.1
  · unfold Lt; rw [Nat.pow_one, W_eq]; show ((c).den : Int).natAbs < 4294967296; omega
def small1 (ps : List (List Rat)) (c : Rat) : Bool := ps.all fun p => decide (p.length ≤ 7) && b1 ((List.range 8).map fun i => ev (p.drop i) c)
theorem small1_BR {ps : List (List Rat)} {c : Rat} (h : small1 ps c = true) : (∀ p ∈ ps, p.length ≤ 1000) ∧ ∀ p ∈ ps, ∀ i, BR 1 (ev (p.drop i) c) := by
  have key : ∀ p ∈ ps, p.length ≤ 7 ∧ ∀ i, i < 8 → BR 1 (ev (p.drop i) c) := by
    intro p hp
    have h1 := List.all_eq_true.1 h p hp
    rw [Bool.and_eq_true, decide_eq_true_eq] at h1
    refine ⟨h1.1, fun i hi => ?_⟩
    have h2 := List.all_eq_true.1 h1.2 (ev (p.drop i) c) (List.mem_map.2 ⟨i, List.mem_range.2 hi, rfl⟩)
    have h3 := of_decide_eq_true h2
    refine ⟨?_, ?_⟩
    · unfold Lt; rw [Nat.pow_one, W_eq]; exact h3.1
    · unfold Lt; rw [Nat.pow_one, W_eq]; show ((ev (p.drop i) c).den : Int).natAbs < 4294967296; omega
  refine ⟨fun p hp => Nat.le_trans (key p hp).1 (by decide), fun p hp i => ?_⟩
  rcases Nat.lt_or_ge i 8 with hi | hi
  · exact (key p hp).2 i hi
  · have := (key p hp).2 7 (by decide)
    have e : ∀ j, p.length ≤ j → p.drop j = [] := fun j hj => List.drop_of_length_le hj
    rw [e 7 (key p hp).1] at this
    rw [e i (Nat.le_trans (key p hp).1 (by omega))]; exact this
section
variable {h : Hp} {A B C : Nat} {l m : Sl} {p q : List Rat} {ps : List (List Rat)} {K : Sl → Hp → Prop} {Ki : Int → Hp → Prop} {Kb : Bool → Hp → Prop} {c : Rat} {x : TRat}
theorem changes_lit {n : Nat} (hq : QQL h 1 l ps) (hx : NR h x c) (bc : b1 [c] = true) (hlen : ps.length ≤ 1000) (hs : small1 ps c = true) (hn : chN ps c = n) (H : ∀ h', h.le h' → Ki (n : Int) h') : callP (F.sturm_Changes l x) Ki h :=
  pChanges_call hq hx (b1_BR bc) hlen (by decide) (by decide) (small1_BR hs).1 (small1_BR hs).2 (by decide) fun h' hl => by rw [hn]; exact H h' hl
theorem awake1_call {a : Addr} {i : Int} {n : Nat} (hc : h.cell a = some (slc l)) (hq : QQL h 1 l ps) (hi : -9223372036854775808 ≤ i ∧ i ≤ 9223372036854775807) (bi : b1 [(i : Rat)] = true) (hlen : ps.length ≤ 1000) (hs : small1 ps (i : Rat) = true) (hn : chN ps (i : Rat) = n) (H : ∀ h', h.le h' → Ki (n : Int) h') : callP (F.law05_awake_1 i (some a)) Ki h := by
  refine callP_of (fun v h' => v = (n : Int)) (fun K' hk => ?_) fun v h' hl hv => by subst hv; exact H h' hl
  unfold F.law05_awake_1
  refine ⟨l, hc, ?_⟩
  refine rqFromInt_call hi.1 hi.2 fun y h1 hl1 hy => ?_
  exact changes_lit (hq.le hl1) hy bi hlen hs hn fun h2 hl2 => hk _ _ (Hp.le_trans hl1 hl2) rfl
theorem total_lit {P M D E0 q10 r10 c10 q20 Q W E q1 r1 c q2 : List Rat} {b : Rat} {n1 n2 : Nat} (hok : sqfOk P M D E0 q10 r10 c10 q20 Q W = true) (hok2 : chainOk P W E q1 r1 c q2 = true) (hb : bndQ P = b) (bb : b1 [b] = true) (bb2 : b1 [-b] = true) (hpos : cmpQ (-b) b = -1) (hlen : P.length ≤ 7)
    (hs1 : small1 [W, E, c] (-b) = true) (hs2 : small1 [W, E, c] b = true) (hn1 : chN [W, E, c] (-b) = n1) (hn2 : chN [W, E, c] b = n2) (hn : n2 ≤ n1) (hbig : n1 ≤ 1000)
    (hp : PL h 1 l P) (H : ∀ h', h.le h' → Ki ((n1 - n2 : Nat) : Int) h') : callP (F.sturm_Total l) Ki h := by
  refine callP_of (fun v h' => v = ((n1 - n2 : Nat) : Int)) (fun K' hk => ?_) fun v h' hl hv => by subst hv; exact H h' hl
  unfold F.sturm_Total
  refine callP_of (fun v h' => NR h' v.low (-b) ∧ NR h' v.high b) (fun K1 hk1 => ?_) fun v h1 hl1 ⟨hv1, hv2⟩ => ?_
  · unfold F.sturm_around
    refine pBound_call hp (by omega) (by decide) fun r1 h1 hl1 hr1 => ?_
    rw [hb] at hr1
    refine qNeg_call hr1 (b1_BR bb) (by decide) fun r2 h2 hl2 hr2 => hk1 _ _ (Hp.le_trans hl1 hl2) ⟨hr2, hr1.le hl2⟩
  · refine callP_of (fun v h' => v = ((n1 - n2 : Nat) : Int)) (fun K1 hk1 => ?_) fun v h' hl hv => hk _ _ (Hp.le_trans hl1 hl) hv
    unfold F.sturm_Count
    refine qCmp_call hv1 hv2 (b1_BR bb2) (b1_BR bb) (by decide) (by decide) fun h2 hl2 => ?_
    rw [hpos]
    refine ifP_false rfl ?_
    refine chain_lit hok hok2 (hp.le (Hp.le_trans hl1 hl2)) fun y h3 hl3 hy => ?_
    have hl23 := Hp.le_trans hl2 hl3
    refine callP_of (fun v h' => v = ((n1 - n2 : Nat) : Int)) (fun K2 hk2 => ?_) fun v h' hl hv => hk1 _ _ (Hp.le_trans hl23 hl) hv
    unfold F.sturm_between
    refine changes_lit hy (hv1.le hl23) bb2 (Nat.le_of_ble_eq_true rfl) hs1 hn1 fun h4 hl4 => ?_
    refine changes_lit (hy.le hl4) ((hv2.le hl23).le hl4) bb (Nat.le_of_ble_eq_true rfl) hs2 hn2 fun h5 hl5 => hk2 _ _ (Hp.le_trans hl4 hl5) ?_
    rw [w64 (by omega)]; omega
theorem awake5_call (H : ∀ h', h.le h' → Kb true h') : callP F.law05_awake Kb h := by
  refine callP_of (fun b h' => b = true) (fun K' hk => ?_) fun b h' hl hb => by subst hb; exact H h' hl
  unfold F.law05_awake
  refine poly5_lit [-2, 0, 1] [-2, 0, 1] rfl rfl (by decide) (by decide +kernel) (by decide) fun r2 h2 hl2 hr2 => ?_
  refine chain_lit sqf_x chain_x hr2 fun r3 h3 hl3 hr3 => ?_
  refine var_set rfl fun a h4 hl4 hc4 => ?_
  refine ⟨r3, hc4, ?_⟩
  refine poly5_lit [-2, 0, 1] [-2, 0, 1] rfl rfl (by decide) (by decide +kernel) (by decide) fun r7 h7 hl7 hr7 => ?_
  refine poly5_lit [0, 2] [0, 2] rfl rfl (by decide) (by decide +kernel) (by decide) fun r9 h9 hl9 hr9 => ?_
  refine poly5_lit [2] [2] rfl rfl (by decide) (by decide +kernel) (by decide) fun r11 h11 hl11 hr11 => ?_
  refine new_own (n := 3) (size := 1) rfl fun b h12 hb ho => ?_
  have l4 : h4.le h12 := Hp.le_trans hl7 (Hp.le_trans hl9 (Hp.le_trans hl11 ho.1))
  have hq : QQL h12 1 r3 [[-2, 0, 1], [0, 2], [2]] := (hr3.le hl4).le l4
  have hl2' : PL h12 1 r7 [-2, 0, 1] := ((hr7.le hl9).le hl11).le ho.1
  have hl3' : PL h12 1 r9 [0, 2] := (hr9.le hl11).le ho.1
  have hl4' : PL h12 1 r11 [2] := hr11.le ho.1
  have hq2 : QQL h12 1 ⟨some ⟨b, 0, none⟩, 3, 3⟩ [[-2, 0, 1], [0, 2], [2]] := ⟨[r7, r9, r11], ho.rd, rfl, fun k g1 g2 => by
    match k, g1 with
    | 0, _ => exact hl2'
    | 1, _ => exact hl3'
    | 2, _ => exact hl4'⟩
  have hc12 : h12.cell a = some (slc r3) := Hp.cell_le l4 hc4
  refine same5_call hq hq2 rfl (by decide) (by decide) fun h13 hl13 => ifP_true rfl ?_
  refine awake1_call (n := 1) (Hp.cell_le hl13 hc12) (hq.le hl13) (by decide) (by decide +kernel) (by decide) (by decide +kernel) (by decide +kernel) fun h14 hl14 => ifP_true rfl ?_
  have l14 := Hp.le_trans hl13 hl14
  refine awake1_call (n := 0) (Hp.cell_le l14 hc12) (hq.le l14) (by decide) (by decide +kernel) (by decide) (by decide +kernel) (by decide +kernel) fun h15 hl15 => ifP_true rfl ?_
  refine poly5_lit [3, -5, 1, 1] [3, -5, 1, 1] rfl rfl (by decide) (by decide +kernel) (by decide) fun r17 h17 hl17 hr17 => ?_
  refine total_lit (n1 := 2) (n2 := 0) (b := 6) sqf_y chain_y (by decide +kernel) (by decide +kernel) (by decide +kernel) (by decide +kernel) (by decide) (by decide +kernel) (by decide +kernel) (by decide +kernel) (by decide +kernel) (by decide) (by decide) hr17 fun h18 hl18 => ?_
  exact hk _ _ (Hp.le_trans hl2 (Hp.le_trans hl3 (Hp.le_trans hl4 (Hp.le_trans l4 (Hp.le_trans l14 (Hp.le_trans hl15 (Hp.le_trans hl17 hl18))))))) rfl

/-- Any value of the type, with numbers that can stand in memory. -/
def ARX (h : Hp) (x : TRat) : Prop := AR h x ∧ x.num.mag.len ≤ 35184372087808 ∧ x.den.mag.len ≤ 35184372087808
def AQX (h : Hp) (l : Sl) : Prop := ∃ xs, RdQ h l xs ∧ (∀ x ∈ xs, ARX h x) ∧ l.len ≤ l.cap ∧ l.len ≤ 35184372088832
theorem ARX.le {h h' : Hp} {x : TRat} (ha : ARX h x) (hl : h.le h') : ARX h' x := ⟨ha.1.le hl, ha.2⟩
theorem AQX.le {h h' : Hp} {l : Sl} (ha : AQX h l) (hl : h.le h') : AQX h' l := by
  obtain ⟨xs, h1, h2, h3⟩ := ha
  exact ⟨xs, h1.le hl, fun x hx => (h2 x hx).le hl, h3⟩
theorem rShort5_call (hx : ARX h x) (H1 : ∀ v h', h.le h' → NR h x v → BR 3 v → Kb true h') (H0 : ∀ h', h.le h' → Kb false h') : callP (F.ref05_Short x) Kb h := by
  refine callP_of (fun b h' => (b = true ∧ ∃ v, NR h x v ∧ BR 3 v) ∨ b = false) (fun K' hk => ?_) fun b h' hl hv => by
    rcases hv with ⟨rfl, v, h1, h2⟩ | rfl
    · exact H1 v h' hl h1 h2
    · exact H0 h' hl
  unfold F.ref05_Short
  refine rqValid_call hx.1 hx.2.1 hx.2.2 (fun v h3 hl3 hv => ifP_true rfl (ifP_dec (fun h1 => ?_) (fun h1 => hk _ _ hl3 (.inr rfl)))) (fun h3 hl3 _ => ifP_false rfl (hk _ _ hl3 (.inr rfl)))
  refine hk _ _ hl3 ?_
  rcases Bool.eq_false_or_eq_true (decide ((x.den.mag.len : Int) ≤ 3)) with h5 | h5
  · have h6 := of_decide_eq_true h5
    exact .inl ⟨h5, v, hv, NR_BR hv (by omega) (by omega)⟩
  · exact .inr h5
theorem rSmall5_call (ha : AQX h l) (H1 : ∀ vs h', h.le h' → PL h 3 l vs → vs.length ≤ 8 → Kb true h') (H0 : ∀ h', h.le h' → Kb false h') : callP (F.ref05_Small l) Kb h := by
  refine callP_of (fun b h' => (b = true ∧ ∃ vs, PL h 3 l vs ∧ vs.length ≤ 8) ∨ b = false) (fun K' hk => ?_) fun b h' hl hv => by
    rcases hv with ⟨rfl, v, h1, h2⟩ | rfl
    · exact H1 v h' hl h1 h2
    · exact H0 h' hl
  unfold F.ref05_Small
  obtain ⟨xs, h1, h2, h3, h3b⟩ := ha
  have hl := RdQ.len h1
  refine loopP_of (fun st h' => h.le h' ∧ ∃ i : Nat, st.1 = (i : Int) ∧ i ≤ xs.length ∧ ∃ vs, QL h 3 (xs.take i) vs) (fun st => (xs.length - st.1).toNat) ⟨Hp.le_refl _, 0, rfl, Nat.zero_le _, [], rfl, fun k g1 _ => by simp at g1⟩ ?_
  rintro ⟨_, _⟩ h5 ⟨hl5, i, hi, hi2, vs, hq⟩
  simp only at hi
  subst hi
  refine ifP_dec (fun h6 => ?_) (fun h6 => ?_)
  · simp only at h6
    have hi' : i < xs.length := by omega
    refine rd_rat i (h1.le hl5) rfl hi' ?_
    refine callP_sub hl5 (K1 := fun b _ => (b = true ∧ ∃ v, NR h xs[i] v ∧ BR 3 v) ∨ b = false) (rShort5_call (h2 _ (List.getElem_mem hi')) (fun v h' _ hv hb => .inl ⟨rfl, v, hv, hb⟩) (fun h' _ => .inr rfl)) fun b D' h7 hl7 hl8 hfr hb => ?_
    have hh7 : h.le h7 := Hp.le_trans hl7 hl8
    rcases hb with ⟨rfl, v, hv, hb⟩ | rfl
    · refine ifP_false rfl ⟨⟨hh7, i + 1, ?_, hi', vs ++ [v], ?_⟩, ?_⟩
      · simp only; rw [w64 (by omega)]; rfl
      · rw [List.take_succ_eq_append_getElem hi']
        exact QL.snoc hq hv hb
      · simp only; rw [w64 (by omega)]; omega
    · exact ifP_true rfl (hk _ _ hh7 (.inr rfl))
  · simp only at h6
    have hi' : i = xs.length := by omega
    subst hi'
    rw [List.take_length] at hq
    refine hk _ _ hl5 ?_
    rcases Bool.eq_false_or_eq_true (decide ((l.len : Int) ≤ 8)) with h7 | h7
    · have h8 := of_decide_eq_true h7
      exact .inl ⟨h7, vs, ⟨xs, h1, hq, h3⟩, by rw [← hq.1]; omega⟩
    · exact .inr h7
end
end Den
end

section
/-
  Sturm: the statement on changes of sign, in plain form.
-/
set_option linter.unusedVariables false
namespace Den
open Go Iv Pq
/-- Any list of lists of numbers. -/
def AQQX (h : Hp) (l : Sl) : Prop := ∃ ss : List Sl, Rd h 1 l (ss.map slc) ∧ (∀ s ∈ ss, AQX h s) ∧ l.len ≤ 35184372088832
theorem AQQX.le {h h' : Hp} {l : Sl} (ha : AQQX h l) (hl : h.le h') : AQQX h' l := by
  obtain ⟨xs, h1, h2, h3⟩ := ha
  exact ⟨xs, h1.le hl, fun x hx => (h2 x hx).le hl, h3⟩
theorem QQL_of {h : Hp} {B n : Nat} : ∀ {ss : List Sl}, (∀ s ∈ ss, ∃ vs, PL h B s vs ∧ vs.length ≤ n) → ∃ ps : List (List Rat), ss.length = ps.length ∧ (∀ p ∈ ps, p.length ≤ n ∧ ∀ v ∈ p, BR B v) ∧ ∀ k (h1 : k < ss.length) (h2 : k < ps.length), PL h B ss[k] ps[k]
  | [], _ => ⟨[], rfl, fun p hp => by simp at hp, fun k h1 => by simp at h1⟩
  | s :: r, hs => by
    obtain ⟨ps, h1, h2, h3⟩ := QQL_of (ss := r) fun x hx => hs x (List.mem_cons_of_mem _ hx)
    obtain ⟨vs, hv, lv⟩ := hs s (by simp)
    refine ⟨vs :: ps, by simp [h1], fun p hp => ?_, fun k g1 g2 => ?_⟩
    · rcases List.mem_cons.1 hp with rfl | hp
      · exact ⟨lv, hv.bound⟩
      · exact h2 p hp
    · match k with
      | 0 => exact hv
      | k + 1 => exact h3 k (by simpa using g1) (by simpa using g2)
section
variable {h : Hp} {A B C : Nat} {l m : Sl} {K Kb : Bool → Hp → Prop} {x : TRat}
theorem small5_call {ss : List Sl} (hr : Rd h 1 l (ss.map slc)) (ha : ∀ s ∈ ss, AQX h s) (hlen : ss.length ≤ 100) (H1 : ∀ h', h.le h' → (∀ s ∈ ss, ∃ vs, PL h 3 s vs ∧ vs.length ≤ 8) → Kb true h') (H0 : ∀ h', h.le h' → Kb false h') : callP (F.law05_small l) Kb h := by
  refine callP_of (fun b h' => (b = true ∧ ∀ s ∈ ss, ∃ vs, PL h 3 s vs ∧ vs.length ≤ 8) ∨ b = false) (fun K' hk => ?_) fun b h' hl hv => by
    rcases hv with ⟨rfl, h1⟩ | rfl
    · exact H1 h' hl h1
    · exact H0 h' hl
  unfold F.law05_small
  have hl : l.len = ss.length := by have := hr.1; simp at this; omega
  refine loopP_of (fun st h' => h.le h' ∧ ∃ i : Nat, st.1 = (i : Int) ∧ i ≤ ss.length ∧ ∀ s ∈ ss.take i, ∃ vs, PL h 3 s vs ∧ vs.length ≤ 8) (fun st => (ss.length - st.1).toNat) ⟨Hp.le_refl _, 0, rfl, Nat.zero_le _, fun s hs => by simp at hs⟩ ?_
  rintro ⟨_, _⟩ h5 ⟨hl5, i, hi, hi2, hall⟩
  simp only at hi
  subst hi
  refine ifP_dec (fun h6 => ?_) (fun h6 => ?_)
  · simp only at h6
    have hi' : i < ss.length := by omega
    refine rd_one i (hr.le hl5) rfl (v := slc ss[i]) (by rw [List.getElem?_map, List.getElem?_eq_getElem hi']; rfl) fun a hc => ⟨ss[i], hc, ?_⟩
    refine callP_sub hl5 (K1 := fun b _ => (b = true ∧ ∃ vs, PL h 3 ss[i] vs ∧ vs.length ≤ 8) ∨ b = false) (rSmall5_call (ha _ (List.getElem_mem hi')) (fun vs h' _ hv hb => .inl ⟨rfl, vs, hv, hb⟩) (fun h' _ => .inr rfl)) fun b D' h7 hl7 hl8 hfr hb => ?_
    have hh7 : h.le h7 := Hp.le_trans hl7 hl8
    rcases hb with ⟨rfl, hv⟩ | rfl
    · refine ifP_false rfl ⟨⟨hh7, i + 1, ?_, hi', ?_⟩, ?_⟩
      · simp only; rw [w64 (by omega)]; rfl
      · rw [List.take_succ_eq_append_getElem hi']
        intro s hs
        rcases List.mem_append.1 hs with hs | hs
        · exact hall s hs
        · rw [List.mem_singleton.1 hs]; exact hv
      · simp only; rw [w64 (by omega)]; omega
    · exact ifP_true rfl (hk _ _ hh7 (.inr rfl))
  · simp only at h6
    have hi' : i = ss.length := by omega
    subst hi'
    rw [List.take_length] at hall
    exact hk _ _ hl5 (.inl ⟨rfl, hall⟩)
theorem law_SturmChanges (ha : AQQX h l) (hx : ARX h x) (H : ∀ h', h.le h' → K true h') : F.law05_SturmChanges l x K h := by
  unfold F.law05_SturmChanges
  obtain ⟨ss, hr, hall, hlen⟩ := ha
  have hl : l.len = ss.length := by have := hr.1; simp at this; omega
  refine joinP_inv (fun _ h' => h.le h' ∧ ∃ ps c, QQL h' 3 l ps ∧ ps.length ≤ 8 ∧ (∀ p ∈ ps, p.length ≤ 8 ∧ ∀ v ∈ p, BR 3 v) ∧ NR h' x c ∧ BR 3 c) ?_ ?_
  · rintro _ h1 ⟨hl1, ps, c, hq, lp, hp, hc, bc⟩
    have hC : ∀ p ∈ ps, ∀ i, BR 57 (ev (p.drop i) c) := fun p hm i => BR.mono (ev_drop_BR bc (hp p hm).2 i) (by have := Nat.mul_le_mul_right (3 + 3 + 1) (hp p hm).1; omega)
    refine pChanges_call hq hc bc (by omega) (by decide) (by decide) (fun p hm => Nat.le_trans (hp p hm).1 (by decide)) hC (by decide) fun h2 hl2 => ?_
    refine rChanges_call (hq.le hl2) (hc.le hl2) bc (by omega) (by decide) (by decide) (fun p hm => Nat.le_trans (hp p hm).1 (by decide)) hC (by decide) fun h3 hl3 => ?_
    have := H h3 (Hp.le_trans hl1 (Hp.le_trans hl2 hl3))
    simpa using this
  · refine awake5_call fun h1 hl1 => ifP_false rfl ?_
    refine ifP_dec (fun h2 => awake5_call fun h3 hl3 => H _ (Hp.le_trans hl1 hl3)) (fun h2 => ?_)
    refine small5_call (hr.le hl1) (fun s hs => (hall s hs).le hl1) (by omega) (fun h3 hl3 hsm => ifP_false rfl ?_) (fun h3 hl3 => ifP_true rfl (awake5_call fun h4 hl4 => H _ (Hp.le_trans hl1 (Hp.le_trans hl3 hl4))))
    have hl13 := Hp.le_trans hl1 hl3
    refine rShort5_call (hx.le hl13) (fun c h4 hl4 hc bc => ifP_false rfl ?_) (fun h4 hl4 => ifP_true rfl (awake5_call fun h5 hl5 => H _ (Hp.le_trans hl13 (Hp.le_trans hl4 hl5))))
    have hl14 := Hp.le_trans hl13 hl4
    obtain ⟨ps, e1, e2, e3⟩ := QQL_of hsm
    refine ⟨hl14, ps, c, ⟨ss, hr.le hl14, e1, fun k g1 g2 => (e3 k g1 g2).le (Hp.le_trans hl3 hl4)⟩, by omega, e2, hc.le hl4, bc⟩
end
end Den
end

section
/-
  Rational numbers, lists of them, and lists of lists, as arguments, with bounds on their sizes.
-/
set_option linter.unusedVariables false
namespace Den
open Go Iv Go.Proofs
open Go.ChangeShapes Go.WideShapes Go.ChangeAt Go.RowKit
section
variable {H : Type} {enc : TypeId × Value → H} {w : World} {s : Sl} {cs : List Value}
theorem okt_RX (h : Okt enc Tryz.prog w 39 cs) : ∃ x : TRat, cs = [.bool x.num.neg, Lf.sl.up x.num.mag, .bool x.den.neg, Lf.sl.up x.den.mag] ∧ True ∧ ARX (hpW w) x := by
  obtain ⟨x, h1, h2, h3⟩ := okt_RS h
  exact ⟨x, h1, trivial, h3, h2⟩
theorem qcX_of : ∀ {css : List (List Value)}, (∀ c ∈ css, c.length = 4 ∧ Okt enc Tryz.prog w 39 c) → ∃ xs : List TRat, css.flatten = xs.flatMap qc ∧ ∀ x ∈ xs, ARX (hpW w) x
  | [], _ => ⟨[], rfl, fun d hd => by simp at hd⟩
  | c :: r, h => by
    obtain ⟨l, h1, h2⟩ := qcX_of (css := r) fun x hx => h x (List.mem_cons_of_mem _ hx)
    obtain ⟨x, hx, _, ax⟩ := okt_RX (h c (by simp)).2
    refine ⟨x :: l, ?_, fun d hd => ?_⟩
    · rw [List.flatten_cons, h1, hx]; rfl
    · rcases List.mem_cons.1 hd with rfl | hd
      · exact ax
      · exact h2 d hd
theorem okt_QX (h : Okt enc Tryz.prog w 22 [Lf.sl.up s]) : AQX (hpW w) s ∧ s.len ≤ 35184372088832 := by
  obtain ⟨s', hs, h1, h2, css, h3, h4, h5⟩ := h.slice Tryz.underlying22
  have e : s = s' := by
    simp only [List.cons.injEq, and_true] at hs
    exact Lf.up_inj hs
  subst e
  rw [c_R] at h4 h5
  rw [by_R, show reachBytes = 140737488351232 from rfl] at h2
  obtain ⟨xs, hx, ax⟩ := qcX_of h4
  rw [hx] at h5
  exact ⟨⟨xs, h5, ax, h1, by omega⟩, by omega⟩
theorem c_Q : Tryz.prog.cellsOf 22 = 1 := by kernel_rfl
theorem by_Q : Tryz.prog.bytesOf 22 = 24 := by kernel_rfl
theorem slX_of : ∀ {css : List (List Value)}, (∀ c ∈ css, c.length = 1 ∧ Okt enc Tryz.prog w 22 c) → ∃ ss : List Sl, css.flatten = ss.map slc ∧ ∀ x ∈ ss, AQX (hpW w) x
  | [], _ => ⟨[], rfl, fun d hd => by simp at hd⟩
  | c :: r, h => by
    obtain ⟨l, h1, h2⟩ := slX_of (css := r) fun x hx => h x (List.mem_cons_of_mem _ hx)
    have hc := (h c (by simp)).2
    obtain ⟨s', hs, _⟩ := hc.slice Tryz.underlying22
    subst hs
    refine ⟨s' :: l, ?_, fun d hd => ?_⟩
    · rw [List.flatten_cons, h1]; rfl
    · rcases List.mem_cons.1 hd with rfl | hd
      · exact (okt_QX hc).1
      · exact h2 d hd
theorem okt_QQ (h : Okt enc Tryz.prog w 52 [Lf.sl.up s]) : AQQX (hpW w) s ∧ s.len ≤ 35184372088832 := by
  obtain ⟨s', hs, h1, h2, css, h3, h4, h5⟩ := h.slice Tryz.underlying52
  have e : s = s' := by
    simp only [List.cons.injEq, and_true] at hs
    exact Lf.up_inj hs
  subst e
  rw [c_Q] at h4 h5
  rw [by_Q, show reachBytes = 140737488351232 from rfl] at h2
  obtain ⟨xs, hx, ax⟩ := slX_of h4
  rw [hx] at h5
  exact ⟨⟨xs, h5, ax, by omega⟩, by omega⟩
end
end Den
end

section
/- MADE BY fbuild.py: the entries of the functions. -/
set_option maxRecDepth 100000
set_option linter.unusedVariables false
namespace Den
open Go
noncomputable def A_ref01_trim : ArgT (Sl × Unit) := (ArgT.cons (Ty.leaf .sl) ArgT.nil)
noncomputable def R_ref01_trim : Ty Sl := (Ty.leaf .sl)
noncomputable def e_ref01_trim : FSem := mkE A_ref01_trim R_ref01_trim (fun a => F.ref01_trim a.1)
noncomputable def c_ref01_trim : Cfg := { P := Go.Proofs.Tryz.prog, n := 21, tab := [], mutL := [], rtL := [], locL := [] }
noncomputable def b_ref01_trim : Code := match Go.Proofs.Tryz.f136.body with | some c => c | none => .skip
noncomputable def a_ref01_trim : An := (.seq .leaf (.seq (.block (.loop [(0, .leaf (.sl))] (.join [] (.seq .leaf (.cond .leaf .leaf)) (.block .leaf)))) (.seq .leaf .leaf)))
theorem t_ref01_trim : Entry Go.Proofs.Tryz.prog 136 e_ref01_trim false :=
  entry_of (C := c_ref01_trim) (fn := Go.Proofs.Tryz.f136) (c := b_ref01_trim) (an := a_ref01_trim) trivial trivial Go.Proofs.Tryz.func136 rfl rfl (by decide) (fun _ => rfl) (by intro a K D; kernel_rfl)
noncomputable def A_ref01_words : ArgT (Int × Unit) := (ArgT.cons (Ty.leaf (.int .u64)) ArgT.nil)
noncomputable def R_ref01_words : Ty Sl := (Ty.leaf .sl)
noncomputable def e_ref01_words : FSem := mkE A_ref01_words R_ref01_words (fun a => F.ref01_words a.1)
noncomputable def c_ref01_words : Cfg := { P := Go.Proofs.Tryz.prog, n := 10, tab := [(136, e_ref01_trim)], mutL := [], rtL := [], locL := [] }
noncomputable def b_ref01_words : Code := match Go.Proofs.Tryz.f147.body with | some c => c | none => .skip
noncomputable def a_ref01_words : An := (.seq .leaf (.seq .leaf .leaf))
theorem t_ref01_words : Entry Go.Proofs.Tryz.prog 147 e_ref01_words false :=
  entry_of (C := c_ref01_words) (fn := Go.Proofs.Tryz.f147) (c := b_ref01_words) (an := a_ref01_words) ⟨t_ref01_trim, trivial⟩ trivial Go.Proofs.Tryz.func147 rfl rfl (by decide) (fun _ => rfl) (by intro a K D; kernel_rfl)
noncomputable def A_ref01_signed : ArgT (Bool × Sl × Unit) := (ArgT.cons (Ty.leaf .bool) (ArgT.cons (Ty.leaf .sl) ArgT.nil))
noncomputable def R_ref01_signed : Ty TInt := tyTInt
noncomputable def e_ref01_signed : FSem := mkE A_ref01_signed R_ref01_signed (fun a => F.ref01_signed a.1 a.2.1)
noncomputable def c_ref01_signed : Cfg := { P := Go.Proofs.Tryz.prog, n := 15, tab := [(136, e_ref01_trim)], mutL := [], rtL := [], locL := [4] }
noncomputable def b_ref01_signed : Code := match Go.Proofs.Tryz.f146.body with | some c => c | none => .skip
noncomputable def a_ref01_signed : An := (.seq .leaf (.seq .leaf (.seq .leaf .leaf)))
theorem t_ref01_signed : Entry Go.Proofs.Tryz.prog 146 e_ref01_signed false :=
  entry_of (C := c_ref01_signed) (fn := Go.Proofs.Tryz.f146) (c := b_ref01_signed) (an := a_ref01_signed) ⟨t_ref01_trim, trivial⟩ trivial Go.Proofs.Tryz.func146 rfl rfl (by decide) (fun _ => rfl) (by intro a K D; kernel_rfl)
noncomputable def A_ref01_FromInt : ArgT (Int × Unit) := (ArgT.cons (Ty.leaf (.int .i64)) ArgT.nil)
noncomputable def R_ref01_FromInt : Ty TInt := tyTInt
noncomputable def e_ref01_FromInt : FSem := mkE A_ref01_FromInt R_ref01_FromInt (fun a => F.ref01_FromInt a.1)
noncomputable def c_ref01_FromInt : Cfg := { P := Go.Proofs.Tryz.prog, n := 14, tab := [(147, e_ref01_words), (146, e_ref01_signed)], mutL := [], rtL := [], locL := [2] }
noncomputable def b_ref01_FromInt : Code := match Go.Proofs.Tryz.f88.body with | some c => c | none => .skip
noncomputable def a_ref01_FromInt : An := (.seq .leaf (.seq (.seq .leaf (.cond (.seq .leaf .leaf) .leaf)) (.seq .leaf .leaf)))
theorem t_ref01_FromInt : Entry Go.Proofs.Tryz.prog 88 e_ref01_FromInt false :=
  entry_of (C := c_ref01_FromInt) (fn := Go.Proofs.Tryz.f88) (c := b_ref01_FromInt) (an := a_ref01_FromInt) ⟨t_ref01_words, t_ref01_signed, trivial⟩ trivial Go.Proofs.Tryz.func88 rfl rfl (by decide) (fun _ => rfl) (by intro a K D; kernel_rfl)
noncomputable def A_ref02_FromInt : ArgT (Int × Unit) := (ArgT.cons (Ty.leaf (.int .i64)) ArgT.nil)
noncomputable def R_ref02_FromInt : Ty TRat := tyTRat
noncomputable def e_ref02_FromInt : FSem := mkE A_ref02_FromInt R_ref02_FromInt (fun a => F.ref02_FromInt a.1)
noncomputable def c_ref02_FromInt : Cfg := { P := Go.Proofs.Tryz.prog, n := 7, tab := [(88, e_ref01_FromInt)], mutL := [], rtL := [], locL := [2] }
noncomputable def b_ref02_FromInt : Code := match Go.Proofs.Tryz.f81.body with | some c => c | none => .skip
noncomputable def a_ref02_FromInt : An := (.seq .leaf (.seq .leaf .leaf))
theorem t_ref02_FromInt : Entry Go.Proofs.Tryz.prog 81 e_ref02_FromInt false :=
  entry_of (C := c_ref02_FromInt) (fn := Go.Proofs.Tryz.f81) (c := b_ref02_FromInt) (an := a_ref02_FromInt) ⟨t_ref01_FromInt, trivial⟩ trivial Go.Proofs.Tryz.func81 rfl rfl (by decide) (fun _ => rfl) (by intro a K D; kernel_rfl)
noncomputable def A_ref01_compare : ArgT (Sl × Sl × Unit) := (ArgT.cons (Ty.leaf .sl) (ArgT.cons (Ty.leaf .sl) ArgT.nil))
noncomputable def R_ref01_compare : Ty Int := (Ty.leaf (.int .i64))
noncomputable def e_ref01_compare : FSem := mkE A_ref01_compare R_ref01_compare (fun a => F.ref01_compare a.1 a.2.1)
noncomputable def c_ref01_compare : Cfg := { P := Go.Proofs.Tryz.prog, n := 41, tab := [], mutL := [], rtL := [], locL := [] }
noncomputable def b_ref01_compare : Code := match Go.Proofs.Tryz.f174.body with | some c => c | none => .skip
noncomputable def a_ref01_compare : An := (.seq .leaf (.seq (.seq .leaf (.cond (.seq (.seq .leaf (.cond (.seq .leaf .leaf) .leaf)) (.seq .leaf .leaf)) .leaf)) (.seq (.seq .leaf (.block (.loop [(5, .leaf (.int .i64))] (.seq (.seq .leaf (.cond .leaf .leaf)) (.seq (.block (.seq (.seq (.draw [0, 1, 2, 3, 4, 5, 6, 7, 8]) (.cond (.seq .leaf .leaf) .leaf)) (.seq (.draw [0, 1, 2, 3, 4, 5, 6, 7, 8]) (.cond (.seq .leaf .leaf) .leaf)))) .leaf))))) (.seq .leaf .leaf))))
theorem t_ref01_compare : Entry Go.Proofs.Tryz.prog 174 e_ref01_compare false :=
  entry_of (C := c_ref01_compare) (fn := Go.Proofs.Tryz.f174) (c := b_ref01_compare) (an := a_ref01_compare) trivial trivial Go.Proofs.Tryz.func174 rfl rfl (by decide) (fun _ => rfl) (by intro a K D; kernel_rfl)
noncomputable def A_ref01_short : ArgT (Sl × Unit) := (ArgT.cons (Ty.leaf .sl) ArgT.nil)
noncomputable def R_ref01_short : Ty Int := (Ty.leaf (.int .u64))
noncomputable def e_ref01_short : FSem := mkE A_ref01_short R_ref01_short (fun a => F.ref01_short a.1)
noncomputable def c_ref01_short : Cfg := { P := Go.Proofs.Tryz.prog, n := 21, tab := [], mutL := [], rtL := [], locL := [] }
noncomputable def b_ref01_short : Code := match Go.Proofs.Tryz.f175.body with | some c => c | none => .skip
noncomputable def a_ref01_short : An := (.seq .leaf (.seq .leaf (.seq (.seq .leaf (.block (.loop [(3, .leaf (.int .u64)), (4, .leaf (.int .i64))] (.seq (.seq .leaf (.cond .leaf .leaf)) (.seq (.block .leaf) .leaf))))) (.seq .leaf .leaf))))
theorem t_ref01_short : Entry Go.Proofs.Tryz.prog 175 e_ref01_short false :=
  entry_of (C := c_ref01_short) (fn := Go.Proofs.Tryz.f175) (c := b_ref01_short) (an := a_ref01_short) trivial trivial Go.Proofs.Tryz.func175 rfl rfl (by decide) (fun _ => rfl) (by intro a K D; kernel_rfl)
noncomputable def A_ref01_by : ArgT (Sl × Int × Unit) := (ArgT.cons (Ty.leaf .sl) (ArgT.cons (Ty.leaf (.int .u32)) ArgT.nil))
noncomputable def R_ref01_by : Ty (Sl × Int) := (Ty.tup (.cons (Ty.leaf .sl) (.cons (Ty.leaf (.int .u32)) .nil)) (fun x => (x.1, x.2, ())) (fun y => (y.1, y.2.1)) (fun _ => rfl) (fun _ => rfl))
noncomputable def e_ref01_by : FSem := mkE A_ref01_by R_ref01_by (fun a => F.ref01_by a.1 a.2.1)
noncomputable def c_ref01_by : Cfg := { P := Go.Proofs.Tryz.prog, n := 43, tab := [(136, e_ref01_trim)], mutL := [], rtL := [], locL := [] }
noncomputable def b_ref01_by : Code := match Go.Proofs.Tryz.f176.body with | some c => c | none => .skip
noncomputable def a_ref01_by : An := (.seq .leaf (.seq .leaf (.seq .leaf (.seq (.seq .leaf (.block (.loop [(7, .leaf (.int .u64)), (8, .leaf (.int .i64))] (.seq (.seq .leaf (.cond .leaf .leaf)) (.seq (.block (.seq .leaf (.seq .leaf .leaf))) .leaf))))) (.seq .leaf .leaf)))))
theorem t_ref01_by : Entry Go.Proofs.Tryz.prog 176 e_ref01_by false :=
  entry_of (C := c_ref01_by) (fn := Go.Proofs.Tryz.f176) (c := b_ref01_by) (an := a_ref01_by) ⟨t_ref01_trim, trivial⟩ trivial Go.Proofs.Tryz.func176 rfl rfl (by decide) (fun _ => rfl) (by intro a K D; kernel_rfl)
noncomputable def A_ref01_length : ArgT (Sl × Unit) := (ArgT.cons (Ty.leaf .sl) ArgT.nil)
noncomputable def R_ref01_length : Ty Int := (Ty.leaf (.int .i64))
noncomputable def e_ref01_length : FSem := mkE A_ref01_length R_ref01_length (fun a => F.ref01_length a.1)
noncomputable def c_ref01_length : Cfg := { P := Go.Proofs.Tryz.prog, n := 26, tab := [], mutL := [], rtL := [], locL := [] }
noncomputable def b_ref01_length : Code := match Go.Proofs.Tryz.f135.body with | some c => c | none => .skip
noncomputable def a_ref01_length : An := (.seq .leaf (.seq (.seq .leaf (.cond (.seq .leaf .leaf) .leaf)) (.seq .leaf (.seq (.seq .leaf (.block (.loop [(3, .leaf (.int .i64)), (4, .leaf (.int .u32))] (.seq (.seq .leaf (.cond .leaf .leaf)) (.seq (.block .leaf) .leaf))))) (.seq .leaf .leaf)))))
theorem t_ref01_length : Entry Go.Proofs.Tryz.prog 135 e_ref01_length false :=
  entry_of (C := c_ref01_length) (fn := Go.Proofs.Tryz.f135) (c := b_ref01_length) (an := a_ref01_length) trivial trivial Go.Proofs.Tryz.func135 rfl rfl (by decide) (fun _ => rfl) (by intro a K D; kernel_rfl)
noncomputable def A_ref01_shifted : ArgT (Sl × Int × Unit) := (ArgT.cons (Ty.leaf .sl) (ArgT.cons (Ty.leaf (.int .i64)) ArgT.nil))
noncomputable def R_ref01_shifted : Ty Sl := (Ty.leaf .sl)
noncomputable def e_ref01_shifted : FSem := mkE A_ref01_shifted R_ref01_shifted (fun a => F.ref01_shifted a.1 a.2.1)
noncomputable def c_ref01_shifted : Cfg := { P := Go.Proofs.Tryz.prog, n := 43, tab := [], mutL := [], rtL := [], locL := [] }
noncomputable def b_ref01_shifted : Code := match Go.Proofs.Tryz.f177.body with | some c => c | none => .skip
noncomputable def a_ref01_shifted : An := (.seq .leaf (.seq .leaf (.seq (.seq .leaf (.block (.loop [(6, .leaf (.int .i64))] (.seq (.seq .leaf (.cond .leaf .leaf)) (.seq (.block (.seq .leaf (.seq .leaf .leaf))) .leaf))))) (.seq .leaf .leaf))))
theorem t_ref01_shifted : Entry Go.Proofs.Tryz.prog 177 e_ref01_shifted false :=
  entry_of (C := c_ref01_shifted) (fn := Go.Proofs.Tryz.f177) (c := b_ref01_shifted) (an := a_ref01_shifted) trivial trivial Go.Proofs.Tryz.func177 rfl rfl (by decide) (fun _ => rfl) (by intro a K D; kernel_rfl)
noncomputable def A_ref01_times : ArgT (Sl × Sl × Unit) := (ArgT.cons (Ty.leaf .sl) (ArgT.cons (Ty.leaf .sl) ArgT.nil))
noncomputable def R_ref01_times : Ty Sl := (Ty.leaf .sl)
noncomputable def e_ref01_times : FSem := mkE A_ref01_times R_ref01_times (fun a => F.ref01_times a.1 a.2.1)
noncomputable def c_ref01_times : Cfg := { P := Go.Proofs.Tryz.prog, n := 67, tab := [(136, e_ref01_trim)], mutL := [], rtL := [], locL := [] }
noncomputable def b_ref01_times : Code := match Go.Proofs.Tryz.f152.body with | some c => c | none => .skip
noncomputable def a_ref01_times : An := (.seq .leaf (.seq .leaf (.seq (.seq .leaf (.block (.loop [(6, .leaf (.int .i64))] (.seq (.seq .leaf (.cond .leaf .leaf)) (.seq (.block (.seq .leaf (.seq (.seq .leaf (.block (.loop [(7, .leaf (.int .u64)), (8, .leaf (.int .i64))] (.seq (.seq .leaf (.cond .leaf .leaf)) (.seq (.block (.seq (.draw [0, 1, 2, 3, 4, 5, 6, 7, 8, 9, 10, 11, 12, 13, 14, 15, 16, 17, 18, 19, 20, 21]) (.seq .leaf .leaf))) .leaf))))) .leaf))) .leaf))))) (.seq .leaf .leaf))))
theorem t_ref01_times : Entry Go.Proofs.Tryz.prog 152 e_ref01_times false :=
  entry_of (C := c_ref01_times) (fn := Go.Proofs.Tryz.f152) (c := b_ref01_times) (an := a_ref01_times) ⟨t_ref01_trim, trivial⟩ trivial Go.Proofs.Tryz.func152 rfl rfl (by decide) (fun _ => rfl) (by intro a K D; kernel_rfl)
noncomputable def A_ref01_minus : ArgT (Sl × Sl × Unit) := (ArgT.cons (Ty.leaf .sl) (ArgT.cons (Ty.leaf .sl) ArgT.nil))
noncomputable def R_ref01_minus : Ty Sl := (Ty.leaf .sl)
noncomputable def e_ref01_minus : FSem := mkE A_ref01_minus R_ref01_minus (fun a => F.ref01_minus a.1 a.2.1)
noncomputable def c_ref01_minus : Cfg := { P := Go.Proofs.Tryz.prog, n := 48, tab := [(136, e_ref01_trim)], mutL := [], rtL := [], locL := [] }
noncomputable def b_ref01_minus : Code := match Go.Proofs.Tryz.f179.body with | some c => c | none => .skip
noncomputable def a_ref01_minus : An := (.seq .leaf (.seq .leaf (.seq .leaf (.seq (.seq .leaf (.block (.loop [(6, .leaf (.int .u64)), (7, .leaf (.int .i64))] (.seq (.seq .leaf (.cond .leaf .leaf)) (.seq (.block (.seq .leaf (.join [(8, .leaf (.int .u64))] (.seq .leaf (.cond .leaf .leaf)) (.seq .leaf (.seq .leaf .leaf))))) .leaf))))) (.seq .leaf .leaf)))))
theorem t_ref01_minus : Entry Go.Proofs.Tryz.prog 179 e_ref01_minus false :=
  entry_of (C := c_ref01_minus) (fn := Go.Proofs.Tryz.f179) (c := b_ref01_minus) (an := a_ref01_minus) ⟨t_ref01_trim, trivial⟩ trivial Go.Proofs.Tryz.func179 rfl rfl (by decide) (fun _ => rfl) (by intro a K D; kernel_rfl)
noncomputable def A_ref01_digit : ArgT (Sl × Sl × Unit) := (ArgT.cons (Ty.leaf .sl) (ArgT.cons (Ty.leaf .sl) ArgT.nil))
noncomputable def R_ref01_digit : Ty (Int × Sl) := (Ty.tup (.cons (Ty.leaf (.int .u32)) (.cons (Ty.leaf .sl) .nil)) (fun x => (x.1, x.2, ())) (fun y => (y.1, y.2.1)) (fun _ => rfl) (fun _ => rfl))
noncomputable def e_ref01_digit : FSem := mkE A_ref01_digit R_ref01_digit (fun a => F.ref01_digit a.1 a.2.1)
noncomputable def c_ref01_digit : Cfg := { P := Go.Proofs.Tryz.prog, n := 51, tab := [(152, e_ref01_times), (136, e_ref01_trim), (174, e_ref01_compare), (179, e_ref01_minus)], mutL := [], rtL := [], locL := [] }
noncomputable def b_ref01_digit : Code := match Go.Proofs.Tryz.f178.body with | some c => c | none => .skip
noncomputable def a_ref01_digit : An := (.seq .leaf (.seq .leaf (.seq (.draw [0, 1, 2, 3, 4, 5, 6, 7, 8, 9, 10, 11, 12, 13, 14, 15, 16, 17, 18, 19, 20]) (.join [(7, .leaf (.int .u64))] (.seq .leaf (.cond .leaf .leaf)) (.seq .leaf (.seq (.block (.loop [(7, .leaf (.int .u64)), (8, .leaf (.sl))] (.seq (.seq .leaf (.cond .leaf .leaf)) (.block (.seq .leaf .leaf))))) (.seq .leaf .leaf)))))))
theorem t_ref01_digit : Entry Go.Proofs.Tryz.prog 178 e_ref01_digit false :=
  entry_of (C := c_ref01_digit) (fn := Go.Proofs.Tryz.f178) (c := b_ref01_digit) (an := a_ref01_digit) ⟨t_ref01_times, t_ref01_trim, t_ref01_compare, t_ref01_minus, trivial⟩ trivial Go.Proofs.Tryz.func178 rfl rfl (by decide) (fun _ => rfl) (by intro a K D; kernel_rfl)
noncomputable def A_ref01_back : ArgT (Sl × Int × Unit) := (ArgT.cons (Ty.leaf .sl) (ArgT.cons (Ty.leaf (.int .i64)) ArgT.nil))
noncomputable def R_ref01_back : Ty Sl := (Ty.leaf .sl)
noncomputable def e_ref01_back : FSem := mkE A_ref01_back R_ref01_back (fun a => F.ref01_back a.1 a.2.1)
noncomputable def c_ref01_back : Cfg := { P := Go.Proofs.Tryz.prog, n := 45, tab := [(136, e_ref01_trim)], mutL := [], rtL := [], locL := [] }
noncomputable def b_ref01_back : Code := match Go.Proofs.Tryz.f180.body with | some c => c | none => .skip
noncomputable def a_ref01_back : An := (.seq .leaf (.seq .leaf (.seq (.seq .leaf (.block (.loop [(6, .leaf (.int .i64))] (.seq (.seq .leaf (.cond .leaf .leaf)) (.seq (.block (.seq .leaf (.join [(7, .leaf (.int .u64))] (.seq .leaf (.cond .leaf .leaf)) .leaf))) .leaf))))) (.seq .leaf .leaf))))
theorem t_ref01_back : Entry Go.Proofs.Tryz.prog 180 e_ref01_back false :=
  entry_of (C := c_ref01_back) (fn := Go.Proofs.Tryz.f180) (c := b_ref01_back) (an := a_ref01_back) ⟨t_ref01_trim, trivial⟩ trivial Go.Proofs.Tryz.func180 rfl rfl (by decide) (fun _ => rfl) (by intro a K D; kernel_rfl)
noncomputable def A_ref01_divide : ArgT (Sl × Sl × Unit) := (ArgT.cons (Ty.leaf .sl) (ArgT.cons (Ty.leaf .sl) ArgT.nil))
noncomputable def R_ref01_divide : Ty (Sl × Sl) := (Ty.tup (.cons (Ty.leaf .sl) (.cons (Ty.leaf .sl) .nil)) (fun x => (x.1, x.2, ())) (fun y => (y.1, y.2.1)) (fun _ => rfl) (fun _ => rfl))
noncomputable def e_ref01_divide : FSem := mkE A_ref01_divide R_ref01_divide (fun a => F.ref01_divide a.1 a.2.1)
noncomputable def c_ref01_divide : Cfg := { P := Go.Proofs.Tryz.prog, n := 128, tab := [(174, e_ref01_compare), (175, e_ref01_short), (147, e_ref01_words), (176, e_ref01_by), (135, e_ref01_length), (177, e_ref01_shifted), (136, e_ref01_trim), (178, e_ref01_digit), (179, e_ref01_minus), (180, e_ref01_back)], mutL := [], rtL := [], locL := [] }
noncomputable def b_ref01_divide : Code := match Go.Proofs.Tryz.f149.body with | some c => c | none => .skip
noncomputable def a_ref01_divide : An := (.seq .leaf (.seq (.seq .leaf (.cond (.seq .leaf .leaf) .leaf)) (.seq (.seq .leaf (.cond (.seq .leaf (.seq (.draw [0, 1, 2, 4, 5, 6, 3, 7, 8, 9]) .leaf)) .leaf)) (.seq (.seq .leaf (.cond (.seq .leaf (.seq .leaf .leaf)) .leaf)) (.seq .leaf (.seq .leaf (.seq .leaf (.seq (.seq .leaf (.block (.loop [(14, .leaf (.int .i64))] (.seq (.seq .leaf (.cond .leaf .leaf)) (.seq (.block (.seq .leaf (.seq .leaf (.seq .leaf (.seq .leaf (.seq .leaf (.block (.loop [(19, .leaf (.int .i64))] (.seq (.seq .leaf (.cond .leaf .leaf)) (.join [] (.block (.seq .leaf (.seq .leaf (.cond .leaf .leaf)))) .leaf)))))))))) .leaf))))) (.seq .leaf .leaf)))))))))
theorem t_ref01_divide : Entry Go.Proofs.Tryz.prog 149 e_ref01_divide false :=
  entry_of (C := c_ref01_divide) (fn := Go.Proofs.Tryz.f149) (c := b_ref01_divide) (an := a_ref01_divide) ⟨t_ref01_compare, t_ref01_short, t_ref01_words, t_ref01_by, t_ref01_length, t_ref01_shifted, t_ref01_trim, t_ref01_digit, t_ref01_minus, t_ref01_back, trivial⟩ trivial Go.Proofs.Tryz.func149 rfl rfl (by decide) (fun _ => rfl) (by intro a K D; kernel_rfl)
noncomputable def A_ref01_GCD : ArgT (TInt × TInt × Unit) := (ArgT.cons tyTInt (ArgT.cons tyTInt ArgT.nil))
noncomputable def R_ref01_GCD : Ty TInt := tyTInt
noncomputable def e_ref01_GCD : FSem := mkE A_ref01_GCD R_ref01_GCD (fun a => F.ref01_GCD a.1 a.2.1)
noncomputable def c_ref01_GCD : Cfg := { P := Go.Proofs.Tryz.prog, n := 28, tab := [(136, e_ref01_trim), (149, e_ref01_divide), (146, e_ref01_signed)], mutL := [], rtL := [(9, 2), (12, 3)], locL := [2, 3, 4] }
noncomputable def b_ref01_GCD : Code := match Go.Proofs.Tryz.f90.body with | some c => c | none => .skip
noncomputable def a_ref01_GCD : An := (.seq .leaf (.seq (.draw [0, 1, 3, 4, 2, 5, 6, 7]) (.seq (.block (.loop [(5, .leaf (.sl)), (6, .leaf (.sl))] (.seq (.seq .leaf (.cond .leaf .leaf)) (.block (.seq .leaf .leaf))))) (.seq .leaf .leaf))))
theorem t_ref01_GCD : Entry Go.Proofs.Tryz.prog 90 e_ref01_GCD false :=
  entry_of (C := c_ref01_GCD) (fn := Go.Proofs.Tryz.f90) (c := b_ref01_GCD) (an := a_ref01_GCD) ⟨t_ref01_trim, t_ref01_divide, t_ref01_signed, trivial⟩ trivial Go.Proofs.Tryz.func90 rfl rfl (by decide) (fun _ => rfl) (by intro a K D; kernel_rfl)
noncomputable def A_ref01_Norm : ArgT (TInt × Unit) := (ArgT.cons tyTInt ArgT.nil)
noncomputable def R_ref01_Norm : Ty TInt := tyTInt
noncomputable def e_ref01_Norm : FSem := mkE A_ref01_Norm R_ref01_Norm (fun a => F.ref01_Norm a.1)
noncomputable def c_ref01_Norm : Cfg := { P := Go.Proofs.Tryz.prog, n := 8, tab := [(146, e_ref01_signed)], mutL := [], rtL := [(3, 1), (5, 1)], locL := [1, 2] }
noncomputable def b_ref01_Norm : Code := match Go.Proofs.Tryz.f148.body with | some c => c | none => .skip
noncomputable def a_ref01_Norm : An := (.seq .leaf (.seq .leaf .leaf))
theorem t_ref01_Norm : Entry Go.Proofs.Tryz.prog 148 e_ref01_Norm false :=
  entry_of (C := c_ref01_Norm) (fn := Go.Proofs.Tryz.f148) (c := b_ref01_Norm) (an := a_ref01_Norm) ⟨t_ref01_signed, trivial⟩ trivial Go.Proofs.Tryz.func148 rfl rfl (by decide) (fun _ => rfl) (by intro a K D; kernel_rfl)
noncomputable def A_ref01_Mul : ArgT (TInt × TInt × Unit) := (ArgT.cons tyTInt (ArgT.cons tyTInt ArgT.nil))
noncomputable def R_ref01_Mul : Ty TInt := tyTInt
noncomputable def e_ref01_Mul : FSem := mkE A_ref01_Mul R_ref01_Mul (fun a => F.ref01_Mul a.1 a.2.1)
noncomputable def c_ref01_Mul : Cfg := { P := Go.Proofs.Tryz.prog, n := 20, tab := [(148, e_ref01_Norm), (152, e_ref01_times), (146, e_ref01_signed)], mutL := [], rtL := [(9, 2), (11, 3), (14, 2), (16, 3)], locL := [2, 3, 4] }
noncomputable def b_ref01_Mul : Code := match Go.Proofs.Tryz.f91.body with | some c => c | none => .skip
noncomputable def a_ref01_Mul : An := (.seq .leaf (.seq (.draw [0, 2, 1, 3, 4, 5]) (.seq (.draw [0, 1, 2, 3, 4, 5, 6, 7, 8, 9, 10, 11]) .leaf)))
theorem t_ref01_Mul : Entry Go.Proofs.Tryz.prog 91 e_ref01_Mul false :=
  entry_of (C := c_ref01_Mul) (fn := Go.Proofs.Tryz.f91) (c := b_ref01_Mul) (an := a_ref01_Mul) ⟨t_ref01_Norm, t_ref01_times, t_ref01_signed, trivial⟩ trivial Go.Proofs.Tryz.func91 rfl rfl (by decide) (fun _ => rfl) (by intro a K D; kernel_rfl)
noncomputable def A_ref01_Neg : ArgT (TInt × Unit) := (ArgT.cons tyTInt ArgT.nil)
noncomputable def R_ref01_Neg : Ty TInt := tyTInt
noncomputable def e_ref01_Neg : FSem := mkE A_ref01_Neg R_ref01_Neg (fun a => F.ref01_Neg a.1)
noncomputable def c_ref01_Neg : Cfg := { P := Go.Proofs.Tryz.prog, n := 9, tab := [(146, e_ref01_signed)], mutL := [], rtL := [(3, 1), (6, 1)], locL := [1, 2] }
noncomputable def b_ref01_Neg : Code := match Go.Proofs.Tryz.f93.body with | some c => c | none => .skip
noncomputable def a_ref01_Neg : An := (.seq .leaf (.seq .leaf .leaf))
theorem t_ref01_Neg : Entry Go.Proofs.Tryz.prog 93 e_ref01_Neg false :=
  entry_of (C := c_ref01_Neg) (fn := Go.Proofs.Tryz.f93) (c := b_ref01_Neg) (an := a_ref01_Neg) ⟨t_ref01_signed, trivial⟩ trivial Go.Proofs.Tryz.func93 rfl rfl (by decide) (fun _ => rfl) (by intro a K D; kernel_rfl)
noncomputable def A_ref01_plus : ArgT (Sl × Sl × Unit) := (ArgT.cons (Ty.leaf .sl) (ArgT.cons (Ty.leaf .sl) ArgT.nil))
noncomputable def R_ref01_plus : Ty Sl := (Ty.leaf .sl)
noncomputable def e_ref01_plus : FSem := mkE A_ref01_plus R_ref01_plus (fun a => F.ref01_plus a.1 a.2.1)
noncomputable def c_ref01_plus : Cfg := { P := Go.Proofs.Tryz.prog, n := 58, tab := [(136, e_ref01_trim)], mutL := [], rtL := [], locL := [] }
noncomputable def b_ref01_plus : Code := match Go.Proofs.Tryz.f181.body with | some c => c | none => .skip
noncomputable def a_ref01_plus : An := (.seq .leaf (.join [(0, .leaf (.sl)), (1, .leaf (.sl))] (.seq .leaf (.cond .leaf .leaf)) (.seq .leaf (.seq .leaf (.seq (.seq .leaf (.block (.loop [(6, .leaf (.int .u64)), (7, .leaf (.int .i64))] (.seq (.seq .leaf (.cond .leaf .leaf)) (.seq (.block (.seq .leaf (.join [(6, .leaf (.int .u64))] (.seq .leaf (.cond .leaf .leaf)) (.seq .leaf .leaf)))) .leaf))))) (.seq .leaf (.seq .leaf .leaf)))))))
theorem t_ref01_plus : Entry Go.Proofs.Tryz.prog 181 e_ref01_plus false :=
  entry_of (C := c_ref01_plus) (fn := Go.Proofs.Tryz.f181) (c := b_ref01_plus) (an := a_ref01_plus) ⟨t_ref01_trim, trivial⟩ trivial Go.Proofs.Tryz.func181 rfl rfl (by decide) (fun _ => rfl) (by intro a K D; kernel_rfl)
noncomputable def A_ref01_Add : ArgT (TInt × TInt × Unit) := (ArgT.cons tyTInt (ArgT.cons tyTInt ArgT.nil))
noncomputable def R_ref01_Add : Ty TInt := tyTInt
noncomputable def e_ref01_Add : FSem := mkE A_ref01_Add R_ref01_Add (fun a => F.ref01_Add a.1 a.2.1)
noncomputable def c_ref01_Add : Cfg := { P := Go.Proofs.Tryz.prog, n := 44, tab := [(148, e_ref01_Norm), (181, e_ref01_plus), (146, e_ref01_signed), (174, e_ref01_compare), (179, e_ref01_minus)], mutL := [], rtL := [(9, 2), (11, 3), (14, 2), (16, 2), (18, 3), (22, 2), (24, 3), (28, 2), (30, 2), (32, 3), (36, 3), (38, 3), (40, 2)], locL := [2, 3, 4] }
noncomputable def b_ref01_Add : Code := match Go.Proofs.Tryz.f151.body with | some c => c | none => .skip
noncomputable def a_ref01_Add : An := (.seq .leaf (.seq (.draw [0, 2, 1, 3, 4, 5]) (.seq (.seq .leaf (.cond (.seq (.draw [0, 1, 2, 3, 4, 5, 6, 7, 8]) .leaf) .leaf)) (.seq (.seq .leaf (.cond (.seq (.draw [0, 1, 2, 3, 4, 5, 6, 7, 8]) .leaf) .leaf)) (.seq (.draw [0, 1, 2, 3, 4, 5, 6, 7, 8]) .leaf)))))
theorem t_ref01_Add : Entry Go.Proofs.Tryz.prog 151 e_ref01_Add false :=
  entry_of (C := c_ref01_Add) (fn := Go.Proofs.Tryz.f151) (c := b_ref01_Add) (an := a_ref01_Add) ⟨t_ref01_Norm, t_ref01_plus, t_ref01_signed, t_ref01_compare, t_ref01_minus, trivial⟩ trivial Go.Proofs.Tryz.func151 rfl rfl (by decide) (fun _ => rfl) (by intro a K D; kernel_rfl)
noncomputable def A_ref01_Sub : ArgT (TInt × TInt × Unit) := (ArgT.cons tyTInt (ArgT.cons tyTInt ArgT.nil))
noncomputable def R_ref01_Sub : Ty TInt := tyTInt
noncomputable def e_ref01_Sub : FSem := mkE A_ref01_Sub R_ref01_Sub (fun a => F.ref01_Sub a.1 a.2.1)
noncomputable def c_ref01_Sub : Cfg := { P := Go.Proofs.Tryz.prog, n := 9, tab := [(93, e_ref01_Neg), (151, e_ref01_Add)], mutL := [], rtL := [], locL := [2, 3, 4] }
noncomputable def b_ref01_Sub : Code := match Go.Proofs.Tryz.f150.body with | some c => c | none => .skip
noncomputable def a_ref01_Sub : An := (.seq .leaf (.seq (.draw [0, 1, 2, 3, 4]) .leaf))
theorem t_ref01_Sub : Entry Go.Proofs.Tryz.prog 150 e_ref01_Sub false :=
  entry_of (C := c_ref01_Sub) (fn := Go.Proofs.Tryz.f150) (c := b_ref01_Sub) (an := a_ref01_Sub) ⟨t_ref01_Neg, t_ref01_Add, trivial⟩ trivial Go.Proofs.Tryz.func150 rfl rfl (by decide) (fun _ => rfl) (by intro a K D; kernel_rfl)
noncomputable def A_ref01_Sign : ArgT (TInt × Unit) := (ArgT.cons tyTInt ArgT.nil)
noncomputable def R_ref01_Sign : Ty Int := (Ty.leaf (.int .i64))
noncomputable def e_ref01_Sign : FSem := mkE A_ref01_Sign R_ref01_Sign (fun a => F.ref01_Sign a.1)
noncomputable def c_ref01_Sign : Cfg := { P := Go.Proofs.Tryz.prog, n := 11, tab := [(148, e_ref01_Norm)], mutL := [], rtL := [(5, 1), (9, 1)], locL := [1] }
noncomputable def b_ref01_Sign : Code := match Go.Proofs.Tryz.f92.body with | some c => c | none => .skip
noncomputable def a_ref01_Sign : An := (.seq .leaf (.seq .leaf (.seq (.seq .leaf (.cond (.seq .leaf .leaf) .leaf)) (.seq (.seq .leaf (.cond (.seq .leaf .leaf) .leaf)) (.seq .leaf .leaf)))))
theorem t_ref01_Sign : Entry Go.Proofs.Tryz.prog 92 e_ref01_Sign false :=
  entry_of (C := c_ref01_Sign) (fn := Go.Proofs.Tryz.f92) (c := b_ref01_Sign) (an := a_ref01_Sign) ⟨t_ref01_Norm, trivial⟩ trivial Go.Proofs.Tryz.func92 rfl rfl (by decide) (fun _ => rfl) (by intro a K D; kernel_rfl)
noncomputable def A_ref01_DivMod : ArgT (TInt × TInt × Unit) := (ArgT.cons tyTInt (ArgT.cons tyTInt ArgT.nil))
noncomputable def R_ref01_DivMod : Ty (TInt × TInt × Int) := (Ty.tup (.cons tyTInt (.cons tyTInt (.cons (Ty.leaf (.int .i64)) .nil))) (fun x => (x.1, x.2.1, x.2.2, ())) (fun y => (y.1, y.2.1, y.2.2.1)) (fun _ => rfl) (fun _ => rfl))
noncomputable def e_ref01_DivMod : FSem := mkE A_ref01_DivMod R_ref01_DivMod (fun a => F.ref01_DivMod a.1 a.2.1)
noncomputable def c_ref01_DivMod : Cfg := { P := Go.Proofs.Tryz.prog, n := 55, tab := [(148, e_ref01_Norm), (149, e_ref01_divide), (146, e_ref01_signed), (91, e_ref01_Mul), (150, e_ref01_Sub), (92, e_ref01_Sign), (88, e_ref01_FromInt), (151, e_ref01_Add)], mutL := [], rtL := [(15, 3), (22, 2), (24, 3), (29, 2), (31, 3)], locL := [2, 3, 4, 5, 9, 10] }
noncomputable def b_ref01_DivMod : Code := match Go.Proofs.Tryz.f89.body with | some c => c | none => .skip
noncomputable def a_ref01_DivMod : An := (.seq .leaf (.seq (.draw [0, 2, 1, 3, 4, 5]) (.seq (.seq .leaf (.cond (.seq .leaf .leaf) .leaf)) (.seq .leaf (.seq .leaf (.seq (.draw [0, 1, 2, 5, 3, 4, 6]) (.join [(9, .box [.bool, .sl]), (10, .box [.bool, .sl])] (.seq (.draw [0, 2, 1, 3, 4, 5]) (.cond (.seq (.draw [0, 1, 2, 3]) .leaf) .leaf)) (.seq (.draw [0, 1, 2, 3, 4]) .leaf))))))))
theorem t_ref01_DivMod : Entry Go.Proofs.Tryz.prog 89 e_ref01_DivMod false :=
  entry_of (C := c_ref01_DivMod) (fn := Go.Proofs.Tryz.f89) (c := b_ref01_DivMod) (an := a_ref01_DivMod) ⟨t_ref01_Norm, t_ref01_divide, t_ref01_signed, t_ref01_Mul, t_ref01_Sub, t_ref01_Sign, t_ref01_FromInt, t_ref01_Add, trivial⟩ trivial Go.Proofs.Tryz.func89 rfl rfl (by decide) (fun _ => rfl) (by intro a K D; kernel_rfl)
noncomputable def A_ref02_quo : ArgT (TInt × TInt × Unit) := (ArgT.cons tyTInt (ArgT.cons tyTInt ArgT.nil))
noncomputable def R_ref02_quo : Ty TInt := tyTInt
noncomputable def e_ref02_quo : FSem := mkE A_ref02_quo R_ref02_quo (fun a => F.ref02_quo a.1 a.2.1)
noncomputable def c_ref02_quo : Cfg := { P := Go.Proofs.Tryz.prog, n := 16, tab := [(89, e_ref01_DivMod)], mutL := [], rtL := [], locL := [2, 3, 4, 5, 6] }
noncomputable def b_ref02_quo : Code := match Go.Proofs.Tryz.f134.body with | some c => c | none => .skip
noncomputable def a_ref02_quo : An := (.seq .leaf (.seq .leaf (.seq .leaf .leaf)))
theorem t_ref02_quo : Entry Go.Proofs.Tryz.prog 134 e_ref02_quo false :=
  entry_of (C := c_ref02_quo) (fn := Go.Proofs.Tryz.f134) (c := b_ref02_quo) (an := a_ref02_quo) ⟨t_ref01_DivMod, trivial⟩ trivial Go.Proofs.Tryz.func134 rfl rfl (by decide) (fun _ => rfl) (by intro a K D; kernel_rfl)
noncomputable def A_ref02_Make : ArgT (TInt × TInt × Unit) := (ArgT.cons tyTInt (ArgT.cons tyTInt ArgT.nil))
noncomputable def R_ref02_Make : Ty TRat := tyTRat
noncomputable def e_ref02_Make : FSem := mkE A_ref02_Make R_ref02_Make (fun a => F.ref02_Make a.1 a.2.1)
noncomputable def c_ref02_Make : Cfg := { P := Go.Proofs.Tryz.prog, n := 21, tab := [(90, e_ref01_GCD), (134, e_ref02_quo), (92, e_ref01_Sign), (93, e_ref01_Neg)], mutL := [], rtL := [], locL := [2, 3, 4, 5] }
noncomputable def b_ref02_Make : Code := match Go.Proofs.Tryz.f125.body with | some c => c | none => .skip
noncomputable def a_ref02_Make : An := (.seq .leaf (.seq .leaf (.join [(5, .box [.bool, .sl])] (.seq .leaf (.cond .leaf .leaf)) (.seq (.draw [0, 1, 3, 4, 2, 5, 6, 7]) .leaf))))
theorem t_ref02_Make : Entry Go.Proofs.Tryz.prog 125 e_ref02_Make false :=
  entry_of (C := c_ref02_Make) (fn := Go.Proofs.Tryz.f125) (c := b_ref02_Make) (an := a_ref02_Make) ⟨t_ref01_GCD, t_ref02_quo, t_ref01_Sign, t_ref01_Neg, trivial⟩ trivial Go.Proofs.Tryz.func125 rfl rfl (by decide) (fun _ => rfl) (by intro a K D; kernel_rfl)
noncomputable def A_ref02_Frac : ArgT (Int × Int × Unit) := (ArgT.cons (Ty.leaf (.int .i64)) (ArgT.cons (Ty.leaf (.int .i64)) ArgT.nil))
noncomputable def R_ref02_Frac : Ty TRat := tyTRat
noncomputable def e_ref02_Frac : FSem := mkE A_ref02_Frac R_ref02_Frac (fun a => F.ref02_Frac a.1 a.2.1)
noncomputable def c_ref02_Frac : Cfg := { P := Go.Proofs.Tryz.prog, n := 13, tab := [(81, e_ref02_FromInt), (88, e_ref01_FromInt), (125, e_ref02_Make)], mutL := [], rtL := [], locL := [4] }
noncomputable def b_ref02_Frac : Code := match Go.Proofs.Tryz.f72.body with | some c => c | none => .skip
noncomputable def a_ref02_Frac : An := (.seq .leaf (.seq (.seq .leaf (.cond (.seq .leaf .leaf) .leaf)) (.seq .leaf .leaf)))
theorem t_ref02_Frac : Entry Go.Proofs.Tryz.prog 72 e_ref02_Frac false :=
  entry_of (C := c_ref02_Frac) (fn := Go.Proofs.Tryz.f72) (c := b_ref02_Frac) (an := a_ref02_Frac) ⟨t_ref02_FromInt, t_ref01_FromInt, t_ref02_Make, trivial⟩ trivial Go.Proofs.Tryz.func72 rfl rfl (by decide) (fun _ => rfl) (by intro a K D; kernel_rfl)
noncomputable def A_law04_rats : ArgT (Sl × Unit) := (ArgT.cons (Ty.leaf .sl) ArgT.nil)
noncomputable def R_law04_rats : Ty Sl := (Ty.leaf .sl)
noncomputable def e_law04_rats : FSem := mkE A_law04_rats R_law04_rats (fun a => F.law04_rats a.1)
noncomputable def c_law04_rats : Cfg := { P := Go.Proofs.Tryz.prog, n := 22, tab := [(72, e_ref02_Frac)], mutL := [], rtL := [(13, 5), (15, 5)], locL := [5, 18] }
noncomputable def b_law04_rats : Code := match Go.Proofs.Tryz.f68.body with | some c => c | none => .skip
noncomputable def a_law04_rats : An := (.seq .leaf (.seq .leaf (.seq (.seq .leaf (.block (.loop [(3, .leaf (.sl)), (8, .leaf (.int .i64))] (.seq .leaf (.seq (.cond .leaf .leaf) (.seq (.block (.seq .leaf .leaf)) .leaf)))))) (.seq .leaf .leaf))))
theorem t_law04_rats : Entry Go.Proofs.Tryz.prog 68 e_law04_rats false :=
  entry_of (C := c_law04_rats) (fn := Go.Proofs.Tryz.f68) (c := b_law04_rats) (an := a_law04_rats) ⟨t_ref02_Frac, trivial⟩ trivial Go.Proofs.Tryz.func68 rfl rfl (by decide) (fun _ => rfl) (by intro a K D; kernel_rfl)
noncomputable def A_slices_Clone_api_Rat_api_Rat : ArgT (Sl × Unit) := (ArgT.cons (Ty.leaf .sl) ArgT.nil)
noncomputable def R_slices_Clone_api_Rat_api_Rat : Ty Sl := (Ty.leaf .sl)
noncomputable def e_slices_Clone_api_Rat_api_Rat : FSem := mkE A_slices_Clone_api_Rat_api_Rat R_slices_Clone_api_Rat_api_Rat (fun a => F.slices_Clone_api_Rat_api_Rat a.1)
noncomputable def c_slices_Clone_api_Rat_api_Rat : Cfg := { P := Go.Proofs.Tryz.prog, n := 8, tab := [], mutL := [], rtL := [], locL := [] }
noncomputable def b_slices_Clone_api_Rat_api_Rat : Code := match Go.Proofs.Tryz.f104.body with | some c => c | none => .skip
noncomputable def a_slices_Clone_api_Rat_api_Rat : An := (.seq .leaf (.seq (.seq .leaf (.cond (.seq .leaf .leaf) .leaf)) (.seq .leaf .leaf)))
theorem t_slices_Clone_api_Rat_api_Rat : Entry Go.Proofs.Tryz.prog 104 e_slices_Clone_api_Rat_api_Rat false :=
  entry_of (C := c_slices_Clone_api_Rat_api_Rat) (fn := Go.Proofs.Tryz.f104) (c := b_slices_Clone_api_Rat_api_Rat) (an := a_slices_Clone_api_Rat_api_Rat) trivial trivial Go.Proofs.Tryz.func104 rfl rfl (by decide) (fun _ => rfl) (by intro a K D; kernel_rfl)
noncomputable def A_integer_trim : ArgT (Sl × Unit) := (ArgT.cons (Ty.leaf .sl) ArgT.nil)
noncomputable def R_integer_trim : Ty Sl := (Ty.leaf .sl)
noncomputable def e_integer_trim : FSem := mkE A_integer_trim R_integer_trim (fun a => F.integer_trim a.1)
noncomputable def c_integer_trim : Cfg := { P := Go.Proofs.Tryz.prog, n := 21, tab := [], mutL := [], rtL := [], locL := [] }
noncomputable def b_integer_trim : Code := match Go.Proofs.Tryz.f139.body with | some c => c | none => .skip
noncomputable def a_integer_trim : An := (.seq .leaf (.seq (.block (.loop [(0, .leaf (.sl))] (.join [] (.seq .leaf (.cond .leaf .leaf)) (.block .leaf)))) (.seq .leaf .leaf)))
theorem t_integer_trim : Entry Go.Proofs.Tryz.prog 139 e_integer_trim false :=
  entry_of (C := c_integer_trim) (fn := Go.Proofs.Tryz.f139) (c := b_integer_trim) (an := a_integer_trim) trivial trivial Go.Proofs.Tryz.func139 rfl rfl (by decide) (fun _ => rfl) (by intro a K D; kernel_rfl)
end Den
end

section
/-
  The iterator of slices.Backward over words.
-/
namespace Den
open Go Go.RowKit Go.Shelf
open Go.Proofs
attribute [local go_sem] Oper.semAt_some

set_option maxRecDepth 100000 in
set_option maxHeartbeats 2000000 in
theorem bk_u32 : BackFn Tryz.prog 189 (.leaf (.int .u32)) := by
  refine ⟨enters_of Tryz.func189 (by kernel_rfl) rfl, ?_⟩
  rintro l ab ⟨xa, xl, xc⟩ J w hxl h0 hbox hround
  simp only at hxl h0 hbox hround
  have hb0 := hbox _ _ h0
  refine callsIn_of_wp Tryz.func189 rfl trivial ?_ rfl
  simp only [Tryz.ntmps189, List.size_toArray, List.length_cons, List.length_nil, Nat.reduceAdd, Nat.reduceSub, Array.replicate_succ, Array.replicate_zero, List.push_toArray, List.append_toArray, List.nil_append, List.cons_append]
  gi_wp2
  gi_loopw [3] (fun i wr => ∃ k : Nat, k ≤ xl ∧ i = .int .i64 ((k : Int) - 1) ∧ J k wr) (fun i _ => (intOf i + 1).toNat)
  case atStart => exact ⟨xl, Nat.le_refl _, rfl, h0⟩
  case round =>
    obtain ⟨k, hk, rfl, hJ⟩ := hrel
    have hbx := hbox _ _ hJ
    cases k with
    | zero =>
      gi_wp2
      go_end0
      exact ⟨⟨_, rfl⟩, hJ⟩
    | succ j =>
      obtain ⟨ad, v, hxa, hcells, f, tmps1, asg, body, hy, hR⟩ := hround j wr (by omega) hJ
      subst hxa
      have hc0 : wr.cell? (ad.add j) = some (.int .u32 v) := by
        have := hcells 0 (.int .u32 v) rfl
        simpa [STy.size] using this
      have hkj : (((j + 1 : Nat) : Int) - 1) = (j : Int) := by omega
      rw [hkj]
      simp only [STy.val, Lf.up] at hy
      gi_wp2
      refine ⟨rfl, hR.mono ?_⟩
      rintro e W3 ⟨rfl, hJ3⟩
      gi_wp2
      go_roundw
      case rel => exact ⟨j, by omega, by simp, hJ3⟩
      case measure => simp [intOf]
end Den
end
