/-
  Part 6 of the tools and contracts from which the statement is proved.
-/
import Derived.Test.YtlddjhibbccljaaGreatPartp5
import Derived.Test.YtlddjhibbccljaaGreatProg
import Derived.Laws.Externs
import Derived.RangeFuncBox
import Derived.RangeFuncLeaves
import Derived.Shelf.Abstract
import Derived.WalkKit
import Derived.OwnWalkIn
import Derived.TacticsInMore
import Derived.LoopNIn
import Derived.LoopIn
set_option linter.unusedVariables false
section
/-
  Polynomials: values of the reference, compositions.
-/
set_option linter.unusedVariables false
namespace Den
open Go Iv Pq
section
variable {h : Hp} {A B C : Nat} {l m : Sl} {p q : List Rat} {K : Sl → Hp → Prop} {KR : TRat → Hp → Prop} {Kb : Bool → Hp → Prop} {c : Rat} {x : TRat}

theorem rpEval_call (hp : PL h A l p) (hx : NR h x c) (bc : BR B c) (hlen : p.length ≤ 1000000) (hA : A ≤ 100000) (hB : B ≤ 100000) (hC : ∀ i, BR C (ev (p.drop i) c)) (hC2 : C ≤ 200000) (H : ∀ z h', h.le h' → NR h' z (ev p c) → KR z h') : callP (F.ref04_Eval l x) KR h := by
  refine callP_of (fun z h' => NR h' z (ev p c)) (fun K' hk => ?_) fun z h' hl hz => H z h' hl hz
  unfold F.ref04_Eval
  have hl := hp.len
  refine rZero_call fun z0 h1 hl1 hz0 => ?_
  have e0 : IntKind.i64.wrap ((l.len : Int) - 1) = (p.length : Int) - 1 := by rw [w64 (by omega)]; omega
  rw [e0]
  refine loopP_of (fun st h' => h1.le h' ∧ ∃ i : Nat, st.2.1 = (i : Int) - 1 ∧ i ≤ p.length ∧ NR h' (q4 st.1) (ev (p.drop i) c)) (fun st => (st.2.1 + 1).toNat)
    ⟨Hp.le_refl _, p.length, rfl, Nat.le_refl _, by rw [List.drop_length]; exact hz0⟩ ?_
  rintro ⟨s, _, _⟩ h2 ⟨hl2, i, hi, hi2, hs⟩
  simp only at hi hs
  subst hi
  refine ifP_dec (fun h3 => ?_) (fun h3 => ?_)
  · simp only at h3
    have hl12 := Hp.le_trans hl1 hl2
    refine (hp.le hl12).get (i - 1) (by simp only; omega) (by omega) fun y hy by_ => ?_
    refine rqMul_call hs (hx.le hl12) (hC _) bc (by omega) (by omega) fun r h4 hl4 hr => ?_
    refine rqAdd_call hr (hy.le hl4) ((hC _).mul bc) by_ (by omega) (by omega) fun w h5 hl5 hw => ?_
    have e1 : IntKind.i64.wrap ((i : Int) - 1 - 1) = ((i - 1 : Nat) : Int) - 1 := by rw [w64 (by omega)]; omega
    refine ⟨⟨Hp.le_trans hl2 (Hp.le_trans hl4 hl5), i - 1, e1, by omega, ?_⟩, by simp only; rw [e1]; omega⟩
    have e2 : ev (p.drop (i - 1)) c = ev (p.drop i) c * c + p[i - 1]'(by omega) := by
      rw [ev_drop (show i - 1 < p.length by omega), Rat.add_comm, show i - 1 + 1 = i by omega]
    rw [e2]
    exact hw
  · simp only at h3
    have hi' : i = 0 := by omega
    subst hi'
    rw [List.drop_zero] at hs
    exact hk _ _ (Hp.le_trans hl1 hl2) hs

theorem trim_mul_trim {r : List Rat} : trim (mulL (trim r) q) = trim (mulL r q) := trim_eq fun i => by
  rw [co_mulL, co_mulL]
  exact conv_congr (fun _ => co_trim) fun _ => rfl
theorem comp_step {i : Nat} (hi : i < p.length) : trim (addL (trim (mulL (trim (compL (p.drop (i + 1)) q)) q)) [p[i]]) = trim (compL (p.drop i) q) := by
  rw [compL_drop hi, addL_trim]
  refine trim_eq fun j => ?_
  rw [co_addL, co_addL, co_mulL, co_mulL]
  congr 1
  exact conv_congr (fun _ => co_trim) fun _ => rfl
theorem compL_len : ∀ {p : List Rat}, (compL p q).length ≤ p.length * (q.length + 1)
  | [] => Nat.zero_le _
  | c :: r => by
    have ha : ∀ (u v : List Rat), (addL u v).length ≤ max u.length v.length := by
      intro u
      induction u with
      | nil => intro v; rw [addL]; omega
      | cons a u ih =>
        intro v
        cases v with
        | nil => simp [addL]
        | cons b v => have := ih v; simp only [addL, List.length_cons]; omega
    have hm : ∀ (u : List Rat), (mulL u q).length ≤ u.length + q.length := by
      intro u
      induction u with
      | nil => simp [mulL]
      | cons a u ih =>
        have := ha (q.map (a * ·)) (0 :: mulL u q)
        simp only [List.length_map, List.length_cons] at this
        simp only [mulL, List.length_cons]
        omega
    have h1 := ha (mulL (compL r q) q) [c]
    have h2 := hm (compL r q)
    have h3 := compL_len (p := r)
    simp only [compL, List.length_cons, List.length_nil] at h1 ⊢
    rw [Nat.add_mul]
    omega
theorem PL.one {a : Addr} {y : TRat} {v : Rat} (hr : RdQ h ⟨some a, 1, 1⟩ [y]) (hy : NR h y v) (by_ : BR B v) : PL h B ⟨some a, 1, 1⟩ [v] := by
  refine ⟨[y], hr, ⟨rfl, fun k h1 h2 => ?_⟩, Nat.le_refl _⟩
  have : k = 0 := by simp at h1; omega
  subst this
  exact ⟨hy, by_⟩
theorem pCompose_call (hp : PL h A l p) (hq : PL h B m q) (hlen : p.length ≤ 10) (hlen2 : q.length ≤ 10) (hA : 1 ≤ A ∧ A ≤ 100000) (hB : B ≤ 100000) {M : Nat} (hM : ∀ i k n, BR M (Pq.part (co (compL (p.drop i) q)) (co q) k n)) (hM2 : 1 ≤ M ∧ M ≤ 100000) (hC : ∀ i j, BR C (co (compL (p.drop i) q) j)) (hC2 : M ≤ C ∧ C ≤ 100000)
    (H : ∀ y h', h.le h' → PL h' C y (trim (compL p q)) → K y h') : callP (F.polynomial_Compose l m) K h := by
  refine callP_of (fun y h' => PL h' C y (trim (compL p q))) (fun K' hk => ?_) fun y h' hl hy => H y h' hl hy
  unfold F.polynomial_Compose
  have hl := hp.len
  have hb := compL_len (q := q) (p := p)
  have hlc : ∀ i, (trim (compL (p.drop i) q)).length ≤ 110 := fun i => by
    have h1 := compL_len (q := q) (p := p.drop i)
    have h2 := trim_len (p := compL (p.drop i) q)
    rw [List.length_drop] at h1
    have h3 : (p.length - i) * (q.length + 1) ≤ 10 * 11 := Nat.mul_le_mul (by omega) (by omega)
    omega
  refine qbackward_call fun ad h2 hl2 had => ?_
  refine ⟨l, fun i st h' => i ≤ p.length ∧ h2.le h' ∧ PL h' C st.1.1 (trim (compL (p.drop i) q)), by omega, ⟨by omega, Hp.le_refl _, ?_⟩, fun i st h' hI => Hp.cell_le hI.2.1 had, fun i st h' hi hI => ?_, fun st h' hI => ?_⟩
  · rw [hl, List.drop_length]; exact PL.nil
  · obtain ⟨_, hl3, hs⟩ := hI
    have hi' : i < p.length := by omega
    have hl03 := Hp.le_trans hl2 hl3
    obtain ⟨a, y, ha, hy, by_, hc⟩ := back_rat hp hl03 hi'
    refine ⟨a, qt y, ha, fun j u hj => hc j u hj, ?_⟩
    have hcp : ∀ k n, Pq.part (co (trim (compL (p.drop (i + 1)) q))) (co q) k n = Pq.part (co (compL (p.drop (i + 1)) q)) (co q) k n := fun k n => by
      unfold Pq.part
      exact sm_congr fun _ _ => by rw [co_trim]
    have := hlc (i + 1)
    refine pMul_call hs (hq.le hl03) (by omega) (by omega) (by omega) hB (C := M) (fun k n _ => by rw [hcp]; exact hM _ _ _) (by omega) fun r h4 hr => ?_
    refine new_rats (xs := [y]) 1 rfl fun b h5 hl5 hb5 => ?_
    have hl35 := Hp.le_trans hr.hle hl5
    have hone : PL h5 A ⟨some b, 1, 1⟩ [p[i]] := PL.one hb5 ((hy.le hl03).le hl35) by_
    have hml : (trim (mulL (trim (compL (p.drop (i + 1)) q)) q)).length ≤ 1000 := nf_len nf_trim fun n hn => by
      rw [co_trim, co_mulL]
      exact conv_zero_of (a := 110) (b := 10) (fun i hi => co_ge (by omega)) (fun i hi => co_ge (by omega)) (by omega)
    refine pAdd_call (hr.pl.le hl5) hone (by omega) (by simp) hC2.1 (by omega) (fun j => ?_) (by omega) fun w h6 hw => ⟨by omega, Hp.le_trans hl3 (Hp.le_trans hl35 hw.hle), ?_⟩
    · have := hC i j
      rw [← co_trim (p := compL (p.drop i) q), ← comp_step hi', co_trim, co_addL] at this
      exact this
    · have := hw.pl
      rw [comp_step hi'] at this
      exact this
  · have := hI.2.2
    rw [List.drop_zero] at this
    exact hk _ _ (Hp.le_trans hl2 hI.2.1) this
theorem rCompose_call (hp : PL h A l p) (hq : PL h B m q) (hlen : p.length ≤ 10) (hlen2 : q.length ≤ 10) (hA : 1 ≤ A ∧ A ≤ 100000) (hB : 1 ≤ B ∧ B ≤ 100000) {M : Nat} (hM : ∀ i k n, BR M (Pq.part (co q) (co (compL (p.drop i) q)) k n)) (hM2 : 1 ≤ M ∧ M ≤ 100000) (hC : ∀ i j, BR C (co (compL (p.drop i) q) j)) (hC2 : M ≤ C ∧ C ≤ 100000)
    (H : ∀ y h', h.le h' → PL h' C y (trim (compL p q)) → K y h') : callP (F.ref04_Compose l m) K h := by
  refine callP_of (fun y h' => PL h' C y (trim (compL p q))) (fun K' hk => ?_) fun y h' hl hy => H y h' hl hy
  unfold F.ref04_Compose
  have hl := hp.len
  have hlc : ∀ i, (trim (compL (p.drop i) q)).length ≤ 110 := fun i => by
    have h1 := compL_len (q := q) (p := p.drop i)
    have h2 := trim_len (p := compL (p.drop i) q)
    rw [List.length_drop] at h1
    have h3 : (p.length - i) * (q.length + 1) ≤ 10 * 11 := Nat.mul_le_mul (by omega) (by omega)
    omega
  have e0 : IntKind.i64.wrap ((l.len : Int) - 1) = (p.length : Int) - 1 := by rw [w64 (by omega)]; omega
  rw [e0]
  refine loopP_of (fun st h' => h.le h' ∧ ∃ i : Nat, st.2.1 = (i : Int) - 1 ∧ i ≤ p.length ∧ PL h' C st.1 (trim (compL (p.drop i) q))) (fun st => (st.2.1 + 1).toNat)
    ⟨Hp.le_refl _, p.length, rfl, Nat.le_refl _, by rw [List.drop_length]; exact PL.nil⟩ ?_
  rintro ⟨s, _, _⟩ h2 ⟨hl2, i, hi, hi2, hs⟩
  simp only at hi hs
  subst hi
  refine ifP_dec (fun h3 => ?_) (fun h3 => ?_)
  · simp only at h3
    obtain ⟨j, rfl⟩ : ∃ j, i = j + 1 := ⟨i - 1, by omega⟩
    have hi' : j < p.length := by omega
    refine (hp.le hl2).get j (by simp only; omega) hi' fun y hy by_ => ?_
    have hcp : ∀ k n, Pq.part (co q) (co (trim (compL (p.drop (j + 1)) q))) k n = Pq.part (co q) (co (compL (p.drop (j + 1)) q)) k n := fun k n => by
      unfold Pq.part
      exact sm_congr fun _ _ => by rw [co_trim]
    have := hlc (j + 1)
    refine rpMul_call hs (hq.le hl2) (by omega) (by omega) (by omega) (by omega) (C := M) (fun k n _ => by rw [hcp]; exact hM _ _ _) (by omega) fun r h4 hl4 hr => ?_
    have hr' : PL h4 M r (trim (mulL (trim (compL (p.drop (j + 1)) q)) q)) := by
      split at hr
      · rename_i hq0
        have e : trim (mulL (trim (compL (p.drop (j + 1)) q)) q) = [] := nf_eq_nil nf_trim fun i => by
          rw [co_trim, co_mulL, conv_comm, hq0]; exact conv_nil
        rw [e]; exact hr
      · exact hr
    refine new_rats (xs := [y]) 1 rfl fun b h5 hl5 hb5 => ?_
    have hl35 := Hp.le_trans hl4 hl5
    have hone : PL h5 A ⟨some b, 1, 1⟩ [p[j]] := PL.one hb5 (hy.le hl35) by_
    have hml : (trim (mulL (trim (compL (p.drop (j + 1)) q)) q)).length ≤ 1000 := nf_len nf_trim fun n hn => by
      rw [co_trim, co_mulL]
      exact conv_zero_of (a := 110) (b := 10) (fun i hi => co_ge (by omega)) (fun i hi => co_ge (by omega)) (by omega)
    have e1 : IntKind.i64.wrap (((j + 1 : Nat) : Int) - 1 - 1) = (j : Int) - 1 := by rw [w64 (by omega)]; omega
    refine rpAdd_call (hr'.le hl5) hone (by omega) (by simp) (by omega) (by omega) (C := C) (fun n => ?_) (by omega) fun w h6 hw => ⟨⟨Hp.le_trans hl2 (Hp.le_trans hl35 hw.hle), j, e1, by omega, ?_⟩, by simp only; rw [e1]; omega⟩
    · have := hC j n
      rw [← co_trim (p := compL (p.drop j) q), ← comp_step hi', co_trim, co_addL] at this
      exact this
    · have := hw.pl
      rw [comp_step hi'] at this
      exact this
  · simp only at h3
    have hi' : i = 0 := by omega
    subst hi'
    rw [List.drop_zero] at hs
    have := hlc 0
    rw [List.drop_zero] at this
    refine rTrim_call hs (by omega) (by omega) fun y h' hy => hk _ _ (Hp.le_trans hl2 hy.hle) ?_
    have := hy.pl
    rw [trim_trim] at this
    exact this
end
end Den
end

section
/-
  Polynomials: quotients (program).
-/
set_option linter.unusedVariables false
namespace Den
open Go Iv Pq

/-- One step of the division: the multiple of b (of degree d) that removes the coefficient at i + d. -/
def stepF (b : Nat → Rat) (d i : Nat) (f : Nat → Rat) : Nat → Rat := fun j => if i ≤ j then f j - (f (i + d) / b d) * b (j - i) else f j
/-- What is left after k of N steps. -/
def restK (b : Nat → Rat) (d N : Nat) (f : Nat → Rat) : Nat → (Nat → Rat)
  | 0 => f
  | k + 1 => stepF b d (N - 1 - k) (restK b d N f k)
section
variable {D h h' : Hp} {A B C : Nat} {l m x : Sl} {p q : List Rat} {K : Sl → Hp → Prop} {KK : Sl × Sl → Hp → Prop}

theorem OD.stay (ho : OD D h B l p) (hap : Apt x l) (hl : D.le h') (hs : ∀ j, (∀ a, x.a = some a → j ≠ a.block) → h' j = h j) : OD D h' B l p := by
  obtain ⟨xs, h1, h2⟩ := ho
  exact ⟨xs, own_stay h1 hap hl hs, h2⟩
theorem OD.call2 {α : Type} {G : (α → Hp → Prop) → Hp → Prop} {K1 K : α → Hp → Prop} (h1 : OD D h A l p) (h2 : OD D h B m q) (H : callP G K1 D)
    (k : ∀ v D' h', D.le D' → OD D' h' A l p → OD D' h' B m q → K1 v D' → K v h') : callP G K h := by
  obtain ⟨xs, a1, a2⟩ := h1
  obtain ⟨ys, b1, b2⟩ := h2
  exact callP_sub a1.1 H fun v D' h' g1 g2 g3 g4 => k v D' h' g1 ⟨xs, a1.move g2 g3, a2.le g1⟩ ⟨ys, b1.move g2 g3, b2.le g1⟩ g4
/-- A new list beside a list of one's own. -/
theorem OD.pair {D1 D2 : Hp} {r s : Sl} (h1 : ∃ xs, Own D2 h 4 r (xs.flatMap qc) ∧ QL D1 A xs p) (h2 : OL D1 D2 B s q) : ∃ D3, D1.le D3 ∧ OD D3 h A r p ∧ OD D3 h B s q ∧ Apt r s := by
  obtain ⟨xs, a1, a2⟩ := h1
  obtain ⟨D3, c1, ys, b1, b2⟩ := h2
  refine ⟨D3, c1, ⟨xs, a1.base b1.1, a2.le c1⟩, ⟨ys, b1.le a1.1, b2⟩, fun a b ha hb => ?_⟩
  obtain ⟨_, _, _, g4⟩ := a1
  rw [ha] at g4
  obtain ⟨_, _, k3, _⟩ := g4
  obtain ⟨_, _, _, f4⟩ := b1
  rw [hb] at f4
  obtain ⟨_, _, _, bb, e4, _⟩ := f4
  intro hh
  rw [hh, e4] at k3
  cases k3
theorem NR.num_ne {y : TRat} {v : Rat} (h0 : v ≠ 0) : v.num ≠ 0 := fun hh => h0 (Rat.num_eq_zero.1 hh)

theorem pdivide_call (hp : PL h A l p) (hq : PL h B m q) (hlen : p.length ≤ 1000) (hlen2 : q.length ≤ 1000) (hB : 1 ≤ B ∧ B ≤ 50000) (hq0 : trim q ≠ [])
    (hC : ∀ k j, k ≤ (trim p).length + 1 - (trim q).length → BR C (restK (co q) ((trim q).length - 1) ((trim p).length + 1 - (trim q).length) (co p) k j)) (hC2 : A ≤ C ∧ C ≤ 50000)
    (H : ∀ y z h' qs rs, h.le h' → PL h' (C + B) y (trim qs) → PL h' C z (trim rs) → qs.length ≤ 1001 → rs.length ≤ 1000 → (∀ j, conv (co qs) (co q) j + co rs j = co p j) → (∀ j, (trim q).length - 1 ≤ j → co rs j = 0) → KK (y, z) h') :
    callP (F.polynomial_divide l m) KK h := by
  refine callP_of (fun yz h' => ∃ qs rs, PL h' (C + B) yz.1 (trim qs) ∧ PL h' C yz.2 (trim rs) ∧ qs.length ≤ 1001 ∧ rs.length ≤ 1000 ∧ (∀ j, conv (co qs) (co q) j + co rs j = co p j) ∧ (∀ j, (trim q).length - 1 ≤ j → co rs j = 0)) (fun K' hk => ?_)
    fun yz h' hl ⟨qs, rs, g1, g2, g3, g4, g5, g6⟩ => H yz.1 yz.2 h' qs rs hl g1 g2 g3 g4 g5 g6
  unfold F.polynomial_divide
  have tq := trim_len (p := q)
  have tp := trim_len (p := p)
  have hd0 : 0 < (trim q).length := List.length_pos_iff.2 hq0
  obtain ⟨d, hd⟩ : ∃ d, (trim q).length = d + 1 := ⟨(trim q).length - 1, by omega⟩
  obtain ⟨N, hN⟩ : ∃ N, N = (trim p).length + 1 - (trim q).length := ⟨_, rfl⟩
  rw [← hN] at hC
  have hdd : (trim q).length - 1 = d := by omega
  rw [hdd] at hC hk
  have hb : co q d ≠ 0 := by
    have := nf_top nf_trim hq0
    rw [hdd, co_trim] at this
    exact this
  have hb2 : ∀ j, d < j → co q j = 0 := fun j hj => by rw [← co_trim, co_ge (by omega)]
  refine pTrim_call hq (by omega) (by omega) fun r1 h1 hr1 => ?_
  refine pTrim_call (hp.le hr1.hle) (by omega) (by omega) fun r2 h2 hr2 => ?_
  have len1 := hr1.len
  have len2 := hr2.len
  have eN : maxI 0 (IntKind.i64.wrap (IntKind.i64.wrap ((r2.len : Int) - (r1.len : Int)) + 1)) = (N : Int) := by
    rw [len1, len2, w64 (n := ((trim p).length : Int) - ((trim q).length : Int)) (by omega), w64 (by omega)]
    unfold maxI
    split <;> omega
  rw [eN]
  have hpl1 := hr1.pl
  obtain ⟨D2, hD2, xs, ho2, hq2⟩ := hr2
  refine ho2.call (K1 := fun v D' => OL D2 D' 1 v (List.replicate N 0)) (zeros_call (by omega) fun y h' hy => hy) fun r3 D' h3 _ ho3 hr3 => ?_
  obtain ⟨D3, hD3, hoR, hoQ, hap⟩ := OD.pair ⟨xs, ho3, hq2⟩ hr3
  have hh1D : h1.le D3 := Hp.le_trans hD2 hD3
  have e0 : IntKind.i64.wrap ((r2.len : Int) - (r1.len : Int)) = ((trim p).length : Int) - ((trim q).length : Int) := by rw [len1, len2, w64 (by omega)]
  rw [e0]
  refine loopP_of (fun st h' => ∃ D, h1.le D ∧ ∃ n : Nat, (st.1 = (n : Int) - 1 ∨ (st.1 < 0 ∧ n = 0)) ∧ n ≤ N ∧ ∃ qs rs, qs.length = N ∧ rs.length = (trim p).length ∧ OD D h' C r2 rs ∧ OD D h' (C + B) r3 qs ∧
      (∀ j, co rs j = restK (co q) d N (co p) (N - n) j) ∧ (∀ j, j < n → co qs j = 0) ∧ (∀ j, conv (co qs) (co q) j + co rs j = co p j) ∧ (∀ j, n + d ≤ j → co rs j = 0)) (fun st => (st.1 + 1).toNat)
    ⟨D3, hh1D, N, ?_, Nat.le_refl _, _, _, by simp, rfl, hoR.mono hC2.1, hoQ.mono (by omega), fun j => by rw [Nat.sub_self, co_trim]; rfl, fun j _ => co_replicate, fun j => ?_, fun j hj => ?_⟩ ?_
  · simp only; omega
  · rw [conv_comm, conv_congr (g' := co []) (fun _ => rfl) (fun _ => co_replicate), conv_comm, conv_nil, Rat.zero_add, co_trim]
  · rw [co_ge (by omega)]
  rintro ⟨st, _⟩ h4 ⟨D, hD, n, hst, hn, qs, rs, lq, lr, oR, oQ, cR, cQ, cc, cz⟩
  simp only at hst
  refine ifP_dec (fun h5 => ?_) (fun h5 => ?_)
  · simp only at h5
    have hst' : st = (n : Int) - 1 := by omega
    subst hst'
    obtain ⟨i, rfl⟩ : ∃ i, n = i + 1 := ⟨n - 1, by omega⟩
    have hiN : i < N := by omega
    have e1 : (((i + 1 : Nat) : Int) - 1) = (i : Int) := by omega
    simp only [e1]
    have e2 : IntKind.i64.wrap (IntKind.i64.wrap ((i : Int) + (r1.len : Int)) - 1) = ((i + d : Nat) : Int) := by
      rw [len1, w64 (n := (i : Int) + ((trim q).length : Int)) (by omega), w64 (by omega)]; omega
    have e3 : IntKind.i64.wrap ((r1.len : Int) - 1) = (d : Int) := by rw [len1, w64 (by omega)]; omega
    rw [e2, e3]
    have hid : i + d < rs.length := by omega
    refine oR.get (i + d) rfl hid fun u hu bu => ?_
    refine hpl1.getle d (Hp.le_trans hD oR.dle) rfl (by omega) fun v hv bv => ?_
    have ev1 : (trim q)[d]'(by omega) = co q d := by rw [← co_lt (show d < (trim q).length by omega), co_trim]
    have eu1 : rs[i + d] = co rs (i + d) := (co_lt hid).symm
    rw [ev1] at hv bv
    rw [eu1] at hu bu
    refine oR.call2 (K1 := fun z D' => NR D' z.1 (co rs (i + d) / co q d)) oQ (qDiv_call hu (hv.le hD) bu bv (by omega) (by omega) (NR.num_ne (y := v) hb) fun z D' _ hz => hz) fun z D1 h6 hl1 oR1 oQ1 hz => ?_
    have bz : BR (C + B) (co rs (i + d) / co q d) := bu.div bv (NR.num_ne (y := v) hb)
    refine oQ1.set i rfl (by omega) hz bz fun h7 oQ2 hfr => ?_
    have oR2 : OD D1 h7 C r2 rs := oR1.stay hap.symm oQ2.dle hfr
    have hfk : ∀ j, restK (co q) d N (co p) (N - i) j = stepF (co q) d i (co rs) j := fun j => by
      have e4 : N - i = (N - (i + 1)) + 1 := by omega
      have e5 : N - 1 - (N - (i + 1)) = i := by omega
      rw [e4, restK, e5]
      unfold stepF
      rw [cR, cR]
    refine loopP_of (fun st h' => ∃ D, h1.le D ∧ ∃ k : Nat, st.1 = (k : Int) ∧ k ≤ d + 1 ∧ ∃ rs', rs'.length = rs.length ∧ OD D h' C r2 rs' ∧ OD D h' (C + B) r3 (qs.set i (co rs (i + d) / co q d)) ∧
        ∀ j, co rs' j = if i ≤ j ∧ j < i + k then stepF (co q) d i (co rs) j else co rs j) (fun st => (((d + 1 : Nat) : Int) - st.1).toNat)
      ⟨D1, Hp.le_trans hD hl1, 0, rfl, Nat.zero_le _, rs, rfl, oR2, oQ2, fun j => by rw [if_neg (by omega)]⟩ ?_
    rintro ⟨_, _⟩ h8 ⟨D4, hD4, k, hk1, hk2, rs', lr', oR3, oQ3, cR3⟩
    simp only at hk1
    subst hk1
    refine ifP_dec (fun h9 => ?_) (fun h9 => ?_)
    · simp only [len1] at h9
      have hkd : k ≤ d := by omega
      refine hpl1.getle k (Hp.le_trans hD4 oR3.dle) rfl (by omega) fun w hw bw => ?_
      have ew1 : (trim q)[k]'(by omega) = co q k := by rw [← co_lt (show k < (trim q).length by omega), co_trim]
      rw [ew1] at hw bw
      have e6 : IntKind.i64.wrap ((i : Int) + (k : Int)) = ((i + k : Nat) : Int) := by rw [w64 (by omega)]; omega
      have hik : i + k < rs'.length := by omega
      refine oR3.get (i + k) e6 hik fun t ht bt => ?_
      refine oQ3.get i rfl (by simp; omega) fun g hg bg => ?_
      have eg : (qs.set i (co rs (i + d) / co q d))[i]'(by simp; omega) = co rs (i + d) / co q d := by simp
      rw [eg] at hg bg
      have et : rs'[i + k] = co rs (i + k) := by rw [← co_lt hik, cR3, if_neg (by omega)]
      rw [et] at ht bt
      refine oR3.call2 (K1 := fun z D' => NR D' z (co rs (i + d) / co q d * co q k)) oQ3 (qMul_call hg (hw.le hD4) bg bw (by omega) (by omega) fun z D' _ hz => hz) fun z2 D5 h10 hl5 oR4 oQ4 hz2 => ?_
      refine oR4.call2 (K1 := fun z D' => NR D' z (co rs (i + k) - co rs (i + d) / co q d * co q k)) oQ4 (qSub_call (ht.le hl5) hz2 bt (bg.mul bw) (by omega) (by omega) fun z D' _ hz => hz) fun z3 D6 h11 hl6 oR5 oQ5 hz3 => ?_
      have es : co rs (i + k) - co rs (i + d) / co q d * co q k = stepF (co q) d i (co rs) (i + k) := by
        unfold stepF
        rw [if_pos (by omega), Nat.add_sub_cancel_left]
      rw [es] at hz3
      have bs : BR C (stepF (co q) d i (co rs) (i + k)) := by rw [← hfk]; exact hC _ _ (by omega)
      refine oR5.set (i + k) e6 hik hz3 bs fun h12 oR6 hfr2 => ⟨⟨D6, Hp.le_trans hD4 (Hp.le_trans hl5 hl6), k + 1, ?_, by omega, _, by simpa using lr', oR6, oQ5.stay hap oR6.dle hfr2, fun j => ?_⟩, ?_⟩
      · simp only; rw [w64 (by omega)]; rfl
      · rw [co_set hik]
        by_cases hj : j = i + k
        · subst hj; rw [if_pos rfl, if_pos (by omega)]
        · rw [if_neg hj, cR3]
          by_cases hj2 : i ≤ j ∧ j < i + k
          · rw [if_pos hj2, if_pos (by omega)]
          · rw [if_neg hj2, if_neg (by omega)]
      · simp only; rw [w64 (by omega)]; omega
    · simp only [len1] at h9
      have hkd : k = d + 1 := by omega
      subst hkd
      have cR4 : ∀ j, co rs' j = stepF (co q) d i (co rs) j := fun j => by
        rw [cR3]
        by_cases hj : i ≤ j ∧ j < i + (d + 1)
        · rw [if_pos hj]
        · rw [if_neg hj]
          unfold stepF
          by_cases hj2 : i ≤ j
          · rw [if_pos hj2, hb2 (j - i) (by omega)]; grind
          · rw [if_neg hj2]
      have e7 : IntKind.i64.wrap ((i : Int) - 1) = (i : Int) - 1 := w64 (by omega)
      refine ⟨⟨D4, hD4, i, .inl e7, by omega, _, rs', by simpa using lq, by omega, oR3, oQ3, fun j => by rw [cR4, hfk], fun j hj => ?_, fun j => ?_, fun j hj => ?_⟩, by rw [e7]; omega⟩
      · rw [co_set (by omega), if_neg (by omega)]
        exact cQ j (by omega)
      · -- the product of the quotient grows by this multiple
        have e8 : conv (co (qs.set i (co rs (i + d) / co q d))) (co q) j = conv (co qs) (co q) j + (if i ≤ j then co rs (i + d) / co q d * co q (j - i) else 0) := by
          unfold conv
          have e9 : ∀ t, co (qs.set i (co rs (i + d) / co q d)) t = co qs t + (if t = i then co rs (i + d) / co q d else 0) := fun t => by
            rw [co_set (by omega)]
            by_cases ht : t = i
            · subst ht; rw [if_pos rfl, if_pos rfl, cQ t (by omega), Rat.zero_add]
            · rw [if_neg ht, if_neg ht, Rat.add_zero]
          have e10 : sm (j + 1) (fun t => (if t = i then co rs (i + d) / co q d else 0) * co q (j - t)) = if i ≤ j then co rs (i + d) / co q d * co q (j - i) else 0 := by
            by_cases hij : i ≤ j
            · rw [if_pos hij, sm_one (k := i) (by omega) fun t _ ht => by rw [if_neg ht, Rat.zero_mul], if_pos rfl]
            · rw [if_neg hij]
              exact sm_zeros fun t ht => by rw [if_neg (by omega), Rat.zero_mul]
          rw [← e10, ← sm_add]
          exact sm_congr fun t _ => by rw [e9]; grind
        rw [e8, cR4]
        unfold stepF
        have := cc j
        by_cases hij : i ≤ j
        · rw [if_pos hij, if_pos hij]; grind
        · rw [if_neg hij, if_neg hij]; grind
      · rw [cR4]
        unfold stepF
        rw [if_pos (by omega)]
        by_cases hj2 : j = i + d
        · subst hj2
          rw [Nat.add_sub_cancel_left, Rat.div_mul_cancel hb]; grind
        · rw [cz j (by omega), hb2 (j - i) (by omega)]; grind
  · simp only at h5
    have hn0 : n = 0 := by omega
    subst hn0
    refine pTrim_call oQ.pl (by omega) (by omega) fun y h6 hy => ?_
    refine pTrim_call (oR.pl.le hy.hle) (by omega) (by omega) fun z h7 hz => ?_
    refine hk _ _ (Hp.le_trans hr1.hle (Hp.le_trans hD (Hp.le_trans oR.dle (Hp.le_trans hy.hle hz.hle)))) ⟨qs, rs, hy.pl.le hz.hle, hz.pl, by omega, by omega, cc, fun j hj => cz j (by omega)⟩
end
end Den
end

section
/-
  Polynomials: quotients (reference), both quotients are equal.
-/
set_option linter.unusedVariables false
namespace Den
open Go Iv Pq
theorem restK_skip {b f : Nat → Rat} {d N k : Nat} : ∀ {k' : Nat}, k ≤ k' → k' ≤ N → (∀ j, N - k' + d ≤ j → restK b d N f k j = 0) → ∀ j, restK b d N f k' j = restK b d N f k j
  | 0, h1, _, _, j => by have : k = 0 := by omega
                         subst this; rfl
  | k' + 1, h1, h2, hz, j => by
    by_cases hk : k = k' + 1
    · subst hk; rfl
    · have ih := restK_skip (b := b) (f := f) (d := d) (N := N) (k := k) (k' := k') (by omega) (by omega) fun j hj => hz j (by omega)
      show stepF b d (N - 1 - k') (restK b d N f k') j = _
      unfold stepF
      rw [ih, ih, hz (N - 1 - k' + d) (by omega)]
      split
      · grind
      · rfl
section
variable {h : Hp} {A B C : Nat} {l m : Sl} {p q : List Rat} {KK : Sl × Sl → Hp → Prop} {KR : TRat → Hp → Prop} {KQ : Sl × Sl × Int → Hp → Prop} {x y : TRat} {u v : Rat}
theorem rQuot_call (hx : NR h x u) (hy : NR h y v) (bu : BR A u) (bv : BR B v) (hA : A ≤ 400000) (hB : B ≤ 400000) (h0 : v ≠ 0) (H : ∀ z h', h.le h' → NR h' z (u / v) → KR z h') : callP (F.ref04_quotient x y) KR h := by
  refine callP_of (fun z h' => NR h' z (u / v)) (fun K' hk => ?_) fun z h' hl hz => H z h' hl hz
  unfold F.ref04_quotient
  exact rqDiv_call hx hy bu bv hA hB (NR.num_ne (y := y) h0) fun z h' hl hz => hk _ _ hl hz
theorem co_term {i j : Nat} {t : Rat} : co (trim (List.replicate i 0 ++ [t])) j = if j = i then t else 0 := by
  rw [co_trim, co_shift]
  by_cases h1 : j < i
  · rw [if_pos h1, if_neg (by omega)]
  · rw [if_neg h1]
    by_cases h2 : j = i
    · subst h2; rw [if_pos rfl, Nat.sub_self]; rfl
    · rw [if_neg h2, co_ge (by simp; omega)]
theorem conv_term {i j : Nat} {t : Rat} {g : Nat → Rat} : conv (co (trim (List.replicate i 0 ++ [t]))) g j = if i ≤ j then t * g (j - i) else 0 := by
  unfold conv
  by_cases hij : i ≤ j
  · rw [if_pos hij, sm_one (k := i) (by omega) fun s _ hs => by rw [co_term, if_neg hs, Rat.zero_mul], co_term, if_pos rfl]
  · rw [if_neg hij]
    exact sm_zeros fun s hs => by rw [co_term, if_neg (by omega), Rat.zero_mul]
theorem rpDivMod_call (hp : PL h A l p) (hq : PL h B m q) (hlen : p.length ≤ 900) (hlen2 : q.length ≤ 900) (hB : 1 ≤ B ∧ B ≤ 20000) (hq0 : trim q ≠ [])
    (hC : ∀ k j, k ≤ (trim p).length + 1 - (trim q).length → BR C (restK (co q) ((trim q).length - 1) ((trim p).length + 1 - (trim q).length) (co p) k j)) (hC2 : A ≤ C ∧ 1 ≤ C ∧ C ≤ 20000)
    (H : ∀ y z h' qs rs, h.le h' → PL h' (C + B) y qs → nf qs → PL h' C z rs → nf rs → qs.length ≤ 1000 → rs.length ≤ 1000 → (∀ j, conv (co qs) (co q) j + co rs j = co p j) → (∀ j, (trim q).length - 1 ≤ j → co rs j = 0) → KK (y, z) h') :
    callP (F.ref04_DivMod l m) KK h := by
  refine callP_of (fun yz h' => ∃ qs rs, PL h' (C + B) yz.1 qs ∧ nf qs ∧ PL h' C yz.2 rs ∧ nf rs ∧ qs.length ≤ 1000 ∧ rs.length ≤ 1000 ∧ (∀ j, conv (co qs) (co q) j + co rs j = co p j) ∧ (∀ j, (trim q).length - 1 ≤ j → co rs j = 0)) (fun K' hk => ?_)
    fun yz h' hl ⟨qs, rs, g1, g2, g3, g4, g5, g6, g7, g8⟩ => H yz.1 yz.2 h' qs rs hl g1 g2 g3 g4 g5 g6 g7 g8
  unfold F.ref04_DivMod
  have tq := trim_len (p := q)
  have tp := trim_len (p := p)
  have hd0 : 0 < (trim q).length := List.length_pos_iff.2 hq0
  obtain ⟨d, hd⟩ : ∃ d, (trim q).length = d + 1 := ⟨(trim q).length - 1, by omega⟩
  obtain ⟨N, hN⟩ : ∃ N, N = (trim p).length + 1 - (trim q).length := ⟨_, rfl⟩
  rw [← hN] at hC
  have hdd : (trim q).length - 1 = d := by omega
  rw [hdd] at hC hk
  have hb : co q d ≠ 0 := by
    have := nf_top nf_trim hq0
    rw [hdd, co_trim] at this
    exact this
  have hb2 : ∀ j, d < j → co q j = 0 := fun j hj => by rw [← co_trim, co_ge (by omega)]
  refine rTrim_call hq (by omega) (by omega) fun r1 h1 hr1 => ?_
  refine rTrim_call (hp.le hr1.hle) (by omega) (by omega) fun r2 h2 hr2 => ?_
  have len1 := hr1.len
  have hpl1 := hr1.pl.le hr2.hle
  refine loopP_of (fun st h' => h2.le h' ∧ ∃ qs rs k, PL h' (C + B) st.2.1 qs ∧ nf qs ∧ PL h' C st.1 rs ∧ nf rs ∧ k ≤ N ∧ (∀ j, co rs j = restK (co q) d N (co p) k j) ∧ rs.length ≤ N - k + d ∧ (∀ j, j < N - k → co qs j = 0) ∧
      (∀ j, conv (co qs) (co q) j + co rs j = co p j) ∧ rs.length ≤ (trim p).length ∧ qs.length ≤ N) (fun st => st.1.len)
    ⟨Hp.le_refl _, [], trim p, 0, PL.nil, nf_nil, hr2.pl.mono hC2.1, nf_trim, Nat.zero_le _, fun j => co_trim, by omega, fun j _ => rfl, fun j => by rw [conv_nil, Rat.zero_add, co_trim], Nat.le_refl _, Nat.zero_le _⟩ ?_
  rintro ⟨s, w, _⟩ h3 ⟨hl3, qs, rs, k, hQ, nQ, hR, nR, hk1, cR, lR, cQ, cc, lR2, lQ⟩
  simp only at hQ hR
  have lenR := hR.len
  refine ifP_dec (fun h4 => ?_) (fun h4 => ?_)
  · simp only [lenR, len1] at h4
    obtain ⟨i, hi⟩ : ∃ i, rs.length = i + d + 1 := ⟨rs.length - (d + 1), by omega⟩
    have hiN : i < N := by omega
    have hz : ∀ j, N - (N - 1 - i) + d ≤ j → restK (co q) d N (co p) k j = 0 := fun j hj => by rw [← cR, co_ge (by omega)]
    have hskip := restK_skip (b := co q) (f := co p) (d := d) (N := N) (k := k) (k' := N - 1 - i) (by omega) (by omega) hz
    have hnew : ∀ j, restK (co q) d N (co p) (N - i) j = stepF (co q) d i (co rs) j := fun j => by
      have e4 : N - i = (N - 1 - i) + 1 := by omega
      have e5 : N - 1 - (N - 1 - i) = i := by omega
      rw [e4, restK, e5]
      unfold stepF
      rw [hskip, hskip, cR, cR]
    have e2 : IntKind.i64.wrap ((s.len : Int) - 1) = ((i + d : Nat) : Int) := by rw [lenR, w64 (by omega)]; omega
    have e3 : IntKind.i64.wrap ((r1.len : Int) - 1) = (d : Int) := by rw [len1, w64 (by omega)]; omega
    have e4 : IntKind.i64.wrap ((s.len : Int) - (r1.len : Int)) = (i : Int) := by rw [lenR, len1, w64 (by omega)]; omega
    simp only [e2, e3, e4]
    refine hR.get (i + d) rfl (by omega) fun u hu bu => ?_
    refine (hpl1.le hl3).get d rfl (by omega) fun v hv bv => ?_
    have ev1 : (trim q)[d]'(by omega) = co q d := by rw [← co_lt (show d < (trim q).length by omega), co_trim]
    have eu1 : rs[i + d]'(by omega) = co rs (i + d) := (co_lt (by omega)).symm
    rw [ev1] at hv bv
    rw [eu1] at hu bu
    refine rQuot_call hu hv bu bv (by omega) (by omega) hb fun t h5 hl5 ht => ?_
    have bt : BR (C + B) (co rs (i + d) / co q d) := bu.div bv (NR.num_ne (y := v) hb)
    obtain ⟨tt, htt⟩ : ∃ tt, tt = co rs (i + d) / co q d := ⟨_, rfl⟩
    rw [← htt] at ht bt
    refine new_rats (xs := [t]) 1 rfl fun a h6 hl6 ha => ?_
    have hone : PL h6 (C + B) ⟨some a, 1, 1⟩ [tt] := PL.one ha (ht.le hl6) bt
    refine rShift_call hone (by simp; omega) (by omega) fun r11 h7 hr11 => ?_
    have hl36 := Hp.le_trans hl5 (Hp.le_trans hl6 hr11.hle)
    have lterm : (trim (List.replicate i 0 ++ [tt])).length ≤ i + 1 := by
      have := trim_len (p := List.replicate i 0 ++ [tt])
      simpa using this
    refine rpAdd_call (hQ.le hl36) hr11.pl (by omega) (by omega) (by omega) (by omega) (C := C + B) (fun j => ?_) (by omega) fun r12 h8 hr12 => ?_
    · rw [co_term]
      by_cases hj : j = i
      · rw [if_pos hj, hj, cQ i (by omega), Rat.zero_add]; exact bt
      · rw [if_neg hj, Rat.add_zero]
        exact BR.co hQ.bound (by omega) j
    have hl38 := Hp.le_trans hl36 hr12.hle
    refine rpMul_call (hr11.pl.le hr12.hle) ((hpl1.le hl3).le hl38) (by omega) (by omega) (by omega) (by omega) (C := C + B + B) (fun k n _ => ?_) (by omega) fun r13 h9 hl9 hr13 => ?_
    · -- a partial sum has at most one summand
      unfold Pq.part
      have bq := fun j => BR.co (hpl1.bound) hB.1 j
      have hzero : BR (C + B + B) 0 := BR_zero.mono (by omega)
      by_cases hn : i ≤ n ∧ n - i < k
      · rw [sm_one (k := n - i) hn.2 fun s hs hs2 => ?_]
        · rw [if_pos (by omega), co_term, if_pos (by omega)]
          exact ((bq (n - i)).mul bt).mono (by omega)
        · split
          · rw [co_term, if_neg (by omega), Rat.mul_zero]
          · rfl
      · rw [sm_zeros fun s hs => ?_]
        · exact hzero
        · split
          · rw [co_term, if_neg (by omega), Rat.mul_zero]
          · rfl
    rw [if_neg hq0] at hr13
    have hl39 := Hp.le_trans hl38 hl9
    have cM : ∀ j, co (trim (mulL (trim (List.replicate i 0 ++ [tt])) (trim q))) j = if i ≤ j then tt * co q (j - i) else 0 := fun j => by
      rw [co_trim, co_mulL, conv_term]
      split
      · rw [co_trim]
      · rfl
    have lM : (trim (mulL (trim (List.replicate i 0 ++ [tt])) (trim q))).length ≤ 100000 := nf_len nf_trim fun n hn => by
      rw [cM]
      split
      · rw [hb2 _ (by omega), Rat.mul_zero]
      · rfl
    have cS : ∀ j, co rs j - co (trim (mulL (trim (List.replicate i 0 ++ [tt])) (trim q))) j = stepF (co q) d i (co rs) j := fun j => by
      rw [cM]
      unfold stepF
      rw [← htt]
      split
      · rfl
      · grind
    refine rpSub_call (hR.le hl39) hr13 (by omega) lM (by omega) (by omega) (C := C) (fun j => by rw [cS, ← hnew]; exact hC _ _ (by omega)) (by omega) fun r14 h10 hr14 => ?_
    have hl310 := Hp.le_trans hl39 hr14.hle
    have cN : ∀ j, co (trim (addL rs (negL (trim (mulL (trim (List.replicate i 0 ++ [tt])) (trim q)))))) j = stepF (co q) d i (co rs) j := fun j => by
      rw [co_trim, co_addL, co_negL, ← cS]; grind
    have lN : (trim (addL rs (negL (trim (mulL (trim (List.replicate i 0 ++ [tt])) (trim q)))))).length ≤ i + d := nf_len nf_trim fun j hj => by
      rw [cN]
      unfold stepF
      rw [if_pos (by omega)]
      by_cases hj2 : j = i + d
      · subst hj2
        rw [Nat.add_sub_cancel_left, Rat.div_mul_cancel hb]; grind
      · rw [co_ge (by omega), hb2 (j - i) (by omega)]; grind
    refine ⟨⟨Hp.le_trans hl3 hl310, _, _, N - i, (hr12.pl.le (Hp.le_trans hl9 hr14.hle)), nf_trim, hr14.pl, nf_trim, by omega, fun j => by rw [cN, hnew], by omega, fun j hj => ?_, fun j => ?_, by omega, ?_⟩, ?_⟩
    · rw [co_trim, co_addL, cQ j (by omega), co_term, if_neg (by omega)]; grind
    · rw [cN, ← cS, cM]
      have e6 : conv (co (trim (addL qs (trim (List.replicate i 0 ++ [tt]))))) (co q) j = conv (co qs) (co q) j + (if i ≤ j then tt * co q (j - i) else 0) := by
        rw [← conv_term (g := co q), conv_comm, conv_comm (f := co qs), conv_comm (f := co (trim (List.replicate i 0 ++ [tt]))), ← conv_add]
        exact conv_congr (fun _ => rfl) fun n => by rw [co_trim, co_addL]
      rw [e6]
      have := cc j
      grind
    · refine nf_len nf_trim fun j hj => ?_
      rw [co_trim, co_addL, co_ge (by omega), co_term, if_neg (by omega)]; grind
    · have := hr14.len
      omega
  · simp only [lenR, len1] at h4
    refine hk _ _ (Hp.le_trans hr1.hle (Hp.le_trans hr2.hle hl3)) ⟨qs, rs, hQ, nQ, hR, nR, by omega, by omega, cc, fun j hj => co_ge (by omega)⟩
theorem ppDivMod_call (hp : PL h A l p) (hq : PL h B m q) (hlen : p.length ≤ 1000) (hlen2 : q.length ≤ 1000) (hB : 1 ≤ B ∧ B ≤ 50000)
    (hC : ∀ k j, trim q ≠ [] → k ≤ (trim p).length + 1 - (trim q).length → BR C (restK (co q) ((trim q).length - 1) ((trim p).length + 1 - (trim q).length) (co p) k j)) (hC2 : A ≤ C ∧ C ≤ 50000)
    (H0 : trim q = [] → ∀ h', h.le h' → KQ (nilS, nilS, 6) h')
    (H : trim q ≠ [] → ∀ y z h' qs rs, h.le h' → PL h' (C + B) y (trim qs) → PL h' C z (trim rs) → qs.length ≤ 1001 → rs.length ≤ 1000 → (∀ j, conv (co qs) (co q) j + co rs j = co p j) → (∀ j, (trim q).length - 1 ≤ j → co rs j = 0) → KQ (y, z, 0) h') :
    callP (F.polynomial_DivMod l m) KQ h := by
  refine callP_of (fun r h' => (trim q = [] ∧ r = (nilS, nilS, 6)) ∨ (trim q ≠ [] ∧ r.2.2 = 0 ∧ ∃ qs rs, PL h' (C + B) r.1 (trim qs) ∧ PL h' C r.2.1 (trim rs) ∧ qs.length ≤ 1001 ∧ rs.length ≤ 1000 ∧ (∀ j, conv (co qs) (co q) j + co rs j = co p j) ∧ (∀ j, (trim q).length - 1 ≤ j → co rs j = 0))) (fun K' hk => ?_)
    fun r h' hl hr => by
      rcases hr with ⟨g1, rfl⟩ | ⟨g1, g2, qs, rs, g3, g4, g5, g6, g7, g8⟩
      · exact H0 g1 h' hl
      · obtain ⟨y, z, e⟩ := r
        simp only at g2
        subst g2
        exact H g1 y z h' qs rs hl g3 g4 g5 g6 g7 g8
  unfold F.polynomial_DivMod
  refine pDegree_call hq (by omega) (by omega) fun h1 hl1 => ?_
  refine ifP_dec (fun h2 => ?_) (fun h2 => ?_)
  · exact hk _ _ hl1 (.inl ⟨List.eq_nil_of_length_eq_zero (by omega), rfl⟩)
  · have hq0 : trim q ≠ [] := fun hh => by rw [hh] at h2; exact h2 (by decide)
    exact pdivide_call (hp.le hl1) (hq.le hl1) hlen hlen2 hB hq0 (fun k j hk => hC k j hq0 hk) hC2 fun y z h' qs rs hl g3 g4 g5 g6 g7 g8 => hk _ _ (Hp.le_trans hl1 hl) (.inr ⟨hq0, rfl, qs, rs, g3, g4, g5, g6, g7, g8⟩)
end
end Den
end

section
/-
  Polynomials: leading coefficient 1, derivatives, bounds.
-/
set_option linter.unusedVariables false
namespace Den
open Go Iv Pq
def lead (p : List Rat) : Rat := co p ((trim p).length - 1)
/-- The multiple with the leading coefficient 1. -/
def monQ (p : List Rat) : List Rat := (trim p).map (((((1 : Int) : Rat)) / lead p) * ·)
theorem one_val : (((1 : Int) : Rat)) = 1 := rfl
theorem lead_ne {p : List Rat} (h : trim p ≠ []) : lead p ≠ 0 := by
  have := nf_top nf_trim h
  rw [co_trim] at this
  exact this
theorem nf_mapc {c : Rat} {p : List Rat} (hc : c ≠ 0) (hp : nf p) : nf (p.map (c * ·)) := by
  rcases hp with rfl | hp
  · exact .inl rfl
  · right
    rw [List.length_map, co_mapc]
    intro hh
    rcases Rat.mul_eq_zero.1 hh with h | h
    · exact hc h
    · exact hp h
theorem inv_ne {a : Rat} (h : a ≠ 0) : (((1 : Int) : Rat)) / a ≠ 0 := fun hh => by
  have e : (((1 : Int) : Rat)) = (((1 : Int) : Rat)) / a * a := (Rat.div_mul_cancel h).symm
  rw [hh, Rat.zero_mul, one_val] at e
  exact absurd e (by decide)
theorem nf_monQ {p : List Rat} : nf (monQ p) := by
  by_cases h : trim p = []
  · unfold monQ; rw [h]; exact .inl rfl
  · exact nf_mapc (inv_ne (lead_ne h)) nf_trim
theorem monQ_len {p : List Rat} : (monQ p).length = (trim p).length := by unfold monQ; simp
theorem co_monQ {p : List Rat} {i : Nat} : co (monQ p) i = (((1 : Int) : Rat)) / lead p * co p i := by unfold monQ; rw [co_mapc, co_trim]
theorem BR_int {n : Nat} (h : n < 4294967296) : BR 1 (((n : Int) : Rat)) := by
  refine ⟨?_, ?_⟩
  · unfold Lt
    show (n : Int).natAbs < W ^ 1
    rw [Int.natAbs_natCast, Nat.pow_one, W_eq]; exact h
  · unfold Lt
    show ((1 : Nat) : Int).natAbs < W ^ 1
    decide
section
variable {h : Hp} {A B C : Nat} {l m : Sl} {p q : List Rat} {K : Sl → Hp → Prop} {KR : TRat → Hp → Prop} {x y : TRat} {u v : Rat}

theorem pMonic_call (hp : PL h A l p) (hlen : p.length ≤ 100000) (hA : A ≤ 100000) (H : ∀ y h', h.le h' → PL h' (A + (1 + A)) y (monQ p) → K y h') : callP (F.polynomial_monic l) K h := by
  refine callP_of (fun y h' => PL h' (A + (1 + A)) y (monQ p)) (fun K' hk => ?_) fun y h' hl hy => H y h' hl hy
  unfold F.polynomial_monic
  have tp := trim_len (p := p)
  refine pTrim_call hp (by omega) (by omega) fun r1 h1 hr1 => ?_
  have len1 := hr1.len
  have hpl := hr1.pl
  refine ifP_eq (fun h2 => ?_) (fun h2 => ?_)
  · have h0 : trim p = [] := List.eq_nil_of_length_eq_zero (by omega)
    refine hk _ _ hr1.hle ?_
    unfold monQ
    rw [h0]; exact PL.nil
  · have h0 : trim p ≠ [] := fun hh => by rw [hh] at len1; exact h2 (by rw [len1]; rfl)
    have hpos : 0 < (trim p).length := List.length_pos_iff.2 h0
    have e : IntKind.i64.wrap ((r1.len : Int) - 1) = (((trim p).length - 1 : Nat) : Int) := by rw [len1, w64 (by omega)]; omega
    refine hpl.get _ e (by omega) fun y hy by_ => ?_
    have ey : (trim p)[(trim p).length - 1]'(by omega) = lead p := by rw [← co_lt (show (trim p).length - 1 < (trim p).length by omega), co_trim]; rfl
    rw [ey] at hy by_
    refine qFromInt_call (by decide) (by decide) fun o h3 hl3 ho => ?_
    refine qDiv_call ho (hy.le hl3) BR_one by_ (by omega) (by omega) (NR.num_ne (y := y) (lead_ne h0)) fun z h4 hl4 hz => ?_
    refine pScale_call ((hpl.le hl3).le hl4) hz (BR_one.div by_ (NR.num_ne (y := y) (lead_ne h0))) (by omega) (by omega) (by omega) fun w h5 hw => ?_
    rw [trim_nf (nf_mapc (inv_ne (lead_ne h0)) nf_trim)] at hw
    exact hk _ _ (Hp.le_trans hr1.hle (Hp.le_trans hl3 (Hp.le_trans hl4 hw.hle))) hw.pl
theorem rMonic_call (hp : PL h A l p) (hlen : p.length ≤ 100000) (hA : A ≤ 100000) (H : ∀ y h', h.le h' → PL h' (A + (1 + A)) y (monQ p) → K y h') : callP (F.ref04_Monic l) K h := by
  refine callP_of (fun y h' => PL h' (A + (1 + A)) y (monQ p)) (fun K' hk => ?_) fun y h' hl hy => H y h' hl hy
  unfold F.ref04_Monic
  have tp := trim_len (p := p)
  refine rTrim_call hp (by omega) (by omega) fun r1 h1 hr1 => ?_
  have len1 := hr1.len
  have hpl := hr1.pl
  refine ifP_eq (fun h2 => ?_) (fun h2 => ?_)
  · have h0 : trim p = [] := List.eq_nil_of_length_eq_zero (by omega)
    refine hk _ _ hr1.hle ?_
    have e : monQ p = trim p := by unfold monQ; rw [h0]; rfl
    rw [e]
    exact hpl.mono (by omega)
  · have h0 : trim p ≠ [] := fun hh => by rw [hh] at len1; exact h2 (by rw [len1]; rfl)
    have hpos : 0 < (trim p).length := List.length_pos_iff.2 h0
    have e : IntKind.i64.wrap ((r1.len : Int) - 1) = (((trim p).length - 1 : Nat) : Int) := by rw [len1, w64 (by omega)]; omega
    refine hpl.get _ e (by omega) fun y hy by_ => ?_
    have ey : (trim p)[(trim p).length - 1]'(by omega) = lead p := by rw [← co_lt (show (trim p).length - 1 < (trim p).length by omega), co_trim]; rfl
    rw [ey] at hy by_
    refine rqFromInt_call (by decide) (by decide) fun o h3 hl3 ho => ?_
    refine rQuot_call ho (hy.le hl3) BR_one by_ (by omega) (by omega) (lead_ne h0) fun z h4 hl4 hz => ?_
    refine rScale_call ((hpl.le hl3).le hl4) hz (BR_one.div by_ (NR.num_ne (y := y) (lead_ne h0))) (by omega) (by omega) (by omega) fun w h5 hw => ?_
    rw [trim_nf (nf_mapc (inv_ne (lead_ne h0)) nf_trim)] at hw
    exact hk _ _ (Hp.le_trans hr1.hle (Hp.le_trans hl3 (Hp.le_trans hl4 hw.hle))) hw.pl

/-! ### Derivatives -/
def derP (p : List Rat) (n : Nat) : List Rat := (List.range n).map fun i => co p (i + 1) * (((i + 1 : Nat) : Int) : Rat)
def derL (p : List Rat) : List Rat := derP p (p.length - 1)
theorem co_derL {i : Nat} : co (derL p) i = der (co p) i := by
  unfold derL derP der
  rw [co_range]
  split
  · rw [Rat.mul_comm]; rfl
  · rw [co_ge (by omega), Rat.mul_zero]
theorem derP_succ {n : Nat} (hn : n + 1 < p.length) : derP p (n + 1) = derP p n ++ [p[n + 1] * (((n + 1 : Nat) : Int) : Rat)] := by
  unfold derP
  rw [List.range_succ, List.map_append]
  simp only [List.map_cons, List.map_nil]
  rw [co_lt hn]
theorem pDerivative_call (hp : PL h A l p) (hlen : p.length ≤ 100000) (hA : A ≤ 100000) (H : ∀ y h', OL h h' (A + 1) y (trim (derL p)) → K y h') : callP (F.polynomial_Derivative l) K h := by
  refine callP_of (fun y h' => OL h h' (A + 1) y (trim (derL p))) (fun K' hk => ?_) fun y h' _ hy => H y h' hy
  unfold F.polynomial_Derivative
  have hl := hp.len
  refine loopP_of (fun st h' => ∃ D, h.le D ∧ ∃ i : Nat, st.2.1 = (i : Int) ∧ i ≤ p.length ∧ OD D h' (A + 1) st.1 (derP p (i - 1))) (fun st => (p.length - st.2.1).toNat)
    ⟨h, Hp.le_refl _, 0, rfl, Nat.zero_le _, OD.nil⟩ ?_
  rintro ⟨s, _, _⟩ h1 ⟨D, hD, i, hi, hi2, ho⟩
  simp only at hi ho
  subst hi
  refine ifP_dec (fun h3 => ?_) (fun h3 => ?_)
  · have hi' : i < p.length := by simp only at h3; omega
    refine joinP_inv (fun s' h' => ∃ D, h.le D ∧ OD D h' (A + 1) s'.1 (derP p i)) ?_ ?_
    · rintro ⟨s', _⟩ h4 ⟨D', hD', ho'⟩
      refine ⟨⟨D', hD', i + 1, ?_, hi', ho'⟩, ?_⟩
      · simp only; rw [w64 (by omega)]; rfl
      · simp only; rw [w64 (by omega)]; omega
    · refine hp.getle i (Hp.le_trans hD ho.dle) rfl hi' fun y hy by_ => ?_
      refine ifP_dec (fun h4 => ?_) (fun h4 => ?_)
      · simp only at h4
        obtain ⟨j, rfl⟩ : ∃ j, i = j + 1 := ⟨i - 1, by omega⟩
        refine ho.call (K1 := fun z D' => NR D' z ((((j + 1 : Nat) : Int)) : Rat)) (qFromInt_call (by simp only; omega) (by simp only; omega) fun z D' _ hz => hz) fun z D1 h5 hl1 ho1 hz => ?_
        refine ho1.call (K1 := fun z D' => NR D' z (p[j + 1] * ((((j + 1 : Nat) : Int)) : Rat))) (qMul_call ((hy.le hD).le hl1) hz by_ (BR_int (by omega)) (by omega) (by omega) fun z D' _ hz => hz) fun z2 D2 h6 hl2 ho2 hz2 => ?_
        refine ho2.app (by unfold derP; simp; omega) hz2 (by_.mul (BR_int (by omega))) fun w h7 hw => ⟨D2, Hp.le_trans hD (Hp.le_trans hl1 hl2), ?_⟩
        rw [derP_succ hi']
        exact hw
      · simp only at h4
        have : i = 0 := by omega
        subst this
        exact ⟨D, hD, ho⟩
  · have hi' : i = p.length := by simp only at h3; omega
    subst hi'
    refine pTrim_call ho.pl (by unfold derP; simp; omega) (by omega) fun y h' hy => hk _ _ (Hp.le_trans hD (Hp.le_trans ho.dle hy.hle)) (hy.base (Hp.le_trans hD ho.dle))
theorem rDerivative_call (hp : PL h A l p) (hlen : p.length ≤ 100000) (hA : A ≤ 100000) (H : ∀ y h', OL h h' (A + 1) y (trim (derL p)) → K y h') : callP (F.ref04_Derivative l) K h := by
  refine callP_of (fun y h' => OL h h' (A + 1) y (trim (derL p))) (fun K' hk => ?_) fun y h' _ hy => H y h' hy
  unfold F.ref04_Derivative
  have hl := hp.len
  refine loopP_of (fun st h' => ∃ D, h.le D ∧ ∃ i : Nat, st.2.1 = ((i + 1 : Nat) : Int) ∧ i ≤ p.length - 1 ∧ OD D h' (A + 1) st.1 (derP p i)) (fun st => (p.length - st.2.1).toNat)
    ⟨h, Hp.le_refl _, 0, rfl, Nat.zero_le _, OD.nil⟩ ?_
  rintro ⟨s, _, _⟩ h1 ⟨D, hD, i, hi, hi2, ho⟩
  simp only at hi ho
  subst hi
  refine ifP_dec (fun h3 => ?_) (fun h3 => ?_)
  · have hi' : i + 1 < p.length := by simp only at h3; omega
    refine hp.getle (i + 1) (Hp.le_trans hD ho.dle) rfl hi' fun y hy by_ => ?_
    refine ho.call (K1 := fun z D' => NR D' z ((((i + 1 : Nat) : Int)) : Rat)) (rqFromInt_call (by simp only; omega) (by simp only; omega) fun z D' _ hz => hz) fun z D1 h5 hl1 ho1 hz => ?_
    refine ho1.call (K1 := fun z D' => NR D' z (p[i + 1] * ((((i + 1 : Nat) : Int)) : Rat))) (rqMul_call ((hy.le hD).le hl1) hz by_ (BR_int (by omega)) (by omega) (by omega) fun z D' _ hz => hz) fun z2 D2 h6 hl2 ho2 hz2 => ?_
    refine ho2.app (by unfold derP; simp; omega) hz2 (by_.mul (BR_int (by omega))) fun w h7 hw => ⟨⟨D2, Hp.le_trans hD (Hp.le_trans hl1 hl2), i + 1, ?_, by omega, ?_⟩, ?_⟩
    · simp only; rw [w64 (by omega)]; rfl
    · rw [derP_succ hi']; exact hw
    · simp only; rw [w64 (by omega)]; omega
  · have hi' : i = p.length - 1 := by simp only at h3; omega
    subst hi'
    refine rTrim_call ho.pl (by unfold derP; simp; omega) (by omega) fun y h' hy => hk _ _ (Hp.le_trans hD (Hp.le_trans ho.dle hy.hle)) (hy.base (Hp.le_trans hD ho.dle))

/-! ### Bounds -/
def absQ (x : Rat) : Rat := if x < 0 then -x else x
def mxS (m x : Rat) : Rat := if m < absQ x then absQ x else m
def bndQ (p : List Rat) : Rat := if (monQ p).length < 2 then (((0 : Int) : Rat)) else ((monQ p).take ((monQ p).length - 1)).foldl mxS (((0 : Int) : Rat)) + (((1 : Int) : Rat))
theorem abs_BR (hv : BR B v) : BR B (absQ v) := by
  unfold absQ; split
  · exact hv.neg
  · exact hv
theorem mx_BR (hu : BR B u) (hv : BR B v) : BR B (mxS u v) := by
  unfold mxS; split
  · exact abs_BR hv
  · exact hu
theorem take_foldl2 {f : Rat → Rat → Rat} {q : Rat} {l : List Rat} {i : Nat} (hi : i < l.length) : (l.take (i + 1)).foldl f q = f ((l.take i).foldl f q) l[i] := take_foldl hi
theorem sign_neg {v : Rat} : v.num.sign < 0 ↔ v < 0 := by
  rw [Int.sign_neg_iff]; exact num_lt
theorem pBound_call (hp : PL h A l p) (hlen : p.length ≤ 100000) (hA : A ≤ 50000) (H : ∀ z h', h.le h' → NR h' z (bndQ p) → KR z h') : callP (F.polynomial_Bound l) KR h := by
  refine callP_of (fun z h' => NR h' z (bndQ p)) (fun K' hk => ?_) fun z h' hl hz => H z h' hl hz
  unfold F.polynomial_Bound
  refine pMonic_call hp hlen (by omega) fun r1 h1 hl1 hr1 => ?_
  obtain ⟨M, hM⟩ : ∃ M, M = monQ p := ⟨_, rfl⟩
  have hb : bndQ p = if M.length < 2 then (((0 : Int) : Rat)) else (M.take (M.length - 1)).foldl mxS (((0 : Int) : Rat)) + (((1 : Int) : Rat)) := by rw [hM]; rfl
  rw [hb] at hk
  rw [← hM] at hr1
  have len1 := hr1.len
  have hcap := hr1.cap
  have lM : M.length ≤ 100000 := by rw [hM, monQ_len]; exact Nat.le_trans trim_len hlen
  refine ifP_dec (fun h2 => ?_) (fun h2 => ?_)
  · refine qFromInt_call (by decide) (by decide) fun z h3 hl3 hz => hk _ _ (Hp.le_trans hl1 hl3) ?_
    rw [if_pos (by omega)]; exact hz
  · rw [if_neg (by omega)] at hk
    refine qFromInt_call (by decide) (by decide) fun z h3 hl3 hz => ?_
    have e : IntKind.i64.wrap ((r1.len : Int) - 1) = ((M.length - 1 : Nat) : Int) := by rw [len1, w64 (by omega)]; omega
    refine slQ_of 0 (M.length - 1) rfl e (Nat.zero_le _) (by omega) ?_
    have hcut := (hr1.le hl3).cut (n := M.length - 1) (by omega)
    have lc : (r1.cut 0 (M.length - 1) 4).len = M.length - 1 := rfl
    obtain ⟨T, hT⟩ : ∃ T, T = M.take (M.length - 1) := ⟨_, rfl⟩
    rw [← hT] at hcut hk
    have lT : T.length = M.length - 1 := by rw [hT, List.length_take]; omega
    have bT := hcut.bound
    have b0 : BR (A + (1 + A)) (((0 : Int) : Rat)) := BR_zero.mono (by omega)
    have bF : ∀ i, BR (A + (1 + A)) ((T.take i).foldl mxS (((0 : Int) : Rat))) := fun i => by
      have key : ∀ (L : List Rat) (m : Rat), BR (A + (1 + A)) m → (∀ v ∈ L, BR (A + (1 + A)) v) → BR (A + (1 + A)) (L.foldl mxS m) := by
        intro L
        induction L with
        | nil => intro m hm _; exact hm
        | cons a L ih => intro m hm hL; exact ih _ (mx_BR hm (hL a (by simp))) fun v hv => hL v (by simp [hv])
      exact key _ _ b0 fun v hv => bT v (List.mem_of_mem_take hv)
    refine loopP_of (fun st h' => h3.le h' ∧ ∃ i : Nat, st.2.1 = (i : Int) ∧ i ≤ T.length ∧ NR h' (q4 st.1) ((T.take i).foldl mxS (((0 : Int) : Rat)))) (fun st => (T.length - st.2.1).toNat)
      ⟨Hp.le_refl _, 0, rfl, Nat.zero_le _, hz⟩ ?_
    rintro ⟨s, _, _⟩ h4 ⟨hl4, i, hi, hi2, hs⟩
    simp only at hi hs
    subst hi
    refine ifP_dec (fun h5 => ?_) (fun h5 => ?_)
    · have hi' : i < T.length := by simp only [lc] at h5; omega
      refine joinP_inv (fun s' h' => h4.le h' ∧ NR h' (q4 s'.1) ((T.take (i + 1)).foldl mxS (((0 : Int) : Rat)))) ?_ ?_
      · rintro ⟨s', _⟩ h6 ⟨hl6, hs'⟩
        refine ⟨⟨Hp.le_trans hl4 hl6, i + 1, ?_, hi', hs'⟩, ?_⟩
        · simp only; rw [w64 (by omega)]; rfl
        · simp only; rw [w64 (by omega)]; omega
      · refine (hcut.le hl4).get i rfl hi' fun y hy by_ => ?_
        refine joinP_inv (fun s' h' => h4.le h' ∧ NR h' (q4 s'.1) (absQ T[i])) ?_ ?_
        · rintro ⟨⟨s1, s2, s3, s4, _⟩, _⟩ h6 ⟨hl6, hs'⟩
          refine qCmp_call hs' (hs.le hl6) (abs_BR by_) (bF i) (by omega) (by omega) fun h7 hl7 => ?_
          refine ifP_dec (fun h8 => ⟨Hp.le_trans hl6 hl7, ?_⟩) (fun h8 => ⟨Hp.le_trans hl6 hl7, ?_⟩)
          · rw [take_foldl2 hi', mxS, if_pos (cmpQ_gt.1 h8)]; exact hs'.le hl7
          · rw [take_foldl2 hi', mxS, if_neg (fun hh => h8 (cmpQ_gt.2 hh))]; exact (hs.le hl6).le hl7
        · refine qSign_call hy by_ (by omega) ?_
          refine ifP_dec (fun h6 => ?_) (fun h6 => ⟨Hp.le_refl _, ?_⟩)
          · refine qNeg_call hy by_ (by omega) fun w h7 hl7 hw => ⟨hl7, ?_⟩
            have : absQ T[i] = - T[i] := by unfold absQ; rw [if_pos (sign_neg.1 h6)]
            rw [this]; exact hw
          · have : absQ T[i] = T[i] := by unfold absQ; rw [if_neg (fun hh => h6 (sign_neg.2 hh))]
            rw [this]; exact hy
    · have hi' : i = T.length := by simp only [lc] at h5; omega
      subst hi'
      rw [List.take_length] at hs
      have bL := bF T.length
      rw [List.take_length] at bL
      refine qFromInt_call (by decide) (by decide) fun o h6 hl6 ho => ?_
      refine qAdd_call (hs.le hl6) ho bL BR_one (by omega) (by omega) fun w h7 hl7 hw => hk _ _ (Hp.le_trans hl1 (Hp.le_trans hl3 (Hp.le_trans hl4 (Hp.le_trans hl6 hl7)))) hw
theorem rAbs_call (hx : NR h x v) (bv : BR B v) (hB : B ≤ 1000000) (H : ∀ z h', h.le h' → NR h' z (absQ v) → KR z h') : callP (F.ref04_abs x) KR h := by
  refine callP_of (fun z h' => NR h' z (absQ v)) (fun K' hk => ?_) fun z h' hl hz => H z h' hl hz
  unfold F.ref04_abs
  refine rqSign_call hx bv hB ?_
  refine ifP_dec (fun h6 => ?_) (fun h6 => ?_)
  · refine rqNeg_call hx bv hB fun w hw => hk _ _ (Hp.le_refl _) ?_
    have : absQ v = - v := by unfold absQ; rw [if_pos (sign_neg.1 h6)]
    rw [this]; exact hw
  · refine hk _ _ (Hp.le_refl _) ?_
    have : absQ v = v := by unfold absQ; rw [if_neg (fun hh => h6 (sign_neg.2 hh))]
    rw [this]; exact hx
theorem rBound_call (hp : PL h A l p) (hlen : p.length ≤ 100000) (hA : A ≤ 50000) (H : ∀ z h', h.le h' → NR h' z (bndQ p) → KR z h') : callP (F.ref04_Bound l) KR h := by
  refine callP_of (fun z h' => NR h' z (bndQ p)) (fun K' hk => ?_) fun z h' hl hz => H z h' hl hz
  unfold F.ref04_Bound
  refine rMonic_call hp hlen (by omega) fun r1 h1 hl1 hr1 => ?_
  obtain ⟨M, hM⟩ : ∃ M, M = monQ p := ⟨_, rfl⟩
  have hb : bndQ p = if M.length < 2 then (((0 : Int) : Rat)) else (M.take (M.length - 1)).foldl mxS (((0 : Int) : Rat)) + (((1 : Int) : Rat)) := by rw [hM]; rfl
  rw [hb] at hk
  rw [← hM] at hr1
  have len1 := hr1.len
  have lM : M.length ≤ 100000 := by rw [hM, monQ_len]; exact Nat.le_trans trim_len hlen
  refine ifP_dec (fun h2 => ?_) (fun h2 => ?_)
  · refine rZero_call fun z h3 hl3 hz => hk _ _ (Hp.le_trans hl1 hl3) ?_
    rw [if_pos (by omega)]; exact hz
  · rw [if_neg (by omega)] at hk
    refine rZero_call fun z h3 hl3 hz => ?_
    have hpl := hr1.le hl3
    obtain ⟨T, hT⟩ : ∃ T, T = M.take (M.length - 1) := ⟨_, rfl⟩
    rw [← hT] at hk
    have lT : T.length = M.length - 1 := by rw [hT, List.length_take]; omega
    have bT : ∀ v ∈ T, BR (A + (1 + A)) v := fun v hv => by rw [hT] at hv; exact hpl.bound v (List.mem_of_mem_take hv)
    have b0 : BR (A + (1 + A)) (((0 : Int) : Rat)) := BR_zero.mono (by omega)
    have bF : ∀ i, BR (A + (1 + A)) ((T.take i).foldl mxS (((0 : Int) : Rat))) := fun i => by
      have key : ∀ (L : List Rat) (m : Rat), BR (A + (1 + A)) m → (∀ v ∈ L, BR (A + (1 + A)) v) → BR (A + (1 + A)) (L.foldl mxS m) := by
        intro L
        induction L with
        | nil => intro m hm _; exact hm
        | cons a L ih => intro m hm hL; exact ih _ (mx_BR hm (hL a (by simp))) fun v hv => hL v (by simp [hv])
      exact key _ _ b0 fun v hv => bT v (List.mem_of_mem_take hv)
    refine loopP_of (fun st h' => h3.le h' ∧ ∃ i : Nat, st.2.1 = (i : Int) ∧ i ≤ T.length ∧ NR h' (q4 st.1) ((T.take i).foldl mxS (((0 : Int) : Rat)))) (fun st => (T.length - st.2.1).toNat)
      ⟨Hp.le_refl _, 0, rfl, Nat.zero_le _, hz⟩ ?_
    rintro ⟨s, _, _⟩ h4 ⟨hl4, i, hi, hi2, hs⟩
    simp only at hi hs
    subst hi
    have e1 : IntKind.i64.wrap ((i : Int) + 1) = ((i + 1 : Nat) : Int) := by rw [w64 (by omega)]; rfl
    refine ifP_dec (fun h5 => ?_) (fun h5 => ?_)
    · have hi' : i < T.length := by simp only [e1] at h5; omega
      have hiM : i < M.length := by omega
      have eT : M[i] = T[i] := by simp only [hT, List.getElem_take]
      refine joinP_inv (fun s' h' => h4.le h' ∧ NR h' (q4 s'.1) ((T.take (i + 1)).foldl mxS (((0 : Int) : Rat)))) ?_ ?_
      · rintro ⟨s', _⟩ h6 ⟨hl6, hs'⟩
        refine ⟨⟨Hp.le_trans hl4 hl6, i + 1, e1, hi', hs'⟩, ?_⟩
        simp only; rw [e1]; omega
      · refine (hpl.le hl4).get i rfl hiM fun y hy by_ => ?_
        rw [eT] at hy by_
        refine rAbs_call hy by_ (by omega) fun w h6 hl6 hw => ?_
        refine rqCmp_call hw (hs.le hl6) (abs_BR by_) (bF i) (by omega) (by omega) fun h7 hl7 => ?_
        have hl67 := Hp.le_trans hl6 hl7
        refine ifP_dec (fun h8 => ?_) (fun h8 => ⟨hl67, ?_⟩)
        · refine (hpl.le (Hp.le_trans hl4 hl67)).get i rfl hiM fun y2 hy2 by2 => ?_
          rw [eT] at hy2 by2
          refine rAbs_call hy2 by2 (by omega) fun w2 h9 hl9 hw2 => ⟨Hp.le_trans hl67 hl9, ?_⟩
          rw [take_foldl2 hi', mxS, if_pos (cmpQ_gt.1 h8)]; exact hw2
        · rw [take_foldl2 hi', mxS, if_neg (fun hh => h8 (cmpQ_gt.2 hh))]; exact (hs.le hl6).le hl7
    · have hi' : i = T.length := by simp only [e1] at h5; omega
      subst hi'
      rw [List.take_length] at hs
      have bL := bF T.length
      rw [List.take_length] at bL
      refine rqFromInt_call (by decide) (by decide) fun o h6 hl6 ho => ?_
      refine rqAdd_call (hs.le hl6) ho bL BR_one (by omega) (by omega) fun w h7 hl7 hw => hk _ _ (Hp.le_trans hl1 (Hp.le_trans hl3 (Hp.le_trans hl4 (Hp.le_trans hl6 hl7)))) hw
end
end Den
end

section
/-
  The statements' guards: short coefficients, copies, comparisons, small examples.
-/
set_option linter.unusedVariables false
namespace Den
open Go Iv Pq
/-- l is any value of the type. -/
def AQ (h : Hp) (l : Sl) : Prop := ∃ xs, RdQ h l xs ∧ (∀ x ∈ xs, AR h x) ∧ l.len ≤ l.cap
theorem AQ.le {h h' : Hp} {l : Sl} (ha : AQ h l) (hl : h.le h') : AQ h' l := by
  obtain ⟨xs, h1, h2, h3⟩ := ha
  exact ⟨xs, h1.le hl, fun x hx => (h2 x hx).le hl, h3⟩
theorem NI.ai {h : Hp} {a : TInt} {n : Int} (hn : NI h a n) : AI h a := ⟨_, hn.1, ok_dg _⟩
theorem NR.ar {h : Hp} {x : TRat} {q : Rat} (hx : NR h x q) : AR h x := ⟨hx.1.ai, hx.2.ai⟩
theorem NR.lens {h : Hp} {x : TRat} {q : Rat} {B : Nat} (hx : NR h x q) (hb : BR B q) : x.num.mag.len ≤ B ∧ x.den.mag.len ≤ B := by
  have e1 := hx.1.1.len
  have e2 := hx.2.1.len
  have e3 := dg_len.2 hb.1
  have e4 := dg_len.2 hb.2
  omega
section
variable {h : Hp} {A B : Nat} {l m : Sl} {p q : List Rat} {K : Sl → Hp → Prop} {Kb : Bool → Hp → Prop} {x : TRat}
theorem rShort_call (hx : AR h x) (H1 : ∀ v h', h.le h' → NR h x v → BR 4 v → Kb true h') (H0 : ∀ h', h.le h' → Kb false h') : callP (F.ref04_Short x) Kb h := by
  refine callP_of (fun b h' => (b = true ∧ ∃ v, NR h x v ∧ BR 4 v) ∨ b = false) (fun K' hk => ?_) fun b h' hl hv => by
    rcases hv with ⟨rfl, v, h1, h2⟩ | rfl
    · exact H1 v h' hl h1 h2
    · exact H0 h' hl
  unfold F.ref04_Short
  refine ifP_dec (fun h1 => ifP_dec (fun h2 => ?_) (fun h2 => hk _ _ (Hp.le_refl _) (.inr rfl))) (fun h1 => hk _ _ (Hp.le_refl _) (.inr rfl))
  refine rqValid_call hx (by omega) (by omega) (fun v h3 hl3 hv => ifP_true rfl ?_) (fun h3 hl3 _ => ifP_false rfl (hk _ _ hl3 (.inr rfl)))
  have hb : BR 4 v := NR_BR hv (by omega) (by omega)
  refine rBits_call (hv.1.le hl3) (hb.1.ok (by decide)) (ifP_dec (fun h4 => ?_) (fun h4 => hk _ _ hl3 (.inr rfl)))
  refine rBits_call (hv.2.le hl3) (hb.2.ok (by decide)) (hk _ _ hl3 ?_)
  rcases Bool.eq_false_or_eq_true (decide (((bl (((v.den : Nat) : Int)).natAbs : Nat) : Int) ≤ 120)) with h5 | h5
  · exact .inl ⟨h5, v, hv, hb⟩
  · exact .inr h5
theorem rSmall_call {n : Nat} (ha : AQ h l) (hn : n ≤ 100) (H1 : ∀ vs h', h.le h' → PL h 4 l vs → vs.length ≤ n → Kb true h') (H0 : ∀ h', h.le h' → Kb false h') : callP (F.ref04_Small l (n : Int)) Kb h := by
  refine callP_of (fun b h' => (b = true ∧ ∃ vs, PL h 4 l vs ∧ vs.length ≤ n) ∨ b = false) (fun K' hk => ?_) fun b h' hl hv => by
    rcases hv with ⟨rfl, v, h1, h2⟩ | rfl
    · exact H1 v h' hl h1 h2
    · exact H0 h' hl
  unfold F.ref04_Small
  obtain ⟨xs, h1, h2, h3⟩ := ha
  have hl := RdQ.len h1
  refine ifP_dec (fun h4 => hk _ _ (Hp.le_refl _) (.inr rfl)) (fun h4 => ?_)
  refine loopP_of (fun st h' => h.le h' ∧ ∃ i : Nat, st.1 = (i : Int) ∧ i ≤ xs.length ∧ ∃ vs, QL h 4 (xs.take i) vs) (fun st => (xs.length - st.1).toNat) ⟨Hp.le_refl _, 0, rfl, Nat.zero_le _, [], rfl, fun k g1 _ => by simp at g1⟩ ?_
  rintro ⟨_, _⟩ h5 ⟨hl5, i, hi, hi2, vs, hq⟩
  simp only at hi
  subst hi
  refine ifP_dec (fun h6 => ?_) (fun h6 => ?_)
  · simp only at h6
    have hi' : i < xs.length := by omega
    refine rd_rat i (h1.le hl5) rfl hi' ?_
    refine callP_sub hl5 (K1 := fun b _ => (b = true ∧ ∃ v, NR h xs[i] v ∧ BR 4 v) ∨ b = false) (rShort_call (h2 _ (List.getElem_mem hi')) (fun v h' _ hv hb => .inl ⟨rfl, v, hv, hb⟩) (fun h' _ => .inr rfl)) fun b D' h7 hl7 hl8 hfr hb => ?_
    have hh7 : h.le h7 := Hp.le_trans hl7 hl8
    rcases hb with ⟨rfl, v, hv, hb⟩ | rfl
    · refine ifP_false rfl ⟨⟨hh7, i + 1, ?_, hi', vs ++ [v], ?_⟩, ?_⟩
      · simp only; rw [w64 (by omega)]; rfl
      · rw [List.take_succ_eq_append_getElem hi']
        exact QL.snoc hq hv hb
      · simp only; rw [w64 (by omega)]; omega
    · exact ifP_true rfl (hk _ _ hh7 (.inr rfl))
  · simp only at h6
    have hi' : i = xs.length := by omega
    subst hi'
    rw [List.take_length] at hq
    exact hk _ _ hl5 (.inl ⟨rfl, vs, ⟨xs, h1, hq, h3⟩, by rw [← hq.1]; omega⟩)
/-- The cell of a slice. -/
def slc (s : Sl) : Value := .slice s.a s.len s.cap
theorem few4_call {ss : List Sl} (hr : Rd h 1 l (ss.map slc)) (ha : ∀ s ∈ ss, AQ h s) (hlen : ss.length ≤ 100) (H1 : ∀ h', h.le h' → (∀ s ∈ ss, ∃ vs, PL h 4 s vs ∧ vs.length ≤ 8) → Kb true h') (H0 : ∀ h', h.le h' → Kb false h') : callP (F.law04_few l) Kb h := by
  refine callP_of (fun b h' => (b = true ∧ ∀ s ∈ ss, ∃ vs, PL h 4 s vs ∧ vs.length ≤ 8) ∨ b = false) (fun K' hk => ?_) fun b h' hl hv => by
    rcases hv with ⟨rfl, h1⟩ | rfl
    · exact H1 h' hl h1
    · exact H0 h' hl
  unfold F.law04_few
  have hl : l.len = ss.length := by have := hr.1; simp at this; omega
  refine loopP_of (fun st h' => h.le h' ∧ ∃ i : Nat, st.1 = (i : Int) ∧ i ≤ ss.length ∧ ∀ s ∈ ss.take i, ∃ vs, PL h 4 s vs ∧ vs.length ≤ 8) (fun st => (ss.length - st.1).toNat) ⟨Hp.le_refl _, 0, rfl, Nat.zero_le _, fun s hs => by simp at hs⟩ ?_
  rintro ⟨_, _⟩ h5 ⟨hl5, i, hi, hi2, hall⟩
  simp only at hi
  subst hi
  refine ifP_dec (fun h6 => ?_) (fun h6 => ?_)
  · simp only at h6
    have hi' : i < ss.length := by omega
    refine rd_one i (hr.le hl5) rfl (v := slc ss[i]) (by rw [List.getElem?_map, List.getElem?_eq_getElem hi']; rfl) fun a hc => ⟨ss[i], hc, ?_⟩
    refine callP_sub hl5 (K1 := fun b _ => (b = true ∧ ∃ vs, PL h 4 ss[i] vs ∧ vs.length ≤ 8) ∨ b = false) (rSmall_call (n := 8) (ha _ (List.getElem_mem hi')) (by decide) (fun vs h' _ hv hb => .inl ⟨rfl, vs, hv, hb⟩) (fun h' _ => .inr rfl)) fun b D' h7 hl7 hl8 hfr hb => ?_
    have hh7 : h.le h7 := Hp.le_trans hl7 hl8
    rcases hb with ⟨rfl, hv⟩ | rfl
    · refine ifP_false rfl ⟨⟨hh7, i + 1, ?_, hi', ?_⟩, ?_⟩
      · simp only; rw [w64 (by omega)]; rfl
      · rw [List.take_succ_eq_append_getElem hi']
        intro s hs
        rcases List.mem_append.1 hs with hs | hs
        · exact hall s hs
        · rw [List.mem_singleton.1 hs]; exact hv
      · simp only; rw [w64 (by omega)]; omega
    · exact ifP_true rfl (hk _ _ hh7 (.inr rfl))
  · simp only at h6
    have hi' : i = ss.length := by omega
    subst hi'
    rw [List.take_length] at hall
    exact hk _ _ hl5 (.inl ⟨rfl, hall⟩)
theorem own4_call (hp : PL h B l p) (hlen : p.length ≤ 1000000) (H : ∀ y h', h.le h' → PL h' B y p → K y h') : callP (F.law04_own l) K h := by
  refine callP_of (fun y h' => PL h' B y p) (fun K' hk => ?_) fun y h' hl hy => H y h' hl hy
  unfold F.law04_own
  intro b el hb
  obtain ⟨xs, g1, g2, g3⟩ := hp
  refine ⟨xs.flatMap qc, cellsAtO_le (Hp.le_ins hb) (by rw [g1.1]; exact g1.2), ?_⟩
  refine app_copy hb (by rw [RdQ.len g1]) (by rw [g2.1]; exact hlen) fun y h' hy => ?_
  exact hk _ _ hy.1 ⟨xs, hy.rd, g2.le hy.1, hy.2.2.1⟩
theorem good4_call (hp : PL h A l p) (hq : PL h B m q) (hlen : p.length ≤ 100000) (hlen2 : q.length ≤ 100000) (hA : 1 ≤ A ∧ A ≤ 300000) (hB : 1 ≤ B ∧ B ≤ 300000)
    (H : ∀ h', h.le h' → Kb (decide (p.length = q.length ∧ trim p = trim q)) h') : callP (F.law04_good l m) Kb h := by
  refine callP_of (fun b h' => b = decide (p.length = q.length ∧ trim p = trim q)) (fun K' hk => ?_) fun b h' hl hb => by subst hb; exact H h' hl
  unfold F.law04_good
  have hl := hp.len
  refine loopP_of (fun st h' => h.le h' ∧ ∃ i : Nat, st.1 = (i : Int) ∧ i ≤ p.length) (fun st => (p.length - st.1).toNat) ⟨Hp.le_refl _, 0, rfl, Nat.zero_le _⟩ ?_
  rintro ⟨_, _⟩ h5 ⟨hl5, i, hi, hi2⟩
  simp only at hi
  subst hi
  refine ifP_dec (fun h6 => ?_) (fun h6 => ?_)
  · simp only at h6
    have hi' : i < p.length := by omega
    refine (hp.le hl5).get i rfl hi' fun y hy by_ => ?_
    have hl2 := hy.lens by_
    refine rqValid_call (x := y) hy.ar (by omega) (by omega) (fun v h7 hl7 _ => ifP_false rfl ⟨⟨Hp.le_trans hl5 hl7, i + 1, ?_, hi'⟩, ?_⟩) (fun h7 _ hn => absurd ⟨_, hy⟩ hn)
    · simp only; rw [w64 (by omega)]; rfl
    · simp only; rw [w64 (by omega)]; omega
  · exact rpEqual_call (hp.le hl5) (hq.le hl5) hlen hlen2 hA hB fun h' hl' => hk _ _ (Hp.le_trans hl5 hl') rfl

/-! ### Small examples -/
def zc (z : Int × Int) : List Value := [.int .i64 z.1, .int .i64 z.2]
theorem zc_len (z : Int × Int) : (zc z).length = 2 := rfl
def qz (z : Int × Int) : Rat := Rat.divInt z.1 z.2
theorem qz_BR {z : Int × Int} (h1 : z.1.natAbs < 4294967296) (h2 : z.2.natAbs < 4294967296) (h3 : z.2 ≠ 0) : BR 1 (qz z) := BR.divInt (by unfold Lt; rw [Nat.pow_one, W_eq]; exact h1) (by unfold Lt; rw [Nat.pow_one, W_eq]; exact h2) h3
theorem rats4_call {zs : List (Int × Int)} (hr : Rd h 2 l (zs.flatMap zc)) (hlen : zs.length ≤ 1000) (hz : ∀ z ∈ zs, z.1.natAbs < 4294967296 ∧ z.2.natAbs < 4294967296 ∧ z.2 ≠ 0) (H : ∀ y h', h.le h' → PL h' 1 y (zs.map qz) → K y h') : callP (F.law04_rats l) K h := by
  refine callP_of (fun y h' => PL h' 1 y (zs.map qz)) (fun K' hk => ?_) fun y h' hl hy => H y h' hl hy
  unfold F.law04_rats
  have hl : l.len = zs.length := by have := hr.1; rw [flat_len zc_len] at this; omega
  refine loopP_of (fun st h' => ∃ D, h.le D ∧ ∃ i : Nat, st.2.1 = (i : Int) ∧ i ≤ zs.length ∧ OD D h' 1 st.1 ((zs.take i).map qz)) (fun st => (zs.length - st.2.1).toNat)
    ⟨h, Hp.le_refl _, 0, rfl, Nat.zero_le _, OD.nil⟩ ?_
  rintro ⟨s, _, _⟩ h1 ⟨D, hD, i, hi, hi2, ho⟩
  simp only at hi ho
  subst hi
  refine ifP_dec (fun h3 => ?_) (fun h3 => ?_)
  · have hi' : i < zs.length := by simp only at h3; omega
    refine idxP_of i (hr.le (Hp.le_trans hD ho.dle)) rfl (by omega) (by decide) fun a hcell => ?_
    have g : ∀ j v, j < 2 → (zc zs[i])[j]? = some v → h1.cell (a.add j) = some v := fun j v hj hv => hcell j v (by rw [flat_get zc_len hi' hj]; exact hv)
    refine ⟨zs[i].1, g 0 _ (by decide) rfl, zs[i].2, g 1 _ (by decide) rfl, ?_⟩
    obtain ⟨b1, b2, b3⟩ := hz _ (List.getElem_mem hi')
    refine ho.call (K1 := fun z D' => NR D' z (qz zs[i])) (rqFrac_call (by omega) (by omega) (by omega) (by omega) b3 fun z D' _ hz => hz) fun z D1 h5 hl1 ho1 hz1 => ?_
    refine ho1.app (by simp; omega) hz1 (qz_BR b1 b2 b3) fun w h7 hw => ⟨⟨D1, Hp.le_trans hD hl1, i + 1, ?_, hi', ?_⟩, ?_⟩
    · simp only; rw [w64 (by omega)]; rfl
    · rw [List.take_succ_eq_append_getElem hi', List.map_append]; exact hw
    · simp only; rw [w64 (by omega)]; omega
  · have hi' : i = zs.length := by simp only at h3; omega
    subst hi'
    rw [List.take_length] at ho
    exact hk _ _ (Hp.le_trans hD ho.dle) ho.pl
end
end Den
end

section
/-
  Lists of rational numbers as arguments.
-/
set_option linter.unusedVariables false
namespace Den
open Go Iv Go.Proofs
open Go.ChangeShapes Go.WideShapes Go.ChangeAt Go.RowKit
section
variable {H : Type} {enc : TypeId × Value → H} {w : World} {s : Sl}
theorem qc_of : ∀ {css : List (List Value)}, (∀ c ∈ css, c.length = 4 ∧ Okt enc Tryz.prog w 39 c) → ∃ xs : List TRat, css.flatten = xs.flatMap qc ∧ ∀ x ∈ xs, AR (hpW w) x
  | [], _ => ⟨[], rfl, fun d hd => by simp at hd⟩
  | c :: r, h => by
    obtain ⟨l, h1, h2⟩ := qc_of (css := r) fun x hx => h x (List.mem_cons_of_mem _ hx)
    obtain ⟨x, hx, _, ax⟩ := okt_R (h c (by simp)).2
    refine ⟨x :: l, ?_, fun d hd => ?_⟩
    · rw [List.flatten_cons, h1, hx]; rfl
    · rcases List.mem_cons.1 hd with rfl | hd
      · exact ax
      · exact h2 d hd
theorem by_R : Tryz.prog.bytesOf 39 = 64 := by kernel_rfl
theorem okt_Q (h : Okt enc Tryz.prog w 22 [Lf.sl.up s]) : AQ (hpW w) s ∧ s.len ≤ 35184372088832 := by
  obtain ⟨s', hs, h1, h2, css, h3, h4, h5⟩ := h.slice Tryz.underlying22
  have e : s = s' := by
    simp only [List.cons.injEq, and_true] at hs
    exact Lf.up_inj hs
  subst e
  rw [c_R] at h4 h5
  rw [by_R, show reachBytes = 140737488351232 from rfl] at h2
  obtain ⟨xs, hx, ax⟩ := qc_of h4
  rw [hx] at h5
  exact ⟨⟨xs, h5, ax, h1⟩, by omega⟩
end
end Den
end

section
/- MADE BY fbuild.py: the entries of the functions. -/
set_option maxRecDepth 100000
set_option linter.unusedVariables false
namespace Den
open Go
noncomputable def A_ref01_trim : ArgT (Sl × Unit) := (ArgT.cons (Ty.leaf .sl) ArgT.nil)
noncomputable def R_ref01_trim : Ty Sl := (Ty.leaf .sl)
noncomputable def e_ref01_trim : FSem := mkE A_ref01_trim R_ref01_trim (fun a => F.ref01_trim a.1)
noncomputable def c_ref01_trim : Cfg := { P := Go.Proofs.Tryz.prog, n := 21, tab := [], mutL := [], rtL := [], locL := [] }
noncomputable def b_ref01_trim : Code := match Go.Proofs.Tryz.f136.body with | some c => c | none => .skip
noncomputable def a_ref01_trim : An := (.seq .leaf (.seq (.block (.loop [(0, .leaf (.sl))] (.join [] (.seq .leaf (.cond .leaf .leaf)) (.block .leaf)))) (.seq .leaf .leaf)))
theorem t_ref01_trim : Entry Go.Proofs.Tryz.prog 136 e_ref01_trim false :=
  entry_of (C := c_ref01_trim) (fn := Go.Proofs.Tryz.f136) (c := b_ref01_trim) (an := a_ref01_trim) trivial trivial Go.Proofs.Tryz.func136 rfl rfl (by decide) (fun _ => rfl) (by intro a K D; kernel_rfl)
noncomputable def A_ref01_words : ArgT (Int × Unit) := (ArgT.cons (Ty.leaf (.int .u64)) ArgT.nil)
noncomputable def R_ref01_words : Ty Sl := (Ty.leaf .sl)
noncomputable def e_ref01_words : FSem := mkE A_ref01_words R_ref01_words (fun a => F.ref01_words a.1)
noncomputable def c_ref01_words : Cfg := { P := Go.Proofs.Tryz.prog, n := 10, tab := [(136, e_ref01_trim)], mutL := [], rtL := [], locL := [] }
noncomputable def b_ref01_words : Code := match Go.Proofs.Tryz.f147.body with | some c => c | none => .skip
noncomputable def a_ref01_words : An := (.seq .leaf (.seq .leaf .leaf))
theorem t_ref01_words : Entry Go.Proofs.Tryz.prog 147 e_ref01_words false :=
  entry_of (C := c_ref01_words) (fn := Go.Proofs.Tryz.f147) (c := b_ref01_words) (an := a_ref01_words) ⟨t_ref01_trim, trivial⟩ trivial Go.Proofs.Tryz.func147 rfl rfl (by decide) (fun _ => rfl) (by intro a K D; kernel_rfl)
noncomputable def A_ref01_signed : ArgT (Bool × Sl × Unit) := (ArgT.cons (Ty.leaf .bool) (ArgT.cons (Ty.leaf .sl) ArgT.nil))
noncomputable def R_ref01_signed : Ty TInt := tyTInt
noncomputable def e_ref01_signed : FSem := mkE A_ref01_signed R_ref01_signed (fun a => F.ref01_signed a.1 a.2.1)
noncomputable def c_ref01_signed : Cfg := { P := Go.Proofs.Tryz.prog, n := 15, tab := [(136, e_ref01_trim)], mutL := [], rtL := [], locL := [4] }
noncomputable def b_ref01_signed : Code := match Go.Proofs.Tryz.f146.body with | some c => c | none => .skip
noncomputable def a_ref01_signed : An := (.seq .leaf (.seq .leaf (.seq .leaf .leaf)))
theorem t_ref01_signed : Entry Go.Proofs.Tryz.prog 146 e_ref01_signed false :=
  entry_of (C := c_ref01_signed) (fn := Go.Proofs.Tryz.f146) (c := b_ref01_signed) (an := a_ref01_signed) ⟨t_ref01_trim, trivial⟩ trivial Go.Proofs.Tryz.func146 rfl rfl (by decide) (fun _ => rfl) (by intro a K D; kernel_rfl)
noncomputable def A_ref01_FromInt : ArgT (Int × Unit) := (ArgT.cons (Ty.leaf (.int .i64)) ArgT.nil)
noncomputable def R_ref01_FromInt : Ty TInt := tyTInt
noncomputable def e_ref01_FromInt : FSem := mkE A_ref01_FromInt R_ref01_FromInt (fun a => F.ref01_FromInt a.1)
noncomputable def c_ref01_FromInt : Cfg := { P := Go.Proofs.Tryz.prog, n := 14, tab := [(147, e_ref01_words), (146, e_ref01_signed)], mutL := [], rtL := [], locL := [2] }
noncomputable def b_ref01_FromInt : Code := match Go.Proofs.Tryz.f88.body with | some c => c | none => .skip
noncomputable def a_ref01_FromInt : An := (.seq .leaf (.seq (.seq .leaf (.cond (.seq .leaf .leaf) .leaf)) (.seq .leaf .leaf)))
theorem t_ref01_FromInt : Entry Go.Proofs.Tryz.prog 88 e_ref01_FromInt false :=
  entry_of (C := c_ref01_FromInt) (fn := Go.Proofs.Tryz.f88) (c := b_ref01_FromInt) (an := a_ref01_FromInt) ⟨t_ref01_words, t_ref01_signed, trivial⟩ trivial Go.Proofs.Tryz.func88 rfl rfl (by decide) (fun _ => rfl) (by intro a K D; kernel_rfl)
noncomputable def A_ref02_FromInt : ArgT (Int × Unit) := (ArgT.cons (Ty.leaf (.int .i64)) ArgT.nil)
noncomputable def R_ref02_FromInt : Ty TRat := tyTRat
noncomputable def e_ref02_FromInt : FSem := mkE A_ref02_FromInt R_ref02_FromInt (fun a => F.ref02_FromInt a.1)
noncomputable def c_ref02_FromInt : Cfg := { P := Go.Proofs.Tryz.prog, n := 7, tab := [(88, e_ref01_FromInt)], mutL := [], rtL := [], locL := [2] }
noncomputable def b_ref02_FromInt : Code := match Go.Proofs.Tryz.f81.body with | some c => c | none => .skip
noncomputable def a_ref02_FromInt : An := (.seq .leaf (.seq .leaf .leaf))
theorem t_ref02_FromInt : Entry Go.Proofs.Tryz.prog 81 e_ref02_FromInt false :=
  entry_of (C := c_ref02_FromInt) (fn := Go.Proofs.Tryz.f81) (c := b_ref02_FromInt) (an := a_ref02_FromInt) ⟨t_ref01_FromInt, trivial⟩ trivial Go.Proofs.Tryz.func81 rfl rfl (by decide) (fun _ => rfl) (by intro a K D; kernel_rfl)
noncomputable def A_ref01_compare : ArgT (Sl × Sl × Unit) := (ArgT.cons (Ty.leaf .sl) (ArgT.cons (Ty.leaf .sl) ArgT.nil))
noncomputable def R_ref01_compare : Ty Int := (Ty.leaf (.int .i64))
noncomputable def e_ref01_compare : FSem := mkE A_ref01_compare R_ref01_compare (fun a => F.ref01_compare a.1 a.2.1)
noncomputable def c_ref01_compare : Cfg := { P := Go.Proofs.Tryz.prog, n := 41, tab := [], mutL := [], rtL := [], locL := [] }
noncomputable def b_ref01_compare : Code := match Go.Proofs.Tryz.f174.body with | some c => c | none => .skip
noncomputable def a_ref01_compare : An := (.seq .leaf (.seq (.seq .leaf (.cond (.seq (.seq .leaf (.cond (.seq .leaf .leaf) .leaf)) (.seq .leaf .leaf)) .leaf)) (.seq (.seq .leaf (.block (.loop [(5, .leaf (.int .i64))] (.seq (.seq .leaf (.cond .leaf .leaf)) (.seq (.block (.seq (.seq (.draw [0, 1, 2, 3, 4, 5, 6, 7, 8]) (.cond (.seq .leaf .leaf) .leaf)) (.seq (.draw [0, 1, 2, 3, 4, 5, 6, 7, 8]) (.cond (.seq .leaf .leaf) .leaf)))) .leaf))))) (.seq .leaf .leaf))))
theorem t_ref01_compare : Entry Go.Proofs.Tryz.prog 174 e_ref01_compare false :=
  entry_of (C := c_ref01_compare) (fn := Go.Proofs.Tryz.f174) (c := b_ref01_compare) (an := a_ref01_compare) trivial trivial Go.Proofs.Tryz.func174 rfl rfl (by decide) (fun _ => rfl) (by intro a K D; kernel_rfl)
noncomputable def A_ref01_short : ArgT (Sl × Unit) := (ArgT.cons (Ty.leaf .sl) ArgT.nil)
noncomputable def R_ref01_short : Ty Int := (Ty.leaf (.int .u64))
noncomputable def e_ref01_short : FSem := mkE A_ref01_short R_ref01_short (fun a => F.ref01_short a.1)
noncomputable def c_ref01_short : Cfg := { P := Go.Proofs.Tryz.prog, n := 21, tab := [], mutL := [], rtL := [], locL := [] }
noncomputable def b_ref01_short : Code := match Go.Proofs.Tryz.f175.body with | some c => c | none => .skip
noncomputable def a_ref01_short : An := (.seq .leaf (.seq .leaf (.seq (.seq .leaf (.block (.loop [(3, .leaf (.int .u64)), (4, .leaf (.int .i64))] (.seq (.seq .leaf (.cond .leaf .leaf)) (.seq (.block .leaf) .leaf))))) (.seq .leaf .leaf))))
theorem t_ref01_short : Entry Go.Proofs.Tryz.prog 175 e_ref01_short false :=
  entry_of (C := c_ref01_short) (fn := Go.Proofs.Tryz.f175) (c := b_ref01_short) (an := a_ref01_short) trivial trivial Go.Proofs.Tryz.func175 rfl rfl (by decide) (fun _ => rfl) (by intro a K D; kernel_rfl)
noncomputable def A_ref01_by : ArgT (Sl × Int × Unit) := (ArgT.cons (Ty.leaf .sl) (ArgT.cons (Ty.leaf (.int .u32)) ArgT.nil))
noncomputable def R_ref01_by : Ty (Sl × Int) := (Ty.tup (.cons (Ty.leaf .sl) (.cons (Ty.leaf (.int .u32)) .nil)) (fun x => (x.1, x.2, ())) (fun y => (y.1, y.2.1)) (fun _ => rfl) (fun _ => rfl))
noncomputable def e_ref01_by : FSem := mkE A_ref01_by R_ref01_by (fun a => F.ref01_by a.1 a.2.1)
noncomputable def c_ref01_by : Cfg := { P := Go.Proofs.Tryz.prog, n := 43, tab := [(136, e_ref01_trim)], mutL := [], rtL := [], locL := [] }
noncomputable def b_ref01_by : Code := match Go.Proofs.Tryz.f176.body with | some c => c | none => .skip
noncomputable def a_ref01_by : An := (.seq .leaf (.seq .leaf (.seq .leaf (.seq (.seq .leaf (.block (.loop [(7, .leaf (.int .u64)), (8, .leaf (.int .i64))] (.seq (.seq .leaf (.cond .leaf .leaf)) (.seq (.block (.seq .leaf (.seq .leaf .leaf))) .leaf))))) (.seq .leaf .leaf)))))
theorem t_ref01_by : Entry Go.Proofs.Tryz.prog 176 e_ref01_by false :=
  entry_of (C := c_ref01_by) (fn := Go.Proofs.Tryz.f176) (c := b_ref01_by) (an := a_ref01_by) ⟨t_ref01_trim, trivial⟩ trivial Go.Proofs.Tryz.func176 rfl rfl (by decide) (fun _ => rfl) (by intro a K D; kernel_rfl)
noncomputable def A_ref01_length : ArgT (Sl × Unit) := (ArgT.cons (Ty.leaf .sl) ArgT.nil)
noncomputable def R_ref01_length : Ty Int := (Ty.leaf (.int .i64))
noncomputable def e_ref01_length : FSem := mkE A_ref01_length R_ref01_length (fun a => F.ref01_length a.1)
noncomputable def c_ref01_length : Cfg := { P := Go.Proofs.Tryz.prog, n := 26, tab := [], mutL := [], rtL := [], locL := [] }
noncomputable def b_ref01_length : Code := match Go.Proofs.Tryz.f135.body with | some c => c | none => .skip
noncomputable def a_ref01_length : An := (.seq .leaf (.seq (.seq .leaf (.cond (.seq .leaf .leaf) .leaf)) (.seq .leaf (.seq (.seq .leaf (.block (.loop [(3, .leaf (.int .i64)), (4, .leaf (.int .u32))] (.seq (.seq .leaf (.cond .leaf .leaf)) (.seq (.block .leaf) .leaf))))) (.seq .leaf .leaf)))))
theorem t_ref01_length : Entry Go.Proofs.Tryz.prog 135 e_ref01_length false :=
  entry_of (C := c_ref01_length) (fn := Go.Proofs.Tryz.f135) (c := b_ref01_length) (an := a_ref01_length) trivial trivial Go.Proofs.Tryz.func135 rfl rfl (by decide) (fun _ => rfl) (by intro a K D; kernel_rfl)
noncomputable def A_ref01_shifted : ArgT (Sl × Int × Unit) := (ArgT.cons (Ty.leaf .sl) (ArgT.cons (Ty.leaf (.int .i64)) ArgT.nil))
noncomputable def R_ref01_shifted : Ty Sl := (Ty.leaf .sl)
noncomputable def e_ref01_shifted : FSem := mkE A_ref01_shifted R_ref01_shifted (fun a => F.ref01_shifted a.1 a.2.1)
noncomputable def c_ref01_shifted : Cfg := { P := Go.Proofs.Tryz.prog, n := 43, tab := [], mutL := [], rtL := [], locL := [] }
noncomputable def b_ref01_shifted : Code := match Go.Proofs.Tryz.f177.body with | some c => c | none => .skip
noncomputable def a_ref01_shifted : An := (.seq .leaf (.seq .leaf (.seq (.seq .leaf (.block (.loop [(6, .leaf (.int .i64))] (.seq (.seq .leaf (.cond .leaf .leaf)) (.seq (.block (.seq .leaf (.seq .leaf .leaf))) .leaf))))) (.seq .leaf .leaf))))
theorem t_ref01_shifted : Entry Go.Proofs.Tryz.prog 177 e_ref01_shifted false :=
  entry_of (C := c_ref01_shifted) (fn := Go.Proofs.Tryz.f177) (c := b_ref01_shifted) (an := a_ref01_shifted) trivial trivial Go.Proofs.Tryz.func177 rfl rfl (by decide) (fun _ => rfl) (by intro a K D; kernel_rfl)
noncomputable def A_ref01_times : ArgT (Sl × Sl × Unit) := (ArgT.cons (Ty.leaf .sl) (ArgT.cons (Ty.leaf .sl) ArgT.nil))
noncomputable def R_ref01_times : Ty Sl := (Ty.leaf .sl)
noncomputable def e_ref01_times : FSem := mkE A_ref01_times R_ref01_times (fun a => F.ref01_times a.1 a.2.1)
noncomputable def c_ref01_times : Cfg := { P := Go.Proofs.Tryz.prog, n := 67, tab := [(136, e_ref01_trim)], mutL := [], rtL := [], locL := [] }
noncomputable def b_ref01_times : Code := match Go.Proofs.Tryz.f152.body with | some c => c | none => .skip
noncomputable def a_ref01_times : An := (.seq .leaf (.seq .leaf (.seq (.seq .leaf (.block (.loop [(6, .leaf (.int .i64))] (.seq (.seq .leaf (.cond .leaf .leaf)) (.seq (.block (.seq .leaf (.seq (.seq .leaf (.block (.loop [(7, .leaf (.int .u64)), (8, .leaf (.int .i64))] (.seq (.seq .leaf (.cond .leaf .leaf)) (.seq (.block (.seq (.draw [0, 1, 2, 3, 4, 5, 6, 7, 8, 9, 10, 11, 12, 13, 14, 15, 16, 17, 18, 19, 20, 21]) (.seq .leaf .leaf))) .leaf))))) .leaf))) .leaf))))) (.seq .leaf .leaf))))
theorem t_ref01_times : Entry Go.Proofs.Tryz.prog 152 e_ref01_times false :=
  entry_of (C := c_ref01_times) (fn := Go.Proofs.Tryz.f152) (c := b_ref01_times) (an := a_ref01_times) ⟨t_ref01_trim, trivial⟩ trivial Go.Proofs.Tryz.func152 rfl rfl (by decide) (fun _ => rfl) (by intro a K D; kernel_rfl)
noncomputable def A_ref01_minus : ArgT (Sl × Sl × Unit) := (ArgT.cons (Ty.leaf .sl) (ArgT.cons (Ty.leaf .sl) ArgT.nil))
noncomputable def R_ref01_minus : Ty Sl := (Ty.leaf .sl)
noncomputable def e_ref01_minus : FSem := mkE A_ref01_minus R_ref01_minus (fun a => F.ref01_minus a.1 a.2.1)
noncomputable def c_ref01_minus : Cfg := { P := Go.Proofs.Tryz.prog, n := 48, tab := [(136, e_ref01_trim)], mutL := [], rtL := [], locL := [] }
noncomputable def b_ref01_minus : Code := match Go.Proofs.Tryz.f179.body with | some c => c | none => .skip
noncomputable def a_ref01_minus : An := (.seq .leaf (.seq .leaf (.seq .leaf (.seq (.seq .leaf (.block (.loop [(6, .leaf (.int .u64)), (7, .leaf (.int .i64))] (.seq (.seq .leaf (.cond .leaf .leaf)) (.seq (.block (.seq .leaf (.join [(8, .leaf (.int .u64))] (.seq .leaf (.cond .leaf .leaf)) (.seq .leaf (.seq .leaf .leaf))))) .leaf))))) (.seq .leaf .leaf)))))
theorem t_ref01_minus : Entry Go.Proofs.Tryz.prog 179 e_ref01_minus false :=
  entry_of (C := c_ref01_minus) (fn := Go.Proofs.Tryz.f179) (c := b_ref01_minus) (an := a_ref01_minus) ⟨t_ref01_trim, trivial⟩ trivial Go.Proofs.Tryz.func179 rfl rfl (by decide) (fun _ => rfl) (by intro a K D; kernel_rfl)
noncomputable def A_ref01_digit : ArgT (Sl × Sl × Unit) := (ArgT.cons (Ty.leaf .sl) (ArgT.cons (Ty.leaf .sl) ArgT.nil))
noncomputable def R_ref01_digit : Ty (Int × Sl) := (Ty.tup (.cons (Ty.leaf (.int .u32)) (.cons (Ty.leaf .sl) .nil)) (fun x => (x.1, x.2, ())) (fun y => (y.1, y.2.1)) (fun _ => rfl) (fun _ => rfl))
noncomputable def e_ref01_digit : FSem := mkE A_ref01_digit R_ref01_digit (fun a => F.ref01_digit a.1 a.2.1)
noncomputable def c_ref01_digit : Cfg := { P := Go.Proofs.Tryz.prog, n := 51, tab := [(152, e_ref01_times), (136, e_ref01_trim), (174, e_ref01_compare), (179, e_ref01_minus)], mutL := [], rtL := [], locL := [] }
noncomputable def b_ref01_digit : Code := match Go.Proofs.Tryz.f178.body with | some c => c | none => .skip
noncomputable def a_ref01_digit : An := (.seq .leaf (.seq .leaf (.seq (.draw [0, 1, 2, 3, 4, 5, 6, 7, 8, 9, 10, 11, 12, 13, 14, 15, 16, 17, 18, 19, 20]) (.join [(7, .leaf (.int .u64))] (.seq .leaf (.cond .leaf .leaf)) (.seq .leaf (.seq (.block (.loop [(7, .leaf (.int .u64)), (8, .leaf (.sl))] (.seq (.seq .leaf (.cond .leaf .leaf)) (.block (.seq .leaf .leaf))))) (.seq .leaf .leaf)))))))
theorem t_ref01_digit : Entry Go.Proofs.Tryz.prog 178 e_ref01_digit false :=
  entry_of (C := c_ref01_digit) (fn := Go.Proofs.Tryz.f178) (c := b_ref01_digit) (an := a_ref01_digit) ⟨t_ref01_times, t_ref01_trim, t_ref01_compare, t_ref01_minus, trivial⟩ trivial Go.Proofs.Tryz.func178 rfl rfl (by decide) (fun _ => rfl) (by intro a K D; kernel_rfl)
noncomputable def A_ref01_back : ArgT (Sl × Int × Unit) := (ArgT.cons (Ty.leaf .sl) (ArgT.cons (Ty.leaf (.int .i64)) ArgT.nil))
noncomputable def R_ref01_back : Ty Sl := (Ty.leaf .sl)
noncomputable def e_ref01_back : FSem := mkE A_ref01_back R_ref01_back (fun a => F.ref01_back a.1 a.2.1)
noncomputable def c_ref01_back : Cfg := { P := Go.Proofs.Tryz.prog, n := 45, tab := [(136, e_ref01_trim)], mutL := [], rtL := [], locL := [] }
noncomputable def b_ref01_back : Code := match Go.Proofs.Tryz.f180.body with | some c => c | none => .skip
noncomputable def a_ref01_back : An := (.seq .leaf (.seq .leaf (.seq (.seq .leaf (.block (.loop [(6, .leaf (.int .i64))] (.seq (.seq .leaf (.cond .leaf .leaf)) (.seq (.block (.seq .leaf (.join [(7, .leaf (.int .u64))] (.seq .leaf (.cond .leaf .leaf)) .leaf))) .leaf))))) (.seq .leaf .leaf))))
theorem t_ref01_back : Entry Go.Proofs.Tryz.prog 180 e_ref01_back false :=
  entry_of (C := c_ref01_back) (fn := Go.Proofs.Tryz.f180) (c := b_ref01_back) (an := a_ref01_back) ⟨t_ref01_trim, trivial⟩ trivial Go.Proofs.Tryz.func180 rfl rfl (by decide) (fun _ => rfl) (by intro a K D; kernel_rfl)
noncomputable def A_ref01_divide : ArgT (Sl × Sl × Unit) := (ArgT.cons (Ty.leaf .sl) (ArgT.cons (Ty.leaf .sl) ArgT.nil))
noncomputable def R_ref01_divide : Ty (Sl × Sl) := (Ty.tup (.cons (Ty.leaf .sl) (.cons (Ty.leaf .sl) .nil)) (fun x => (x.1, x.2, ())) (fun y => (y.1, y.2.1)) (fun _ => rfl) (fun _ => rfl))
noncomputable def e_ref01_divide : FSem := mkE A_ref01_divide R_ref01_divide (fun a => F.ref01_divide a.1 a.2.1)
noncomputable def c_ref01_divide : Cfg := { P := Go.Proofs.Tryz.prog, n := 128, tab := [(174, e_ref01_compare), (175, e_ref01_short), (147, e_ref01_words), (176, e_ref01_by), (135, e_ref01_length), (177, e_ref01_shifted), (136, e_ref01_trim), (178, e_ref01_digit), (179, e_ref01_minus), (180, e_ref01_back)], mutL := [], rtL := [], locL := [] }
noncomputable def b_ref01_divide : Code := match Go.Proofs.Tryz.f149.body with | some c => c | none => .skip
noncomputable def a_ref01_divide : An := (.seq .leaf (.seq (.seq .leaf (.cond (.seq .leaf .leaf) .leaf)) (.seq (.seq .leaf (.cond (.seq .leaf (.seq (.draw [0, 1, 2, 4, 5, 6, 3, 7, 8, 9]) .leaf)) .leaf)) (.seq (.seq .leaf (.cond (.seq .leaf (.seq .leaf .leaf)) .leaf)) (.seq .leaf (.seq .leaf (.seq .leaf (.seq (.seq .leaf (.block (.loop [(14, .leaf (.int .i64))] (.seq (.seq .leaf (.cond .leaf .leaf)) (.seq (.block (.seq .leaf (.seq .leaf (.seq .leaf (.seq .leaf (.seq .leaf (.block (.loop [(19, .leaf (.int .i64))] (.seq (.seq .leaf (.cond .leaf .leaf)) (.join [] (.block (.seq .leaf (.seq .leaf (.cond .leaf .leaf)))) .leaf)))))))))) .leaf))))) (.seq .leaf .leaf)))))))))
theorem t_ref01_divide : Entry Go.Proofs.Tryz.prog 149 e_ref01_divide false :=
  entry_of (C := c_ref01_divide) (fn := Go.Proofs.Tryz.f149) (c := b_ref01_divide) (an := a_ref01_divide) ⟨t_ref01_compare, t_ref01_short, t_ref01_words, t_ref01_by, t_ref01_length, t_ref01_shifted, t_ref01_trim, t_ref01_digit, t_ref01_minus, t_ref01_back, trivial⟩ trivial Go.Proofs.Tryz.func149 rfl rfl (by decide) (fun _ => rfl) (by intro a K D; kernel_rfl)
noncomputable def A_ref01_GCD : ArgT (TInt × TInt × Unit) := (ArgT.cons tyTInt (ArgT.cons tyTInt ArgT.nil))
noncomputable def R_ref01_GCD : Ty TInt := tyTInt
noncomputable def e_ref01_GCD : FSem := mkE A_ref01_GCD R_ref01_GCD (fun a => F.ref01_GCD a.1 a.2.1)
noncomputable def c_ref01_GCD : Cfg := { P := Go.Proofs.Tryz.prog, n := 28, tab := [(136, e_ref01_trim), (149, e_ref01_divide), (146, e_ref01_signed)], mutL := [], rtL := [(9, 2), (12, 3)], locL := [2, 3, 4] }
noncomputable def b_ref01_GCD : Code := match Go.Proofs.Tryz.f90.body with | some c => c | none => .skip
noncomputable def a_ref01_GCD : An := (.seq .leaf (.seq (.draw [0, 1, 3, 4, 2, 5, 6, 7]) (.seq (.block (.loop [(5, .leaf (.sl)), (6, .leaf (.sl))] (.seq (.seq .leaf (.cond .leaf .leaf)) (.block (.seq .leaf .leaf))))) (.seq .leaf .leaf))))
theorem t_ref01_GCD : Entry Go.Proofs.Tryz.prog 90 e_ref01_GCD false :=
  entry_of (C := c_ref01_GCD) (fn := Go.Proofs.Tryz.f90) (c := b_ref01_GCD) (an := a_ref01_GCD) ⟨t_ref01_trim, t_ref01_divide, t_ref01_signed, trivial⟩ trivial Go.Proofs.Tryz.func90 rfl rfl (by decide) (fun _ => rfl) (by intro a K D; kernel_rfl)
noncomputable def A_ref01_Norm : ArgT (TInt × Unit) := (ArgT.cons tyTInt ArgT.nil)
noncomputable def R_ref01_Norm : Ty TInt := tyTInt
noncomputable def e_ref01_Norm : FSem := mkE A_ref01_Norm R_ref01_Norm (fun a => F.ref01_Norm a.1)
noncomputable def c_ref01_Norm : Cfg := { P := Go.Proofs.Tryz.prog, n := 8, tab := [(146, e_ref01_signed)], mutL := [], rtL := [(3, 1), (5, 1)], locL := [1, 2] }
noncomputable def b_ref01_Norm : Code := match Go.Proofs.Tryz.f148.body with | some c => c | none => .skip
noncomputable def a_ref01_Norm : An := (.seq .leaf (.seq .leaf .leaf))
theorem t_ref01_Norm : Entry Go.Proofs.Tryz.prog 148 e_ref01_Norm false :=
  entry_of (C := c_ref01_Norm) (fn := Go.Proofs.Tryz.f148) (c := b_ref01_Norm) (an := a_ref01_Norm) ⟨t_ref01_signed, trivial⟩ trivial Go.Proofs.Tryz.func148 rfl rfl (by decide) (fun _ => rfl) (by intro a K D; kernel_rfl)
noncomputable def A_ref01_Mul : ArgT (TInt × TInt × Unit) := (ArgT.cons tyTInt (ArgT.cons tyTInt ArgT.nil))
noncomputable def R_ref01_Mul : Ty TInt := tyTInt
noncomputable def e_ref01_Mul : FSem := mkE A_ref01_Mul R_ref01_Mul (fun a => F.ref01_Mul a.1 a.2.1)
noncomputable def c_ref01_Mul : Cfg := { P := Go.Proofs.Tryz.prog, n := 20, tab := [(148, e_ref01_Norm), (152, e_ref01_times), (146, e_ref01_signed)], mutL := [], rtL := [(9, 2), (11, 3), (14, 2), (16, 3)], locL := [2, 3, 4] }
noncomputable def b_ref01_Mul : Code := match Go.Proofs.Tryz.f91.body with | some c => c | none => .skip
noncomputable def a_ref01_Mul : An := (.seq .leaf (.seq (.draw [0, 2, 1, 3, 4, 5]) (.seq (.draw [0, 1, 2, 3, 4, 5, 6, 7, 8, 9, 10, 11]) .leaf)))
theorem t_ref01_Mul : Entry Go.Proofs.Tryz.prog 91 e_ref01_Mul false :=
  entry_of (C := c_ref01_Mul) (fn := Go.Proofs.Tryz.f91) (c := b_ref01_Mul) (an := a_ref01_Mul) ⟨t_ref01_Norm, t_ref01_times, t_ref01_signed, trivial⟩ trivial Go.Proofs.Tryz.func91 rfl rfl (by decide) (fun _ => rfl) (by intro a K D; kernel_rfl)
noncomputable def A_ref01_Neg : ArgT (TInt × Unit) := (ArgT.cons tyTInt ArgT.nil)
noncomputable def R_ref01_Neg : Ty TInt := tyTInt
noncomputable def e_ref01_Neg : FSem := mkE A_ref01_Neg R_ref01_Neg (fun a => F.ref01_Neg a.1)
noncomputable def c_ref01_Neg : Cfg := { P := Go.Proofs.Tryz.prog, n := 9, tab := [(146, e_ref01_signed)], mutL := [], rtL := [(3, 1), (6, 1)], locL := [1, 2] }
noncomputable def b_ref01_Neg : Code := match Go.Proofs.Tryz.f93.body with | some c => c | none => .skip
noncomputable def a_ref01_Neg : An := (.seq .leaf (.seq .leaf .leaf))
theorem t_ref01_Neg : Entry Go.Proofs.Tryz.prog 93 e_ref01_Neg false :=
  entry_of (C := c_ref01_Neg) (fn := Go.Proofs.Tryz.f93) (c := b_ref01_Neg) (an := a_ref01_Neg) ⟨t_ref01_signed, trivial⟩ trivial Go.Proofs.Tryz.func93 rfl rfl (by decide) (fun _ => rfl) (by intro a K D; kernel_rfl)
noncomputable def A_ref01_plus : ArgT (Sl × Sl × Unit) := (ArgT.cons (Ty.leaf .sl) (ArgT.cons (Ty.leaf .sl) ArgT.nil))
noncomputable def R_ref01_plus : Ty Sl := (Ty.leaf .sl)
noncomputable def e_ref01_plus : FSem := mkE A_ref01_plus R_ref01_plus (fun a => F.ref01_plus a.1 a.2.1)
noncomputable def c_ref01_plus : Cfg := { P := Go.Proofs.Tryz.prog, n := 58, tab := [(136, e_ref01_trim)], mutL := [], rtL := [], locL := [] }
noncomputable def b_ref01_plus : Code := match Go.Proofs.Tryz.f181.body with | some c => c | none => .skip
noncomputable def a_ref01_plus : An := (.seq .leaf (.join [(0, .leaf (.sl)), (1, .leaf (.sl))] (.seq .leaf (.cond .leaf .leaf)) (.seq .leaf (.seq .leaf (.seq (.seq .leaf (.block (.loop [(6, .leaf (.int .u64)), (7, .leaf (.int .i64))] (.seq (.seq .leaf (.cond .leaf .leaf)) (.seq (.block (.seq .leaf (.join [(6, .leaf (.int .u64))] (.seq .leaf (.cond .leaf .leaf)) (.seq .leaf .leaf)))) .leaf))))) (.seq .leaf (.seq .leaf .leaf)))))))
theorem t_ref01_plus : Entry Go.Proofs.Tryz.prog 181 e_ref01_plus false :=
  entry_of (C := c_ref01_plus) (fn := Go.Proofs.Tryz.f181) (c := b_ref01_plus) (an := a_ref01_plus) ⟨t_ref01_trim, trivial⟩ trivial Go.Proofs.Tryz.func181 rfl rfl (by decide) (fun _ => rfl) (by intro a K D; kernel_rfl)
noncomputable def A_ref01_Add : ArgT (TInt × TInt × Unit) := (ArgT.cons tyTInt (ArgT.cons tyTInt ArgT.nil))
noncomputable def R_ref01_Add : Ty TInt := tyTInt
noncomputable def e_ref01_Add : FSem := mkE A_ref01_Add R_ref01_Add (fun a => F.ref01_Add a.1 a.2.1)
noncomputable def c_ref01_Add : Cfg := { P := Go.Proofs.Tryz.prog, n := 44, tab := [(148, e_ref01_Norm), (181, e_ref01_plus), (146, e_ref01_signed), (174, e_ref01_compare), (179, e_ref01_minus)], mutL := [], rtL := [(9, 2), (11, 3), (14, 2), (16, 2), (18, 3), (22, 2), (24, 3), (28, 2), (30, 2), (32, 3), (36, 3), (38, 3), (40, 2)], locL := [2, 3, 4] }
noncomputable def b_ref01_Add : Code := match Go.Proofs.Tryz.f151.body with | some c => c | none => .skip
noncomputable def a_ref01_Add : An := (.seq .leaf (.seq (.draw [0, 2, 1, 3, 4, 5]) (.seq (.seq .leaf (.cond (.seq (.draw [0, 1, 2, 3, 4, 5, 6, 7, 8]) .leaf) .leaf)) (.seq (.seq .leaf (.cond (.seq (.draw [0, 1, 2, 3, 4, 5, 6, 7, 8]) .leaf) .leaf)) (.seq (.draw [0, 1, 2, 3, 4, 5, 6, 7, 8]) .leaf)))))
theorem t_ref01_Add : Entry Go.Proofs.Tryz.prog 151 e_ref01_Add false :=
  entry_of (C := c_ref01_Add) (fn := Go.Proofs.Tryz.f151) (c := b_ref01_Add) (an := a_ref01_Add) ⟨t_ref01_Norm, t_ref01_plus, t_ref01_signed, t_ref01_compare, t_ref01_minus, trivial⟩ trivial Go.Proofs.Tryz.func151 rfl rfl (by decide) (fun _ => rfl) (by intro a K D; kernel_rfl)
noncomputable def A_ref01_Sub : ArgT (TInt × TInt × Unit) := (ArgT.cons tyTInt (ArgT.cons tyTInt ArgT.nil))
noncomputable def R_ref01_Sub : Ty TInt := tyTInt
noncomputable def e_ref01_Sub : FSem := mkE A_ref01_Sub R_ref01_Sub (fun a => F.ref01_Sub a.1 a.2.1)
noncomputable def c_ref01_Sub : Cfg := { P := Go.Proofs.Tryz.prog, n := 9, tab := [(93, e_ref01_Neg), (151, e_ref01_Add)], mutL := [], rtL := [], locL := [2, 3, 4] }
noncomputable def b_ref01_Sub : Code := match Go.Proofs.Tryz.f150.body with | some c => c | none => .skip
noncomputable def a_ref01_Sub : An := (.seq .leaf (.seq (.draw [0, 1, 2, 3, 4]) .leaf))
theorem t_ref01_Sub : Entry Go.Proofs.Tryz.prog 150 e_ref01_Sub false :=
  entry_of (C := c_ref01_Sub) (fn := Go.Proofs.Tryz.f150) (c := b_ref01_Sub) (an := a_ref01_Sub) ⟨t_ref01_Neg, t_ref01_Add, trivial⟩ trivial Go.Proofs.Tryz.func150 rfl rfl (by decide) (fun _ => rfl) (by intro a K D; kernel_rfl)
noncomputable def A_ref01_Sign : ArgT (TInt × Unit) := (ArgT.cons tyTInt ArgT.nil)
noncomputable def R_ref01_Sign : Ty Int := (Ty.leaf (.int .i64))
noncomputable def e_ref01_Sign : FSem := mkE A_ref01_Sign R_ref01_Sign (fun a => F.ref01_Sign a.1)
noncomputable def c_ref01_Sign : Cfg := { P := Go.Proofs.Tryz.prog, n := 11, tab := [(148, e_ref01_Norm)], mutL := [], rtL := [(5, 1), (9, 1)], locL := [1] }
noncomputable def b_ref01_Sign : Code := match Go.Proofs.Tryz.f92.body with | some c => c | none => .skip
noncomputable def a_ref01_Sign : An := (.seq .leaf (.seq .leaf (.seq (.seq .leaf (.cond (.seq .leaf .leaf) .leaf)) (.seq (.seq .leaf (.cond (.seq .leaf .leaf) .leaf)) (.seq .leaf .leaf)))))
theorem t_ref01_Sign : Entry Go.Proofs.Tryz.prog 92 e_ref01_Sign false :=
  entry_of (C := c_ref01_Sign) (fn := Go.Proofs.Tryz.f92) (c := b_ref01_Sign) (an := a_ref01_Sign) ⟨t_ref01_Norm, trivial⟩ trivial Go.Proofs.Tryz.func92 rfl rfl (by decide) (fun _ => rfl) (by intro a K D; kernel_rfl)
noncomputable def A_ref01_DivMod : ArgT (TInt × TInt × Unit) := (ArgT.cons tyTInt (ArgT.cons tyTInt ArgT.nil))
noncomputable def R_ref01_DivMod : Ty (TInt × TInt × Int) := (Ty.tup (.cons tyTInt (.cons tyTInt (.cons (Ty.leaf (.int .i64)) .nil))) (fun x => (x.1, x.2.1, x.2.2, ())) (fun y => (y.1, y.2.1, y.2.2.1)) (fun _ => rfl) (fun _ => rfl))
noncomputable def e_ref01_DivMod : FSem := mkE A_ref01_DivMod R_ref01_DivMod (fun a => F.ref01_DivMod a.1 a.2.1)
noncomputable def c_ref01_DivMod : Cfg := { P := Go.Proofs.Tryz.prog, n := 55, tab := [(148, e_ref01_Norm), (149, e_ref01_divide), (146, e_ref01_signed), (91, e_ref01_Mul), (150, e_ref01_Sub), (92, e_ref01_Sign), (88, e_ref01_FromInt), (151, e_ref01_Add)], mutL := [], rtL := [(15, 3), (22, 2), (24, 3), (29, 2), (31, 3)], locL := [2, 3, 4, 5, 9, 10] }
noncomputable def b_ref01_DivMod : Code := match Go.Proofs.Tryz.f89.body with | some c => c | none => .skip
noncomputable def a_ref01_DivMod : An := (.seq .leaf (.seq (.draw [0, 2, 1, 3, 4, 5]) (.seq (.seq .leaf (.cond (.seq .leaf .leaf) .leaf)) (.seq .leaf (.seq .leaf (.seq (.draw [0, 1, 2, 5, 3, 4, 6]) (.join [(9, .box [.bool, .sl]), (10, .box [.bool, .sl])] (.seq (.draw [0, 2, 1, 3, 4, 5]) (.cond (.seq (.draw [0, 1, 2, 3]) .leaf) .leaf)) (.seq (.draw [0, 1, 2, 3, 4]) .leaf))))))))
theorem t_ref01_DivMod : Entry Go.Proofs.Tryz.prog 89 e_ref01_DivMod false :=
  entry_of (C := c_ref01_DivMod) (fn := Go.Proofs.Tryz.f89) (c := b_ref01_DivMod) (an := a_ref01_DivMod) ⟨t_ref01_Norm, t_ref01_divide, t_ref01_signed, t_ref01_Mul, t_ref01_Sub, t_ref01_Sign, t_ref01_FromInt, t_ref01_Add, trivial⟩ trivial Go.Proofs.Tryz.func89 rfl rfl (by decide) (fun _ => rfl) (by intro a K D; kernel_rfl)
noncomputable def A_ref02_quo : ArgT (TInt × TInt × Unit) := (ArgT.cons tyTInt (ArgT.cons tyTInt ArgT.nil))
noncomputable def R_ref02_quo : Ty TInt := tyTInt
noncomputable def e_ref02_quo : FSem := mkE A_ref02_quo R_ref02_quo (fun a => F.ref02_quo a.1 a.2.1)
noncomputable def c_ref02_quo : Cfg := { P := Go.Proofs.Tryz.prog, n := 16, tab := [(89, e_ref01_DivMod)], mutL := [], rtL := [], locL := [2, 3, 4, 5, 6] }
noncomputable def b_ref02_quo : Code := match Go.Proofs.Tryz.f134.body with | some c => c | none => .skip
noncomputable def a_ref02_quo : An := (.seq .leaf (.seq .leaf (.seq .leaf .leaf)))
theorem t_ref02_quo : Entry Go.Proofs.Tryz.prog 134 e_ref02_quo false :=
  entry_of (C := c_ref02_quo) (fn := Go.Proofs.Tryz.f134) (c := b_ref02_quo) (an := a_ref02_quo) ⟨t_ref01_DivMod, trivial⟩ trivial Go.Proofs.Tryz.func134 rfl rfl (by decide) (fun _ => rfl) (by intro a K D; kernel_rfl)
noncomputable def A_ref02_Make : ArgT (TInt × TInt × Unit) := (ArgT.cons tyTInt (ArgT.cons tyTInt ArgT.nil))
noncomputable def R_ref02_Make : Ty TRat := tyTRat
noncomputable def e_ref02_Make : FSem := mkE A_ref02_Make R_ref02_Make (fun a => F.ref02_Make a.1 a.2.1)
noncomputable def c_ref02_Make : Cfg := { P := Go.Proofs.Tryz.prog, n := 21, tab := [(90, e_ref01_GCD), (134, e_ref02_quo), (92, e_ref01_Sign), (93, e_ref01_Neg)], mutL := [], rtL := [], locL := [2, 3, 4, 5] }
noncomputable def b_ref02_Make : Code := match Go.Proofs.Tryz.f125.body with | some c => c | none => .skip
noncomputable def a_ref02_Make : An := (.seq .leaf (.seq .leaf (.join [(5, .box [.bool, .sl])] (.seq .leaf (.cond .leaf .leaf)) (.seq (.draw [0, 1, 3, 4, 2, 5, 6, 7]) .leaf))))
theorem t_ref02_Make : Entry Go.Proofs.Tryz.prog 125 e_ref02_Make false :=
  entry_of (C := c_ref02_Make) (fn := Go.Proofs.Tryz.f125) (c := b_ref02_Make) (an := a_ref02_Make) ⟨t_ref01_GCD, t_ref02_quo, t_ref01_Sign, t_ref01_Neg, trivial⟩ trivial Go.Proofs.Tryz.func125 rfl rfl (by decide) (fun _ => rfl) (by intro a K D; kernel_rfl)
noncomputable def A_ref02_Frac : ArgT (Int × Int × Unit) := (ArgT.cons (Ty.leaf (.int .i64)) (ArgT.cons (Ty.leaf (.int .i64)) ArgT.nil))
noncomputable def R_ref02_Frac : Ty TRat := tyTRat
noncomputable def e_ref02_Frac : FSem := mkE A_ref02_Frac R_ref02_Frac (fun a => F.ref02_Frac a.1 a.2.1)
noncomputable def c_ref02_Frac : Cfg := { P := Go.Proofs.Tryz.prog, n := 13, tab := [(81, e_ref02_FromInt), (88, e_ref01_FromInt), (125, e_ref02_Make)], mutL := [], rtL := [], locL := [4] }
noncomputable def b_ref02_Frac : Code := match Go.Proofs.Tryz.f72.body with | some c => c | none => .skip
noncomputable def a_ref02_Frac : An := (.seq .leaf (.seq (.seq .leaf (.cond (.seq .leaf .leaf) .leaf)) (.seq .leaf .leaf)))
theorem t_ref02_Frac : Entry Go.Proofs.Tryz.prog 72 e_ref02_Frac false :=
  entry_of (C := c_ref02_Frac) (fn := Go.Proofs.Tryz.f72) (c := b_ref02_Frac) (an := a_ref02_Frac) ⟨t_ref02_FromInt, t_ref01_FromInt, t_ref02_Make, trivial⟩ trivial Go.Proofs.Tryz.func72 rfl rfl (by decide) (fun _ => rfl) (by intro a K D; kernel_rfl)
noncomputable def A_law04_rats : ArgT (Sl × Unit) := (ArgT.cons (Ty.leaf .sl) ArgT.nil)
noncomputable def R_law04_rats : Ty Sl := (Ty.leaf .sl)
noncomputable def e_law04_rats : FSem := mkE A_law04_rats R_law04_rats (fun a => F.law04_rats a.1)
noncomputable def c_law04_rats : Cfg := { P := Go.Proofs.Tryz.prog, n := 22, tab := [(72, e_ref02_Frac)], mutL := [], rtL := [(13, 5), (15, 5)], locL := [5, 18] }
noncomputable def b_law04_rats : Code := match Go.Proofs.Tryz.f68.body with | some c => c | none => .skip
noncomputable def a_law04_rats : An := (.seq .leaf (.seq .leaf (.seq (.seq .leaf (.block (.loop [(3, .leaf (.sl)), (8, .leaf (.int .i64))] (.seq .leaf (.seq (.cond .leaf .leaf) (.seq (.block (.seq .leaf .leaf)) .leaf)))))) (.seq .leaf .leaf))))
theorem t_law04_rats : Entry Go.Proofs.Tryz.prog 68 e_law04_rats false :=
  entry_of (C := c_law04_rats) (fn := Go.Proofs.Tryz.f68) (c := b_law04_rats) (an := a_law04_rats) ⟨t_ref02_Frac, trivial⟩ trivial Go.Proofs.Tryz.func68 rfl rfl (by decide) (fun _ => rfl) (by intro a K D; kernel_rfl)
noncomputable def A_slices_Clone_api_Rat_api_Rat : ArgT (Sl × Unit) := (ArgT.cons (Ty.leaf .sl) ArgT.nil)
noncomputable def R_slices_Clone_api_Rat_api_Rat : Ty Sl := (Ty.leaf .sl)
noncomputable def e_slices_Clone_api_Rat_api_Rat : FSem := mkE A_slices_Clone_api_Rat_api_Rat R_slices_Clone_api_Rat_api_Rat (fun a => F.slices_Clone_api_Rat_api_Rat a.1)
noncomputable def c_slices_Clone_api_Rat_api_Rat : Cfg := { P := Go.Proofs.Tryz.prog, n := 8, tab := [], mutL := [], rtL := [], locL := [] }
noncomputable def b_slices_Clone_api_Rat_api_Rat : Code := match Go.Proofs.Tryz.f104.body with | some c => c | none => .skip
noncomputable def a_slices_Clone_api_Rat_api_Rat : An := (.seq .leaf (.seq (.seq .leaf (.cond (.seq .leaf .leaf) .leaf)) (.seq .leaf .leaf)))
theorem t_slices_Clone_api_Rat_api_Rat : Entry Go.Proofs.Tryz.prog 104 e_slices_Clone_api_Rat_api_Rat false :=
  entry_of (C := c_slices_Clone_api_Rat_api_Rat) (fn := Go.Proofs.Tryz.f104) (c := b_slices_Clone_api_Rat_api_Rat) (an := a_slices_Clone_api_Rat_api_Rat) trivial trivial Go.Proofs.Tryz.func104 rfl rfl (by decide) (fun _ => rfl) (by intro a K D; kernel_rfl)
noncomputable def A_integer_trim : ArgT (Sl × Unit) := (ArgT.cons (Ty.leaf .sl) ArgT.nil)
noncomputable def R_integer_trim : Ty Sl := (Ty.leaf .sl)
noncomputable def e_integer_trim : FSem := mkE A_integer_trim R_integer_trim (fun a => F.integer_trim a.1)
noncomputable def c_integer_trim : Cfg := { P := Go.Proofs.Tryz.prog, n := 21, tab := [], mutL := [], rtL := [], locL := [] }
noncomputable def b_integer_trim : Code := match Go.Proofs.Tryz.f139.body with | some c => c | none => .skip
noncomputable def a_integer_trim : An := (.seq .leaf (.seq (.block (.loop [(0, .leaf (.sl))] (.join [] (.seq .leaf (.cond .leaf .leaf)) (.block .leaf)))) (.seq .leaf .leaf)))
theorem t_integer_trim : Entry Go.Proofs.Tryz.prog 139 e_integer_trim false :=
  entry_of (C := c_integer_trim) (fn := Go.Proofs.Tryz.f139) (c := b_integer_trim) (an := a_integer_trim) trivial trivial Go.Proofs.Tryz.func139 rfl rfl (by decide) (fun _ => rfl) (by intro a K D; kernel_rfl)
end Den
end

section
/-
  The iterator of slices.Backward over words.
-/
namespace Den
open Go Go.RowKit Go.Shelf
open Go.Proofs
attribute [local go_sem] Oper.semAt_some

set_option maxRecDepth 100000 in
set_option maxHeartbeats 2000000 in
theorem bk_u32 : BackFn Tryz.prog 189 (.leaf (.int .u32)) := by
  refine ⟨enters_of Tryz.func189 (by kernel_rfl) rfl, ?_⟩
  rintro l ab ⟨xa, xl, xc⟩ J w hxl h0 hbox hround
  simp only at hxl h0 hbox hround
  have hb0 := hbox _ _ h0
  refine callsIn_of_wp Tryz.func189 rfl trivial ?_ rfl
  simp only [Tryz.ntmps189, List.size_toArray, List.length_cons, List.length_nil, Nat.reduceAdd, Nat.reduceSub, Array.replicate_succ, Array.replicate_zero, List.push_toArray, List.append_toArray, List.nil_append, List.cons_append]
  gi_wp2
  gi_loopw [3] (fun i wr => ∃ k : Nat, k ≤ xl ∧ i = .int .i64 ((k : Int) - 1) ∧ J k wr) (fun i _ => (intOf i + 1).toNat)
  case atStart => exact ⟨xl, Nat.le_refl _, rfl, h0⟩
  case round =>
    obtain ⟨k, hk, rfl, hJ⟩ := hrel
    have hbx := hbox _ _ hJ
    cases k with
    | zero =>
      gi_wp2
      go_end0
      exact ⟨⟨_, rfl⟩, hJ⟩
    | succ j =>
      obtain ⟨ad, v, hxa, hcells, f, tmps1, asg, body, hy, hR⟩ := hround j wr (by omega) hJ
      subst hxa
      have hc0 : wr.cell? (ad.add j) = some (.int .u32 v) := by
        have := hcells 0 (.int .u32 v) rfl
        simpa [STy.size] using this
      have hkj : (((j + 1 : Nat) : Int) - 1) = (j : Int) := by omega
      rw [hkj]
      simp only [STy.val, Lf.up] at hy
      gi_wp2
      refine ⟨rfl, hR.mono ?_⟩
      rintro e W3 ⟨rfl, hJ3⟩
      gi_wp2
      go_roundw
      case rel => exact ⟨j, by omega, by simp, hJ3⟩
      case measure => simp [intOf]
end Den
end

section
/- MADE BY fbuild.py: the entries of the functions. -/
set_option maxRecDepth 100000
set_option linter.unusedVariables false
namespace Den
open Go
noncomputable def A_integer_Sign : ArgT (TInt × Unit) := (ArgT.cons tyTInt ArgT.nil)
noncomputable def R_integer_Sign : Ty Int := (Ty.leaf (.int .i64))
noncomputable def e_integer_Sign : FSem := mkE A_integer_Sign R_integer_Sign (fun a => F.integer_Sign a.1)
noncomputable def c_integer_Sign : Cfg := { P := Go.Proofs.Tryz.prog, n := 12, tab := [(139, e_integer_trim)], mutL := [], rtL := [(4, 1), (10, 1)], locL := [1] }
noncomputable def b_integer_Sign : Code := match Go.Proofs.Tryz.f153.body with | some c => c | none => .skip
noncomputable def a_integer_Sign : An := (.seq .leaf (.seq (.block (.seq .leaf (.cond (.seq .leaf .leaf) (.seq .leaf (.cond (.seq .leaf .leaf) .leaf))))) (.seq .leaf .leaf)))
theorem t_integer_Sign : Entry Go.Proofs.Tryz.prog 153 e_integer_Sign false :=
  entry_of (C := c_integer_Sign) (fn := Go.Proofs.Tryz.f153) (c := b_integer_Sign) (an := a_integer_Sign) ⟨t_integer_trim, trivial⟩ trivial Go.Proofs.Tryz.func153 rfl rfl (by decide) (fun _ => rfl) (by intro a K D; kernel_rfl)
noncomputable def A_rational_Sign : ArgT (TRat × Unit) := (ArgT.cons tyTRat ArgT.nil)
noncomputable def R_rational_Sign : Ty Int := (Ty.leaf (.int .i64))
noncomputable def e_rational_Sign : FSem := mkE A_rational_Sign R_rational_Sign (fun a => F.rational_Sign a.1)
noncomputable def c_rational_Sign : Cfg := { P := Go.Proofs.Tryz.prog, n := 6, tab := [(153, e_integer_Sign)], mutL := [], rtL := [(3, 1)], locL := [1] }
noncomputable def b_rational_Sign : Code := match Go.Proofs.Tryz.f96.body with | some c => c | none => .skip
noncomputable def a_rational_Sign : An := (.seq .leaf (.seq .leaf .leaf))
theorem t_rational_Sign : Entry Go.Proofs.Tryz.prog 96 e_rational_Sign false :=
  entry_of (C := c_rational_Sign) (fn := Go.Proofs.Tryz.f96) (c := b_rational_Sign) (an := a_rational_Sign) ⟨t_integer_Sign, trivial⟩ trivial Go.Proofs.Tryz.func96 rfl rfl (by decide) (fun _ => rfl) (by intro a K D; kernel_rfl)
noncomputable def A_polynomial_Trim : ArgT (Sl × Unit) := (ArgT.cons (Ty.leaf .sl) ArgT.nil)
noncomputable def R_polynomial_Trim : Ty Sl := (Ty.leaf .sl)
noncomputable def e_polynomial_Trim : FSem := mkE A_polynomial_Trim R_polynomial_Trim (fun a => F.polynomial_Trim a.1)
noncomputable def c_polynomial_Trim : Cfg := { P := Go.Proofs.Tryz.prog, n := 23, tab := [(104, e_slices_Clone_api_Rat_api_Rat), (96, e_rational_Sign)], mutL := [], rtL := [], locL := [] }
noncomputable def b_polynomial_Trim : Code := match Go.Proofs.Tryz.f38.body with | some c => c | none => .skip
noncomputable def a_polynomial_Trim : An := (.seq .leaf (.seq .leaf (.join [(3, .leaf (.int .i64))] (.block (.loop [(3, .leaf (.int .i64))] (.join [] (.seq .leaf (.cond .leaf .leaf)) (.block .leaf)))) (.seq .leaf .leaf))))
theorem t_polynomial_Trim : Entry Go.Proofs.Tryz.prog 38 e_polynomial_Trim false :=
  entry_of (C := c_polynomial_Trim) (fn := Go.Proofs.Tryz.f38) (c := b_polynomial_Trim) (an := a_polynomial_Trim) ⟨t_slices_Clone_api_Rat_api_Rat, t_rational_Sign, trivial⟩ trivial Go.Proofs.Tryz.func38 rfl rfl (by decide) (fun _ => rfl) (by intro a K D; kernel_rfl)
noncomputable def A_polynomial_Degree : ArgT (Sl × Unit) := (ArgT.cons (Ty.leaf .sl) ArgT.nil)
noncomputable def R_polynomial_Degree : Ty Int := (Ty.leaf (.int .i64))
noncomputable def e_polynomial_Degree : FSem := mkE A_polynomial_Degree R_polynomial_Degree (fun a => F.polynomial_Degree a.1)
noncomputable def c_polynomial_Degree : Cfg := { P := Go.Proofs.Tryz.prog, n := 7, tab := [(38, e_polynomial_Trim)], mutL := [], rtL := [], locL := [] }
noncomputable def b_polynomial_Degree : Code := match Go.Proofs.Tryz.f39.body with | some c => c | none => .skip
noncomputable def a_polynomial_Degree : An := (.seq .leaf (.seq .leaf .leaf))
theorem t_polynomial_Degree : Entry Go.Proofs.Tryz.prog 39 e_polynomial_Degree false :=
  entry_of (C := c_polynomial_Degree) (fn := Go.Proofs.Tryz.f39) (c := b_polynomial_Degree) (an := a_polynomial_Degree) ⟨t_polynomial_Trim, trivial⟩ trivial Go.Proofs.Tryz.func39 rfl rfl (by decide) (fun _ => rfl) (by intro a K D; kernel_rfl)
noncomputable def A_integer_fromUint : ArgT (Int × Unit) := (ArgT.cons (Ty.leaf (.int .u64)) ArgT.nil)
noncomputable def R_integer_fromUint : Ty Sl := (Ty.leaf .sl)
noncomputable def e_integer_fromUint : FSem := mkE A_integer_fromUint R_integer_fromUint (fun a => F.integer_fromUint a.1)
noncomputable def c_integer_fromUint : Cfg := { P := Go.Proofs.Tryz.prog, n := 10, tab := [(139, e_integer_trim)], mutL := [], rtL := [], locL := [] }
noncomputable def b_integer_fromUint : Code := match Go.Proofs.Tryz.f138.body with | some c => c | none => .skip
noncomputable def a_integer_fromUint : An := (.seq .leaf (.seq .leaf .leaf))
theorem t_integer_fromUint : Entry Go.Proofs.Tryz.prog 138 e_integer_fromUint false :=
  entry_of (C := c_integer_fromUint) (fn := Go.Proofs.Tryz.f138) (c := b_integer_fromUint) (an := a_integer_fromUint) ⟨t_integer_trim, trivial⟩ trivial Go.Proofs.Tryz.func138 rfl rfl (by decide) (fun _ => rfl) (by intro a K D; kernel_rfl)
noncomputable def A_integer_signed : ArgT (Bool × Sl × Unit) := (ArgT.cons (Ty.leaf .bool) (ArgT.cons (Ty.leaf .sl) ArgT.nil))
noncomputable def R_integer_signed : Ty TInt := tyTInt
noncomputable def e_integer_signed : FSem := mkE A_integer_signed R_integer_signed (fun a => F.integer_signed a.1 a.2.1)
noncomputable def c_integer_signed : Cfg := { P := Go.Proofs.Tryz.prog, n := 14, tab := [(139, e_integer_trim)], mutL := [], rtL := [], locL := [4] }
noncomputable def b_integer_signed : Code := match Go.Proofs.Tryz.f137.body with | some c => c | none => .skip
noncomputable def a_integer_signed : An := (.seq .leaf (.seq .leaf (.seq (.seq .leaf (.cond (.seq .leaf .leaf) .leaf)) (.seq .leaf .leaf))))
theorem t_integer_signed : Entry Go.Proofs.Tryz.prog 137 e_integer_signed false :=
  entry_of (C := c_integer_signed) (fn := Go.Proofs.Tryz.f137) (c := b_integer_signed) (an := a_integer_signed) ⟨t_integer_trim, trivial⟩ trivial Go.Proofs.Tryz.func137 rfl rfl (by decide) (fun _ => rfl) (by intro a K D; kernel_rfl)
noncomputable def A_integer_FromInt : ArgT (Int × Unit) := (ArgT.cons (Ty.leaf (.int .i64)) ArgT.nil)
noncomputable def R_integer_FromInt : Ty TInt := tyTInt
noncomputable def e_integer_FromInt : FSem := mkE A_integer_FromInt R_integer_FromInt (fun a => F.integer_FromInt a.1)
noncomputable def c_integer_FromInt : Cfg := { P := Go.Proofs.Tryz.prog, n := 15, tab := [(138, e_integer_fromUint), (137, e_integer_signed)], mutL := [], rtL := [], locL := [2] }
noncomputable def b_integer_FromInt : Code := match Go.Proofs.Tryz.f84.body with | some c => c | none => .skip
noncomputable def a_integer_FromInt : An := (.seq .leaf (.seq .leaf (.join [(3, .leaf (.int .u64))] (.seq .leaf (.cond .leaf .leaf)) (.seq .leaf .leaf))))
theorem t_integer_FromInt : Entry Go.Proofs.Tryz.prog 84 e_integer_FromInt false :=
  entry_of (C := c_integer_FromInt) (fn := Go.Proofs.Tryz.f84) (c := b_integer_FromInt) (an := a_integer_FromInt) ⟨t_integer_fromUint, t_integer_signed, trivial⟩ trivial Go.Proofs.Tryz.func84 rfl rfl (by decide) (fun _ => rfl) (by intro a K D; kernel_rfl)
noncomputable def A_rational_one : ArgT (Unit) := ArgT.nil
noncomputable def R_rational_one : Ty TInt := tyTInt
noncomputable def e_rational_one : FSem := mkE A_rational_one R_rational_one (fun a => F.rational_one )
noncomputable def c_rational_one : Cfg := { P := Go.Proofs.Tryz.prog, n := 2, tab := [(84, e_integer_FromInt)], mutL := [], rtL := [], locL := [0] }
noncomputable def b_rational_one : Code := match Go.Proofs.Tryz.f129.body with | some c => c | none => .skip
noncomputable def a_rational_one : An := (.seq .leaf (.seq .leaf .leaf))
theorem t_rational_one : Entry Go.Proofs.Tryz.prog 129 e_rational_one false :=
  entry_of (C := c_rational_one) (fn := Go.Proofs.Tryz.f129) (c := b_rational_one) (an := a_rational_one) ⟨t_integer_FromInt, trivial⟩ trivial Go.Proofs.Tryz.func129 rfl rfl (by decide) (fun _ => rfl) (by intro a K D; kernel_rfl)
noncomputable def A_rational_FromInt : ArgT (Int × Unit) := (ArgT.cons (Ty.leaf (.int .i64)) ArgT.nil)
noncomputable def R_rational_FromInt : Ty TRat := tyTRat
noncomputable def e_rational_FromInt : FSem := mkE A_rational_FromInt R_rational_FromInt (fun a => F.rational_FromInt a.1)
noncomputable def c_rational_FromInt : Cfg := { P := Go.Proofs.Tryz.prog, n := 7, tab := [(84, e_integer_FromInt), (129, e_rational_one)], mutL := [], rtL := [], locL := [2] }
noncomputable def b_rational_FromInt : Code := match Go.Proofs.Tryz.f79.body with | some c => c | none => .skip
noncomputable def a_rational_FromInt : An := (.seq .leaf (.seq .leaf .leaf))
theorem t_rational_FromInt : Entry Go.Proofs.Tryz.prog 79 e_rational_FromInt false :=
  entry_of (C := c_rational_FromInt) (fn := Go.Proofs.Tryz.f79) (c := b_rational_FromInt) (an := a_rational_FromInt) ⟨t_integer_FromInt, t_rational_one, trivial⟩ trivial Go.Proofs.Tryz.func79 rfl rfl (by decide) (fun _ => rfl) (by intro a K D; kernel_rfl)
noncomputable def A_math_bits_Mul64 : ArgT (Int × Int × Unit) := (ArgT.cons (Ty.leaf (.int .u64)) (ArgT.cons (Ty.leaf (.int .u64)) ArgT.nil))
noncomputable def R_math_bits_Mul64 : Ty (Int × Int) := (Ty.tup (.cons (Ty.leaf (.int .u64)) (.cons (Ty.leaf (.int .u64)) .nil)) (fun x => (x.1, x.2, ())) (fun y => (y.1, y.2.1)) (fun _ => rfl) (fun _ => rfl))
noncomputable def e_math_bits_Mul64 : FSem := mkE A_math_bits_Mul64 R_math_bits_Mul64 (fun a => F.math_bits_Mul64 a.1 a.2.1)
noncomputable def c_math_bits_Mul64 : Cfg := { P := Go.Proofs.Tryz.prog, n := 51, tab := [], mutL := [], rtL := [], locL := [] }
noncomputable def b_math_bits_Mul64 : Code := match Go.Proofs.Tryz.f186.body with | some c => c | none => .skip
noncomputable def a_math_bits_Mul64 : An := (.seq .leaf (.seq .leaf (.seq .leaf (.seq .leaf (.seq .leaf (.seq .leaf (.seq .leaf (.seq .leaf (.seq .leaf (.seq .leaf (.seq .leaf (.seq .leaf .leaf))))))))))))
theorem t_math_bits_Mul64 : Entry Go.Proofs.Tryz.prog 186 e_math_bits_Mul64 false :=
  entry_of (C := c_math_bits_Mul64) (fn := Go.Proofs.Tryz.f186) (c := b_math_bits_Mul64) (an := a_math_bits_Mul64) trivial trivial Go.Proofs.Tryz.func186 rfl rfl (by decide) (fun _ => rfl) (by intro a K D; kernel_rfl)
noncomputable def A_math_bits_Mul : ArgT (Int × Int × Unit) := (ArgT.cons (Ty.leaf (.int .u64)) (ArgT.cons (Ty.leaf (.int .u64)) ArgT.nil))
noncomputable def R_math_bits_Mul : Ty (Int × Int) := (Ty.tup (.cons (Ty.leaf (.int .u64)) (.cons (Ty.leaf (.int .u64)) .nil)) (fun x => (x.1, x.2, ())) (fun y => (y.1, y.2.1)) (fun _ => rfl) (fun _ => rfl))
noncomputable def e_math_bits_Mul : FSem := mkE A_math_bits_Mul R_math_bits_Mul (fun a => F.math_bits_Mul a.1 a.2.1)
noncomputable def c_math_bits_Mul : Cfg := { P := Go.Proofs.Tryz.prog, n := 30, tab := [(186, e_math_bits_Mul64)], mutL := [], rtL := [], locL := [] }
noncomputable def b_math_bits_Mul : Code := match Go.Proofs.Tryz.f162.body with | some c => c | none => .skip
noncomputable def a_math_bits_Mul : An := (.seq .leaf (.seq (.cond (.seq .leaf (.seq .leaf .leaf)) .leaf) (.seq .leaf (.seq .leaf .leaf))))
theorem t_math_bits_Mul : Entry Go.Proofs.Tryz.prog 162 e_math_bits_Mul false :=
  entry_of (C := c_math_bits_Mul) (fn := Go.Proofs.Tryz.f162) (c := b_math_bits_Mul) (an := a_math_bits_Mul) ⟨t_math_bits_Mul64, trivial⟩ trivial Go.Proofs.Tryz.func162 rfl rfl (by decide) (fun _ => rfl) (by intro a K D; kernel_rfl)
noncomputable def A_slices_Repeat_api_Rat_api_Rat : ArgT (Sl × Int × Unit) := (ArgT.cons (Ty.leaf .sl) (ArgT.cons (Ty.leaf (.int .i64)) ArgT.nil))
noncomputable def R_slices_Repeat_api_Rat_api_Rat : Ty Sl := (Ty.leaf .sl)
noncomputable def e_slices_Repeat_api_Rat_api_Rat : FSem := mkE A_slices_Repeat_api_Rat_api_Rat R_slices_Repeat_api_Rat_api_Rat (fun a => F.slices_Repeat_api_Rat_api_Rat a.1 a.2.1)
noncomputable def c_slices_Repeat_api_Rat_api_Rat : Cfg := { P := Go.Proofs.Tryz.prog, n := 48, tab := [(162, e_math_bits_Mul)], mutL := [], rtL := [], locL := [] }
noncomputable def b_slices_Repeat_api_Rat_api_Rat : Code := match Go.Proofs.Tryz.f126.body with | some c => c | none => .skip
noncomputable def a_slices_Repeat_api_Rat_api_Rat : An := (.seq .leaf (.join [] (.seq .leaf (.cond .leaf .leaf)) (.seq .leaf (.join [] (.seq .leaf (.cond .leaf .leaf)) (.seq .leaf (.seq .leaf (.seq (.block (.loop [(8, .leaf (.int .i64))] (.seq (.seq .leaf (.cond .leaf .leaf)) (.block (.draw [0, 1, 2, 3, 4, 5, 6, 7, 8, 9]))))) (.seq .leaf .leaf))))))))
theorem t_slices_Repeat_api_Rat_api_Rat : Entry Go.Proofs.Tryz.prog 126 e_slices_Repeat_api_Rat_api_Rat false :=
  entry_of (C := c_slices_Repeat_api_Rat_api_Rat) (fn := Go.Proofs.Tryz.f126) (c := b_slices_Repeat_api_Rat_api_Rat) (an := a_slices_Repeat_api_Rat_api_Rat) ⟨t_math_bits_Mul, trivial⟩ trivial Go.Proofs.Tryz.func126 rfl rfl (by decide) (fun _ => rfl) (by intro a K D; kernel_rfl)
noncomputable def A_polynomial_zeros : ArgT (Int × Unit) := (ArgT.cons (Ty.leaf (.int .i64)) ArgT.nil)
noncomputable def R_polynomial_zeros : Ty Sl := (Ty.leaf .sl)
noncomputable def e_polynomial_zeros : FSem := mkE A_polynomial_zeros R_polynomial_zeros (fun a => F.polynomial_zeros a.1)
noncomputable def c_polynomial_zeros : Cfg := { P := Go.Proofs.Tryz.prog, n := 7, tab := [(79, e_rational_FromInt), (126, e_slices_Repeat_api_Rat_api_Rat)], mutL := [], rtL := [], locL := [] }
noncomputable def b_polynomial_zeros : Code := match Go.Proofs.Tryz.f73.body with | some c => c | none => .skip
noncomputable def a_polynomial_zeros : An := (.seq .leaf (.seq .leaf .leaf))
theorem t_polynomial_zeros : Entry Go.Proofs.Tryz.prog 73 e_polynomial_zeros false :=
  entry_of (C := c_polynomial_zeros) (fn := Go.Proofs.Tryz.f73) (c := b_polynomial_zeros) (an := a_polynomial_zeros) ⟨t_rational_FromInt, t_slices_Repeat_api_Rat_api_Rat, trivial⟩ trivial Go.Proofs.Tryz.func73 rfl rfl (by decide) (fun _ => rfl) (by intro a K D; kernel_rfl)
noncomputable def A_rational_isZero : ArgT (TInt × Unit) := (ArgT.cons tyTInt ArgT.nil)
noncomputable def R_rational_isZero : Ty Bool := (Ty.leaf .bool)
noncomputable def e_rational_isZero : FSem := mkE A_rational_isZero R_rational_isZero (fun a => F.rational_isZero a.1)
noncomputable def c_rational_isZero : Cfg := { P := Go.Proofs.Tryz.prog, n := 7, tab := [], mutL := [], rtL := [(3, 1)], locL := [1] }
noncomputable def b_rational_isZero : Code := match Go.Proofs.Tryz.f165.body with | some c => c | none => .skip
noncomputable def a_rational_isZero : An := (.seq .leaf (.seq .leaf .leaf))
theorem t_rational_isZero : Entry Go.Proofs.Tryz.prog 165 e_rational_isZero false :=
  entry_of (C := c_rational_isZero) (fn := Go.Proofs.Tryz.f165) (c := b_rational_isZero) (an := a_rational_isZero) trivial trivial Go.Proofs.Tryz.func165 rfl rfl (by decide) (fun _ => rfl) (by intro a K D; kernel_rfl)
noncomputable def A_integer_times : ArgT (Sl × Sl × Unit) := (ArgT.cons (Ty.leaf .sl) (ArgT.cons (Ty.leaf .sl) ArgT.nil))
noncomputable def R_integer_times : Ty Sl := (Ty.leaf .sl)
noncomputable def e_integer_times : FSem := mkE A_integer_times R_integer_times (fun a => F.integer_times a.1 a.2.1)
noncomputable def c_integer_times : Cfg := { P := Go.Proofs.Tryz.prog, n := 75, tab := [(139, e_integer_trim)], mutL := [], rtL := [], locL := [] }
noncomputable def b_integer_times : Code := match Go.Proofs.Tryz.f145.body with | some c => c | none => .skip
noncomputable def a_integer_times : An := (.seq .leaf (.join [] (.seq .leaf (.cond (.seq .leaf .leaf) .leaf)) (.seq .leaf (.seq (.seq .leaf (.block (.loop [(27, .leaf (.int .i64))] (.seq .leaf (.seq (.cond .leaf .leaf) (.seq (.block (.seq .leaf (.seq .leaf (.seq (.seq .leaf (.block (.loop [(8, .leaf (.int .u64)), (34, .leaf (.int .i64))] (.seq .leaf (.seq (.cond .leaf .leaf) (.seq (.block (.seq .leaf (.seq .leaf (.seq .leaf .leaf)))) .leaf)))))) .leaf)))) .leaf)))))) (.seq .leaf .leaf)))))
theorem t_integer_times : Entry Go.Proofs.Tryz.prog 145 e_integer_times false :=
  entry_of (C := c_integer_times) (fn := Go.Proofs.Tryz.f145) (c := b_integer_times) (an := a_integer_times) ⟨t_integer_trim, trivial⟩ trivial Go.Proofs.Tryz.func145 rfl rfl (by decide) (fun _ => rfl) (by intro a K D; kernel_rfl)
noncomputable def A_integer_Mul : ArgT (TInt × TInt × Unit) := (ArgT.cons tyTInt (ArgT.cons tyTInt ArgT.nil))
noncomputable def R_integer_Mul : Ty TInt := tyTInt
noncomputable def e_integer_Mul : FSem := mkE A_integer_Mul R_integer_Mul (fun a => F.integer_Mul a.1 a.2.1)
noncomputable def c_integer_Mul : Cfg := { P := Go.Proofs.Tryz.prog, n := 18, tab := [(139, e_integer_trim), (145, e_integer_times), (137, e_integer_signed)], mutL := [], rtL := [(5, 2), (7, 3), (10, 2), (13, 3)], locL := [2, 3, 4] }
noncomputable def b_integer_Mul : Code := match Go.Proofs.Tryz.f87.body with | some c => c | none => .skip
noncomputable def a_integer_Mul : An := (.seq .leaf (.seq (.draw [0, 1, 2, 3, 4, 5, 6, 8, 9, 7, 10, 11, 12, 13]) .leaf))
theorem t_integer_Mul : Entry Go.Proofs.Tryz.prog 87 e_integer_Mul false :=
  entry_of (C := c_integer_Mul) (fn := Go.Proofs.Tryz.f87) (c := b_integer_Mul) (an := a_integer_Mul) ⟨t_integer_trim, t_integer_times, t_integer_signed, trivial⟩ trivial Go.Proofs.Tryz.func87 rfl rfl (by decide) (fun _ => rfl) (by intro a K D; kernel_rfl)
noncomputable def A_slices_Clone_uint32_uint32 : ArgT (Sl × Unit) := (ArgT.cons (Ty.leaf .sl) ArgT.nil)
noncomputable def R_slices_Clone_uint32_uint32 : Ty Sl := (Ty.leaf .sl)
noncomputable def e_slices_Clone_uint32_uint32 : FSem := mkE A_slices_Clone_uint32_uint32 R_slices_Clone_uint32_uint32 (fun a => F.slices_Clone_uint32_uint32 a.1)
noncomputable def c_slices_Clone_uint32_uint32 : Cfg := { P := Go.Proofs.Tryz.prog, n := 8, tab := [], mutL := [], rtL := [], locL := [] }
noncomputable def b_slices_Clone_uint32_uint32 : Code := match Go.Proofs.Tryz.f143.body with | some c => c | none => .skip
noncomputable def a_slices_Clone_uint32_uint32 : An := (.seq .leaf (.seq (.seq .leaf (.cond (.seq .leaf .leaf) .leaf)) (.seq .leaf .leaf)))
theorem t_slices_Clone_uint32_uint32 : Entry Go.Proofs.Tryz.prog 143 e_slices_Clone_uint32_uint32 false :=
  entry_of (C := c_slices_Clone_uint32_uint32) (fn := Go.Proofs.Tryz.f143) (c := b_slices_Clone_uint32_uint32) (an := a_slices_Clone_uint32_uint32) trivial trivial Go.Proofs.Tryz.func143 rfl rfl (by decide) (fun _ => rfl) (by intro a K D; kernel_rfl)
noncomputable def A_slices_Backward_uint32_uint32 : ArgT (Sl × Unit) := (ArgT.cons (Ty.leaf .sl) ArgT.nil)
noncomputable def R_slices_Backward_uint32_uint32 : Ty Addr := (Ty.clo 189)
noncomputable def e_slices_Backward_uint32_uint32 : FSem := mkE A_slices_Backward_uint32_uint32 R_slices_Backward_uint32_uint32 (fun a => F.slices_Backward_uint32_uint32 a.1)
noncomputable def c_slices_Backward_uint32_uint32 : Cfg := { P := Go.Proofs.Tryz.prog, n := 4, tab := [], mutL := [], rtL := [], locL := [] }
noncomputable def b_slices_Backward_uint32_uint32 : Code := match Go.Proofs.Tryz.f173.body with | some c => c | none => .skip
noncomputable def a_slices_Backward_uint32_uint32 : An := (.seq .leaf (.seq .leaf .leaf))
theorem t_slices_Backward_uint32_uint32 : Entry Go.Proofs.Tryz.prog 173 e_slices_Backward_uint32_uint32 false :=
  entry_of (C := c_slices_Backward_uint32_uint32) (fn := Go.Proofs.Tryz.f173) (c := b_slices_Backward_uint32_uint32) (an := a_slices_Backward_uint32_uint32) trivial trivial Go.Proofs.Tryz.func173 rfl rfl (by decide) (fun _ => rfl) (by intro a K D; kernel_rfl)
noncomputable def A_integer_toUint : ArgT (Sl × Unit) := (ArgT.cons (Ty.leaf .sl) ArgT.nil)
noncomputable def R_integer_toUint : Ty Int := (Ty.leaf (.int .u64))
noncomputable def e_integer_toUint : FSem := mkE A_integer_toUint R_integer_toUint (fun a => F.integer_toUint a.1)
noncomputable def c_integer_toUint : Cfg := { P := Go.Proofs.Tryz.prog, n := 16, tab := [(173, e_slices_Backward_uint32_uint32)], mutL := [], rtL := [], locL := [3], backs := [(189, (.leaf (.int .u32)))] }
noncomputable def b_integer_toUint : Code := match Go.Proofs.Tryz.f144.body with | some c => c | none => .skip
noncomputable def a_integer_toUint : An := (.seq .leaf (.seq .leaf (.seq (.seq .leaf (.block (.back [(3, .box [.int .u64])] .leaf (.block .leaf)))) (.seq .leaf .leaf))))
theorem t_integer_toUint : Entry Go.Proofs.Tryz.prog 144 e_integer_toUint false :=
  entry_of (C := c_integer_toUint) (fn := Go.Proofs.Tryz.f144) (c := b_integer_toUint) (an := a_integer_toUint) ⟨t_slices_Backward_uint32_uint32, trivial⟩ ⟨bk_u32, trivial⟩ Go.Proofs.Tryz.func144 rfl rfl (by decide) (fun _ => rfl) (by intro a K D; kernel_rfl)
noncomputable def A_cmp_isNaN_int : ArgT (Int × Unit) := (ArgT.cons (Ty.leaf (.int .i64)) ArgT.nil)
noncomputable def R_cmp_isNaN_int : Ty Bool := (Ty.leaf .bool)
noncomputable def e_cmp_isNaN_int : FSem := mkE A_cmp_isNaN_int R_cmp_isNaN_int (fun a => F.cmp_isNaN_int a.1)
noncomputable def c_cmp_isNaN_int : Cfg := { P := Go.Proofs.Tryz.prog, n := 6, tab := [], mutL := [], rtL := [], locL := [] }
noncomputable def b_cmp_isNaN_int : Code := match Go.Proofs.Tryz.f190.body with | some c => c | none => .skip
noncomputable def a_cmp_isNaN_int : An := (.seq .leaf (.seq .leaf .leaf))
theorem t_cmp_isNaN_int : Entry Go.Proofs.Tryz.prog 190 e_cmp_isNaN_int false :=
  entry_of (C := c_cmp_isNaN_int) (fn := Go.Proofs.Tryz.f190) (c := b_cmp_isNaN_int) (an := a_cmp_isNaN_int) trivial trivial Go.Proofs.Tryz.func190 rfl rfl (by decide) (fun _ => rfl) (by intro a K D; kernel_rfl)
noncomputable def A_cmp_Compare_int : ArgT (Int × Int × Unit) := (ArgT.cons (Ty.leaf (.int .i64)) (ArgT.cons (Ty.leaf (.int .i64)) ArgT.nil))
noncomputable def R_cmp_Compare_int : Ty Int := (Ty.leaf (.int .i64))
noncomputable def e_cmp_Compare_int : FSem := mkE A_cmp_Compare_int R_cmp_Compare_int (fun a => F.cmp_Compare_int a.1 a.2.1)
noncomputable def c_cmp_Compare_int : Cfg := { P := Go.Proofs.Tryz.prog, n := 20, tab := [(190, e_cmp_isNaN_int)], mutL := [], rtL := [], locL := [] }
noncomputable def b_cmp_Compare_int : Code := match Go.Proofs.Tryz.f182.body with | some c => c | none => .skip
noncomputable def a_cmp_Compare_int : An := (.seq .leaf (.seq .leaf (.seq .leaf (.seq (.seq .leaf (.cond (.seq (.seq .leaf (.cond (.seq .leaf .leaf) .leaf)) (.seq .leaf .leaf)) .leaf)) (.seq (.seq .leaf (.cond (.seq .leaf .leaf) .leaf)) (.seq (.seq .leaf (.cond (.seq .leaf .leaf) .leaf)) (.seq (.seq .leaf (.cond (.seq .leaf .leaf) .leaf)) (.seq .leaf .leaf))))))))
theorem t_cmp_Compare_int : Entry Go.Proofs.Tryz.prog 182 e_cmp_Compare_int false :=
  entry_of (C := c_cmp_Compare_int) (fn := Go.Proofs.Tryz.f182) (c := b_cmp_Compare_int) (an := a_cmp_Compare_int) ⟨t_cmp_isNaN_int, trivial⟩ trivial Go.Proofs.Tryz.func182 rfl rfl (by decide) (fun _ => rfl) (by intro a K D; kernel_rfl)
noncomputable def A_cmp_isNaN_uint32 : ArgT (Int × Unit) := (ArgT.cons (Ty.leaf (.int .u32)) ArgT.nil)
noncomputable def R_cmp_isNaN_uint32 : Ty Bool := (Ty.leaf .bool)
noncomputable def e_cmp_isNaN_uint32 : FSem := mkE A_cmp_isNaN_uint32 R_cmp_isNaN_uint32 (fun a => F.cmp_isNaN_uint32 a.1)
noncomputable def c_cmp_isNaN_uint32 : Cfg := { P := Go.Proofs.Tryz.prog, n := 6, tab := [], mutL := [], rtL := [], locL := [] }
noncomputable def b_cmp_isNaN_uint32 : Code := match Go.Proofs.Tryz.f192.body with | some c => c | none => .skip
noncomputable def a_cmp_isNaN_uint32 : An := (.seq .leaf (.seq .leaf .leaf))
theorem t_cmp_isNaN_uint32 : Entry Go.Proofs.Tryz.prog 192 e_cmp_isNaN_uint32 false :=
  entry_of (C := c_cmp_isNaN_uint32) (fn := Go.Proofs.Tryz.f192) (c := b_cmp_isNaN_uint32) (an := a_cmp_isNaN_uint32) trivial trivial Go.Proofs.Tryz.func192 rfl rfl (by decide) (fun _ => rfl) (by intro a K D; kernel_rfl)
noncomputable def A_cmp_Compare_uint32 : ArgT (Int × Int × Unit) := (ArgT.cons (Ty.leaf (.int .u32)) (ArgT.cons (Ty.leaf (.int .u32)) ArgT.nil))
noncomputable def R_cmp_Compare_uint32 : Ty Int := (Ty.leaf (.int .i64))
noncomputable def e_cmp_Compare_uint32 : FSem := mkE A_cmp_Compare_uint32 R_cmp_Compare_uint32 (fun a => F.cmp_Compare_uint32 a.1 a.2.1)
noncomputable def c_cmp_Compare_uint32 : Cfg := { P := Go.Proofs.Tryz.prog, n := 20, tab := [(192, e_cmp_isNaN_uint32)], mutL := [], rtL := [], locL := [] }
noncomputable def b_cmp_Compare_uint32 : Code := match Go.Proofs.Tryz.f187.body with | some c => c | none => .skip
noncomputable def a_cmp_Compare_uint32 : An := (.seq .leaf (.seq .leaf (.seq .leaf (.seq (.seq .leaf (.cond (.seq (.seq .leaf (.cond (.seq .leaf .leaf) .leaf)) (.seq .leaf .leaf)) .leaf)) (.seq (.seq .leaf (.cond (.seq .leaf .leaf) .leaf)) (.seq (.seq .leaf (.cond (.seq .leaf .leaf) .leaf)) (.seq (.seq .leaf (.cond (.seq .leaf .leaf) .leaf)) (.seq .leaf .leaf))))))))
theorem t_cmp_Compare_uint32 : Entry Go.Proofs.Tryz.prog 187 e_cmp_Compare_uint32 false :=
  entry_of (C := c_cmp_Compare_uint32) (fn := Go.Proofs.Tryz.f187) (c := b_cmp_Compare_uint32) (an := a_cmp_Compare_uint32) ⟨t_cmp_isNaN_uint32, trivial⟩ trivial Go.Proofs.Tryz.func187 rfl rfl (by decide) (fun _ => rfl) (by intro a K D; kernel_rfl)
noncomputable def A_integer_compare : ArgT (Sl × Sl × Unit) := (ArgT.cons (Ty.leaf .sl) (ArgT.cons (Ty.leaf .sl) ArgT.nil))
noncomputable def R_integer_compare : Ty Int := (Ty.leaf (.int .i64))
noncomputable def e_integer_compare : FSem := mkE A_integer_compare R_integer_compare (fun a => F.integer_compare a.1 a.2.1)
noncomputable def c_integer_compare : Cfg := { P := Go.Proofs.Tryz.prog, n := 41, tab := [(182, e_cmp_Compare_int), (187, e_cmp_Compare_uint32)], mutL := [], rtL := [], locL := [] }
noncomputable def b_integer_compare : Code := match Go.Proofs.Tryz.f163.body with | some c => c | none => .skip
noncomputable def a_integer_compare : An := (.seq .leaf (.seq (.seq .leaf (.cond (.seq .leaf .leaf) .leaf)) (.seq (.seq .leaf (.block (.loop [(5, .leaf (.int .i64))] (.seq (.seq .leaf (.cond .leaf .leaf)) (.seq (.block (.seq (.draw [0, 1, 2, 3, 4, 5, 6, 7, 8]) (.cond (.seq (.draw [0, 1, 2, 3, 4, 5, 6, 7, 8, 9]) .leaf) .leaf))) .leaf))))) (.seq .leaf .leaf))))
theorem t_integer_compare : Entry Go.Proofs.Tryz.prog 163 e_integer_compare false :=
  entry_of (C := c_integer_compare) (fn := Go.Proofs.Tryz.f163) (c := b_integer_compare) (an := a_integer_compare) ⟨t_cmp_Compare_int, t_cmp_Compare_uint32, trivial⟩ trivial Go.Proofs.Tryz.func163 rfl rfl (by decide) (fun _ => rfl) (by intro a K D; kernel_rfl)
noncomputable def A_integer_divideWord : ArgT (Sl × Int × Unit) := (ArgT.cons (Ty.leaf .sl) (ArgT.cons (Ty.leaf (.int .u32)) ArgT.nil))
noncomputable def R_integer_divideWord : Ty (Sl × Sl) := (Ty.tup (.cons (Ty.leaf .sl) (.cons (Ty.leaf .sl) .nil)) (fun x => (x.1, x.2, ())) (fun y => (y.1, y.2.1)) (fun _ => rfl) (fun _ => rfl))
noncomputable def e_integer_divideWord : FSem := mkE A_integer_divideWord R_integer_divideWord (fun a => F.integer_divideWord a.1 a.2.1)
noncomputable def c_integer_divideWord : Cfg := { P := Go.Proofs.Tryz.prog, n := 43, tab := [(139, e_integer_trim), (138, e_integer_fromUint)], mutL := [], rtL := [], locL := [] }
noncomputable def b_integer_divideWord : Code := match Go.Proofs.Tryz.f167.body with | some c => c | none => .skip
noncomputable def a_integer_divideWord : An := (.seq .leaf (.seq .leaf (.seq .leaf (.seq (.seq .leaf (.block (.loop [(7, .leaf (.int .u64)), (8, .leaf (.int .i64))] (.seq (.seq .leaf (.cond .leaf .leaf)) (.seq (.block (.seq .leaf (.seq .leaf .leaf))) .leaf))))) (.seq .leaf .leaf)))))
theorem t_integer_divideWord : Entry Go.Proofs.Tryz.prog 167 e_integer_divideWord false :=
  entry_of (C := c_integer_divideWord) (fn := Go.Proofs.Tryz.f167) (c := b_integer_divideWord) (an := a_integer_divideWord) ⟨t_integer_trim, t_integer_fromUint, trivial⟩ trivial Go.Proofs.Tryz.func167 rfl rfl (by decide) (fun _ => rfl) (by intro a K D; kernel_rfl)
noncomputable def A_math_bits_Len32 : ArgT (Int × Unit) := (ArgT.cons (Ty.leaf (.int .u32)) ArgT.nil)
noncomputable def R_math_bits_Len32 : Ty Int := (Ty.leaf (.int .i64))
noncomputable def e_math_bits_Len32 : FSem := mkE A_math_bits_Len32 R_math_bits_Len32 (fun a => F.math_bits_Len32 a.1)
noncomputable def c_math_bits_Len32 : Cfg := { P := Go.Proofs.Tryz.prog, n := 19, tab := [], mutL := [], rtL := [], locL := [] }
noncomputable def b_math_bits_Len32 : Code := match Go.Proofs.Tryz.f188.body with | some c => c | none => .skip
noncomputable def a_math_bits_Len32 : An := (.seq .leaf (.join [(0, .leaf (.int .u32)), (2, .leaf (.int .i64))] (.seq .leaf (.cond (.seq .leaf .leaf) .leaf)) (.join [(0, .leaf (.int .u32)), (2, .leaf (.int .i64))] (.seq .leaf (.cond (.seq .leaf .leaf) .leaf)) (.seq .leaf .leaf))))
theorem t_math_bits_Len32 : Entry Go.Proofs.Tryz.prog 188 e_math_bits_Len32 false :=
  entry_of (C := c_math_bits_Len32) (fn := Go.Proofs.Tryz.f188) (c := b_math_bits_Len32) (an := a_math_bits_Len32) trivial trivial Go.Proofs.Tryz.func188 rfl rfl (by decide) (fun _ => rfl) (by intro a K D; kernel_rfl)
noncomputable def A_math_bits_LeadingZeros32 : ArgT (Int × Unit) := (ArgT.cons (Ty.leaf (.int .u32)) ArgT.nil)
noncomputable def R_math_bits_LeadingZeros32 : Ty Int := (Ty.leaf (.int .i64))
noncomputable def e_math_bits_LeadingZeros32 : FSem := mkE A_math_bits_LeadingZeros32 R_math_bits_LeadingZeros32 (fun a => F.math_bits_LeadingZeros32 a.1)
noncomputable def c_math_bits_LeadingZeros32 : Cfg := { P := Go.Proofs.Tryz.prog, n := 6, tab := [(188, e_math_bits_Len32)], mutL := [], rtL := [], locL := [] }
noncomputable def b_math_bits_LeadingZeros32 : Code := match Go.Proofs.Tryz.f168.body with | some c => c | none => .skip
noncomputable def a_math_bits_LeadingZeros32 : An := (.seq .leaf (.seq .leaf .leaf))
theorem t_math_bits_LeadingZeros32 : Entry Go.Proofs.Tryz.prog 168 e_math_bits_LeadingZeros32 false :=
  entry_of (C := c_math_bits_LeadingZeros32) (fn := Go.Proofs.Tryz.f168) (c := b_math_bits_LeadingZeros32) (an := a_math_bits_LeadingZeros32) ⟨t_math_bits_Len32, trivial⟩ trivial Go.Proofs.Tryz.func168 rfl rfl (by decide) (fun _ => rfl) (by intro a K D; kernel_rfl)
noncomputable def A_integer_shiftLeft : ArgT (Sl × Int × Unit) := (ArgT.cons (Ty.leaf .sl) (ArgT.cons (Ty.leaf (.int .i64)) ArgT.nil))
noncomputable def R_integer_shiftLeft : Ty Sl := (Ty.leaf .sl)
noncomputable def e_integer_shiftLeft : FSem := mkE A_integer_shiftLeft R_integer_shiftLeft (fun a => F.integer_shiftLeft a.1 a.2.1)
noncomputable def c_integer_shiftLeft : Cfg := { P := Go.Proofs.Tryz.prog, n := 41, tab := [], mutL := [], rtL := [], locL := [] }
noncomputable def b_integer_shiftLeft : Code := match Go.Proofs.Tryz.f169.body with | some c => c | none => .skip
noncomputable def a_integer_shiftLeft : An := (.seq .leaf (.seq .leaf (.seq (.seq .leaf (.block (.loop [(15, .leaf (.int .i64))] (.seq .leaf (.seq (.cond .leaf .leaf) (.seq (.block (.seq .leaf (.seq .leaf (.seq .leaf .leaf)))) .leaf)))))) (.seq .leaf .leaf))))
theorem t_integer_shiftLeft : Entry Go.Proofs.Tryz.prog 169 e_integer_shiftLeft false :=
  entry_of (C := c_integer_shiftLeft) (fn := Go.Proofs.Tryz.f169) (c := b_integer_shiftLeft) (an := a_integer_shiftLeft) trivial trivial Go.Proofs.Tryz.func169 rfl rfl (by decide) (fun _ => rfl) (by intro a K D; kernel_rfl)
noncomputable def A_integer_subtract : ArgT (Sl × Sl × Int × Unit) := (ArgT.cons (Ty.leaf .sl) (ArgT.cons (Ty.leaf .sl) (ArgT.cons (Ty.leaf (.int .u64)) ArgT.nil)))
noncomputable def R_integer_subtract : Ty Bool := (Ty.leaf .bool)
noncomputable def e_integer_subtract : FSem := mkM A_integer_subtract R_integer_subtract (fun a => F.integer_subtract a.1 a.2.1 a.2.2.1)
noncomputable def c_integer_subtract : Cfg := { P := Go.Proofs.Tryz.prog, n := 63, tab := [], mutL := [], rtL := [], locL := [] }
noncomputable def b_integer_subtract : Code := match Go.Proofs.Tryz.f170.body with | some c => c | none => .skip
noncomputable def a_integer_subtract : An := (.seq .leaf (.seq .leaf (.seq (.seq .leaf (.block (.loop [(7, .leaf (.int .u64)), (15, .leaf (.int .i64))] (.seq .leaf (.seq (.cond .leaf .leaf) (.seq (.block (.seq .leaf (.seq .leaf (.seq .leaf (.seq .leaf .leaf))))) .leaf)))))) (.seq .leaf (.seq .leaf (.seq .leaf .leaf))))))
theorem t_integer_subtract : Entry Go.Proofs.Tryz.prog 170 e_integer_subtract true :=
  entryM_of (C := c_integer_subtract) (fn := Go.Proofs.Tryz.f170) (c := b_integer_subtract) (an := a_integer_subtract) trivial trivial Go.Proofs.Tryz.func170 rfl rfl (by decide) (fun _ => rfl) (by intro a K D; kernel_rfl)
noncomputable def A_integer_restore : ArgT (Sl × Sl × Unit) := (ArgT.cons (Ty.leaf .sl) (ArgT.cons (Ty.leaf .sl) ArgT.nil))
noncomputable def R_integer_restore : Ty Unit := Ty.unit
noncomputable def e_integer_restore : FSem := mkM A_integer_restore R_integer_restore (fun a => F.integer_restore a.1 a.2.1)
noncomputable def c_integer_restore : Cfg := { P := Go.Proofs.Tryz.prog, n := 41, tab := [], mutL := [], rtL := [], locL := [] }
noncomputable def b_integer_restore : Code := match Go.Proofs.Tryz.f171.body with | some c => c | none => .skip
noncomputable def a_integer_restore : An := (.seq .leaf (.seq (.seq .leaf (.block (.loop [(4, .leaf (.int .u64)), (9, .leaf (.int .i64))] (.seq .leaf (.seq (.cond .leaf .leaf) (.seq (.block (.seq .leaf (.seq .leaf (.seq .leaf .leaf)))) .leaf)))))) .leaf))
theorem t_integer_restore : Entry Go.Proofs.Tryz.prog 171 e_integer_restore true :=
  entryM_of (C := c_integer_restore) (fn := Go.Proofs.Tryz.f171) (c := b_integer_restore) (an := a_integer_restore) trivial trivial Go.Proofs.Tryz.func171 rfl rfl (by decide) (fun _ => rfl) (by intro a K D; kernel_rfl)
end Den
end

section
/- MADE BY fbuild.py: the entries of the functions. -/
set_option maxRecDepth 100000
set_option linter.unusedVariables false
namespace Den
open Go
noncomputable def A_integer_shiftRight : ArgT (Sl × Int × Unit) := (ArgT.cons (Ty.leaf .sl) (ArgT.cons (Ty.leaf (.int .i64)) ArgT.nil))
noncomputable def R_integer_shiftRight : Ty Sl := (Ty.leaf .sl)
noncomputable def e_integer_shiftRight : FSem := mkE A_integer_shiftRight R_integer_shiftRight (fun a => F.integer_shiftRight a.1 a.2.1)
noncomputable def c_integer_shiftRight : Cfg := { P := Go.Proofs.Tryz.prog, n := 47, tab := [], mutL := [], rtL := [], locL := [] }
noncomputable def b_integer_shiftRight : Code := match Go.Proofs.Tryz.f172.body with | some c => c | none => .skip
noncomputable def a_integer_shiftRight : An := (.seq .leaf (.seq .leaf (.seq (.seq .leaf (.block (.loop [(13, .leaf (.int .i64))] (.seq .leaf (.seq (.cond .leaf .leaf) (.join [] (.block (.seq .leaf (.seq .leaf (.seq .leaf (.cond (.draw [0, 1, 2, 3, 4, 5, 6, 7, 8, 9, 10, 11, 12, 13, 14, 15, 16]) .leaf))))) .leaf)))))) (.seq .leaf .leaf))))
theorem t_integer_shiftRight : Entry Go.Proofs.Tryz.prog 172 e_integer_shiftRight false :=
  entry_of (C := c_integer_shiftRight) (fn := Go.Proofs.Tryz.f172) (c := b_integer_shiftRight) (an := a_integer_shiftRight) trivial trivial Go.Proofs.Tryz.func172 rfl rfl (by decide) (fun _ => rfl) (by intro a K D; kernel_rfl)
noncomputable def A_integer_divide : ArgT (Sl × Sl × Unit) := (ArgT.cons (Ty.leaf .sl) (ArgT.cons (Ty.leaf .sl) ArgT.nil))
noncomputable def R_integer_divide : Ty (Sl × Sl) := (Ty.tup (.cons (Ty.leaf .sl) (.cons (Ty.leaf .sl) .nil)) (fun x => (x.1, x.2, ())) (fun y => (y.1, y.2.1)) (fun _ => rfl) (fun _ => rfl))
noncomputable def e_integer_divide : FSem := mkE A_integer_divide R_integer_divide (fun a => F.integer_divide a.1 a.2.1)
noncomputable def c_integer_divide : Cfg := { P := Go.Proofs.Tryz.prog, n := 177, tab := [(163, e_integer_compare), (143, e_slices_Clone_uint32_uint32), (144, e_integer_toUint), (138, e_integer_fromUint), (167, e_integer_divideWord), (168, e_math_bits_LeadingZeros32), (169, e_integer_shiftLeft), (139, e_integer_trim), (170, e_integer_subtract), (171, e_integer_restore), (172, e_integer_shiftRight)], mutL := [170, 171], rtL := [], locL := [] }
noncomputable def b_integer_divide : Code := match Go.Proofs.Tryz.f140.body with | some c => c | none => .skip
noncomputable def a_integer_divide : An := (.seq .leaf (.seq (.block (.seq .leaf (.cond (.seq .leaf .leaf) (.seq .leaf (.cond (.seq .leaf (.seq (.draw [0, 1, 2, 4, 5, 6, 3, 7, 8, 9]) .leaf)) (.seq .leaf (.cond (.seq .leaf .leaf) .leaf))))))) (.seq .leaf (.seq .leaf (.seq .leaf (.seq .leaf (.seq (.draw [0, 1, 2, 3, 4, 5, 6, 7, 8, 9, 10, 11, 12, 13]) (.seq (.seq .leaf (.block (.loop [(15, .leaf (.int .i64))] (.seq (.seq .leaf (.cond .leaf .leaf)) (.seq (.block (.seq (.draw [0, 1, 2, 3, 4, 5, 6, 7, 8, 9, 10, 11, 12, 13, 14, 15, 16, 17]) (.seq (.draw [0, 1, 2, 3, 4, 5, 6, 7]) (.join [(17, .leaf (.int .u64))] (.block (.loop [(17, .leaf (.int .u64)), (18, .leaf (.int .u64))] (.join [] (.seq .leaf (.cond .leaf .leaf)) (.block (.seq .leaf (.seq .leaf (.seq .leaf (.cond .leaf .leaf)))))))) (.join [(17, .leaf (.int .u64))] (.seq .leaf (.cond (.seq .leaf .leaf) .leaf)) .leaf))))) .leaf))))) (.seq (.draw [0, 2, 3, 4, 6, 1, 5, 7, 8, 9, 10]) .leaf)))))))))
theorem t_integer_divide : Entry Go.Proofs.Tryz.prog 140 e_integer_divide false :=
  entry_of (C := c_integer_divide) (fn := Go.Proofs.Tryz.f140) (c := b_integer_divide) (an := a_integer_divide) ⟨t_integer_compare, t_slices_Clone_uint32_uint32, t_integer_toUint, t_integer_fromUint, t_integer_divideWord, t_math_bits_LeadingZeros32, t_integer_shiftLeft, t_integer_trim, t_integer_subtract, t_integer_restore, t_integer_shiftRight, trivial⟩ trivial Go.Proofs.Tryz.func140 rfl rfl (by decide) (fun _ => rfl) (by intro a K D; kernel_rfl)
noncomputable def A_integer_GCD : ArgT (TInt × TInt × Unit) := (ArgT.cons tyTInt (ArgT.cons tyTInt ArgT.nil))
noncomputable def R_integer_GCD : Ty TInt := tyTInt
noncomputable def e_integer_GCD : FSem := mkE A_integer_GCD R_integer_GCD (fun a => F.integer_GCD a.1 a.2.1)
noncomputable def c_integer_GCD : Cfg := { P := Go.Proofs.Tryz.prog, n := 57, tab := [(139, e_integer_trim), (143, e_slices_Clone_uint32_uint32), (137, e_integer_signed), (144, e_integer_toUint), (138, e_integer_fromUint), (140, e_integer_divide)], mutL := [], rtL := [(11, 2), (14, 3)], locL := [2, 3, 4] }
noncomputable def b_integer_GCD : Code := match Go.Proofs.Tryz.f86.body with | some c => c | none => .skip
noncomputable def a_integer_GCD : An := (.seq .leaf (.seq (.draw [0, 1, 3, 4, 2, 5, 6, 7]) (.join [(5, .leaf (.sl)), (6, .leaf (.sl))] (.block (.loop [(5, .leaf (.sl)), (6, .leaf (.sl))] (.join [] (.seq .leaf (.cond .leaf .leaf)) (.block (.seq .leaf .leaf))))) (.seq (.seq .leaf (.cond (.seq .leaf .leaf) .leaf)) (.seq .leaf (.seq (.block (.loop [(9, .leaf (.int .u64)), (10, .leaf (.int .u64))] (.seq (.seq .leaf (.cond .leaf .leaf)) (.block (.draw [0, 1, 2, 3, 4, 5]))))) (.seq .leaf .leaf)))))))
theorem t_integer_GCD : Entry Go.Proofs.Tryz.prog 86 e_integer_GCD false :=
  entry_of (C := c_integer_GCD) (fn := Go.Proofs.Tryz.f86) (c := b_integer_GCD) (an := a_integer_GCD) ⟨t_integer_trim, t_slices_Clone_uint32_uint32, t_integer_signed, t_integer_toUint, t_integer_fromUint, t_integer_divide, trivial⟩ trivial Go.Proofs.Tryz.func86 rfl rfl (by decide) (fun _ => rfl) (by intro a K D; kernel_rfl)
noncomputable def A_rational_isOne : ArgT (TInt × Unit) := (ArgT.cons tyTInt ArgT.nil)
noncomputable def R_rational_isOne : Ty Bool := (Ty.leaf .bool)
noncomputable def e_rational_isOne : FSem := mkE A_rational_isOne R_rational_isOne (fun a => F.rational_isOne a.1)
noncomputable def c_rational_isOne : Cfg := { P := Go.Proofs.Tryz.prog, n := 19, tab := [], mutL := [], rtL := [(3, 1), (7, 1), (13, 1)], locL := [1] }
noncomputable def b_rational_isOne : Code := match Go.Proofs.Tryz.f127.body with | some c => c | none => .skip
noncomputable def a_rational_isOne : An := (.seq .leaf (.seq .leaf .leaf))
theorem t_rational_isOne : Entry Go.Proofs.Tryz.prog 127 e_rational_isOne false :=
  entry_of (C := c_rational_isOne) (fn := Go.Proofs.Tryz.f127) (c := b_rational_isOne) (an := a_rational_isOne) trivial trivial Go.Proofs.Tryz.func127 rfl rfl (by decide) (fun _ => rfl) (by intro a K D; kernel_rfl)
noncomputable def A_integer_plus : ArgT (Sl × Sl × Unit) := (ArgT.cons (Ty.leaf .sl) (ArgT.cons (Ty.leaf .sl) ArgT.nil))
noncomputable def R_integer_plus : Ty Sl := (Ty.leaf .sl)
noncomputable def e_integer_plus : FSem := mkE A_integer_plus R_integer_plus (fun a => F.integer_plus a.1 a.2.1)
noncomputable def c_integer_plus : Cfg := { P := Go.Proofs.Tryz.prog, n := 58, tab := [], mutL := [], rtL := [], locL := [45, 55] }
noncomputable def b_integer_plus : Code := match Go.Proofs.Tryz.f141.body with | some c => c | none => .skip
noncomputable def a_integer_plus : An := (.seq .leaf (.join [(0, .leaf (.sl)), (1, .leaf (.sl))] (.seq .leaf (.cond .leaf .leaf)) (.seq .leaf (.seq .leaf (.seq (.seq .leaf (.block (.loop [(5, .leaf (.sl)), (6, .leaf (.int .u64)), (22, .leaf (.int .i64))] (.seq .leaf (.seq (.cond .leaf .leaf) (.seq (.block (.seq .leaf (.seq .leaf (.join [(6, .leaf (.int .u64))] (.seq .leaf (.cond .leaf .leaf)) (.seq .leaf .leaf))))) .leaf)))))) (.seq (.seq .leaf (.cond .leaf .leaf)) (.seq .leaf .leaf)))))))
theorem t_integer_plus : Entry Go.Proofs.Tryz.prog 141 e_integer_plus false :=
  entry_of (C := c_integer_plus) (fn := Go.Proofs.Tryz.f141) (c := b_integer_plus) (an := a_integer_plus) trivial trivial Go.Proofs.Tryz.func141 rfl rfl (by decide) (fun _ => rfl) (by intro a K D; kernel_rfl)
noncomputable def A_integer_minus : ArgT (Sl × Sl × Unit) := (ArgT.cons (Ty.leaf .sl) (ArgT.cons (Ty.leaf .sl) ArgT.nil))
noncomputable def R_integer_minus : Ty Sl := (Ty.leaf .sl)
noncomputable def e_integer_minus : FSem := mkE A_integer_minus R_integer_minus (fun a => F.integer_minus a.1 a.2.1)
noncomputable def c_integer_minus : Cfg := { P := Go.Proofs.Tryz.prog, n := 45, tab := [(139, e_integer_trim)], mutL := [], rtL := [], locL := [] }
noncomputable def b_integer_minus : Code := match Go.Proofs.Tryz.f142.body with | some c => c | none => .skip
noncomputable def a_integer_minus : An := (.seq .leaf (.seq .leaf (.seq .leaf (.seq (.seq .leaf (.block (.loop [(6, .leaf (.int .u64)), (15, .leaf (.int .i64))] (.seq .leaf (.seq (.cond .leaf .leaf) (.seq (.block (.seq .leaf (.seq .leaf (.join [(9, .leaf (.int .u64))] (.seq .leaf (.cond .leaf .leaf)) (.seq .leaf .leaf))))) .leaf)))))) (.seq .leaf .leaf)))))
theorem t_integer_minus : Entry Go.Proofs.Tryz.prog 142 e_integer_minus false :=
  entry_of (C := c_integer_minus) (fn := Go.Proofs.Tryz.f142) (c := b_integer_minus) (an := a_integer_minus) ⟨t_integer_trim, trivial⟩ trivial Go.Proofs.Tryz.func142 rfl rfl (by decide) (fun _ => rfl) (by intro a K D; kernel_rfl)
noncomputable def A_integer_DivMod : ArgT (TInt × TInt × Unit) := (ArgT.cons tyTInt (ArgT.cons tyTInt ArgT.nil))
noncomputable def R_integer_DivMod : Ty (TInt × TInt × Int) := (Ty.tup (.cons tyTInt (.cons tyTInt (.cons (Ty.leaf (.int .i64)) .nil))) (fun x => (x.1, x.2.1, x.2.2, ())) (fun y => (y.1, y.2.1, y.2.2.1)) (fun _ => rfl) (fun _ => rfl))
noncomputable def e_integer_DivMod : FSem := mkE A_integer_DivMod R_integer_DivMod (fun a => F.integer_DivMod a.1 a.2.1)
noncomputable def c_integer_DivMod : Cfg := { P := Go.Proofs.Tryz.prog, n := 53, tab := [(139, e_integer_trim), (140, e_integer_divide), (137, e_integer_signed), (141, e_integer_plus), (142, e_integer_minus)], mutL := [], rtL := [(10, 3), (19, 2), (26, 2), (28, 3), (42, 2), (44, 3), (49, 3)], locL := [2, 3, 4, 5] }
noncomputable def b_integer_DivMod : Code := match Go.Proofs.Tryz.f85.body with | some c => c | none => .skip
noncomputable def a_integer_DivMod : An := (.seq .leaf (.seq .leaf (.seq (.seq .leaf (.cond (.seq .leaf .leaf) .leaf)) (.seq .leaf (.join [(8, .leaf (.sl)), (9, .leaf (.sl))] (.seq .leaf (.cond (.seq .leaf .leaf) .leaf)) (.seq (.draw [0, 1, 2, 3, 4, 5, 7, 8, 9, 6, 10, 11, 12, 13]) .leaf))))))
theorem t_integer_DivMod : Entry Go.Proofs.Tryz.prog 85 e_integer_DivMod false :=
  entry_of (C := c_integer_DivMod) (fn := Go.Proofs.Tryz.f85) (c := b_integer_DivMod) (an := a_integer_DivMod) ⟨t_integer_trim, t_integer_divide, t_integer_signed, t_integer_plus, t_integer_minus, trivial⟩ trivial Go.Proofs.Tryz.func85 rfl rfl (by decide) (fun _ => rfl) (by intro a K D; kernel_rfl)
noncomputable def A_rational_quo : ArgT (TInt × TInt × Unit) := (ArgT.cons tyTInt (ArgT.cons tyTInt ArgT.nil))
noncomputable def R_rational_quo : Ty TInt := tyTInt
noncomputable def e_rational_quo : FSem := mkE A_rational_quo R_rational_quo (fun a => F.rational_quo a.1 a.2.1)
noncomputable def c_rational_quo : Cfg := { P := Go.Proofs.Tryz.prog, n := 19, tab := [(127, e_rational_isOne), (85, e_integer_DivMod)], mutL := [], rtL := [], locL := [2, 3, 4, 5, 6] }
noncomputable def b_rational_quo : Code := match Go.Proofs.Tryz.f164.body with | some c => c | none => .skip
noncomputable def a_rational_quo : An := (.seq .leaf (.seq (.seq .leaf (.cond (.seq .leaf .leaf) .leaf)) (.seq .leaf (.seq .leaf .leaf))))
theorem t_rational_quo : Entry Go.Proofs.Tryz.prog 164 e_rational_quo false :=
  entry_of (C := c_rational_quo) (fn := Go.Proofs.Tryz.f164) (c := b_rational_quo) (an := a_rational_quo) ⟨t_rational_isOne, t_integer_DivMod, trivial⟩ trivial Go.Proofs.Tryz.func164 rfl rfl (by decide) (fun _ => rfl) (by intro a K D; kernel_rfl)
noncomputable def A_integer_Neg : ArgT (TInt × Unit) := (ArgT.cons tyTInt ArgT.nil)
noncomputable def R_integer_Neg : Ty TInt := tyTInt
noncomputable def e_integer_Neg : FSem := mkE A_integer_Neg R_integer_Neg (fun a => F.integer_Neg a.1)
noncomputable def c_integer_Neg : Cfg := { P := Go.Proofs.Tryz.prog, n := 11, tab := [(139, e_integer_trim), (143, e_slices_Clone_uint32_uint32), (137, e_integer_signed)], mutL := [], rtL := [(3, 1), (6, 1)], locL := [1, 2] }
noncomputable def b_integer_Neg : Code := match Go.Proofs.Tryz.f154.body with | some c => c | none => .skip
noncomputable def a_integer_Neg : An := (.seq .leaf (.seq (.draw [0, 1, 2, 3, 4, 5, 6, 7, 8]) .leaf))
theorem t_integer_Neg : Entry Go.Proofs.Tryz.prog 154 e_integer_Neg false :=
  entry_of (C := c_integer_Neg) (fn := Go.Proofs.Tryz.f154) (c := b_integer_Neg) (an := a_integer_Neg) ⟨t_integer_trim, t_slices_Clone_uint32_uint32, t_integer_signed, trivial⟩ trivial Go.Proofs.Tryz.func154 rfl rfl (by decide) (fun _ => rfl) (by intro a K D; kernel_rfl)
noncomputable def A_rational_lowest : ArgT (TInt × TInt × Unit) := (ArgT.cons tyTInt (ArgT.cons tyTInt ArgT.nil))
noncomputable def R_rational_lowest : Ty TRat := tyTRat
noncomputable def e_rational_lowest : FSem := mkE A_rational_lowest R_rational_lowest (fun a => F.rational_lowest a.1 a.2.1)
noncomputable def c_rational_lowest : Cfg := { P := Go.Proofs.Tryz.prog, n := 20, tab := [(86, e_integer_GCD), (164, e_rational_quo), (154, e_integer_Neg)], mutL := [], rtL := [(9, 3)], locL := [2, 3, 4, 5] }
noncomputable def b_rational_lowest : Code := match Go.Proofs.Tryz.f130.body with | some c => c | none => .skip
noncomputable def a_rational_lowest : An := (.seq .leaf (.seq .leaf (.join [(5, .box [.bool, .sl])] (.seq .leaf (.cond .leaf .leaf)) (.seq (.draw [0, 1, 3, 4, 2, 5, 6, 7]) .leaf))))
theorem t_rational_lowest : Entry Go.Proofs.Tryz.prog 130 e_rational_lowest false :=
  entry_of (C := c_rational_lowest) (fn := Go.Proofs.Tryz.f130) (c := b_rational_lowest) (an := a_rational_lowest) ⟨t_integer_GCD, t_rational_quo, t_integer_Neg, trivial⟩ trivial Go.Proofs.Tryz.func130 rfl rfl (by decide) (fun _ => rfl) (by intro a K D; kernel_rfl)
noncomputable def A_rational_Div : ArgT (TRat × TRat × Unit) := (ArgT.cons tyTRat (ArgT.cons tyTRat ArgT.nil))
noncomputable def R_rational_Div : Ty (TRat × Int) := (Ty.tup (.cons tyTRat (.cons (Ty.leaf (.int .i64)) .nil)) (fun x => (x.1, x.2, ())) (fun y => (y.1, y.2.1)) (fun _ => rfl) (fun _ => rfl))
noncomputable def e_rational_Div : FSem := mkE A_rational_Div R_rational_Div (fun a => F.rational_Div a.1 a.2.1)
noncomputable def c_rational_Div : Cfg := { P := Go.Proofs.Tryz.prog, n := 21, tab := [(165, e_rational_isZero), (87, e_integer_Mul), (130, e_rational_lowest)], mutL := [], rtL := [(6, 3), (10, 2), (12, 3), (15, 2), (17, 3)], locL := [2, 3, 4] }
noncomputable def b_rational_Div : Code := match Go.Proofs.Tryz.f131.body with | some c => c | none => .skip
noncomputable def a_rational_Div : An := (.seq .leaf (.seq (.seq .leaf (.cond (.seq .leaf .leaf) .leaf)) (.seq (.draw [0, 1, 2, 3, 5, 6, 7, 8, 4, 9, 10, 11, 12]) .leaf)))
theorem t_rational_Div : Entry Go.Proofs.Tryz.prog 131 e_rational_Div false :=
  entry_of (C := c_rational_Div) (fn := Go.Proofs.Tryz.f131) (c := b_rational_Div) (an := a_rational_Div) ⟨t_rational_isZero, t_integer_Mul, t_rational_lowest, trivial⟩ trivial Go.Proofs.Tryz.func131 rfl rfl (by decide) (fun _ => rfl) (by intro a K D; kernel_rfl)
noncomputable def A_rational_Mul : ArgT (TRat × TRat × Unit) := (ArgT.cons tyTRat (ArgT.cons tyTRat ArgT.nil))
noncomputable def R_rational_Mul : Ty TRat := tyTRat
noncomputable def e_rational_Mul : FSem := mkE A_rational_Mul R_rational_Mul (fun a => F.rational_Mul a.1 a.2.1)
noncomputable def c_rational_Mul : Cfg := { P := Go.Proofs.Tryz.prog, n := 31, tab := [(87, e_integer_Mul), (130, e_rational_lowest), (127, e_rational_isOne), (129, e_rational_one)], mutL := [], rtL := [(5, 2), (9, 3), (13, 2), (15, 3), (20, 2), (22, 3), (25, 2), (27, 3)], locL := [2, 3, 4] }
noncomputable def b_rational_Mul : Code := match Go.Proofs.Tryz.f75.body with | some c => c | none => .skip
noncomputable def a_rational_Mul : An := (.seq .leaf (.join [(4, .box [.bool, .sl, .bool, .sl])] (.seq .leaf (.cond (.seq .leaf .leaf) .leaf)) (.seq (.draw [0, 1, 2, 3, 5, 6, 7, 8, 4, 9, 10, 11]) .leaf)))
theorem t_rational_Mul : Entry Go.Proofs.Tryz.prog 75 e_rational_Mul false :=
  entry_of (C := c_rational_Mul) (fn := Go.Proofs.Tryz.f75) (c := b_rational_Mul) (an := a_rational_Mul) ⟨t_integer_Mul, t_rational_lowest, t_rational_isOne, t_rational_one, trivial⟩ trivial Go.Proofs.Tryz.func75 rfl rfl (by decide) (fun _ => rfl) (by intro a K D; kernel_rfl)
noncomputable def A_rational_Neg : ArgT (TRat × Unit) := (ArgT.cons tyTRat ArgT.nil)
noncomputable def R_rational_Neg : Ty TRat := tyTRat
noncomputable def e_rational_Neg : FSem := mkE A_rational_Neg R_rational_Neg (fun a => F.rational_Neg a.1)
noncomputable def c_rational_Neg : Cfg := { P := Go.Proofs.Tryz.prog, n := 9, tab := [(154, e_integer_Neg)], mutL := [], rtL := [(3, 1), (6, 1)], locL := [1, 2] }
noncomputable def b_rational_Neg : Code := match Go.Proofs.Tryz.f97.body with | some c => c | none => .skip
noncomputable def a_rational_Neg : An := (.seq .leaf (.seq (.draw [0, 1, 3, 4, 2, 5, 6]) .leaf))
theorem t_rational_Neg : Entry Go.Proofs.Tryz.prog 97 e_rational_Neg false :=
  entry_of (C := c_rational_Neg) (fn := Go.Proofs.Tryz.f97) (c := b_rational_Neg) (an := a_rational_Neg) ⟨t_integer_Neg, trivial⟩ trivial Go.Proofs.Tryz.func97 rfl rfl (by decide) (fun _ => rfl) (by intro a K D; kernel_rfl)
noncomputable def A_integer_Add : ArgT (TInt × TInt × Unit) := (ArgT.cons tyTInt (ArgT.cons tyTInt ArgT.nil))
noncomputable def R_integer_Add : Ty TInt := tyTInt
noncomputable def e_integer_Add : FSem := mkE A_integer_Add R_integer_Add (fun a => F.integer_Add a.1 a.2.1)
noncomputable def c_integer_Add : Cfg := { P := Go.Proofs.Tryz.prog, n := 40, tab := [(139, e_integer_trim), (141, e_integer_plus), (137, e_integer_signed), (163, e_integer_compare), (142, e_integer_minus)], mutL := [], rtL := [(7, 2), (10, 3), (13, 2), (15, 3), (18, 2), (28, 3), (34, 2)], locL := [2, 3, 4] }
noncomputable def b_integer_Add : Code := match Go.Proofs.Tryz.f128.body with | some c => c | none => .skip
noncomputable def a_integer_Add : An := (.seq .leaf (.seq (.draw [0, 1, 3, 4, 2, 5, 6, 7]) (.seq (.seq .leaf (.cond (.seq (.draw [0, 1, 2, 3, 4, 5, 6]) .leaf) .leaf)) (.seq (.seq .leaf (.cond (.seq (.draw [0, 1, 2, 3, 4, 5, 6]) .leaf) .leaf)) (.seq (.draw [0, 1, 2, 3, 4, 5, 6]) .leaf)))))
theorem t_integer_Add : Entry Go.Proofs.Tryz.prog 128 e_integer_Add false :=
  entry_of (C := c_integer_Add) (fn := Go.Proofs.Tryz.f128) (c := b_integer_Add) (an := a_integer_Add) ⟨t_integer_trim, t_integer_plus, t_integer_signed, t_integer_compare, t_integer_minus, trivial⟩ trivial Go.Proofs.Tryz.func128 rfl rfl (by decide) (fun _ => rfl) (by intro a K D; kernel_rfl)
noncomputable def A_rational_Add : ArgT (TRat × TRat × Unit) := (ArgT.cons tyTRat (ArgT.cons tyTRat ArgT.nil))
noncomputable def R_rational_Add : Ty TRat := tyTRat
noncomputable def e_rational_Add : FSem := mkE A_rational_Add R_rational_Add (fun a => F.rational_Add a.1 a.2.1)
noncomputable def c_rational_Add : Cfg := { P := Go.Proofs.Tryz.prog, n := 39, tab := [(87, e_integer_Mul), (128, e_integer_Add), (130, e_rational_lowest), (127, e_rational_isOne), (129, e_rational_one)], mutL := [], rtL := [(6, 2), (10, 3), (14, 2), (16, 3), (21, 2), (23, 3), (26, 3), (28, 2), (33, 2), (35, 3)], locL := [2, 3, 4, 5] }
noncomputable def b_rational_Add : Code := match Go.Proofs.Tryz.f74.body with | some c => c | none => .skip
noncomputable def a_rational_Add : An := (.seq .leaf (.join [(4, .box [.bool, .sl, .bool, .sl])] (.seq .leaf (.cond (.seq .leaf .leaf) .leaf)) (.seq (.draw [0, 1, 2, 3, 5, 6, 7, 8, 11, 4, 9, 10, 12]) (.seq (.draw [0, 1, 2, 3, 4, 5, 6, 7]) .leaf))))
theorem t_rational_Add : Entry Go.Proofs.Tryz.prog 74 e_rational_Add false :=
  entry_of (C := c_rational_Add) (fn := Go.Proofs.Tryz.f74) (c := b_rational_Add) (an := a_rational_Add) ⟨t_integer_Mul, t_integer_Add, t_rational_lowest, t_rational_isOne, t_rational_one, trivial⟩ trivial Go.Proofs.Tryz.func74 rfl rfl (by decide) (fun _ => rfl) (by intro a K D; kernel_rfl)
noncomputable def A_rational_Sub : ArgT (TRat × TRat × Unit) := (ArgT.cons tyTRat (ArgT.cons tyTRat ArgT.nil))
noncomputable def R_rational_Sub : Ty TRat := tyTRat
noncomputable def e_rational_Sub : FSem := mkE A_rational_Sub R_rational_Sub (fun a => F.rational_Sub a.1 a.2.1)
noncomputable def c_rational_Sub : Cfg := { P := Go.Proofs.Tryz.prog, n := 9, tab := [(97, e_rational_Neg), (74, e_rational_Add)], mutL := [], rtL := [], locL := [2, 3, 4] }
noncomputable def b_rational_Sub : Code := match Go.Proofs.Tryz.f132.body with | some c => c | none => .skip
noncomputable def a_rational_Sub : An := (.seq .leaf (.seq (.draw [0, 1, 2, 3, 4]) .leaf))
theorem t_rational_Sub : Entry Go.Proofs.Tryz.prog 132 e_rational_Sub false :=
  entry_of (C := c_rational_Sub) (fn := Go.Proofs.Tryz.f132) (c := b_rational_Sub) (an := a_rational_Sub) ⟨t_rational_Neg, t_rational_Add, trivial⟩ trivial Go.Proofs.Tryz.func132 rfl rfl (by decide) (fun _ => rfl) (by intro a K D; kernel_rfl)
noncomputable def A_polynomial_divide : ArgT (Sl × Sl × Unit) := (ArgT.cons (Ty.leaf .sl) (ArgT.cons (Ty.leaf .sl) ArgT.nil))
noncomputable def R_polynomial_divide : Ty (Sl × Sl) := (Ty.tup (.cons (Ty.leaf .sl) (.cons (Ty.leaf .sl) .nil)) (fun x => (x.1, x.2, ())) (fun y => (y.1, y.2.1)) (fun _ => rfl) (fun _ => rfl))
noncomputable def e_polynomial_divide : FSem := mkE A_polynomial_divide R_polynomial_divide (fun a => F.polynomial_divide a.1 a.2.1)
noncomputable def c_polynomial_divide : Cfg := { P := Go.Proofs.Tryz.prog, n := 83, tab := [(38, e_polynomial_Trim), (73, e_polynomial_zeros), (131, e_rational_Div), (75, e_rational_Mul), (132, e_rational_Sub)], mutL := [], rtL := [], locL := [10] }
noncomputable def b_polynomial_divide : Code := match Go.Proofs.Tryz.f77.body with | some c => c | none => .skip
noncomputable def a_polynomial_divide : An := (.seq .leaf (.seq .leaf (.seq .leaf (.seq .leaf (.seq (.seq .leaf (.block (.loop [(8, .leaf (.int .i64))] (.seq (.seq .leaf (.cond .leaf .leaf)) (.seq (.block (.seq (.draw [0, 1, 2, 3, 4, 5, 6, 7, 8, 9, 10, 11, 12, 13, 14, 15, 16, 17, 18, 19, 20, 21]) (.seq .leaf (.block (.loop [(55, .leaf (.int .i64))] (.seq .leaf (.seq (.cond .leaf .leaf) (.seq (.block (.seq .leaf (.draw [0, 1, 2, 3, 4, 5, 6, 7, 8, 9, 10, 11, 12, 13, 14, 15, 16, 17, 18]))) .leaf)))))))) .leaf))))) (.seq .leaf .leaf))))))
theorem t_polynomial_divide : Entry Go.Proofs.Tryz.prog 77 e_polynomial_divide false :=
  entry_of (C := c_polynomial_divide) (fn := Go.Proofs.Tryz.f77) (c := b_polynomial_divide) (an := a_polynomial_divide) ⟨t_polynomial_Trim, t_polynomial_zeros, t_rational_Div, t_rational_Mul, t_rational_Sub, trivial⟩ trivial Go.Proofs.Tryz.func77 rfl rfl (by decide) (fun _ => rfl) (by intro a K D; kernel_rfl)
noncomputable def A_polynomial_DivMod : ArgT (Sl × Sl × Unit) := (ArgT.cons (Ty.leaf .sl) (ArgT.cons (Ty.leaf .sl) ArgT.nil))
noncomputable def R_polynomial_DivMod : Ty (Sl × Sl × Int) := (Ty.tup (.cons (Ty.leaf .sl) (.cons (Ty.leaf .sl) (.cons (Ty.leaf (.int .i64)) .nil))) (fun x => (x.1, x.2.1, x.2.2, ())) (fun y => (y.1, y.2.1, y.2.2.1)) (fun _ => rfl) (fun _ => rfl))
noncomputable def e_polynomial_DivMod : FSem := mkE A_polynomial_DivMod R_polynomial_DivMod (fun a => F.polynomial_DivMod a.1 a.2.1)
noncomputable def c_polynomial_DivMod : Cfg := { P := Go.Proofs.Tryz.prog, n := 20, tab := [(39, e_polynomial_Degree), (77, e_polynomial_divide)], mutL := [], rtL := [], locL := [] }
noncomputable def b_polynomial_DivMod : Code := match Go.Proofs.Tryz.f22.body with | some c => c | none => .skip
noncomputable def a_polynomial_DivMod : An := (.seq .leaf (.seq (.seq .leaf (.cond (.seq .leaf .leaf) .leaf)) (.seq .leaf (.seq .leaf .leaf))))
theorem t_polynomial_DivMod : Entry Go.Proofs.Tryz.prog 22 e_polynomial_DivMod false :=
  entry_of (C := c_polynomial_DivMod) (fn := Go.Proofs.Tryz.f22) (c := b_polynomial_DivMod) (an := a_polynomial_DivMod) ⟨t_polynomial_Degree, t_polynomial_divide, trivial⟩ trivial Go.Proofs.Tryz.func22 rfl rfl (by decide) (fun _ => rfl) (by intro a K D; kernel_rfl)
noncomputable def A_polynomial_Scale : ArgT (Sl × TRat × Unit) := (ArgT.cons (Ty.leaf .sl) (ArgT.cons tyTRat ArgT.nil))
noncomputable def R_polynomial_Scale : Ty Sl := (Ty.leaf .sl)
noncomputable def e_polynomial_Scale : FSem := mkE A_polynomial_Scale R_polynomial_Scale (fun a => F.polynomial_Scale a.1 a.2.1)
noncomputable def c_polynomial_Scale : Cfg := { P := Go.Proofs.Tryz.prog, n := 27, tab := [(75, e_rational_Mul), (38, e_polynomial_Trim)], mutL := [], rtL := [], locL := [3, 7] }
noncomputable def b_polynomial_Scale : Code := match Go.Proofs.Tryz.f43.body with | some c => c | none => .skip
noncomputable def a_polynomial_Scale : An := (.seq .leaf (.seq .leaf (.seq (.seq .leaf (.block (.loop [(13, .leaf (.int .i64))] (.seq .leaf (.seq (.cond .leaf .leaf) (.seq (.block (.seq .leaf .leaf)) .leaf)))))) (.seq .leaf .leaf))))
theorem t_polynomial_Scale : Entry Go.Proofs.Tryz.prog 43 e_polynomial_Scale false :=
  entry_of (C := c_polynomial_Scale) (fn := Go.Proofs.Tryz.f43) (c := b_polynomial_Scale) (an := a_polynomial_Scale) ⟨t_rational_Mul, t_polynomial_Trim, trivial⟩ trivial Go.Proofs.Tryz.func43 rfl rfl (by decide) (fun _ => rfl) (by intro a K D; kernel_rfl)
noncomputable def A_polynomial_monic : ArgT (Sl × Unit) := (ArgT.cons (Ty.leaf .sl) ArgT.nil)
noncomputable def R_polynomial_monic : Ty Sl := (Ty.leaf .sl)
noncomputable def e_polynomial_monic : FSem := mkE A_polynomial_monic R_polynomial_monic (fun a => F.polynomial_monic a.1)
noncomputable def c_polynomial_monic : Cfg := { P := Go.Proofs.Tryz.prog, n := 24, tab := [(38, e_polynomial_Trim), (79, e_rational_FromInt), (131, e_rational_Div), (43, e_polynomial_Scale)], mutL := [], rtL := [], locL := [3] }
noncomputable def b_polynomial_monic : Code := match Go.Proofs.Tryz.f83.body with | some c => c | none => .skip
noncomputable def a_polynomial_monic : An := (.seq .leaf (.seq .leaf (.seq (.seq .leaf (.cond (.seq .leaf .leaf) .leaf)) (.seq (.draw [1, 2, 3, 4, 5, 6, 11, 0, 7, 8, 9, 10, 12, 13]) (.seq .leaf .leaf)))))
theorem t_polynomial_monic : Entry Go.Proofs.Tryz.prog 83 e_polynomial_monic false :=
  entry_of (C := c_polynomial_monic) (fn := Go.Proofs.Tryz.f83) (c := b_polynomial_monic) (an := a_polynomial_monic) ⟨t_polynomial_Trim, t_rational_FromInt, t_rational_Div, t_polynomial_Scale, trivial⟩ trivial Go.Proofs.Tryz.func83 rfl rfl (by decide) (fun _ => rfl) (by intro a K D; kernel_rfl)
noncomputable def A_polynomial_Derivative : ArgT (Sl × Unit) := (ArgT.cons (Ty.leaf .sl) ArgT.nil)
noncomputable def R_polynomial_Derivative : Ty Sl := (Ty.leaf .sl)
noncomputable def e_polynomial_Derivative : FSem := mkE A_polynomial_Derivative R_polynomial_Derivative (fun a => F.polynomial_Derivative a.1)
noncomputable def c_polynomial_Derivative : Cfg := { P := Go.Proofs.Tryz.prog, n := 25, tab := [(79, e_rational_FromInt), (75, e_rational_Mul), (38, e_polynomial_Trim)], mutL := [], rtL := [], locL := [5, 20] }
noncomputable def b_polynomial_Derivative : Code := match Go.Proofs.Tryz.f26.body with | some c => c | none => .skip
noncomputable def a_polynomial_Derivative : An := (.seq .leaf (.seq .leaf (.seq (.seq .leaf (.block (.loop [(3, .leaf (.sl)), (8, .leaf (.int .i64))] (.seq .leaf (.seq (.cond .leaf .leaf) (.join [(3, .leaf (.sl))] (.block (.seq .leaf (.seq .leaf (.cond (.draw [0, 1, 2, 3, 4, 5, 6, 7]) .leaf)))) .leaf)))))) (.seq .leaf .leaf))))
theorem t_polynomial_Derivative : Entry Go.Proofs.Tryz.prog 26 e_polynomial_Derivative false :=
  entry_of (C := c_polynomial_Derivative) (fn := Go.Proofs.Tryz.f26) (c := b_polynomial_Derivative) (an := a_polynomial_Derivative) ⟨t_rational_FromInt, t_rational_Mul, t_polynomial_Trim, trivial⟩ trivial Go.Proofs.Tryz.func26 rfl rfl (by decide) (fun _ => rfl) (by intro a K D; kernel_rfl)
noncomputable def A_polynomial_GCD : ArgT (Sl × Sl × Unit) := (ArgT.cons (Ty.leaf .sl) (ArgT.cons (Ty.leaf .sl) ArgT.nil))
noncomputable def R_polynomial_GCD : Ty Sl := (Ty.leaf .sl)
noncomputable def e_polynomial_GCD : FSem := mkE A_polynomial_GCD R_polynomial_GCD (fun a => F.polynomial_GCD a.1 a.2.1)
noncomputable def c_polynomial_GCD : Cfg := { P := Go.Proofs.Tryz.prog, n := 24, tab := [(83, e_polynomial_monic), (77, e_polynomial_divide)], mutL := [], rtL := [], locL := [] }
noncomputable def b_polynomial_GCD : Code := match Go.Proofs.Tryz.f123.body with | some c => c | none => .skip
noncomputable def a_polynomial_GCD : An := (.seq .leaf (.seq .leaf (.seq (.block (.loop [(0, .leaf (.sl)), (1, .leaf (.sl))] (.seq (.seq .leaf (.cond .leaf .leaf)) (.block (.seq .leaf .leaf))))) (.seq .leaf .leaf))))
theorem t_polynomial_GCD : Entry Go.Proofs.Tryz.prog 123 e_polynomial_GCD false :=
  entry_of (C := c_polynomial_GCD) (fn := Go.Proofs.Tryz.f123) (c := b_polynomial_GCD) (an := a_polynomial_GCD) ⟨t_polynomial_monic, t_polynomial_divide, trivial⟩ trivial Go.Proofs.Tryz.func123 rfl rfl (by decide) (fun _ => rfl) (by intro a K D; kernel_rfl)
noncomputable def A_polynomial_Squarefree : ArgT (Sl × Unit) := (ArgT.cons (Ty.leaf .sl) ArgT.nil)
noncomputable def R_polynomial_Squarefree : Ty Sl := (Ty.leaf .sl)
noncomputable def e_polynomial_Squarefree : FSem := mkE A_polynomial_Squarefree R_polynomial_Squarefree (fun a => F.polynomial_Squarefree a.1)
noncomputable def c_polynomial_Squarefree : Cfg := { P := Go.Proofs.Tryz.prog, n := 21, tab := [(83, e_polynomial_monic), (26, e_polynomial_Derivative), (123, e_polynomial_GCD), (77, e_polynomial_divide)], mutL := [], rtL := [], locL := [] }
noncomputable def b_polynomial_Squarefree : Code := match Go.Proofs.Tryz.f69.body with | some c => c | none => .skip
noncomputable def a_polynomial_Squarefree : An := (.seq .leaf (.seq .leaf (.seq (.seq .leaf (.cond (.seq .leaf .leaf) .leaf)) (.seq .leaf (.seq .leaf .leaf)))))
theorem t_polynomial_Squarefree : Entry Go.Proofs.Tryz.prog 69 e_polynomial_Squarefree false :=
  entry_of (C := c_polynomial_Squarefree) (fn := Go.Proofs.Tryz.f69) (c := b_polynomial_Squarefree) (an := a_polynomial_Squarefree) ⟨t_polynomial_monic, t_polynomial_Derivative, t_polynomial_GCD, t_polynomial_divide, trivial⟩ trivial Go.Proofs.Tryz.func69 rfl rfl (by decide) (fun _ => rfl) (by intro a K D; kernel_rfl)
noncomputable def A_polynomial_Primitive : ArgT (Sl × Unit) := (ArgT.cons (Ty.leaf .sl) ArgT.nil)
noncomputable def R_polynomial_Primitive : Ty Sl := (Ty.leaf .sl)
noncomputable def e_polynomial_Primitive : FSem := mkE A_polynomial_Primitive R_polynomial_Primitive (fun a => F.polynomial_Primitive a.1)
noncomputable def c_polynomial_Primitive : Cfg := { P := Go.Proofs.Tryz.prog, n := 94, tab := [(83, e_polynomial_monic), (84, e_integer_FromInt), (86, e_integer_GCD), (85, e_integer_DivMod), (87, e_integer_Mul)], mutL := [], rtL := [(28, 5), (31, 5), (55, 12), (63, 12)], locL := [3, 5, 6, 7, 10, 12, 13, 14, 17] }
noncomputable def b_polynomial_Primitive : Code := match Go.Proofs.Tryz.f29.body with | some c => c | none => .skip
noncomputable def a_polynomial_Primitive : An := (.seq .leaf (.seq .leaf (.seq .leaf (.seq (.seq .leaf (.block (.loop [(3, .box [.bool, .sl]), (23, .leaf (.int .i64))] (.seq .leaf (.seq (.cond .leaf .leaf) (.seq (.block (.seq .leaf (.seq (.draw [0, 1, 2, 3, 4, 11, 12, 5, 6, 7, 8, 9, 10, 13, 14, 15]) .leaf))) .leaf)))))) (.seq .leaf (.seq .leaf (.seq (.seq .leaf (.block (.loop [(10, .box [.bool, .sl]), (48, .leaf (.int .i64))] (.seq .leaf (.seq (.cond .leaf .leaf) (.seq (.block (.seq .leaf (.seq .leaf (.seq .leaf (.draw [0, 1, 2, 3, 4, 5, 6]))))) .leaf)))))) (.seq (.seq .leaf (.block (.loop [(77, .leaf (.int .i64))] (.seq .leaf (.seq (.cond .leaf .leaf) (.seq (.block (.seq .leaf .leaf)) .leaf)))))) (.seq .leaf .leaf)))))))))
theorem t_polynomial_Primitive : Entry Go.Proofs.Tryz.prog 29 e_polynomial_Primitive false :=
  entry_of (C := c_polynomial_Primitive) (fn := Go.Proofs.Tryz.f29) (c := b_polynomial_Primitive) (an := a_polynomial_Primitive) ⟨t_polynomial_monic, t_integer_FromInt, t_integer_GCD, t_integer_DivMod, t_integer_Mul, trivial⟩ trivial Go.Proofs.Tryz.func29 rfl rfl (by decide) (fun _ => rfl) (by intro a K D; kernel_rfl)
noncomputable def A_integer_Cmp : ArgT (TInt × TInt × Unit) := (ArgT.cons tyTInt (ArgT.cons tyTInt ArgT.nil))
noncomputable def R_integer_Cmp : Ty Int := (Ty.leaf (.int .i64))
noncomputable def e_integer_Cmp : FSem := mkE A_integer_Cmp R_integer_Cmp (fun a => F.integer_Cmp a.1 a.2.1)
noncomputable def c_integer_Cmp : Cfg := { P := Go.Proofs.Tryz.prog, n := 26, tab := [(153, e_integer_Sign), (182, e_cmp_Compare_int), (139, e_integer_trim), (163, e_integer_compare)], mutL := [], rtL := [(18, 2), (21, 3)], locL := [2, 3] }
noncomputable def b_integer_Cmp : Code := match Go.Proofs.Tryz.f155.body with | some c => c | none => .skip
noncomputable def a_integer_Cmp : An := (.seq .leaf (.seq (.draw [0, 2, 1, 3, 4, 5]) (.seq (.seq .leaf (.cond (.seq .leaf .leaf) .leaf)) (.seq (.draw [0, 1, 2, 4, 5, 3, 6, 7, 8, 9]) .leaf))))
theorem t_integer_Cmp : Entry Go.Proofs.Tryz.prog 155 e_integer_Cmp false :=
  entry_of (C := c_integer_Cmp) (fn := Go.Proofs.Tryz.f155) (c := b_integer_Cmp) (an := a_integer_Cmp) ⟨t_integer_Sign, t_cmp_Compare_int, t_integer_trim, t_integer_compare, trivial⟩ trivial Go.Proofs.Tryz.func155 rfl rfl (by decide) (fun _ => rfl) (by intro a K D; kernel_rfl)
noncomputable def A_rational_Cmp : ArgT (TRat × TRat × Unit) := (ArgT.cons tyTRat (ArgT.cons tyTRat ArgT.nil))
noncomputable def R_rational_Cmp : Ty Int := (Ty.leaf (.int .i64))
noncomputable def e_rational_Cmp : FSem := mkE A_rational_Cmp R_rational_Cmp (fun a => F.rational_Cmp a.1 a.2.1)
noncomputable def c_rational_Cmp : Cfg := { P := Go.Proofs.Tryz.prog, n := 28, tab := [(96, e_rational_Sign), (87, e_integer_Mul), (155, e_integer_Cmp)], mutL := [], rtL := [(17, 2), (19, 3), (22, 3), (24, 2)], locL := [2, 3] }
noncomputable def b_rational_Cmp : Code := match Go.Proofs.Tryz.f98.body with | some c => c | none => .skip
noncomputable def a_rational_Cmp : An := (.seq .leaf (.seq (.seq (.draw [0, 2, 1, 3, 4, 5]) (.seq .leaf (.cond (.seq (.seq .leaf (.cond (.seq .leaf .leaf) .leaf)) (.seq .leaf .leaf)) .leaf))) (.seq (.draw [0, 1, 2, 3, 5, 6, 7, 8, 4, 9, 10, 11]) .leaf)))
theorem t_rational_Cmp : Entry Go.Proofs.Tryz.prog 98 e_rational_Cmp false :=
  entry_of (C := c_rational_Cmp) (fn := Go.Proofs.Tryz.f98) (c := b_rational_Cmp) (an := a_rational_Cmp) ⟨t_rational_Sign, t_integer_Mul, t_integer_Cmp, trivial⟩ trivial Go.Proofs.Tryz.func98 rfl rfl (by decide) (fun _ => rfl) (by intro a K D; kernel_rfl)
noncomputable def A_polynomial_Bound : ArgT (Sl × Unit) := (ArgT.cons (Ty.leaf .sl) ArgT.nil)
noncomputable def R_polynomial_Bound : Ty TRat := tyTRat
noncomputable def e_polynomial_Bound : FSem := mkE A_polynomial_Bound R_polynomial_Bound (fun a => F.polynomial_Bound a.1)
noncomputable def c_polynomial_Bound : Cfg := { P := Go.Proofs.Tryz.prog, n := 37, tab := [(83, e_polynomial_monic), (79, e_rational_FromInt), (98, e_rational_Cmp), (96, e_rational_Sign), (97, e_rational_Neg), (74, e_rational_Add)], mutL := [], rtL := [], locL := [2, 3, 5] }
noncomputable def b_polynomial_Bound : Code := match Go.Proofs.Tryz.f34.body with | some c => c | none => .skip
noncomputable def a_polynomial_Bound : An := (.seq .leaf (.seq .leaf (.seq (.seq .leaf (.cond (.seq .leaf .leaf) .leaf)) (.seq .leaf (.seq (.seq .leaf (.block (.loop [(3, .box [.bool, .sl, .bool, .sl]), (19, .leaf (.int .i64))] (.seq .leaf (.seq (.cond .leaf .leaf) (.join [(3, .box [.bool, .sl, .bool, .sl])] (.block (.seq .leaf (.join [(5, .box [.bool, .sl, .bool, .sl])] (.seq .leaf (.cond .leaf .leaf)) (.seq .leaf (.cond .leaf .leaf))))) .leaf)))))) (.seq (.draw [0, 1, 2, 3]) .leaf))))))
theorem t_polynomial_Bound : Entry Go.Proofs.Tryz.prog 34 e_polynomial_Bound false :=
  entry_of (C := c_polynomial_Bound) (fn := Go.Proofs.Tryz.f34) (c := b_polynomial_Bound) (an := a_polynomial_Bound) ⟨t_polynomial_monic, t_rational_FromInt, t_rational_Cmp, t_rational_Sign, t_rational_Neg, t_rational_Add, trivial⟩ trivial Go.Proofs.Tryz.func34 rfl rfl (by decide) (fun _ => rfl) (by intro a K D; kernel_rfl)
noncomputable def A_slices_Backward_api_Rat_api_Rat : ArgT (Sl × Unit) := (ArgT.cons (Ty.leaf .sl) ArgT.nil)
noncomputable def R_slices_Backward_api_Rat_api_Rat : Ty Addr := (Ty.clo 156)
noncomputable def e_slices_Backward_api_Rat_api_Rat : FSem := mkE A_slices_Backward_api_Rat_api_Rat R_slices_Backward_api_Rat_api_Rat (fun a => F.slices_Backward_api_Rat_api_Rat a.1)
noncomputable def c_slices_Backward_api_Rat_api_Rat : Cfg := { P := Go.Proofs.Tryz.prog, n := 4, tab := [], mutL := [], rtL := [], locL := [] }
noncomputable def b_slices_Backward_api_Rat_api_Rat : Code := match Go.Proofs.Tryz.f106.body with | some c => c | none => .skip
noncomputable def a_slices_Backward_api_Rat_api_Rat : An := (.seq .leaf (.seq .leaf .leaf))
theorem t_slices_Backward_api_Rat_api_Rat : Entry Go.Proofs.Tryz.prog 106 e_slices_Backward_api_Rat_api_Rat false :=
  entry_of (C := c_slices_Backward_api_Rat_api_Rat) (fn := Go.Proofs.Tryz.f106) (c := b_slices_Backward_api_Rat_api_Rat) (an := a_slices_Backward_api_Rat_api_Rat) trivial trivial Go.Proofs.Tryz.func106 rfl rfl (by decide) (fun _ => rfl) (by intro a K D; kernel_rfl)
noncomputable def A_polynomial_Mul : ArgT (Sl × Sl × Unit) := (ArgT.cons (Ty.leaf .sl) (ArgT.cons (Ty.leaf .sl) ArgT.nil))
noncomputable def R_polynomial_Mul : Ty Sl := (Ty.leaf .sl)
noncomputable def e_polynomial_Mul : FSem := mkE A_polynomial_Mul R_polynomial_Mul (fun a => F.polynomial_Mul a.1 a.2.1)
noncomputable def c_polynomial_Mul : Cfg := { P := Go.Proofs.Tryz.prog, n := 58, tab := [(73, e_polynomial_zeros), (75, e_rational_Mul), (74, e_rational_Add), (38, e_polynomial_Trim)], mutL := [], rtL := [], locL := [7, 9] }
noncomputable def b_polynomial_Mul : Code := match Go.Proofs.Tryz.f17.body with | some c => c | none => .skip
noncomputable def a_polynomial_Mul : An := (.seq .leaf (.join [] (.seq .leaf (.cond (.seq .leaf .leaf) .leaf)) (.seq .leaf (.seq (.seq .leaf (.block (.loop [(27, .leaf (.int .i64))] (.seq .leaf (.seq (.cond .leaf .leaf) (.seq (.block (.seq .leaf (.seq .leaf (.block (.loop [(34, .leaf (.int .i64))] (.seq .leaf (.seq (.cond .leaf .leaf) (.seq (.block (.seq .leaf (.draw [0, 1, 2, 3, 4, 5, 6, 7, 8, 9, 10, 11, 12, 13, 14, 15]))) .leaf)))))))) .leaf)))))) (.seq .leaf .leaf)))))
theorem t_polynomial_Mul : Entry Go.Proofs.Tryz.prog 17 e_polynomial_Mul false :=
  entry_of (C := c_polynomial_Mul) (fn := Go.Proofs.Tryz.f17) (c := b_polynomial_Mul) (an := a_polynomial_Mul) ⟨t_polynomial_zeros, t_rational_Mul, t_rational_Add, t_polynomial_Trim, trivial⟩ trivial Go.Proofs.Tryz.func17 rfl rfl (by decide) (fun _ => rfl) (by intro a K D; kernel_rfl)
noncomputable def A_polynomial_Add : ArgT (Sl × Sl × Unit) := (ArgT.cons (Ty.leaf .sl) (ArgT.cons (Ty.leaf .sl) ArgT.nil))
noncomputable def R_polynomial_Add : Ty Sl := (Ty.leaf .sl)
noncomputable def e_polynomial_Add : FSem := mkE A_polynomial_Add R_polynomial_Add (fun a => F.polynomial_Add a.1 a.2.1)
noncomputable def c_polynomial_Add : Cfg := { P := Go.Proofs.Tryz.prog, n := 36, tab := [(73, e_polynomial_zeros), (74, e_rational_Add), (38, e_polynomial_Trim)], mutL := [], rtL := [], locL := [7] }
noncomputable def b_polynomial_Add : Code := match Go.Proofs.Tryz.f19.body with | some c => c | none => .skip
noncomputable def a_polynomial_Add : An := (.seq .leaf (.seq .leaf (.seq .leaf (.seq (.seq .leaf (.block (.loop [(19, .leaf (.int .i64))] (.seq .leaf (.seq (.cond .leaf .leaf) (.seq (.block (.seq .leaf (.draw [0, 1, 2, 3, 4, 5, 6, 7, 8, 9]))) .leaf)))))) (.seq .leaf .leaf)))))
theorem t_polynomial_Add : Entry Go.Proofs.Tryz.prog 19 e_polynomial_Add false :=
  entry_of (C := c_polynomial_Add) (fn := Go.Proofs.Tryz.f19) (c := b_polynomial_Add) (an := a_polynomial_Add) ⟨t_polynomial_zeros, t_rational_Add, t_polynomial_Trim, trivial⟩ trivial Go.Proofs.Tryz.func19 rfl rfl (by decide) (fun _ => rfl) (by intro a K D; kernel_rfl)
end Den
end

section
/-
  The iterator of slices.Backward over rational numbers.
-/
set_option linter.unusedVariables false
namespace Den
open Go Go.RowKit Go.Shelf
open Go.Proofs
attribute [local go_sem] Oper.semAt_some

set_option maxRecDepth 100000 in
set_option maxHeartbeats 2000000 in
theorem bk_aggboolslboolsl : BackFn Tryz.prog 156 (.agg [.bool, .sl, .bool, .sl]) := by
  refine ⟨enters_of Tryz.func156 (by kernel_rfl) rfl, ?_⟩
  rintro l ab ⟨xa, xl, xc⟩ J w hxl h0 hbox hround
  simp only at hxl h0 hbox hround
  have hb0 := hbox _ _ h0
  refine callsIn_of_wp Tryz.func156 rfl trivial ?_ rfl
  simp only [Tryz.ntmps156, List.size_toArray, List.length_cons, List.length_nil, Nat.reduceAdd, Nat.reduceSub, Array.replicate_succ, Array.replicate_zero, List.push_toArray, List.append_toArray, List.nil_append, List.cons_append]
  gi_wp2
  gi_loopw [3] (fun i wr => ∃ k : Nat, k ≤ xl ∧ i = .int .i64 ((k : Int) - 1) ∧ J k wr) (fun i _ => (intOf i + 1).toNat)
  case atStart => exact ⟨xl, Nat.le_refl _, rfl, h0⟩
  case round =>
    obtain ⟨k, hk, rfl, hJ⟩ := hrel
    have hbx := hbox _ _ hJ
    cases k with
    | zero =>
      gi_wp2
      go_end0
      exact ⟨⟨_, rfl⟩, hJ⟩
    | succ j =>
      obtain ⟨ad, ⟨v0, v1, v2, v3, _⟩, hxa, hcells, f, tmps1, asg, body, hy, hR⟩ := hround j wr (by omega) hJ
      subst hxa
      have hc : ∀ i u, [Value.bool v0, .slice v1.a v1.len v1.cap, .bool v2, .slice v3.a v3.len v3.cap][i]? = some u → wr.cell? (ad.add (j * 4 + i)) = some u := fun i u hu => by
        have := hcells i u (by simpa [STy.cells, LT.up, Lf.up] using hu)
        simpa [STy.size] using this
      have hc0 := hc 0 _ rfl
      have hk1 : ∀ i, 0 < i → ad.add (j * 4 + i) = { block := (ad.add (j * 4)).block, off := (ad.add (j * 4)).off + i } := fun i hi => by
        rw [add_block, add_off]
        unfold Addr.add
        rw [if_neg (by omega)]
        congr 1
        omega
      have hc1 := hc 1 _ rfl
      have hc2 := hc 2 _ rfl
      have hc3 := hc 3 _ rfl
      rw [hk1 _ (by decide)] at hc1 hc2 hc3
      rw [Nat.add_zero] at hc0
      have hkj : (((j + 1 : Nat) : Int) - 1) = (j : Int) := by omega
      rw [hkj]
      simp only [STy.val, LT.up, Lf.up] at hy
      gi_wp2
      refine ⟨rfl, hR.mono ?_⟩
      rintro e W3 ⟨rfl, hJ3⟩
      gi_wp2
      go_roundw
      case rel => exact ⟨j, by omega, by simp, hJ3⟩
      case measure => simp [intOf]
end Den
end

section
/- MADE BY fbuild.py: the entries of the functions. -/
set_option maxRecDepth 100000
set_option linter.unusedVariables false
namespace Den
open Go
noncomputable def A_polynomial_Compose : ArgT (Sl × Sl × Unit) := (ArgT.cons (Ty.leaf .sl) (ArgT.cons (Ty.leaf .sl) ArgT.nil))
noncomputable def R_polynomial_Compose : Ty Sl := (Ty.leaf .sl)
noncomputable def e_polynomial_Compose : FSem := mkE A_polynomial_Compose R_polynomial_Compose (fun a => F.polynomial_Compose a.1 a.2.1)
noncomputable def c_polynomial_Compose : Cfg := { P := Go.Proofs.Tryz.prog, n := 19, tab := [(106, e_slices_Backward_api_Rat_api_Rat), (17, e_polynomial_Mul), (19, e_polynomial_Add)], mutL := [], rtL := [], locL := [3, 5, 7], backs := [(156, (.agg [.bool, .sl, .bool, .sl]))] }
noncomputable def b_polynomial_Compose : Code := match Go.Proofs.Tryz.f45.body with | some c => c | none => .skip
noncomputable def a_polynomial_Compose : An := (.seq .leaf (.seq .leaf (.seq (.seq .leaf (.block (.back [(5, .box [.sl])] .leaf (.block (.draw [0, 1, 3, 2, 4, 5, 6]))))) (.seq .leaf .leaf))))
theorem t_polynomial_Compose : Entry Go.Proofs.Tryz.prog 45 e_polynomial_Compose false :=
  entry_of (C := c_polynomial_Compose) (fn := Go.Proofs.Tryz.f45) (c := b_polynomial_Compose) (an := a_polynomial_Compose) ⟨t_slices_Backward_api_Rat_api_Rat, t_polynomial_Mul, t_polynomial_Add, trivial⟩ ⟨bk_aggboolslboolsl, trivial⟩ Go.Proofs.Tryz.func45 rfl rfl (by decide) (fun _ => rfl) (by intro a K D; kernel_rfl)
noncomputable def A_ref02_one : ArgT (TInt × Unit) := (ArgT.cons tyTInt ArgT.nil)
noncomputable def R_ref02_one : Ty Bool := (Ty.leaf .bool)
noncomputable def e_ref02_one : FSem := mkE A_ref02_one R_ref02_one (fun a => F.ref02_one a.1)
noncomputable def c_ref02_one : Cfg := { P := Go.Proofs.Tryz.prog, n := 19, tab := [], mutL := [], rtL := [(3, 1), (8, 1), (15, 1)], locL := [1] }
noncomputable def b_ref02_one : Code := match Go.Proofs.Tryz.f99.body with | some c => c | none => .skip
noncomputable def a_ref02_one : An := (.seq .leaf (.seq .leaf .leaf))
theorem t_ref02_one : Entry Go.Proofs.Tryz.prog 99 e_ref02_one false :=
  entry_of (C := c_ref02_one) (fn := Go.Proofs.Tryz.f99) (c := b_ref02_one) (an := a_ref02_one) trivial trivial Go.Proofs.Tryz.func99 rfl rfl (by decide) (fun _ => rfl) (by intro a K D; kernel_rfl)
noncomputable def A_ref02_Mul : ArgT (TRat × TRat × Unit) := (ArgT.cons tyTRat (ArgT.cons tyTRat ArgT.nil))
noncomputable def R_ref02_Mul : Ty TRat := tyTRat
noncomputable def e_ref02_Mul : FSem := mkE A_ref02_Mul R_ref02_Mul (fun a => F.ref02_Mul a.1 a.2.1)
noncomputable def c_ref02_Mul : Cfg := { P := Go.Proofs.Tryz.prog, n := 65, tab := [(90, e_ref01_GCD), (134, e_ref02_quo), (91, e_ref01_Mul), (99, e_ref02_one), (81, e_ref02_FromInt)], mutL := [], rtL := [(7, 2), (8, 2), (13, 3), (14, 3), (20, 2), (24, 3), (28, 2), (30, 3), (33, 2), (36, 2), (38, 3), (41, 3), (43, 2), (46, 2), (50, 3), (55, 2), (59, 3)], locL := [2, 3, 4, 5, 6] }
noncomputable def b_ref02_Mul : Code := match Go.Proofs.Tryz.f80.body with | some c => c | none => .skip
noncomputable def a_ref02_Mul : An := (.seq .leaf (.join [(4, .box [.bool, .sl, .bool, .sl])] (.seq .leaf (.cond (.seq .leaf .leaf) .leaf)) (.join [(4, .box [.bool, .sl, .bool, .sl])] (.seq .leaf (.cond (.seq (.draw [0, 1, 2, 3, 5, 6, 4, 7, 8]) .leaf) .leaf)) (.seq (.draw [0, 1, 2, 3, 5, 6, 7, 8, 10, 11, 4, 9, 12, 13]) (.seq (.draw [0, 1, 2, 4, 5, 6, 9, 10, 11, 13, 14, 15, 3, 7, 8, 12, 16, 17, 18, 19]) .leaf)))))
theorem t_ref02_Mul : Entry Go.Proofs.Tryz.prog 80 e_ref02_Mul false :=
  entry_of (C := c_ref02_Mul) (fn := Go.Proofs.Tryz.f80) (c := b_ref02_Mul) (an := a_ref02_Mul) ⟨t_ref01_GCD, t_ref02_quo, t_ref01_Mul, t_ref02_one, t_ref02_FromInt, trivial⟩ trivial Go.Proofs.Tryz.func80 rfl rfl (by decide) (fun _ => rfl) (by intro a K D; kernel_rfl)
noncomputable def A_ref02_Sign : ArgT (TRat × Unit) := (ArgT.cons tyTRat ArgT.nil)
noncomputable def R_ref02_Sign : Ty Int := (Ty.leaf (.int .i64))
noncomputable def e_ref02_Sign : FSem := mkE A_ref02_Sign R_ref02_Sign (fun a => F.ref02_Sign a.1)
noncomputable def c_ref02_Sign : Cfg := { P := Go.Proofs.Tryz.prog, n := 6, tab := [(92, e_ref01_Sign)], mutL := [], rtL := [(3, 1)], locL := [1] }
noncomputable def b_ref02_Sign : Code := match Go.Proofs.Tryz.f32.body with | some c => c | none => .skip
noncomputable def a_ref02_Sign : An := (.seq .leaf (.seq .leaf .leaf))
theorem t_ref02_Sign : Entry Go.Proofs.Tryz.prog 32 e_ref02_Sign false :=
  entry_of (C := c_ref02_Sign) (fn := Go.Proofs.Tryz.f32) (c := b_ref02_Sign) (an := a_ref02_Sign) ⟨t_ref01_Sign, trivial⟩ trivial Go.Proofs.Tryz.func32 rfl rfl (by decide) (fun _ => rfl) (by intro a K D; kernel_rfl)
noncomputable def A_ref04_Trim : ArgT (Sl × Unit) := (ArgT.cons (Ty.leaf .sl) ArgT.nil)
noncomputable def R_ref04_Trim : Ty Sl := (Ty.leaf .sl)
noncomputable def e_ref04_Trim : FSem := mkE A_ref04_Trim R_ref04_Trim (fun a => F.ref04_Trim a.1)
noncomputable def c_ref04_Trim : Cfg := { P := Go.Proofs.Tryz.prog, n := 24, tab := [(32, e_ref02_Sign)], mutL := [], rtL := [], locL := [] }
noncomputable def b_ref04_Trim : Code := match Go.Proofs.Tryz.f25.body with | some c => c | none => .skip
noncomputable def a_ref04_Trim : An := (.seq .leaf (.seq .leaf (.join [(3, .leaf (.int .i64))] (.block (.loop [(3, .leaf (.int .i64))] (.join [] (.seq .leaf (.cond .leaf .leaf)) (.block .leaf)))) (.seq .leaf .leaf))))
theorem t_ref04_Trim : Entry Go.Proofs.Tryz.prog 25 e_ref04_Trim false :=
  entry_of (C := c_ref04_Trim) (fn := Go.Proofs.Tryz.f25) (c := b_ref04_Trim) (an := a_ref04_Trim) ⟨t_ref02_Sign, trivial⟩ trivial Go.Proofs.Tryz.func25 rfl rfl (by decide) (fun _ => rfl) (by intro a K D; kernel_rfl)
noncomputable def A_ref04_Scale : ArgT (Sl × TRat × Unit) := (ArgT.cons (Ty.leaf .sl) (ArgT.cons tyTRat ArgT.nil))
noncomputable def R_ref04_Scale : Ty Sl := (Ty.leaf .sl)
noncomputable def e_ref04_Scale : FSem := mkE A_ref04_Scale R_ref04_Scale (fun a => F.ref04_Scale a.1 a.2.1)
noncomputable def c_ref04_Scale : Cfg := { P := Go.Proofs.Tryz.prog, n := 24, tab := [(80, e_ref02_Mul), (25, e_ref04_Trim)], mutL := [], rtL := [], locL := [3, 20] }
noncomputable def b_ref04_Scale : Code := match Go.Proofs.Tryz.f33.body with | some c => c | none => .skip
noncomputable def a_ref04_Scale : An := (.seq .leaf (.seq .leaf (.seq (.seq .leaf (.block (.loop [(5, .leaf (.sl)), (6, .leaf (.int .i64))] (.seq (.seq .leaf (.cond .leaf .leaf)) (.seq (.block (.draw [0, 1, 2, 3, 4, 5, 6, 7, 8, 9])) .leaf))))) (.seq .leaf .leaf))))
theorem t_ref04_Scale : Entry Go.Proofs.Tryz.prog 33 e_ref04_Scale false :=
  entry_of (C := c_ref04_Scale) (fn := Go.Proofs.Tryz.f33) (c := b_ref04_Scale) (an := a_ref04_Scale) ⟨t_ref02_Mul, t_ref04_Trim, trivial⟩ trivial Go.Proofs.Tryz.func33 rfl rfl (by decide) (fun _ => rfl) (by intro a K D; kernel_rfl)
noncomputable def A_ref04_zero : ArgT (Unit) := ArgT.nil
noncomputable def R_ref04_zero : Ty TRat := tyTRat
noncomputable def e_ref04_zero : FSem := mkE A_ref04_zero R_ref04_zero (fun a => F.ref04_zero )
noncomputable def c_ref04_zero : Cfg := { P := Go.Proofs.Tryz.prog, n := 2, tab := [(81, e_ref02_FromInt)], mutL := [], rtL := [], locL := [0] }
noncomputable def b_ref04_zero : Code := match Go.Proofs.Tryz.f101.body with | some c => c | none => .skip
noncomputable def a_ref04_zero : An := (.seq .leaf (.seq .leaf .leaf))
theorem t_ref04_zero : Entry Go.Proofs.Tryz.prog 101 e_ref04_zero false :=
  entry_of (C := c_ref04_zero) (fn := Go.Proofs.Tryz.f101) (c := b_ref04_zero) (an := a_ref04_zero) ⟨t_ref02_FromInt, trivial⟩ trivial Go.Proofs.Tryz.func101 rfl rfl (by decide) (fun _ => rfl) (by intro a K D; kernel_rfl)
noncomputable def A_ref04_at : ArgT (Sl × Int × Unit) := (ArgT.cons (Ty.leaf .sl) (ArgT.cons (Ty.leaf (.int .i64)) ArgT.nil))
noncomputable def R_ref04_at : Ty TRat := tyTRat
noncomputable def e_ref04_at : FSem := mkE A_ref04_at R_ref04_at (fun a => F.ref04_at a.1 a.2.1)
noncomputable def c_ref04_at : Cfg := { P := Go.Proofs.Tryz.prog, n := 18, tab := [(101, e_ref04_zero)], mutL := [], rtL := [], locL := [4] }
noncomputable def b_ref04_at : Code := match Go.Proofs.Tryz.f105.body with | some c => c | none => .skip
noncomputable def a_ref04_at : An := (.seq .leaf (.join [(4, .box [.bool, .sl, .bool, .sl])] (.seq .leaf (.cond (.seq .leaf .leaf) .leaf)) (.seq .leaf .leaf)))
theorem t_ref04_at : Entry Go.Proofs.Tryz.prog 105 e_ref04_at false :=
  entry_of (C := c_ref04_at) (fn := Go.Proofs.Tryz.f105) (c := b_ref04_at) (an := a_ref04_at) ⟨t_ref04_zero, trivial⟩ trivial Go.Proofs.Tryz.func105 rfl rfl (by decide) (fun _ => rfl) (by intro a K D; kernel_rfl)
noncomputable def A_ref02_Add : ArgT (TRat × TRat × Unit) := (ArgT.cons tyTRat (ArgT.cons tyTRat ArgT.nil))
noncomputable def R_ref02_Add : Ty TRat := tyTRat
noncomputable def e_ref02_Add : FSem := mkE A_ref02_Add R_ref02_Add (fun a => F.ref02_Add a.1 a.2.1)
noncomputable def c_ref02_Add : Cfg := { P := Go.Proofs.Tryz.prog, n := 94, tab := [(90, e_ref01_GCD), (99, e_ref02_one), (91, e_ref01_Mul), (151, e_ref01_Add), (134, e_ref02_quo)], mutL := [], rtL := [(11, 2), (12, 2), (17, 3), (18, 3), (23, 2), (27, 3), (31, 2), (33, 3), (36, 2), (39, 2), (41, 3), (46, 2), (48, 3), (51, 3), (53, 2), (58, 2), (60, 3), (64, 2), (68, 3), (72, 2), (76, 3), (88, 3)], locL := [2, 3, 4, 5, 6, 7, 8, 9, 10] }
noncomputable def b_ref02_Add : Code := match Go.Proofs.Tryz.f103.body with | some c => c | none => .skip
noncomputable def a_ref02_Add : An := (.seq .leaf (.seq (.seq .leaf (.cond (.seq .leaf .leaf) .leaf)) (.seq (.seq .leaf (.cond (.seq .leaf .leaf) .leaf)) (.join [(4, .box [.bool, .sl, .bool, .sl])] (.seq .leaf (.cond (.seq (.draw [0, 1, 2, 3, 5, 6, 4, 7, 8]) .leaf) .leaf)) (.seq .leaf (.seq (.seq .leaf (.cond (.seq (.draw [0, 1, 2, 3, 5, 6, 7, 8, 11, 4, 9, 10, 12]) (.seq (.draw [0, 1, 2, 3, 4, 5, 6, 7]) .leaf)) .leaf)) (.seq (.draw [0, 1, 2, 4, 5, 6, 8, 9, 3, 7, 10, 11]) (.seq (.draw [0, 1, 2, 4, 5, 6, 9, 3, 7, 8, 10]) (.seq .leaf (.seq (.draw [0, 1, 3, 4, 5, 6, 2, 7, 8, 9, 10]) .leaf))))))))))
theorem t_ref02_Add : Entry Go.Proofs.Tryz.prog 103 e_ref02_Add false :=
  entry_of (C := c_ref02_Add) (fn := Go.Proofs.Tryz.f103) (c := b_ref02_Add) (an := a_ref02_Add) ⟨t_ref01_GCD, t_ref02_one, t_ref01_Mul, t_ref01_Add, t_ref02_quo, trivial⟩ trivial Go.Proofs.Tryz.func103 rfl rfl (by decide) (fun _ => rfl) (by intro a K D; kernel_rfl)
noncomputable def A_ref04_Add : ArgT (Sl × Sl × Unit) := (ArgT.cons (Ty.leaf .sl) (ArgT.cons (Ty.leaf .sl) ArgT.nil))
noncomputable def R_ref04_Add : Ty Sl := (Ty.leaf .sl)
noncomputable def e_ref04_Add : FSem := mkE A_ref04_Add R_ref04_Add (fun a => F.ref04_Add a.1 a.2.1)
noncomputable def c_ref04_Add : Cfg := { P := Go.Proofs.Tryz.prog, n := 31, tab := [(25, e_ref04_Trim), (105, e_ref04_at), (103, e_ref02_Add)], mutL := [], rtL := [], locL := [27] }
noncomputable def b_ref04_Add : Code := match Go.Proofs.Tryz.f40.body with | some c => c | none => .skip
noncomputable def a_ref04_Add : An := (.seq .leaf (.seq .leaf (.join [(5, .leaf (.sl))] (.seq .leaf (.block (.loop [(5, .leaf (.sl)), (6, .leaf (.int .i64))] (.join [] (.seq .leaf (.cond .leaf .leaf)) (.seq (.block .leaf) .leaf))))) (.seq .leaf .leaf))))
theorem t_ref04_Add : Entry Go.Proofs.Tryz.prog 40 e_ref04_Add false :=
  entry_of (C := c_ref04_Add) (fn := Go.Proofs.Tryz.f40) (c := b_ref04_Add) (an := a_ref04_Add) ⟨t_ref04_Trim, t_ref04_at, t_ref02_Add, trivial⟩ trivial Go.Proofs.Tryz.func40 rfl rfl (by decide) (fun _ => rfl) (by intro a K D; kernel_rfl)
noncomputable def A_ref04_Sub : ArgT (Sl × Sl × Unit) := (ArgT.cons (Ty.leaf .sl) (ArgT.cons (Ty.leaf .sl) ArgT.nil))
noncomputable def R_ref04_Sub : Ty Sl := (Ty.leaf .sl)
noncomputable def e_ref04_Sub : FSem := mkE A_ref04_Sub R_ref04_Sub (fun a => F.ref04_Sub a.1 a.2.1)
noncomputable def c_ref04_Sub : Cfg := { P := Go.Proofs.Tryz.prog, n := 10, tab := [(81, e_ref02_FromInt), (33, e_ref04_Scale), (40, e_ref04_Add)], mutL := [], rtL := [], locL := [] }
noncomputable def b_ref04_Sub : Code := match Go.Proofs.Tryz.f42.body with | some c => c | none => .skip
noncomputable def a_ref04_Sub : An := (.seq .leaf (.seq .leaf .leaf))
theorem t_ref04_Sub : Entry Go.Proofs.Tryz.prog 42 e_ref04_Sub false :=
  entry_of (C := c_ref04_Sub) (fn := Go.Proofs.Tryz.f42) (c := b_ref04_Sub) (an := a_ref04_Sub) ⟨t_ref02_FromInt, t_ref04_Scale, t_ref04_Add, trivial⟩ trivial Go.Proofs.Tryz.func42 rfl rfl (by decide) (fun _ => rfl) (by intro a K D; kernel_rfl)
noncomputable def A_ref04_Same : ArgT (Sl × Sl × Unit) := (ArgT.cons (Ty.leaf .sl) (ArgT.cons (Ty.leaf .sl) ArgT.nil))
noncomputable def R_ref04_Same : Ty Bool := (Ty.leaf .bool)
noncomputable def e_ref04_Same : FSem := mkE A_ref04_Same R_ref04_Same (fun a => F.ref04_Same a.1 a.2.1)
noncomputable def c_ref04_Same : Cfg := { P := Go.Proofs.Tryz.prog, n := 10, tab := [(42, e_ref04_Sub)], mutL := [], rtL := [], locL := [] }
noncomputable def b_ref04_Same : Code := match Go.Proofs.Tryz.f124.body with | some c => c | none => .skip
noncomputable def a_ref04_Same : An := (.seq .leaf (.seq .leaf .leaf))
theorem t_ref04_Same : Entry Go.Proofs.Tryz.prog 124 e_ref04_Same false :=
  entry_of (C := c_ref04_Same) (fn := Go.Proofs.Tryz.f124) (c := b_ref04_Same) (an := a_ref04_Same) ⟨t_ref04_Sub, trivial⟩ trivial Go.Proofs.Tryz.func124 rfl rfl (by decide) (fun _ => rfl) (by intro a K D; kernel_rfl)
noncomputable def A_ref04_Equal : ArgT (Sl × Sl × Unit) := (ArgT.cons (Ty.leaf .sl) (ArgT.cons (Ty.leaf .sl) ArgT.nil))
noncomputable def R_ref04_Equal : Ty Bool := (Ty.leaf .bool)
noncomputable def e_ref04_Equal : FSem := mkE A_ref04_Equal R_ref04_Equal (fun a => F.ref04_Equal a.1 a.2.1)
noncomputable def c_ref04_Equal : Cfg := { P := Go.Proofs.Tryz.prog, n := 15, tab := [(124, e_ref04_Same)], mutL := [], rtL := [], locL := [] }
noncomputable def b_ref04_Equal : Code := match Go.Proofs.Tryz.f70.body with | some c => c | none => .skip
noncomputable def a_ref04_Equal : An := (.seq .leaf (.seq .leaf .leaf))
theorem t_ref04_Equal : Entry Go.Proofs.Tryz.prog 70 e_ref04_Equal false :=
  entry_of (C := c_ref04_Equal) (fn := Go.Proofs.Tryz.f70) (c := b_ref04_Equal) (an := a_ref04_Equal) ⟨t_ref04_Same, trivial⟩ trivial Go.Proofs.Tryz.func70 rfl rfl (by decide) (fun _ => rfl) (by intro a K D; kernel_rfl)
noncomputable def A_ref01_Cmp : ArgT (TInt × TInt × Unit) := (ArgT.cons tyTInt (ArgT.cons tyTInt ArgT.nil))
noncomputable def R_ref01_Cmp : Ty Int := (Ty.leaf (.int .i64))
noncomputable def e_ref01_Cmp : FSem := mkE A_ref01_Cmp R_ref01_Cmp (fun a => F.ref01_Cmp a.1 a.2.1)
noncomputable def c_ref01_Cmp : Cfg := { P := Go.Proofs.Tryz.prog, n := 9, tab := [(150, e_ref01_Sub), (92, e_ref01_Sign)], mutL := [], rtL := [], locL := [2, 3] }
noncomputable def b_ref01_Cmp : Code := match Go.Proofs.Tryz.f95.body with | some c => c | none => .skip
noncomputable def a_ref01_Cmp : An := (.seq .leaf (.seq .leaf .leaf))
theorem t_ref01_Cmp : Entry Go.Proofs.Tryz.prog 95 e_ref01_Cmp false :=
  entry_of (C := c_ref01_Cmp) (fn := Go.Proofs.Tryz.f95) (c := b_ref01_Cmp) (an := a_ref01_Cmp) ⟨t_ref01_Sub, t_ref01_Sign, trivial⟩ trivial Go.Proofs.Tryz.func95 rfl rfl (by decide) (fun _ => rfl) (by intro a K D; kernel_rfl)
noncomputable def A_law04_ints : ArgT (Sl × Sl × Unit) := (ArgT.cons (Ty.leaf .sl) (ArgT.cons (Ty.leaf .sl) ArgT.nil))
noncomputable def R_law04_ints : Ty Bool := (Ty.leaf .bool)
noncomputable def e_law04_ints : FSem := mkE A_law04_ints R_law04_ints (fun a => F.law04_ints a.1 a.2.1)
noncomputable def c_law04_ints : Cfg := { P := Go.Proofs.Tryz.prog, n := 28, tab := [(88, e_ref01_FromInt), (95, e_ref01_Cmp)], mutL := [], rtL := [], locL := [] }
noncomputable def b_law04_ints : Code := match Go.Proofs.Tryz.f71.body with | some c => c | none => .skip
noncomputable def a_law04_ints : An := (.seq .leaf (.seq (.seq .leaf (.cond (.seq .leaf .leaf) .leaf)) (.seq (.seq .leaf (.block (.loop [(14, .leaf (.int .i64))] (.seq .leaf (.seq (.cond .leaf .leaf) (.seq (.block (.seq .leaf (.seq (.draw [0, 1, 2, 3, 4, 5, 6, 7]) (.cond (.seq .leaf .leaf) .leaf)))) .leaf)))))) (.seq .leaf .leaf))))
theorem t_law04_ints : Entry Go.Proofs.Tryz.prog 71 e_law04_ints false :=
  entry_of (C := c_law04_ints) (fn := Go.Proofs.Tryz.f71) (c := b_law04_ints) (an := a_law04_ints) ⟨t_ref01_FromInt, t_ref01_Cmp, trivial⟩ trivial Go.Proofs.Tryz.func71 rfl rfl (by decide) (fun _ => rfl) (by intro a K D; kernel_rfl)
noncomputable def A_ref01_Valid : ArgT (TInt × Unit) := (ArgT.cons tyTInt ArgT.nil)
noncomputable def R_ref01_Valid : Ty Bool := (Ty.leaf .bool)
noncomputable def e_ref01_Valid : FSem := mkE A_ref01_Valid R_ref01_Valid (fun a => F.ref01_Valid a.1)
noncomputable def c_ref01_Valid : Cfg := { P := Go.Proofs.Tryz.prog, n := 22, tab := [(136, e_ref01_trim)], mutL := [], rtL := [(3, 1), (7, 1), (12, 1), (16, 1)], locL := [1] }
noncomputable def b_ref01_Valid : Code := match Go.Proofs.Tryz.f94.body with | some c => c | none => .skip
noncomputable def a_ref01_Valid : An := (.seq .leaf (.seq (.draw [0, 1, 4, 5, 6, 2, 3, 7, 8, 9, 10, 11, 12, 13, 14, 15, 16, 17, 18, 19]) .leaf))
theorem t_ref01_Valid : Entry Go.Proofs.Tryz.prog 94 e_ref01_Valid false :=
  entry_of (C := c_ref01_Valid) (fn := Go.Proofs.Tryz.f94) (c := b_ref01_Valid) (an := a_ref01_Valid) ⟨t_ref01_trim, trivial⟩ trivial Go.Proofs.Tryz.func94 rfl rfl (by decide) (fun _ => rfl) (by intro a K D; kernel_rfl)
noncomputable def A_ref02_Valid : ArgT (TRat × Unit) := (ArgT.cons tyTRat ArgT.nil)
noncomputable def R_ref02_Valid : Ty Bool := (Ty.leaf .bool)
noncomputable def e_ref02_Valid : FSem := mkE A_ref02_Valid R_ref02_Valid (fun a => F.ref02_Valid a.1)
noncomputable def c_ref02_Valid : Cfg := { P := Go.Proofs.Tryz.prog, n := 25, tab := [(94, e_ref01_Valid), (92, e_ref01_Sign), (90, e_ref01_GCD), (99, e_ref02_one)], mutL := [], rtL := [(3, 1), (7, 1), (12, 1), (18, 1), (20, 1)], locL := [1] }
noncomputable def b_ref02_Valid : Code := match Go.Proofs.Tryz.f35.body with | some c => c | none => .skip
noncomputable def a_ref02_Valid : An := (.seq .leaf (.seq .leaf .leaf))
theorem t_ref02_Valid : Entry Go.Proofs.Tryz.prog 35 e_ref02_Valid false :=
  entry_of (C := c_ref02_Valid) (fn := Go.Proofs.Tryz.f35) (c := b_ref02_Valid) (an := a_ref02_Valid) ⟨t_ref01_Valid, t_ref01_Sign, t_ref01_GCD, t_ref02_one, trivial⟩ trivial Go.Proofs.Tryz.func35 rfl rfl (by decide) (fun _ => rfl) (by intro a K D; kernel_rfl)
noncomputable def A_ref02_Cmp : ArgT (TRat × TRat × Unit) := (ArgT.cons tyTRat (ArgT.cons tyTRat ArgT.nil))
noncomputable def R_ref02_Cmp : Ty Int := (Ty.leaf (.int .i64))
noncomputable def e_ref02_Cmp : FSem := mkE A_ref02_Cmp R_ref02_Cmp (fun a => F.ref02_Cmp a.1 a.2.1)
noncomputable def c_ref02_Cmp : Cfg := { P := Go.Proofs.Tryz.prog, n := 16, tab := [(91, e_ref01_Mul), (95, e_ref01_Cmp)], mutL := [], rtL := [(5, 2), (7, 3), (10, 3), (12, 2)], locL := [2, 3] }
noncomputable def b_ref02_Cmp : Code := match Go.Proofs.Tryz.f36.body with | some c => c | none => .skip
noncomputable def a_ref02_Cmp : An := (.seq .leaf (.seq (.draw [0, 1, 2, 3, 5, 6, 7, 8, 4, 9, 10, 11]) .leaf))
theorem t_ref02_Cmp : Entry Go.Proofs.Tryz.prog 36 e_ref02_Cmp false :=
  entry_of (C := c_ref02_Cmp) (fn := Go.Proofs.Tryz.f36) (c := b_ref02_Cmp) (an := a_ref02_Cmp) ⟨t_ref01_Mul, t_ref01_Cmp, trivial⟩ trivial Go.Proofs.Tryz.func36 rfl rfl (by decide) (fun _ => rfl) (by intro a K D; kernel_rfl)
noncomputable def A_law04_awake : ArgT (Unit) := ArgT.nil
noncomputable def R_law04_awake : Ty Bool := (Ty.leaf .bool)
noncomputable def e_law04_awake : FSem := mkE A_law04_awake R_law04_awake (fun a => F.law04_awake )
noncomputable def c_law04_awake : Cfg := { P := Go.Proofs.Tryz.prog, n := 109, tab := [(68, e_law04_rats), (22, e_polynomial_DivMod), (69, e_polynomial_Squarefree), (29, e_polynomial_Primitive), (34, e_polynomial_Bound), (45, e_polynomial_Compose), (70, e_ref04_Equal), (71, e_law04_ints), (35, e_ref02_Valid), (72, e_ref02_Frac), (36, e_ref02_Cmp)], mutL := [], rtL := [], locL := [7] }
noncomputable def b_law04_awake : Code := match Go.Proofs.Tryz.f15.body with | some c => c | none => .skip
noncomputable def a_law04_awake : An := (.seq .leaf (.seq .leaf (.seq .leaf (.seq .leaf (.seq .leaf (.seq .leaf (.seq .leaf (.seq (.draw [0, 1, 2, 3, 4, 5, 6, 7, 8, 9, 10, 11, 12, 13, 14, 15, 16, 17, 18, 19, 20, 21, 22, 23, 24, 25, 26, 27, 28, 29, 30, 31, 32, 33, 34, 35, 36, 37, 38, 39, 40, 41, 42, 43, 44, 45, 46, 47, 48, 49, 50, 51, 52, 53]) .leaf))))))))
theorem t_law04_awake : Entry Go.Proofs.Tryz.prog 15 e_law04_awake false :=
  entry_of (C := c_law04_awake) (fn := Go.Proofs.Tryz.f15) (c := b_law04_awake) (an := a_law04_awake) ⟨t_law04_rats, t_polynomial_DivMod, t_polynomial_Squarefree, t_polynomial_Primitive, t_polynomial_Bound, t_polynomial_Compose, t_ref04_Equal, t_law04_ints, t_ref02_Valid, t_ref02_Frac, t_ref02_Cmp, trivial⟩ trivial Go.Proofs.Tryz.func15 rfl rfl (by decide) (fun _ => rfl) (by intro a K D; kernel_rfl)
noncomputable def A_ref01_Bits : ArgT (TInt × Unit) := (ArgT.cons tyTInt ArgT.nil)
noncomputable def R_ref01_Bits : Ty Int := (Ty.leaf (.int .i64))
noncomputable def e_ref01_Bits : FSem := mkE A_ref01_Bits R_ref01_Bits (fun a => F.ref01_Bits a.1)
noncomputable def c_ref01_Bits : Cfg := { P := Go.Proofs.Tryz.prog, n := 7, tab := [(136, e_ref01_trim), (135, e_ref01_length)], mutL := [], rtL := [(3, 1)], locL := [1] }
noncomputable def b_ref01_Bits : Code := match Go.Proofs.Tryz.f82.body with | some c => c | none => .skip
noncomputable def a_ref01_Bits : An := (.seq .leaf (.seq .leaf .leaf))
theorem t_ref01_Bits : Entry Go.Proofs.Tryz.prog 82 e_ref01_Bits false :=
  entry_of (C := c_ref01_Bits) (fn := Go.Proofs.Tryz.f82) (c := b_ref01_Bits) (an := a_ref01_Bits) ⟨t_ref01_trim, t_ref01_length, trivial⟩ trivial Go.Proofs.Tryz.func82 rfl rfl (by decide) (fun _ => rfl) (by intro a K D; kernel_rfl)
noncomputable def A_ref04_Short : ArgT (TRat × Unit) := (ArgT.cons tyTRat ArgT.nil)
noncomputable def R_ref04_Short : Ty Bool := (Ty.leaf .bool)
noncomputable def e_ref04_Short : FSem := mkE A_ref04_Short R_ref04_Short (fun a => F.ref04_Short a.1)
noncomputable def c_ref04_Short : Cfg := { P := Go.Proofs.Tryz.prog, n := 31, tab := [(35, e_ref02_Valid), (82, e_ref01_Bits)], mutL := [], rtL := [(3, 1), (4, 1), (9, 1), (10, 1), (20, 1), (26, 1)], locL := [1] }
noncomputable def b_ref04_Short : Code := match Go.Proofs.Tryz.f28.body with | some c => c | none => .skip
noncomputable def a_ref04_Short : An := (.seq .leaf (.seq .leaf .leaf))
theorem t_ref04_Short : Entry Go.Proofs.Tryz.prog 28 e_ref04_Short false :=
  entry_of (C := c_ref04_Short) (fn := Go.Proofs.Tryz.f28) (c := b_ref04_Short) (an := a_ref04_Short) ⟨t_ref02_Valid, t_ref01_Bits, trivial⟩ trivial Go.Proofs.Tryz.func28 rfl rfl (by decide) (fun _ => rfl) (by intro a K D; kernel_rfl)
noncomputable def A_ref04_Small : ArgT (Sl × Int × Unit) := (ArgT.cons (Ty.leaf .sl) (ArgT.cons (Ty.leaf (.int .i64)) ArgT.nil))
noncomputable def R_ref04_Small : Ty Bool := (Ty.leaf .bool)
noncomputable def e_ref04_Small : FSem := mkE A_ref04_Small R_ref04_Small (fun a => F.ref04_Small a.1 a.2.1)
noncomputable def c_ref04_Small : Cfg := { P := Go.Proofs.Tryz.prog, n := 22, tab := [(28, e_ref04_Short)], mutL := [], rtL := [], locL := [] }
noncomputable def b_ref04_Small : Code := match Go.Proofs.Tryz.f44.body with | some c => c | none => .skip
noncomputable def a_ref04_Small : An := (.seq .leaf (.seq (.seq .leaf (.cond (.seq .leaf .leaf) .leaf)) (.seq (.seq .leaf (.block (.loop [(5, .leaf (.int .i64))] (.seq (.seq .leaf (.cond .leaf .leaf)) (.seq (.block (.seq .leaf (.cond (.seq .leaf .leaf) .leaf))) .leaf))))) (.seq .leaf .leaf))))
theorem t_ref04_Small : Entry Go.Proofs.Tryz.prog 44 e_ref04_Small false :=
  entry_of (C := c_ref04_Small) (fn := Go.Proofs.Tryz.f44) (c := b_ref04_Small) (an := a_ref04_Small) ⟨t_ref04_Short, trivial⟩ trivial Go.Proofs.Tryz.func44 rfl rfl (by decide) (fun _ => rfl) (by intro a K D; kernel_rfl)
noncomputable def A_law04_few : ArgT (Sl × Unit) := (ArgT.cons (Ty.leaf .sl) ArgT.nil)
noncomputable def R_law04_few : Ty Bool := (Ty.leaf .bool)
noncomputable def e_law04_few : FSem := mkE A_law04_few R_law04_few (fun a => F.law04_few a.1)
noncomputable def c_law04_few : Cfg := { P := Go.Proofs.Tryz.prog, n := 15, tab := [(44, e_ref04_Small)], mutL := [], rtL := [], locL := [] }
noncomputable def b_law04_few : Code := match Go.Proofs.Tryz.f16.body with | some c => c | none => .skip
noncomputable def a_law04_few : An := (.seq .leaf (.seq (.seq .leaf (.block (.loop [(7, .leaf (.int .i64))] (.seq .leaf (.seq (.cond .leaf .leaf) (.seq (.block (.seq .leaf (.seq .leaf (.cond (.seq .leaf .leaf) .leaf)))) .leaf)))))) (.seq .leaf .leaf)))
theorem t_law04_few : Entry Go.Proofs.Tryz.prog 16 e_law04_few false :=
  entry_of (C := c_law04_few) (fn := Go.Proofs.Tryz.f16) (c := b_law04_few) (an := a_law04_few) ⟨t_ref04_Small, trivial⟩ trivial Go.Proofs.Tryz.func16 rfl rfl (by decide) (fun _ => rfl) (by intro a K D; kernel_rfl)
noncomputable def A_law04_own : ArgT (Sl × Unit) := (ArgT.cons (Ty.leaf .sl) ArgT.nil)
noncomputable def R_law04_own : Ty Sl := (Ty.leaf .sl)
noncomputable def e_law04_own : FSem := mkE A_law04_own R_law04_own (fun a => F.law04_own a.1)
noncomputable def c_law04_own : Cfg := { P := Go.Proofs.Tryz.prog, n := 6, tab := [], mutL := [], rtL := [], locL := [] }
noncomputable def b_law04_own : Code := match Go.Proofs.Tryz.f18.body with | some c => c | none => .skip
noncomputable def a_law04_own : An := (.seq .leaf (.seq .leaf .leaf))
theorem t_law04_own : Entry Go.Proofs.Tryz.prog 18 e_law04_own false :=
  entry_of (C := c_law04_own) (fn := Go.Proofs.Tryz.f18) (c := b_law04_own) (an := a_law04_own) trivial trivial Go.Proofs.Tryz.func18 rfl rfl (by decide) (fun _ => rfl) (by intro a K D; kernel_rfl)
noncomputable def A_ref04_Shift : ArgT (Sl × Int × Unit) := (ArgT.cons (Ty.leaf .sl) (ArgT.cons (Ty.leaf (.int .i64)) ArgT.nil))
noncomputable def R_ref04_Shift : Ty Sl := (Ty.leaf .sl)
noncomputable def e_ref04_Shift : FSem := mkE A_ref04_Shift R_ref04_Shift (fun a => F.ref04_Shift a.1 a.2.1)
noncomputable def c_ref04_Shift : Cfg := { P := Go.Proofs.Tryz.prog, n := 20, tab := [(101, e_ref04_zero), (25, e_ref04_Trim)], mutL := [], rtL := [], locL := [14] }
noncomputable def b_ref04_Shift : Code := match Go.Proofs.Tryz.f76.body with | some c => c | none => .skip
noncomputable def a_ref04_Shift : An := (.seq .leaf (.seq .leaf (.seq (.seq .leaf (.block (.loop [(5, .leaf (.sl)), (6, .leaf (.int .i64))] (.seq (.seq .leaf (.cond .leaf .leaf)) (.seq (.block .leaf) .leaf))))) (.seq .leaf .leaf))))
theorem t_ref04_Shift : Entry Go.Proofs.Tryz.prog 76 e_ref04_Shift false :=
  entry_of (C := c_ref04_Shift) (fn := Go.Proofs.Tryz.f76) (c := b_ref04_Shift) (an := a_ref04_Shift) ⟨t_ref04_zero, t_ref04_Trim, trivial⟩ trivial Go.Proofs.Tryz.func76 rfl rfl (by decide) (fun _ => rfl) (by intro a K D; kernel_rfl)
noncomputable def A_ref04_Mul : ArgT (Sl × Sl × Unit) := (ArgT.cons (Ty.leaf .sl) (ArgT.cons (Ty.leaf .sl) ArgT.nil))
noncomputable def R_ref04_Mul : Ty Sl := (Ty.leaf .sl)
noncomputable def e_ref04_Mul : FSem := mkE A_ref04_Mul R_ref04_Mul (fun a => F.ref04_Mul a.1 a.2.1)
noncomputable def c_ref04_Mul : Cfg := { P := Go.Proofs.Tryz.prog, n := 24, tab := [(33, e_ref04_Scale), (76, e_ref04_Shift), (40, e_ref04_Add)], mutL := [], rtL := [], locL := [] }
noncomputable def b_ref04_Mul : Code := match Go.Proofs.Tryz.f21.body with | some c => c | none => .skip
noncomputable def a_ref04_Mul : An := (.seq .leaf (.seq .leaf (.seq (.seq .leaf (.block (.loop [(5, .leaf (.sl)), (6, .leaf (.int .i64))] (.seq (.seq .leaf (.cond .leaf .leaf)) (.seq (.block .leaf) .leaf))))) (.seq .leaf .leaf))))
theorem t_ref04_Mul : Entry Go.Proofs.Tryz.prog 21 e_ref04_Mul false :=
  entry_of (C := c_ref04_Mul) (fn := Go.Proofs.Tryz.f21) (c := b_ref04_Mul) (an := a_ref04_Mul) ⟨t_ref04_Scale, t_ref04_Shift, t_ref04_Add, trivial⟩ trivial Go.Proofs.Tryz.func21 rfl rfl (by decide) (fun _ => rfl) (by intro a K D; kernel_rfl)
noncomputable def A_law04_good : ArgT (Sl × Sl × Unit) := (ArgT.cons (Ty.leaf .sl) (ArgT.cons (Ty.leaf .sl) ArgT.nil))
noncomputable def R_law04_good : Ty Bool := (Ty.leaf .bool)
noncomputable def e_law04_good : FSem := mkE A_law04_good R_law04_good (fun a => F.law04_good a.1 a.2.1)
noncomputable def c_law04_good : Cfg := { P := Go.Proofs.Tryz.prog, n := 20, tab := [(35, e_ref02_Valid), (70, e_ref04_Equal)], mutL := [], rtL := [], locL := [6] }
noncomputable def b_law04_good : Code := match Go.Proofs.Tryz.f20.body with | some c => c | none => .skip
noncomputable def a_law04_good : An := (.seq .leaf (.seq (.seq .leaf (.block (.loop [(9, .leaf (.int .i64))] (.seq .leaf (.seq (.cond .leaf .leaf) (.seq (.block (.seq .leaf (.seq .leaf (.cond (.seq .leaf .leaf) .leaf)))) .leaf)))))) (.seq .leaf .leaf)))
theorem t_law04_good : Entry Go.Proofs.Tryz.prog 20 e_law04_good false :=
  entry_of (C := c_law04_good) (fn := Go.Proofs.Tryz.f20) (c := b_law04_good) (an := a_law04_good) ⟨t_ref02_Valid, t_ref04_Equal, trivial⟩ trivial Go.Proofs.Tryz.func20 rfl rfl (by decide) (fun _ => rfl) (by intro a K D; kernel_rfl)
noncomputable def A_law04_PolynomialMul : ArgT (Sl × Sl × Sl × Unit) := (ArgT.cons (Ty.leaf .sl) (ArgT.cons (Ty.leaf .sl) (ArgT.cons (Ty.leaf .sl) ArgT.nil)))
noncomputable def R_law04_PolynomialMul : Ty Bool := (Ty.leaf .bool)
noncomputable def e_law04_PolynomialMul : FSem := mkE A_law04_PolynomialMul R_law04_PolynomialMul (fun a => F.law04_PolynomialMul a.1 a.2.1 a.2.2.1)
noncomputable def c_law04_PolynomialMul : Cfg := { P := Go.Proofs.Tryz.prog, n := 55, tab := [(15, e_law04_awake), (16, e_law04_few), (18, e_law04_own), (17, e_polynomial_Mul), (19, e_polynomial_Add), (21, e_ref04_Mul), (20, e_law04_good)], mutL := [], rtL := [], locL := [] }
noncomputable def b_law04_PolynomialMul : Code := match Go.Proofs.Tryz.f3.body with | some c => c | none => .skip
noncomputable def a_law04_PolynomialMul : An := (.seq .leaf (.seq (.seq .leaf (.cond (.seq .leaf .leaf) .leaf)) (.seq (.seq .leaf (.cond (.seq .leaf .leaf) .leaf)) (.seq .leaf (.seq .leaf (.seq .leaf .leaf))))))
theorem t_law04_PolynomialMul : Entry Go.Proofs.Tryz.prog 3 e_law04_PolynomialMul false :=
  entry_of (C := c_law04_PolynomialMul) (fn := Go.Proofs.Tryz.f3) (c := b_law04_PolynomialMul) (an := a_law04_PolynomialMul) ⟨t_law04_awake, t_law04_few, t_law04_own, t_polynomial_Mul, t_polynomial_Add, t_ref04_Mul, t_law04_good, trivial⟩ trivial Go.Proofs.Tryz.func3 rfl rfl (by decide) (fun _ => rfl) (by intro a K D; kernel_rfl)
noncomputable def A_ref04_Degree : ArgT (Sl × Unit) := (ArgT.cons (Ty.leaf .sl) ArgT.nil)
noncomputable def R_ref04_Degree : Ty Int := (Ty.leaf (.int .i64))
noncomputable def e_ref04_Degree : FSem := mkE A_ref04_Degree R_ref04_Degree (fun a => F.ref04_Degree a.1)
noncomputable def c_ref04_Degree : Cfg := { P := Go.Proofs.Tryz.prog, n := 7, tab := [(25, e_ref04_Trim)], mutL := [], rtL := [], locL := [] }
noncomputable def b_ref04_Degree : Code := match Go.Proofs.Tryz.f23.body with | some c => c | none => .skip
noncomputable def a_ref04_Degree : An := (.seq .leaf (.seq .leaf .leaf))
theorem t_ref04_Degree : Entry Go.Proofs.Tryz.prog 23 e_ref04_Degree false :=
  entry_of (C := c_ref04_Degree) (fn := Go.Proofs.Tryz.f23) (c := b_ref04_Degree) (an := a_ref04_Degree) ⟨t_ref04_Trim, trivial⟩ trivial Go.Proofs.Tryz.func23 rfl rfl (by decide) (fun _ => rfl) (by intro a K D; kernel_rfl)
noncomputable def A_ref02_Inv : ArgT (TRat × Unit) := (ArgT.cons tyTRat ArgT.nil)
noncomputable def R_ref02_Inv : Ty TRat := tyTRat
noncomputable def e_ref02_Inv : FSem := mkE A_ref02_Inv R_ref02_Inv (fun a => F.ref02_Inv a.1)
noncomputable def c_ref02_Inv : Cfg := { P := Go.Proofs.Tryz.prog, n := 18, tab := [(93, e_ref01_Neg)], mutL := [], rtL := [(3, 1), (4, 1), (6, 1), (9, 1), (13, 1), (15, 1)], locL := [1, 2] }
noncomputable def b_ref02_Inv : Code := match Go.Proofs.Tryz.f166.body with | some c => c | none => .skip
noncomputable def a_ref02_Inv : An := (.seq .leaf (.seq (.seq .leaf (.cond (.seq (.draw [0, 1, 3, 4, 2, 5, 6, 7]) .leaf) .leaf)) (.seq .leaf .leaf)))
theorem t_ref02_Inv : Entry Go.Proofs.Tryz.prog 166 e_ref02_Inv false :=
  entry_of (C := c_ref02_Inv) (fn := Go.Proofs.Tryz.f166) (c := b_ref02_Inv) (an := a_ref02_Inv) ⟨t_ref01_Neg, trivial⟩ trivial Go.Proofs.Tryz.func166 rfl rfl (by decide) (fun _ => rfl) (by intro a K D; kernel_rfl)
end Den
end
