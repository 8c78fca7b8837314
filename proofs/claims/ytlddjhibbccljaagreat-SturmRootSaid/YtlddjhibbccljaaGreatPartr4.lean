/-
  Part 4 of the tools and contracts from which the statement is proved.
-/
import Derived.Test.YtlddjhibbccljaaGreatPartr3
import Derived.Test.YtlddjhibbccljaaGreatChecked
import Derived.Lib.Bytealg
set_option linter.unusedVariables false
section
set_option linter.unusedVariables false
namespace Den
open Go Iv
/-- a is any value of the type. -/
def AI (h : Hp) (a : TInt) : Prop := ∃ l, RdW h a.mag l ∧ okW l
def AR (h : Hp) (x : TRat) : Prop := AI h x.num ∧ AI h x.den
def AV (h : Hp) (x : TInterval) : Prop := AR h x.low ∧ AR h x.high
theorem AI.le {h h' : Hp} {a : TInt} (ha : AI h a) (hl : h.le h') : AI h' a := by obtain ⟨l, h1, h2⟩ := ha; exact ⟨l, h1.le hl, h2⟩
theorem AR.le {h h' : Hp} {x : TRat} (hx : AR h x) (hl : h.le h') : AR h' x := ⟨hx.1.le hl, hx.2.le hl⟩
theorem AV.le {h h' : Hp} {x : TInterval} (hx : AV h x) (hl : h.le h') : AV h' x := ⟨hx.1.le hl, hx.2.le hl⟩
theorem wc_inj : ∀ {l m : List Nat}, wc l = wc m → l = m
  | [], [], _ => rfl
  | [], _ :: _, h => by simp [wc] at h
  | _ :: _, [], h => by simp [wc] at h
  | x :: r, y :: t, h => by
    simp only [wc, List.map_cons, List.cons.injEq, Value.int.injEq, true_and] at h
    rw [wc_inj (l := r) (m := t) h.2, show x = y by omega]
theorem RdW.uniq {h : Hp} {x : Sl} {l m : List Nat} (h1 : RdW h x l) (h2 : RdW h x m) : l = m := by
  have a1 := h1.1
  have a2 := h2.1
  have e : (wc l).length = (wc m).length := by rw [← a1.1, ← a2.1]
  have b1 := a1.2
  have b2 := a2.2
  rw [e, b2] at b1
  exact (wc_inj (Option.some.inj b1)).symm
theorem NI.inj {h : Hp} {a : TInt} {m n : Int} (h1 : NI h a m) (h2 : NI h a n) : m = n := by
  have e := dg_inj (h1.1.uniq h2.1)
  have e2 : decide (m < 0) = decide (n < 0) := by rw [← h1.2, ← h2.2]
  have e3 : m < 0 ↔ n < 0 := by simpa using e2
  omega
/-- What a value must be to be a number. -/
theorem NI_iff {h : Hp} {a : TInt} {l : List Nat} (hr : RdW h a.mag l) (ok : okW l) : (∃ n, NI h a n) ↔ trimL l = l ∧ (a.neg = true → l ≠ []) := by
  constructor
  · rintro ⟨n, hn⟩
    have e := hr.uniq hn.1
    subst e
    refine ⟨trim_dg _, fun hneg he => ?_⟩
    rw [hn.2] at hneg
    have h1 : n < 0 := by simpa using hneg
    have := dg_nil.1 he
    omega
  · rintro ⟨h1, h2⟩
    have e := dg_of_can ok h1
    refine ⟨sg a.neg (vl l), ?_, ?_⟩
    · rw [sg_abs, ← e]; exact hr
    · cases hb : a.neg with
      | false => simp [sg]
      | true =>
        have h3 := h2 hb
        have h4 : vl l ≠ 0 := fun h0 => h3 (by rw [e, h0, dg_zero])
        simp [sg]; omega
theorem NR_iff {h : Hp} {x : TRat} {m n : Int} (h1 : NI h x.num m) (h2 : NI h x.den n) : (∃ q, NR h x q) ↔ 0 < n ∧ Nat.gcd m.natAbs n.natAbs = 1 := by
  constructor
  · rintro ⟨q, hq⟩
    have e1 := h1.inj hq.1
    have e2 := h2.inj hq.2
    subst e1 e2
    exact ⟨dpos q, by rw [natAbs_den]; exact q.reduced⟩
  · rintro ⟨h3, h4⟩
    have hnn : n.toNat = n.natAbs := by omega
    refine ⟨⟨m, n.toNat, by omega, by rw [hnn]; exact h4⟩, h1, ?_⟩
    show NI h x.den ((n.toNat : Nat) : Int)
    rw [Int.toNat_of_nonneg (by omega)]; exact h2
section
variable {h : Hp} {a : TInt} {x : TRat} {v : TInterval} {Kb : Bool → Hp → Prop}

theorem rValid_call (ha : AI h a) (hl : a.mag.len ≤ 35184372087808) (H1 : ∀ n, NI h a n → Kb true h) (H0 : (¬ ∃ n, NI h a n) → Kb false h) : callP (F.ref01_Valid a) Kb h := by
  obtain ⟨l, hr, ok⟩ := ha
  have ll := hr.len
  have hiff := NI_iff hr ok
  refine callP_of (fun b h' => h' = h ∧ (b = true ∧ (∃ n, NI h a n) ∨ b = false ∧ ¬ ∃ n, NI h a n)) (fun K' hk => ?_) fun b h' _ ⟨e, hv⟩ => by
    subst e
    rcases hv with ⟨rfl, n, hn⟩ | ⟨rfl, hn⟩
    · exact H1 n hn
    · exact H0 hn
  unfold F.ref01_Valid
  refine rtrim_call hr (by omega) fun y hy => ?_
  have ly := hy.len
  refine ifP_eq (fun h1 => ?_) (fun h1 => ?_)
  · have hlen : (trimL l).length = l.length := by omega
    have ht : trimL l = l := by
      have := trim_take l
      rw [hlen, List.take_of_length_le (Nat.le_refl _)] at this
      exact this
    refine ifP_intro (fun h2 => ?_) (fun h2 => ?_)
    · refine hk _ _ (Hp.le_refl _) ⟨rfl, .inl ⟨rfl, hiff.2 ⟨ht, fun hn => ?_⟩⟩⟩
      rw [hn] at h2; cases h2
    · refine hk _ _ (Hp.le_refl _) ⟨rfl, ?_⟩
      have hneg : a.neg = true := by simpa using h2
      by_cases h3 : (a.mag.len : Int) > 0
      · exact .inl ⟨decide_eq_true h3, hiff.2 ⟨ht, fun _ he => by rw [he] at ll; simp at ll; omega⟩⟩
      · refine .inr ⟨decide_eq_false h3, fun hn => (hiff.1 hn).2 hneg (List.length_eq_zero_iff.1 (by omega))⟩
  · refine hk _ _ (Hp.le_refl _) ⟨rfl, .inr ⟨rfl, fun hn => h1 ?_⟩⟩
    have := (hiff.1 hn).1
    rw [this] at ly
    omega
theorem top_trim {l : List Nat} {n : Nat} (hn : l.length = n + 1) : trimL l = l ↔ l[n] ≠ 0 := by
  have e : l = l.take n ++ [l[n]] := by
    have := List.take_succ_eq_append_getElem (l := l) (i := n) (by omega)
    rw [List.take_of_length_le (by omega)] at this
    exact this
  constructor
  · intro h1 h0
    have h2 : trimL l = trimL (l.take n) := by
      conv => lhs; rw [e, h0]
      exact trim_snoc_zero _
    have h3 := trim_len (l.take n)
    rw [← h2, h1, List.length_take] at h3
    omega
  · intro h0
    conv => lhs; rw [e]
    rw [trim_snoc_pos _ h0]
    exact e.symm
theorem Valid_call (ha : AI h a) (hl : a.mag.len ≤ 35184372087808) (H1 : ∀ n, NI h a n → Kb true h) (H0 : (¬ ∃ n, NI h a n) → Kb false h) : callP (F.integer_Valid a) Kb h := by
  obtain ⟨l, hr, ok⟩ := ha
  have ll := hr.len
  have hiff := NI_iff hr ok
  refine callP_of (fun b h' => h' = h ∧ (b = true ∧ (∃ n, NI h a n) ∨ b = false ∧ ¬ ∃ n, NI h a n)) (fun K' hk => ?_) fun b h' _ ⟨e, hv⟩ => by
    subst e
    rcases hv with ⟨rfl, n, hn⟩ | ⟨rfl, hn⟩
    · exact H1 n hn
    · exact H0 hn
  unfold F.integer_Valid
  refine ifP_eq (fun h1 => ?_) (fun h1 => ?_)
  · have hnil : l = [] := List.length_eq_zero_iff.1 (by omega)
    refine ifP_intro (fun h2 => ?_) (fun h2 => ?_)
    · refine hk _ _ (Hp.le_refl _) ⟨rfl, .inl ⟨rfl, hiff.2 ⟨by rw [hnil]; rfl, fun hn => ?_⟩⟩⟩
      rw [hn] at h2; cases h2
    · have hneg : a.neg = true := by simpa using h2
      refine ifP_dec (fun h3 => by omega) (fun h3 => hk _ _ (Hp.le_refl _) ⟨rfl, .inr ⟨rfl, fun hn => (hiff.1 hn).2 hneg hnil⟩⟩)
  · obtain ⟨n, hn⟩ : ∃ n, l.length = n + 1 := ⟨l.length - 1, by omega⟩
    refine ifP_dec (fun h3 => ?_) (fun h3 => by omega)
    refine rd_word n hr (by rw [ll, hn, w64 (by omega)]; omega) (by omega) fun u hu => ⟨_, hu, hk _ _ (Hp.le_refl _) ⟨rfl, ?_⟩⟩
    have htt := top_trim hn
    by_cases h4 : l[n] = 0
    · refine .inr ⟨by rw [h4]; rfl, fun hh => (htt.1 (hiff.1 hh).1) h4⟩
    · refine .inl ⟨by simp; omega, hiff.2 ⟨htt.2 h4, fun _ he => by rw [he] at hn; simp at hn⟩⟩

theorem len_ok {n : Int} (ha : NI h a n) (hl : a.mag.len ≤ 35184372087808) : (dg n.natAbs).length ≤ 35184372087808 := by have := ha.len; omega
theorem rqValid_call (hx : AR h x) (hl1 : x.num.mag.len ≤ 35184372087808) (hl2 : x.den.mag.len ≤ 35184372087808) (H1 : ∀ q h', h.le h' → NR h x q → Kb true h') (H0 : ∀ h', h.le h' → (¬ ∃ q, NR h x q) → Kb false h') : callP (F.ref02_Valid x) Kb h := by
  refine callP_of (fun b h' => b = true ∧ (∃ q, NR h x q) ∨ b = false ∧ ¬ ∃ q, NR h x q) (fun K' hk => ?_) fun b h' hl hv => by
    rcases hv with ⟨rfl, n, hn⟩ | ⟨rfl, hn⟩
    · exact H1 n h' hl hn
    · exact H0 h' hl hn
  unfold F.ref02_Valid
  refine rValid_call hx.1 hl1 (fun m hm => ifP_true rfl (rValid_call hx.2 hl2 (fun n hn => ifP_true rfl ?_) (fun hn => ifP_false rfl (hk _ _ (Hp.le_refl _) (.inr ⟨rfl, fun ⟨q, hq⟩ => hn ⟨_, hq.2⟩⟩))))) (fun hn => ifP_false rfl (hk _ _ (Hp.le_refl _) (.inr ⟨rfl, fun ⟨q, hq⟩ => hn ⟨_, hq.1⟩⟩)))
  have hiff := NR_iff hm hn
  have s := sign_range n
  refine rSign_callX hn (len_ok hn hl2) (ifP_dec (fun h1 => ?_) (fun h1 => hk _ _ (Hp.le_refl _) (.inr ⟨rfl, fun hh => by have := (hiff.1 hh).1; omega⟩)))
  refine rGCD_callX hm hn (len_ok hm hl1) (len_ok hn hl2) fun z h2 hl hz => rone_call hz (hk _ _ hl ?_)
  by_cases h3 : Nat.gcd m.natAbs n.natAbs = 1
  · exact .inl ⟨decide_eq_true (by rw [h3]; rfl), hiff.2 ⟨by omega, h3⟩⟩
  · exact .inr ⟨decide_eq_false (fun hh => h3 (by omega)), fun hh => h3 (hiff.1 hh).2⟩
theorem qValid_call (hx : AR h x) (hl1 : x.num.mag.len ≤ 35184372087808) (hl2 : x.den.mag.len ≤ 35184372087808) (H1 : ∀ q h', h.le h' → NR h x q → Kb true h') (H0 : ∀ h', h.le h' → (¬ ∃ q, NR h x q) → Kb false h') : callP (F.rational_Valid x) Kb h := by
  refine callP_of (fun b h' => b = true ∧ (∃ q, NR h x q) ∨ b = false ∧ ¬ ∃ q, NR h x q) (fun K' hk => ?_) fun b h' hl hv => by
    rcases hv with ⟨rfl, n, hn⟩ | ⟨rfl, hn⟩
    · exact H1 n h' hl hn
    · exact H0 h' hl hn
  unfold F.rational_Valid
  refine Valid_call hx.1 hl1 (fun m hm => ifP_true rfl (Valid_call hx.2 hl2 (fun n hn => ifP_true rfl ?_) (fun hn => ifP_false rfl (hk _ _ (Hp.le_refl _) (.inr ⟨rfl, fun ⟨q, hq⟩ => hn ⟨_, hq.2⟩⟩))))) (fun hn => ifP_false rfl (hk _ _ (Hp.le_refl _) (.inr ⟨rfl, fun ⟨q, hq⟩ => hn ⟨_, hq.1⟩⟩)))
  have hiff := NR_iff hm hn
  have s := sign_range n
  refine Sign_callX hn (len_ok hn hl2) (ifP_dec (fun h1 => ?_) (fun h1 => hk _ _ (Hp.le_refl _) (.inr ⟨rfl, fun hh => by have := (hiff.1 hh).1; omega⟩)))
  refine GCD_callX hm hn (len_ok hm hl1) (len_ok hn hl2) fun z h2 hl hz => isOne_call hz (hk _ _ hl ?_)
  by_cases h3 : Nat.gcd m.natAbs n.natAbs = 1
  · exact .inl ⟨decide_eq_true (by rw [h3]; rfl), hiff.2 ⟨by omega, h3⟩⟩
  · exact .inr ⟨decide_eq_false (fun hh => h3 (by omega)), fun hh => h3 (hiff.1 hh).2⟩
theorem NR_BR {q : Rat} {k : Nat} (hq : NR h x q) (h1 : x.num.mag.len ≤ k) (h2 : x.den.mag.len ≤ k) : BR k q := by
  have e1 := hq.1.len
  have e2 := hq.2.len
  exact ⟨dg_len.1 (by omega), dg_len.1 (by omega)⟩
end
end Den
end

section
set_option linter.unusedVariables false
namespace Den
open Go Iv Go.Proofs
open Go.ChangeShapes Go.WideShapes Go.ChangeAt Go.RowKit
theorem laid_prog : laidOutB Tryz.prog = true := by kernel_rfl
theorem rowed_prog : mapsRowed Tryz.prog = true := by kernel_rfl
theorem sized_prog : sizedB Tryz.prog = true := by kernel_rfl
theorem c_bool : Tryz.prog.cellsOf 4 = 1 := by kernel_rfl
theorem by_u32 : Tryz.prog.bytesOf 122 = 4 := by kernel_rfl
theorem c_u32 : Tryz.prog.cellsOf 122 = 1 := by kernel_rfl
theorem c_W : Tryz.prog.cellsOf 35 = 1 := by kernel_rfl
theorem c_I : Tryz.prog.cellsOf 37 = 2 := by kernel_rfl
theorem c_R : Tryz.prog.cellsOf 39 = 4 := by kernel_rfl
theorem c_V : Tryz.prog.cellsOf 59 = 8 := by kernel_rfl
section
variable {H : Type} {enc : TypeId × Value → H} {w : World} {cs : List Value}
theorem wc_of : ∀ {css : List (List Value)}, (∀ c ∈ css, c.length = 1 ∧ Okt enc Tryz.prog w 122 c) → ∃ l : List Nat, css.flatten = wc l ∧ okW l
  | [], _ => ⟨[], rfl, fun d hd => by simp at hd⟩
  | c :: r, h => by
    obtain ⟨l, h1, h2⟩ := wc_of (css := r) fun x hx => h x (List.mem_cons_of_mem _ hx)
    obtain ⟨m, rfl, hw⟩ := (h c (by simp)).2.int Tryz.underlying122
    simp [Lit.wf, IntKind.min, IntKind.max, IntKind.signed, IntKind.bits] at hw
    refine ⟨m.toNat :: l, ?_, fun d hd => ?_⟩
    · rw [List.flatten_cons, h1]
      simp only [wc, List.map_cons, List.cons_append, List.nil_append]
      rw [Int.toNat_of_nonneg (by omega)]
    · rcases List.mem_cons.1 hd with rfl | hd
      · rw [W_eq]; omega
      · exact h2 d hd
theorem okt_W (h : Okt enc Tryz.prog w 35 cs) : ∃ s : Sl, cs = [Lf.sl.up s] ∧ s.len ≤ 35184372087808 ∧ ∃ l, RdW (hpW w) s l ∧ okW l := by
  obtain ⟨s, rfl, h1, h2, css, h3, h4, h5⟩ := h.slice Tryz.underlying35
  rw [c_u32] at h4 h5
  rw [by_u32, show reachBytes = 140737488351232 from rfl] at h2
  obtain ⟨l, hl, ok⟩ := wc_of h4
  rw [hl] at h5
  exact ⟨s, rfl, by omega, l, ⟨h5, h1⟩, ok⟩
theorem okt_I (h : Okt enc Tryz.prog w 37 cs) : ∃ x : TInt, cs = [.bool x.neg, Lf.sl.up x.mag] ∧ x.mag.len ≤ 35184372087808 ∧ AI (hpW w) x := by
  obtain ⟨hl, hf⟩ := h.fields Tryz.underlying37
  rw [c_I] at hl
  have h0 : Okt enc Tryz.prog w 4 ((cs.drop 0).take (Tryz.prog.cellsOf 4)) := hf 0 _ rfl
  have h1 : Okt enc Tryz.prog w 35 ((cs.drop 1).take (Tryz.prog.cellsOf 35)) := hf 1 _ rfl
  rw [c_bool, List.drop_zero] at h0
  rw [c_W] at h1
  obtain ⟨b, hb⟩ := h0.bool Tryz.underlying4
  obtain ⟨s, hs, hm, hr⟩ := okt_W h1
  refine ⟨⟨b, s⟩, ?_, hm, hr⟩
  rw [← List.take_append_drop 1 cs, hb, ← List.take_of_length_le (l := cs.drop 1) (i := 1) (by simp [hl]), hs]
  rfl
theorem okt_RS (h : Okt enc Tryz.prog w 39 cs) : ∃ x : TRat, cs = [.bool x.num.neg, Lf.sl.up x.num.mag, .bool x.den.neg, Lf.sl.up x.den.mag] ∧ (x.num.mag.len ≤ 35184372087808 ∧ x.den.mag.len ≤ 35184372087808) ∧ AR (hpW w) x := by
  obtain ⟨hl, hf⟩ := h.fields Tryz.underlying39
  rw [c_R] at hl
  have h0 : Okt enc Tryz.prog w 37 ((cs.drop 0).take (Tryz.prog.cellsOf 37)) := hf 0 _ rfl
  have h1 : Okt enc Tryz.prog w 37 ((cs.drop 2).take (Tryz.prog.cellsOf 37)) := hf 1 _ rfl
  rw [c_I, List.drop_zero] at h0
  rw [c_I] at h1
  obtain ⟨x, hx, mx, ax⟩ := okt_I h0
  obtain ⟨y, hy, my, ay⟩ := okt_I h1
  refine ⟨⟨x, y⟩, ?_, ⟨mx, my⟩, ax, ay⟩
  rw [← List.take_append_drop 2 cs, hx, ← List.take_of_length_le (l := cs.drop 2) (i := 2) (by simp [hl]), hy]
  rfl
theorem okt_R (h : Okt enc Tryz.prog w 39 cs) : ∃ x : TRat, cs = [.bool x.num.neg, Lf.sl.up x.num.mag, .bool x.den.neg, Lf.sl.up x.den.mag] ∧ (x.num.mag.len ≤ 35184372088832 ∧ x.den.mag.len ≤ 35184372088832) ∧ AR (hpW w) x := by
  obtain ⟨x, h1, h2, h3⟩ := okt_RS h
  exact ⟨x, h1, ⟨by omega, by omega⟩, h3⟩
theorem okt_V (h : Okt enc Tryz.prog w 59 cs) : ∃ x : TInterval, cs = [.bool x.low.num.neg, Lf.sl.up x.low.num.mag, .bool x.low.den.neg, Lf.sl.up x.low.den.mag, .bool x.high.num.neg, Lf.sl.up x.high.num.mag, .bool x.high.den.neg, Lf.sl.up x.high.den.mag] ∧
    (x.low.num.mag.len ≤ 35184372088832 ∧ x.low.den.mag.len ≤ 35184372088832 ∧ x.high.num.mag.len ≤ 35184372088832 ∧ x.high.den.mag.len ≤ 35184372088832) ∧ AV (hpW w) x := by
  obtain ⟨hl, hf⟩ := h.fields Tryz.underlying59
  rw [c_V] at hl
  have h0 : Okt enc Tryz.prog w 39 ((cs.drop 0).take (Tryz.prog.cellsOf 39)) := hf 0 _ rfl
  have h1 : Okt enc Tryz.prog w 39 ((cs.drop 4).take (Tryz.prog.cellsOf 39)) := hf 1 _ rfl
  rw [c_R, List.drop_zero] at h0
  rw [c_R] at h1
  obtain ⟨x, hx, mx, ax⟩ := okt_R h0
  obtain ⟨y, hy, my, ay⟩ := okt_R h1
  refine ⟨⟨x, y⟩, ?_, ⟨mx.1, mx.2, my.1, my.2⟩, ax, ay⟩
  rw [← List.take_append_drop 4 cs, hx, ← List.take_of_length_le (l := cs.drop 4) (i := 4) (by simp [hl]), hy]
  rfl
end
/-- An argument that is a struct or an array. -/
theorem agg_of {P : Program} {W : World} {r : Reach} {b : Nat} {t : TypeId} {v : Value} (h : Value.okWide P W r b t v) (hu : isAgg? P t = some true) : ∃ c : List Value, v = .agg c.toArray ∧ v.cells.toList = c := by
  unfold isAgg? at hu
  unfold Value.okWide at h
  split at h
  · obtain ⟨cs, rfl, _⟩ := h; exact ⟨cs.toList, by simp, by simp [Value.cells]⟩
  · obtain ⟨cs, rfl, _⟩ := h; exact ⟨cs.toList, by simp, by simp [Value.cells]⟩
  · rename_i h1 h2
    split at hu
    · rename_i hh; exact absurd hh (h1 _)
    · rename_i hh; exact absurd hh (h2 _ _)
    · cases hu
    · cases hu
end Den
end

section
set_option linter.unusedVariables false
set_option maxRecDepth 10000
namespace Den
open Go
structure A3_TRat where
  c0 : TRat
  c1 : TRat
  c2 : TRat
namespace F
def slices_Clone_api_Rat_api_Rat (s : Sl) (K : Sl → Hp → Prop) (h : Hp) : Prop :=
 (ifP s.a.isNone
 (K nilS h)
 (newP [] (fun p1 h1 =>
 (rdO s.a (s.len * 4) (fun vs2 =>
 (appP 4 64 [.bool false, .slice nilS.a nilS.len nilS.cap, .bool false, .slice nilS.a nilS.len nilS.cap] (⟨some p1, 0, 0⟩ : Sl) s.len vs2 (fun w3 h2 =>
 (K w3 h2)) h1)) h1)) h))
def polynomial_Trim (a : Sl) (K : Sl → Hp → Prop) (h : Hp) : Prop :=
 (joinP (S := Int × Unit) (fun s1 h1 =>
 (slP a 0 s1.1 4 fun c3 =>
 (callP (slices_Clone_api_Rat_api_Rat c3) (fun r4 h2 =>
 (K r4 h2)) h1)))
 (fun k2 =>
 (loopP (S := Int × Unit) (fun s5 k6 h3 =>
 (joinP (S := Unit) (fun s7 h4 =>
 (k6 ((IntKind.i64.wrap (s5.1 - 1)), ()) h4))
 (fun k8 =>
 (ifP (decide (s5.1 > 0))
 (idxP a (IntKind.i64.wrap (s5.1 - 1)) 4 fun a9 =>
 (ldL (.bool) (a9.add 0) (fun x10_0 =>
 (ldL (.sl) (a9.add 1) (fun x10_1 =>
 (ldL (.bool) (a9.add 2) (fun x10_2 =>
 (ldL (.sl) (a9.add 3) (fun x10_3 =>
 (callP (rational_Sign (⟨(⟨x10_0, x10_1⟩ : TInt), (⟨x10_2, x10_3⟩ : TInt)⟩ : TRat)) (fun r11 h5 =>
 (ifP (r11 == 0)
 (k8 () h5)
 (k2 (s5.1, ()) h5))) h3)) h3)) h3)) h3)) h3))
 (k2 (s5.1, ()) h3)))))
 ((a.len : Int), ()) h)))
def polynomial_Degree (a : Sl) (K : Int → Hp → Prop) (h : Hp) : Prop :=
 (callP (polynomial_Trim a) (fun r1 h1 =>
 (K (IntKind.i64.wrap ((r1.len : Int) - 1)) h1)) h)
def math_bits_Mul64 (x : Int) (y : Int) (K : (Int × Int) → Hp → Prop) (h : Hp) : Prop :=
 (0 ≤ (32 : Int) ∧
 (0 ≤ (32 : Int) ∧
 (0 ≤ (32 : Int) ∧
 (0 ≤ (32 : Int) ∧
 (0 ≤ (32 : Int) ∧
 (K ((IntKind.u64.wrap ((IntKind.u64.wrap ((IntKind.u64.wrap (((x : Int).fdiv (2 ^ (min (32 : Int).toNat IntKind.u64.bits))) * ((y : Int).fdiv (2 ^ (min (32 : Int).toNat IntKind.u64.bits))))) + (((IntKind.u64.wrap ((IntKind.u64.wrap (((x : Int).fdiv (2 ^ (min (32 : Int).toNat IntKind.u64.bits))) * (ibits .and .u64 y 4294967295))) + (((IntKind.u64.wrap ((ibits .and .u64 x 4294967295) * (ibits .and .u64 y 4294967295))) : Int).fdiv (2 ^ (min (32 : Int).toNat IntKind.u64.bits))))) : Int).fdiv (2 ^ (min (32 : Int).toNat IntKind.u64.bits))))) + (((IntKind.u64.wrap ((ibits .and .u64 (IntKind.u64.wrap ((IntKind.u64.wrap (((x : Int).fdiv (2 ^ (min (32 : Int).toNat IntKind.u64.bits))) * (ibits .and .u64 y 4294967295))) + (((IntKind.u64.wrap ((ibits .and .u64 x 4294967295) * (ibits .and .u64 y 4294967295))) : Int).fdiv (2 ^ (min (32 : Int).toNat IntKind.u64.bits))))) 4294967295) + (IntKind.u64.wrap ((ibits .and .u64 x 4294967295) * ((y : Int).fdiv (2 ^ (min (32 : Int).toNat IntKind.u64.bits))))))) : Int).fdiv (2 ^ (min (32 : Int).toNat IntKind.u64.bits))))), (IntKind.u64.wrap (x * y))) h))))))
def math_bits_Mul (x : Int) (y : Int) (K : (Int × Int) → Hp → Prop) (h : Hp) : Prop :=
 (callP (math_bits_Mul64 x y) (fun r1 h1 =>
 (K (r1.1, r1.2) h1)) h)
def slices_Repeat_api_Rat_api_Rat (x : Sl) (count : Int) (K : Sl → Hp → Prop) (h : Hp) : Prop :=
 (joinP (S := Unit) (fun s1 h1 =>
 (callP (math_bits_Mul (IntKind.u64.wrap ((x.len : Int))) (IntKind.u64.wrap (count))) (fun r3 h2 =>
 (joinP (S := Unit) (fun s4 h3 =>
 (mkP (IntKind.i64.wrap (r3.2)) (IntKind.i64.wrap (r3.2)) 64 [.bool false, .slice nilS.a nilS.len nilS.cap, .bool false, .slice nilS.a nilS.len nilS.cap] (fun m6 h4 =>
 (cpP 4 m6 x (fun n7 h5 =>
 (loopP (S := Int × Unit) (fun s8 k9 h6 =>
 (ifP (decide (s8.1 < (m6.len : Int)))
 (slP m6 s8.1 (m6.len : Int) 4 fun c10 =>
 (slP m6 0 s8.1 4 fun c11 =>
 (cpP 4 c10 c11 (fun n12 h7 =>
 (k9 ((IntKind.i64.wrap (s8.1 + (n12 : Int))), ()) h7)) h6)))
 (K m6 h6)))
 ((n7 : Int), ()) h5)) h4)) h3))
 (fun k5 =>
 (ifP (decide (r3.1 > 0))
 False
 (ifP (decide (r3.2 > 9223372036854775807))
 False
 (k5 () h2)))))) h1))
 (fun k2 =>
 (ifP (decide (count < 0))
 False
 (k2 () h))))
def polynomial_zeros (n : Int) (K : Sl → Hp → Prop) (h : Hp) : Prop :=
 (callP (rational_FromInt 0) (fun r1 h1 =>
 (newP [.bool r1.num.neg, .slice r1.num.mag.a r1.num.mag.len r1.num.mag.cap, .bool r1.den.neg, .slice r1.den.mag.a r1.den.mag.len r1.den.mag.cap] (fun p2 h2 =>
 (callP (slices_Repeat_api_Rat_api_Rat (⟨some p2, 1, 1⟩ : Sl) n) (fun r3 h3 =>
 (K r3 h3)) h2)) h1)) h)
def polynomial_divide (a : Sl) (b : Sl) (K : (Sl × Sl) → Hp → Prop) (h : Hp) : Prop :=
 (callP (polynomial_Trim b) (fun r1 h1 =>
 (callP (polynomial_Trim a) (fun r2 h2 =>
 (callP (polynomial_zeros (maxI 0 (IntKind.i64.wrap ((IntKind.i64.wrap ((r2.len : Int) - (r1.len : Int))) + 1)))) (fun r3 h3 =>
 (loopP (S := Int × Unit) (fun s4 k5 h4 =>
 (ifP (decide (s4.1 ≥ 0))
 (idxP r2 (IntKind.i64.wrap ((IntKind.i64.wrap (s4.1 + (r1.len : Int))) - 1)) 4 fun a6 =>
 (ldL (.bool) (a6.add 0) (fun x7_0 =>
 (ldL (.sl) (a6.add 1) (fun x7_1 =>
 (ldL (.bool) (a6.add 2) (fun x7_2 =>
 (ldL (.sl) (a6.add 3) (fun x7_3 =>
 (idxP r1 (IntKind.i64.wrap ((r1.len : Int) - 1)) 4 fun a8 =>
 (ldL (.bool) (a8.add 0) (fun x9_0 =>
 (ldL (.sl) (a8.add 1) (fun x9_1 =>
 (ldL (.bool) (a8.add 2) (fun x9_2 =>
 (ldL (.sl) (a8.add 3) (fun x9_3 =>
 (callP (rational_Div (⟨(⟨x7_0, x7_1⟩ : TInt), (⟨x7_2, x7_3⟩ : TInt)⟩ : TRat) (⟨(⟨x9_0, x9_1⟩ : TInt), (⟨x9_2, x9_3⟩ : TInt)⟩ : TRat)) (fun r10 h5 =>
 (idxP r3 s4.1 4 fun a11 =>
 (stP a11 [.bool r10.1.num.neg, .slice r10.1.num.mag.a r10.1.num.mag.len r10.1.num.mag.cap, .bool r10.1.den.neg, .slice r10.1.den.mag.a r10.1.den.mag.len r10.1.den.mag.cap] (fun h6 =>
 (loopP (S := Int × Unit) (fun s12 k13 h7 =>
 (ifP (decide (s12.1 < (r1.len : Int)))
 (idxP r1 s12.1 4 fun a14 =>
 (ldL (.bool) (a14.add 0) (fun x15_0 =>
 (ldL (.sl) (a14.add 1) (fun x15_1 =>
 (ldL (.bool) (a14.add 2) (fun x15_2 =>
 (ldL (.sl) (a14.add 3) (fun x15_3 =>
 (idxP r2 (IntKind.i64.wrap (s4.1 + s12.1)) 4 fun a16 =>
 (ldL (.bool) (a16.add 0) (fun x17_0 =>
 (ldL (.sl) (a16.add 1) (fun x17_1 =>
 (ldL (.bool) (a16.add 2) (fun x17_2 =>
 (ldL (.sl) (a16.add 3) (fun x17_3 =>
 (idxP r3 s4.1 4 fun a18 =>
 (ldL (.bool) (a18.add 0) (fun x19_0 =>
 (ldL (.sl) (a18.add 1) (fun x19_1 =>
 (ldL (.bool) (a18.add 2) (fun x19_2 =>
 (ldL (.sl) (a18.add 3) (fun x19_3 =>
 (callP (rational_Mul (⟨(⟨x19_0, x19_1⟩ : TInt), (⟨x19_2, x19_3⟩ : TInt)⟩ : TRat) (⟨(⟨x15_0, x15_1⟩ : TInt), (⟨x15_2, x15_3⟩ : TInt)⟩ : TRat)) (fun r20 h8 =>
 (callP (rational_Sub (⟨(⟨x17_0, x17_1⟩ : TInt), (⟨x17_2, x17_3⟩ : TInt)⟩ : TRat) r20) (fun r21 h9 =>
 (idxP r2 (IntKind.i64.wrap (s4.1 + s12.1)) 4 fun a22 =>
 (stP a22 [.bool r21.num.neg, .slice r21.num.mag.a r21.num.mag.len r21.num.mag.cap, .bool r21.den.neg, .slice r21.den.mag.a r21.den.mag.len r21.den.mag.cap] (fun h10 =>
 (k13 ((IntKind.i64.wrap (s12.1 + 1)), ()) h10)) h9))) h8)) h7)) h7)) h7)) h7)) h7))) h7)) h7)) h7)) h7))) h7)) h7)) h7)) h7))
 (k5 ((IntKind.i64.wrap (s4.1 - 1)), ()) h7)))
 (0, ()) h6)) h5))) h4)) h4)) h4)) h4)) h4))) h4)) h4)) h4)) h4))
 (callP (polynomial_Trim r3) (fun r23 h11 =>
 (callP (polynomial_Trim r2) (fun r24 h12 =>
 (K (r23, r24) h12)) h11)) h4)))
 ((IntKind.i64.wrap ((r2.len : Int) - (r1.len : Int))), ()) h3)) h2)) h1)) h)
def polynomial_DivMod (a : Sl) (b : Sl) (K : (Sl × Sl × Int) → Hp → Prop) (h : Hp) : Prop :=
 (callP (polynomial_Degree b) (fun r1 h1 =>
 (ifP (decide (r1 < 0))
 (K (nilS, nilS, 6) h1)
 (callP (polynomial_divide a b) (fun r2 h2 =>
 (K (r2.1, r2.2, 0) h2)) h1))) h)
def polynomial_Scale (a : Sl) (n : TRat) (K : Sl → Hp → Prop) (h : Hp) : Prop :=
 (mkP (a.len : Int) (a.len : Int) 64 [.bool false, .slice nilS.a nilS.len nilS.cap, .bool false, .slice nilS.a nilS.len nilS.cap] (fun m1 h1 =>
 (loopP (S := Int × Unit) (fun s2 k3 h2 =>
 (ifP (decide (s2.1 < (a.len : Int)))
 (idxP a s2.1 4 fun a4 =>
 (ldL (.bool) (a4.add 0) (fun x5_0 =>
 (ldL (.sl) (a4.add 1) (fun x5_1 =>
 (ldL (.bool) (a4.add 2) (fun x5_2 =>
 (ldL (.sl) (a4.add 3) (fun x5_3 =>
 (callP (rational_Mul (⟨(⟨x5_0, x5_1⟩ : TInt), (⟨x5_2, x5_3⟩ : TInt)⟩ : TRat) n) (fun r6 h3 =>
 (idxP m1 s2.1 4 fun a7 =>
 (stP a7 [.bool r6.num.neg, .slice r6.num.mag.a r6.num.mag.len r6.num.mag.cap, .bool r6.den.neg, .slice r6.den.mag.a r6.den.mag.len r6.den.mag.cap] (fun h4 =>
 (k3 ((IntKind.i64.wrap (s2.1 + 1)), ()) h4)) h3))) h2)) h2)) h2)) h2)) h2))
 (callP (polynomial_Trim m1) (fun r8 h5 =>
 (K r8 h5)) h2)))
 (0, ()) h1)) h)
def polynomial_monic (a : Sl) (K : Sl → Hp → Prop) (h : Hp) : Prop :=
 (callP (polynomial_Trim a) (fun r1 h1 =>
 (ifP ((r1.len : Int) == 0)
 (K nilS h1)
 (idxP r1 (IntKind.i64.wrap ((r1.len : Int) - 1)) 4 fun a2 =>
 (ldL (.bool) (a2.add 0) (fun x3_0 =>
 (ldL (.sl) (a2.add 1) (fun x3_1 =>
 (ldL (.bool) (a2.add 2) (fun x3_2 =>
 (ldL (.sl) (a2.add 3) (fun x3_3 =>
 (callP (rational_FromInt 1) (fun r4 h2 =>
 (callP (rational_Div r4 (⟨(⟨x3_0, x3_1⟩ : TInt), (⟨x3_2, x3_3⟩ : TInt)⟩ : TRat)) (fun r5 h3 =>
 (callP (polynomial_Scale r1 (⟨(⟨r5.1.num.neg, r5.1.num.mag⟩ : TInt), (⟨r5.1.den.neg, r5.1.den.mag⟩ : TInt)⟩ : TRat)) (fun r6 h4 =>
 (K r6 h4)) h3)) h2)) h1)) h1)) h1)) h1)) h1)))) h)
def polynomial_Derivative (a : Sl) (K : Sl → Hp → Prop) (h : Hp) : Prop :=
 (loopP (S := Sl × Int × Unit) (fun s1 k2 h1 =>
 (ifP (decide (s1.2.1 < (a.len : Int)))
 (joinP (S := Sl × Unit) (fun s3 h2 =>
 (k2 (s3.1, (IntKind.i64.wrap (s1.2.1 + 1)), ()) h2))
 (fun k4 =>
 (idxP a s1.2.1 4 fun a5 =>
 (ldL (.bool) (a5.add 0) (fun x6_0 =>
 (ldL (.sl) (a5.add 1) (fun x6_1 =>
 (ldL (.bool) (a5.add 2) (fun x6_2 =>
 (ldL (.sl) (a5.add 3) (fun x6_3 =>
 (ifP (decide (s1.2.1 > 0))
 (callP (rational_FromInt s1.2.1) (fun r7 h3 =>
 (callP (rational_Mul (⟨(⟨x6_0, x6_1⟩ : TInt), (⟨x6_2, x6_3⟩ : TInt)⟩ : TRat) r7) (fun r8 h4 =>
 (appP 4 64 [.bool false, .slice nilS.a nilS.len nilS.cap, .bool false, .slice nilS.a nilS.len nilS.cap] s1.1 1 [.bool r8.num.neg, .slice r8.num.mag.a r8.num.mag.len r8.num.mag.cap, .bool r8.den.neg, .slice r8.den.mag.a r8.den.mag.len r8.den.mag.cap] (fun w9 h5 =>
 (k4 (w9, ()) h5)) h4)) h3)) h1)
 (k4 (s1.1, ()) h1))) h1)) h1)) h1)) h1))))
 (callP (polynomial_Trim s1.1) (fun r10 h6 =>
 (K r10 h6)) h1)))
 (nilS, 0, ()) h)
def polynomial_GCD (a : Sl) (b : Sl) (K : Sl → Hp → Prop) (h : Hp) : Prop :=
 (callP (polynomial_monic a) (fun r1 h1 =>
 (callP (polynomial_monic b) (fun r2 h2 =>
 (loopP (S := Sl × Sl × Unit) (fun s3 k4 h3 =>
 (ifP (decide ((s3.2.1.len : Int) > 0))
 (callP (polynomial_divide s3.1 s3.2.1) (fun r5 h4 =>
 (callP (polynomial_monic r5.2) (fun r6 h5 =>
 (k4 (s3.2.1, r6, ()) h5)) h4)) h3)
 (K s3.1 h3)))
 (r1, r2, ()) h2)) h1)) h)
def polynomial_Squarefree (a : Sl) (K : Sl → Hp → Prop) (h : Hp) : Prop :=
 (callP (polynomial_monic a) (fun r1 h1 =>
 (ifP ((r1.len : Int) == 0)
 (K nilS h1)
 (callP (polynomial_Derivative r1) (fun r2 h2 =>
 (callP (polynomial_GCD r1 r2) (fun r3 h3 =>
 (callP (polynomial_divide r1 r3) (fun r4 h4 =>
 (callP (polynomial_monic r4.1) (fun r5 h5 =>
 (K r5 h5)) h4)) h3)) h2)) h1))) h)
def polynomial_Bound (a : Sl) (K : TRat → Hp → Prop) (h : Hp) : Prop :=
 (callP (polynomial_monic a) (fun r1 h1 =>
 (ifP (decide ((r1.len : Int) < 2))
 (callP (rational_FromInt 0) (fun r2 h2 =>
 (K r2 h2)) h1)
 (callP (rational_FromInt 0) (fun r3 h3 =>
 (slP r1 0 (IntKind.i64.wrap ((r1.len : Int) - 1)) 4 fun c4 =>
 (loopP (S := (Bool × Sl × Bool × Sl × Unit) × Int × Unit) (fun s5 k6 h4 =>
 (ifP (decide (s5.2.1 < (c4.len : Int)))
 (joinP (S := (Bool × Sl × Bool × Sl × Unit) × Unit) (fun s7 h5 =>
 (k6 ((s7.1.1, s7.1.2.1, s7.1.2.2.1, s7.1.2.2.2.1, ()), (IntKind.i64.wrap (s5.2.1 + 1)), ()) h5))
 (fun k8 =>
 (idxP c4 s5.2.1 4 fun a9 =>
 (ldL (.bool) (a9.add 0) (fun x10_0 =>
 (ldL (.sl) (a9.add 1) (fun x10_1 =>
 (ldL (.bool) (a9.add 2) (fun x10_2 =>
 (ldL (.sl) (a9.add 3) (fun x10_3 =>
 (joinP (S := (Bool × Sl × Bool × Sl × Unit) × Unit) (fun s11 h6 =>
 (callP (rational_Cmp (⟨(⟨s11.1.1, s11.1.2.1⟩ : TInt), (⟨s11.1.2.2.1, s11.1.2.2.2.1⟩ : TInt)⟩ : TRat) (⟨(⟨s5.1.1, s5.1.2.1⟩ : TInt), (⟨s5.1.2.2.1, s5.1.2.2.2.1⟩ : TInt)⟩ : TRat)) (fun r13 h7 =>
 (ifP (decide (r13 > 0))
 (k8 ((s11.1.1, s11.1.2.1, s11.1.2.2.1, s11.1.2.2.2.1, ()), ()) h7)
 (k8 ((s5.1.1, s5.1.2.1, s5.1.2.2.1, s5.1.2.2.2.1, ()), ()) h7))) h6))
 (fun k12 =>
 (callP (rational_Sign (⟨(⟨x10_0, x10_1⟩ : TInt), (⟨x10_2, x10_3⟩ : TInt)⟩ : TRat)) (fun r14 h8 =>
 (ifP (decide (r14 < 0))
 (callP (rational_Neg (⟨(⟨x10_0, x10_1⟩ : TInt), (⟨x10_2, x10_3⟩ : TInt)⟩ : TRat)) (fun r15 h9 =>
 (k12 ((r15.num.neg, r15.num.mag, r15.den.neg, r15.den.mag, ()), ()) h9)) h8)
 (k12 ((x10_0, x10_1, x10_2, x10_3, ()), ()) h8))) h4)))) h4)) h4)) h4)) h4))))
 (callP (rational_FromInt 1) (fun r16 h10 =>
 (callP (rational_Add (⟨(⟨s5.1.1, s5.1.2.1⟩ : TInt), (⟨s5.1.2.2.1, s5.1.2.2.2.1⟩ : TInt)⟩ : TRat) r16) (fun r17 h11 =>
 (K r17 h11)) h10)) h4)))
 ((r3.num.neg, r3.num.mag, r3.den.neg, r3.den.mag, ()), 0, ()) h3))) h1))) h)
def slices_Backward_api_Rat_api_Rat (s : Sl) (K : Addr → Hp → Prop) (h : Hp) : Prop :=
 (newP [.slice s.a s.len s.cap] (fun p1 h1 =>
 (K p1 h1)) h)
def ref04_Trim (a : Sl) (K : Sl → Hp → Prop) (h : Hp) : Prop :=
 (joinP (S := Int × Unit) (fun s1 h1 =>
 (newP [] (fun p3 h2 =>
 (slP a 0 s1.1 4 fun c4 =>
 (rdO c4.a (c4.len * 4) (fun vs5 =>
 (appP 4 64 [.bool false, .slice nilS.a nilS.len nilS.cap, .bool false, .slice nilS.a nilS.len nilS.cap] (⟨some p3, 0, 0⟩ : Sl) c4.len vs5 (fun w6 h3 =>
 (K w6 h3)) h2)) h2))) h1))
 (fun k2 =>
 (loopP (S := Int × Unit) (fun s7 k8 h4 =>
 (joinP (S := Unit) (fun s9 h5 =>
 (k8 ((IntKind.i64.wrap (s7.1 - 1)), ()) h5))
 (fun k10 =>
 (ifP (decide (s7.1 > 0))
 (idxP a (IntKind.i64.wrap (s7.1 - 1)) 4 fun a11 =>
 (ldL (.bool) (a11.add 0) (fun x12_0 =>
 (ldL (.sl) (a11.add 1) (fun x12_1 =>
 (ldL (.bool) (a11.add 2) (fun x12_2 =>
 (ldL (.sl) (a11.add 3) (fun x12_3 =>
 (callP (ref02_Sign (⟨(⟨x12_0, x12_1⟩ : TInt), (⟨x12_2, x12_3⟩ : TInt)⟩ : TRat)) (fun r13 h6 =>
 (ifP (r13 == 0)
 (k10 () h6)
 (k2 (s7.1, ()) h6))) h4)) h4)) h4)) h4)) h4))
 (k2 (s7.1, ()) h4)))))
 ((a.len : Int), ()) h)))
def ref04_Scale (a : Sl) (n : TRat) (K : Sl → Hp → Prop) (h : Hp) : Prop :=
 (loopP (S := Sl × Int × Unit) (fun s1 k2 h1 =>
 (ifP (decide (s1.2.1 < (a.len : Int)))
 (idxP a s1.2.1 4 fun a3 =>
 (ldL (.bool) (a3.add 0) (fun x4_0 =>
 (ldL (.sl) (a3.add 1) (fun x4_1 =>
 (ldL (.bool) (a3.add 2) (fun x4_2 =>
 (ldL (.sl) (a3.add 3) (fun x4_3 =>
 (callP (ref02_Mul (⟨(⟨x4_0, x4_1⟩ : TInt), (⟨x4_2, x4_3⟩ : TInt)⟩ : TRat) n) (fun r5 h2 =>
 (appP 4 64 [.bool false, .slice nilS.a nilS.len nilS.cap, .bool false, .slice nilS.a nilS.len nilS.cap] s1.1 1 [.bool r5.num.neg, .slice r5.num.mag.a r5.num.mag.len r5.num.mag.cap, .bool r5.den.neg, .slice r5.den.mag.a r5.den.mag.len r5.den.mag.cap] (fun w6 h3 =>
 (k2 (w6, (IntKind.i64.wrap (s1.2.1 + 1)), ()) h3)) h2)) h1)) h1)) h1)) h1)) h1))
 (callP (ref04_Trim s1.1) (fun r7 h4 =>
 (K r7 h4)) h1)))
 (nilS, 0, ()) h)
def ref04_zero (K : TRat → Hp → Prop) (h : Hp) : Prop :=
 (callP (ref02_FromInt 0) (fun r1 h1 =>
 (K r1 h1)) h)
def ref04_at (a : Sl) (i : Int) (K : TRat → Hp → Prop) (h : Hp) : Prop :=
 (joinP (S := (Bool × Sl × Bool × Sl × Unit) × Unit) (fun s1 h1 =>
 (idxP a i 4 fun a3 =>
 (ldL (.bool) (a3.add 0) (fun x4_0 =>
 (ldL (.sl) (a3.add 1) (fun x4_1 =>
 (ldL (.bool) (a3.add 2) (fun x4_2 =>
 (ldL (.sl) (a3.add 3) (fun x4_3 =>
 (K (⟨(⟨x4_0, x4_1⟩ : TInt), (⟨x4_2, x4_3⟩ : TInt)⟩ : TRat) h1)) h1)) h1)) h1)) h1)))
 (fun k2 =>
 (ifP (decide (i < 0))
 (callP (ref04_zero) (fun r5 h2 =>
 (K r5 h2)) h)
 (ifP (decide (i ≥ (a.len : Int)))
 (callP (ref04_zero) (fun r6 h3 =>
 (K r6 h3)) h)
 (k2 ((false, nilS, false, nilS, ()), ()) h)))))
def ref04_Add (a : Sl) (b : Sl) (K : Sl → Hp → Prop) (h : Hp) : Prop :=
 (joinP (S := Sl × Unit) (fun s1 h1 =>
 (callP (ref04_Trim s1.1) (fun r3 h2 =>
 (K r3 h2)) h1))
 (fun k2 =>
 (loopP (S := Sl × Int × Unit) (fun s4 k5 h3 =>
 (joinP (S := Unit) (fun s6 h4 =>
 (callP (ref04_at a s4.2.1) (fun r8 h5 =>
 (callP (ref04_at b s4.2.1) (fun r9 h6 =>
 (callP (ref02_Add r8 r9) (fun r10 h7 =>
 (appP 4 64 [.bool false, .slice nilS.a nilS.len nilS.cap, .bool false, .slice nilS.a nilS.len nilS.cap] s4.1 1 [.bool r10.num.neg, .slice r10.num.mag.a r10.num.mag.len r10.num.mag.cap, .bool r10.den.neg, .slice r10.den.mag.a r10.den.mag.len r10.den.mag.cap] (fun w11 h8 =>
 (k5 (w11, (IntKind.i64.wrap (s4.2.1 + 1)), ()) h8)) h7)) h6)) h5)) h4))
 (fun k7 =>
 (ifP (decide (s4.2.1 < (a.len : Int)))
 (k7 () h3)
 (ifP (decide (s4.2.1 < (b.len : Int)))
 (k7 () h3)
 (k2 (s4.1, ()) h3))))))
 (nilS, 0, ()) h)))
def ref04_Sub (a : Sl) (b : Sl) (K : Sl → Hp → Prop) (h : Hp) : Prop :=
 (callP (ref02_FromInt (-1)) (fun r1 h1 =>
 (callP (ref04_Scale b r1) (fun r2 h2 =>
 (callP (ref04_Add a r2) (fun r3 h3 =>
 (K r3 h3)) h2)) h1)) h)
def ref04_Same (a : Sl) (b : Sl) (K : Bool → Hp → Prop) (h : Hp) : Prop :=
 (callP (ref04_Sub a b) (fun r1 h1 =>
 (K ((r1.len : Int) == 0) h1)) h)
def ref04_Equal (a : Sl) (b : Sl) (K : Bool → Hp → Prop) (h : Hp) : Prop :=
 (ifP ((a.len : Int) == (b.len : Int))
 (callP (ref04_Same a b) (fun r1 h1 =>
 (K r1 h1)) h)
 (K false h))
def ref04_Shift (a : Sl) (n : Int) (K : Sl → Hp → Prop) (h : Hp) : Prop :=
 (loopP (S := Sl × Int × Unit) (fun s1 k2 h1 =>
 (ifP (decide (s1.2.1 < n))
 (callP (ref04_zero) (fun r3 h2 =>
 (appP 4 64 [.bool false, .slice nilS.a nilS.len nilS.cap, .bool false, .slice nilS.a nilS.len nilS.cap] s1.1 1 [.bool r3.num.neg, .slice r3.num.mag.a r3.num.mag.len r3.num.mag.cap, .bool r3.den.neg, .slice r3.den.mag.a r3.den.mag.len r3.den.mag.cap] (fun w4 h3 =>
 (k2 (w4, (IntKind.i64.wrap (s1.2.1 + 1)), ()) h3)) h2)) h1)
 (rdO a.a (a.len * 4) (fun vs5 =>
 (appP 4 64 [.bool false, .slice nilS.a nilS.len nilS.cap, .bool false, .slice nilS.a nilS.len nilS.cap] s1.1 a.len vs5 (fun w6 h4 =>
 (callP (ref04_Trim w6) (fun r7 h5 =>
 (K r7 h5)) h4)) h1)) h1)))
 (nilS, 0, ()) h)
def ref04_Mul (a : Sl) (b : Sl) (K : Sl → Hp → Prop) (h : Hp) : Prop :=
 (loopP (S := Sl × Int × Unit) (fun s1 k2 h1 =>
 (ifP (decide (s1.2.1 < (b.len : Int)))
 (idxP b s1.2.1 4 fun a3 =>
 (ldL (.bool) (a3.add 0) (fun x4_0 =>
 (ldL (.sl) (a3.add 1) (fun x4_1 =>
 (ldL (.bool) (a3.add 2) (fun x4_2 =>
 (ldL (.sl) (a3.add 3) (fun x4_3 =>
 (callP (ref04_Scale a (⟨(⟨x4_0, x4_1⟩ : TInt), (⟨x4_2, x4_3⟩ : TInt)⟩ : TRat)) (fun r5 h2 =>
 (callP (ref04_Shift r5 s1.2.1) (fun r6 h3 =>
 (callP (ref04_Add s1.1 r6) (fun r7 h4 =>
 (k2 (r7, (IntKind.i64.wrap (s1.2.1 + 1)), ()) h4)) h3)) h2)) h1)) h1)) h1)) h1)) h1))
 (K s1.1 h1)))
 (nilS, 0, ()) h)
def ref04_Degree (a : Sl) (K : Int → Hp → Prop) (h : Hp) : Prop :=
 (callP (ref04_Trim a) (fun r1 h1 =>
 (K (IntKind.i64.wrap ((r1.len : Int) - 1)) h1)) h)
def ref04_quotient (a : TRat) (b : TRat) (K : TRat → Hp → Prop) (h : Hp) : Prop :=
 (callP (ref02_Div a b) (fun r1 h1 =>
 (K (⟨(⟨r1.1.num.neg, r1.1.num.mag⟩ : TInt), (⟨r1.1.den.neg, r1.1.den.mag⟩ : TInt)⟩ : TRat) h1)) h)
def ref04_DivMod (a : Sl) (b : Sl) (K : (Sl × Sl) → Hp → Prop) (h : Hp) : Prop :=
 (callP (ref04_Trim b) (fun r1 h1 =>
 (callP (ref04_Trim a) (fun r2 h2 =>
 (loopP (S := Sl × Sl × Unit) (fun s3 k4 h3 =>
 (ifP (decide ((s3.1.len : Int) ≥ (r1.len : Int)))
 (idxP s3.1 (IntKind.i64.wrap ((s3.1.len : Int) - 1)) 4 fun a5 =>
 (ldL (.bool) (a5.add 0) (fun x6_0 =>
 (ldL (.sl) (a5.add 1) (fun x6_1 =>
 (ldL (.bool) (a5.add 2) (fun x6_2 =>
 (ldL (.sl) (a5.add 3) (fun x6_3 =>
 (idxP r1 (IntKind.i64.wrap ((r1.len : Int) - 1)) 4 fun a7 =>
 (ldL (.bool) (a7.add 0) (fun x8_0 =>
 (ldL (.sl) (a7.add 1) (fun x8_1 =>
 (ldL (.bool) (a7.add 2) (fun x8_2 =>
 (ldL (.sl) (a7.add 3) (fun x8_3 =>
 (callP (ref04_quotient (⟨(⟨x6_0, x6_1⟩ : TInt), (⟨x6_2, x6_3⟩ : TInt)⟩ : TRat) (⟨(⟨x8_0, x8_1⟩ : TInt), (⟨x8_2, x8_3⟩ : TInt)⟩ : TRat)) (fun r9 h4 =>
 (newP [.bool r9.num.neg, .slice r9.num.mag.a r9.num.mag.len r9.num.mag.cap, .bool r9.den.neg, .slice r9.den.mag.a r9.den.mag.len r9.den.mag.cap] (fun p10 h5 =>
 (callP (ref04_Shift (⟨some p10, 1, 1⟩ : Sl) (IntKind.i64.wrap ((s3.1.len : Int) - (r1.len : Int)))) (fun r11 h6 =>
 (callP (ref04_Add s3.2.1 r11) (fun r12 h7 =>
 (callP (ref04_Mul r11 r1) (fun r13 h8 =>
 (callP (ref04_Sub s3.1 r13) (fun r14 h9 =>
 (k4 (r14, r12, ()) h9)) h8)) h7)) h6)) h5)) h4)) h3)) h3)) h3)) h3)) h3))) h3)) h3)) h3)) h3))
 (K (s3.2.1, s3.1) h3)))
 (r2, nilS, ()) h2)) h1)) h)
def ref04_Derivative (a : Sl) (K : Sl → Hp → Prop) (h : Hp) : Prop :=
 (loopP (S := Sl × Int × Unit) (fun s1 k2 h1 =>
 (ifP (decide (s1.2.1 < (a.len : Int)))
 (idxP a s1.2.1 4 fun a3 =>
 (ldL (.bool) (a3.add 0) (fun x4_0 =>
 (ldL (.sl) (a3.add 1) (fun x4_1 =>
 (ldL (.bool) (a3.add 2) (fun x4_2 =>
 (ldL (.sl) (a3.add 3) (fun x4_3 =>
 (callP (ref02_FromInt s1.2.1) (fun r5 h2 =>
 (callP (ref02_Mul (⟨(⟨x4_0, x4_1⟩ : TInt), (⟨x4_2, x4_3⟩ : TInt)⟩ : TRat) r5) (fun r6 h3 =>
 (appP 4 64 [.bool false, .slice nilS.a nilS.len nilS.cap, .bool false, .slice nilS.a nilS.len nilS.cap] s1.1 1 [.bool r6.num.neg, .slice r6.num.mag.a r6.num.mag.len r6.num.mag.cap, .bool r6.den.neg, .slice r6.den.mag.a r6.den.mag.len r6.den.mag.cap] (fun w7 h4 =>
 (k2 (w7, (IntKind.i64.wrap (s1.2.1 + 1)), ()) h4)) h3)) h2)) h1)) h1)) h1)) h1)) h1))
 (callP (ref04_Trim s1.1) (fun r8 h5 =>
 (K r8 h5)) h1)))
 (nilS, 1, ()) h)
def ref04_Monic (a : Sl) (K : Sl → Hp → Prop) (h : Hp) : Prop :=
 (callP (ref04_Trim a) (fun r1 h1 =>
 (ifP ((r1.len : Int) == 0)
 (K r1 h1)
 (idxP r1 (IntKind.i64.wrap ((r1.len : Int) - 1)) 4 fun a2 =>
 (ldL (.bool) (a2.add 0) (fun x3_0 =>
 (ldL (.sl) (a2.add 1) (fun x3_1 =>
 (ldL (.bool) (a2.add 2) (fun x3_2 =>
 (ldL (.sl) (a2.add 3) (fun x3_3 =>
 (callP (ref02_FromInt 1) (fun r4 h2 =>
 (callP (ref04_quotient r4 (⟨(⟨x3_0, x3_1⟩ : TInt), (⟨x3_2, x3_3⟩ : TInt)⟩ : TRat)) (fun r5 h3 =>
 (callP (ref04_Scale r1 r5) (fun r6 h4 =>
 (K r6 h4)) h3)) h2)) h1)) h1)) h1)) h1)) h1)))) h)
def ref04_abs (a : TRat) (K : TRat → Hp → Prop) (h : Hp) : Prop :=
 (callP (ref02_Sign a) (fun r1 h1 =>
 (ifP (decide (r1 < 0))
 (callP (ref02_Neg a) (fun r2 h2 =>
 (K r2 h2)) h1)
 (K a h1))) h)
def ref04_Bound (a : Sl) (K : TRat → Hp → Prop) (h : Hp) : Prop :=
 (callP (ref04_Monic a) (fun r1 h1 =>
 (ifP (decide ((r1.len : Int) < 2))
 (callP (ref04_zero) (fun r2 h2 =>
 (K r2 h2)) h1)
 (callP (ref04_zero) (fun r3 h3 =>
 (loopP (S := (Bool × Sl × Bool × Sl × Unit) × Int × Unit) (fun s4 k5 h4 =>
 (ifP (decide ((IntKind.i64.wrap (s4.2.1 + 1)) < (r1.len : Int)))
 (joinP (S := (Bool × Sl × Bool × Sl × Unit) × Unit) (fun s6 h5 =>
 (k5 ((s6.1.1, s6.1.2.1, s6.1.2.2.1, s6.1.2.2.2.1, ()), (IntKind.i64.wrap (s4.2.1 + 1)), ()) h5))
 (fun k7 =>
 (idxP r1 s4.2.1 4 fun a8 =>
 (ldL (.bool) (a8.add 0) (fun x9_0 =>
 (ldL (.sl) (a8.add 1) (fun x9_1 =>
 (ldL (.bool) (a8.add 2) (fun x9_2 =>
 (ldL (.sl) (a8.add 3) (fun x9_3 =>
 (callP (ref04_abs (⟨(⟨x9_0, x9_1⟩ : TInt), (⟨x9_2, x9_3⟩ : TInt)⟩ : TRat)) (fun r10 h6 =>
 (callP (ref02_Cmp r10 (⟨(⟨s4.1.1, s4.1.2.1⟩ : TInt), (⟨s4.1.2.2.1, s4.1.2.2.2.1⟩ : TInt)⟩ : TRat)) (fun r11 h7 =>
 (ifP (decide (r11 > 0))
 (idxP r1 s4.2.1 4 fun a12 =>
 (ldL (.bool) (a12.add 0) (fun x13_0 =>
 (ldL (.sl) (a12.add 1) (fun x13_1 =>
 (ldL (.bool) (a12.add 2) (fun x13_2 =>
 (ldL (.sl) (a12.add 3) (fun x13_3 =>
 (callP (ref04_abs (⟨(⟨x13_0, x13_1⟩ : TInt), (⟨x13_2, x13_3⟩ : TInt)⟩ : TRat)) (fun r14 h8 =>
 (k7 ((r14.num.neg, r14.num.mag, r14.den.neg, r14.den.mag, ()), ()) h8)) h7)) h7)) h7)) h7)) h7))
 (k7 ((s4.1.1, s4.1.2.1, s4.1.2.2.1, s4.1.2.2.2.1, ()), ()) h7))) h6)) h4)) h4)) h4)) h4)) h4))))
 (callP (ref02_FromInt 1) (fun r15 h9 =>
 (callP (ref02_Add (⟨(⟨s4.1.1, s4.1.2.1⟩ : TInt), (⟨s4.1.2.2.1, s4.1.2.2.2.1⟩ : TInt)⟩ : TRat) r15) (fun r16 h10 =>
 (K r16 h10)) h9)) h4)))
 ((r3.num.neg, r3.num.mag, r3.den.neg, r3.den.mag, ()), 0, ()) h3)) h1))) h)
def polynomial_Eval (a : Sl) (x : TRat) (K : TRat → Hp → Prop) (h : Hp) : Prop :=
 (callP (rational_FromInt 0) (fun r1 h1 =>
 (callP (slices_Backward_api_Rat_api_Rat a) (fun r2 h2 =>
 (backP (S := (Bool × Sl × Bool × Sl × Unit) × Unit) (.agg [.bool, .sl, .bool, .sl]) r2 (fun i3 v4 s5 k6 h3 =>
 (callP (rational_Mul (⟨(⟨s5.1.1, s5.1.2.1⟩ : TInt), (⟨s5.1.2.2.1, s5.1.2.2.2.1⟩ : TInt)⟩ : TRat) x) (fun r8 h5 =>
 (callP (rational_Add r8 (⟨(⟨v4.1, v4.2.1⟩ : TInt), (⟨v4.2.2.1, v4.2.2.2.1⟩ : TInt)⟩ : TRat)) (fun r9 h6 =>
 (k6 ((r9.num.neg, r9.num.mag, r9.den.neg, r9.den.mag, ()), ()) h6)) h5)) h3))
 ((r1.num.neg, r1.num.mag, r1.den.neg, r1.den.mag, ()), ()) (fun s7 h4 =>
 (K (⟨(⟨s7.1.1, s7.1.2.1⟩ : TInt), (⟨s7.1.2.2.1, s7.1.2.2.2.1⟩ : TInt)⟩ : TRat) h4)) h2)) h1)) h)
def ref04_Eval (a : Sl) (x : TRat) (K : TRat → Hp → Prop) (h : Hp) : Prop :=
 (callP (ref04_zero) (fun r1 h1 =>
 (loopP (S := (Bool × Sl × Bool × Sl × Unit) × Int × Unit) (fun s2 k3 h2 =>
 (ifP (decide (s2.2.1 ≥ 0))
 (idxP a s2.2.1 4 fun a4 =>
 (ldL (.bool) (a4.add 0) (fun x5_0 =>
 (ldL (.sl) (a4.add 1) (fun x5_1 =>
 (ldL (.bool) (a4.add 2) (fun x5_2 =>
 (ldL (.sl) (a4.add 3) (fun x5_3 =>
 (callP (ref02_Mul (⟨(⟨s2.1.1, s2.1.2.1⟩ : TInt), (⟨s2.1.2.2.1, s2.1.2.2.2.1⟩ : TInt)⟩ : TRat) x) (fun r6 h3 =>
 (callP (ref02_Add r6 (⟨(⟨x5_0, x5_1⟩ : TInt), (⟨x5_2, x5_3⟩ : TInt)⟩ : TRat)) (fun r7 h4 =>
 (k3 ((r7.num.neg, r7.num.mag, r7.den.neg, r7.den.mag, ()), (IntKind.i64.wrap (s2.2.1 - 1)), ()) h4)) h3)) h2)) h2)) h2)) h2)) h2))
 (K (⟨(⟨s2.1.1, s2.1.2.1⟩ : TInt), (⟨s2.1.2.2.1, s2.1.2.2.2.1⟩ : TInt)⟩ : TRat) h2)))
 ((r1.num.neg, r1.num.mag, r1.den.neg, r1.den.mag, ()), (IntKind.i64.wrap ((a.len : Int) - 1)), ()) h1)) h)
def sturm_Changes (chain : Sl) (x : TRat) (K : Int → Hp → Prop) (h : Hp) : Prop :=
 (loopP (S := Int × Int × Int × Unit) (fun s1 k2 h1 =>
 (ifP (decide (s1.2.2.1 < (chain.len : Int)))
 (joinP (S := Int × Int × Unit) (fun s3 h2 =>
 (k2 (s3.1, s3.2.1, (IntKind.i64.wrap (s1.2.2.1 + 1)), ()) h2))
 (fun k4 =>
 (idxP chain s1.2.2.1 1 fun a5 =>
 (ldL (.sl) a5 (fun x6 =>
 (callP (polynomial_Eval x6 x) (fun r7 h3 =>
 (callP (rational_Sign r7) (fun r8 h4 =>
 (ifP (r8 == 0)
 (k4 (s1.1, s1.2.1, ()) h4)
 (ifP (s1.2.1 == (IntKind.i64.wrap (0 - r8)))
 (k4 ((IntKind.i64.wrap (s1.1 + 1)), r8, ()) h4)
 (k4 (s1.1, r8, ()) h4)))) h3)) h1)) h1))))
 (K s1.1 h1)))
 (0, 0, 0, ()) h)
def ref05_Changes (chain : Sl) (x : TRat) (K : Int → Hp → Prop) (h : Hp) : Prop :=
 (loopP (S := Int × Int × Int × Unit) (fun s1 k2 h1 =>
 (ifP (decide (s1.2.2.1 < (chain.len : Int)))
 (joinP (S := Int × Int × Unit) (fun s3 h2 =>
 (k2 (s3.1, s3.2.1, (IntKind.i64.wrap (s1.2.2.1 + 1)), ()) h2))
 (fun k4 =>
 (idxP chain s1.2.2.1 1 fun a5 =>
 (ldL (.sl) a5 (fun x6 =>
 (callP (ref04_Eval x6 x) (fun r7 h3 =>
 (callP (ref02_Sign r7) (fun r8 h4 =>
 (ifP (r8 != 0)
 (ifP (r8 == (IntKind.i64.wrap (0 - s1.2.1)))
 (k4 ((IntKind.i64.wrap (s1.1 + 1)), r8, ()) h4)
 (k4 (s1.1, r8, ()) h4))
 (k4 (s1.1, s1.2.1, ()) h4))) h3)) h1)) h1))))
 (K s1.1 h1)))
 (0, 0, 0, ()) h)
def law05_poly (l : Sl) (K : Sl → Hp → Prop) (h : Hp) : Prop :=
 (loopP (S := Sl × Int × Unit) (fun s1 k2 h1 =>
 (ifP (decide (s1.2.1 < (l.len : Int)))
 (idxP l s1.2.1 1 fun a3 =>
 (ldL (.int .i64) a3 (fun x4 =>
 (callP (ref02_FromInt x4) (fun r5 h2 =>
 (appP 4 64 [.bool false, .slice nilS.a nilS.len nilS.cap, .bool false, .slice nilS.a nilS.len nilS.cap] s1.1 1 [.bool r5.num.neg, .slice r5.num.mag.a r5.num.mag.len r5.num.mag.cap, .bool r5.den.neg, .slice r5.den.mag.a r5.den.mag.len r5.den.mag.cap] (fun w6 h3 =>
 (k2 (w6, (IntKind.i64.wrap (s1.2.1 + 1)), ()) h3)) h2)) h1)) h1))
 (K s1.1 h1)))
 (nilS, 0, ()) h)
def sturm_Chain (a : Sl) (K : Sl → Hp → Prop) (h : Hp) : Prop :=
 (callP (polynomial_Degree a) (fun r1 h1 =>
 (ifP (decide (r1 < 1))
 (K nilS h1)
 (callP (polynomial_Squarefree a) (fun r2 h2 =>
 (callP (polynomial_Derivative r2) (fun r3 h3 =>
 (newP [.slice r2.a r2.len r2.cap, .slice r3.a r3.len r3.cap] (fun p4 h4 =>
 (loopP (S := Sl × Sl × Sl × Unit) (fun s5 k6 h5 =>
 (callP (polynomial_DivMod s5.1 s5.2.1) (fun r7 h6 =>
 (joinP (S := Unit) (fun s8 h7 =>
 (callP (rational_FromInt (-1)) (fun r10 h8 =>
 (callP (polynomial_Scale r7.2.1 r10) (fun r11 h9 =>
 (appP 1 24 [.slice nilS.a nilS.len nilS.cap] s5.2.2.1 1 [.slice r11.a r11.len r11.cap] (fun w12 h10 =>
 (k6 (s5.2.1, r11, w12, ()) h10)) h9)) h8)) h7))
 (fun k9 =>
 (ifP (r7.2.2 != 0)
 (K s5.2.2.1 h6)
 (ifP ((r7.2.1.len : Int) == 0)
 (K s5.2.2.1 h6)
 (k9 () h6)))))) h5))
 (r2, r3, (⟨some p4, 2, 2⟩ : Sl), ()) h4)) h3)) h2)) h1))) h)
def ref05_Same (a : Sl) (b : Sl) (K : Bool → Hp → Prop) (h : Hp) : Prop :=
 (ifP ((a.len : Int) != (b.len : Int))
 (K false h)
 (loopP (S := Int × Unit) (fun s1 k2 h1 =>
 (ifP (decide (s1.1 < (a.len : Int)))
 (idxP a s1.1 1 fun a3 =>
 (ldL (.sl) a3 (fun x4 =>
 (idxP b s1.1 1 fun a5 =>
 (ldL (.sl) a5 (fun x6 =>
 (callP (ref04_Equal x4 x6) (fun r7 h2 =>
 (ifP (!r7)
 (K false h2)
 (k2 ((IntKind.i64.wrap (s1.1 + 1)), ()) h2))) h1)) h1))) h1))
 (K true h1)))
 (0, ()) h))
def law05_awake_1 (x : Int) (v0 : (Option Addr)) (K : Int → Hp → Prop) (h : Hp) : Prop :=
 (ptrK v0 fun p1 =>
 (ldL (.sl) p1 (fun x2 =>
 (callP (ref02_FromInt x) (fun r3 h1 =>
 (callP (sturm_Changes x2 r3) (fun r4 h2 =>
 (K r4 h2)) h1)) h)) h))
def sturm_around (a : Sl) (K : TInterval → Hp → Prop) (h : Hp) : Prop :=
 (callP (polynomial_Bound a) (fun r1 h1 =>
 (callP (rational_Neg r1) (fun r2 h2 =>
 (K (⟨r2, r1⟩ : TInterval) h2)) h1)) h)
def sturm_between (chain : Sl) (low : TRat) (high : TRat) (K : Int → Hp → Prop) (h : Hp) : Prop :=
 (callP (sturm_Changes chain low) (fun r1 h1 =>
 (callP (sturm_Changes chain high) (fun r2 h2 =>
 (K (IntKind.i64.wrap (r1 - r2)) h2)) h1)) h)
def sturm_Count (a : Sl) (low : TRat) (high : TRat) (K : Int → Hp → Prop) (h : Hp) : Prop :=
 (callP (rational_Cmp low high) (fun r1 h1 =>
 (ifP (decide (r1 ≥ 0))
 (K 0 h1)
 (callP (sturm_Chain a) (fun r2 h2 =>
 (callP (sturm_between r2 low high) (fun r3 h3 =>
 (K r3 h3)) h2)) h1))) h)
def sturm_Total (a : Sl) (K : Int → Hp → Prop) (h : Hp) : Prop :=
 (callP (sturm_around a) (fun r1 h1 =>
 (callP (sturm_Count a r1.low r1.high) (fun r2 h2 =>
 (K r2 h2)) h1)) h)
def law05_awake (K : Bool → Hp → Prop) (h : Hp) : Prop :=
 (newP [.int .i64 (-2), .int .i64 0, .int .i64 1] (fun p1 h1 =>
 (callP (law05_poly (⟨some p1, 3, 3⟩ : Sl)) (fun r2 h2 =>
 (callP (sturm_Chain r2) (fun r3 h3 =>
 (newP [.slice nilS.a nilS.len nilS.cap] (fun p4 h4 =>
 (stP p4 [.slice r3.a r3.len r3.cap] (fun h5 =>
 (ldL (.sl) p4 (fun x5 =>
 (newP [.int .i64 (-2), .int .i64 0, .int .i64 1] (fun p6 h6 =>
 (callP (law05_poly (⟨some p6, 3, 3⟩ : Sl)) (fun r7 h7 =>
 (newP [.int .i64 0, .int .i64 2] (fun p8 h8 =>
 (callP (law05_poly (⟨some p8, 2, 2⟩ : Sl)) (fun r9 h9 =>
 (newP [.int .i64 2] (fun p10 h10 =>
 (callP (law05_poly (⟨some p10, 1, 1⟩ : Sl)) (fun r11 h11 =>
 (newP [.slice r7.a r7.len r7.cap, .slice r9.a r9.len r9.cap, .slice r11.a r11.len r11.cap] (fun p12 h12 =>
 (callP (ref05_Same x5 (⟨some p12, 3, 3⟩ : Sl)) (fun r13 h13 =>
 (ifP r13
 (callP (law05_awake_1 0 (some p4)) (fun r14 h14 =>
 (ifP (r14 == 1)
 (callP (law05_awake_1 2 (some p4)) (fun r15 h15 =>
 (ifP (r15 == 0)
 (newP [.int .i64 3, .int .i64 (-5), .int .i64 1, .int .i64 1] (fun p16 h16 =>
 (callP (law05_poly (⟨some p16, 4, 4⟩ : Sl)) (fun r17 h17 =>
 (callP (sturm_Total r17) (fun r18 h18 =>
 (K (r18 == 2) h18)) h17)) h16)) h15)
 (K false h15))) h14)
 (K false h14))) h13)
 (K false h13))) h12)) h11)) h10)) h9)) h8)) h7)) h6)) h5)) h5)) h4)) h3)) h2)) h1)) h)
def ref05_Short (a : TRat) (K : Bool → Hp → Prop) (h : Hp) : Prop :=
 (callP (ref02_Valid a) (fun r1 h1 =>
 (ifP r1
 (ifP (decide ((a.num.mag.len : Int) ≤ 3))
 (K (decide ((a.den.mag.len : Int) ≤ 3)) h1)
 (K false h1))
 (K false h1))) h)
def ref05_Small (a : Sl) (K : Bool → Hp → Prop) (h : Hp) : Prop :=
 (loopP (S := Int × Unit) (fun s1 k2 h1 =>
 (ifP (decide (s1.1 < (a.len : Int)))
 (idxP a s1.1 4 fun a3 =>
 (ldL (.bool) (a3.add 0) (fun x4_0 =>
 (ldL (.sl) (a3.add 1) (fun x4_1 =>
 (ldL (.bool) (a3.add 2) (fun x4_2 =>
 (ldL (.sl) (a3.add 3) (fun x4_3 =>
 (callP (ref05_Short (⟨(⟨x4_0, x4_1⟩ : TInt), (⟨x4_2, x4_3⟩ : TInt)⟩ : TRat)) (fun r5 h2 =>
 (ifP (!r5)
 (K false h2)
 (k2 ((IntKind.i64.wrap (s1.1 + 1)), ()) h2))) h1)) h1)) h1)) h1)) h1))
 (K (decide ((a.len : Int) ≤ 8)) h1)))
 (0, ()) h)
def law05_small (l : Sl) (K : Bool → Hp → Prop) (h : Hp) : Prop :=
 (loopP (S := Int × Unit) (fun s1 k2 h1 =>
 (ifP (decide (s1.1 < (l.len : Int)))
 (idxP l s1.1 1 fun a3 =>
 (ldL (.sl) a3 (fun x4 =>
 (callP (ref05_Small x4) (fun r5 h2 =>
 (ifP (!r5)
 (K false h2)
 (k2 ((IntKind.i64.wrap (s1.1 + 1)), ()) h2))) h1)) h1))
 (K true h1)))
 (0, ()) h)
def law05_cp (a : Sl) (K : Sl → Hp → Prop) (h : Hp) : Prop :=
 (newP [] (fun p1 h1 =>
 (rdO a.a (a.len * 4) (fun vs2 =>
 (appP 4 64 [.bool false, .slice nilS.a nilS.len nilS.cap, .bool false, .slice nilS.a nilS.len nilS.cap] (⟨some p1, 0, 0⟩ : Sl) a.len vs2 (fun w3 h2 =>
 (K w3 h2)) h1)) h1)) h)
def ref04_GCD (a : Sl) (b : Sl) (K : Sl → Hp → Prop) (h : Hp) : Prop :=
 (callP (ref04_Monic a) (fun r1 h1 =>
 (callP (ref04_Monic b) (fun r2 h2 =>
 (loopP (S := Sl × Sl × Unit) (fun s3 k4 h3 =>
 (ifP (decide ((s3.2.1.len : Int) > 0))
 (callP (ref04_DivMod s3.1 s3.2.1) (fun r5 h4 =>
 (callP (ref04_Monic r5.2) (fun r6 h5 =>
 (k4 (s3.2.1, r6, ()) h5)) h4)) h3)
 (K s3.1 h3)))
 (r1, r2, ()) h2)) h1)) h)
def ref04_Squarefree (a : Sl) (K : Sl → Hp → Prop) (h : Hp) : Prop :=
 (callP (ref04_Monic a) (fun r1 h1 =>
 (ifP ((r1.len : Int) == 0)
 (K r1 h1)
 (callP (ref04_Derivative r1) (fun r2 h2 =>
 (callP (ref04_GCD r1 r2) (fun r3 h3 =>
 (callP (ref04_DivMod r1 r3) (fun r4 h4 =>
 (callP (ref04_Monic r4.1) (fun r5 h5 =>
 (K r5 h5)) h4)) h3)) h2)) h1))) h)
def ref05_Chain (a : Sl) (K : Sl → Hp → Prop) (h : Hp) : Prop :=
 (callP (ref04_Degree a) (fun r1 h1 =>
 (ifP (decide (r1 < 1))
 (K nilS h1)
 (callP (ref04_Squarefree a) (fun r2 h2 =>
 (newP [.slice r2.a r2.len r2.cap] (fun p3 h3 =>
 (callP (ref04_Derivative r2) (fun r4 h4 =>
 (loopP (S := Sl × Sl × Sl × Unit) (fun s5 k6 h5 =>
 (ifP (decide ((s5.2.2.1.len : Int) > 0))
 (appP 1 24 [.slice nilS.a nilS.len nilS.cap] s5.2.1 1 [.slice s5.2.2.1.a s5.2.2.1.len s5.2.2.1.cap] (fun w7 h6 =>
 (callP (ref04_DivMod s5.1 s5.2.2.1) (fun r8 h7 =>
 (callP (ref02_FromInt (-1)) (fun r9 h8 =>
 (callP (ref04_Scale r8.2 r9) (fun r10 h9 =>
 (k6 (s5.2.2.1, w7, r10, ()) h9)) h8)) h7)) h6)) h5)
 (K s5.2.1 h5)))
 (r2, (⟨some p3, 1, 1⟩ : Sl), r4, ()) h4)) h3)) h2)) h1))) h)
def ref05_Count (a : Sl) (low : TRat) (high : TRat) (K : Int → Hp → Prop) (h : Hp) : Prop :=
 (callP (ref02_Cmp low high) (fun r1 h1 =>
 (ifP (decide (r1 ≥ 0))
 (K 0 h1)
 (callP (ref05_Chain a) (fun r2 h2 =>
 (callP (ref05_Changes r2 low) (fun r3 h3 =>
 (callP (ref05_Changes r2 high) (fun r4 h4 =>
 (K (IntKind.i64.wrap (r3 - r4)) h4)) h3)) h2)) h1))) h)
def ref05_ends (a : Sl) (K : (TRat × TRat) → Hp → Prop) (h : Hp) : Prop :=
 (callP (ref04_Bound a) (fun r1 h1 =>
 (callP (ref02_Neg r1) (fun r2 h2 =>
 (K (r2, r1) h2)) h1)) h)
def sturm_single (chain : Sl) (i : TInterval) (K : Bool → Hp → Prop) (h : Hp) : Prop :=
 (callP (rational_Valid i.low) (fun r1 h1 =>
 (ifP r1
 (callP (rational_Valid i.high) (fun r2 h2 =>
 (ifP r2
 (callP (interval_Valid i) (fun r3 h3 =>
 (ifP r3
 (callP (rational_Cmp i.low i.high) (fun r4 h4 =>
 (ifP (decide (r4 < 0))
 (callP (sturm_between chain i.low i.high) (fun r5 h5 =>
 (K (r5 == 1) h5)) h4)
 (K false h4))) h3)
 (K false h3))) h2)
 (K false h2))) h1)
 (K false h1))) h)
def sturm_Root (a : Sl) (i : TInterval) (K : (Int × Int) → Hp → Prop) (h : Hp) : Prop :=
 (callP (sturm_Chain a) (fun r1 h1 =>
 (callP (sturm_single r1 i) (fun r2 h2 =>
 (ifP (!r2)
 (K (0, 1) h2)
 (callP (sturm_around a) (fun r3 h3 =>
 (callP (rational_Cmp i.low r3.low) (fun r4 h4 =>
 (ifP (decide (r4 ≤ 0))
 (K (0, 0) h4)
 (callP (sturm_between r1 r3.low i.low) (fun r5 h5 =>
 (K (r5, 0) h5)) h4))) h3)) h2))) h1)) h)
def ref05_Interval (i : TInterval) (K : Bool → Hp → Prop) (h : Hp) : Prop :=
 (callP (ref02_Valid i.low) (fun r1 h1 =>
 (ifP r1
 (callP (ref02_Valid i.high) (fun r2 h2 =>
 (ifP r2
 (callP (ref02_Cmp i.low i.high) (fun r3 h3 =>
 (K (decide (r3 ≤ 0)) h3)) h2)
 (K false h2))) h1)
 (K false h1))) h)
def ref05_One (a : Sl) (i : TInterval) (K : Bool → Hp → Prop) (h : Hp) : Prop :=
 (callP (ref05_Interval i) (fun r1 h1 =>
 (ifP r1
 (callP (ref05_Count a i.low i.high) (fun r2 h2 =>
 (K (r2 == 1) h2)) h1)
 (K false h1))) h)
def ref05_Root (a : Sl) (i : TInterval) (K : Int → Hp → Prop) (h : Hp) : Prop :=
 (callP (ref05_ends a) (fun r1 h1 =>
 (callP (ref05_Count a (⟨(⟨r1.1.num.neg, r1.1.num.mag⟩ : TInt), (⟨r1.1.den.neg, r1.1.den.mag⟩ : TInt)⟩ : TRat) i.high) (fun r2 h2 =>
 (K (IntKind.i64.wrap (r2 - 1)) h2)) h1)) h)
def law05_SturmRoot (a : Sl) (i : TInterval) (K : Bool → Hp → Prop) (h : Hp) : Prop :=
 (joinP (S := Unit) (fun s1 h1 =>
 (callP (law05_cp a) (fun r3 h2 =>
 (callP (sturm_Root r3 i) (fun r4 h3 =>
 (callP (ref05_One a i) (fun r5 h4 =>
 (ifP (!r5)
 (ifP (r4.1 == 0)
 (K (r4.2 == 1) h4)
 (K false h4))
 (callP (ref05_Root a i) (fun r6 h5 =>
 (ifP (r4.1 == r6)
 (K (r4.2 == 0) h5)
 (K false h5))) h4))) h3)) h2)) h1))
 (fun k2 =>
 (callP (law05_awake) (fun r7 h6 =>
 (ifP (!r7)
 (callP (law05_awake) (fun r8 h7 =>
 (K r8 h7)) h6)
 (newP [.slice a.a a.len a.cap] (fun p9 h8 =>
 (callP (law05_small (⟨some p9, 1, 1⟩ : Sl)) (fun r10 h9 =>
 (ifP (!r10)
 (callP (law05_awake) (fun r11 h10 =>
 (K r11 h10)) h9)
 (ifP (decide ((i.low.num.mag.len : Int) > 4))
 (callP (law05_awake) (fun r12 h11 =>
 (K r12 h11)) h9)
 (ifP (decide ((i.high.num.mag.len : Int) > 4))
 (callP (law05_awake) (fun r13 h12 =>
 (K r13 h12)) h9)
 (ifP (decide ((i.low.den.mag.len : Int) > 4))
 (callP (law05_awake) (fun r14 h13 =>
 (K r14 h13)) h9)
 (ifP (decide ((i.high.den.mag.len : Int) > 4))
 (callP (law05_awake) (fun r15 h14 =>
 (K r15 h14)) h9)
 (k2 () h9))))))) h8)) h6))) h)))
end F
end Den
end

section
set_option linter.unusedVariables false
namespace Den
open Go Iv

/-- A call that needs only a part of the memory. -/
theorem callP_sub {α : Type} {G : (α → Hp → Prop) → Hp → Prop} {K1 K : α → Hp → Prop} {D h : Hp} (hD : D.le h) (H : callP G K1 D)
    (k : ∀ v D' h', D.le D' → D'.le h' → (∀ j, D j = none → h j ≠ none → D' j = none ∧ h' j = h j) → K1 v D' → K v h') : callP G K h := by
  obtain ⟨O, hO⟩ : ∃ O : Hp, O = fun j => match D j with | none => h j | some _ => none := ⟨_, rfl⟩
  have e : h = D.add O := by
    funext j
    unfold Hp.add
    rw [hO]
    cases hj : D j with
    | none => simp [hj]
    | some b => simp [hD j b hj]
  have hdj : D.dj O := fun j => by
    cases hj : D j with
    | none => exact .inl rfl
    | some b => right; rw [hO]; simp [hj]
  rw [e]
  refine callP_frame hdj H fun v D' hl hdj' hk => k v D' _ hl (Hp.le_add _ _) (fun j h1 h2 => ?_) hk
  have e2 : h j = O j := by rw [hO]; simp [h1]
  rw [e2] at h2 ⊢
  have h3 : D' j = none := by
    rcases hdj' j with h4 | h4
    · exact h4
    · exact absurd h4 h2
  exact ⟨h3, by unfold Hp.add; rw [h3]⟩

theorem Own.move {D h D' h' : Hp} {n : Nat} {l : Sl} {cs : List Value} (ho : Own D h n l cs) (h1 : D'.le h') (hfr : ∀ j, D j = none → h j ≠ none → D' j = none ∧ h' j = h j) : Own D' h' n l cs := by
  obtain ⟨g1, g2, g3, g4⟩ := ho
  refine ⟨h1, g2, g3, ?_⟩
  cases ha : l.a with
  | none => rw [ha] at g4; exact g4
  | some a =>
    rw [ha] at g4
    obtain ⟨k1, k2, k3, b, k4, k5⟩ := g4
    have := hfr a.block k3 (by rw [k4]; simp)
    exact ⟨k1, k2, this.1, b, by rw [this.2]; exact k4, k5⟩

/-- A call beside a list of one's own. -/
theorem Own.call {α : Type} {G : (α → Hp → Prop) → Hp → Prop} {K1 K : α → Hp → Prop} {D h : Hp} {n : Nat} {l : Sl} {cs : List Value} (ho : Own D h n l cs) (H : callP G K1 D)
    (k : ∀ v D' h', D.le D' → Own D' h' n l cs → K1 v D' → K v h') : callP G K h :=
  callP_sub ho.1 H fun v D' h' h1 h2 h3 h4 => k v D' h' h1 (ho.move h2 h3) h4

/-- Two lists lie apart. -/
def Apt (x y : Sl) : Prop := ∀ a b, x.a = some a → y.a = some b → a.block ≠ b.block
theorem Apt.symm {x y : Sl} (h : Apt x y) : Apt y x := fun a b h1 h2 => (h b a h2 h1).symm

/-- A list stays as it is where only another one changes. -/
theorem own_stay {D h h' : Hp} {n : Nat} {l x : Sl} {cs : List Value} (ho : Own D h n l cs) (hap : Apt x l) (hl : D.le h') (hs : ∀ j, (∀ a, x.a = some a → j ≠ a.block) → h' j = h j) : Own D h' n l cs := by
  obtain ⟨g1, g2, g3, g4⟩ := ho
  refine ⟨hl, g2, g3, ?_⟩
  cases ha : l.a with
  | none => rw [ha] at g4; exact g4
  | some a =>
    rw [ha] at g4
    obtain ⟨k1, k2, k3, b, k4, k5⟩ := g4
    exact ⟨k1, k2, k3, b, by rw [hs a.block fun c hc => (hap c a hc ha).symm]; exact k4, k5⟩

theorem st_own2 {h0 h : Hp} {size : Nat} {x : Sl} {cs vs : List Value} {i : Int} {K : Hp → Prop} (k : Nat) (ho : Own h0 h size x cs) (hi : i = k) (hk : k < x.len) (hv : vs.length = size) (hsz : 0 < size) (hleaf : vs.all Value.leaf = true)
    (H : ∀ h', Own h0 h' size x (splice cs (k * size) vs) → (∀ j, (∀ a, x.a = some a → j ≠ a.block) → h' j = h j) → K h') : idxP x i size fun a => stP a vs K h := by
  subst hi
  obtain ⟨h1, h2, h3, h4⟩ := ho
  refine ⟨by omega, by omega, ?_⟩
  cases ha : x.a with
  | none => rw [ha] at h4; simp only at h4; omega
  | some a =>
    rw [ha] at h4
    obtain ⟨g1, g2, g3, b, g4, g5, g6, g7⟩ := h4
    have e0 : ((k : Int).toNat) = k := rfl
    have e1 : k * size + size ≤ cs.length := by
      rw [← h2]
      have := Nat.mul_le_mul_right size (show k + 1 ≤ x.len by omega)
      rw [Nat.add_mul] at this; omega
    have e2 : cs.length ≤ b.cells.length := by rw [g6, ← h2]; exact Nat.mul_le_mul_right _ h3
    show ptrK (some a) _
    simp only [ptrK, e0]
    refine ⟨b, by rw [add_block]; exact g4, add_spot g2 _, g5, by rw [add_off]; omega, hleaf, ?_⟩
    rw [add_block, add_off, g1, Nat.zero_add]
    refine H _ ⟨?_, ?_, h3, ?_⟩ fun j hj => ?_
    · intro kk bk hkk
      rw [Hp.ins_ne (fun hh => by subst hh; rw [g3] at hkk; cases hkk)]
      exact h1 kk bk hkk
    · rw [splice_len (by omega)]; exact h2
    · rw [ha]
      refine ⟨g1, g2, g3, _, Hp.ins_same _ _ _, g5, ?_, ?_⟩
      · show (splice b.cells (k * size) vs).length = _
        rw [splice_len (by omega)]; exact g6
      · show (splice b.cells (k * size) vs).take _ = _
        rw [splice_len (by omega)]
        exact splice_take (by omega) g7
    · exact Hp.ins_ne (hj a ha)

section
variable {α : Type} {c : α → List Value} {n : Nat}
theorem flat_splice (hc : ∀ x, (c x).length = n) {x : α} : ∀ {xs : List α} {k : Nat}, k < xs.length → splice (xs.flatMap c) (k * n) (c x) = (xs.set k x).flatMap c
  | [], k, h => by simp at h
  | y :: r, 0, h => by
    unfold splice
    simp only [Nat.zero_mul, List.take_zero, List.nil_append, Nat.zero_add, List.set_cons_zero, List.flatMap_cons, hc]
    congr 1
    rw [← hc y, List.drop_left]
  | y :: r, k + 1, h => by
    have ih := flat_splice hc (x := x) (xs := r) (k := k) (by simpa using h)
    unfold splice at ih ⊢
    rw [hc] at ih ⊢
    have e1 : (k + 1) * n = n + k * n := by rw [Nat.add_mul]; omega
    have e2 : n + k * n + n = n + (k * n + n) := by omega
    simp only [List.flatMap_cons, List.set_cons_succ]
    rw [e1, e2, ← ih]
    have e3 : ∀ j, (c y ++ r.flatMap c).take (n + j) = c y ++ (r.flatMap c).take j := fun j => by
      rw [List.take_append, hc, Nat.add_sub_cancel_left, List.take_of_length_le (by rw [hc]; omega)]
    have e4 : ∀ j, (c y ++ r.flatMap c).drop (n + j) = (r.flatMap c).drop j := fun j => by
      rw [List.drop_append, hc, Nat.add_sub_cancel_left, List.drop_of_length_le (by rw [hc]; omega), List.nil_append]
    rw [e3, e4]
    simp [List.append_assoc]
theorem Own.flen (hc : ∀ x, (c x).length = n) (hn : 0 < n) {D h : Hp} {l : Sl} {xs : List α} (ho : Own D h n l (xs.flatMap c)) : l.len = xs.length := by
  have := ho.2.1
  rw [flat_len hc] at this
  exact Nat.eq_of_mul_eq_mul_right hn this
theorem set_own (hc : ∀ x, (c x).length = n) (hn : 0 < n) {D h : Hp} {l : Sl} {xs : List α} {x : α} {i : Int} {K : Hp → Prop} (k : Nat) (ho : Own D h n l (xs.flatMap c)) (hi : i = k) (hk : k < xs.length) (hleaf : (c x).all Value.leaf = true)
    (H : ∀ h', Own D h' n l ((xs.set k x).flatMap c) → (∀ j, (∀ a, l.a = some a → j ≠ a.block) → h' j = h j) → K h') : idxP l i n fun a => stP a (c x) K h := by
  refine st_own2 k ho hi (by rw [ho.flen hc hn]; exact hk) (hc x) hn hleaf fun h' h1 h2 => H h' ?_ h2
  rw [flat_splice hc hk] at h1
  exact h1
end

theorem qc_leaf (x : TRat) : (qc x).all Value.leaf = true := rfl
theorem QL.set {h : Hp} {B : Nat} {xs : List TRat} {vs : List Rat} {x : TRat} {v : Rat} {k : Nat} (hq : QL h B xs vs) (h1 : NR h x v) (h2 : BR B v) : QL h B (xs.set k x) (vs.set k v) := by
  refine ⟨by simp [hq.1], fun j j1 j2 => ?_⟩
  rw [List.getElem_set, List.getElem_set]
  by_cases hj : k = j
  · rw [if_pos hj, if_pos hj]; exact ⟨h1, h2⟩
  · rw [if_neg hj, if_neg hj]
    exact hq.2 j (by simpa using j1) (by simpa using j2)
theorem QL.mono {h : Hp} {B C : Nat} {xs : List TRat} {vs : List Rat} (hq : QL h B xs vs) (hB : B ≤ C) : QL h C xs vs := ⟨hq.1, fun k h1 h2 => ⟨(hq.2 k h1 h2).1, (hq.2 k h1 h2).2.mono hB⟩⟩
theorem QL.take {h : Hp} {B : Nat} {xs : List TRat} {vs : List Rat} {k : Nat} (hq : QL h B xs vs) : QL h B (xs.take k) (vs.take k) := by
  refine ⟨by simp [hq.1], fun j j1 j2 => ?_⟩
  rw [List.getElem_take, List.getElem_take]
  exact hq.2 j (by simp at j1; omega) (by simp at j2; omega)
theorem QL.bound {h : Hp} {B : Nat} {xs : List TRat} {vs : List Rat} (hq : QL h B xs vs) : ∀ v ∈ vs, BR B v := fun v hv => by
  obtain ⟨i, hi, rfl⟩ := List.mem_iff_getElem.1 hv
  exact (hq.2 i (by rw [hq.1]; exact hi) hi).2

/-- l holds the numbers p. -/
def PL (h : Hp) (B : Nat) (l : Sl) (p : List Rat) : Prop := ∃ xs, RdQ h l xs ∧ QL h B xs p ∧ l.len ≤ l.cap
/-- l holds the numbers p, in memory of its own beside D. -/
def OD (D h : Hp) (B : Nat) (l : Sl) (p : List Rat) : Prop := ∃ xs, Own D h 4 l (xs.flatMap qc) ∧ QL D B xs p
/-- l holds the numbers p, in memory of its own beside h0. -/
def OL (h0 h : Hp) (B : Nat) (l : Sl) (p : List Rat) : Prop := ∃ D, h0.le D ∧ OD D h B l p
section
variable {D h h' h0 : Hp} {B : Nat} {l : Sl} {p : List Rat}
theorem PL.le (hp : PL h B l p) (hl : h.le h') : PL h' B l p := by
  obtain ⟨xs, h1, h2, h3⟩ := hp
  exact ⟨xs, h1.le hl, h2.le hl, h3⟩
theorem PL.mono {C : Nat} (hp : PL h B l p) (hB : B ≤ C) : PL h C l p := by
  obtain ⟨xs, h1, h2, h3⟩ := hp
  exact ⟨xs, h1, h2.mono hB, h3⟩
theorem PL.len (hp : PL h B l p) : l.len = p.length := by
  obtain ⟨xs, h1, h2, h3⟩ := hp
  rw [RdQ.len h1, h2.1]
theorem PL.cap (hp : PL h B l p) : l.len ≤ l.cap := by obtain ⟨xs, h1, h2, h3⟩ := hp; exact h3
theorem PL.bound (hp : PL h B l p) : ∀ v ∈ p, BR B v := by obtain ⟨xs, h1, h2, h3⟩ := hp; exact h2.bound
theorem PL.nil : PL h B nilS [] := ⟨[], Rd.nil, ⟨rfl, fun k h1 _ => by simp at h1⟩, Nat.le_refl _⟩
theorem PL.get {i : Int} {K : Bool → Sl → Bool → Sl → Prop} (k : Nat) (hp : PL h B l p) (hi : i = k) (hk : k < p.length)
    (H : ∀ x : TRat, NR h x p[k] → BR B p[k] → K x.num.neg x.num.mag x.den.neg x.den.mag) :
    idxP l i 4 fun a => ldL .bool (a.add 0) (fun x0 => ldL .sl (a.add 1) (fun x1 => ldL .bool (a.add 2) (fun x2 => ldL .sl (a.add 3) (fun x3 => K x0 x1 x2 x3) h) h) h) h := by
  obtain ⟨xs, h1, h2, h3⟩ := hp
  have hk' : k < xs.length := by rw [h2.1]; exact hk
  have := h2.2 k hk' hk
  exact rd_rat k h1 hi hk' (H _ this.1 this.2)
theorem OD.pl (ho : OD D h B l p) : PL h B l p := by
  obtain ⟨xs, h1, h2⟩ := ho
  exact ⟨xs, h1.rd, h2.le h1.1, h1.2.2.1⟩
theorem OD.dle (ho : OD D h B l p) : D.le h := by obtain ⟨xs, h1, h2⟩ := ho; exact h1.1
theorem OD.len (ho : OD D h B l p) : l.len = p.length := ho.pl.len
theorem OD.mono {C : Nat} (hp : OD D h B l p) (hB : B ≤ C) : OD D h C l p := by
  obtain ⟨xs, h1, h2⟩ := hp
  exact ⟨xs, h1, h2.mono hB⟩
theorem OL.pl (ho : OL h0 h B l p) : PL h B l p := by obtain ⟨D, _, h2⟩ := ho; exact h2.pl
theorem OL.hle (ho : OL h0 h B l p) : h0.le h := by obtain ⟨D, h1, h2⟩ := ho; exact Hp.le_trans h1 h2.dle
theorem OL.len (ho : OL h0 h B l p) : l.len = p.length := ho.pl.len
theorem OD.nil : OD h h B nilS [] := ⟨[], Own.nil (Hp.le_refl _), ⟨rfl, fun k h1 _ => by simp at h1⟩⟩
/-- An element of a list that may change: its number lies in the part that stays. -/
theorem OD.get {i : Int} {K : Bool → Sl → Bool → Sl → Prop} (k : Nat) (hp : OD D h B l p) (hi : i = k) (hk : k < p.length)
    (H : ∀ x : TRat, NR D x p[k] → BR B p[k] → K x.num.neg x.num.mag x.den.neg x.den.mag) :
    idxP l i 4 fun a => ldL .bool (a.add 0) (fun x0 => ldL .sl (a.add 1) (fun x1 => ldL .bool (a.add 2) (fun x2 => ldL .sl (a.add 3) (fun x3 => K x0 x1 x2 x3) h) h) h) h := by
  obtain ⟨xs, h1, h2⟩ := hp
  have hk' : k < xs.length := by rw [h2.1]; exact hk
  have := h2.2 k hk' hk
  exact rd_rat k h1.rd hi hk' (H _ this.1 this.2)
theorem OD.set {i : Int} {K : Hp → Prop} {x : TRat} {v : Rat} (k : Nat) (hp : OD D h B l p) (hi : i = k) (hk : k < p.length) (hx : NR D x v) (bx : BR B v)
    (H : ∀ h', OD D h' B l (p.set k v) → (∀ j, (∀ a, l.a = some a → j ≠ a.block) → h' j = h j) → K h') :
    idxP l i 4 fun a => stP a [.bool x.num.neg, .slice x.num.mag.a x.num.mag.len x.num.mag.cap, .bool x.den.neg, .slice x.den.mag.a x.den.mag.len x.den.mag.cap] K h := by
  obtain ⟨xs, h1, h2⟩ := hp
  exact set_own qc_len (by decide) k h1 hi (by rw [h2.1]; exact hk) (qc_leaf x) fun h' g1 g2 => H h' ⟨_, g1, h2.set hx bx⟩ g2
theorem OD.call {α : Type} {G : (α → Hp → Prop) → Hp → Prop} {K1 K : α → Hp → Prop} (hp : OD D h B l p) (H : callP G K1 D)
    (k : ∀ v D' h', D.le D' → OD D' h' B l p → K1 v D' → K v h') : callP G K h := by
  obtain ⟨xs, h1, h2⟩ := hp
  exact h1.call H fun v D' h' g1 g2 g3 => k v D' h' g1 ⟨_, g2, h2.le g1⟩ g3
theorem OD.app {Ks : Sl → Hp → Prop} {x : TRat} {v : Rat} (hp : OD D h B l p) (hlen : p.length ≤ 1000000000000) (hx : NR D x v) (bx : BR B v) (H : ∀ y h', OD D h' B y (p ++ [v]) → Ks y h') :
    appP 4 64 [.bool false, .slice nilS.a nilS.len nilS.cap, .bool false, .slice nilS.a nilS.len nilS.cap] l 1 [.bool x.num.neg, .slice x.num.mag.a x.num.mag.len x.num.mag.cap, .bool x.den.neg, .slice x.den.mag.a x.den.mag.len x.den.mag.cap] Ks h := by
  have hl := hp.len
  obtain ⟨xs, h1, h2⟩ := hp
  refine app_own h1 (n := 1) (new := qc x) rfl rfl rfl (by omega) (by omega) fun y h' hy hyl => H y h' ⟨xs ++ [x], ?_, ?_⟩
  · rw [List.flatMap_append]
    simp only [List.flatMap_cons, List.flatMap_nil, List.append_nil]
    exact hy
  · refine ⟨by simp [h2.1], fun k k1 k2 => ?_⟩
    have hl2 := h2.1
    rcases Nat.lt_or_ge k xs.length with h3 | h3
    · rw [List.getElem_append_left h3, List.getElem_append_left (by omega)]
      exact h2.2 k h3 (by omega)
    · have h4 : k = xs.length := by simp at k1; omega
      subst h4
      rw [List.getElem_append_right (Nat.le_refl _), List.getElem_append_right (by omega)]
      simp only [Nat.sub_self, List.getElem_cons_zero]
      have : xs.length - p.length = 0 := by omega
      simp only [this, List.getElem_cons_zero]
      exact ⟨hx, bx⟩
end
end Den
end

section
set_option linter.unusedVariables false
namespace Pq

/-- The sum of the first n values. -/
def sm (n : Nat) (f : Nat → Rat) : Rat := match n with | 0 => 0 | n + 1 => sm n f + f n
theorem sm_zero {f : Nat → Rat} : sm 0 f = 0 := rfl
theorem sm_succ {n : Nat} {f : Nat → Rat} : sm (n + 1) f = sm n f + f n := rfl
theorem sm_congr {n : Nat} {f g : Nat → Rat} (h : ∀ i, i < n → f i = g i) : sm n f = sm n g := by
  induction n with
  | zero => rfl
  | succ n ih => rw [sm_succ, sm_succ, ih (fun i hi => h i (by omega)), h n (by omega)]
theorem sm_add {n : Nat} {f g : Nat → Rat} : sm n (fun i => f i + g i) = sm n f + sm n g := by
  induction n with
  | zero => simp only [sm_zero]; grind
  | succ n ih => simp only [sm_succ, ih]; grind
theorem sm_mul {n : Nat} {f : Nat → Rat} {c : Rat} : sm n (fun i => c * f i) = c * sm n f := by
  induction n with
  | zero => simp only [sm_zero]; grind
  | succ n ih => simp only [sm_succ, ih]; grind
theorem sm_zeros {n : Nat} {f : Nat → Rat} (h : ∀ i, i < n → f i = 0) : sm n f = 0 := by
  induction n with
  | zero => rfl
  | succ n ih => rw [sm_succ, ih (fun i hi => h i (by omega)), h n (by omega)]; grind
theorem sm_head {n : Nat} {f : Nat → Rat} : sm (n + 1) f = f 0 + sm n (fun i => f (i + 1)) := by
  induction n with
  | zero => simp only [sm_succ, sm_zero]; grind
  | succ n ih => rw [sm_succ, ih, sm_succ]; grind
theorem sm_rev {n : Nat} {f : Nat → Rat} : sm n f = sm n (fun i => f (n - 1 - i)) := by
  induction n with
  | zero => rfl
  | succ n ih =>
    rw [sm_succ, sm_head (f := fun i => f (n + 1 - 1 - i)), ih]
    have e : sm n (fun i => f (n - 1 - i)) = sm n (fun i => f (n + 1 - 1 - (i + 1))) := sm_congr fun i hi => by congr 1; omega
    rw [e]
    have e2 : n + 1 - 1 - 0 = n := by omega
    rw [e2]; grind
/-- Only one summand is not zero. -/
theorem sm_one {n k : Nat} {f : Nat → Rat} (hk : k < n) (h : ∀ i, i < n → i ≠ k → f i = 0) : sm n f = f k := by
  induction n with
  | zero => omega
  | succ n ih =>
    rw [sm_succ]
    by_cases h1 : k = n
    · subst h1
      rw [sm_zeros fun i hi => h i (by omega) (by omega)]; grind
    · rw [ih (by omega) (fun i hi h2 => h i (by omega) h2), h n (by omega) (by omega)]; grind
theorem sm_more {n m : Nat} {f : Nat → Rat} (hm : n ≤ m) (h : ∀ i, n ≤ i → i < m → f i = 0) : sm m f = sm n f := by
  induction m with
  | zero => have : n = 0 := by omega
            subst this; rfl
  | succ m ih =>
    by_cases h1 : n = m + 1
    · subst h1; rfl
    · rw [sm_succ, ih (by omega) (fun i h2 h3 => h i h2 (by omega)), h m (by omega) (by omega)]; grind

/-- A coefficient. -/
def co (p : List Rat) (i : Nat) : Rat := p.getD i 0
theorem co_nil {i : Nat} : co [] i = 0 := rfl
theorem co_cons_zero {c : Rat} {p : List Rat} : co (c :: p) 0 = c := rfl
theorem co_cons_succ {c : Rat} {p : List Rat} {i : Nat} : co (c :: p) (i + 1) = co p i := rfl
theorem co_ge {p : List Rat} {i : Nat} (h : p.length ≤ i) : co p i = 0 := by
  unfold co; rw [List.getD_eq_getElem?_getD, List.getElem?_eq_none h]; rfl
theorem co_lt {p : List Rat} {i : Nat} (h : i < p.length) : co p i = p[i] := by
  unfold co; rw [List.getD_eq_getElem?_getD, List.getElem?_eq_getElem h]; rfl
theorem co_take {p : List Rat} {n i : Nat} : co (p.take n) i = if i < n then co p i else 0 := by
  unfold co
  rw [List.getD_eq_getElem?_getD, List.getD_eq_getElem?_getD, List.getElem?_take]
  split <;> rfl
theorem co_append {p q : List Rat} {i : Nat} : co (p ++ q) i = if i < p.length then co p i else co q (i - p.length) := by
  unfold co
  rw [List.getD_eq_getElem?_getD, List.getD_eq_getElem?_getD, List.getD_eq_getElem?_getD, List.getElem?_append]
  split <;> rfl
theorem co_set {p : List Rat} {k i : Nat} {c : Rat} (hk : k < p.length) : co (p.set k c) i = if i = k then c else co p i := by
  unfold co
  rw [List.getD_eq_getElem?_getD, List.getD_eq_getElem?_getD, List.getElem?_set]
  by_cases h : k = i
  · subst h; rw [if_pos rfl, if_pos rfl, if_pos hk]; rfl
  · rw [if_neg h, if_neg (fun hh => h hh.symm)]
theorem co_replicate {n i : Nat} : co (List.replicate n 0) i = 0 := by
  unfold co
  rw [List.getD_eq_getElem?_getD, List.getElem?_replicate]
  split <;> rfl
theorem co_map {f : Rat → Rat} (h0 : f 0 = 0) {p : List Rat} {i : Nat} : co (p.map f) i = f (co p i) := by
  unfold co
  rw [List.getD_eq_getElem?_getD, List.getD_eq_getElem?_getD, List.getElem?_map]
  cases p[i]? with
  | none => exact h0.symm
  | some x => rfl

/-- Without zeros at the end. -/
def nf (p : List Rat) : Prop := p = [] ∨ co p (p.length - 1) ≠ 0
theorem nf_nil : nf [] := .inl rfl
theorem nf_len {p : List Rat} {n : Nat} (hp : nf p) (h : ∀ i, n ≤ i → co p i = 0) : p.length ≤ n := by
  rcases hp with rfl | hp
  · simp
  · refine Nat.le_of_not_lt fun hh => hp (h _ (by omega))
theorem nf_top {p : List Rat} (hp : nf p) (h : p ≠ []) : co p (p.length - 1) ≠ 0 := by
  rcases hp with h1 | h1
  · exact absurd h1 h
  · exact h1
theorem nf_ext {p q : List Rat} (hp : nf p) (hq : nf q) (h : ∀ i, co p i = co q i) : p = q := by
  have h1 : p.length ≤ q.length := nf_len hp fun i hi => by rw [h, co_ge hi]
  have h2 : q.length ≤ p.length := nf_len hq fun i hi => by rw [← h, co_ge hi]
  refine List.ext_getElem (by omega) fun i h3 h4 => ?_
  rw [← co_lt h3, ← co_lt h4, h]
theorem nf_eq_nil {p : List Rat} (hp : nf p) (h : ∀ i, co p i = 0) : p = [] := nf_ext hp nf_nil h
theorem nf_take {p : List Rat} {n : Nat} (hn : n ≤ p.length) (h : n = 0 ∨ co p (n - 1) ≠ 0) : nf (p.take n) := by
  rcases Nat.eq_zero_or_pos n with h0 | h0
  · subst h0; exact .inl rfl
  · right
    rw [List.length_take, Nat.min_eq_left hn, co_take, if_pos (by omega)]
    rcases h with h | h
    · omega
    · exact h
/-- The normal form. -/
def trim : List Rat → List Rat
  | [] => []
  | c :: r => match trim r with
    | [] => if c = 0 then [] else [c]
    | d :: t => c :: d :: t
theorem co_trim : ∀ {p : List Rat} {i : Nat}, co (trim p) i = co p i
  | [], _ => rfl
  | c :: r, i => by
    have ih : ∀ j, co (trim r) j = co r j := fun j => co_trim
    unfold trim
    split
    · rename_i h
      rw [h] at ih
      have h0 : ∀ j, co r j = 0 := fun j => (ih j).symm
      split
      · rename_i hc
        cases i with
        | zero => rw [co_cons_zero, hc]; rfl
        | succ i => rw [co_cons_succ, h0]; rfl
      · cases i with
        | zero => rfl
        | succ i => rw [co_cons_succ, co_cons_succ, h0]; rfl
    · rename_i d t h
      cases i with
      | zero => rfl
      | succ i => rw [co_cons_succ, co_cons_succ, ← h]; exact ih i
theorem nf_trim : ∀ {p : List Rat}, nf (trim p)
  | [] => .inl rfl
  | c :: r => by
    have ih : nf (trim r) := nf_trim
    unfold trim
    split
    · split
      · exact .inl rfl
      · rename_i h; exact .inr h
    · rename_i d t h
      rw [h] at ih
      have h3 := nf_top ih (by simp)
      have e1 : (d :: t).length - 1 = t.length := by simp
      have e2 : (c :: d :: t).length - 1 = t.length + 1 := by simp
      right
      rw [e1] at h3
      rw [e2]
      exact h3
theorem trim_of {p r : List Rat} (hr : nf r) (h : ∀ i, co r i = co p i) : r = trim p := nf_ext hr nf_trim fun i => by rw [h, co_trim]
theorem trim_nf {p : List Rat} (hp : nf p) : trim p = p := (trim_of hp fun _ => rfl).symm
theorem trim_len {p : List Rat} : (trim p).length ≤ p.length := nf_len nf_trim fun i hi => by rw [co_trim, co_ge hi]

def conv (f g : Nat → Rat) (n : Nat) : Rat := sm (n + 1) fun i => f i * g (n - i)
theorem conv_comm {f g : Nat → Rat} {n : Nat} : conv f g n = conv g f n := by
  unfold conv
  rw [sm_rev]
  refine sm_congr fun i hi => ?_
  have e1 : n + 1 - 1 - i = n - i := by omega
  have e2 : n - (n - i) = i := by omega
  rw [e1, e2, Rat.mul_comm]
theorem conv_add {f g k : Nat → Rat} {n : Nat} : conv f (fun i => g i + k i) n = conv f g n + conv f k n := by
  unfold conv
  rw [← sm_add]
  exact sm_congr fun i _ => by grind
theorem conv_congr {f g f' g' : Nat → Rat} {n : Nat} (h1 : ∀ i, f i = f' i) (h2 : ∀ i, g i = g' i) : conv f g n = conv f' g' n := by
  unfold conv
  exact sm_congr fun i _ => by rw [h1, h2]
/-- The sum of some rows. -/
def part (f g : Nat → Rat) (m n : Nat) : Rat := sm m fun i => if i ≤ n then f i * g (n - i) else 0
theorem part_conv {f g : Nat → Rat} {m n : Nat} (h : ∀ i, m ≤ i → f i = 0) : part f g m n = conv f g n := by
  unfold part conv
  rcases Nat.le_total m (n + 1) with h1 | h1
  · rw [sm_more h1 fun i h2 h3 => by rw [h i h2]; grind]
    exact sm_congr fun i hi => if_pos (by omega)
  · rw [sm_more h1 fun i h2 h3 => if_neg (by omega)]
    exact sm_congr fun i hi => if_pos (by omega)
theorem conv_zero_of {f g : Nat → Rat} {a b n : Nat} (h1 : ∀ i, a ≤ i → f i = 0) (h2 : ∀ i, b ≤ i → g i = 0) (hn : a + b ≤ n + 1) : conv f g n = 0 := by
  unfold conv
  refine sm_zeros fun i hi => ?_
  by_cases h3 : a ≤ i
  · rw [h1 i h3]; grind
  · rw [h2 (n - i) (by omega)]; grind
/-- The leading coefficient of a product. -/
theorem conv_top {f g : Nat → Rat} {a b : Nat} (h1 : ∀ i, a < i → f i = 0) (h2 : ∀ i, b < i → g i = 0) : conv f g (a + b) = f a * g b := by
  unfold conv
  rw [sm_one (k := a) (by omega) fun i hi h3 => ?_]
  · congr 2; omega
  · by_cases h4 : a < i
    · rw [h1 i h4]; grind
    · rw [h2 (a + b - i) (by omega)]; grind
end Pq
end

section
set_option linter.unusedVariables false
namespace Pq

def der (f : Nat → Rat) (n : Nat) : Rat := ((n + 1 : Nat) : Rat) * f (n + 1)
theorem cast_split {n i : Nat} (h : i ≤ n) : ((n : Nat) : Rat) = ((i : Nat) : Rat) + ((n - i : Nat) : Rat) := by
  rw [← Rat.natCast_add]; congr 1; omega
theorem der_conv {f g : Nat → Rat} {n : Nat} : der (conv f g) n = conv (der f) g n + conv f (der g) n := by
  unfold der
  have e1 : ((n + 1 : Nat) : Rat) * conv f g (n + 1) = sm (n + 2) (fun i => (((i : Nat) : Rat) * f i) * g (n + 1 - i)) + sm (n + 2) (fun i => f i * (((n + 1 - i : Nat) : Rat) * g (n + 1 - i))) := by
    unfold conv
    rw [← sm_mul, ← sm_add]
    refine sm_congr fun i hi => ?_
    rw [cast_split (show i ≤ n + 1 by omega)]; grind
  have e2 : sm (n + 2) (fun i => (((i : Nat) : Rat) * f i) * g (n + 1 - i)) = conv (fun n => ((n + 1 : Nat) : Rat) * f (n + 1)) g n := by
    rw [sm_head]
    unfold conv
    have h0 : ((0 : Nat) : Rat) = 0 := rfl
    rw [h0, Rat.zero_mul, Rat.zero_mul, Rat.zero_add]
    refine sm_congr fun i hi => ?_
    have : n + 1 - (i + 1) = n - i := by omega
    rw [this]
  have e3 : sm (n + 2) (fun i => f i * (((n + 1 - i : Nat) : Rat) * g (n + 1 - i))) = conv f (fun n => ((n + 1 : Nat) : Rat) * g (n + 1)) n := by
    rw [sm_succ]
    unfold conv
    have h0 : n + 1 - (n + 1) = 0 := by omega
    have h1 : ((0 : Nat) : Rat) = 0 := rfl
    rw [h0, h1, Rat.zero_mul, Rat.mul_zero, Rat.add_zero]
    refine sm_congr fun i hi => ?_
    have : n + 1 - i = n - i + 1 := by omega
    rw [this]
  rw [e1, e2, e3]

def addL : List Rat → List Rat → List Rat
  | [], q => q
  | p, [] => p
  | a :: p, b :: q => (a + b) :: addL p q
def mulL : List Rat → List Rat → List Rat
  | [], _ => []
  | c :: r, q => addL (q.map (c * ·)) (0 :: mulL r q)
def ev : List Rat → Rat → Rat
  | [], _ => 0
  | c :: r, x => c + ev r x * x
theorem co_addL : ∀ {p q : List Rat} {i : Nat}, co (addL p q) i = co p i + co q i
  | [], q, i => by rw [addL, co_nil, Rat.zero_add]
  | a :: p, [], i => by rw [addL, co_nil, Rat.add_zero]; simp
  | a :: p, b :: q, 0 => rfl
  | a :: p, b :: q, i + 1 => by rw [addL, co_cons_succ, co_cons_succ, co_cons_succ]; exact co_addL
theorem conv_cons {c : Rat} {r : List Rat} {g : Nat → Rat} {n : Nat} : conv (co (c :: r)) g n = c * g n + (match n with | 0 => 0 | n + 1 => conv (co r) g n) := by
  unfold conv
  rw [sm_head]
  cases n with
  | zero => simp only [sm_zero]; rw [co_cons_zero]
  | succ n =>
    simp only [co_cons_zero, co_cons_succ, Nat.sub_zero]
    congr 1
    refine sm_congr fun i hi => ?_
    have : n + 1 - (i + 1) = n - i := by omega
    rw [this]
theorem conv_nil {g : Nat → Rat} {n : Nat} : conv (co []) g n = 0 := sm_zeros fun i _ => by rw [co_nil, Rat.zero_mul]
theorem co_mulL : ∀ {p q : List Rat} {n : Nat}, co (mulL p q) n = conv (co p) (co q) n
  | [], q, n => by rw [mulL, conv_nil]; rfl
  | c :: r, q, n => by
    rw [mulL, co_addL, conv_cons, co_map (f := (c * ·)) (Rat.mul_zero c)]
    congr 1
    cases n with
    | zero => rfl
    | succ n => rw [co_cons_succ]; exact co_mulL
theorem ev_addL : ∀ {p q : List Rat} {x : Rat}, ev (addL p q) x = ev p x + ev q x
  | [], q, x => by rw [addL, ev, Rat.zero_add]
  | a :: p, [], x => by simp only [addL, ev]; grind
  | a :: p, b :: q, x => by simp only [addL, ev]; rw [ev_addL]; grind
theorem ev_map {c : Rat} : ∀ {p : List Rat} {x : Rat}, ev (p.map (c * ·)) x = c * ev p x
  | [], x => by simp only [List.map_nil, ev]; grind
  | a :: p, x => by simp only [List.map_cons, ev]; rw [ev_map]; grind
theorem ev_mulL : ∀ {p q : List Rat} {x : Rat}, ev (mulL p q) x = ev p x * ev q x
  | [], q, x => by simp only [mulL, ev]; grind
  | c :: r, q, x => by simp only [mulL]; rw [ev_addL, ev_map]; simp only [ev]; rw [ev_mulL]; grind
theorem ev_trim : ∀ {p : List Rat} {x : Rat}, ev (trim p) x = ev p x
  | [], x => rfl
  | c :: r, x => by
    have ih := ev_trim (p := r) (x := x)
    unfold trim
    split
    · rename_i h
      rw [h] at ih
      simp only [ev] at ih
      split
      · rename_i hc; simp only [ev]; rw [← ih, hc]; grind
      · simp only [ev]; rw [← ih]
    · rename_i d t h
      rw [h] at ih
      rw [show ev (c :: d :: t) x = c + ev (d :: t) x * x from rfl, ih]; rfl
theorem ev_congr {p q : List Rat} {x : Rat} (h : ∀ i, co p i = co q i) : ev p x = ev q x := by
  have e : trim p = trim q := nf_ext nf_trim nf_trim fun i => by rw [co_trim, co_trim, h]
  rw [← ev_trim (p := p), ← ev_trim (p := q), e]
theorem ev_drop {p : List Rat} {i : Nat} (hi : i < p.length) (x : Rat) : ev (p.drop i) x = p[i] + ev (p.drop (i + 1)) x * x := by
  rw [List.drop_eq_getElem_cons hi]; rfl
/-- The greatest place at which a function is not zero. -/
theorem top_of {f : Nat → Rat} : ∀ {n : Nat}, (∀ i, n ≤ i → f i = 0) → (∀ i, f i = 0) ∨ ∃ k, k < n ∧ f k ≠ 0 ∧ ∀ i, k < i → f i = 0
  | 0, h => .inl fun i => h i (Nat.zero_le _)
  | n + 1, h => by
    by_cases h0 : f n = 0
    · rcases top_of (f := f) (n := n) fun i hi => by
          rcases Nat.lt_or_ge n i with h1 | h1
          · exact h i h1
          · have : i = n := by omega
            subst this; exact h0 with h2 | ⟨k, h2, h3⟩
      · exact .inl h2
      · exact .inr ⟨k, by omega, h3⟩
    · exact .inr ⟨n, by omega, h0, fun i hi => h i hi⟩
theorem div_unique {q q' b r r' : Nat → Rat} {d n : Nat} (hb : b d ≠ 0) (hb2 : ∀ i, d < i → b i = 0) (hq : ∀ i, n ≤ i → q i = 0) (hq' : ∀ i, n ≤ i → q' i = 0)
    (hr : ∀ i, d ≤ i → r i = 0) (hr' : ∀ i, d ≤ i → r' i = 0) (h : ∀ i, conv q b i + r i = conv q' b i + r' i) : (∀ i, q i = q' i) ∧ ∀ i, r i = r' i := by
  have hs : ∀ i, conv b (fun i => q i + (-1) * q' i) i = r' i - r i := fun i => by
    have e : conv b (fun i => (-1) * q' i) i = (-1) * conv b q' i := by
      unfold conv
      rw [← sm_mul]
      exact sm_congr fun i _ => by grind
    have := h i
    rw [conv_comm (f := q), conv_comm (f := q')] at this
    rw [conv_add, e]; grind
  rcases top_of (f := fun i => q i + (-1) * q' i) (n := n) fun i hi => by rw [hq i hi, hq' i hi]; grind with h0 | ⟨k, _, h1, h2⟩
  · have hqq : ∀ i, q i = q' i := fun i => by have := h0 i; grind
    refine ⟨hqq, fun i => ?_⟩
    have := h i
    rw [conv_congr (g := b) hqq (fun _ => rfl)] at this; grind
  · exfalso
    have e := conv_top (f := b) (g := fun i => q i + (-1) * q' i) (a := d) (b := k) hb2 h2
    rw [hs, hr' _ (by omega), hr _ (by omega)] at e
    have e2 : b d * (q k + (-1) * q' k) = 0 := by rw [← e]; grind
    rcases Rat.mul_eq_zero.1 e2 with h3 | h3
    · exact hb h3
    · exact h1 h3
end Pq
end

section
set_option linter.unusedVariables false
namespace Pq

end Pq
end

section
set_option linter.unusedVariables false
namespace Den
open Go Iv Pq

/-- A copy of cells. -/
theorem app_copy {h : Hp} {b : Nat} {xs : List TRat} {n : Nat} {el : TypeId} {K : Sl → Hp → Prop} (hb : h b = none) (hn : n = xs.length) (hlen : xs.length ≤ 1000000000000)
    (H : ∀ y h', Own h h' 4 y (xs.flatMap qc) → K y h') :
    appP 4 64 [.bool false, .slice nilS.a nilS.len nilS.cap, .bool false, .slice nilS.a nilS.len nilS.cap] ⟨some ⟨b, 0, none⟩, 0, 0⟩ n (xs.flatMap qc) K (h.ins b ⟨[], el, (0, 0)⟩) := by
  have ho : Own h (h.ins b ⟨[], el, (0, 0)⟩) 4 ⟨some ⟨b, 0, none⟩, 0, 0⟩ [] := ⟨Hp.le_ins hb, rfl, Nat.le_refl _, rfl, rfl, hb, _, Hp.ins_same _ _ _, rfl, rfl, rfl⟩
  have hl : (xs.flatMap qc).length = n * 4 := by rw [flat_len qc_len, hn]
  refine app_own ho hl rfl ?_ (by simp only; omega) (by simp only; omega) fun y h' hy hyl => H y h' ?_
  · rw [List.all_flatMap, List.all_eq_true]
    intro x _; exact qc_leaf x
  · simpa using hy
section
variable {h : Hp} {B : Nat} {l : Sl} {p : List Rat} {K : Sl → Hp → Prop}

theorem slQ_of {x : Sl} {lo hi : Int} {n : Nat} {K : Sl → Prop} (a b : Nat) (ha : lo = a) (hb : hi = b) (hab : a ≤ b) (hc : b ≤ x.cap) (H : K (x.cut a b n)) : slP x lo hi n K := by
  subst ha hb
  exact ⟨by omega, by omega, by omega, H⟩
theorem cut0 (x : Sl) (n size : Nat) (h : n ≤ x.cap) : (x.cut 0 n size).len = n ∧ (x.cut 0 n size).cap = x.cap ∧ (x.cut 0 n size).a = x.a := by
  refine ⟨rfl, rfl, ?_⟩
  show (if x.cap = 0 then x.a else x.a.map (·.add (0 * size))) = x.a
  split
  · rfl
  · cases x.a with
    | none => rfl
    | some a => simp only [Option.map_some, Nat.zero_mul, addr_add_zero]
theorem cellsAt_prefix {h : Hp} {a : Addr} : ∀ {n m : Nat} {l : List Value}, cellsAt h a m = some l → n ≤ m → cellsAt h a n = some (l.take n)
  | n, 0, l, e, hn => by
    have : n = 0 := by omega
    subst this
    simp [cellsAt]
  | n, m + 1, l, e, hn => by
    have hl := cellsAt_len e
    by_cases h1 : n = m + 1
    · subst h1; rw [e, List.take_of_length_le (by omega)]
    · unfold cellsAt at e
      split at e
      · rename_i l1 h2
        split at e
        · rename_i v hv
          simp only [Option.some.injEq] at e
          subst e
          have h3 := cellsAt_len h2
          rw [cellsAt_prefix h2 (show n ≤ m by omega), List.take_append_of_le_length (by omega)]
        · cases e
      · cases e
theorem flat_take {α : Type} {c : α → List Value} {n : Nat} (hc : ∀ x, (c x).length = n) : ∀ {xs : List α} {k : Nat}, (xs.flatMap c).take (k * n) = (xs.take k).flatMap c
  | [], k => by simp
  | x :: r, 0 => by simp
  | x :: r, k + 1 => by
    have e1 : (k + 1) * n = n + k * n := by rw [Nat.add_mul]; omega
    rw [List.flatMap_cons, e1, List.take_append, hc, Nat.add_sub_cancel_left, List.take_of_length_le (by rw [hc]; omega), flat_take hc]
    simp
/-- The first numbers of a list. -/
theorem PL.cut (hp : PL h B l p) {n : Nat} (hn : n ≤ p.length) : PL h B (l.cut 0 n 4) (p.take n) := by
  have hlen := hp.len
  obtain ⟨xs, h1, h2, h3⟩ := hp
  have hx := h2.1
  obtain ⟨c1, c2, c3⟩ := cut0 l n 4 (by omega)
  refine ⟨xs.take n, ⟨?_, ?_⟩, h2.take, by rw [c1, c2]; omega⟩
  · rw [c1, flat_len qc_len, List.length_take, Nat.min_eq_left (by omega)]
  · rw [c3, ← flat_take qc_len]
    have hl : ((xs.flatMap qc).take (n * 4)).length = n * 4 := by rw [List.length_take, flat_len qc_len]; omega
    rw [hl]
    have h4 := h1.2
    cases ha : l.a with
    | some a =>
      rw [ha] at h4
      exact cellsAt_prefix h4 (by rw [flat_len qc_len]; omega)
    | none =>
      rw [ha] at h4
      simp only [cellsAtO] at h4 ⊢
      split at h4
      · rename_i h5
        simp only [Option.some.injEq] at h4
        rw [flat_len qc_len] at h5
        have : n = 0 := by omega
        subst this
        simp
      · cases h4
theorem qclone_call (hp : PL h B l p) (hlen : p.length ≤ 1000000000000) (H : ∀ y h', OL h h' B y p → K y h') : callP (F.slices_Clone_api_Rat_api_Rat l) K h := by
  refine callP_of (fun y h' => OL h h' B y p) (fun K' hk => ?_) fun y h' _ hy => H y h' hy
  unfold F.slices_Clone_api_Rat_api_Rat
  refine ifP_intro (fun h1 => ?_) (fun h1 => ?_)
  · have hp0 : p = [] := by
      obtain ⟨xs, g1, g2, g3⟩ := hp
      have := g1.2
      have ha : l.a = none := by cases hl : l.a with
        | none => rfl
        | some a => rw [hl] at h1; cases h1
      rw [ha] at this
      simp only [cellsAtO] at this
      split at this
      · rename_i h5
        rw [flat_len qc_len] at h5
        have := g2.1
        exact List.eq_nil_of_length_eq_zero (by omega)
      · cases this
    subst hp0
    exact hk _ _ (Hp.le_refl _) ⟨h, Hp.le_refl _, OD.nil⟩
  · intro b el hb
    obtain ⟨xs, g1, g2, g3⟩ := hp
    refine ⟨xs.flatMap qc, cellsAtO_le (Hp.le_ins hb) (by rw [g1.1]; exact g1.2), ?_⟩
    refine app_copy hb (by rw [RdQ.len g1]) (by rw [g2.1]; exact hlen) fun y h' hy => ?_
    exact hk _ _ hy.1 ⟨h, Hp.le_refl _, xs, hy, g2⟩

theorem co_sign {v : Rat} : v.num.sign = 0 ↔ v = 0 := by rw [Int.sign_eq_zero_iff_zero, Rat.num_eq_zero]
theorem trim_take {n : Nat} (hn : n ≤ p.length) (h0 : ∀ i, n ≤ i → co p i = 0) (h1 : n = 0 ∨ co p (n - 1) ≠ 0) : p.take n = trim p := by
  refine Pq.trim_of (nf_take hn h1) fun i => ?_
  rw [co_take]
  split
  · rfl
  · rw [h0 i (by omega)]
theorem pTrim_call (hp : PL h B l p) (hlen : p.length ≤ 1000000000000) (hB : B ≤ 1000000000000) (H : ∀ y h', OL h h' B y (trim p) → K y h') : callP (F.polynomial_Trim l) K h := by
  refine callP_of (fun y h' => OL h h' B y (trim p)) (fun K' hk => ?_) fun y h' _ hy => H y h' hy
  unfold F.polynomial_Trim
  have hl := hp.len
  have hcap := hp.cap
  refine joinP_inv (fun s h' => h' = h ∧ ∃ n : Nat, s.1 = (n : Int) ∧ n ≤ p.length ∧ p.take n = trim p) ?_ ?_
  · rintro ⟨_, _⟩ h1 ⟨rfl, n, hn, hn2, ht⟩
    simp only at hn
    subst hn
    refine slQ_of 0 n rfl rfl (Nat.zero_le _) (by omega) ?_
    refine qclone_call (hp.cut hn2) (by rw [List.length_take]; omega) fun y h' hy => ?_
    rw [ht] at hy
    exact hk _ _ hy.hle hy
  · refine loopP_of (fun st h' => h' = h ∧ ∃ n : Nat, st.1 = (n : Int) ∧ n ≤ p.length ∧ ∀ i, n ≤ i → co p i = 0) (fun st => st.1.toNat) ⟨rfl, p.length, by simp only; rw [hl], Nat.le_refl _, fun i hi => co_ge hi⟩ ?_
    rintro ⟨_, _⟩ h1 ⟨rfl, n, hn, hn2, h0⟩
    simp only at hn
    subst hn
    refine joinP_inv (fun _ h' => h' = h1 ∧ 0 < n ∧ co p (n - 1) = 0) ?_ ?_
    · rintro _ h2 ⟨rfl, hpos, hz⟩
      have e : IntKind.i64.wrap ((n : Int) - 1) = ((n - 1 : Nat) : Int) := by rw [w64 (by omega)]; omega
      refine ⟨⟨rfl, n - 1, e, by omega, fun i hi => ?_⟩, by simp only; rw [e]; omega⟩
      by_cases hi2 : i = n - 1
      · rw [hi2]; exact hz
      · exact h0 i (by omega)
    · refine ifP_dec (fun h3 => ?_) (fun h3 => ?_)
      · have hpos : 0 < n := by omega
        have e : IntKind.i64.wrap ((n : Int) - 1) = ((n - 1 : Nat) : Int) := by rw [w64 (by omega)]; omega
        refine hp.get (n - 1) e (by omega) fun x hx bx => ?_
        refine qSign_call hx bx hB (ifP_eq (fun h4 => ⟨rfl, hpos, ?_⟩) (fun h4 => ⟨rfl, n, rfl, hn2, trim_take hn2 h0 (.inr ?_)⟩))
        · rw [co_lt (by omega)]; exact co_sign.1 h4
        · rw [co_lt (by omega)]; exact fun hh => h4 (co_sign.2 hh)
      · exact ⟨rfl, n, rfl, hn2, trim_take hn2 h0 (.inl (by omega))⟩
theorem rTrim_call (hp : PL h B l p) (hlen : p.length ≤ 1000000000000) (hB : B ≤ 1000000000000) (H : ∀ y h', OL h h' B y (trim p) → K y h') : callP (F.ref04_Trim l) K h := by
  refine callP_of (fun y h' => OL h h' B y (trim p)) (fun K' hk => ?_) fun y h' _ hy => H y h' hy
  unfold F.ref04_Trim
  have hl := hp.len
  have hcap := hp.cap
  refine joinP_inv (fun s h' => h' = h ∧ ∃ n : Nat, s.1 = (n : Int) ∧ n ≤ p.length ∧ p.take n = trim p) ?_ ?_
  · rintro ⟨_, _⟩ h1 ⟨rfl, n, hn, hn2, ht⟩
    simp only at hn
    subst hn
    intro b el hb
    refine slQ_of 0 n rfl rfl (Nat.zero_le _) (by omega) ?_
    obtain ⟨xs, g1, g2, g3⟩ := hp.cut hn2
    refine ⟨xs.flatMap qc, cellsAtO_le (Hp.le_ins hb) (by rw [g1.1]; exact g1.2), ?_⟩
    refine app_copy hb (by rw [RdQ.len g1]) (by rw [g2.1, List.length_take]; omega) fun y h' hy => ?_
    refine hk _ _ hy.1 ⟨h1, Hp.le_refl _, xs, hy, ?_⟩
    rw [← ht]; exact g2
  · refine loopP_of (fun st h' => h' = h ∧ ∃ n : Nat, st.1 = (n : Int) ∧ n ≤ p.length ∧ ∀ i, n ≤ i → co p i = 0) (fun st => st.1.toNat) ⟨rfl, p.length, by simp only; rw [hl], Nat.le_refl _, fun i hi => co_ge hi⟩ ?_
    rintro ⟨_, _⟩ h1 ⟨rfl, n, hn, hn2, h0⟩
    simp only at hn
    subst hn
    refine joinP_inv (fun _ h' => h' = h1 ∧ 0 < n ∧ co p (n - 1) = 0) ?_ ?_
    · rintro _ h2 ⟨rfl, hpos, hz⟩
      have e : IntKind.i64.wrap ((n : Int) - 1) = ((n - 1 : Nat) : Int) := by rw [w64 (by omega)]; omega
      refine ⟨⟨rfl, n - 1, e, by omega, fun i hi => ?_⟩, by simp only; rw [e]; omega⟩
      by_cases hi2 : i = n - 1
      · rw [hi2]; exact hz
      · exact h0 i (by omega)
    · refine ifP_dec (fun h3 => ?_) (fun h3 => ?_)
      · have hpos : 0 < n := by omega
        have e : IntKind.i64.wrap ((n : Int) - 1) = ((n - 1 : Nat) : Int) := by rw [w64 (by omega)]; omega
        refine hp.get (n - 1) e (by omega) fun x hx bx => ?_
        refine rqSign_call hx bx hB (ifP_eq (fun h4 => ⟨rfl, hpos, ?_⟩) (fun h4 => ⟨rfl, n, rfl, hn2, trim_take hn2 h0 (.inr ?_)⟩))
        · rw [co_lt (by omega)]; exact co_sign.1 h4
        · rw [co_lt (by omega)]; exact fun hh => h4 (co_sign.2 hh)
      · exact ⟨rfl, n, rfl, hn2, trim_take hn2 h0 (.inl (by omega))⟩
theorem pDegree_call {Ki : Int → Hp → Prop} (hp : PL h B l p) (hlen : p.length ≤ 1000000000000) (hB : B ≤ 1000000000000) (H : ∀ h', h.le h' → Ki (((trim p).length : Int) - 1) h') : callP (F.polynomial_Degree l) Ki h := by
  refine callP_of (fun r h' => r = ((trim p).length : Int) - 1) (fun K' hk => ?_) fun r h' hl hr => by subst hr; exact H h' hl
  unfold F.polynomial_Degree
  refine pTrim_call hp hlen hB fun y h' hy => ?_
  have := trim_len (p := p)
  rw [hy.len, w64 (by omega)]
  exact hk _ _ hy.hle rfl
theorem rDegree_call {Ki : Int → Hp → Prop} (hp : PL h B l p) (hlen : p.length ≤ 1000000000000) (hB : B ≤ 1000000000000) (H : ∀ h', h.le h' → Ki (((trim p).length : Int) - 1) h') : callP (F.ref04_Degree l) Ki h := by
  refine callP_of (fun r h' => r = ((trim p).length : Int) - 1) (fun K' hk => ?_) fun r h' hl hr => by subst hr; exact H h' hl
  unfold F.ref04_Degree
  refine rTrim_call hp hlen hB fun y h' hy => ?_
  have := trim_len (p := p)
  rw [hy.len, w64 (by omega)]
  exact hk _ _ hy.hle rfl
end
end Den
end

section
set_option linter.unusedVariables false
namespace Den
open Go Iv Pq

theorem PL.getle {h0 h : Hp} {B : Nat} {l : Sl} {p : List Rat} {i : Int} {K : Bool → Sl → Bool → Sl → Prop} (k : Nat) (hp : PL h0 B l p) (hl : h0.le h) (hi : i = k) (hk : k < p.length)
    (H : ∀ x : TRat, NR h0 x p[k] → BR B p[k] → K x.num.neg x.num.mag x.den.neg x.den.mag) :
    idxP l i 4 fun a => ldL .bool (a.add 0) (fun x0 => ldL .sl (a.add 1) (fun x1 => ldL .bool (a.add 2) (fun x2 => ldL .sl (a.add 3) (fun x3 => K x0 x1 x2 x3) h) h) h) h := by
  obtain ⟨xs, h1, h2, h3⟩ := hp
  have hk' : k < xs.length := by rw [h2.1]; exact hk
  have := h2.2 k hk' hk
  exact rd_rat k (h1.le hl) hi hk' (H _ this.1 this.2)
theorem OL.base {h h0 h1 : Hp} {B : Nat} {l : Sl} {p : List Rat} (ho : OL h1 h B l p) (hl : h0.le h1) : OL h0 h B l p := by
  obtain ⟨D, a, b⟩ := ho
  exact ⟨D, Hp.le_trans hl a, b⟩
theorem OL.mono {h h0 : Hp} {B C : Nat} {l : Sl} {p : List Rat} (ho : OL h0 h B l p) (hB : B ≤ C) : OL h0 h C l p := by
  obtain ⟨D, a, b⟩ := ho
  exact ⟨D, a, b.mono hB⟩
theorem trim_eq {p q : List Rat} (h : ∀ i, co p i = co q i) : trim p = trim q := nf_ext nf_trim nf_trim fun i => by rw [co_trim, co_trim, h]
theorem BR.co {B : Nat} {p : List Rat} (hp : ∀ v ∈ p, BR B v) (h1 : 1 ≤ B) (i : Nat) : BR B (co p i) := by
  rcases Nat.lt_or_ge i p.length with h2 | h2
  · rw [co_lt h2]; exact hp _ (List.getElem_mem h2)
  · rw [co_ge h2]; exact BR_zero.mono h1
theorem co_mapc {c : Rat} {p : List Rat} {i : Nat} : co (p.map (c * ·)) i = c * co p i := co_map (f := (c * ·)) (Rat.mul_zero c)
section
variable {h : Hp} {A B : Nat} {l m : Sl} {p q : List Rat} {K : Sl → Hp → Prop} {KR : TRat → Hp → Prop} {Kb : Bool → Hp → Prop} {c : Rat} {x : TRat}

theorem rScale_call (hp : PL h A l p) (hx : NR h x c) (bc : BR B c) (hlen : p.length ≤ 1000000000000) (hA : A ≤ 400000000000) (hB : B ≤ 400000000000) (H : ∀ y h', OL h h' (A + B) y (trim (p.map (c * ·))) → K y h') : callP (F.ref04_Scale l x) K h := by
  refine callP_of (fun y h' => OL h h' (A + B) y (trim (p.map (c * ·)))) (fun K' hk => ?_) fun y h' _ hy => H y h' hy
  unfold F.ref04_Scale
  have hl := hp.len
  refine loopP_of (fun st h' => ∃ D, h.le D ∧ ∃ i : Nat, st.2.1 = (i : Int) ∧ i ≤ p.length ∧ OD D h' (A + B) st.1 ((p.take i).map (c * ·))) (fun st => (p.length - st.2.1).toNat)
    ⟨h, Hp.le_refl _, 0, rfl, Nat.zero_le _, by simpa using OD.nil⟩ ?_
  rintro ⟨s, _, _⟩ h1 ⟨D, hD, i, hi, hi2, ho⟩
  simp only at hi ho
  subst hi
  refine ifP_dec (fun h3 => ?_) (fun h3 => ?_)
  · have hi' : i < p.length := by simp only at h3; omega
    refine hp.getle i (Hp.le_trans hD ho.dle) rfl hi' fun y hy by_ => ?_
    refine ho.call (K1 := fun z D' => NR D' z (p[i] * c)) (rqMul_call (hy.le hD) (hx.le hD) by_ bc hA hB fun z D' hl' hz => hz) fun z D' h2 hl' ho' hz => ?_
    refine ho'.app (by simp; omega) hz (by_.mul bc) fun w h3 hw => ⟨⟨D', Hp.le_trans hD hl', i + 1, ?_, hi', ?_⟩, ?_⟩
    · simp only; rw [w64 (by omega)]; rfl
    · rw [List.take_succ_eq_append_getElem hi', List.map_append]
      simp only [List.map_cons, List.map_nil]
      rw [Rat.mul_comm] at hw
      exact hw
    · simp only; rw [w64 (by omega)]; omega
  · have hi' : i = p.length := by simp only at h3; omega
    subst hi'
    rw [List.take_length] at ho
    refine rTrim_call ho.pl (by simpa using hlen) (by omega) fun y h' hy => hk _ _ ?_ (hy.base ?_)
    · exact Hp.le_trans hD (Hp.le_trans ho.dle hy.hle)
    · exact Hp.le_trans hD ho.dle
theorem rZero_call (H : ∀ z h', h.le h' → NR h' z 0 → KR z h') : callP F.ref04_zero KR h := by
  refine callP_of (fun z h' => NR h' z 0) (fun K' hk => ?_) fun z h' hl hz => H z h' hl hz
  unfold F.ref04_zero
  exact rqFromInt_call (by decide) (by decide) fun z h' hl hz => hk _ _ hl hz
theorem rAt_call {i : Int} (k : Nat) (hp : PL h A l p) (hi : i = k) (H : ∀ z h', h.le h' → NR h' z (co p k) → KR z h') : callP (F.ref04_at l i) KR h := by
  refine callP_of (fun z h' => NR h' z (co p k)) (fun K' hk => ?_) fun z h' hl hz => H z h' hl hz
  unfold F.ref04_at
  subst hi
  have hl := hp.len
  refine joinP_of (ifP_dec (fun h1 => by omega) (fun h1 => ifP_dec (fun h2 => ?_) (fun h2 => ?_)))
  · refine rZero_call fun z h' hl' hz => hk _ _ hl' ?_
    rw [co_ge (by omega)]; exact hz
  · have hk' : k < p.length := by omega
    refine hp.get k rfl hk' fun y hy _ => hk _ _ (Hp.le_refl _) ?_
    rw [co_lt hk']; exact hy
theorem co_range {f : Nat → Rat} {n i : Nat} : co ((List.range n).map f) i = if i < n then f i else 0 := by
  rcases Nat.lt_or_ge i n with h1 | h1
  · rw [co_lt (by simpa using h1), if_pos h1]; simp
  · rw [co_ge (by simpa using h1), if_neg (by omega)]
theorem rpAdd_call (hp : PL h A l p) (hq : PL h B m q) (hlen : p.length ≤ 100000000) (hlen2 : q.length ≤ 100000000) (hA : 1 ≤ A ∧ A ≤ 400000000000) (hB : 1 ≤ B ∧ B ≤ 400000000000) {C : Nat} (hC : ∀ i, BR C (co p i + co q i)) (hC2 : C ≤ 1000000000000)
    (H : ∀ y h', OL h h' C y (trim (addL p q)) → K y h') : callP (F.ref04_Add l m) K h := by
  refine callP_of (fun y h' => OL h h' C y (trim (addL p q))) (fun K' hk => ?_) fun y h' _ hy => H y h' hy
  unfold F.ref04_Add
  have hl := hp.len
  have hl2 := hq.len
  have bA := fun i => BR.co hp.bound hA.1 i
  have bB := fun i => BR.co hq.bound hB.1 i
  refine joinP_inv (fun s h' => ∃ D, h.le D ∧ ∃ n : Nat, p.length ≤ n ∧ q.length ≤ n ∧ n ≤ 100000000000 ∧ OD D h' C s.1 ((List.range n).map fun i => co p i + co q i)) ?_ ?_
  · rintro ⟨s, _⟩ h1 ⟨D, hD, n, hn1, hn2, hn3, ho⟩
    refine rTrim_call ho.pl (by simp; omega) hC2 fun y h' hy => hk _ _ (Hp.le_trans hD (Hp.le_trans ho.dle hy.hle)) ?_
    have e : trim ((List.range n).map fun i => co p i + co q i) = trim (addL p q) := trim_eq fun i => by
      rw [co_range, co_addL]
      split
      · rfl
      · rw [co_ge (by omega), co_ge (by omega)]; exact (Rat.add_zero 0).symm
    rw [e] at hy
    exact hy.base (Hp.le_trans hD ho.dle)
  · refine loopP_of (fun st h' => ∃ D, h.le D ∧ ∃ i : Nat, st.2.1 = (i : Int) ∧ i ≤ max p.length q.length ∧ OD D h' C st.1 ((List.range i).map fun i => co p i + co q i)) (fun st => ((max p.length q.length : Nat) - st.2.1).toNat)
      ⟨h, Hp.le_refl _, 0, rfl, Nat.zero_le _, OD.nil⟩ ?_
    rintro ⟨s, _, _⟩ h1 ⟨D, hD, i, hi, hi2, ho⟩
    simp only at hi ho
    subst hi
    refine joinP_inv (fun _ h' => h' = h1 ∧ i < max p.length q.length) ?_ ?_
    · rintro _ h2 ⟨rfl, hi3⟩
      refine ho.call (K1 := fun z D' => NR D' z (co p i)) (rAt_call i (hp.le hD) rfl fun z D1 hl1 hz => hz) fun z1 D1 h3 hl1 ho1 hz1 => ?_
      have hD1 := Hp.le_trans hD hl1
      refine ho1.call (K1 := fun z D' => NR D' z (co q i)) (rAt_call i (hq.le hD1) rfl fun z D1 hl1 hz => hz) fun z2 D2 h4 hl2 ho2 hz2 => ?_
      have hD2 := Hp.le_trans hD1 hl2
      refine ho2.call (K1 := fun z D' => NR D' z (co p i + co q i)) (rqAdd_call (hz1.le hl2) hz2 (bA i) (bB i) hA.2 hB.2 fun z D1 hl1 hz => hz) fun z3 D3 h5 hl3 ho3 hz3 => ?_
      refine ho3.app (by simp; omega) hz3 (hC i) fun w h6 hw => ⟨⟨D3, Hp.le_trans hD2 hl3, i + 1, ?_, by omega, ?_⟩, ?_⟩
      · simp only; rw [w64 (by omega)]; rfl
      · rw [List.range_succ, List.map_append]
        exact hw
      · simp only; rw [w64 (by omega)]; omega
    · refine ifP_dec (fun h3 => ⟨rfl, by simp only at h3; omega⟩) (fun h3 => ifP_dec (fun h4 => ⟨rfl, by simp only at h4; omega⟩) (fun h4 => ?_))
      simp only at h3 h4
      exact ⟨D, hD, i, by omega, by omega, by omega, ho⟩
theorem trim_addL {p q : List Rat} : trim (addL p (trim q)) = trim (addL p q) := trim_eq fun i => by rw [co_addL, co_addL, co_trim]
def negL (q : List Rat) : List Rat := q.map ((((-1 : Int) : Rat)) * ·)
theorem co_negL {q : List Rat} {i : Nat} : co (negL q) i = - co q i := by
  unfold negL
  rw [co_mapc]
  have : (((-1 : Int) : Rat)) = -1 := rfl
  rw [this]; grind
theorem BR_m1 : BR 1 (((-1 : Int) : Rat)) := ⟨by unfold Lt; decide, by unfold Lt; decide⟩
theorem rpSub_call (hp : PL h A l p) (hq : PL h B m q) (hlen : p.length ≤ 100000000) (hlen2 : q.length ≤ 100000000) (hA : 1 ≤ A ∧ A ≤ 300000000000) (hB : 1 ≤ B ∧ B ≤ 300000000000) {C : Nat} (hC : ∀ i, BR C (co p i - co q i)) (hC2 : C ≤ 1000000000000)
    (H : ∀ y h', OL h h' C y (trim (addL p (negL q))) → K y h') : callP (F.ref04_Sub l m) K h := by
  refine callP_of (fun y h' => OL h h' C y (trim (addL p (negL q)))) (fun K' hk => ?_) fun y h' _ hy => H y h' hy
  unfold F.ref04_Sub
  refine rqFromInt_call (by decide) (by decide) fun z h1 hl1 hz => ?_
  refine rScale_call (hq.le hl1) hz BR_m1 (by omega) (by omega) (by omega) fun y h2 hy => ?_
  have ht := trim_len (p := q.map ((((-1 : Int) : Rat)) * ·))
  rw [List.length_map] at ht
  have hl2 := Hp.le_trans hl1 hy.hle
  refine rpAdd_call (hp.le hl2) hy.pl hlen (by omega) (by omega) (by omega) (C := C) (fun i => ?_) hC2 fun w h3 hw => ?_
  · rw [co_trim]
    have := hC i
    have e : co p i + co (q.map ((((-1 : Int) : Rat)) * ·)) i = co p i - co q i := by
      have := co_negL (q := q) (i := i)
      unfold negL at this
      rw [this]; grind
    rw [e]; exact this
  · rw [trim_addL] at hw
    exact hk _ _ (Hp.le_trans hl2 hw.hle) (hw.base hl2)
theorem rpSame_call (hp : PL h A l p) (hq : PL h B m q) (hlen : p.length ≤ 100000000) (hlen2 : q.length ≤ 100000000) (hA : 1 ≤ A ∧ A ≤ 300000000000) (hB : 1 ≤ B ∧ B ≤ 300000000000)
    (H : ∀ h', h.le h' → Kb (decide (trim p = trim q)) h') : callP (F.ref04_Same l m) Kb h := by
  refine callP_of (fun b h' => b = decide (trim p = trim q)) (fun K' hk => ?_) fun b h' hl hb => by subst hb; exact H h' hl
  unfold F.ref04_Same
  refine rpSub_call hp hq hlen hlen2 hA hB (C := A + B + 1) (fun i => (BR.co hp.bound hA.1 i).sub (BR.co hq.bound hB.1 i)) (by omega) fun y h' hy => hk _ _ hy.hle ?_
  have e : (trim (addL p (negL q))).length = 0 ↔ trim p = trim q := by
    rw [List.length_eq_zero_iff]
    constructor
    · intro h1
      refine trim_eq fun i => ?_
      have h2 : co (trim (addL p (negL q))) i = 0 := by rw [h1]; rfl
      rw [co_trim, co_addL, co_negL] at h2
      grind
    · intro h1
      refine nf_eq_nil nf_trim fun i => ?_
      have h2 : co (trim p) i = co (trim q) i := by rw [h1]
      rw [co_trim, co_trim] at h2
      rw [co_trim, co_addL, co_negL, h2]; grind
  rw [hy.len]
  by_cases h1 : trim p = trim q
  · rw [decide_eq_true h1, e.2 h1]; rfl
  · rw [decide_eq_false h1]
    have : (trim (addL p (negL q))).length ≠ 0 := fun hh => h1 (e.1 hh)
    simp only [beq_eq_false_iff_ne, ne_eq]
    omega
theorem rpEqual_call (hp : PL h A l p) (hq : PL h B m q) (hlen : p.length ≤ 100000000) (hlen2 : q.length ≤ 100000000) (hA : 1 ≤ A ∧ A ≤ 300000000000) (hB : 1 ≤ B ∧ B ≤ 300000000000)
    (H : ∀ h', h.le h' → Kb (decide (p.length = q.length ∧ trim p = trim q)) h') : callP (F.ref04_Equal l m) Kb h := by
  refine callP_of (fun b h' => b = decide (p.length = q.length ∧ trim p = trim q)) (fun K' hk => ?_) fun b h' hl hb => by subst hb; exact H h' hl
  unfold F.ref04_Equal
  have hl := hp.len
  have hl2 := hq.len
  refine ifP_eq (fun h1 => ?_) (fun h1 => hk _ _ (Hp.le_refl _) (decide_eq_false fun hh => h1 (by rw [hl, hl2, hh.1])).symm)
  refine rpSame_call hp hq hlen hlen2 hA hB fun h' hl' => hk _ _ hl' ?_
  have : p.length = q.length := by omega
  by_cases h2 : trim p = trim q
  · rw [decide_eq_true h2, decide_eq_true ⟨this, h2⟩]
  · rw [decide_eq_false h2, decide_eq_false fun hh => h2 hh.2]

theorem OD.apps {D : Hp} {Ks : Sl → Hp → Prop} {xs : List TRat} {n : Nat} (ho : OD D h B l p) (hn : n = xs.length) (hlen : p.length + xs.length ≤ 1000000000000) (hq : QL D B xs q) (H : ∀ y h', OD D h' B y (p ++ q) → Ks y h') :
    appP 4 64 [.bool false, .slice nilS.a nilS.len nilS.cap, .bool false, .slice nilS.a nilS.len nilS.cap] l n (xs.flatMap qc) Ks h := by
  have hl := ho.len
  obtain ⟨ys, h1, h2⟩ := ho
  refine app_own h1 (n := n) (new := xs.flatMap qc) (by rw [flat_len qc_len, hn]) rfl ?_ (by omega) (by omega) fun y h' hy hyl => H y h' ⟨ys ++ xs, ?_, ?_⟩
  · rw [List.all_flatMap, List.all_eq_true]
    intro x _; exact qc_leaf x
  · rw [List.flatMap_append]; exact hy
  · have hl2 := h2.1
    have hl3 := hq.1
    refine ⟨by simp [hl2, hl3], fun k k1 k2 => ?_⟩
    rcases Nat.lt_or_ge k ys.length with h3 | h3
    · rw [List.getElem_append_left h3, List.getElem_append_left (by omega)]
      exact h2.2 k h3 (by omega)
    · rw [List.getElem_append_right h3, List.getElem_append_right (by omega)]
      have := hq.2 (k - ys.length) (by simp at k1; omega) (by simp at k1; omega)
      simpa [hl2] using this
theorem rShift_call {n : Nat} (hp : PL h B l p) (hlen : p.length + n ≤ 100000000000) (hB : 1 ≤ B ∧ B ≤ 1000000000000) (H : ∀ y h', OL h h' B y (trim (List.replicate n 0 ++ p)) → K y h') : callP (F.ref04_Shift l (n : Int)) K h := by
  refine callP_of (fun y h' => OL h h' B y (trim (List.replicate n 0 ++ p))) (fun K' hk => ?_) fun y h' _ hy => H y h' hy
  unfold F.ref04_Shift
  refine loopP_of (fun st h' => ∃ D, h.le D ∧ ∃ i : Nat, st.2.1 = (i : Int) ∧ i ≤ n ∧ OD D h' B st.1 (List.replicate i 0)) (fun st => ((n : Int) - st.2.1).toNat)
    ⟨h, Hp.le_refl _, 0, rfl, Nat.zero_le _, OD.nil⟩ ?_
  rintro ⟨s, _, _⟩ h1 ⟨D, hD, i, hi, hi2, ho⟩
  simp only at hi ho
  subst hi
  refine ifP_dec (fun h3 => ?_) (fun h3 => ?_)
  · simp only at h3
    refine ho.call (K1 := fun z D' => NR D' z 0) (rZero_call fun z D' _ hz => hz) fun z D' h2 hl' ho' hz => ?_
    refine ho'.app (by simp; omega) hz (BR_zero.mono hB.1) fun w h3 hw => ⟨⟨D', Hp.le_trans hD hl', i + 1, ?_, by omega, ?_⟩, ?_⟩
    · simp only; rw [w64 (by omega)]; rfl
    · rw [List.replicate_succ']; exact hw
    · simp only; rw [w64 (by omega)]; omega
  · simp only at h3
    have hi' : i = n := by omega
    subst hi'
    obtain ⟨xs, g1, g2, g3⟩ := hp
    refine ⟨xs.flatMap qc, by rw [g1.1]; exact cellsAtO_le (Hp.le_trans hD ho.dle) g1.2, ?_⟩
    refine ho.apps (RdQ.len g1) (by rw [g2.1]; simp; omega) (g2.le hD) fun y h2 hy => ?_
    refine rTrim_call hy.pl (by simp; omega) hB.2 fun w h3 hw => hk _ _ (Hp.le_trans hD (Hp.le_trans hy.dle hw.hle)) (hw.base (Hp.le_trans hD hy.dle))
theorem co_shift {n i : Nat} : co (List.replicate n 0 ++ p) i = if i < n then 0 else co p (i - n) := by
  rw [co_append, List.length_replicate, co_replicate]
theorem rpMul_call {C : Nat} (hp : PL h A l p) (hq : PL h B m q) (hlen : p.length ≤ 1000) (hlen2 : q.length ≤ 1000) (hA : 1 ≤ A ∧ A ≤ 100000000000) (hB : 1 ≤ B ∧ B ≤ 100000000000) (hC : ∀ k n, k ≤ q.length → BR C (part (co q) (co p) k n)) (hC2 : 1 ≤ C ∧ C ≤ 400000000000)
    (H : ∀ y h', h.le h' → PL h' C y (if q = [] then [] else trim (mulL p q)) → K y h') : callP (F.ref04_Mul l m) K h := by
  have hfin : ∀ r, nf r → (∀ n, co r n = part (co q) (co p) q.length n) → r = (if q = [] then [] else trim (mulL p q)) := fun r h1 h2 => by
    have h3 : r = trim (mulL p q) := Pq.trim_of h1 fun i => by rw [h2, co_mulL, conv_comm, part_conv fun i hi => co_ge hi]
    split
    · rename_i hh
      refine nf_eq_nil h1 fun i => ?_
      rw [h2, hh]; rfl
    · exact h3
  refine callP_of (fun y h' => PL h' C y (if q = [] then [] else trim (mulL p q))) (fun K' hk => ?_) fun y h' hl hy => H y h' hl hy
  unfold F.ref04_Mul
  have hl := hp.len
  have hl2 := hq.len
  refine loopP_of (fun st h' => h.le h' ∧ ∃ i : Nat, st.2.1 = (i : Int) ∧ i ≤ q.length ∧ ∃ r, PL h' C st.1 r ∧ nf r ∧ r.length ≤ p.length + i ∧ ∀ n, co r n = part (co q) (co p) i n) (fun st => ((q.length : Int) - st.2.1).toNat)
    ⟨Hp.le_refl _, 0, rfl, Nat.zero_le _, [], PL.nil, .inl rfl, Nat.zero_le _, fun n => rfl⟩ ?_
  rintro ⟨s, _, _⟩ h1 ⟨hl1, i, hi, hi2, r, hr, nr, lr, cr⟩
  simp only at hi hr
  subst hi
  refine ifP_dec (fun h3 => ?_) (fun h3 => ?_)
  · simp only at h3
    have hi' : i < q.length := by omega
    refine (hq.le hl1).get i rfl hi' fun y hy by_ => ?_
    refine rScale_call (hp.le hl1) hy by_ (by omega) (by omega) (by omega) fun y2 h2 hy2 => ?_
    have ht := trim_len (p := p.map (q[i] * ·))
    rw [List.length_map] at ht
    refine rShift_call (n := i) hy2.pl (by omega) (by omega) fun y3 h3 hy3 => ?_
    have ht3 := trim_len (p := List.replicate i 0 ++ trim (p.map (q[i] * ·)))
    rw [List.length_append, List.length_replicate] at ht3
    have hl3 := Hp.le_trans hy2.hle hy3.hle
    have cnew : ∀ n, co r n + co (trim (List.replicate i 0 ++ trim (p.map (q[i] * ·)))) n = part (co q) (co p) (i + 1) n := fun n => by
      rw [co_trim, co_shift, cr]
      unfold Pq.part
      rw [sm_succ]
      congr 1
      by_cases hn : n < i
      · rw [if_pos hn, if_neg (by omega)]
      · rw [if_neg hn, if_pos (by omega), co_trim, co_mapc, co_lt hi']
    refine rpAdd_call (hr.le hl3) hy3.pl (by omega) (by omega) (by omega) (by omega) (C := C) (fun n => by rw [cnew]; exact hC _ _ hi') (by omega) fun w h4 hw => ?_
    have hlen3 : (addL r (trim (List.replicate i 0 ++ trim (p.map (q[i] * ·))))).length ≤ p.length + (i + 1) ∨ True := .inr trivial
    refine ⟨⟨Hp.le_trans hl1 (Hp.le_trans hl3 hw.hle), i + 1, ?_, hi', _, hw.pl, nf_trim, ?_, fun n => ?_⟩, ?_⟩
    · simp only; rw [w64 (by omega)]; rfl
    · refine nf_len nf_trim fun n hn => ?_
      rw [co_trim, co_addL, co_ge (by omega), co_ge (by omega)]; exact Rat.add_zero 0
    · rw [co_trim, co_addL, cnew]
    · simp only; rw [w64 (by omega)]; omega
  · simp only at h3
    have hi' : i = q.length := by omega
    subst hi'
    refine hk _ _ hl1 ?_
    rw [← hfin r nr cr]; exact hr
end
end Den
end

section
set_option linter.unusedVariables false
namespace Den
open Go Iv Pq

theorem and32 {x : Nat} (hx : x < 4294967296) : ibits .and .u64 (x : Int) 4294967295 = (x : Int) := by
  unfold ibits
  simp only
  have e1 : BitVec.ofInt IntKind.u64.bits (x : Int) = BitVec.ofNat 64 x := rfl
  have e2 : BitVec.ofInt IntKind.u64.bits (4294967295 : Int) = BitVec.ofNat 64 4294967295 := rfl
  rw [e1, e2]
  have e3 : (BitVec.ofNat 64 x &&& BitVec.ofNat 64 4294967295).toNat = x := by
    rw [BitVec.toNat_and, BitVec.toNat_ofNat, BitVec.toNat_ofNat, Nat.mod_eq_of_lt (by omega), Nat.mod_eq_of_lt (by omega)]
    have : (4294967295 : Nat) = 2 ^ 32 - 1 := rfl
    rw [this, Nat.and_two_pow_sub_one_eq_mod, Nat.mod_eq_of_lt (by omega)]
  have e4 : IntKind.u64.wrap (((BitVec.ofNat 64 x &&& BitVec.ofNat 64 4294967295).toNat : Nat) : Int) = (x : Int) := by rw [e3, wu64 (by omega)]
  exact e4
theorem qshr32 {x : Nat} (hx : x < 4294967296) : ((x : Int)).fdiv (2 ^ (min (32 : Int).toNat IntKind.u64.bits)) = 0 := by
  have : (2 : Int) ^ (min (32 : Int).toNat IntKind.u64.bits) = 4294967296 := by decide
  rw [this, Int.fdiv_eq_ediv_of_nonneg _ (by decide)]
  omega
theorem bitsMul_call {x y : Nat} {h : Hp} {K : Int × Int → Hp → Prop} (hx : x < 65536) (hy : y < 65536) (H : K (0, ((x * y : Nat) : Int)) h) : callP (F.math_bits_Mul (x : Int) (y : Int)) K h := by
  have hxy : x * y < 4294967296 := Nat.lt_of_le_of_lt (Nat.mul_le_mul (show x ≤ 65535 by omega) (show y ≤ 65535 by omega)) (by decide)
  refine callP_same _ (fun K' hk => ?_) H
  unfold F.math_bits_Mul
  refine callP_same (0, ((x * y : Nat) : Int)) (fun K2 hk2 => ?_) hk
  unfold F.math_bits_Mul64
  refine ⟨by decide, by decide, by decide, by decide, by decide, ?_⟩
  have ex : ((x : Nat) : Int).fdiv (2 ^ (min (32 : Int).toNat IntKind.u64.bits)) = 0 := qshr32 (by omega)
  have ey : ((y : Nat) : Int).fdiv (2 ^ (min (32 : Int).toNat IntKind.u64.bits)) = 0 := qshr32 (by omega)
  have exy : (((x * y : Nat)) : Int).fdiv (2 ^ (min (32 : Int).toNat IntKind.u64.bits)) = 0 := qshr32 hxy
  have e0 : ((0 : Nat) : Int).fdiv (2 ^ (min (32 : Int).toNat IntKind.u64.bits)) = 0 := qshr32 (by decide)
  have ax := and32 (x := x) (by omega)
  have ay := and32 (x := y) (by omega)
  have a0 := and32 (x := 0) (by decide)
  have w0 : IntKind.u64.wrap 0 = 0 := by decide
  have em : ((x : Nat) : Int) * ((y : Nat) : Int) = ((x * y : Nat) : Int) := (Int.natCast_mul x y).symm
  have wm : IntKind.u64.wrap ((x * y : Nat) : Int) = ((x * y : Nat) : Int) := wu64 (by omega)
  have c0 : ((0 : Nat) : Int) = 0 := rfl
  rw [c0] at e0 a0
  simp only [ex, ey, ax, ay, em, wm, exy, Int.zero_mul, Int.mul_zero, Int.add_zero, w0, e0, a0]
  exact hk2

/-- The number whose cells are all zero. -/
def zT : TRat := ⟨⟨false, nilS⟩, ⟨false, nilS⟩⟩
theorem repl_qc {n : Nat} : repl n (qc zT) = (List.replicate n zT).flatMap qc := by
  unfold repl
  induction n with
  | zero => rfl
  | succ n ih => rw [List.replicate_succ, List.replicate_succ, List.flatten_cons, List.flatMap_cons, ih]
section
variable {D h : Hp} {n : Nat} {x y : Sl} {cs vs : List Value}
theorem qsplice_nil {off : Nat} : splice cs off [] = cs := by unfold splice; simp
theorem stO_own {off : Nat} {K : Hp → Prop} (ho : Own D h n x cs) (hoff : off + vs.length ≤ cs.length) (hleaf : vs.all Value.leaf = true) (H : ∀ h', Own D h' n x (splice cs off vs) → K h') : stO x.a off vs K h := by
  obtain ⟨h1, h2, h3, h4⟩ := ho
  cases ha : x.a with
  | none =>
    rw [ha] at h4
    simp only at h4
    have : cs.length = 0 := by rw [← h2, show x.len = 0 by omega, Nat.zero_mul]
    have hv : vs = [] := List.eq_nil_of_length_eq_zero (by omega)
    subst hv
    rw [qsplice_nil] at H
    exact H _ ⟨h1, h2, h3, by rw [ha]; exact h4⟩
  | some a =>
    rw [ha] at h4
    obtain ⟨g1, g2, g3, b, g4, g5, g6, g7⟩ := h4
    have e2 : cs.length ≤ b.cells.length := by rw [g6, ← h2]; exact Nat.mul_le_mul_right _ h3
    refine ⟨b, by rw [add_block]; exact g4, add_spot g2 _, g5, by rw [add_off]; omega, hleaf, ?_⟩
    rw [add_block, add_off, g1, Nat.zero_add]
    refine H _ ⟨?_, ?_, h3, ?_⟩
    · intro kk bk hkk
      rw [Hp.ins_ne (fun hh => by subst hh; rw [g3] at hkk; cases hkk)]
      exact h1 kk bk hkk
    · rw [splice_len hoff]; exact h2
    · rw [ha]
      refine ⟨g1, g2, g3, _, Hp.ins_same _ _ _, g5, ?_, ?_⟩
      · show (splice b.cells off vs).length = _
        rw [splice_len (by omega)]; exact g6
      · show (splice b.cells off vs).take _ = _
        rw [splice_len hoff]
        exact splice_take hoff g7
theorem stO_cut {k e : Nat} {K : Hp → Prop} (hk : k < x.cap) (H : stO x.a (k * n) vs K h) : stO (x.cut k e n).a 0 vs K h := by
  have : (x.cut k e n).a = x.a.map (·.add (k * n)) := by show (if x.cap = k then _ else _) = _; rw [if_neg (by omega)]
  rw [this]
  cases ha : x.a with
  | none => rw [ha] at H; exact H
  | some a =>
    rw [ha] at H
    simp only [Option.map_some]
    show stP ((a.add (k * n)).add 0) vs K h
    rw [addr_add_zero]
    exact H
theorem own_read (ho : Own D h n x cs) {j : Nat} (hj : j ≤ cs.length) : cellsAtO h x.a j = some (cs.take j) := by
  have h1 := ho.rd.2
  cases ha : x.a with
  | some a => rw [ha] at h1; exact cellsAt_prefix h1 hj
  | none =>
    rw [ha] at h1
    simp only [cellsAtO] at h1 ⊢
    split at h1
    · rename_i h5
      simp only [Option.some.injEq] at h1
      have : j = 0 := by omega
      subst this
      simp
    · cases h1
end

theorem splice_mid {A B vs : List Value} (h : vs.length ≤ B.length) : splice (A ++ B) A.length vs = A ++ vs ++ B.drop vs.length := by
  unfold splice
  rw [List.take_left, List.drop_append]
  simp [List.append_assoc]
theorem repeat_call {h : Hp} {x : Sl} {z : TRat} {n : Nat} {K : Sl → Hp → Prop} (hr : RdQ h x [z]) (hn : n < 65536) (H : ∀ y h', Own h h' 4 y ((List.replicate n z).flatMap qc) → K y h') :
    callP (F.slices_Repeat_api_Rat_api_Rat x (n : Int)) K h := by
  refine callP_of (fun y h' => Own h h' 4 y ((List.replicate n z).flatMap qc)) (fun K' hk => ?_) fun y h' _ hy => H y h' hy
  unfold F.slices_Repeat_api_Rat_api_Rat
  have hxl : x.len = 1 := RdQ.len hr
  refine joinP_of (ifP_false (decide_eq_false (by omega)) ?_)
  have e1 : IntKind.u64.wrap ((x.len : Int)) = ((1 : Nat) : Int) := by rw [hxl, wu64 (by decide)]
  have e2 : IntKind.u64.wrap ((n : Int)) = (n : Int) := wu64 (by omega)
  rw [e1, e2]
  refine bitsMul_call (by decide) hn ?_
  have e3 : ((1 * n : Nat) : Int) = (n : Int) := by rw [Nat.one_mul]
  rw [e3]
  refine joinP_of (ifP_false (decide_eq_false (by simp only; omega)) (ifP_false (decide_eq_false (by simp only; omega)) ?_))
  have e4 : IntKind.i64.wrap (((0 : Int), (n : Int)).2) = (n : Int) := w64 (by simp only; omega)
  rw [e4]
  refine mk_own (size := 4) n n rfl rfl (Nat.le_refl _) (by omega) (by omega) rfl fun m h1 ml mc ho => ?_
  have hz : repl n [Value.bool false, .slice nilS.a nilS.len nilS.cap, .bool false, .slice nilS.a nilS.len nilS.cap] = (List.replicate n zT).flatMap qc := repl_qc
  rw [hz] at ho
  have qlen : ∀ j (u : TRat), ((List.replicate j u).flatMap qc).length = j * 4 := fun j u => by rw [flat_len qc_len, List.length_replicate]
  have qleaf : ∀ j (u : TRat), ((List.replicate j u).flatMap qc).all Value.leaf = true := fun j u => by
    rw [List.all_flatMap, List.all_eq_true]; intro x _; exact qc_leaf x
  have qtake : ∀ i j (u : TRat), ((List.replicate i u).flatMap qc).take (j * 4) = (List.replicate (min j i) u).flatMap qc := fun i j u => by
    rw [flat_take qc_len, List.take_replicate]
  have qdrop : ∀ i j (u : TRat), ((List.replicate i u).flatMap qc).drop (j * 4) = (List.replicate (i - j) u).flatMap qc := fun i j u => by
    rcases Nat.le_total i j with h1 | h1
    · rw [List.drop_of_length_le (by rw [qlen]; omega), show i - j = 0 by omega]; rfl
    · have : i = j + (i - j) := by omega
      conv => lhs; rw [this, ← List.replicate_append_replicate, List.flatMap_append]
      rw [List.drop_append_of_le_length (by rw [qlen]; omega), List.drop_of_length_le (by rw [qlen]; omega), List.nil_append]
  have qapp : ∀ i j (u : TRat), (List.replicate i u).flatMap qc ++ (List.replicate j u).flatMap qc = (List.replicate (i + j) u).flatMap qc := fun i j u => by
    rw [← List.flatMap_append, List.replicate_append_replicate]
  -- the first one
  have hmin1 : Nat.min x.len m.len = min 1 n := by rw [hxl, ml]
  refine ⟨(List.replicate (min 1 n) z).flatMap qc, ?_, ?_⟩
  · rw [hmin1]
    have hx2 : cellsAtO h1 x.a 4 = some (qc z) := by
      have := cellsAtO_le ho.1 hr.2
      simpa [qc_len] using this
    rcases Nat.eq_zero_or_pos n with h0 | h0
    · subst h0
      simp only [Nat.min_zero, Nat.zero_mul, List.replicate_zero, List.flatMap_nil]
      cases x.a <;> simp [cellsAtO, cellsAt]
    · have : min 1 n = 1 := by omega
      rw [this]
      simpa using hx2
  refine stO_own ho (by rw [qlen, qlen]; omega) (qleaf _ _) fun h2 ho2 => ?_
  have hfirst : splice ((List.replicate n zT).flatMap qc) 0 ((List.replicate (min 1 n) z).flatMap qc) = (List.replicate (min 1 n) z).flatMap qc ++ (List.replicate (n - min 1 n) zT).flatMap qc := by
    have := splice_mid (A := []) (B := (List.replicate n zT).flatMap qc) (vs := (List.replicate (min 1 n) z).flatMap qc) (by rw [qlen, qlen]; omega)
    simp only [List.nil_append, List.length_nil] at this
    rw [this, qlen, qdrop]
  rw [hfirst] at ho2
  rw [hmin1]
  refine loopP_of (fun st h' => ∃ k : Nat, st.1 = (k : Int) ∧ k ≤ n ∧ (k = 0 → n = 0) ∧ Own h h' 4 m ((List.replicate k z).flatMap qc ++ (List.replicate (n - k) zT).flatMap qc)) (fun st => ((n : Int) - st.1).toNat)
    ⟨min 1 n, rfl, by omega, by omega, ho2⟩ ?_
  rintro ⟨_, _⟩ h3 ⟨k, hk1, hk2, hk3, ho3⟩
  simp only at hk1
  subst hk1
  refine ifP_dec (fun h4 => ?_) (fun h4 => ?_)
  · simp only [ml] at h4
    have hkn : k < n := by omega
    refine slQ_of k n rfl (by rw [ml]) hk2 (by omega) (slQ_of 0 k rfl rfl (Nat.zero_le _) (by omega) ?_)
    obtain ⟨c1, c2, c3⟩ := cut0 m k 4 (by omega)
    have hcl : (m.cut k n 4).len = n - k := rfl
    have hmin2 : Nat.min (m.cut 0 k 4).len (m.cut k n 4).len = min k (n - k) := by rw [c1, hcl]
    refine ⟨(List.replicate (min k (n - k)) z).flatMap qc, ?_, ?_⟩
    · rw [hmin2, c3, own_read ho3 (by rw [List.length_append, qlen, qlen]; omega), List.take_append_of_le_length (by rw [qlen]; omega), qtake, show min (min k (n - k)) k = min k (n - k) by omega]
    · rw [hmin2]
      refine stO_cut (by omega) (stO_own ho3 (by rw [List.length_append, qlen, qlen, qlen]; omega) (qleaf _ _) fun h5 ho5 => ?_)
      have hs := splice_mid (A := (List.replicate k z).flatMap qc) (B := (List.replicate (n - k) zT).flatMap qc) (vs := (List.replicate (min k (n - k)) z).flatMap qc) (by rw [qlen, qlen]; omega)
      rw [qlen, qlen, qdrop, qapp] at hs
      rw [hs, show n - k - min k (n - k) = n - (k + min k (n - k)) by omega] at ho5
      have e5 : IntKind.i64.wrap ((k : Int) + ((min k (n - k) : Nat) : Int)) = ((k + min k (n - k) : Nat) : Int) := by rw [w64 (by omega)]; omega
      exact ⟨⟨k + min k (n - k), e5, by omega, by omega, ho5⟩, by simp only; rw [e5]; omega⟩
  · simp only [ml] at h4
    have hkn : k = n := by omega
    subst hkn
    rw [Nat.sub_self, List.replicate_zero, List.flatMap_nil, List.append_nil] at ho3
    exact hk _ _ ho3.1 ho3
end Den
end

section
set_option linter.unusedVariables false
namespace Den
open Go Iv Pq
section
variable {h : Hp} {A B : Nat} {l m : Sl} {p q : List Rat} {K : Sl → Hp → Prop} {KR : TRat → Hp → Prop} {Kb : Bool → Hp → Prop} {c : Rat} {x : TRat}

theorem zeros_call {n : Nat} (hn : n < 65536) (H : ∀ y h', OL h h' 1 y (List.replicate n 0) → K y h') : callP (F.polynomial_zeros (n : Int)) K h := by
  refine callP_of (fun y h' => OL h h' 1 y (List.replicate n 0)) (fun K' hk => ?_) fun y h' _ hy => H y h' hy
  unfold F.polynomial_zeros
  refine qFromInt_call (by decide) (by decide) fun z h1 hl1 hz => ?_
  refine new_rats (xs := [z]) 1 rfl fun a h2 hl2 ha => ?_
  refine repeat_call ha hn fun y h3 hy => ?_
  refine hk _ _ (Hp.le_trans hl1 (Hp.le_trans hl2 hy.1)) ⟨h2, Hp.le_trans hl1 hl2, _, hy, ?_⟩
  refine ⟨by simp, fun k h4 h5 => ?_⟩
  rw [List.getElem_replicate, List.getElem_replicate]
  exact ⟨(hz.le hl2 : NR h2 z 0), BR_zero⟩
theorem pScale_call (hp : PL h A l p) (hx : NR h x c) (bc : BR B c) (hlen : p.length ≤ 1000000000000) (hA : A ≤ 400000000000) (hB : B ≤ 400000000000) (H : ∀ y h', OL h h' (A + B) y (trim (p.map (c * ·))) → K y h') : callP (F.polynomial_Scale l x) K h := by
  refine callP_of (fun y h' => OL h h' (A + B) y (trim (p.map (c * ·)))) (fun K' hk => ?_) fun y h' _ hy => H y h' hy
  unfold F.polynomial_Scale
  have hl := hp.len
  refine mk_own (size := 4) p.length p.length (by rw [hl]) (by rw [hl]) (Nat.le_refl _) (by omega) (by omega) rfl fun m h1 ml mc ho => ?_
  have hz : repl p.length [Value.bool false, .slice nilS.a nilS.len nilS.cap, .bool false, .slice nilS.a nilS.len nilS.cap] = (List.replicate p.length zT).flatMap qc := repl_qc
  rw [hz] at ho
  refine loopP_of (fun st h' => ∃ D, h.le D ∧ ∃ i : Nat, st.1 = (i : Int) ∧ i ≤ p.length ∧ ∃ xs : List TRat, xs.length = p.length ∧ Own D h' 4 m (xs.flatMap qc) ∧ QL D (A + B) (xs.take i) ((p.take i).map (c * ·))) (fun st => (p.length - st.1).toNat)
    ⟨h, Hp.le_refl _, 0, rfl, Nat.zero_le _, List.replicate p.length zT, by simp, ho, ⟨rfl, fun k h1 _ => by simp at h1⟩⟩ ?_
  rintro ⟨_, _⟩ h2 ⟨D, hD, i, hi, hi2, xs, hxs, ho2, hq⟩
  simp only at hi
  subst hi
  refine ifP_dec (fun h3 => ?_) (fun h3 => ?_)
  · simp only at h3
    have hi' : i < p.length := by omega
    refine hp.getle i (Hp.le_trans hD ho2.1) rfl hi' fun y hy by_ => ?_
    refine ho2.call (K1 := fun z D' => NR D' z (p[i] * c)) (qMul_call (hy.le hD) (hx.le hD) by_ bc hA hB fun z D' hl' hz => hz) fun z D' h3 hl' ho' hz => ?_
    refine set_own qc_len (by decide) (x := z) i ho' rfl (by omega) (qc_leaf z) fun h4 ho4 _ => ⟨⟨D', Hp.le_trans hD hl', i + 1, ?_, hi', xs.set i z, by simpa using hxs, ho4, ?_⟩, ?_⟩
    · simp only; rw [w64 (by omega)]; rfl
    · have e1 : (xs.set i z).take (i + 1) = xs.take i ++ [z] := by
        rw [List.take_succ_eq_append_getElem (by simp; omega), List.take_set_of_le (Nat.le_refl _)]
        simp
      have e2 : (p.take (i + 1)).map (c * ·) = (p.take i).map (c * ·) ++ [p[i] * c] := by
        rw [List.take_succ_eq_append_getElem hi', List.map_append]
        simp only [List.map_cons, List.map_nil]
        rw [Rat.mul_comm]
      rw [e1, e2]
      exact QL.snoc (hq.le hl') hz (by_.mul bc)
    · simp only; rw [w64 (by omega)]; omega
  · simp only at h3
    have hi' : i = p.length := by omega
    subst hi'
    rw [List.take_length, ← hxs, List.take_length] at hq
    have hod : OD D h2 (A + B) m (p.map (c * ·)) := ⟨xs, ho2, hq⟩
    refine pTrim_call hod.pl (by simpa using hlen) (by omega) fun y h' hy => hk _ _ (Hp.le_trans hD (Hp.le_trans ho2.1 hy.hle)) (hy.base (Hp.le_trans hD ho2.1))
theorem OD.cp {D h : Hp} {Kn : Nat → Hp → Prop} (ho : OD D h B l q) (hp : PL D A m p) (hAB : A ≤ B) (hlen : p.length ≤ q.length) (H : ∀ h', OD D h' B l (p ++ q.drop p.length) → Kn p.length h') : cpP 4 l m Kn h := by
  have hl := ho.len
  have hml := hp.len
  obtain ⟨ys, h1, h2⟩ := ho
  obtain ⟨xs, g1, g2, g3⟩ := hp
  have hmin : Nat.min m.len l.len = p.length := by rw [hml, hl]; exact Nat.min_eq_left hlen
  have hx := g2.1
  have hy := h2.1
  refine ⟨xs.flatMap qc, ?_, ?_⟩
  · rw [hmin]
    have := cellsAtO_le h1.1 g1.2
    rw [flat_len qc_len, hx] at this
    exact this
  · rw [hmin]
    refine stO_own h1 (by rw [flat_len qc_len, flat_len qc_len]; omega) ?_ fun h' ho' => H h' ⟨xs ++ ys.drop xs.length, ?_, ?_⟩
    · rw [List.all_flatMap, List.all_eq_true]; intro x _; exact qc_leaf x
    · have e := splice_mid (A := []) (B := ys.flatMap qc) (vs := xs.flatMap qc) (by rw [flat_len qc_len, flat_len qc_len]; omega)
      simp only [List.nil_append, List.length_nil] at e
      rw [e] at ho'
      have e2 : (ys.flatMap qc).drop (xs.flatMap qc).length = (ys.drop xs.length).flatMap qc := by
        rw [flat_len qc_len]
        conv => lhs; rw [← List.take_append_drop xs.length ys, List.flatMap_append]
        rw [List.drop_append_of_le_length (by rw [flat_len qc_len, List.length_take]; omega), List.drop_of_length_le (by rw [flat_len qc_len, List.length_take]; omega), List.nil_append]
      rw [e2, ← List.flatMap_append] at ho'
      exact ho'
    · refine ⟨by simp [hx, hy], fun k k1 k2 => ?_⟩
      rcases Nat.lt_or_ge k xs.length with h3 | h3
      · rw [List.getElem_append_left h3, List.getElem_append_left (by omega)]
        have := g2.2 k h3 (by omega)
        exact ⟨this.1, this.2.mono hAB⟩
      · rw [List.getElem_append_right h3, List.getElem_append_right (by omega)]
        rw [List.getElem_drop, List.getElem_drop]
        have := h2.2 (xs.length + (k - xs.length)) (by simp at k1; omega) (by simp at k1; omega)
        simpa [hx] using this
end
end Den
end

section
set_option linter.unusedVariables false
namespace Den
open Go Iv Pq
section
variable {h : Hp} {A B C : Nat} {l m : Sl} {p q : List Rat} {K : Sl → Hp → Prop} {KR : TRat → Hp → Prop} {Kb : Bool → Hp → Prop} {c : Rat} {x : TRat}

theorem qbackward_call {Ka : Addr → Hp → Prop} (H : ∀ a h', h.le h' → h'.cell a = some (.slice l.a l.len l.cap) → Ka a h') : callP (F.slices_Backward_api_Rat_api_Rat l) Ka h := by
  refine callP_of (fun a h' => h'.cell a = some (.slice l.a l.len l.cap)) (fun K' hk => ?_) fun a h' hl ha => H a h' hl ha
  unfold F.slices_Backward_api_Rat_api_Rat
  intro b e hb
  refine hk _ _ (Hp.le_ins hb) ?_
  unfold Hp.cell
  simp only [Hp.ins_same]
  rfl
abbrev qt (x : TRat) : Bool × Sl × Bool × Sl × Unit := (x.num.neg, x.num.mag, x.den.neg, x.den.mag, ())
theorem back_rat {h' : Hp} (hp : PL h B l p) (hl : h.le h') {i : Nat} (hi : i < p.length) :
    ∃ (ad : Addr) (x : TRat), l.a = some ad ∧ NR h x p[i] ∧ BR B p[i] ∧ ∀ j u, (qc x)[j]? = some u → h'.cell (ad.add (i * 4 + j)) = some u := by
  obtain ⟨xs, h1, h2, h3⟩ := hp
  have hi' : i < xs.length := by rw [h2.1]; exact hi
  have h4 := (h1.le hl).2
  have hpos : 0 < (xs.flatMap qc).length := by rw [flat_len qc_len]; omega
  cases ha : l.a with
  | none =>
    rw [ha] at h4
    simp only [cellsAtO] at h4
    split at h4
    · omega
    · cases h4
  | some ad =>
    rw [ha] at h4
    simp only [cellsAtO] at h4
    refine ⟨ad, xs[i], rfl, (h2.2 i hi' hi).1, (h2.2 i hi' hi).2, fun j u hj => ?_⟩
    have hj4 : j < 4 := by
      rcases Nat.lt_or_ge j 4 with h5 | h5
      · exact h5
      · rw [List.getElem?_eq_none (by rw [qc_len]; exact h5)] at hj; cases hj
    exact cellsAt_get h4 (i * 4 + j) u (by rw [flat_get qc_len hi' hj4]; exact hj)
theorem pEval_call (hp : PL h A l p) (hx : NR h x c) (bc : BR B c) (hlen : p.length ≤ 1000000000000) (hA : A ≤ 100000000000) (hB : B ≤ 100000000000) (hC : ∀ i, BR C (ev (p.drop i) c)) (hC2 : C ≤ 200000000000) (H : ∀ z h', h.le h' → NR h' z (ev p c) → KR z h') : callP (F.polynomial_Eval l x) KR h := by
  refine callP_of (fun z h' => NR h' z (ev p c)) (fun K' hk => ?_) fun z h' hl hz => H z h' hl hz
  unfold F.polynomial_Eval
  have hl := hp.len
  refine qFromInt_call (by decide) (by decide) fun z0 h1 hl1 hz0 => ?_
  refine qbackward_call fun ad h2 hl2 had => ?_
  have hl02 := Hp.le_trans hl1 hl2
  refine ⟨l, fun i st h' => i ≤ p.length ∧ h2.le h' ∧ NR h' (q4 st.1) (ev (p.drop i) c), by omega, ⟨by omega, Hp.le_refl _, ?_⟩, fun i st h' hI => Hp.cell_le hI.2.1 had, fun i st h' hi hI => ?_, fun st h' hI => ?_⟩
  · rw [hl, List.drop_length]; exact hz0.le hl2
  · obtain ⟨_, hl3, hs⟩ := hI
    have hi' : i < p.length := by omega
    obtain ⟨a, y, ha, hy, by_, hc⟩ := back_rat hp (Hp.le_trans hl02 hl3) hi'
    refine ⟨a, qt y, ha, fun j u hj => hc j u hj, ?_⟩
    have hl03 := Hp.le_trans hl02 hl3
    refine qMul_call hs (hx.le hl03) (hC _) bc (by omega) (by omega) fun r h4 hl4 hr => ?_
    refine qAdd_call hr ((hy.le hl03).le hl4) ((hC _).mul bc) by_ (by omega) (by omega) fun w h5 hl5 hw => ?_
    refine ⟨by omega, Hp.le_trans hl3 (Hp.le_trans hl4 hl5), ?_⟩
    rw [ev_drop hi', Rat.add_comm]
    exact hw
  · have := hI.2.2
    rw [List.drop_zero] at this
    exact hk _ _ (Hp.le_trans hl02 hI.2.1) this
end
end Den
end

section
set_option linter.unusedVariables false
namespace Den
open Go Iv Pq
section
variable {h : Hp} {A B C : Nat} {l m : Sl} {p q : List Rat} {K : Sl → Hp → Prop} {KR : TRat → Hp → Prop} {Kb : Bool → Hp → Prop} {c : Rat} {x : TRat}

theorem rpEval_call (hp : PL h A l p) (hx : NR h x c) (bc : BR B c) (hlen : p.length ≤ 1000000000000) (hA : A ≤ 100000000000) (hB : B ≤ 100000000000) (hC : ∀ i, BR C (ev (p.drop i) c)) (hC2 : C ≤ 200000000000) (H : ∀ z h', h.le h' → NR h' z (ev p c) → KR z h') : callP (F.ref04_Eval l x) KR h := by
  refine callP_of (fun z h' => NR h' z (ev p c)) (fun K' hk => ?_) fun z h' hl hz => H z h' hl hz
  unfold F.ref04_Eval
  have hl := hp.len
  refine rZero_call fun z0 h1 hl1 hz0 => ?_
  have e0 : IntKind.i64.wrap ((l.len : Int) - 1) = (p.length : Int) - 1 := by rw [w64 (by omega)]; omega
  rw [e0]
  refine loopP_of (fun st h' => h1.le h' ∧ ∃ i : Nat, st.2.1 = (i : Int) - 1 ∧ i ≤ p.length ∧ NR h' (q4 st.1) (ev (p.drop i) c)) (fun st => (st.2.1 + 1).toNat)
    ⟨Hp.le_refl _, p.length, rfl, Nat.le_refl _, by rw [List.drop_length]; exact hz0⟩ ?_
  rintro ⟨s, _, _⟩ h2 ⟨hl2, i, hi, hi2, hs⟩
  simp only at hi hs
  subst hi
  refine ifP_dec (fun h3 => ?_) (fun h3 => ?_)
  · simp only at h3
    have hl12 := Hp.le_trans hl1 hl2
    refine (hp.le hl12).get (i - 1) (by simp only; omega) (by omega) fun y hy by_ => ?_
    refine rqMul_call hs (hx.le hl12) (hC _) bc (by omega) (by omega) fun r h4 hl4 hr => ?_
    refine rqAdd_call hr (hy.le hl4) ((hC _).mul bc) by_ (by omega) (by omega) fun w h5 hl5 hw => ?_
    have e1 : IntKind.i64.wrap ((i : Int) - 1 - 1) = ((i - 1 : Nat) : Int) - 1 := by rw [w64 (by omega)]; omega
    refine ⟨⟨Hp.le_trans hl2 (Hp.le_trans hl4 hl5), i - 1, e1, by omega, ?_⟩, by simp only; rw [e1]; omega⟩
    have e2 : ev (p.drop (i - 1)) c = ev (p.drop i) c * c + p[i - 1]'(by omega) := by
      rw [ev_drop (show i - 1 < p.length by omega), Rat.add_comm, show i - 1 + 1 = i by omega]
    rw [e2]
    exact hw
  · simp only at h3
    have hi' : i = 0 := by omega
    subst hi'
    rw [List.drop_zero] at hs
    exact hk _ _ (Hp.le_trans hl1 hl2) hs

theorem PL.one {a : Addr} {y : TRat} {v : Rat} (hr : RdQ h ⟨some a, 1, 1⟩ [y]) (hy : NR h y v) (by_ : BR B v) : PL h B ⟨some a, 1, 1⟩ [v] := by
  refine ⟨[y], hr, ⟨rfl, fun k h1 h2 => ?_⟩, Nat.le_refl _⟩
  have : k = 0 := by simp at h1; omega
  subst this
  exact ⟨hy, by_⟩
end
end Den
end

section
set_option linter.unusedVariables false
namespace Den
open Go Iv Pq

/-- One step of the division: the multiple of b (of degree d) that removes the coefficient at i + d. -/
def stepF (b : Nat → Rat) (d i : Nat) (f : Nat → Rat) : Nat → Rat := fun j => if i ≤ j then f j - (f (i + d) / b d) * b (j - i) else f j
/-- What is left after k of N steps. -/
def restK (b : Nat → Rat) (d N : Nat) (f : Nat → Rat) : Nat → (Nat → Rat)
  | 0 => f
  | k + 1 => stepF b d (N - 1 - k) (restK b d N f k)
section
variable {D h h' : Hp} {A B C : Nat} {l m x : Sl} {p q : List Rat} {K : Sl → Hp → Prop} {KK : Sl × Sl → Hp → Prop}

theorem OD.stay (ho : OD D h B l p) (hap : Apt x l) (hl : D.le h') (hs : ∀ j, (∀ a, x.a = some a → j ≠ a.block) → h' j = h j) : OD D h' B l p := by
  obtain ⟨xs, h1, h2⟩ := ho
  exact ⟨xs, own_stay h1 hap hl hs, h2⟩
theorem OD.call2 {α : Type} {G : (α → Hp → Prop) → Hp → Prop} {K1 K : α → Hp → Prop} (h1 : OD D h A l p) (h2 : OD D h B m q) (H : callP G K1 D)
    (k : ∀ v D' h', D.le D' → OD D' h' A l p → OD D' h' B m q → K1 v D' → K v h') : callP G K h := by
  obtain ⟨xs, a1, a2⟩ := h1
  obtain ⟨ys, b1, b2⟩ := h2
  exact callP_sub a1.1 H fun v D' h' g1 g2 g3 g4 => k v D' h' g1 ⟨xs, a1.move g2 g3, a2.le g1⟩ ⟨ys, b1.move g2 g3, b2.le g1⟩ g4
/-- A new list beside a list of one's own. -/
theorem OD.pair {D1 D2 : Hp} {r s : Sl} (h1 : ∃ xs, Own D2 h 4 r (xs.flatMap qc) ∧ QL D1 A xs p) (h2 : OL D1 D2 B s q) : ∃ D3, D1.le D3 ∧ OD D3 h A r p ∧ OD D3 h B s q ∧ Apt r s := by
  obtain ⟨xs, a1, a2⟩ := h1
  obtain ⟨D3, c1, ys, b1, b2⟩ := h2
  refine ⟨D3, c1, ⟨xs, a1.base b1.1, a2.le c1⟩, ⟨ys, b1.le a1.1, b2⟩, fun a b ha hb => ?_⟩
  obtain ⟨_, _, _, g4⟩ := a1
  rw [ha] at g4
  obtain ⟨_, _, k3, _⟩ := g4
  obtain ⟨_, _, _, f4⟩ := b1
  rw [hb] at f4
  obtain ⟨_, _, _, bb, e4, _⟩ := f4
  intro hh
  rw [hh, e4] at k3
  cases k3
theorem NR.num_ne {y : TRat} {v : Rat} (h0 : v ≠ 0) : v.num ≠ 0 := fun hh => h0 (Rat.num_eq_zero.1 hh)

theorem pdivide_callR (hp : PL h A l p) (hq : PL h B m q) (hlen : p.length ≤ 1000) (hlen2 : q.length ≤ 1000) (hB : 1 ≤ B ∧ B ≤ 50000000000) (hq0 : trim q ≠ [])
    (hC : ∀ k j, k ≤ (trim p).length + 1 - (trim q).length → BR C (restK (co q) ((trim q).length - 1) ((trim p).length + 1 - (trim q).length) (co p) k j)) (hC2 : A ≤ C ∧ C ≤ 50000000000)
    (H : ∀ y z h' qs rs, h.le h' → PL h' (C + B) y (trim qs) → PL h' C z (trim rs) → qs.length ≤ 1001 → rs.length ≤ 1000 → (∀ j, conv (co qs) (co q) j + co rs j = co p j) → (∀ j, (trim q).length - 1 ≤ j → co rs j = 0) → (∀ j, co rs j = restK (co q) ((trim q).length - 1) ((trim p).length + 1 - (trim q).length) (co p) ((trim p).length + 1 - (trim q).length) j) → KK (y, z) h') :
    callP (F.polynomial_divide l m) KK h := by
  refine callP_of (fun yz h' => ∃ qs rs, PL h' (C + B) yz.1 (trim qs) ∧ PL h' C yz.2 (trim rs) ∧ qs.length ≤ 1001 ∧ rs.length ≤ 1000 ∧ (∀ j, conv (co qs) (co q) j + co rs j = co p j) ∧ (∀ j, (trim q).length - 1 ≤ j → co rs j = 0) ∧ (∀ j, co rs j = restK (co q) ((trim q).length - 1) ((trim p).length + 1 - (trim q).length) (co p) ((trim p).length + 1 - (trim q).length) j)) (fun K' hk => ?_)
    fun yz h' hl ⟨qs, rs, g1, g2, g3, g4, g5, g6, g7⟩ => H yz.1 yz.2 h' qs rs hl g1 g2 g3 g4 g5 g6 g7
  unfold F.polynomial_divide
  have tq := trim_len (p := q)
  have tp := trim_len (p := p)
  have hd0 : 0 < (trim q).length := List.length_pos_iff.2 hq0
  obtain ⟨d, hd⟩ : ∃ d, (trim q).length = d + 1 := ⟨(trim q).length - 1, by omega⟩
  obtain ⟨N, hN⟩ : ∃ N, N = (trim p).length + 1 - (trim q).length := ⟨_, rfl⟩
  rw [← hN] at hC
  have hdd : (trim q).length - 1 = d := by omega
  rw [hdd] at hC hk
  have hb : co q d ≠ 0 := by
    have := nf_top nf_trim hq0
    rw [hdd, co_trim] at this
    exact this
  have hb2 : ∀ j, d < j → co q j = 0 := fun j hj => by rw [← co_trim, co_ge (by omega)]
  refine pTrim_call hq (by omega) (by omega) fun r1 h1 hr1 => ?_
  refine pTrim_call (hp.le hr1.hle) (by omega) (by omega) fun r2 h2 hr2 => ?_
  have len1 := hr1.len
  have len2 := hr2.len
  have eN : maxI 0 (IntKind.i64.wrap (IntKind.i64.wrap ((r2.len : Int) - (r1.len : Int)) + 1)) = (N : Int) := by
    rw [len1, len2, w64 (n := ((trim p).length : Int) - ((trim q).length : Int)) (by omega), w64 (by omega)]
    unfold maxI
    split <;> omega
  rw [eN]
  have hpl1 := hr1.pl
  obtain ⟨D2, hD2, xs, ho2, hq2⟩ := hr2
  refine ho2.call (K1 := fun v D' => OL D2 D' 1 v (List.replicate N 0)) (zeros_call (by omega) fun y h' hy => hy) fun r3 D' h3 _ ho3 hr3 => ?_
  obtain ⟨D3, hD3, hoR, hoQ, hap⟩ := OD.pair ⟨xs, ho3, hq2⟩ hr3
  have hh1D : h1.le D3 := Hp.le_trans hD2 hD3
  have e0 : IntKind.i64.wrap ((r2.len : Int) - (r1.len : Int)) = ((trim p).length : Int) - ((trim q).length : Int) := by rw [len1, len2, w64 (by omega)]
  rw [e0]
  refine loopP_of (fun st h' => ∃ D, h1.le D ∧ ∃ n : Nat, (st.1 = (n : Int) - 1 ∨ (st.1 < 0 ∧ n = 0)) ∧ n ≤ N ∧ ∃ qs rs, qs.length = N ∧ rs.length = (trim p).length ∧ OD D h' C r2 rs ∧ OD D h' (C + B) r3 qs ∧
      (∀ j, co rs j = restK (co q) d N (co p) (N - n) j) ∧ (∀ j, j < n → co qs j = 0) ∧ (∀ j, conv (co qs) (co q) j + co rs j = co p j) ∧ (∀ j, n + d ≤ j → co rs j = 0)) (fun st => (st.1 + 1).toNat)
    ⟨D3, hh1D, N, ?_, Nat.le_refl _, _, _, by simp, rfl, hoR.mono hC2.1, hoQ.mono (by omega), fun j => by rw [Nat.sub_self, co_trim]; rfl, fun j _ => co_replicate, fun j => ?_, fun j hj => ?_⟩ ?_
  · simp only; omega
  · rw [conv_comm, conv_congr (g' := co []) (fun _ => rfl) (fun _ => co_replicate), conv_comm, conv_nil, Rat.zero_add, co_trim]
  · rw [co_ge (by omega)]
  rintro ⟨st, _⟩ h4 ⟨D, hD, n, hst, hn, qs, rs, lq, lr, oR, oQ, cR, cQ, cc, cz⟩
  simp only at hst
  refine ifP_dec (fun h5 => ?_) (fun h5 => ?_)
  · simp only at h5
    have hst' : st = (n : Int) - 1 := by omega
    subst hst'
    obtain ⟨i, rfl⟩ : ∃ i, n = i + 1 := ⟨n - 1, by omega⟩
    have hiN : i < N := by omega
    have e1 : (((i + 1 : Nat) : Int) - 1) = (i : Int) := by omega
    simp only [e1]
    have e2 : IntKind.i64.wrap (IntKind.i64.wrap ((i : Int) + (r1.len : Int)) - 1) = ((i + d : Nat) : Int) := by
      rw [len1, w64 (n := (i : Int) + ((trim q).length : Int)) (by omega), w64 (by omega)]; omega
    have e3 : IntKind.i64.wrap ((r1.len : Int) - 1) = (d : Int) := by rw [len1, w64 (by omega)]; omega
    rw [e2, e3]
    have hid : i + d < rs.length := by omega
    refine oR.get (i + d) rfl hid fun u hu bu => ?_
    refine hpl1.getle d (Hp.le_trans hD oR.dle) rfl (by omega) fun v hv bv => ?_
    have ev1 : (trim q)[d]'(by omega) = co q d := by rw [← co_lt (show d < (trim q).length by omega), co_trim]
    have eu1 : rs[i + d] = co rs (i + d) := (co_lt hid).symm
    rw [ev1] at hv bv
    rw [eu1] at hu bu
    refine oR.call2 (K1 := fun z D' => NR D' z.1 (co rs (i + d) / co q d)) oQ (qDiv_call hu (hv.le hD) bu bv (by omega) (by omega) (NR.num_ne (y := v) hb) fun z D' _ hz => hz) fun z D1 h6 hl1 oR1 oQ1 hz => ?_
    have bz : BR (C + B) (co rs (i + d) / co q d) := bu.div bv (NR.num_ne (y := v) hb)
    refine oQ1.set i rfl (by omega) hz bz fun h7 oQ2 hfr => ?_
    have oR2 : OD D1 h7 C r2 rs := oR1.stay hap.symm oQ2.dle hfr
    have hfk : ∀ j, restK (co q) d N (co p) (N - i) j = stepF (co q) d i (co rs) j := fun j => by
      have e4 : N - i = (N - (i + 1)) + 1 := by omega
      have e5 : N - 1 - (N - (i + 1)) = i := by omega
      rw [e4, restK, e5]
      unfold stepF
      rw [cR, cR]
    refine loopP_of (fun st h' => ∃ D, h1.le D ∧ ∃ k : Nat, st.1 = (k : Int) ∧ k ≤ d + 1 ∧ ∃ rs', rs'.length = rs.length ∧ OD D h' C r2 rs' ∧ OD D h' (C + B) r3 (qs.set i (co rs (i + d) / co q d)) ∧
        ∀ j, co rs' j = if i ≤ j ∧ j < i + k then stepF (co q) d i (co rs) j else co rs j) (fun st => (((d + 1 : Nat) : Int) - st.1).toNat)
      ⟨D1, Hp.le_trans hD hl1, 0, rfl, Nat.zero_le _, rs, rfl, oR2, oQ2, fun j => by rw [if_neg (by omega)]⟩ ?_
    rintro ⟨_, _⟩ h8 ⟨D4, hD4, k, hk1, hk2, rs', lr', oR3, oQ3, cR3⟩
    simp only at hk1
    subst hk1
    refine ifP_dec (fun h9 => ?_) (fun h9 => ?_)
    · simp only [len1] at h9
      have hkd : k ≤ d := by omega
      refine hpl1.getle k (Hp.le_trans hD4 oR3.dle) rfl (by omega) fun w hw bw => ?_
      have ew1 : (trim q)[k]'(by omega) = co q k := by rw [← co_lt (show k < (trim q).length by omega), co_trim]
      rw [ew1] at hw bw
      have e6 : IntKind.i64.wrap ((i : Int) + (k : Int)) = ((i + k : Nat) : Int) := by rw [w64 (by omega)]; omega
      have hik : i + k < rs'.length := by omega
      refine oR3.get (i + k) e6 hik fun t ht bt => ?_
      refine oQ3.get i rfl (by simp; omega) fun g hg bg => ?_
      have eg : (qs.set i (co rs (i + d) / co q d))[i]'(by simp; omega) = co rs (i + d) / co q d := by simp
      rw [eg] at hg bg
      have et : rs'[i + k] = co rs (i + k) := by rw [← co_lt hik, cR3, if_neg (by omega)]
      rw [et] at ht bt
      refine oR3.call2 (K1 := fun z D' => NR D' z (co rs (i + d) / co q d * co q k)) oQ3 (qMul_call hg (hw.le hD4) bg bw (by omega) (by omega) fun z D' _ hz => hz) fun z2 D5 h10 hl5 oR4 oQ4 hz2 => ?_
      refine oR4.call2 (K1 := fun z D' => NR D' z (co rs (i + k) - co rs (i + d) / co q d * co q k)) oQ4 (qSub_call (ht.le hl5) hz2 bt (bg.mul bw) (by omega) (by omega) fun z D' _ hz => hz) fun z3 D6 h11 hl6 oR5 oQ5 hz3 => ?_
      have es : co rs (i + k) - co rs (i + d) / co q d * co q k = stepF (co q) d i (co rs) (i + k) := by
        unfold stepF
        rw [if_pos (by omega), Nat.add_sub_cancel_left]
      rw [es] at hz3
      have bs : BR C (stepF (co q) d i (co rs) (i + k)) := by rw [← hfk]; exact hC _ _ (by omega)
      refine oR5.set (i + k) e6 hik hz3 bs fun h12 oR6 hfr2 => ⟨⟨D6, Hp.le_trans hD4 (Hp.le_trans hl5 hl6), k + 1, ?_, by omega, _, by simpa using lr', oR6, oQ5.stay hap oR6.dle hfr2, fun j => ?_⟩, ?_⟩
      · simp only; rw [w64 (by omega)]; rfl
      · rw [co_set hik]
        by_cases hj : j = i + k
        · subst hj; rw [if_pos rfl, if_pos (by omega)]
        · rw [if_neg hj, cR3]
          by_cases hj2 : i ≤ j ∧ j < i + k
          · rw [if_pos hj2, if_pos (by omega)]
          · rw [if_neg hj2, if_neg (by omega)]
      · simp only; rw [w64 (by omega)]; omega
    · simp only [len1] at h9
      have hkd : k = d + 1 := by omega
      subst hkd
      have cR4 : ∀ j, co rs' j = stepF (co q) d i (co rs) j := fun j => by
        rw [cR3]
        by_cases hj : i ≤ j ∧ j < i + (d + 1)
        · rw [if_pos hj]
        · rw [if_neg hj]
          unfold stepF
          by_cases hj2 : i ≤ j
          · rw [if_pos hj2, hb2 (j - i) (by omega)]; grind
          · rw [if_neg hj2]
      have e7 : IntKind.i64.wrap ((i : Int) - 1) = (i : Int) - 1 := w64 (by omega)
      refine ⟨⟨D4, hD4, i, .inl e7, by omega, _, rs', by simpa using lq, by omega, oR3, oQ3, fun j => by rw [cR4, hfk], fun j hj => ?_, fun j => ?_, fun j hj => ?_⟩, by rw [e7]; omega⟩
      · rw [co_set (by omega), if_neg (by omega)]
        exact cQ j (by omega)
      · -- the product of the quotient grows by this multiple
        have e8 : conv (co (qs.set i (co rs (i + d) / co q d))) (co q) j = conv (co qs) (co q) j + (if i ≤ j then co rs (i + d) / co q d * co q (j - i) else 0) := by
          unfold conv
          have e9 : ∀ t, co (qs.set i (co rs (i + d) / co q d)) t = co qs t + (if t = i then co rs (i + d) / co q d else 0) := fun t => by
            rw [co_set (by omega)]
            by_cases ht : t = i
            · subst ht; rw [if_pos rfl, if_pos rfl, cQ t (by omega), Rat.zero_add]
            · rw [if_neg ht, if_neg ht, Rat.add_zero]
          have e10 : sm (j + 1) (fun t => (if t = i then co rs (i + d) / co q d else 0) * co q (j - t)) = if i ≤ j then co rs (i + d) / co q d * co q (j - i) else 0 := by
            by_cases hij : i ≤ j
            · rw [if_pos hij, sm_one (k := i) (by omega) fun t _ ht => by rw [if_neg ht, Rat.zero_mul], if_pos rfl]
            · rw [if_neg hij]
              exact sm_zeros fun t ht => by rw [if_neg (by omega), Rat.zero_mul]
          rw [← e10, ← sm_add]
          exact sm_congr fun t _ => by rw [e9]; grind
        rw [e8, cR4]
        unfold stepF
        have := cc j
        by_cases hij : i ≤ j
        · rw [if_pos hij, if_pos hij]; grind
        · rw [if_neg hij, if_neg hij]; grind
      · rw [cR4]
        unfold stepF
        rw [if_pos (by omega)]
        by_cases hj2 : j = i + d
        · subst hj2
          rw [Nat.add_sub_cancel_left, Rat.div_mul_cancel hb]; grind
        · rw [cz j (by omega), hb2 (j - i) (by omega)]; grind
  · simp only at h5
    have hn0 : n = 0 := by omega
    subst hn0
    refine pTrim_call oQ.pl (by omega) (by omega) fun y h6 hy => ?_
    refine pTrim_call (oR.pl.le hy.hle) (by omega) (by omega) fun z h7 hz => ?_
    refine hk _ _ (Hp.le_trans hr1.hle (Hp.le_trans hD (Hp.le_trans oR.dle (Hp.le_trans hy.hle hz.hle)))) ⟨qs, rs, hy.pl.le hz.hle, hz.pl, by omega, by omega, cc, fun j hj => cz j (by omega), fun j => by rw [cR j, ← hN]; rfl⟩
theorem pdivide_call (hp : PL h A l p) (hq : PL h B m q) (hlen : p.length ≤ 1000) (hlen2 : q.length ≤ 1000) (hB : 1 ≤ B ∧ B ≤ 50000000000) (hq0 : trim q ≠ [])
    (hC : ∀ k j, k ≤ (trim p).length + 1 - (trim q).length → BR C (restK (co q) ((trim q).length - 1) ((trim p).length + 1 - (trim q).length) (co p) k j)) (hC2 : A ≤ C ∧ C ≤ 50000000000)
    (H : ∀ y z h' qs rs, h.le h' → PL h' (C + B) y (trim qs) → PL h' C z (trim rs) → qs.length ≤ 1001 → rs.length ≤ 1000 → (∀ j, conv (co qs) (co q) j + co rs j = co p j) → (∀ j, (trim q).length - 1 ≤ j → co rs j = 0) → KK (y, z) h') :
    callP (F.polynomial_divide l m) KK h :=
  pdivide_callR hp hq hlen hlen2 hB hq0 hC hC2 fun y z h' qs rs a1 a2 a3 a4 a5 a6 a7 _ => H y z h' qs rs a1 a2 a3 a4 a5 a6 a7
end
end Den
end

section
set_option linter.unusedVariables false
namespace Den
open Go Iv Pq
theorem restK_skip {b f : Nat → Rat} {d N k : Nat} : ∀ {k' : Nat}, k ≤ k' → k' ≤ N → (∀ j, N - k' + d ≤ j → restK b d N f k j = 0) → ∀ j, restK b d N f k' j = restK b d N f k j
  | 0, h1, _, _, j => by have : k = 0 := by omega
                         subst this; rfl
  | k' + 1, h1, h2, hz, j => by
    by_cases hk : k = k' + 1
    · subst hk; rfl
    · have ih := restK_skip (b := b) (f := f) (d := d) (N := N) (k := k) (k' := k') (by omega) (by omega) fun j hj => hz j (by omega)
      show stepF b d (N - 1 - k') (restK b d N f k') j = _
      unfold stepF
      rw [ih, ih, hz (N - 1 - k' + d) (by omega)]
      split
      · grind
      · rfl
section
variable {h : Hp} {A B C : Nat} {l m : Sl} {p q : List Rat} {KK : Sl × Sl → Hp → Prop} {KR : TRat → Hp → Prop} {KQ : Sl × Sl × Int → Hp → Prop} {x y : TRat} {u v : Rat}
theorem rQuot_call (hx : NR h x u) (hy : NR h y v) (bu : BR A u) (bv : BR B v) (hA : A ≤ 400000000000) (hB : B ≤ 400000000000) (h0 : v ≠ 0) (H : ∀ z h', h.le h' → NR h' z (u / v) → KR z h') : callP (F.ref04_quotient x y) KR h := by
  refine callP_of (fun z h' => NR h' z (u / v)) (fun K' hk => ?_) fun z h' hl hz => H z h' hl hz
  unfold F.ref04_quotient
  exact rqDiv_call hx hy bu bv hA hB (NR.num_ne (y := y) h0) fun z h' hl hz => hk _ _ hl hz
theorem co_term {i j : Nat} {t : Rat} : co (trim (List.replicate i 0 ++ [t])) j = if j = i then t else 0 := by
  rw [co_trim, co_shift]
  by_cases h1 : j < i
  · rw [if_pos h1, if_neg (by omega)]
  · rw [if_neg h1]
    by_cases h2 : j = i
    · subst h2; rw [if_pos rfl, Nat.sub_self]; rfl
    · rw [if_neg h2, co_ge (by simp; omega)]
theorem conv_term {i j : Nat} {t : Rat} {g : Nat → Rat} : conv (co (trim (List.replicate i 0 ++ [t]))) g j = if i ≤ j then t * g (j - i) else 0 := by
  unfold conv
  by_cases hij : i ≤ j
  · rw [if_pos hij, sm_one (k := i) (by omega) fun s _ hs => by rw [co_term, if_neg hs, Rat.zero_mul], co_term, if_pos rfl]
  · rw [if_neg hij]
    exact sm_zeros fun s hs => by rw [co_term, if_neg (by omega), Rat.zero_mul]
theorem rpDivMod_callR (hp : PL h A l p) (hq : PL h B m q) (hlen : p.length ≤ 900) (hlen2 : q.length ≤ 900) (hB : 1 ≤ B ∧ B ≤ 20000000000) (hq0 : trim q ≠ [])
    (hC : ∀ k j, k ≤ (trim p).length + 1 - (trim q).length → BR C (restK (co q) ((trim q).length - 1) ((trim p).length + 1 - (trim q).length) (co p) k j)) (hC2 : A ≤ C ∧ 1 ≤ C ∧ C ≤ 20000000000)
    (H : ∀ y z h' qs rs, h.le h' → PL h' (C + B) y qs → nf qs → PL h' C z rs → nf rs → qs.length ≤ 1000 → rs.length ≤ 1000 → (∀ j, conv (co qs) (co q) j + co rs j = co p j) → (∀ j, (trim q).length - 1 ≤ j → co rs j = 0) → (∀ j, co rs j = restK (co q) ((trim q).length - 1) ((trim p).length + 1 - (trim q).length) (co p) ((trim p).length + 1 - (trim q).length) j) → KK (y, z) h') :
    callP (F.ref04_DivMod l m) KK h := by
  refine callP_of (fun yz h' => ∃ qs rs, PL h' (C + B) yz.1 qs ∧ nf qs ∧ PL h' C yz.2 rs ∧ nf rs ∧ qs.length ≤ 1000 ∧ rs.length ≤ 1000 ∧ (∀ j, conv (co qs) (co q) j + co rs j = co p j) ∧ (∀ j, (trim q).length - 1 ≤ j → co rs j = 0) ∧ (∀ j, co rs j = restK (co q) ((trim q).length - 1) ((trim p).length + 1 - (trim q).length) (co p) ((trim p).length + 1 - (trim q).length) j)) (fun K' hk => ?_)
    fun yz h' hl ⟨qs, rs, g1, g2, g3, g4, g5, g6, g7, g8, g9⟩ => H yz.1 yz.2 h' qs rs hl g1 g2 g3 g4 g5 g6 g7 g8 g9
  unfold F.ref04_DivMod
  have tq := trim_len (p := q)
  have tp := trim_len (p := p)
  have hd0 : 0 < (trim q).length := List.length_pos_iff.2 hq0
  obtain ⟨d, hd⟩ : ∃ d, (trim q).length = d + 1 := ⟨(trim q).length - 1, by omega⟩
  obtain ⟨N, hN⟩ : ∃ N, N = (trim p).length + 1 - (trim q).length := ⟨_, rfl⟩
  rw [← hN] at hC
  have hdd : (trim q).length - 1 = d := by omega
  rw [hdd] at hC hk
  have hb : co q d ≠ 0 := by
    have := nf_top nf_trim hq0
    rw [hdd, co_trim] at this
    exact this
  have hb2 : ∀ j, d < j → co q j = 0 := fun j hj => by rw [← co_trim, co_ge (by omega)]
  refine rTrim_call hq (by omega) (by omega) fun r1 h1 hr1 => ?_
  refine rTrim_call (hp.le hr1.hle) (by omega) (by omega) fun r2 h2 hr2 => ?_
  have len1 := hr1.len
  have hpl1 := hr1.pl.le hr2.hle
  refine loopP_of (fun st h' => h2.le h' ∧ ∃ qs rs k, PL h' (C + B) st.2.1 qs ∧ nf qs ∧ PL h' C st.1 rs ∧ nf rs ∧ k ≤ N ∧ (∀ j, co rs j = restK (co q) d N (co p) k j) ∧ rs.length ≤ N - k + d ∧ (∀ j, j < N - k → co qs j = 0) ∧
      (∀ j, conv (co qs) (co q) j + co rs j = co p j) ∧ rs.length ≤ (trim p).length ∧ qs.length ≤ N) (fun st => st.1.len)
    ⟨Hp.le_refl _, [], trim p, 0, PL.nil, nf_nil, hr2.pl.mono hC2.1, nf_trim, Nat.zero_le _, fun j => co_trim, by omega, fun j _ => rfl, fun j => by rw [conv_nil, Rat.zero_add, co_trim], Nat.le_refl _, Nat.zero_le _⟩ ?_
  rintro ⟨s, w, _⟩ h3 ⟨hl3, qs, rs, k, hQ, nQ, hR, nR, hk1, cR, lR, cQ, cc, lR2, lQ⟩
  simp only at hQ hR
  have lenR := hR.len
  refine ifP_dec (fun h4 => ?_) (fun h4 => ?_)
  · simp only [lenR, len1] at h4
    obtain ⟨i, hi⟩ : ∃ i, rs.length = i + d + 1 := ⟨rs.length - (d + 1), by omega⟩
    have hiN : i < N := by omega
    have hz : ∀ j, N - (N - 1 - i) + d ≤ j → restK (co q) d N (co p) k j = 0 := fun j hj => by rw [← cR, co_ge (by omega)]
    have hskip := restK_skip (b := co q) (f := co p) (d := d) (N := N) (k := k) (k' := N - 1 - i) (by omega) (by omega) hz
    have hnew : ∀ j, restK (co q) d N (co p) (N - i) j = stepF (co q) d i (co rs) j := fun j => by
      have e4 : N - i = (N - 1 - i) + 1 := by omega
      have e5 : N - 1 - (N - 1 - i) = i := by omega
      rw [e4, restK, e5]
      unfold stepF
      rw [hskip, hskip, cR, cR]
    have e2 : IntKind.i64.wrap ((s.len : Int) - 1) = ((i + d : Nat) : Int) := by rw [lenR, w64 (by omega)]; omega
    have e3 : IntKind.i64.wrap ((r1.len : Int) - 1) = (d : Int) := by rw [len1, w64 (by omega)]; omega
    have e4 : IntKind.i64.wrap ((s.len : Int) - (r1.len : Int)) = (i : Int) := by rw [lenR, len1, w64 (by omega)]; omega
    simp only [e2, e3, e4]
    refine hR.get (i + d) rfl (by omega) fun u hu bu => ?_
    refine (hpl1.le hl3).get d rfl (by omega) fun v hv bv => ?_
    have ev1 : (trim q)[d]'(by omega) = co q d := by rw [← co_lt (show d < (trim q).length by omega), co_trim]
    have eu1 : rs[i + d]'(by omega) = co rs (i + d) := (co_lt (by omega)).symm
    rw [ev1] at hv bv
    rw [eu1] at hu bu
    refine rQuot_call hu hv bu bv (by omega) (by omega) hb fun t h5 hl5 ht => ?_
    have bt : BR (C + B) (co rs (i + d) / co q d) := bu.div bv (NR.num_ne (y := v) hb)
    obtain ⟨tt, htt⟩ : ∃ tt, tt = co rs (i + d) / co q d := ⟨_, rfl⟩
    rw [← htt] at ht bt
    refine new_rats (xs := [t]) 1 rfl fun a h6 hl6 ha => ?_
    have hone : PL h6 (C + B) ⟨some a, 1, 1⟩ [tt] := PL.one ha (ht.le hl6) bt
    refine rShift_call hone (by simp; omega) (by omega) fun r11 h7 hr11 => ?_
    have hl36 := Hp.le_trans hl5 (Hp.le_trans hl6 hr11.hle)
    have lterm : (trim (List.replicate i 0 ++ [tt])).length ≤ i + 1 := by
      have := trim_len (p := List.replicate i 0 ++ [tt])
      simpa using this
    refine rpAdd_call (hQ.le hl36) hr11.pl (by omega) (by omega) (by omega) (by omega) (C := C + B) (fun j => ?_) (by omega) fun r12 h8 hr12 => ?_
    · rw [co_term]
      by_cases hj : j = i
      · rw [if_pos hj, hj, cQ i (by omega), Rat.zero_add]; exact bt
      · rw [if_neg hj, Rat.add_zero]
        exact BR.co hQ.bound (by omega) j
    have hl38 := Hp.le_trans hl36 hr12.hle
    refine rpMul_call (hr11.pl.le hr12.hle) ((hpl1.le hl3).le hl38) (by omega) (by omega) (by omega) (by omega) (C := C + B + B) (fun k n _ => ?_) (by omega) fun r13 h9 hl9 hr13 => ?_
    · -- a partial sum has at most one summand
      unfold Pq.part
      have bq := fun j => BR.co (hpl1.bound) hB.1 j
      have hzero : BR (C + B + B) 0 := BR_zero.mono (by omega)
      by_cases hn : i ≤ n ∧ n - i < k
      · rw [sm_one (k := n - i) hn.2 fun s hs hs2 => ?_]
        · rw [if_pos (by omega), co_term, if_pos (by omega)]
          exact ((bq (n - i)).mul bt).mono (by omega)
        · split
          · rw [co_term, if_neg (by omega), Rat.mul_zero]
          · rfl
      · rw [sm_zeros fun s hs => ?_]
        · exact hzero
        · split
          · rw [co_term, if_neg (by omega), Rat.mul_zero]
          · rfl
    rw [if_neg hq0] at hr13
    have hl39 := Hp.le_trans hl38 hl9
    have cM : ∀ j, co (trim (mulL (trim (List.replicate i 0 ++ [tt])) (trim q))) j = if i ≤ j then tt * co q (j - i) else 0 := fun j => by
      rw [co_trim, co_mulL, conv_term]
      split
      · rw [co_trim]
      · rfl
    have lM : (trim (mulL (trim (List.replicate i 0 ++ [tt])) (trim q))).length ≤ 100000000 := nf_len nf_trim fun n hn => by
      rw [cM]
      split
      · rw [hb2 _ (by omega), Rat.mul_zero]
      · rfl
    have cS : ∀ j, co rs j - co (trim (mulL (trim (List.replicate i 0 ++ [tt])) (trim q))) j = stepF (co q) d i (co rs) j := fun j => by
      rw [cM]
      unfold stepF
      rw [← htt]
      split
      · rfl
      · grind
    refine rpSub_call (hR.le hl39) hr13 (by omega) lM (by omega) (by omega) (C := C) (fun j => by rw [cS, ← hnew]; exact hC _ _ (by omega)) (by omega) fun r14 h10 hr14 => ?_
    have hl310 := Hp.le_trans hl39 hr14.hle
    have cN : ∀ j, co (trim (addL rs (negL (trim (mulL (trim (List.replicate i 0 ++ [tt])) (trim q)))))) j = stepF (co q) d i (co rs) j := fun j => by
      rw [co_trim, co_addL, co_negL, ← cS]; grind
    have lN : (trim (addL rs (negL (trim (mulL (trim (List.replicate i 0 ++ [tt])) (trim q)))))).length ≤ i + d := nf_len nf_trim fun j hj => by
      rw [cN]
      unfold stepF
      rw [if_pos (by omega)]
      by_cases hj2 : j = i + d
      · subst hj2
        rw [Nat.add_sub_cancel_left, Rat.div_mul_cancel hb]; grind
      · rw [co_ge (by omega), hb2 (j - i) (by omega)]; grind
    refine ⟨⟨Hp.le_trans hl3 hl310, _, _, N - i, (hr12.pl.le (Hp.le_trans hl9 hr14.hle)), nf_trim, hr14.pl, nf_trim, by omega, fun j => by rw [cN, hnew], by omega, fun j hj => ?_, fun j => ?_, by omega, ?_⟩, ?_⟩
    · rw [co_trim, co_addL, cQ j (by omega), co_term, if_neg (by omega)]; grind
    · rw [cN, ← cS, cM]
      have e6 : conv (co (trim (addL qs (trim (List.replicate i 0 ++ [tt]))))) (co q) j = conv (co qs) (co q) j + (if i ≤ j then tt * co q (j - i) else 0) := by
        rw [← conv_term (g := co q), conv_comm, conv_comm (f := co qs), conv_comm (f := co (trim (List.replicate i 0 ++ [tt]))), ← conv_add]
        exact conv_congr (fun _ => rfl) fun n => by rw [co_trim, co_addL]
      rw [e6]
      have := cc j
      grind
    · refine nf_len nf_trim fun j hj => ?_
      rw [co_trim, co_addL, co_ge (by omega), co_term, if_neg (by omega)]; grind
    · have := hr14.len
      omega
  · simp only [lenR, len1] at h4
    refine hk _ _ (Hp.le_trans hr1.hle (Hp.le_trans hr2.hle hl3)) ⟨qs, rs, hQ, nQ, hR, nR, by omega, by omega, cc, fun j hj => co_ge (by omega), fun j => by rw [← hN, cR j]; exact (restK_skip (by omega) (Nat.le_refl N) (fun j hj => by rw [← cR, co_ge (by omega)]) j).symm⟩
theorem ppDivMod_callR (hp : PL h A l p) (hq : PL h B m q) (hlen : p.length ≤ 1000) (hlen2 : q.length ≤ 1000) (hB : 1 ≤ B ∧ B ≤ 50000000000)
    (hC : ∀ k j, trim q ≠ [] → k ≤ (trim p).length + 1 - (trim q).length → BR C (restK (co q) ((trim q).length - 1) ((trim p).length + 1 - (trim q).length) (co p) k j)) (hC2 : A ≤ C ∧ C ≤ 50000000000)
    (H0 : trim q = [] → ∀ h', h.le h' → KQ (nilS, nilS, 6) h')
    (H : trim q ≠ [] → ∀ y z h' qs rs, h.le h' → PL h' (C + B) y (trim qs) → PL h' C z (trim rs) → qs.length ≤ 1001 → rs.length ≤ 1000 → (∀ j, conv (co qs) (co q) j + co rs j = co p j) → (∀ j, (trim q).length - 1 ≤ j → co rs j = 0) → (∀ j, co rs j = restK (co q) ((trim q).length - 1) ((trim p).length + 1 - (trim q).length) (co p) ((trim p).length + 1 - (trim q).length) j) → KQ (y, z, 0) h') :
    callP (F.polynomial_DivMod l m) KQ h := by
  refine callP_of (fun r h' => (trim q = [] ∧ r = (nilS, nilS, 6)) ∨ (trim q ≠ [] ∧ r.2.2 = 0 ∧ ∃ qs rs, PL h' (C + B) r.1 (trim qs) ∧ PL h' C r.2.1 (trim rs) ∧ qs.length ≤ 1001 ∧ rs.length ≤ 1000 ∧ (∀ j, conv (co qs) (co q) j + co rs j = co p j) ∧ (∀ j, (trim q).length - 1 ≤ j → co rs j = 0) ∧ (∀ j, co rs j = restK (co q) ((trim q).length - 1) ((trim p).length + 1 - (trim q).length) (co p) ((trim p).length + 1 - (trim q).length) j))) (fun K' hk => ?_)
    fun r h' hl hr => by
      rcases hr with ⟨g1, rfl⟩ | ⟨g1, g2, qs, rs, g3, g4, g5, g6, g7, g8, g9⟩
      · exact H0 g1 h' hl
      · obtain ⟨y, z, e⟩ := r
        simp only at g2
        subst g2
        exact H g1 y z h' qs rs hl g3 g4 g5 g6 g7 g8 g9
  unfold F.polynomial_DivMod
  refine pDegree_call hq (by omega) (by omega) fun h1 hl1 => ?_
  refine ifP_dec (fun h2 => ?_) (fun h2 => ?_)
  · exact hk _ _ hl1 (.inl ⟨List.eq_nil_of_length_eq_zero (by omega), rfl⟩)
  · have hq0 : trim q ≠ [] := fun hh => by rw [hh] at h2; exact h2 (by decide)
    exact pdivide_callR (hp.le hl1) (hq.le hl1) hlen hlen2 hB hq0 (fun k j hk => hC k j hq0 hk) hC2 fun y z h' qs rs hl g3 g4 g5 g6 g7 g8 g9 => hk _ _ (Hp.le_trans hl1 hl) (.inr ⟨hq0, rfl, qs, rs, g3, g4, g5, g6, g7, g8, g9⟩)
theorem ppDivMod_call (hp : PL h A l p) (hq : PL h B m q) (hlen : p.length ≤ 1000) (hlen2 : q.length ≤ 1000) (hB : 1 ≤ B ∧ B ≤ 50000000000)
    (hC : ∀ k j, trim q ≠ [] → k ≤ (trim p).length + 1 - (trim q).length → BR C (restK (co q) ((trim q).length - 1) ((trim p).length + 1 - (trim q).length) (co p) k j)) (hC2 : A ≤ C ∧ C ≤ 50000000000)
    (H0 : trim q = [] → ∀ h', h.le h' → KQ (nilS, nilS, 6) h')
    (H : trim q ≠ [] → ∀ y z h' qs rs, h.le h' → PL h' (C + B) y (trim qs) → PL h' C z (trim rs) → qs.length ≤ 1001 → rs.length ≤ 1000 → (∀ j, conv (co qs) (co q) j + co rs j = co p j) → (∀ j, (trim q).length - 1 ≤ j → co rs j = 0) → KQ (y, z, 0) h') :
    callP (F.polynomial_DivMod l m) KQ h :=
  ppDivMod_callR hp hq hlen hlen2 hB hC hC2 H0 fun a0 y z h' qs rs a1 a2 a3 a4 a5 a6 a7 _ => H a0 y z h' qs rs a1 a2 a3 a4 a5 a6 a7
end
end Den
end

section
set_option linter.unusedVariables false
namespace Den
open Go Iv Pq
def lead (p : List Rat) : Rat := co p ((trim p).length - 1)
/-- The multiple with the leading coefficient 1. -/
def monQ (p : List Rat) : List Rat := (trim p).map (((((1 : Int) : Rat)) / lead p) * ·)
theorem one_val : (((1 : Int) : Rat)) = 1 := rfl
theorem lead_ne {p : List Rat} (h : trim p ≠ []) : lead p ≠ 0 := by
  have := nf_top nf_trim h
  rw [co_trim] at this
  exact this
theorem nf_mapc {c : Rat} {p : List Rat} (hc : c ≠ 0) (hp : nf p) : nf (p.map (c * ·)) := by
  rcases hp with rfl | hp
  · exact .inl rfl
  · right
    rw [List.length_map, co_mapc]
    intro hh
    rcases Rat.mul_eq_zero.1 hh with h | h
    · exact hc h
    · exact hp h
theorem inv_ne {a : Rat} (h : a ≠ 0) : (((1 : Int) : Rat)) / a ≠ 0 := fun hh => by
  have e : (((1 : Int) : Rat)) = (((1 : Int) : Rat)) / a * a := (Rat.div_mul_cancel h).symm
  rw [hh, Rat.zero_mul, one_val] at e
  exact absurd e (by decide)
theorem nf_monQ {p : List Rat} : nf (monQ p) := by
  by_cases h : trim p = []
  · unfold monQ; rw [h]; exact .inl rfl
  · exact nf_mapc (inv_ne (lead_ne h)) nf_trim
theorem monQ_len {p : List Rat} : (monQ p).length = (trim p).length := by unfold monQ; simp
theorem co_monQ {p : List Rat} {i : Nat} : co (monQ p) i = (((1 : Int) : Rat)) / lead p * co p i := by unfold monQ; rw [co_mapc, co_trim]
theorem BR_int {n : Nat} (h : n < 4294967296) : BR 1 (((n : Int) : Rat)) := by
  refine ⟨?_, ?_⟩
  · unfold Lt
    show (n : Int).natAbs < W ^ 1
    rw [Int.natAbs_natCast, Nat.pow_one, W_eq]; exact h
  · unfold Lt
    show ((1 : Nat) : Int).natAbs < W ^ 1
    decide
section
variable {h : Hp} {A B C : Nat} {l m : Sl} {p q : List Rat} {K : Sl → Hp → Prop} {KR : TRat → Hp → Prop} {x y : TRat} {u v : Rat}

theorem pMonic_call (hp : PL h A l p) (hlen : p.length ≤ 100000000) (hA : A ≤ 100000000000) (H : ∀ y h', h.le h' → PL h' (A + (1 + A)) y (monQ p) → K y h') : callP (F.polynomial_monic l) K h := by
  refine callP_of (fun y h' => PL h' (A + (1 + A)) y (monQ p)) (fun K' hk => ?_) fun y h' hl hy => H y h' hl hy
  unfold F.polynomial_monic
  have tp := trim_len (p := p)
  refine pTrim_call hp (by omega) (by omega) fun r1 h1 hr1 => ?_
  have len1 := hr1.len
  have hpl := hr1.pl
  refine ifP_eq (fun h2 => ?_) (fun h2 => ?_)
  · have h0 : trim p = [] := List.eq_nil_of_length_eq_zero (by omega)
    refine hk _ _ hr1.hle ?_
    unfold monQ
    rw [h0]; exact PL.nil
  · have h0 : trim p ≠ [] := fun hh => by rw [hh] at len1; exact h2 (by rw [len1]; rfl)
    have hpos : 0 < (trim p).length := List.length_pos_iff.2 h0
    have e : IntKind.i64.wrap ((r1.len : Int) - 1) = (((trim p).length - 1 : Nat) : Int) := by rw [len1, w64 (by omega)]; omega
    refine hpl.get _ e (by omega) fun y hy by_ => ?_
    have ey : (trim p)[(trim p).length - 1]'(by omega) = lead p := by rw [← co_lt (show (trim p).length - 1 < (trim p).length by omega), co_trim]; rfl
    rw [ey] at hy by_
    refine qFromInt_call (by decide) (by decide) fun o h3 hl3 ho => ?_
    refine qDiv_call ho (hy.le hl3) BR_one by_ (by omega) (by omega) (NR.num_ne (y := y) (lead_ne h0)) fun z h4 hl4 hz => ?_
    refine pScale_call ((hpl.le hl3).le hl4) hz (BR_one.div by_ (NR.num_ne (y := y) (lead_ne h0))) (by omega) (by omega) (by omega) fun w h5 hw => ?_
    rw [trim_nf (nf_mapc (inv_ne (lead_ne h0)) nf_trim)] at hw
    exact hk _ _ (Hp.le_trans hr1.hle (Hp.le_trans hl3 (Hp.le_trans hl4 hw.hle))) hw.pl
theorem rMonic_call (hp : PL h A l p) (hlen : p.length ≤ 100000000) (hA : A ≤ 100000000000) (H : ∀ y h', h.le h' → PL h' (A + (1 + A)) y (monQ p) → K y h') : callP (F.ref04_Monic l) K h := by
  refine callP_of (fun y h' => PL h' (A + (1 + A)) y (monQ p)) (fun K' hk => ?_) fun y h' hl hy => H y h' hl hy
  unfold F.ref04_Monic
  have tp := trim_len (p := p)
  refine rTrim_call hp (by omega) (by omega) fun r1 h1 hr1 => ?_
  have len1 := hr1.len
  have hpl := hr1.pl
  refine ifP_eq (fun h2 => ?_) (fun h2 => ?_)
  · have h0 : trim p = [] := List.eq_nil_of_length_eq_zero (by omega)
    refine hk _ _ hr1.hle ?_
    have e : monQ p = trim p := by unfold monQ; rw [h0]; rfl
    rw [e]
    exact hpl.mono (by omega)
  · have h0 : trim p ≠ [] := fun hh => by rw [hh] at len1; exact h2 (by rw [len1]; rfl)
    have hpos : 0 < (trim p).length := List.length_pos_iff.2 h0
    have e : IntKind.i64.wrap ((r1.len : Int) - 1) = (((trim p).length - 1 : Nat) : Int) := by rw [len1, w64 (by omega)]; omega
    refine hpl.get _ e (by omega) fun y hy by_ => ?_
    have ey : (trim p)[(trim p).length - 1]'(by omega) = lead p := by rw [← co_lt (show (trim p).length - 1 < (trim p).length by omega), co_trim]; rfl
    rw [ey] at hy by_
    refine rqFromInt_call (by decide) (by decide) fun o h3 hl3 ho => ?_
    refine rQuot_call ho (hy.le hl3) BR_one by_ (by omega) (by omega) (lead_ne h0) fun z h4 hl4 hz => ?_
    refine rScale_call ((hpl.le hl3).le hl4) hz (BR_one.div by_ (NR.num_ne (y := y) (lead_ne h0))) (by omega) (by omega) (by omega) fun w h5 hw => ?_
    rw [trim_nf (nf_mapc (inv_ne (lead_ne h0)) nf_trim)] at hw
    exact hk _ _ (Hp.le_trans hr1.hle (Hp.le_trans hl3 (Hp.le_trans hl4 hw.hle))) hw.pl

def derP (p : List Rat) (n : Nat) : List Rat := (List.range n).map fun i => co p (i + 1) * (((i + 1 : Nat) : Int) : Rat)
def derL (p : List Rat) : List Rat := derP p (p.length - 1)
theorem co_derL {i : Nat} : co (derL p) i = der (co p) i := by
  unfold derL derP der
  rw [co_range]
  split
  · rw [Rat.mul_comm]; rfl
  · rw [co_ge (by omega), Rat.mul_zero]
theorem derP_succ {n : Nat} (hn : n + 1 < p.length) : derP p (n + 1) = derP p n ++ [p[n + 1] * (((n + 1 : Nat) : Int) : Rat)] := by
  unfold derP
  rw [List.range_succ, List.map_append]
  simp only [List.map_cons, List.map_nil]
  rw [co_lt hn]
theorem pDerivative_call (hp : PL h A l p) (hlen : p.length ≤ 100000000) (hA : A ≤ 100000000000) (H : ∀ y h', OL h h' (A + 1) y (trim (derL p)) → K y h') : callP (F.polynomial_Derivative l) K h := by
  refine callP_of (fun y h' => OL h h' (A + 1) y (trim (derL p))) (fun K' hk => ?_) fun y h' _ hy => H y h' hy
  unfold F.polynomial_Derivative
  have hl := hp.len
  refine loopP_of (fun st h' => ∃ D, h.le D ∧ ∃ i : Nat, st.2.1 = (i : Int) ∧ i ≤ p.length ∧ OD D h' (A + 1) st.1 (derP p (i - 1))) (fun st => (p.length - st.2.1).toNat)
    ⟨h, Hp.le_refl _, 0, rfl, Nat.zero_le _, OD.nil⟩ ?_
  rintro ⟨s, _, _⟩ h1 ⟨D, hD, i, hi, hi2, ho⟩
  simp only at hi ho
  subst hi
  refine ifP_dec (fun h3 => ?_) (fun h3 => ?_)
  · have hi' : i < p.length := by simp only at h3; omega
    refine joinP_inv (fun s' h' => ∃ D, h.le D ∧ OD D h' (A + 1) s'.1 (derP p i)) ?_ ?_
    · rintro ⟨s', _⟩ h4 ⟨D', hD', ho'⟩
      refine ⟨⟨D', hD', i + 1, ?_, hi', ho'⟩, ?_⟩
      · simp only; rw [w64 (by omega)]; rfl
      · simp only; rw [w64 (by omega)]; omega
    · refine hp.getle i (Hp.le_trans hD ho.dle) rfl hi' fun y hy by_ => ?_
      refine ifP_dec (fun h4 => ?_) (fun h4 => ?_)
      · simp only at h4
        obtain ⟨j, rfl⟩ : ∃ j, i = j + 1 := ⟨i - 1, by omega⟩
        refine ho.call (K1 := fun z D' => NR D' z ((((j + 1 : Nat) : Int)) : Rat)) (qFromInt_call (by simp only; omega) (by simp only; omega) fun z D' _ hz => hz) fun z D1 h5 hl1 ho1 hz => ?_
        refine ho1.call (K1 := fun z D' => NR D' z (p[j + 1] * ((((j + 1 : Nat) : Int)) : Rat))) (qMul_call ((hy.le hD).le hl1) hz by_ (BR_int (by omega)) (by omega) (by omega) fun z D' _ hz => hz) fun z2 D2 h6 hl2 ho2 hz2 => ?_
        refine ho2.app (by unfold derP; simp; omega) hz2 (by_.mul (BR_int (by omega))) fun w h7 hw => ⟨D2, Hp.le_trans hD (Hp.le_trans hl1 hl2), ?_⟩
        rw [derP_succ hi']
        exact hw
      · simp only at h4
        have : i = 0 := by omega
        subst this
        exact ⟨D, hD, ho⟩
  · have hi' : i = p.length := by simp only at h3; omega
    subst hi'
    refine pTrim_call ho.pl (by unfold derP; simp; omega) (by omega) fun y h' hy => hk _ _ (Hp.le_trans hD (Hp.le_trans ho.dle hy.hle)) (hy.base (Hp.le_trans hD ho.dle))
theorem rDerivative_call (hp : PL h A l p) (hlen : p.length ≤ 100000000) (hA : A ≤ 100000000000) (H : ∀ y h', OL h h' (A + 1) y (trim (derL p)) → K y h') : callP (F.ref04_Derivative l) K h := by
  refine callP_of (fun y h' => OL h h' (A + 1) y (trim (derL p))) (fun K' hk => ?_) fun y h' _ hy => H y h' hy
  unfold F.ref04_Derivative
  have hl := hp.len
  refine loopP_of (fun st h' => ∃ D, h.le D ∧ ∃ i : Nat, st.2.1 = ((i + 1 : Nat) : Int) ∧ i ≤ p.length - 1 ∧ OD D h' (A + 1) st.1 (derP p i)) (fun st => (p.length - st.2.1).toNat)
    ⟨h, Hp.le_refl _, 0, rfl, Nat.zero_le _, OD.nil⟩ ?_
  rintro ⟨s, _, _⟩ h1 ⟨D, hD, i, hi, hi2, ho⟩
  simp only at hi ho
  subst hi
  refine ifP_dec (fun h3 => ?_) (fun h3 => ?_)
  · have hi' : i + 1 < p.length := by simp only at h3; omega
    refine hp.getle (i + 1) (Hp.le_trans hD ho.dle) rfl hi' fun y hy by_ => ?_
    refine ho.call (K1 := fun z D' => NR D' z ((((i + 1 : Nat) : Int)) : Rat)) (rqFromInt_call (by simp only; omega) (by simp only; omega) fun z D' _ hz => hz) fun z D1 h5 hl1 ho1 hz => ?_
    refine ho1.call (K1 := fun z D' => NR D' z (p[i + 1] * ((((i + 1 : Nat) : Int)) : Rat))) (rqMul_call ((hy.le hD).le hl1) hz by_ (BR_int (by omega)) (by omega) (by omega) fun z D' _ hz => hz) fun z2 D2 h6 hl2 ho2 hz2 => ?_
    refine ho2.app (by unfold derP; simp; omega) hz2 (by_.mul (BR_int (by omega))) fun w h7 hw => ⟨⟨D2, Hp.le_trans hD (Hp.le_trans hl1 hl2), i + 1, ?_, by omega, ?_⟩, ?_⟩
    · simp only; rw [w64 (by omega)]; rfl
    · rw [derP_succ hi']; exact hw
    · simp only; rw [w64 (by omega)]; omega
  · have hi' : i = p.length - 1 := by simp only at h3; omega
    subst hi'
    refine rTrim_call ho.pl (by unfold derP; simp; omega) (by omega) fun y h' hy => hk _ _ (Hp.le_trans hD (Hp.le_trans ho.dle hy.hle)) (hy.base (Hp.le_trans hD ho.dle))

def absQ (x : Rat) : Rat := if x < 0 then -x else x
def mxS (m x : Rat) : Rat := if m < absQ x then absQ x else m
def bndQ (p : List Rat) : Rat := if (monQ p).length < 2 then (((0 : Int) : Rat)) else ((monQ p).take ((monQ p).length - 1)).foldl mxS (((0 : Int) : Rat)) + (((1 : Int) : Rat))
theorem abs_BR (hv : BR B v) : BR B (absQ v) := by
  unfold absQ; split
  · exact hv.neg
  · exact hv
theorem mx_BR (hu : BR B u) (hv : BR B v) : BR B (mxS u v) := by
  unfold mxS; split
  · exact abs_BR hv
  · exact hu
theorem take_foldl2 {f : Rat → Rat → Rat} {q : Rat} {l : List Rat} {i : Nat} (hi : i < l.length) : (l.take (i + 1)).foldl f q = f ((l.take i).foldl f q) l[i] := take_foldl hi
theorem sign_neg {v : Rat} : v.num.sign < 0 ↔ v < 0 := by
  rw [Int.sign_neg_iff]; exact num_lt
theorem pBound_call (hp : PL h A l p) (hlen : p.length ≤ 100000000) (hA : A ≤ 50000000000) (H : ∀ z h', h.le h' → NR h' z (bndQ p) → KR z h') : callP (F.polynomial_Bound l) KR h := by
  refine callP_of (fun z h' => NR h' z (bndQ p)) (fun K' hk => ?_) fun z h' hl hz => H z h' hl hz
  unfold F.polynomial_Bound
  refine pMonic_call hp hlen (by omega) fun r1 h1 hl1 hr1 => ?_
  obtain ⟨M, hM⟩ : ∃ M, M = monQ p := ⟨_, rfl⟩
  have hb : bndQ p = if M.length < 2 then (((0 : Int) : Rat)) else (M.take (M.length - 1)).foldl mxS (((0 : Int) : Rat)) + (((1 : Int) : Rat)) := by rw [hM]; rfl
  rw [hb] at hk
  rw [← hM] at hr1
  have len1 := hr1.len
  have hcap := hr1.cap
  have lM : M.length ≤ 100000000 := by rw [hM, monQ_len]; exact Nat.le_trans trim_len hlen
  refine ifP_dec (fun h2 => ?_) (fun h2 => ?_)
  · refine qFromInt_call (by decide) (by decide) fun z h3 hl3 hz => hk _ _ (Hp.le_trans hl1 hl3) ?_
    rw [if_pos (by omega)]; exact hz
  · rw [if_neg (by omega)] at hk
    refine qFromInt_call (by decide) (by decide) fun z h3 hl3 hz => ?_
    have e : IntKind.i64.wrap ((r1.len : Int) - 1) = ((M.length - 1 : Nat) : Int) := by rw [len1, w64 (by omega)]; omega
    refine slQ_of 0 (M.length - 1) rfl e (Nat.zero_le _) (by omega) ?_
    have hcut := (hr1.le hl3).cut (n := M.length - 1) (by omega)
    have lc : (r1.cut 0 (M.length - 1) 4).len = M.length - 1 := rfl
    obtain ⟨T, hT⟩ : ∃ T, T = M.take (M.length - 1) := ⟨_, rfl⟩
    rw [← hT] at hcut hk
    have lT : T.length = M.length - 1 := by rw [hT, List.length_take]; omega
    have bT := hcut.bound
    have b0 : BR (A + (1 + A)) (((0 : Int) : Rat)) := BR_zero.mono (by omega)
    have bF : ∀ i, BR (A + (1 + A)) ((T.take i).foldl mxS (((0 : Int) : Rat))) := fun i => by
      have key : ∀ (L : List Rat) (m : Rat), BR (A + (1 + A)) m → (∀ v ∈ L, BR (A + (1 + A)) v) → BR (A + (1 + A)) (L.foldl mxS m) := by
        intro L
        induction L with
        | nil => intro m hm _; exact hm
        | cons a L ih => intro m hm hL; exact ih _ (mx_BR hm (hL a (by simp))) fun v hv => hL v (by simp [hv])
      exact key _ _ b0 fun v hv => bT v (List.mem_of_mem_take hv)
    refine loopP_of (fun st h' => h3.le h' ∧ ∃ i : Nat, st.2.1 = (i : Int) ∧ i ≤ T.length ∧ NR h' (q4 st.1) ((T.take i).foldl mxS (((0 : Int) : Rat)))) (fun st => (T.length - st.2.1).toNat)
      ⟨Hp.le_refl _, 0, rfl, Nat.zero_le _, hz⟩ ?_
    rintro ⟨s, _, _⟩ h4 ⟨hl4, i, hi, hi2, hs⟩
    simp only at hi hs
    subst hi
    refine ifP_dec (fun h5 => ?_) (fun h5 => ?_)
    · have hi' : i < T.length := by simp only [lc] at h5; omega
      refine joinP_inv (fun s' h' => h4.le h' ∧ NR h' (q4 s'.1) ((T.take (i + 1)).foldl mxS (((0 : Int) : Rat)))) ?_ ?_
      · rintro ⟨s', _⟩ h6 ⟨hl6, hs'⟩
        refine ⟨⟨Hp.le_trans hl4 hl6, i + 1, ?_, hi', hs'⟩, ?_⟩
        · simp only; rw [w64 (by omega)]; rfl
        · simp only; rw [w64 (by omega)]; omega
      · refine (hcut.le hl4).get i rfl hi' fun y hy by_ => ?_
        refine joinP_inv (fun s' h' => h4.le h' ∧ NR h' (q4 s'.1) (absQ T[i])) ?_ ?_
        · rintro ⟨⟨s1, s2, s3, s4, _⟩, _⟩ h6 ⟨hl6, hs'⟩
          refine qCmp_call hs' (hs.le hl6) (abs_BR by_) (bF i) (by omega) (by omega) fun h7 hl7 => ?_
          refine ifP_dec (fun h8 => ⟨Hp.le_trans hl6 hl7, ?_⟩) (fun h8 => ⟨Hp.le_trans hl6 hl7, ?_⟩)
          · rw [take_foldl2 hi', mxS, if_pos (cmpQ_gt.1 h8)]; exact hs'.le hl7
          · rw [take_foldl2 hi', mxS, if_neg (fun hh => h8 (cmpQ_gt.2 hh))]; exact (hs.le hl6).le hl7
        · refine qSign_call hy by_ (by omega) ?_
          refine ifP_dec (fun h6 => ?_) (fun h6 => ⟨Hp.le_refl _, ?_⟩)
          · refine qNeg_call hy by_ (by omega) fun w h7 hl7 hw => ⟨hl7, ?_⟩
            have : absQ T[i] = - T[i] := by unfold absQ; rw [if_pos (sign_neg.1 h6)]
            rw [this]; exact hw
          · have : absQ T[i] = T[i] := by unfold absQ; rw [if_neg (fun hh => h6 (sign_neg.2 hh))]
            rw [this]; exact hy
    · have hi' : i = T.length := by simp only [lc] at h5; omega
      subst hi'
      rw [List.take_length] at hs
      have bL := bF T.length
      rw [List.take_length] at bL
      refine qFromInt_call (by decide) (by decide) fun o h6 hl6 ho => ?_
      refine qAdd_call (hs.le hl6) ho bL BR_one (by omega) (by omega) fun w h7 hl7 hw => hk _ _ (Hp.le_trans hl1 (Hp.le_trans hl3 (Hp.le_trans hl4 (Hp.le_trans hl6 hl7)))) hw
theorem rAbs_call (hx : NR h x v) (bv : BR B v) (hB : B ≤ 1000000000000) (H : ∀ z h', h.le h' → NR h' z (absQ v) → KR z h') : callP (F.ref04_abs x) KR h := by
  refine callP_of (fun z h' => NR h' z (absQ v)) (fun K' hk => ?_) fun z h' hl hz => H z h' hl hz
  unfold F.ref04_abs
  refine rqSign_call hx bv hB ?_
  refine ifP_dec (fun h6 => ?_) (fun h6 => ?_)
  · refine rqNeg_call hx bv hB fun w hw => hk _ _ (Hp.le_refl _) ?_
    have : absQ v = - v := by unfold absQ; rw [if_pos (sign_neg.1 h6)]
    rw [this]; exact hw
  · refine hk _ _ (Hp.le_refl _) ?_
    have : absQ v = v := by unfold absQ; rw [if_neg (fun hh => h6 (sign_neg.2 hh))]
    rw [this]; exact hx
theorem rBound_call (hp : PL h A l p) (hlen : p.length ≤ 100000000) (hA : A ≤ 50000000000) (H : ∀ z h', h.le h' → NR h' z (bndQ p) → KR z h') : callP (F.ref04_Bound l) KR h := by
  refine callP_of (fun z h' => NR h' z (bndQ p)) (fun K' hk => ?_) fun z h' hl hz => H z h' hl hz
  unfold F.ref04_Bound
  refine rMonic_call hp hlen (by omega) fun r1 h1 hl1 hr1 => ?_
  obtain ⟨M, hM⟩ : ∃ M, M = monQ p := ⟨_, rfl⟩
  have hb : bndQ p = if M.length < 2 then (((0 : Int) : Rat)) else (M.take (M.length - 1)).foldl mxS (((0 : Int) : Rat)) + (((1 : Int) : Rat)) := by rw [hM]; rfl
  rw [hb] at hk
  rw [← hM] at hr1
  have len1 := hr1.len
  have lM : M.length ≤ 100000000 := by rw [hM, monQ_len]; exact Nat.le_trans trim_len hlen
  refine ifP_dec (fun h2 => ?_) (fun h2 => ?_)
  · refine rZero_call fun z h3 hl3 hz => hk _ _ (Hp.le_trans hl1 hl3) ?_
    rw [if_pos (by omega)]; exact hz
  · rw [if_neg (by omega)] at hk
    refine rZero_call fun z h3 hl3 hz => ?_
    have hpl := hr1.le hl3
    obtain ⟨T, hT⟩ : ∃ T, T = M.take (M.length - 1) := ⟨_, rfl⟩
    rw [← hT] at hk
    have lT : T.length = M.length - 1 := by rw [hT, List.length_take]; omega
    have bT : ∀ v ∈ T, BR (A + (1 + A)) v := fun v hv => by rw [hT] at hv; exact hpl.bound v (List.mem_of_mem_take hv)
    have b0 : BR (A + (1 + A)) (((0 : Int) : Rat)) := BR_zero.mono (by omega)
    have bF : ∀ i, BR (A + (1 + A)) ((T.take i).foldl mxS (((0 : Int) : Rat))) := fun i => by
      have key : ∀ (L : List Rat) (m : Rat), BR (A + (1 + A)) m → (∀ v ∈ L, BR (A + (1 + A)) v) → BR (A + (1 + A)) (L.foldl mxS m) := by
        intro L
        induction L with
        | nil => intro m hm _; exact hm
        | cons a L ih => intro m hm hL; exact ih _ (mx_BR hm (hL a (by simp))) fun v hv => hL v (by simp [hv])
      exact key _ _ b0 fun v hv => bT v (List.mem_of_mem_take hv)
    refine loopP_of (fun st h' => h3.le h' ∧ ∃ i : Nat, st.2.1 = (i : Int) ∧ i ≤ T.length ∧ NR h' (q4 st.1) ((T.take i).foldl mxS (((0 : Int) : Rat)))) (fun st => (T.length - st.2.1).toNat)
      ⟨Hp.le_refl _, 0, rfl, Nat.zero_le _, hz⟩ ?_
    rintro ⟨s, _, _⟩ h4 ⟨hl4, i, hi, hi2, hs⟩
    simp only at hi hs
    subst hi
    have e1 : IntKind.i64.wrap ((i : Int) + 1) = ((i + 1 : Nat) : Int) := by rw [w64 (by omega)]; rfl
    refine ifP_dec (fun h5 => ?_) (fun h5 => ?_)
    · have hi' : i < T.length := by simp only [e1] at h5; omega
      have hiM : i < M.length := by omega
      have eT : M[i] = T[i] := by simp only [hT, List.getElem_take]
      refine joinP_inv (fun s' h' => h4.le h' ∧ NR h' (q4 s'.1) ((T.take (i + 1)).foldl mxS (((0 : Int) : Rat)))) ?_ ?_
      · rintro ⟨s', _⟩ h6 ⟨hl6, hs'⟩
        refine ⟨⟨Hp.le_trans hl4 hl6, i + 1, e1, hi', hs'⟩, ?_⟩
        simp only; rw [e1]; omega
      · refine (hpl.le hl4).get i rfl hiM fun y hy by_ => ?_
        rw [eT] at hy by_
        refine rAbs_call hy by_ (by omega) fun w h6 hl6 hw => ?_
        refine rqCmp_call hw (hs.le hl6) (abs_BR by_) (bF i) (by omega) (by omega) fun h7 hl7 => ?_
        have hl67 := Hp.le_trans hl6 hl7
        refine ifP_dec (fun h8 => ?_) (fun h8 => ⟨hl67, ?_⟩)
        · refine (hpl.le (Hp.le_trans hl4 hl67)).get i rfl hiM fun y2 hy2 by2 => ?_
          rw [eT] at hy2 by2
          refine rAbs_call hy2 by2 (by omega) fun w2 h9 hl9 hw2 => ⟨Hp.le_trans hl67 hl9, ?_⟩
          rw [take_foldl2 hi', mxS, if_pos (cmpQ_gt.1 h8)]; exact hw2
        · rw [take_foldl2 hi', mxS, if_neg (fun hh => h8 (cmpQ_gt.2 hh))]; exact (hs.le hl6).le hl7
    · have hi' : i = T.length := by simp only [e1] at h5; omega
      subst hi'
      rw [List.take_length] at hs
      have bL := bF T.length
      rw [List.take_length] at bL
      refine rqFromInt_call (by decide) (by decide) fun o h6 hl6 ho => ?_
      refine rqAdd_call (hs.le hl6) ho bL BR_one (by omega) (by omega) fun w h7 hl7 hw => hk _ _ (Hp.le_trans hl1 (Hp.le_trans hl3 (Hp.le_trans hl4 (Hp.le_trans hl6 hl7)))) hw
end
end Den
end

section
set_option linter.unusedVariables false
namespace Den
open Go Iv Pq
/-- l is any value of the type. -/
def AQ (h : Hp) (l : Sl) : Prop := ∃ xs, RdQ h l xs ∧ (∀ x ∈ xs, AR h x) ∧ l.len ≤ l.cap
theorem AQ.le {h h' : Hp} {l : Sl} (ha : AQ h l) (hl : h.le h') : AQ h' l := by
  obtain ⟨xs, h1, h2, h3⟩ := ha
  exact ⟨xs, h1.le hl, fun x hx => (h2 x hx).le hl, h3⟩
section
variable {h : Hp} {A B : Nat} {l m : Sl} {p q : List Rat} {K : Sl → Hp → Prop} {Kb : Bool → Hp → Prop} {x : TRat}
/-- The cell of a slice. -/
def slc (s : Sl) : Value := .slice s.a s.len s.cap
end
end Den
end

section
set_option linter.unusedVariables false
namespace Den
open Go Iv Go.Proofs
open Go.ChangeShapes Go.WideShapes Go.ChangeAt Go.RowKit
section
variable {H : Type} {enc : TypeId × Value → H} {w : World} {s : Sl}
theorem by_R : Tryz.prog.bytesOf 39 = 64 := by kernel_rfl
end
end Den
end

section
set_option linter.unusedVariables false
namespace Den
open Go Iv Pq
/-- The cells of an integer. -/
def nc (x : TInt) : List Value := [.bool x.neg, .slice x.mag.a x.mag.len x.mag.cap]
theorem nc_len (x : TInt) : (nc x).length = 2 := rfl
def NL (h : Hp) (B : Nat) (xs : List TInt) (us : List Int) : Prop := xs.length = us.length ∧ ∀ k (h1 : k < xs.length) (h2 : k < us.length), NI h xs[k] us[k] ∧ Lt B us[k]
theorem NL.le {h h' : Hp} {B : Nat} {xs : List TInt} {us : List Int} (hq : NL h B xs us) (hl : h.le h') : NL h' B xs us := ⟨hq.1, fun k h1 h2 => ⟨(hq.2 k h1 h2).1.le hl, (hq.2 k h1 h2).2⟩⟩
theorem NL.snoc {h : Hp} {B : Nat} {xs : List TInt} {us : List Int} {x : TInt} {v : Int} (hq : NL h B xs us) (h1 : NI h x v) (h2 : Lt B v) : NL h B (xs ++ [x]) (us ++ [v]) := by
  refine ⟨by simp [hq.1], fun k k1 k2 => ?_⟩
  have hl := hq.1
  rcases Nat.lt_or_ge k xs.length with h3 | h3
  · rw [List.getElem_append_left h3, List.getElem_append_left (by omega)]
    exact hq.2 k h3 (by omega)
  · have h4 : k = xs.length := by simp at k1; omega
    subst h4
    rw [List.getElem_append_right (Nat.le_refl _), List.getElem_append_right (by omega)]
    simp only [Nat.sub_self, List.getElem_cons_zero]
    have : xs.length - us.length = 0 := by omega
    simp only [this, List.getElem_cons_zero]
    exact ⟨h1, h2⟩
/-- l holds the integers us. -/
def IL (h : Hp) (B : Nat) (l : Sl) (us : List Int) : Prop := ∃ xs, Rd h 2 l (xs.flatMap nc) ∧ NL h B xs us
def OI (D h : Hp) (B : Nat) (l : Sl) (us : List Int) : Prop := ∃ xs, Own D h 2 l (xs.flatMap nc) ∧ NL D B xs us
theorem rd_int {h : Hp} {l : Sl} {xs : List TInt} {i : Int} {K : Bool → Sl → Prop} (k : Nat) (hr : Rd h 2 l (xs.flatMap nc)) (hi : i = k) (hk : k < xs.length) (H : K xs[k].neg xs[k].mag) :
    idxP l i 2 fun a => ldL .bool (a.add 0) (fun x0 => ldL .sl (a.add 1) (fun x1 => K x0 x1) h) h := by
  have hl : l.len = xs.length := by have := hr.1; rw [flat_len nc_len] at this; omega
  refine idxP_of k hr hi (by omega) (by decide) fun a ha => ?_
  have g : ∀ j v, j < 2 → (nc xs[k])[j]? = some v → h.cell (a.add j) = some v := fun j v hj hv => ha j v (by rw [flat_get nc_len hk hj]; exact hv)
  exact ⟨_, g 0 _ (by decide) rfl, _, g 1 _ (by decide) rfl, H⟩
section
variable {D h h' : Hp} {A B : Nat} {l m : Sl} {us vs : List Int} {K : Sl → Hp → Prop}
theorem IL.le (hp : IL h B l us) (hl : h.le h') : IL h' B l us := by obtain ⟨xs, h1, h2⟩ := hp; exact ⟨xs, h1.le hl, h2.le hl⟩
theorem IL.len (hp : IL h B l us) : l.len = us.length := by
  obtain ⟨xs, h1, h2⟩ := hp
  have := h1.1
  rw [flat_len nc_len, h2.1] at this; omega
theorem IL.get {i : Int} {K : Bool → Sl → Prop} (k : Nat) (hp : IL h B l us) (hi : i = k) (hk : k < us.length) (H : ∀ x : TInt, NI h x us[k] → Lt B us[k] → K x.neg x.mag) :
    idxP l i 2 fun a => ldL .bool (a.add 0) (fun x0 => ldL .sl (a.add 1) (fun x1 => K x0 x1) h) h := by
  obtain ⟨xs, h1, h2⟩ := hp
  have hk' : k < xs.length := by rw [h2.1]; exact hk
  have := h2.2 k hk' hk
  exact rd_int k h1 hi hk' (H _ this.1 this.2)
theorem OI.il (ho : OI D h B l us) : IL h B l us := by obtain ⟨xs, h1, h2⟩ := ho; exact ⟨xs, h1.rd, h2.le h1.1⟩
theorem OI.dle (ho : OI D h B l us) : D.le h := by obtain ⟨xs, h1, h2⟩ := ho; exact h1.1
theorem OI.len (ho : OI D h B l us) : l.len = us.length := ho.il.len
theorem OI.nil : OI h h B nilS [] := ⟨[], Own.nil (Hp.le_refl _), ⟨rfl, fun k h1 _ => by simp at h1⟩⟩
theorem OI.get {i : Int} {K : Bool → Sl → Prop} (k : Nat) (hp : OI D h B l us) (hi : i = k) (hk : k < us.length) (H : ∀ x : TInt, NI D x us[k] → Lt B us[k] → K x.neg x.mag) :
    idxP l i 2 fun a => ldL .bool (a.add 0) (fun x0 => ldL .sl (a.add 1) (fun x1 => K x0 x1) h) h := by
  obtain ⟨xs, h1, h2⟩ := hp
  have hk' : k < xs.length := by rw [h2.1]; exact hk
  have := h2.2 k hk' hk
  exact rd_int k h1.rd hi hk' (H _ this.1 this.2)
theorem OI.call {α : Type} {G : (α → Hp → Prop) → Hp → Prop} {K1 K : α → Hp → Prop} (hp : OI D h B l us) (H : callP G K1 D)
    (k : ∀ v D' h', D.le D' → OI D' h' B l us → K1 v D' → K v h') : callP G K h := by
  obtain ⟨xs, h1, h2⟩ := hp
  exact h1.call H fun v D' h' g1 g2 g3 => k v D' h' g1 ⟨_, g2, h2.le g1⟩ g3
theorem OI.app {Ks : Sl → Hp → Prop} {x : TInt} {v : Int} (hp : OI D h B l us) (hlen : us.length ≤ 1000000000000) (hx : NI D x v) (bx : Lt B v) (H : ∀ y h', OI D h' B y (us ++ [v]) → Ks y h') :
    appP 2 32 [.bool false, .slice nilS.a nilS.len nilS.cap] l 1 [.bool x.neg, .slice x.mag.a x.mag.len x.mag.cap] Ks h := by
  have hl := hp.len
  obtain ⟨xs, h1, h2⟩ := hp
  refine app_own h1 (n := 1) (new := nc x) rfl rfl rfl (by omega) (by omega) fun y h' hy hyl => H y h' ⟨xs ++ [x], ?_, h2.snoc hx bx⟩
  rw [List.flatMap_append]
  simp only [List.flatMap_cons, List.flatMap_nil, List.append_nil]
  exact hy
end

abbrev t2 (s : Bool × Sl × Unit) : TInt := ⟨s.1, s.2.1⟩
end Den
end

section
set_option linter.unusedVariables false
namespace Den
open Go Iv Pq
theorem mon_last {p : List Rat} (h : trim p ≠ []) : ∃ hn : (monQ p).length - 1 < (monQ p).length, (monQ p)[(monQ p).length - 1] = 1 := by
  have hpos : 0 < (trim p).length := List.length_pos_iff.2 h
  have hl := monQ_len (p := p)
  refine ⟨by omega, ?_⟩
  rw [← co_lt (show (monQ p).length - 1 < (monQ p).length by omega), co_monQ, hl]
  show (((1 : Int) : Rat)) / lead p * lead p = 1
  rw [Rat.div_mul_cancel (lead_ne h)]; rfl
section
variable {h : Hp} {A : Nat} {l : Sl} {p : List Rat} {K : Sl → Hp → Prop}

end
end Den
end

section
set_option linter.unusedVariables false
namespace Den
open Go Iv Pq
section
variable {h h0 : Hp} {A B : Nat} {l m : Sl} {p : List Rat} {K : Sl → Hp → Prop} {Kb : Bool → Hp → Prop} {us vs : List Int}
end
end Den
end

section
set_option linter.unusedVariables false
namespace Den
open Go Iv Pq
section
variable {h h0 : Hp} {A B C : Nat} {l m : Sl} {p q : List Rat} {K : Sl → Hp → Prop} {Kb : Bool → Hp → Prop} {f g : Nat → Rat}
theorem PL.re (hp : PL h B l p) (hb : ∀ v ∈ p, BR C v) : PL h C l p := by
  obtain ⟨xs, h1, h2, h3⟩ := hp
  exact ⟨xs, h1, ⟨h2.1, fun k g1 g2 => ⟨(h2.2 k g1 g2).1, hb _ (List.getElem_mem g2)⟩⟩, h3⟩
/-- The size of what is left after k steps of a division. -/
def gB (A B : Nat) : Nat → Nat
  | 0 => A
  | k + 1 => 2 * gB A B k + 2 * B + 1
theorem gB_succ {A B k : Nat} : gB A B (k + 1) = 2 * gB A B k + 2 * B + 1 := rfl
theorem gB_mono {A B : Nat} : ∀ {k j : Nat}, k ≤ j → gB A B k ≤ gB A B j
  | k, 0, h => by have : k = 0 := by omega
                  subst this; exact Nat.le_refl _
  | k, j + 1, h => by
    by_cases hk : k = j + 1
    · subst hk; exact Nat.le_refl _
    · have := gB_mono (A := A) (B := B) (k := k) (j := j) (by omega)
      rw [gB_succ]; omega
theorem restK_BR {b : Nat → Rat} {d N : Nat} (hf : ∀ j, BR A (f j)) (hb : ∀ j, BR B (b j)) (h0 : b d ≠ 0) : ∀ {k j : Nat}, BR (gB A B k) (restK b d N f k j)
  | 0, j => hf j
  | k + 1, j => by
    have ih := fun j => restK_BR (N := N) hf hb h0 (k := k) (j := j)
    show BR (gB A B (k + 1)) (stepF b d (N - 1 - k) (restK b d N f k) j)
    rw [gB_succ]
    unfold stepF
    split
    · have h1 := ((ih (N - 1 - k + d)).div (hb d) (NR.num_ne (y := zT) h0)).mul (hb (j - (N - 1 - k)))
      exact ((ih j).sub h1).mono (by omega)
    · exact (ih j).mono (by omega)
/-- A known quotient. -/
theorem known_div {q' r' qs rs : List Rat} (hq0 : trim q ≠ []) (hc : ∀ j, conv (co qs) (co q) j + co rs j = co p j) (hz : ∀ j, (trim q).length - 1 ≤ j → co rs j = 0) (hlen : qs.length ≤ 1001) (hlen2 : q'.length ≤ 1001)
    (hk : trim (addL (mulL q' q) r') = trim p) (hr : r'.length ≤ (trim q).length - 1) : trim qs = trim q' ∧ trim rs = trim r' := by
  have hb : co q ((trim q).length - 1) ≠ 0 := lead_ne hq0
  have hpos : 0 < (trim q).length := List.length_pos_iff.2 hq0
  have := div_unique (q := co qs) (q' := co q') (b := co q) (r := co rs) (r' := co r') (d := (trim q).length - 1) (n := 1001) hb (fun i hi => by rw [← co_trim, co_ge (by omega)]) (fun i hi => co_ge (by omega)) (fun i hi => co_ge (by omega)) hz (fun i hi => co_ge (by omega)) fun i => by
    rw [hc]
    have e : co (trim (addL (mulL q' q) r')) i = co (trim p) i := by rw [hk]
    rw [co_trim, co_trim, co_addL, co_mulL] at e
    exact e.symm
  exact ⟨trim_eq this.1, trim_eq this.2⟩
end
end Den
end

section
set_option linter.unusedVariables false
namespace Den
open Go Iv Pq
section
variable {h h0 : Hp} {A B C : Nat} {l m : Sl} {p q : List Rat} {K : Sl → Hp → Prop} {Kb : Bool → Hp → Prop} {us : List Int}
theorem br1 {p : List Rat} (h : (p.all fun v => decide (v.num.natAbs < 4294967296 ∧ v.den < 4294967296)) = true) : ∀ v ∈ p, BR 1 v := fun v hv => by
  have := of_decide_eq_true (List.all_eq_true.1 h v hv)
  refine ⟨?_, ?_⟩
  · unfold Lt; rw [Nat.pow_one, W_eq]; exact this.1
  · unfold Lt; rw [Nat.pow_one, W_eq, Int.natAbs_natCast]; exact this.2
theorem PL.re1 (hp : PL h B l p) (hq : p = q) (hb : (q.all fun v => decide (v.num.natAbs < 4294967296 ∧ v.den < 4294967296)) = true) : PL h 1 l q := by
  subst hq; exact hp.re (br1 hb)
def icel (n : Int) : Value := .int .i64 n
/-- A division of small numbers. -/
theorem restK_1 {k j N : Nat} (hp : PL h 1 l p) (hq : PL h 1 m q) (hq0 : trim q ≠ []) (hk : k ≤ 8) : BR 2000 (restK (co q) ((trim q).length - 1) N (co p) k j) :=
  (restK_BR (fun j => BR.co hp.bound (by decide) j) (fun j => BR.co hq.bound (by decide) j) (lead_ne hq0)).mono (Nat.le_trans (gB_mono hk) (by decide))
theorem divide_lit {KK : Sl × Sl → Hp → Prop} (q' r' : List Rat) (hp : PL h 1 l p) (hq : PL h 1 m q) (hlen : p.length ≤ 7) (hlen2 : q.length ≤ 7) (hq0 : trim q ≠ []) (hk : trim (addL (mulL q' q) r') = trim p) (hr : r'.length ≤ (trim q).length - 1) (hql : q'.length ≤ 7)
    (hb : ((trim q').all fun v => decide (v.num.natAbs < 4294967296 ∧ v.den < 4294967296)) = true) (hb2 : ((trim r').all fun v => decide (v.num.natAbs < 4294967296 ∧ v.den < 4294967296)) = true)
    (H : ∀ y z h', h.le h' → PL h' 1 y (trim q') → PL h' 1 z (trim r') → KK (y, z) h') : callP (F.polynomial_divide l m) KK h := by
  have tp := trim_len (p := p)
  refine pdivide_call hp hq (by omega) (by omega) (by decide) hq0 (C := 2000) (fun k j hk => restK_1 hp hq hq0 (by omega)) (by decide) fun y z h' qs rs hl hy hz lq lr hc hz2 => ?_
  obtain ⟨e1, e2⟩ := known_div hq0 hc hz2 lq (by omega) hk hr
  exact H y z h' hl (hy.re1 e1 hb) (hz.re1 e2 hb2)
end
end Den
end

section
set_option linter.unusedVariables false
namespace Den
open Go Iv Pq
section
variable {h : Hp} {Kb : Bool → Hp → Prop}
theorem equal_lit {l m : Sl} {p q : List Rat} (hp : PL h 1 l p) (hq : PL h 1 m q) (he : p = q) (hlen : p.length ≤ 100) (H : ∀ h', h.le h' → Kb true h') : callP (F.ref04_Equal l m) Kb h := by
  subst he
  exact rpEqual_call hp hq (by omega) (by omega) (by decide) (by decide) fun h' hl => by
    rw [decide_eq_true (p := p.length = p.length ∧ trim p = trim p) ⟨rfl, rfl⟩]; exact H h' hl
end
end Den
end

section
set_option linter.unusedVariables false
namespace Den
open Go Iv Pq
/-- One more value: the number of changes and the last sign that is not 0. -/
def chS (st : Nat × Int) (v : Rat) : Nat × Int := if v.num.sign = 0 then st else if st.2 = - v.num.sign then (st.1 + 1, v.num.sign) else (st.1, v.num.sign)
def chF (ps : List (List Rat)) (c : Rat) : Nat × Int := ps.foldl (fun st p => chS st (ev p c)) (0, 0)
def chN (ps : List (List Rat)) (c : Rat) : Nat := (chF ps c).1
theorem chF_snoc {ps : List (List Rat)} {p : List Rat} {c : Rat} : chF (ps ++ [p]) c = chS (chF ps c) (ev p c) := by unfold chF; rw [List.foldl_append]; rfl
theorem chF_bound {ps : List (List Rat)} {c : Rat} : (chF ps c).1 ≤ ps.length ∧ -1 ≤ (chF ps c).2 ∧ (chF ps c).2 ≤ 1 := by
  have key : ∀ (qs : List (List Rat)) (st : Nat × Int), (-1 ≤ st.2 ∧ st.2 ≤ 1) → (qs.foldl (fun st p => chS st (ev p c)) st).1 ≤ st.1 + qs.length ∧ -1 ≤ (qs.foldl (fun st p => chS st (ev p c)) st).2 ∧ (qs.foldl (fun st p => chS st (ev p c)) st).2 ≤ 1 := by
    intro qs
    induction qs with
    | nil => intro st h; exact ⟨Nat.le_refl _, h⟩
    | cons q qs ih =>
      intro st h
      have hs : -1 ≤ (ev q c).num.sign ∧ (ev q c).num.sign ≤ 1 := by
        rcases Int.lt_trichotomy (ev q c).num 0 with h1 | h1 | h1
        · rw [Int.sign_eq_neg_one_of_neg h1]; omega
        · rw [h1]; decide
        · rw [Int.sign_eq_one_of_pos h1]; omega
      have h2 : (chS st (ev q c)).1 ≤ st.1 + 1 ∧ -1 ≤ (chS st (ev q c)).2 ∧ (chS st (ev q c)).2 ≤ 1 := by
        unfold chS
        split
        · omega
        · split <;> (simp only; omega)
      have h3 := ih (chS st (ev q c)) h2.2
      simp only [List.foldl_cons, List.length_cons]
      omega
  have := key ps (0, 0) (by decide)
  unfold chF
  omega
/-- l holds the polynomials ps. -/
def QQL (h : Hp) (B : Nat) (l : Sl) (ps : List (List Rat)) : Prop := ∃ ss : List Sl, Rd h 1 l (ss.map slc) ∧ ss.length = ps.length ∧ ∀ k (h1 : k < ss.length) (h2 : k < ps.length), PL h B ss[k] ps[k]
theorem QQL.le {h h' : Hp} {B : Nat} {l : Sl} {ps : List (List Rat)} (hq : QQL h B l ps) (hl : h.le h') : QQL h' B l ps := by
  obtain ⟨ss, h1, h2, h3⟩ := hq
  exact ⟨ss, h1.le hl, h2, fun k g1 g2 => (h3 k g1 g2).le hl⟩
theorem QQL.len {h : Hp} {B : Nat} {l : Sl} {ps : List (List Rat)} (hq : QQL h B l ps) : l.len = ps.length := by
  obtain ⟨ss, h1, h2, h3⟩ := hq
  have := h1.1
  simp at this; omega
section
variable {h : Hp} {A B C : Nat} {l m : Sl} {p q : List Rat} {ps : List (List Rat)} {K : Sl → Hp → Prop} {Ki : Int → Hp → Prop} {Kb : Bool → Hp → Prop} {c : Rat} {x : TRat}
theorem QQL.get {i : Int} {K : Sl → Prop} (k : Nat) (hq : QQL h B l ps) (hi : i = k) (hk : k < ps.length) (H : ∀ s, PL h B s ps[k] → K s) : idxP l i 1 fun a => ldL .sl a (fun x => K x) h := by
  obtain ⟨ss, h1, h2, h3⟩ := hq
  have hk' : k < ss.length := by omega
  refine rd_one k h1 hi (v := slc ss[k]) (by rw [List.getElem?_map, List.getElem?_eq_getElem hk']; rfl) fun a hc => ⟨ss[k], hc, H _ (h3 k hk' hk)⟩
theorem ratsgn_range {v : Rat} : -1 ≤ v.num.sign ∧ v.num.sign ≤ 1 := by
  rcases Int.lt_trichotomy v.num 0 with h1 | h1 | h1
  · rw [Int.sign_eq_neg_one_of_neg h1]; omega
  · rw [h1]; decide
  · rw [Int.sign_eq_one_of_pos h1]; omega
theorem pChanges_call (hq : QQL h B l ps) (hx : NR h x c) (bc : BR A c) (hlen : ps.length ≤ 1000) (hB : B ≤ 100000000000) (hA : A ≤ 100000000000) (hpl : ∀ p ∈ ps, p.length ≤ 1000) (hC : ∀ p ∈ ps, ∀ i, BR C (ev (p.drop i) c)) (hC2 : C ≤ 200000000000) (H : ∀ h', h.le h' → Ki (chN ps c : Int) h') : callP (F.sturm_Changes l x) Ki h := by
  refine callP_of (fun v h' => v = (chN ps c : Int)) (fun K' hk => ?_) fun v h' hl hv => by subst hv; exact H h' hl
  unfold F.sturm_Changes
  have hl := hq.len
  refine loopP_of (fun st h' => h.le h' ∧ ∃ i : Nat, st.2.2.1 = (i : Int) ∧ i ≤ ps.length ∧ st.1 = ((chF (ps.take i) c).1 : Int) ∧ st.2.1 = (chF (ps.take i) c).2) (fun st => (ps.length - st.2.2.1).toNat)
    ⟨Hp.le_refl _, 0, rfl, Nat.zero_le _, rfl, rfl⟩ ?_
  rintro ⟨n, t, _, _⟩ h1 ⟨hl1, i, hi, hi2, hn, ht⟩
  simp only at hi hn ht
  subst hi hn ht
  refine ifP_dec (fun h2 => ?_) (fun h2 => ?_)
  · simp only at h2
    have hi' : i < ps.length := by omega
    have hb := chF_bound (ps := ps.take i) (c := c)
    have hlt : (ps.take i).length = i := by rw [List.length_take]; omega
    refine joinP_inv (fun s h' => h1.le h' ∧ s.1 = ((chF (ps.take (i + 1)) c).1 : Int) ∧ s.2.1 = (chF (ps.take (i + 1)) c).2) ?_ ?_
    · rintro ⟨s1, s2, _⟩ h3 ⟨hl3, e1, e2⟩
      refine ⟨⟨Hp.le_trans hl1 hl3, i + 1, ?_, hi', e1, e2⟩, ?_⟩
      · simp only; rw [w64 (by omega)]; rfl
      · simp only; rw [w64 (by omega)]; omega
    · refine (hq.le hl1).get i rfl hi' fun s hs => ?_
      have hm := List.getElem_mem hi'
      refine pEval_call hs (hx.le hl1) bc (by have := hpl _ hm; omega) hB hA (hC _ hm) hC2 fun z h3 hl3 hz => ?_
      have bz : BR C (ev ps[i] c) := by have := hC _ hm 0; rwa [List.drop_zero] at this
      refine qSign_call hz bz (by omega) ?_
      have hsr := ratsgn_range (v := ev ps[i] c)
      have en : IntKind.i64.wrap (0 - (ev ps[i] c).num.sign) = - (ev ps[i] c).num.sign := by rw [w64 (by omega)]; omega
      have estep : chF (ps.take (i + 1)) c = chS (chF (ps.take i) c) (ev ps[i] c) := by rw [List.take_succ_eq_append_getElem hi', chF_snoc]
      rw [estep, en]
      refine ifP_eq (fun h4 => ⟨hl3, ?_, ?_⟩) (fun h4 => ifP_eq (fun h5 => ⟨hl3, ?_, ?_⟩) (fun h5 => ⟨hl3, ?_, ?_⟩))
      · unfold chS; rw [if_pos h4]
      · unfold chS; rw [if_pos h4]
      · unfold chS; rw [if_neg h4, if_pos h5]; simp only; rw [w64 (by omega)]; rfl
      · unfold chS; rw [if_neg h4, if_pos h5]
      · unfold chS; rw [if_neg h4, if_neg h5]
      · unfold chS; rw [if_neg h4, if_neg h5]
  · simp only at h2
    have hi' : i = ps.length := by omega
    subst hi'
    refine hk _ _ hl1 ?_
    rw [List.take_length]; rfl
theorem rChanges_call (hq : QQL h B l ps) (hx : NR h x c) (bc : BR A c) (hlen : ps.length ≤ 1000) (hB : B ≤ 100000000000) (hA : A ≤ 100000000000) (hpl : ∀ p ∈ ps, p.length ≤ 1000) (hC : ∀ p ∈ ps, ∀ i, BR C (ev (p.drop i) c)) (hC2 : C ≤ 200000000000) (H : ∀ h', h.le h' → Ki (chN ps c : Int) h') : callP (F.ref05_Changes l x) Ki h := by
  refine callP_of (fun v h' => v = (chN ps c : Int)) (fun K' hk => ?_) fun v h' hl hv => by subst hv; exact H h' hl
  unfold F.ref05_Changes
  have hl := hq.len
  refine loopP_of (fun st h' => h.le h' ∧ ∃ i : Nat, st.2.2.1 = (i : Int) ∧ i ≤ ps.length ∧ st.1 = ((chF (ps.take i) c).1 : Int) ∧ st.2.1 = (chF (ps.take i) c).2) (fun st => (ps.length - st.2.2.1).toNat)
    ⟨Hp.le_refl _, 0, rfl, Nat.zero_le _, rfl, rfl⟩ ?_
  rintro ⟨n, t, _, _⟩ h1 ⟨hl1, i, hi, hi2, hn, ht⟩
  simp only at hi hn ht
  subst hi hn ht
  refine ifP_dec (fun h2 => ?_) (fun h2 => ?_)
  · simp only at h2
    have hi' : i < ps.length := by omega
    have hb := chF_bound (ps := ps.take i) (c := c)
    have hlt : (ps.take i).length = i := by rw [List.length_take]; omega
    refine joinP_inv (fun s h' => h1.le h' ∧ s.1 = ((chF (ps.take (i + 1)) c).1 : Int) ∧ s.2.1 = (chF (ps.take (i + 1)) c).2) ?_ ?_
    · rintro ⟨s1, s2, _⟩ h3 ⟨hl3, e1, e2⟩
      refine ⟨⟨Hp.le_trans hl1 hl3, i + 1, ?_, hi', e1, e2⟩, ?_⟩
      · simp only; rw [w64 (by omega)]; rfl
      · simp only; rw [w64 (by omega)]; omega
    · refine (hq.le hl1).get i rfl hi' fun s hs => ?_
      have hm := List.getElem_mem hi'
      refine rpEval_call hs (hx.le hl1) bc (by have := hpl _ hm; omega) hB hA (hC _ hm) hC2 fun z h3 hl3 hz => ?_
      have bz : BR C (ev ps[i] c) := by have := hC _ hm 0; rwa [List.drop_zero] at this
      refine rqSign_call hz bz (by omega) ?_
      have en : IntKind.i64.wrap (0 - (chF (ps.take i) c).2) = - (chF (ps.take i) c).2 := by rw [w64 (by omega)]; omega
      have estep : chF (ps.take (i + 1)) c = chS (chF (ps.take i) c) (ev ps[i] c) := by rw [List.take_succ_eq_append_getElem hi', chF_snoc]
      rw [estep, en]
      refine ifP_ne (fun h4 => ifP_eq (fun h5 => ⟨hl3, ?_, ?_⟩) (fun h5 => ⟨hl3, ?_, ?_⟩)) (fun h4 => ⟨hl3, ?_, ?_⟩)
      · unfold chS; rw [if_neg h4, if_pos (by omega)]; simp only; rw [w64 (by omega)]; rfl
      · unfold chS; rw [if_neg h4, if_pos (by omega)]
      · unfold chS; rw [if_neg h4, if_neg (by omega)]
      · unfold chS; rw [if_neg h4, if_neg (by omega)]
      · unfold chS; rw [if_pos h4]
      · unfold chS; rw [if_pos h4]
  · simp only at h2
    have hi' : i = ps.length := by omega
    subst hi'
    refine hk _ _ hl1 ?_
    rw [List.take_length]; rfl
theorem poly5_lit {cells : List Value} {n : Nat} (zs : List Int) (ps : List Rat) (hc : cells = zs.map icel) (hn : zs.length = n) (hz : (zs.all fun z => decide (z.natAbs < 4294967296)) = true) (hps : zs.map (fun z => ((z : Int) : Rat)) = ps) (hlen : n ≤ 1000) (H : ∀ y h', h.le h' → PL h' 1 y ps → K y h') :
    newP cells (fun a h1 => callP (F.law05_poly ⟨some a, n, n⟩) K h1) h := by
  subst hc hps
  refine new_own (n := n) (size := 1) (by simp [hn]) fun b h1 hb ho => ?_
  refine callP_of (fun y h' => PL h' 1 y (zs.map fun z => ((z : Int) : Rat))) (fun K' hk => ?_) fun y h' hl hy => H y h' (Hp.le_trans ho.1 hl) hy
  unfold F.law05_poly
  have hr := ho.rd
  refine loopP_of (fun st h' => ∃ D, h1.le D ∧ ∃ i : Nat, st.2.1 = (i : Int) ∧ i ≤ zs.length ∧ OD D h' 1 st.1 ((zs.take i).map fun z => ((z : Int) : Rat))) (fun st => (zs.length - st.2.1).toNat)
    ⟨h1, Hp.le_refl _, 0, rfl, Nat.zero_le _, OD.nil⟩ ?_
  rintro ⟨s, _, _⟩ h2 ⟨D, hD, i, hi, hi2, ho2⟩
  simp only at hi ho2
  subst hi
  refine ifP_dec (fun h3 => ?_) (fun h3 => ?_)
  · simp only at h3
    have hi' : i < zs.length := by omega
    refine rd_one i (hr.le (Hp.le_trans hD ho2.dle)) rfl (v := icel zs[i]) (by rw [List.getElem?_map, List.getElem?_eq_getElem hi']; rfl) fun a hc => ⟨zs[i], hc, ?_⟩
    have hbz := of_decide_eq_true (List.all_eq_true.1 hz _ (List.getElem_mem hi'))
    have bq : BR 1 (((zs[i] : Int) : Rat)) := by
      refine ⟨?_, ?_⟩
      · unfold Lt
        show (zs[i]).natAbs < W ^ 1
        rw [Nat.pow_one, W_eq]; exact hbz
      · unfold Lt
        show ((1 : Nat) : Int).natAbs < W ^ 1
        decide
    refine ho2.call (K1 := fun z D' => NR D' z (((zs[i] : Int) : Rat))) (rqFromInt_call (by omega) (by omega) fun z D' _ hz => hz) fun z D1 h5 hl1 ho1 hz1 => ?_
    refine ho1.app (by simp; omega) hz1 bq fun w h7 hw => ⟨⟨D1, Hp.le_trans hD hl1, i + 1, ?_, hi', ?_⟩, ?_⟩
    · simp only; rw [w64 (by omega)]; rfl
    · rw [List.take_succ_eq_append_getElem hi', List.map_append]; exact hw
    · simp only; rw [w64 (by omega)]; omega
  · simp only at h3
    have hi' : i = zs.length := by omega
    subst hi'
    rw [List.take_length] at ho2
    exact hk _ _ (Hp.le_trans hD ho2.dle) ho2.pl
theorem same5_call {qs : List (List Rat)} (hp : QQL h 1 l ps) (hq : QQL h 1 m qs) (he : ps = qs) (hlen : ps.length ≤ 1000) (hpl : ∀ p ∈ ps, p.length ≤ 100) (H : ∀ h', h.le h' → Kb true h') : callP (F.ref05_Same l m) Kb h := by
  subst he
  refine callP_of (fun b h' => b = true) (fun K' hk => ?_) fun b h' hl hb => by subst hb; exact H h' hl
  unfold F.ref05_Same
  have hl := hp.len
  have hl2 := hq.len
  refine ifP_ne (fun h1 => absurd (by rw [hl, hl2]) h1) (fun _ => ?_)
  refine loopP_of (fun st h' => h.le h' ∧ ∃ i : Nat, st.1 = (i : Int) ∧ i ≤ ps.length) (fun st => (ps.length - st.1).toNat) ⟨Hp.le_refl _, 0, rfl, Nat.zero_le _⟩ ?_
  rintro ⟨_, _⟩ h2 ⟨hl2', i, hi, hi2⟩
  simp only at hi
  subst hi
  refine ifP_dec (fun h3 => ?_) (fun h3 => hk _ _ hl2' rfl)
  simp only at h3
  have hi' : i < ps.length := by omega
  refine (hp.le hl2').get i rfl hi' fun s hs => (hq.le hl2').get i rfl hi' fun t ht => ?_
  refine equal_lit hs ht rfl (hpl _ (List.getElem_mem hi')) fun h4 hl4 => ifP_false rfl ⟨⟨Hp.le_trans hl2' hl4, i + 1, ?_, hi'⟩, ?_⟩
  · simp only; rw [w64 (by omega)]; rfl
  · simp only; rw [w64 (by omega)]; omega
end
end Den
end

section
set_option linter.unusedVariables false
namespace Den
open Go Iv Pq
def b1 (p : List Rat) : Bool := p.all fun v => decide (v.num.natAbs < 4294967296 ∧ v.den < 4294967296)
/-- The steps of the computation of a squarefree part, with two divisions in the greatest common divisor. -/
def sqfOk (P M D E q1 r1 c1 q2 Q W : List Rat) : Bool :=
  decide (monQ P = M) && decide (trim (derL M) = D) && decide (monQ D = E) && decide (trim (addL (mulL q1 E) r1) = trim M) && decide (monQ (trim r1) = c1) && decide (trim (mulL q2 c1) = trim E) && decide (trim (mulL Q c1) = trim M) && decide (monQ (trim Q) = W)
    && decide (P.length ≤ 7) && decide (M.length ≤ 7) && decide (D.length ≤ 7) && decide (E.length ≤ 7) && decide (c1.length ≤ 7) && decide (q1.length ≤ 7) && decide (q2.length ≤ 7) && decide (Q.length ≤ 7) && decide (r1.length ≤ (trim E).length - 1) && decide (r1.length ≤ 7)
    && decide (trim E ≠ []) && decide (trim c1 ≠ []) && decide (0 < M.length) && decide (E.length ≤ M.length) && decide (c1.length < E.length) && decide (0 < c1.length)
    && b1 M && b1 D && b1 E && b1 c1 && b1 W && b1 (trim q1) && b1 (trim r1) && b1 (trim q2) && b1 (trim Q)
section
variable {h : Hp} {A B C : Nat} {l m : Sl} {p q : List Rat} {ps : List (List Rat)} {K : Sl → Hp → Prop} {Ki : Int → Hp → Prop} {Kb : Bool → Hp → Prop} {c : Rat} {x : TRat}
theorem tlenz {p : List Rat} {i : Nat} (hp : p.length ≤ i) : (trim p).length ≤ i := Nat.le_trans trim_len hp
theorem addL_nil {p : List Rat} : trim (addL p []) = trim p := trim_eq fun i => by rw [co_addL, co_nil, Rat.add_zero]
theorem sqf_lit {P M D E q1 r1 c1 q2 Q W : List Rat} (hok : sqfOk P M D E q1 r1 c1 q2 Q W = true) (hp : PL h 1 l P) (H : ∀ y h', h.le h' → PL h' 1 y W → K y h') : callP (F.polynomial_Squarefree l) K h := by
  unfold sqfOk at hok
  simp only [Bool.and_eq_true, decide_eq_true_eq] at hok
  obtain ⟨⟨⟨⟨⟨⟨⟨⟨⟨⟨⟨⟨⟨⟨⟨⟨⟨⟨⟨⟨⟨⟨⟨⟨⟨⟨⟨⟨⟨⟨⟨⟨e1, e2⟩, e3⟩, e4⟩, e5⟩, e6⟩, e7⟩, e8⟩, f1⟩, f2⟩, f3⟩, f4⟩, f5⟩, f6⟩, f7⟩, f8⟩, f9⟩, f10⟩, g1⟩, g2⟩, g3⟩, g4⟩, g5⟩, g6⟩, k1⟩, k2⟩, k3⟩, k4⟩, k5⟩, k6⟩, k7⟩, k8⟩, k9⟩ := hok
  refine callP_of (fun y h' => PL h' 1 y W) (fun K' hk => ?_) fun y h' hl hy => H y h' hl hy
  unfold F.polynomial_Squarefree
  refine pMonic_call hp (by omega) (by decide) fun s1 h1 hl1 hr1 => ?_
  have hr1 := hr1.re1 e1 k1
  refine ifP_eq (fun h2 => absurd h2 (by rw [hr1.len]; omega)) (fun h2 => ?_)
  refine pDerivative_call hr1 (by omega) (by decide) fun s2 h3 hr2 => ?_
  have hl3 := hr2.hle
  have hr2 := hr2.pl.re1 e2 k2
  have hgcd : ∀ {K3 : Sl → Hp → Prop}, (∀ y h', h3.le h' → PL h' 1 y c1 → K3 y h') → callP (F.polynomial_GCD s1 s2) K3 h3 := by
    intro K3 H3
    refine callP_of (fun y h' => PL h' 1 y c1) (fun K4 hk4 => ?_) fun y h' hl hy => H3 y h' hl hy
    unfold F.polynomial_GCD
    refine pMonic_call (hr1.le hl3) (by omega) (by decide) fun a h4 hl4 ha => ?_
    have ha : PL h4 (1 + (1 + 1)) a (monQ M) := ha
    -- the monic polynomial stays as it is
    have eM : monQ M = M := by
      have hl := nf_monQ (p := P)
      rw [e1] at hl
      have hM0 : M ≠ [] := List.length_pos_iff.1 g3
      have hP0 : trim P ≠ [] := fun hh => by
        have := monQ_len (p := P)
        rw [e1, hh] at this
        exact hM0 (List.eq_nil_of_length_eq_zero this)
      have hlead : lead M = 1 := by
        unfold lead
        rw [trim_nf hl]
        obtain ⟨hn, e⟩ := mon_last hP0
        simp only [e1] at hn e
        rw [co_lt hn, e]
      unfold monQ
      rw [trim_nf hl, hlead]
      have : (fun x : Rat => (((1 : Int) : Rat)) / 1 * x) = id := by
        funext x
        have : (((1 : Int) : Rat)) / 1 = 1 := by decide +kernel
        rw [this]; exact Rat.one_mul x
      rw [this, List.map_id]
    have ha := ha.re1 eM k1
    refine pMonic_call (hr2.le hl4) (by omega) (by decide) fun b h5 hl5 hb => ?_
    have hb := hb.re1 e3 k3
    refine loopP_of (fun st h' => h3.le h' ∧ ∃ x y, PL h' 1 st.1 x ∧ PL h' 1 st.2.1 y ∧ ((x = M ∧ y = E) ∨ (x = E ∧ y = c1) ∨ (x = c1 ∧ y = []))) (fun st => st.2.1.len)
      ⟨Hp.le_trans hl4 hl5, _, _, ha.le hl5, hb, .inl ⟨rfl, rfl⟩⟩ ?_
    rintro ⟨s, t, _⟩ h6 ⟨hl6, x, y, hx, hy, hxy⟩
    simp only at hx hy
    have ly := hy.len
    refine ifP_dec (fun h7 => ?_) (fun h7 => ?_)
    · rcases hxy with ⟨rfl, rfl⟩ | ⟨rfl, rfl⟩ | ⟨rfl, rfl⟩
      · refine divide_lit q1 r1 hx hy f2 f4 g1 e4 f9 f6 k6 k7 fun u v h8 hl8 hu hv => ?_
        refine pMonic_call hv (tlenz (by omega)) (by decide) fun w h9 hl9 hw => ?_
        have hw := hw.re1 e5 k4
        exact ⟨⟨Hp.le_trans hl6 (Hp.le_trans hl8 hl9), _, _, (hy.le hl8).le hl9, hw, .inr (.inl ⟨rfl, rfl⟩)⟩, by rw [hw.len, ly]; exact g5⟩
      · refine divide_lit q2 [] hx hy f4 f5 g2 (by rw [addL_nil]; exact e6) (Nat.zero_le _) f7 k8 (by decide) fun u v h8 hl8 hu hv => ?_
        refine pMonic_call hv (by decide) (by decide) fun w h9 hl9 hw => ?_
        have hw := hw.re1 (q := []) (by decide +kernel) (by decide)
        exact ⟨⟨Hp.le_trans hl6 (Hp.le_trans hl8 hl9), _, _, (hy.le hl8).le hl9, hw, .inr (.inr ⟨rfl, rfl⟩)⟩, by rw [hw.len, ly]; exact g6⟩
      · rw [ly] at h7; exact absurd h7 (by decide)
    · rcases hxy with ⟨rfl, rfl⟩ | ⟨rfl, rfl⟩ | ⟨rfl, rfl⟩
      · exact absurd (by rw [ly]; omega) h7
      · exact absurd (by rw [ly]; omega) h7
      · exact hk4 _ _ hl6 hx
  refine hgcd fun s3 h4 hl4 hr3 => ?_
  refine divide_lit Q [] ((hr1.le hl3).le hl4) hr3 f2 f5 g2 (by rw [addL_nil]; exact e7) (Nat.zero_le _) f8 k9 (by decide) fun u v h5 hl5 hu hv => ?_
  refine pMonic_call hu (tlenz (by omega)) (by decide) fun w h6 hl6 hw => ?_
  exact hk _ _ (Hp.le_trans hl1 (Hp.le_trans hl3 (Hp.le_trans hl4 (Hp.le_trans hl5 hl6)))) (hw.re1 e8 k5)

/-- The steps of the computation of a chain of three polynomials. -/
def chainOk (P W E q1 r1 c q2 : List Rat) : Bool :=
  decide (2 ≤ (trim P).length) && decide (trim (derL W) = E) && decide (trim (addL (mulL q1 E) r1) = trim W) && decide (trim ((trim r1).map ((((-1 : Int) : Rat)) * ·)) = c) && decide (trim (mulL q2 c) = trim E)
    && decide (P.length ≤ 7) && decide (W.length ≤ 7) && decide (E.length ≤ 7) && decide (c.length ≤ 7) && decide (q1.length ≤ 7) && decide (q2.length ≤ 7) && decide (r1.length ≤ (trim E).length - 1) && decide (r1.length ≤ 7) && decide (trim E ≠ []) && decide (trim c ≠ []) && decide (trim r1 ≠ []) && decide (c.length < E.length)
    && b1 E && b1 c && b1 (trim q1) && b1 (trim r1) && b1 (trim q2)
theorem chain_lit {P M D E0 q10 r10 c10 q20 Q W E q1 r1 c q2 : List Rat} (hok : sqfOk P M D E0 q10 r10 c10 q20 Q W = true) (hok2 : chainOk P W E q1 r1 c q2 = true) (hp : PL h 1 l P) (H : ∀ y h', h.le h' → QQL h' 1 y [W, E, c] → K y h') : callP (F.sturm_Chain l) K h := by
  unfold chainOk at hok2
  simp only [Bool.and_eq_true, decide_eq_true_eq] at hok2
  obtain ⟨⟨⟨⟨⟨⟨⟨⟨⟨⟨⟨⟨⟨⟨⟨⟨⟨⟨⟨⟨⟨e1, e2⟩, e3⟩, e4⟩, e5⟩, f1⟩, f2⟩, f3⟩, f4⟩, f5⟩, f6⟩, f7⟩, f8⟩, g1⟩, g2⟩, g3⟩, g4⟩, k1⟩, k2⟩, k3⟩, k4⟩, k5⟩ := hok2
  refine callP_of (fun y h' => QQL h' 1 y [W, E, c]) (fun K' hk => ?_) fun y h' hl hy => H y h' hl hy
  unfold F.sturm_Chain
  refine pDegree_call hp (by omega) (by decide) fun h1 hl1 => ?_
  refine ifP_false (decide_eq_false (by omega)) ?_
  refine sqf_lit hok (hp.le hl1) fun r2 h2 hl2 hr2 => ?_
  refine pDerivative_call hr2 (by omega) (by decide) fun r3 h3 hr3 => ?_
  have hl3 := hr3.hle
  have hr3 := hr3.pl.re1 e2 k1
  have hr2 := hr2.le hl3
  refine new_own (n := 2) (size := 1) rfl fun b4 h4 hb4 ho => ?_
  refine loopP_of (fun st h' => ∃ Dh, h3.le Dh ∧ ((∃ ss : List Sl, ss = [r2, r3] ∧ st.1 = r2 ∧ st.2.1 = r3 ∧ Own Dh h' 1 st.2.2.1 (ss.map slc)) ∨ (∃ r11, PL Dh 1 r11 c ∧ st.1 = r3 ∧ st.2.1 = r11 ∧ Own Dh h' 1 st.2.2.1 ([r2, r3, r11].map slc)))) (fun st => st.2.1.len)
    ⟨h3, Hp.le_refl _, .inl ⟨_, rfl, rfl, rfl, ho⟩⟩ ?_
  rintro ⟨s, t, w, _⟩ h5 ⟨Dh, hD, hcase⟩
  rcases hcase with ⟨ss, rfl, es, et, ho5⟩ | ⟨r11, hr11, es, et, ho5⟩
  · simp only at es et ho5
    subst es et
    refine ho5.call (K1 := fun r D' => r.2.2 = 0 ∧ PL D' 1 r.2.1 (trim r1)) (ppDivMod_call (hr2.le hD) (hr3.le hD) (by omega) (by omega) (by decide) (C := 2000) (fun k j hq0 hk => restK_1 (hr2.le hD) (hr3.le hD) hq0 (by have := tlenz f2; have : 0 < (trim E).length := List.length_pos_iff.2 hq0; omega)) (by decide) (fun hh => absurd hh g1) fun hq0 y z h' qs rs hl hy hz lq lr hc hz2 => ⟨rfl, ?_⟩) fun r D1 h6 hl6 ho6 ⟨er, hz⟩ => ?_
    · obtain ⟨_, d2⟩ := known_div (q' := q1) (r' := r1) hq0 hc hz2 lq (by omega) e3 f7
      exact hz.re1 d2 k4
    refine joinP_inv (fun _ h' => h' = h6) ?_ ?_
    · rintro _ h7 rfl
      refine ho6.call (K1 := fun v D' => NR D' v (((-1 : Int) : Rat))) (qFromInt_call (by decide) (by decide) fun v D' _ hv => hv) fun v D2 h8 hl8 ho8 hv => ?_
      refine ho8.call (K1 := fun u D' => PL D' 1 u c) (pScale_call (hz.le hl8) hv BR_m1 (Nat.le_trans (tlenz f8) (by decide)) (by decide) (by decide) fun u D' hu => hu.pl.re1 e4 k2) fun u D3 h9 hl9 ho9 hu => ?_
      have hlw := ho9.2.1
      simp at hlw
      refine app_own ho9 (n := 1) (new := [slc u]) rfl rfl rfl (by simp only; omega) (by simp only; omega) fun y h10 hy _ => ⟨⟨D3, Hp.le_trans hD (Hp.le_trans hl6 (Hp.le_trans hl8 hl9)), .inr ⟨u, hu, rfl, rfl, hy⟩⟩, ?_⟩
      rw [hu.len, hr3.len]; exact g4
    · have ez : r.2.1.len = (trim r1).length := hz.len
      have : 0 < (trim r1).length := List.length_pos_iff.2 g3
      rw [er]
      refine ifP_false rfl (ifP_eq (fun h7 => by omega) (fun h7 => rfl))
  · simp only at es et ho5
    subst es et
    refine ho5.call (K1 := fun r D' => r.2.2 = 0 ∧ PL D' 1 r.2.1 []) (ppDivMod_call (hr3.le hD) hr11 (by omega) (by omega) (by decide) (C := 2000) (fun k j hq0 hk => restK_1 (hr3.le hD) hr11 hq0 (by have := tlenz f3; have : 0 < (trim c).length := List.length_pos_iff.2 hq0; omega)) (by decide) (fun hh => absurd hh g2) fun hq0 y z h' qs rs hl hy hz lq lr hc hz2 => ⟨rfl, ?_⟩) fun r D1 h6 hl6 ho6 ⟨er, hz⟩ => ?_
    · obtain ⟨_, d2⟩ := known_div (q' := q2) (r' := []) hq0 hc hz2 lq (by omega) (by rw [addL_nil]; exact e5) (Nat.zero_le _)
      exact hz.re1 d2 (by decide)
    refine joinP_inv (fun _ _ => False) (fun _ _ hh => hh.elim) ?_
    rw [er]
    refine ifP_false rfl (ifP_true (by rw [hz.len]; rfl) ?_)
    refine hk _ _ (Hp.le_trans hl1 (Hp.le_trans hl2 (Hp.le_trans hl3 (Hp.le_trans hD (Hp.le_trans hl6 ho6.1))))) ⟨[r2, s, t], ho6.rd, rfl, fun k g1 g2 => ?_⟩
    have hd6 := Hp.le_trans hl6 ho6.1
    match k, g1 with
    | 0, _ => exact (hr2.le hD).le hd6
    | 1, _ => exact (hr3.le hD).le hd6
    | 2, _ => exact hr11.le hd6
theorem sqf_x : sqfOk [-2, 0, 1] [-2, 0, 1] [0, 2] [0, 1] [0, 1] [-2] [1] [0, 1] [-2, 0, 1] [-2, 0, 1] = true := by decide +kernel
theorem chain_x : chainOk [-2, 0, 1] [-2, 0, 1] [0, 2] [0, (1 : Rat) / 2] [-2] [2] [0, 1] = true := by decide +kernel
theorem sqf_y : sqfOk [3, -5, 1, 1] [3, -5, 1, 1] [-5, 2, 3] [-5 / 3, (2 : Rat) / 3, 1] [(1 : Rat) / 3, 1] [(32 : Rat) / 9, -32 / 9] [-1, 1] [(5 : Rat) / 3, 1] [-3, 2, 1] [-3, 2, 1] = true := by decide +kernel
theorem chain_y : chainOk [3, -5, 1, 1] [-3, 2, 1] [2, 2] [(1 : Rat) / 2, (1 : Rat) / 2] [-4] [4] [(1 : Rat) / 2, (1 : Rat) / 2] = true := by decide +kernel
end
end Den
end
