/-
  Tools for the bodies of functions in shallow form.
-/
import Derived.Test.YtnahjnlkpmbhlaaDen17
import Derived.Laws.Strings
set_option linter.unusedVariables false
namespace Den
open Go
def nilS : Sl := ⟨none, 0, 0⟩
def emptyS : ByteArray := .empty

section
variable {α : Type} {G : (α → Hp → Prop) → Hp → Prop} {K : α → Hp → Prop} {h : Hp}

theorem callP_of (R : α → Hp → Prop) (H : ∀ K' : α → Hp → Prop, (∀ v h', h.le h' → R v h' → K' v h') → G K' h) (k : ∀ v h', h.le h' → R v h' → K v h') : callP G K h :=
  ⟨h, Hp.emp, fun v h' => h.le h' ∧ R v h', h.dj_emp, h.add_emp.symm, H _ (fun v h' h1 h2 => ⟨h1, h2⟩),
    fun v D' hq => ⟨hq.1, fun _ _ => by rw [Hp.add_emp]; exact k v D' hq.1 hq.2⟩⟩

theorem callP_same (v : α) (H : ∀ K' : α → Hp → Prop, K' v h → G K' h) (k : K v h) : callP G K h :=
  ⟨h, Hp.emp, fun v' h' => v' = v ∧ h' = h, h.dj_emp, h.add_emp.symm, H _ ⟨rfl, rfl⟩, fun v' D' hq => by
    obtain ⟨rfl, rfl⟩ := hq
    exact ⟨Hp.le_refl _, fun _ _ => by rw [Hp.add_emp]; exact k⟩⟩

theorem callM_of (H : G K h) : callM G K h :=
  ⟨h, Hp.emp, K, h.dj_emp, h.add_emp.symm, H, fun v D' hq _ => by rw [Hp.add_emp]; exact hq⟩
end

theorem joinP_of {S : Type} {k : S → Hp → Prop} {body : (S → Hp → Prop) → Prop} (H : body k) : joinP k body := ⟨k, fun _ _ h => h, H⟩
theorem joinP_inv {S : Type} {k : S → Hp → Prop} {body : (S → Hp → Prop) → Prop} (J : S → Hp → Prop) (h1 : ∀ s h, J s h → k s h) (h2 : body J) : joinP k body := ⟨J, h1, h2⟩
theorem loopP_of {S : Type} {body : S → (S → Hp → Prop) → Hp → Prop} {s0 : S} {h0 : Hp} (I : S → Hp → Prop) (μ : S → Nat)
    (h1 : I s0 h0) (h2 : ∀ s h, I s h → body s (fun s' h' => I s' h' ∧ μ s' < μ s) h) : loopP body s0 h0 := ⟨I, fun s _ => μ s, h1, h2⟩

theorem ifP_true {A B : Prop} {t : Bool} (ht : t = true) (ha : A) : ifP t A B := by subst ht; exact ha
theorem ifP_false {A B : Prop} {t : Bool} (ht : t = false) (hb : B) : ifP t A B := by subst ht; exact hb
theorem ifP_dec {A B p : Prop} [Decidable p] (ha : p → A) (hb : ¬ p → B) : ifP (decide p) A B :=
  ifP_intro (fun h => ha (of_decide_eq_true h)) (fun h => hb (of_decide_eq_false h))
theorem ifP_eq {A B : Prop} {a b : Int} (ha : a = b → A) (hb : a ≠ b → B) : ifP (a == b) A B :=
  ifP_intro (fun h => ha (by simpa using h)) (fun h => hb (by simpa using h))
theorem ifP_ne {A B : Prop} {a b : Int} (ha : a ≠ b → A) (hb : a = b → B) : ifP (a != b) A B :=
  ifP_intro (fun h => ha (by simpa using h)) (fun h => hb (by simpa using h))

theorem w64 {n : Int} (h : -9223372036854775808 ≤ n ∧ n ≤ 9223372036854775807) : IntKind.i64.wrap n = n := by
  simp [IntKind.wrap, IntKind.signed, IntKind.bits]
  omega
theorem wu64 {n : Int} (h : 0 ≤ n ∧ n ≤ 18446744073709551615) : IntKind.u64.wrap n = n := by
  simp [IntKind.wrap, IntKind.signed, IntKind.bits]
  omega
theorem wu32 {n : Int} (h : 0 ≤ n ∧ n ≤ 4294967295) : IntKind.u32.wrap n = n := by
  simp [IntKind.wrap, IntKind.signed, IntKind.bits]
  omega

/-! ### Strings -/

abbrev BS (s : ByteArray) : List UInt8 := s.data.toList
theorem BS_len (s : ByteArray) : (BS s).length = s.size := by simp [BS]
theorem BS_inj {s t : ByteArray} (h : BS s = BS t) : s = t := by
  cases s; cases t
  simp only [BS] at h
  rw [Array.toList_inj.1 h]
theorem BS_toList (s : ByteArray) : s.toList = BS s := ByteArray.toList_eq s

theorem strIdx_drop {s : ByteArray} {i : Int} {K : Int → Prop} {k : Nat} {c : UInt8} {r : List UInt8} (hd : (BS s).drop k = c :: r) (hi : i = k) (H : K (c.toNat : Int)) : strIdx s i K := by
  subst hi
  refine ⟨by omega, c, ?_, H⟩
  have h1 : (BS s)[k]? = some c := by
    have : ((BS s).drop k)[0]? = some c := by rw [hd]; rfl
    simpa using this
  have hk : k < s.size := by
    rw [← BS_len]
    rcases Nat.lt_or_ge k (BS s).length with h2 | h2
    · exact h2
    · rw [List.getElem?_eq_none h2] at h1; cases h1
  have : ((k : Int).toNat) = k := rfl
  rw [this, getElem?_pos s k hk]
  rw [List.getElem?_eq_getElem (by rw [BS_len]; exact hk)] at h1
  simp only [Option.some.injEq] at h1 ⊢
  rw [← h1]
  rfl

theorem BS_extract {s : ByteArray} {a b : Nat} : BS (s.extract a b) = ((BS s).drop a).take (b - a) := by
  simp [BS, ByteArray.data_extract, Array.toList_extract, List.extract_eq_take_drop]

theorem strCut_of {s : ByteArray} {lo hi : Int} {K : ByteArray → Prop} (a b : Nat) (ha : lo = a) (hb : hi = b) (hab : a ≤ b) (hs : b ≤ s.size) (H : ∀ t, BS t = ((BS s).drop a).take (b - a) → K t) : strCut s lo hi K := by
  subst ha hb
  exact ⟨by omega, by omega, by omega, H _ BS_extract⟩

/-! ### Slices -/

theorem addr_add_zero (a : Addr) : a.add 0 = a := by cases a; rfl
theorem addr_add_add (a : Addr) (i j : Nat) : (a.add i).add j = a.add (i + j) := by
  unfold Addr.add
  by_cases hi : i = 0
  · subst hi; simp
  · by_cases hj : j = 0
    · subst hj; simp [hi]
    · have : i + j ≠ 0 := by omega
      simp [hi, hj, this, Nat.add_assoc]
theorem add_block (a : Addr) (i : Nat) : (a.add i).block = a.block := by unfold Addr.add; split <;> rfl
theorem add_off (a : Addr) (i : Nat) : (a.add i).off = a.off + i := by
  unfold Addr.add; split
  · rename_i h; subst h; rfl
  · rfl
theorem add_spot {a : Addr} (hs : a.spot = none) (i : Nat) : (a.add i).spot = none := by unfold Addr.add; split <;> simp [hs]

/-- What a slice holds, cell by cell. -/
def Rd (h : Hp) (size : Nat) (x : Sl) (cs : List Value) : Prop := x.len * size = cs.length ∧ cellsAtO h x.a cs.length = some cs

theorem Rd.le {h h' : Hp} {size : Nat} {x : Sl} {cs : List Value} (hr : Rd h size x cs) (hl : h.le h') : Rd h' size x cs := ⟨hr.1, cellsAtO_le hl hr.2⟩
theorem Rd.nil {h : Hp} {size : Nat} : Rd h size nilS [] := ⟨by simp [nilS], rfl⟩

theorem cellsAt_len {h : Hp} {a : Addr} : ∀ {n : Nat} {l : List Value}, cellsAt h a n = some l → l.length = n
  | 0, l, e => by simp only [cellsAt, Option.some.injEq] at e; subst e; rfl
  | n + 1, l, e => by
    unfold cellsAt at e
    split at e
    · rename_i l1 h1
      split at e
      · simp only [Option.some.injEq] at e; subst e; simp [cellsAt_len h1]
      · cases e
    · cases e
theorem cellsAt_get {h : Hp} {a : Addr} : ∀ {n : Nat} {l : List Value}, cellsAt h a n = some l → ∀ i v, l[i]? = some v → h.cell (a.add i) = some v
  | 0, l, e, i, v, hi => by simp only [cellsAt, Option.some.injEq] at e; subst e; simp at hi
  | n + 1, l, e, i, v, hi => by
    unfold cellsAt at e
    split at e
    · rename_i l1 h1
      split at e
      · rename_i u hu
        simp only [Option.some.injEq] at e; subst e
        have hl := cellsAt_len h1
        rcases Nat.lt_or_ge i n with h2 | h2
        · rw [List.getElem?_append_left (by omega)] at hi
          exact cellsAt_get h1 i v hi
        · rw [List.getElem?_append_right (by omega)] at hi
          have : i - l1.length = 0 := by
            rcases Nat.eq_zero_or_pos (i - l1.length) with h3 | h3
            · exact h3
            · rw [List.getElem?_eq_none (by simp; omega)] at hi; cases hi
          rw [this] at hi
          simp only [List.getElem?_cons_zero, Option.some.injEq] at hi
          subst hi
          have : i = n := by omega
          subst this; exact hu
      · cases e
    · cases e
theorem cellsAt_block {h : Hp} {a : Addr} {b : Blk} (hb : h a.block = some b) (hs : a.spot = none) : ∀ {n : Nat}, a.off + n ≤ b.cells.length → cellsAt h a n = some ((b.cells.drop a.off).take n)
  | 0, _ => by simp [cellsAt]
  | n + 1, hn => by
    unfold cellsAt
    rw [cellsAt_block hb hs (by omega)]
    have h1 : h.cell (a.add n) = some (b.cells[a.off + n]'(by omega)) := by
      unfold Hp.cell
      simp only [add_block, add_off, add_spot hs, hb]
      exact List.getElem?_eq_getElem (by omega)
    simp only [h1]
    rw [List.take_succ_eq_append_getElem (by simp; omega)]
    simp

theorem idxP_of {h : Hp} {size : Nat} {x : Sl} {cs : List Value} {i : Int} {K : Addr → Prop} (k : Nat) (hr : Rd h size x cs) (hi : i = k) (hk : k < x.len) (hsz : 0 < size)
    (H : ∀ a, (∀ j v, cs[k * size + j]? = some v → h.cell (a.add j) = some v) → K a) : idxP x i size K := by
  subst hi
  refine ⟨by omega, by omega, ?_⟩
  have hpos : 0 < cs.length := by
    rw [← hr.1]
    exact Nat.mul_pos (by omega) hsz
  cases ha : x.a with
  | none =>
    have := hr.2
    rw [ha] at this
    simp only [cellsAtO] at this
    split at this
    · omega
    · cases this
  | some a =>
    have h2 := hr.2
    rw [ha] at h2
    simp only [cellsAtO] at h2
    refine H _ fun j v hv => ?_
    rw [addr_add_add]
    exact cellsAt_get h2 _ v hv

/-- A slice that lies in memory of its own. -/
def Own (h0 h : Hp) (size : Nat) (x : Sl) (cs : List Value) : Prop :=
  h0.le h ∧ x.len * size = cs.length ∧ x.len ≤ x.cap ∧
  match x.a with
  | none => x.cap = 0
  | some a => a.off = 0 ∧ a.spot = none ∧ h0 a.block = none ∧ ∃ b, h a.block = some b ∧ b.fz = (0, 0) ∧ b.cells.length = x.cap * size ∧ b.cells.take cs.length = cs

theorem Own.nil {h0 h : Hp} {size : Nat} (hl : h0.le h) : Own h0 h size nilS [] := ⟨hl, by simp [nilS], Nat.le_refl _, rfl⟩
theorem Own.rd {h0 h : Hp} {size : Nat} {x : Sl} {cs : List Value} (ho : Own h0 h size x cs) : Rd h size x cs := by
  obtain ⟨h1, h2, h3, h4⟩ := ho
  refine ⟨h2, ?_⟩
  cases ha : x.a with
  | none =>
    rw [ha] at h4
    simp only at h4
    have : cs = [] := by
      have : x.len = 0 := by omega
      rw [this] at h2
      cases cs with
      | nil => rfl
      | cons a b => simp at h2
    subst this; rfl
  | some a =>
    rw [ha] at h4
    obtain ⟨g1, g2, g3, b, g4, g5, g6, g7⟩ := h4
    have hle : cs.length ≤ b.cells.length := by rw [g6, ← h2]; exact Nat.mul_le_mul_right _ h3
    simp only [cellsAtO]
    rw [cellsAt_block g4 g2 (by omega), g1]
    simp [g7]
theorem Own.le {h0 h h' : Hp} {size : Nat} {x : Sl} {cs : List Value} (ho : Own h0 h size x cs) (hl : h.le h') : Own h0 h' size x cs := by
  obtain ⟨h1, h2, h3, h4⟩ := ho
  refine ⟨Hp.le_trans h1 hl, h2, h3, ?_⟩
  cases ha : x.a with
  | none => rw [ha] at h4; exact h4
  | some a =>
    rw [ha] at h4
    obtain ⟨g1, g2, g3, b, g4, g5⟩ := h4
    exact ⟨g1, g2, g3, b, hl _ _ g4, g5⟩
theorem Own.base {h0 h1 h : Hp} {size : Nat} {x : Sl} {cs : List Value} (ho : Own h1 h size x cs) (hl : h0.le h1) : Own h0 h size x cs := by
  obtain ⟨g0, h2, h3, h4⟩ := ho
  refine ⟨Hp.le_trans hl g0, h2, h3, ?_⟩
  cases ha : x.a with
  | none => rw [ha] at h4; exact h4
  | some a =>
    rw [ha] at h4
    obtain ⟨g1, g2, g3, g4⟩ := h4
    refine ⟨g1, g2, ?_, g4⟩
    cases hk : h0 a.block with
    | none => rfl
    | some b => rw [hl _ _ hk] at g3; cases g3

theorem app_own {h0 h : Hp} {size bytes n : Nat} {zero new cs : List Value} {x : Sl} {K : Sl → Hp → Prop} (ho : Own h0 h size x cs) (hn : new.length = n * size) (hz : zero.length = size)
    (hleaf : new.all Value.leaf = true) (hb : (x.len + n) * bytes ≤ 140737488355328) (hb2 : x.len + n ≤ 140737488355328)
    (H : ∀ y h', Own h0 h' size y (cs ++ new) → y.len = x.len + n → K y h') : appP size bytes zero x n new K h := by
  have hrd := ho.rd
  obtain ⟨h1, h2, h3, h4⟩ := ho
  refine ⟨hb, hb2, fun hfit => ?_, fun hgrow => ?_⟩
  · cases ha : x.a with
    | none =>
      rw [ha] at h4
      simp only at h4
      have hn0 : n = 0 := by omega
      have hnew : new = [] := by
        cases new with
        | nil => rfl
        | cons a b => rw [hn0] at hn; simp at hn
      subst hnew hn0
      simp only [stO]
      refine H _ _ ⟨h1, ?_, ?_, ?_⟩ rfl
      · simpa using h2
      · show x.len + 0 ≤ x.cap; omega
      · show x.cap = 0; exact h4
    | some a =>
      rw [ha] at h4
      obtain ⟨g1, g2, g3, b, g4, g5, g6, g7⟩ := h4
      have e1 : (x.len + n) * size = cs.length + new.length := by rw [Nat.add_mul, h2, hn]
      have e2 : cs.length + new.length ≤ b.cells.length := by rw [g6, ← e1]; exact Nat.mul_le_mul_right _ hfit
      simp only [stO]
      refine ⟨b, by rw [add_block]; exact g4, add_spot g2 _, g5, ?_, hleaf, ?_⟩
      · rw [add_off]; omega
      · rw [add_block, add_off]
        refine H _ _ ⟨?_, ?_, hfit, ?_⟩ rfl
        · intro k bk hk
          rw [Hp.ins_ne (fun hh => by subst hh; rw [g3] at hk; cases hk)]
          exact h1 k bk hk
        · show (x.len + n) * size = _; rw [List.length_append]; exact e1
        · refine ⟨g1, g2, g3, _, Hp.ins_same _ _ _, g5, ?_, ?_⟩
          · show (splice b.cells (a.off + x.len * size) new).length = _
            unfold splice
            simp only [List.length_append, List.length_take, List.length_drop]
            show _ = x.cap * size
            rw [← g6, g1, h2]; omega
          · show (splice b.cells (a.off + x.len * size) new).take _ = _
            have hoff : a.off + x.len * size = cs.length := by rw [g1, h2]; omega
            unfold splice
            rw [hoff, g7, List.append_assoc, List.length_append, List.take_append]
            simp only [Nat.add_sub_cancel_left]
            rw [List.take_of_length_le (by omega), List.take_append, List.take_of_length_le (Nat.le_refl _)]
            simp
  · refine ⟨cs, ?_, fun bk e c hc hfr => ?_⟩
    · rw [h2]; exact hrd.2
    · refine H _ _ ⟨Hp.le_trans h1 (Hp.le_ins hfr), ?_, hc, ?_⟩ rfl
      · show (x.len + n) * size = _; rw [List.length_append, Nat.add_mul, h2, hn]
      · refine ⟨rfl, rfl, ?_, _, Hp.ins_same _ _ _, rfl, ?_, ?_⟩
        · cases hk : h0 bk with
          | none => rfl
          | some b => have := h1 _ _ hk; rw [hfr] at this; cases this
        · show (cs ++ new ++ repl (c - (x.len + n)) zero).length = c * size
          have hr : (repl (c - (x.len + n)) zero).length = (c - (x.len + n)) * size := by
            unfold repl
            simp [hz]
          rw [List.length_append, List.length_append, hr, hn, ← h2, ← Nat.add_mul, ← Nat.add_mul]
          congr 1; omega
        · show (cs ++ new ++ repl (c - (x.len + n)) zero).take _ = cs ++ new
          rw [List.take_append_of_le_length (by simp)]
          exact List.take_of_length_le (Nat.le_refl _)

theorem new_own {h : Hp} {size n : Nat} {cells : List Value} {K : Addr → Hp → Prop} (hn : cells.length = n * size)
    (H : ∀ b h', h b = none → Own h h' size ⟨some ⟨b, 0, none⟩, n, n⟩ cells → K ⟨b, 0, none⟩ h') : newP cells K h := by
  intro b e hb
  refine H b _ hb ⟨Hp.le_ins hb, hn.symm, Nat.le_refl _, rfl, rfl, hb, _, Hp.ins_same _ _ _, rfl, hn, List.take_of_length_le (Nat.le_refl _)⟩

theorem repl_len {n : Nat} {zero : List Value} : (repl n zero).length = n * zero.length := by
  unfold repl; simp
theorem mk_own {h : Hp} {size bytes : Nat} {len cap : Int} {zero : List Value} {K : Sl → Hp → Prop} (l c : Nat) (hl : len = l) (hc : cap = c) (hlc : l ≤ c) (hb : bytes * c ≤ 140737488355328) (hb2 : c ≤ 140737488355328) (hz : zero.length = size)
    (H : ∀ x h', x.len = l → x.cap = c → Own h h' size x (repl l zero) → K x h') : mkP len cap bytes zero K h := by
  subst hl hc
  refine ⟨by omega, by omega, (Int.natCast_mul bytes c) ▸ (Int.ofNat_le.2 hb), by omega, fun b e hb => ?_⟩
  have e1 : ((c : Int).toNat) = c := rfl
  have e2 : ((l : Int).toNat) = l := rfl
  rw [e1, e2]
  refine H _ _ rfl rfl ⟨Hp.le_ins hb, by rw [repl_len, hz], hlc, rfl, rfl, hb, _, Hp.ins_same _ _ _, rfl, by rw [repl_len, hz], ?_⟩
  show (repl c zero).take (repl l zero).length = repl l zero
  have : repl c zero = repl l zero ++ repl (c - l) zero := by
    unfold repl
    rw [← List.flatten_append, List.replicate_append_replicate]
    congr 2; omega
  rw [this, List.take_append_of_le_length (Nat.le_refl _), List.take_of_length_le (Nat.le_refl _)]

theorem splice_len {cs vs : List Value} {off : Nat} (h : off + vs.length ≤ cs.length) : (splice cs off vs).length = cs.length := by
  unfold splice; simp; omega

theorem splice_take {cs vs bs : List Value} {off : Nat} (h : off + vs.length ≤ cs.length) (hb : bs.take cs.length = cs) : (splice bs off vs).take cs.length = splice cs off vs := by
  have e : bs = cs ++ bs.drop cs.length := by conv => lhs; rw [← List.take_append_drop cs.length bs, hb]
  have e2 : splice bs off vs = splice cs off vs ++ bs.drop cs.length := by
    rw [e]
    unfold splice
    rw [List.take_append_of_le_length (by omega), List.drop_append_of_le_length h]
    simp [List.append_assoc]
  rw [e2, List.take_append_of_le_length (by rw [splice_len h]; exact Nat.le_refl _), List.take_of_length_le (by rw [splice_len h]; exact Nat.le_refl _)]

theorem st_own {h0 h : Hp} {size : Nat} {x : Sl} {cs vs : List Value} {i : Int} {K : Hp → Prop} (k : Nat) (ho : Own h0 h size x cs) (hi : i = k) (hk : k < x.len) (hv : vs.length = size) (hsz : 0 < size) (hleaf : vs.all Value.leaf = true)
    (H : ∀ h', Own h0 h' size x (splice cs (k * size) vs) → K h') : idxP x i size fun a => stP a vs K h := by
  subst hi
  obtain ⟨h1, h2, h3, h4⟩ := ho
  refine ⟨by omega, by omega, ?_⟩
  cases ha : x.a with
  | none => rw [ha] at h4; simp only at h4; omega
  | some a =>
    rw [ha] at h4
    obtain ⟨g1, g2, g3, b, g4, g5, g6, g7⟩ := h4
    have e0 : ((k : Int).toNat) = k := rfl
    have e1 : k * size + size ≤ cs.length := by
      rw [← h2]
      have := Nat.mul_le_mul_right size (show k + 1 ≤ x.len by omega)
      rw [Nat.add_mul] at this; omega
    have e2 : cs.length ≤ b.cells.length := by rw [g6, ← h2]; exact Nat.mul_le_mul_right _ h3
    show ptrK (some a) _
    simp only [ptrK, e0]
    refine ⟨b, by rw [add_block]; exact g4, add_spot g2 _, g5, by rw [add_off]; omega, hleaf, ?_⟩
    rw [add_block, add_off, g1, Nat.zero_add]
    refine H _ ⟨?_, ?_, h3, ?_⟩
    · intro kk bk hkk
      rw [Hp.ins_ne (fun hh => by subst hh; rw [g3] at hkk; cases hkk)]
      exact h1 kk bk hkk
    · rw [splice_len (by omega)]; exact h2
    · rw [ha]
      refine ⟨g1, g2, g3, _, Hp.ins_same _ _ _, g5, ?_, ?_⟩
      · show (splice b.cells (k * size) vs).length = _
        rw [splice_len (by omega)]; exact g6
      · show (splice b.cells (k * size) vs).take _ = _
        rw [splice_len (by omega)]
        exact splice_take (by omega) g7

theorem splice_one {cs : List Value} {k : Nat} {v : Value} : splice cs k [v] = cs.take k ++ v :: cs.drop (k + 1) := by
  unfold splice; simp

theorem bytes_of {h : Hp} {s : ByteArray} {K : Sl → Hp → Prop} (H : ∀ x h', h.le h' → Rd h' 1 x (bytesOfS s) → x.len = s.size → K x h') : bytesP s K h := by
  intro b e c fz hc hb
  have hl : (bytesOfS s).length = s.size := by simp [bytesOfS]
  refine H _ _ (Hp.le_ins hb) ⟨by rw [hl]; show s.size * 1 = s.size; omega, ?_⟩ rfl
  simp only [cellsAtO]
  have hcell := cellsAt_block (h := h.ins b ⟨bytesOfS s ++ List.replicate (c - s.size) (Value.int .u8 0), e, fz⟩) (a := ⟨b, 0, none⟩) (Hp.ins_same _ _ _) rfl (n := (bytesOfS s).length) (by simp only [List.length_append]; omega)
  rw [hcell]
  simp

/-- A cell of a slice of plain values. -/
theorem rd_one {h : Hp} {x : Sl} {cs : List Value} {v : Value} {i : Int} {Ka : Addr → Prop} (k : Nat) (hr : Rd h 1 x cs) (hi : i = k) (hv : cs[k]? = some v)
    (H : ∀ a, h.cell a = some v → Ka a) : idxP x i 1 Ka := by
  have hk : k < x.len := by
    have h1 := hr.1
    rcases Nat.lt_or_ge k cs.length with h2 | h2
    · omega
    · rw [List.getElem?_eq_none h2] at hv; cases hv
  refine idxP_of k hr hi hk (by decide) fun a ha => H a ?_
  have := ha 0 v (by rw [Nat.mul_one]; exact hv)
  rwa [addr_add_zero] at this

end Den
