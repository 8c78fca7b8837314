/-
  'dcore' is sound: every operation, one by one.
-/
import Derived.Test.YtnahjnlkpmbhlaaDen5
namespace Den
open Go
variable {ro : Option Nat} {nn : Nat}

section
variable {C : Cfg} {B : Base} {e : Env} {h : Hp} {a : Act} {w : World} {K : Up → Hp → Prop} {o : Oper} {Q : Exit → Act → World → Prop}

theorem ptrK_run {p : Option Addr} {K : Addr → Prop} (hk : ptrK p K) : ∃ ad, p = some ad ∧ K ad := by
  cases p with
  | none => exact hk.elim
  | some ad => exact ⟨ad, rfl, hk⟩

theorem tmp_box (hR : Rel C B e h a w) {s : Nat} {cs : List Value} (hb : e s = .box cs) :
    ∃ b el, a.tmps[s]? = some (.pointer (some ⟨b, 0, none⟩)) ∧ w.heap[b]? = some (.cells cs.toArray el (0, 0)) := by
  obtain ⟨_, b, el, h1, h2, _, _⟩ := hR.hid s (by rw [hb]; rfl)
  rw [hb] at h1 h2
  exact ⟨b, el, h1, h2⟩

theorem tmp_ref (hR : Rel C B e h a w) {s off : Nat} (hb : e s = .ref off) : ∃ cs b el, e (C.rt s) = .box cs ∧
    a.tmps[C.rt s]? = some (.pointer (some ⟨b, 0, none⟩)) ∧ a.tmps[s]? = some (.pointer (some ⟨b, off, none⟩)) ∧ w.heap[b]? = some (.cells cs.toArray el (0, 0)) := by
  obtain ⟨cs, b, h1, h2, h3⟩ := hR.refs s off hb
  obtain ⟨b', el, h4, h5⟩ := tmp_box hR h1
  rw [h2] at h4
  simp only [Option.some.injEq, Value.pointer.injEq, Addr.mk.injEq] at h4
  obtain rfl := h4.1
  exact ⟨cs, b, el, h1, h2, h3, h5⟩

theorem core_load (hR : Rel C B e h a w) {t : TypeId} {x : Operand} (ho : o.op = .load t x) (hk : dcore C o e h K) : o.wpIn (wideR ro) nn C.P a w (After C B o e K) Q := by
  unfold dcore at hk; rw [ho] at hk; simp only at hk
  split at hk
  · rename_i s
    split at hk
    · rename_i cs hb
      obtain ⟨b, el, h1, h2⟩ := tmp_box hR hb
      obtain ⟨v, hv, hrun⟩ := partT_load (P := C.P) h2 hk
      refine wp_val (w' := w) (v := v) ?_ (retV_after hR hv)
      simp only [execOp, ho, eval_tmp h1, Instr.loadAt, Instr.sureAddr, Sem.run_bind, Sem.run_pure, Result.andThen_ok, hrun]
    · rename_i off hb
      obtain ⟨cs, b, el, h1, h2, h3, h4⟩ := tmp_ref hR hb
      rw [h1] at hk; simp only at hk
      obtain ⟨v, hv, hrun⟩ := partT_load (P := C.P) h4 hk
      refine wp_val (w' := w) (v := v) ?_ (retV_after hR hv)
      simp only [execOp, ho, eval_tmp h3, Instr.loadAt, Instr.sureAddr, Sem.run_bind, Sem.run_pure, Result.andThen_ok, hrun]
    · rename_i p hb
      split at hk
      · exact hk.elim
      obtain ⟨ad, rfl, hk2⟩ := ptrK_run hk
      obtain ⟨v, hv, hrun⟩ := ldT_sound (P := C.P) hR.sub hk2
      refine wp_val (w' := w) (v := v) ?_ (retV_after hR hv)
      simp only [execOp, ho, eval_tmp (hR.vals s _ hb), Instr.loadAt, Instr.sureAddr, Sem.run_bind, Sem.run_pure, Result.andThen_ok, hrun]
    · exact hk.elim
  · exact hk.elim

theorem cells_size {v : Value} {t : TypeId} (h1 : Nat.beq v.cells.toList.length (C.P.cellsOf t) = true) (h2 : v.cells.toList.all Value.leaf = true) (hi : ∃ i, C.P.info? t = some i) :
    ∃ n, (Go.sizeOf t).run C.P w = .ok n w ∧ v.cells.size = n := by
  obtain ⟨i, hi⟩ := hi
  refine ⟨i.size, sizeOf_run hi, ?_⟩
  have := Nat.eq_of_beq_eq_true h1
  rw [cellsOf_info hi] at this
  simpa using this

theorem info_of_cells {t : TypeId} {n : Nat} (h : C.P.cellsOf t = n) (hn : n ≠ 0) : ∃ i, C.P.info? t = some i := by
  cases hi : C.P.info? t with
  | none => simp [Program.cellsOf, hi] at h; omega
  | some i => exact ⟨i, rfl⟩

theorem core_store (hR : Rel C B e h a w) {t : TypeId} {x y : Operand} (ho : o.op = .store t x y) (hk : dcore C o e h K) : o.wpIn (wideR ro) nn C.P a w (After C B o e K) Q := by
  unfold dcore at hk; rw [ho] at hk; simp only at hk
  replace hk := opv_run hR hk
  split at hk
  · rename_i hsz hl
    split at hk
    · rename_i s
      split at hk
      · rename_i cs hb
        split at hk
        · rename_i hi hdst hle
          have hle := Nat.le_of_ble_eq_true hle
          obtain ⟨n, hn, hsn⟩ := cells_size (w := w) hsz hl (Option.isSome_iff_exists.1 hi)
          obtain ⟨b, el, h1, h2⟩ := tmp_box hR hb
          have hrun := storeCells_run (P := C.P) (i := 0) (off := 0) h2 (by simpa using hle) hl
          refine wp_none (w' := setBlk w b (.cells (splice cs 0 (a.eval y).cells.toList).toArray el (0, 0))) ?_ ⟨_, _, hk, ?_, ?_⟩
          rotate_left
          · rw [hdst]
            exact hR.setBox hb h1 (setBlk_same (block_lt h2)) (fun k hkb => setBlk_ne hkb) setBlk_size rfl rfl rfl (Nat.le_refl _)
          · intro d hd; simp only [Up.dst, Option.some.injEq] at hd; subst hd; simp [modsO, ho]
          · simp only [execOp, ho, eval_tmp h1, Instr.storeAt, Instr.sureAddr, Sem.run_bind, Sem.run_pure, Result.andThen_ok, storeVar, hn, hsn, ne_eq, not_true_eq_false, if_false, hrun]
        · exact hk.elim
      · rename_i off hb
        obtain ⟨cs, b, el, h1, h2, h3, h4⟩ := tmp_ref hR hb
        rw [h1] at hk; simp only at hk
        split at hk
        · rename_i hi hdst hle
          have hle := Nat.le_of_ble_eq_true hle
          obtain ⟨n, hn, hsn⟩ := cells_size (w := w) hsz hl (Option.isSome_iff_exists.1 hi)
          have hrun := storeCells_run (P := C.P) (i := 0) (off := off) h4 (by simpa using hle) hl
          refine wp_none (w' := setBlk w b (.cells (splice cs off (a.eval y).cells.toList).toArray el (0, 0))) ?_ ⟨_, _, hk, ?_, ?_⟩
          rotate_left
          · rw [hdst]
            exact hR.setBox h1 h2 (setBlk_same (block_lt h4)) (fun k hkb => setBlk_ne hkb) setBlk_size rfl rfl rfl (Nat.le_refl _)
          · intro d hd; simp only [Up.dst, Option.some.injEq] at hd; subst hd; simp [modsO, ho]
          · simp only [execOp, ho, eval_tmp h3, Instr.storeAt, Instr.sureAddr, Sem.run_bind, Sem.run_pure, Result.andThen_ok, storeVar, hn, hsn, ne_eq, not_true_eq_false, if_false, hrun]
            simp
        · exact hk.elim
      · rename_i p hb
        split at hk
        · exact hk.elim
        obtain ⟨ad, rfl, hk2⟩ := ptrK_run hk
        split at hk2
        · rename_i hi hdst
          obtain ⟨n, hn, hsn⟩ := cells_size (w := w) hsz hl (Option.isSome_iff_exists.1 hi)
          obtain ⟨h', w', hK, hrun, hs', hf, hd⟩ := stP_run (C := C) hR.sub hk2
          refine wp_none (w' := w') ?_ ⟨_, _, hK, ?_, ?_⟩
          rotate_left
          · rw [hdst]
            exact hR.step hs' hf hd
          · intro d hd; cases hd
          · simp only [execOp, ho, eval_tmp (hR.vals s _ hb), Instr.storeAt, Instr.sureAddr, Sem.run_bind, Sem.run_pure, Result.andThen_ok, storeVar, hn, hsn, ne_eq, not_true_eq_false, if_false, hrun]
        · exact hk2.elim
      · exact hk.elim
    · exact hk.elim
  · exact hk.elim


theorem asField_run {t : TypeId} {f : Nat} {K : Nat → Prop} (hk : asField C.P t f K) :
    ∃ fs fd i, C.P.underlying t = some (.struct fs) ∧ fs[f]? = some fd ∧ C.P.info? fd.type = some i ∧ i.size ≠ 0 ∧ K fd.offset := by
  unfold asField at hk
  split at hk
  · rename_i fs hu
    split at hk
    · rename_i fd hf
      split at hk
      · exact hk.elim
      · rename_i hz
        have hz : C.P.cellsOf fd.type ≠ 0 := fun hh => by rw [hh] at hz; cases hz
        obtain ⟨i, hi⟩ := info_of_cells (C := C) rfl hz
        exact ⟨fs, fd, i, hu, hf, hi, by rw [cellsOf_info hi] at hz; exact hz, hk⟩
    · exact hk.elim
  · exact hk.elim

theorem fieldAt_run {t : TypeId} {f : Nat} {fs : Array Field} {fd : Field} {i : TypeInfo} (hu : C.P.underlying t = some (.struct fs)) (hf : fs[f]? = some fd)
    (hi : C.P.info? fd.type = some i) (hz : i.size ≠ 0) (ad : Addr) : (Instr.fieldAt t (.pointer (some ad)) f).run C.P w = .ok (.pointer (some (ad.add fd.offset))) w := by
  simp only [Instr.fieldAt, Sem.run_bind, underlying_run hu, Result.andThen_ok, hf, Instr.sureAddr, Sem.run_pure, fieldPlace, sizeOf_run hi, if_neg hz]

theorem core_fieldAddr (hR : Rel C B e h a w) {t : TypeId} {x : Operand} {f : Nat} (ho : o.op = .fieldAddr t x f) (hk : dcore C o e h K) : o.wpIn (wideR ro) nn C.P a w (After C B o e K) Q := by
  unfold dcore at hk; rw [ho] at hk; simp only at hk
  obtain ⟨fs, fd, i, hu, hf, hi, hz, hk2⟩ := asField_run hk
  clear hk
  split at hk2
  · rename_i s
    split at hk2
    · rename_i cs hb
      obtain ⟨b, el, h1, h2⟩ := tmp_box hR hb
      refine wp_val (w' := w) ?_ (retR_after hR hb h1 hk2)
      simp only [execOp, ho, eval_tmp h1, Sem.run_bind, fieldAt_run hu hf hi hz, Result.andThen_ok, Sem.run_pure, addr_add, Nat.zero_add]
    · rename_i off hb
      obtain ⟨cs, b, el, h1, h2, h3, h4⟩ := tmp_ref hR hb
      refine wp_val (w' := w) ?_ (retR_after hR h1 h2 hk2)
      simp only [execOp, ho, eval_tmp h3, Sem.run_bind, fieldAt_run hu hf hi hz, Result.andThen_ok, Sem.run_pure, addr_add]
    · rename_i p hb
      obtain ⟨ad, rfl, hk3⟩ := ptrK_run hk2
      refine wp_val (w' := w) ?_ (retV_after hR hk3)
      simp only [execOp, ho, eval_tmp (hR.vals s _ hb), Sem.run_bind, fieldAt_run hu hf hi hz, Result.andThen_ok, Sem.run_pure]
    · exact hk2.elim
  · exact hk2.elim

theorem idxC_run {n : Int} {len : Nat} {p : Prop} (hk : idxC n len p) : (0 ≤ n ∧ n < len) ∧ p := by
  unfold idxC at hk
  split at hk
  · rename_i hd; exact ⟨of_decide_eq_true hd, hk⟩
  · exact hk.elim

theorem indexAt_array {t el : TypeId} {len : Nat} {k : IntKind} {n : Int} {i : TypeInfo} (hu : C.P.underlying t = some (.array len el)) (hi : C.P.info? el = some i)
    (hn : 0 ≤ n ∧ n < len) (ad : Addr) : (Instr.indexAt t (.pointer (some ad)) (.int k n)).run C.P w = .ok (.pointer (some (ad.add (n.toNat * C.P.cellsOf el)))) w := by
  simp only [Instr.indexAt, asIntOf, Instr.sureAddr, Sem.run_bind, Sem.run_pure, underlying_run hu, Result.andThen_ok]
  rw [if_pos hn]
  simp [sizeOf_run hi, cellsOf_info hi]

theorem core_indexAddr (hR : Rel C B e h a w) {t : TypeId} {x ix : Operand} (ho : o.op = .indexAddr t x ix) (hk : dcore C o e h K) : o.wpIn (wideR ro) nn C.P a w (After C B o e K) Q := by
  unfold dcore at hk; rw [ho] at hk; simp only at hk
  replace hk := opv_run hR hk
  split at hk
  · rename_i k n hix
    split at hk
    · rename_i el hu
      obtain ⟨⟨i, hi⟩, hk2⟩ := okT_run hk
      clear hk
      replace hk2 := opv_run hR hk2
      split at hk2
      · rename_i ba l c hx
        obtain ⟨h0, h1, hk3⟩ := hk2
        obtain ⟨ad, hba, hk4⟩ := ptrK_run hk3
        simp only at hba h1
        subst hba
        refine wp_val (w' := w) ?_ (retV_after hR hk4)
        simp only [execOp, ho, hix, hx, Instr.indexAt, asIntOf, Sem.run_bind, Sem.run_pure, underlying_run hu, Result.andThen_ok, cellsOf_info hi]
        rw [if_pos ⟨h0, h1⟩]
        simp [sizeOf_run hi]
      · exact hk2.elim
    · rename_i len el hu
      obtain ⟨⟨i, hi⟩, hk2⟩ := okT_run hk
      clear hk
      obtain ⟨hn, hk3⟩ := idxC_run hk2
      clear hk2
      split at hk3
      · rename_i s
        split at hk3
        · rename_i cs hb
          obtain ⟨b, el', h1, h2⟩ := tmp_box hR hb
          refine wp_val (w' := w) ?_ (retR_after hR hb h1 hk3)
          simp only [execOp, ho, hix, eval_tmp h1, Sem.run_bind, indexAt_array hu hi hn, Result.andThen_ok, Sem.run_pure, addr_add, Nat.zero_add]
        · rename_i off hb
          obtain ⟨cs, b, el', h1, h2, h3, h4⟩ := tmp_ref hR hb
          refine wp_val (w' := w) ?_ (retR_after hR h1 h2 hk3)
          simp only [execOp, ho, hix, eval_tmp h3, Sem.run_bind, indexAt_array hu hi hn, Result.andThen_ok, Sem.run_pure, addr_add]
        · rename_i p hb
          obtain ⟨ad, rfl, hk4⟩ := ptrK_run hk3
          refine wp_val (w' := w) ?_ (retV_after hR hk4)
          simp only [execOp, ho, hix, eval_tmp (hR.vals s _ hb), Sem.run_bind, indexAt_array hu hi hn, Result.andThen_ok, Sem.run_pure]
        · exact hk3.elim
      · exact hk3.elim
    · exact hk.elim
  · exact hk.elim

theorem strIdx_run {s : ByteArray} {n : Int} {K : Int → Prop} (hk : strIdx s n K) {t : TypeId} {k : IntKind} (hu : C.P.underlying t = some .string) :
    ∃ b : Int, K b ∧ (Instr.index t (.string s) (.int k n)).run C.P w = .ok (.int .u8 b) w := by
  obtain ⟨h0, b, hb, hk⟩ := hk
  refine ⟨_, hk, ?_⟩
  simp only [Instr.index, asIntOf, Sem.run_bind, Sem.run_pure, underlying_run hu, Result.andThen_ok, if_pos h0, hb]

theorem core_index (hR : Rel C B e h a w) {t : TypeId} {x ix : Operand} (ho : o.op = .index t x ix) (hk : dcore C o e h K) : o.wpIn (wideR ro) nn C.P a w (After C B o e K) Q := by
  unfold dcore at hk; rw [ho] at hk; simp only at hk
  replace hk := opv_run hR (opv_run hR hk)
  split at hk
  · rename_i k n s hix hx
    split at hk
    · rename_i hu
      obtain ⟨b, hb, hrun⟩ := strIdx_run (C := C) (w := w) (k := k) hk hu
      refine wp_val (w' := w) ?_ (retV_after hR hb)
      simp only [execOp, ho, hix, hx, Sem.run_bind, hrun, Result.andThen_ok, Sem.run_pure]
    · exact hk.elim
  · rename_i k n cs hix hx
    split at hk
    · rename_i len el hu
      obtain ⟨⟨i, hi⟩, hk2⟩ := okT_run hk
      obtain ⟨hn, hk3⟩ := idxC_run hk2
      obtain ⟨v, hv, hrun⟩ := partT_part (P := C.P) (w := w) hk3
      refine wp_val (w' := w) ?_ (retV_after hR hv)
      rw [cellsOf_info hi] at hrun
      have hrun' : (part el cs (n.toNat * i.size)).run C.P w = .ok v w := by simpa using hrun
      simp only [execOp, ho, hix, hx, Instr.index, asIntOf, Sem.run_bind, Sem.run_pure, underlying_run hu, Result.andThen_ok]
      rw [if_pos hn]
      simp only [Sem.run_bind, sizeOf_run hi, Result.andThen_ok, hrun']
    · exact hk.elim
  · exact hk.elim

theorem core_field (hR : Rel C B e h a w) {t : TypeId} {x : Operand} {f : Nat} (ho : o.op = .field t x f) (hk : dcore C o e h K) : o.wpIn (wideR ro) nn C.P a w (After C B o e K) Q := by
  unfold dcore at hk; rw [ho] at hk; simp only at hk
  obtain ⟨fs, fd, i, hu, hf, hi, hz, hk2⟩ := asField_run hk
  clear hk
  replace hk2 := opv_run hR hk2
  cases hx : a.eval x with
  | agg cs =>
    rw [hx] at hk2
    simp only [aggC, hu, hf] at hk2
    obtain ⟨v, hv, hrun⟩ := partT_part (P := C.P) (w := w) hk2
    refine wp_val (w' := w) ?_ (retV_after hR hv)
    have hrun' : (part fd.type cs fd.offset).run C.P w = .ok v w := by simpa using hrun
    simp only [execOp, ho, hx, Instr.field, Sem.run_bind, Sem.run_pure, underlying_run hu, Result.andThen_ok, hf, asAgg, hrun']
  | _ => rw [hx] at hk2; exact hk2.elim

theorem boP_run (hR : Rel C B e h a w) {lo : Option Operand} {d : Int} {K : Int → Prop} (hk : boP e lo d K) :
    ∃ n, K n ∧ ((lo = none ∧ n = d) ∨ ∃ x k, lo = some x ∧ a.eval x = .int k n) := by
  unfold boP at hk
  split at hk
  · exact ⟨_, hk, .inl ⟨rfl, rfl⟩⟩
  · rename_i x
    replace hk := opv_run hR hk
    split at hk
    · rename_i k n hx; exact ⟨n, hk, .inr ⟨x, k, rfl, hx⟩⟩
    · exact hk.elim

theorem sliceBound_run {k : IntKind} {n : Int} {y : Nat} {c : BoundsCode} (hn : 0 ≤ n ∧ n ≤ y) : (Instr.sliceBound (.int k n) y c).run C.P w = .ok n.toNat w := by
  simp only [Instr.sliceBound, asIntOf, Sem.run_bind, Sem.run_pure, Result.andThen_ok]
  rw [if_pos hn]; rfl

theorem sliceBounds_run (hR : Rel C B e h a w) {lo hi : Option Operand} {isS : Bool} {len cap : Nat} {l u : Int} (h0 : 0 ≤ l) (h1 : l ≤ u) (h2 : u ≤ cap)
    (hl : (lo = none ∧ l = 0) ∨ ∃ x k, lo = some x ∧ a.eval x = .int k l) (hu : (hi = none ∧ u = len) ∨ ∃ x k, hi = some x ∧ a.eval x = .int k u) :
    (Instr.sliceBounds isS len cap (lo.map a.eval) (hi.map a.eval) none).run C.P w = .ok (l.toNat, u.toNat, cap) w := by
  rcases hu with ⟨rfl, rfl⟩ | ⟨x, k, rfl, hx⟩
  · rcases hl with ⟨rfl, rfl⟩ | ⟨y, k', rfl, hy⟩
    · simp [Instr.sliceBounds]
    · simp only [Instr.sliceBounds, Option.map_none, Option.map_some, hy, Sem.run_bind, Sem.run_pure, Result.andThen_ok]
      rw [sliceBound_run ⟨h0, h1⟩]; simp
  · rcases hl with ⟨rfl, rfl⟩ | ⟨y, k', rfl, hy⟩
    · simp only [Instr.sliceBounds, Option.map_none, Option.map_some, hx, Sem.run_bind, Sem.run_pure, Result.andThen_ok]
      rw [sliceBound_run ⟨by omega, h2⟩]; simp
    · simp only [Instr.sliceBounds, Option.map_some, hx, hy, Sem.run_bind, Sem.run_pure, Result.andThen_ok, Option.map_none]
      rw [sliceBound_run ⟨by omega, h2⟩]; simp only [Result.andThen_ok]
      rw [sliceBound_run ⟨h0, by omega⟩]; simp

theorem core_slice (hR : Rel C B e h a w) {t : TypeId} {x : Operand} {lo hi : Option Operand} (ho : o.op = .slice t x lo hi none) (hk : dcore C o e h K) : o.wpIn (wideR ro) nn C.P a w (After C B o e K) Q := by
  unfold dcore at hk; rw [ho] at hk; simp only at hk
  replace hk := opv_run hR hk
  split at hk
  · rename_i s hx
    split at hk
    · rename_i hu
      obtain ⟨l, hk1, hl⟩ := boP_run hR hk
      obtain ⟨u, hk2, hu2⟩ := boP_run hR hk1
      obtain ⟨h0, h1, h2, hk3⟩ := hk2
      refine wp_val (w' := w) ?_ (retV_after hR hk3)
      simp only [execOp, ho, hx, Instr.sliceAt, Sem.run_bind, underlying_run hu, Result.andThen_ok, Instr.slice, Option.map_none, Option.isSome_none, Bool.false_eq_true, if_false, Sem.run_pure,
        sliceBounds_run hR h0 h1 h2 hl hu2]
    · exact hk.elim
  · rename_i ad n c hx
    obtain ⟨el, i, hu, hi, hk1⟩ := elemOf_run hk
    obtain ⟨l, hk2, hl⟩ := boP_run hR hk1
    obtain ⟨u, hk3, hu2⟩ := boP_run hR hk2
    obtain ⟨h0, h1, h2, hk4⟩ := hk3
    refine wp_val (w' := w) ?_ (retV_after hR hk4)
    simp only [execOp, ho, hx, Instr.sliceAt, Sem.run_bind, underlying_run hu, Result.andThen_ok, Instr.slice, Option.map_none, Sem.run_pure,
      sliceBounds_run hR h0 h1 h2 hl hu2, sizeOf_run hi, Sl.cut, cellsOf_info hi]
  · exact hk.elim

end
end Den
