/-
  Runs of the model's operations on memory: loads, stores, new rows, append, make.
-/
import Derived.Test.YtnahjnlkpmbhlaaDen3
namespace Den
open Go

def setBlk (w : World) (b : Nat) (o : Obj) : World := { w with heap := w.heap.setIfInBounds b o }

section
variable {P : Program} {w : World}

theorem setBlk_size {b : Nat} {o : Obj} : (setBlk w b o).heap.size = w.heap.size := by simp [setBlk]
theorem setBlk_same {b : Nat} {o : Obj} (h : b < w.heap.size) : (setBlk w b o).heap[b]? = some o := by simp [setBlk, Array.getElem?_setIfInBounds, h]
theorem setBlk_ne {b k : Nat} {o : Obj} (h : k ≠ b) : (setBlk w b o).heap[k]? = w.heap[k]? := by simp [setBlk, Array.getElem?_setIfInBounds, Ne.symm h]
theorem setBlk_setBlk {b : Nat} {o o' : Obj} : setBlk (setBlk w b o) b o' = setBlk w b o' := by
  simp [setBlk]
theorem setBlk_self {b : Nat} {o : Obj} (h : w.heap[b]? = some o) : setBlk w b o = w := by
  have hlt := block_lt h
  unfold setBlk
  have : w.heap.setIfInBounds b o = w.heap := by
    apply Array.ext_getElem?
    intro i
    rw [Array.getElem?_setIfInBounds]
    by_cases hi : b = i
    · subst hi; simp only [if_true, hlt]; exact h.symm
    · simp [hi]
  rw [this]

theorem setCell_blk {b off : Nat} {c : Array Value} {el : TypeId} {fz : Nat × Nat} {v : Value} (h : w.heap[b]? = some (.cells c el fz)) :
    w.setCell ⟨b, off, none⟩ v = setBlk w b (.cells (c.setIfInBounds off v) el fz) := by
  have hlt := block_lt h
  unfold World.setCell setBlk
  have : ∀ f : Obj → Obj, w.heap.modify b f = w.heap.setIfInBounds b (f (.cells c el fz)) := by
    intro f
    apply Array.ext_getElem?
    intro i
    rw [Array.getElem?_setIfInBounds, Array.getElem?_modify]
    by_cases hi : b = i
    · subst hi; simp only [if_true, hlt, h, Option.map_some]
    · simp [hi]
  simp [this]

theorem addr_add {b off i : Nat} : (⟨b, off, none⟩ : Addr).add i = ⟨b, off + i, none⟩ := by
  unfold Addr.add; by_cases h : i = 0 <;> simp [h]

theorem leaf_one {v : Value} (h : Value.leaf v = true) : v.oneCell' = true := by cases v <;> simp_all [Value.leaf, Value.oneCell']

theorem splice_cons {c : List Value} {off : Nat} {v : Value} {rest : List Value} (h : off < c.length) :
    splice (c.set off v) (off + 1) rest = splice c off (v :: rest) := by
  unfold splice
  have h1 : (c.set off v).take (off + 1) = c.take off ++ [v] := by
    rw [List.take_succ_eq_append_getElem (by simpa using h)]
    have : (c.set off v).take off = c.take off := by rw [List.take_set_of_le (Nat.le_refl _)]
    simp [this]
  have h2 : (c.set off v).drop (off + 1 + rest.length) = c.drop (off + (v :: rest).length) := by
    rw [List.drop_set_of_lt (by omega)]; simp; congr 1; omega
  rw [h1, h2]; simp

theorem splice_nil {c : List Value} {off : Nat} : splice c off [] = c := by simp [splice]
theorem splice_length {c vs : List Value} {off : Nat} (h : off + vs.length ≤ c.length) : (splice c off vs).length = c.length := by
  simp [splice]; omega

theorem storeCells_run : ∀ {vs : List Value} {b off i : Nat} {c : Array Value} {el : TypeId} {w : World},
    w.heap[b]? = some (.cells c el (0, 0)) → off + i + vs.length ≤ c.size → vs.all Value.leaf = true →
    (storeCells ⟨b, off, none⟩ vs i).run P w = .ok () (setBlk w b (.cells (splice c.toList (off + i) vs).toArray el (0, 0)))
  | [], b, off, i, c, el, w, h, _, _ => by simp [storeCells, splice_nil, setBlk_self h]
  | v :: rest, b, off, i, c, el, w, h, hlen, hl => by
    simp only [List.all_cons, Bool.and_eq_true] at hl
    simp only [List.length_cons] at hlen
    have hc : w.cell? ⟨b, off + i, none⟩ = some c[off + i] := by
      unfold World.cell?; simp only [h]; simp [show off + i < c.size by omega]
    have hf : w.frozen? ⟨b, off + i, none⟩ = false := by
      unfold World.frozen?; simp only [h]; simp
    simp only [storeCells, Sem.run_bind, addr_add, run_store P w _ v .plain (leaf_one hl.1), hc, hf, setCell_blk h]
    simp only [Bool.false_eq_true, if_false, Result.andThen_ok]
    have hn := setBlk_same (w := w) (o := .cells (c.setIfInBounds (off + i) v) el (0, 0)) (block_lt h)
    rw [storeCells_run hn (by simp; omega) hl.2, setBlk_setBlk]
    congr 4
    have := splice_cons (c := c.toList) (v := v) (rest := rest) (show off + i < c.toList.length by simp; omega)
    rw [← this]
    simp [Nat.add_assoc]

theorem loadFrom_block : ∀ {n : Nat} {b off i : Nat} {c : List Value} {el : TypeId} {fz : Nat × Nat} {acc : Array Value},
    w.heap[b]? = some (.cells c.toArray el fz) → off + i + n ≤ c.length →
    (loadCellsFrom ⟨b, off, none⟩ i n acc).run P w = .ok (acc ++ ((c.drop (off + i)).take n).toArray) w
  | 0, b, off, i, c, el, fz, acc, h, hl => by simp [loadCellsFrom]
  | n + 1, b, off, i, c, el, fz, acc, h, hl => by
    have hc : w.cell? ⟨b, off + i, none⟩ = some c[off + i] := by
      unfold World.cell?; simp only [h]; simp [show off + i < c.length by omega]
    simp only [loadCellsFrom, Sem.run_bind, addr_add, run_load, hc, Result.andThen_ok]
    rw [loadFrom_block h (by omega)]
    congr 1
    have : (c.drop (off + i)).take (n + 1) = c[off + i] :: (c.drop (off + (i + 1))).take n := by
      rw [List.drop_eq_getElem_cons (show off + i < c.length by omega), List.take_succ_cons]; rfl
    rw [this]; simp

/-- A variable in a known block. -/
theorem partT_load {t : TypeId} {cs : List Value} {off b : Nat} {el : TypeId} {fz : Nat × Nat} {K : Value → Prop}
    (hb : w.heap[b]? = some (.cells cs.toArray el fz)) (hk : partT P t cs off K) : ∃ v, K v ∧ (loadVar t ⟨b, off, none⟩).run P w = .ok v w := by
  unfold partT at hk
  split at hk
  · exact hk.elim
  · rename_i hagg
    split at hk
    · rename_i hlen
      have hlen := Nat.le_of_ble_eq_true hlen
      refine ⟨_, hk, ?_⟩
      have hi : ∃ i, P.info? t = some i := by
        cases hd : P.underlying t with
        | none => simp [isAgg?, hd] at hagg
        | some d => exact info_of_underlying hd
      obtain ⟨i, hi⟩ := hi
      rw [cellsOf_info hi] at hlen ⊢
      simp only [loadVar, Sem.run_bind, isAgg_run hagg, Result.andThen_ok, if_true, sizeOf_run hi, loadCells]
      rw [loadFrom_block hb (by omega)]
      simp
    · exact hk.elim
  · rename_i hagg
    split at hk
    · rename_i v hv
      refine ⟨_, hk, ?_⟩
      have hc : w.cell? ⟨b, off, none⟩ = some v := by
        unfold World.cell?; simp only [hb]; simpa using hv
      simp [loadVar, isAgg_run hagg, hc]
    · exact hk.elim

/-- A part of a known aggregate. -/
theorem partT_part {t : TypeId} {cs : List Value} {off : Nat} {K : Value → Prop} (hk : partT P t cs off K) :
    ∃ v, K v ∧ (part t cs.toArray off).run P w = .ok v w := by
  unfold partT at hk
  split at hk
  · exact hk.elim
  · rename_i hagg
    split at hk
    · rename_i hlen
      refine ⟨_, hk, ?_⟩
      have hi : ∃ i, P.info? t = some i := by
        cases hd : P.underlying t with
        | none => simp [isAgg?, hd] at hagg
        | some d => exact info_of_underlying hd
      obtain ⟨i, hi⟩ := hi
      rw [cellsOf_info hi]
      simp only [part, Sem.run_bind, isAgg_run hagg, Result.andThen_ok, if_true, sizeOf_run hi, Sem.run_pure]
      congr 2
      simp
    · exact hk.elim
  · rename_i hagg
    split at hk
    · rename_i v hv
      exact ⟨_, hk, by simp [part, isAgg_run hagg, hv]⟩
    · exact hk.elim

theorem zeroC_run {t : TypeId} {K : List Value → Prop} (hk : zeroC P t K) :
    ∃ i z, P.info? t = some i ∧ i.zero = some z ∧ K z.cells.toList ∧ ∀ w, (zeroValue t).run P w = .ok z w := by
  unfold zeroC at hk
  split at hk
  · rename_i i hi
    split at hk
    · rename_i z hz
      exact ⟨i, z, hi, hz, hk, fun w => by simp [zeroValue, typeInfo, hi, hz]⟩
    · exact hk.elim
  · exact hk.elim

theorem elemOf_run {t : TypeId} {K : TypeId → Prop} (hk : elemOf? P t K) : ∃ el i, P.underlying t = some (.slice el) ∧ P.info? el = some i ∧ K el := by
  unfold elemOf? at hk
  split at hk
  · rename_i el he
    split at hk
    · rename_i hi
      obtain ⟨i, hi⟩ := Option.isSome_iff_exists.1 hi
      exact ⟨el, i, he, hi, hk⟩
    · exact hk.elim
  · exact hk.elim

theorem okT_run {t : TypeId} {p : Prop} (hk : okT P t p) : (∃ i, P.info? t = some i) ∧ p := by
  unfold okT at hk
  split at hk
  · rename_i hi; exact ⟨Option.isSome_iff_exists.1 hi, hk⟩
  · exact hk.elim

theorem newRow_run {el : TypeId} {cs : Array Value} : (newRow el cs).run P w = .ok ⟨w.heap.size, 0, none⟩ (w.alloc (.cells cs el (0, 0))) := by
  simp [newRow]

theorem cellsAt_run {h : Hp} (hs : Sub h w) {a : Addr} : ∀ {n : Nat} {l : List Value}, cellsAt h a n = some l → l.length = n ∧ ∀ i, i < n → w.cell? (a.add i) = l[i]?
  | 0, l, e => by simp only [cellsAt, Option.some.injEq] at e; subst e; simp
  | n + 1, l, e => by
    unfold cellsAt at e
    cases h1 : cellsAt h a n with
    | none => rw [h1] at e; cases e
    | some l1 =>
      rw [h1] at e; simp only at e
      cases h2 : h.cell (a.add n) with
      | none => rw [h2] at e; cases e
      | some v =>
        rw [h2] at e; simp only [Option.some.injEq] at e; subst e
        obtain ⟨i1, i2⟩ := cellsAt_run hs h1
        refine ⟨by simp [i1], fun i hi => ?_⟩
        by_cases hin : i = n
        · subst hin; rw [hs.cell h2]; simp [← i1]
        · rw [i2 i (by omega), List.getElem?_append_left (by omega)]

theorem loadFrom_cells {a : Addr} {l : List Value} : ∀ {n i : Nat} {acc : Array Value}, i + n = l.length → (∀ j, j < l.length → w.cell? (a.add j) = l[j]?) →
    (loadCellsFrom a i n acc).run P w = .ok (acc ++ (l.drop i).toArray) w
  | 0, i, acc, hl, _ => by
    have : l.drop i = [] := List.drop_eq_nil_of_le (by omega)
    simp [loadCellsFrom, this]
  | n + 1, i, acc, hl, hc => by
    have hi : i < l.length := by omega
    have h1 : w.cell? (a.add i) = some l[i] := by rw [hc i hi]; simp
    simp only [loadCellsFrom, Sem.run_bind, run_load, h1, Result.andThen_ok]
    rw [loadFrom_cells (by omega) hc, List.drop_eq_getElem_cons hi]
    simp

theorem loadCells_run {h : Hp} (hs : Sub h w) {a : Addr} {n : Nat} {l : List Value} (e : cellsAt h a n = some l) : (loadCells a n).run P w = .ok l.toArray w := by
  obtain ⟨h1, h2⟩ := cellsAt_run hs e
  unfold loadCells
  rw [loadFrom_cells (l := l) (by omega) (fun j hj => h2 j (by omega))]
  simp

theorem repl_succ (n : Nat) (z : List Value) : repl (n + 1) z = z ++ repl n z := by simp [repl, List.replicate_succ]
theorem repl_length (n : Nat) (z : List Value) : (repl n z).length = n * z.length := by simp [repl, List.length_flatten, List.sum_replicate_nat]

theorem repl_get {zero : Array Value} : ∀ {n i : Nat}, i < n * zero.size → (repl n zero.toList)[i]? = some (zero[i % zero.size]!)
  | 0, i, h => by omega
  | n + 1, i, h => by
    rw [repl_succ]
    by_cases hi : i < zero.size
    · rw [List.getElem?_append_left (by simpa using hi)]
      simp [Nat.mod_eq_of_lt hi, hi]
    · have h' : i - zero.size < n * zero.size := by rw [Nat.succ_mul] at h; omega
      rw [List.getElem?_append_right (by simpa using hi), Array.length_toList, repl_get h', Nat.mod_eq_sub_mod (show i ≥ zero.size by omega)]

theorem repl_array {zero : Array Value} {n : Nat} : (Array.range (n * zero.size)).map (fun i => zero[i % zero.size]!) = (repl n zero.toList).toArray := by
  apply Array.ext_getElem?
  intro i
  by_cases hi : i < n * zero.size
  · simp [repl_get hi, hi]
  · have hl := repl_length n zero.toList
    simp only [Array.length_toList] at hl
    rw [Array.getElem?_eq_none (by simp; omega), Array.getElem?_eq_none (by simp; omega)]

theorem growBy_le (m : Nat) (hm : 257 ≤ m) : ∀ (r c : Nat), c ≤ 2 * m → Builtin.growBy m r c ≤ 2 * m
  | 0, c, h => h
  | r + 1, c, h => by
    unfold Builtin.growBy
    split
    · exact h
    · exact growBy_le m hm r _ (by omega)

theorem nextcap_le {m o : Nat} (h : o < m) : Builtin.nextslicecap m o ≤ 2 * m := by
  unfold Builtin.nextslicecap
  split
  · omega
  · split
    · omega
    · exact growBy_le m (by omega) 4 o (by omega)

end
end Den
