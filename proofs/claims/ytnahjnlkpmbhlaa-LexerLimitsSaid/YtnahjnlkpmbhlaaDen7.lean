/-
  'dcore' is sound: the other operations, and all of them together.
-/
import Derived.Test.YtnahjnlkpmbhlaaDen6
import Derived.Laws.IdiomStrings
namespace Den
open Go
variable {ro : Option Nat} {nn : Nat}

section
variable {C : Cfg} {B : Base} {e : Env} {h : Hp} {a : Act} {w : World} {K : Up → Hp → Prop} {o : Oper} {Q : Exit → Act → World → Prop}

theorem core_move (hR : Rel C B e h a w) {x : Operand} (ho : o.op = .move x ∨ o.op = .assign x) (hk : dcore C o e h K) : o.wpIn (wideR ro) nn C.P a w (After C B o e K) Q := by
  unfold dcore at hk
  rcases ho with ho | ho
  all_goals
    rw [ho] at hk; simp only at hk
    replace hk := opv_run hR hk
    refine wp_val (w' := w) ?_ (retV_after hR hk)
    simp only [execOp, ho, Sem.run_pure]

theorem core_pick (hR : Rel C B e h a w) {c x y : Operand} (ho : o.op = .pick c x y) (hk : dcore C o e h K) : o.wpIn (wideR ro) nn C.P a w (After C B o e K) Q := by
  unfold dcore at hk; rw [ho] at hk; simp only at hk
  replace hk := opv_run hR hk
  split at hk
  · rename_i t hc
    cases t
    · have hk2 : opv e y fun v => retV C o.dst v h K := hk
      replace hk2 := opv_run hR hk2
      refine wp_val (w' := w) ?_ (retV_after hR hk2)
      simp [execOp, ho, hc, asBool]
    · have hk2 : opv e x fun v => retV C o.dst v h K := hk
      replace hk2 := opv_run hR hk2
      refine wp_val (w' := w) ?_ (retV_after hR hk2)
      simp [execOp, ho, hc, asBool]
  · exact hk.elim

theorem core_alloc (hR : Rel C B e h a w) {t : TypeId} (ho : o.op = .alloc t) (hk : dcore C o e h K) : o.wpIn (wideR ro) nn C.P a w (After C B o e K) Q := by
  unfold dcore at hk; rw [ho] at hk; simp only at hk
  obtain ⟨i, z, hi, hz, hk2, hrun⟩ := zeroC_run hk
  refine wp_val ?_ (retNew_after (el := t) hR hk2 rfl rfl rfl)
  simp only [execOp, ho, Instr.alloc, Sem.run_bind, hrun, Result.andThen_ok, newVar, newRow_run, Sem.run_pure, Array.toArray_toList]

theorem core_box (hR : Rel C B e h a w) {t : TypeId} {x : Operand} (ho : o.op = .box t x) (hk : dcore C o e h K) : o.wpIn (wideR ro) nn C.P a w (After C B o e K) Q := by
  unfold dcore at hk; rw [ho] at hk; simp only at hk
  replace hk := opv_run hR hk
  refine wp_val ?_ (retNew_after (el := t) hR hk rfl rfl rfl)
  simp only [execOp, ho, Instr.box, Sem.run_bind, Result.andThen_ok, newVar, newRow_run, Sem.run_pure, Array.toArray_toList]

theorem zip_map {α : Type} : ∀ (l : List (Nat × α)) (f : α → Value), (l.map (·.1)).zip ((l.map (·.2)).map f) = l.map fun (i, x) => (i, f x)
  | [], _ => rfl
  | (i, x) :: r, f => by simp only [List.map_cons, List.zip_cons_cons, zip_map r f]

theorem core_build (hR : Rel C B e h a w) {t : TypeId} {parts : Array (Nat × Operand)} (ho : o.op = .build t parts) (hk : dcore C o e h K) : o.wpIn (wideR ro) nn C.P a w (After C B o e K) Q := by
  unfold dcore at hk; rw [ho] at hk; simp only at hk
  replace hk := opvs_run hR hk
  rw [zip_map] at hk
  split at hk
  · rename_i cs hcs
    refine wp_val (w' := w) ?_ (retV_after hR hk)
    have : (parts.map fun (i, x) => (i, a.eval x)).toList = parts.toList.map fun (i, x) => (i, a.eval x) := by simp
    simp only [execOp, ho, Sem.run_bind, run_build w t _ cs (by rw [this]; exact hcs), Result.andThen_ok, Sem.run_pure]
  · exact hk.elim

theorem core_buildSlice (hR : Rel C B e h a w) {t : TypeId} {n : Nat} {parts : Array (Nat × Operand)} (ho : o.op = .buildSlice t n parts) (hk : dcore C o e h K) : o.wpIn (wideR ro) nn C.P a w (After C B o e K) Q := by
  unfold dcore at hk; rw [ho] at hk; simp only at hk
  replace hk := opvs_run hR hk
  rw [zip_map] at hk
  obtain ⟨el, i, hu, hi, hk1⟩ := elemOf_run hk
  obtain ⟨i', z, hi', hz, hk2, hrun⟩ := zeroC_run hk1
  obtain rfl : i = i' := by rw [hi] at hi'; exact Option.some.inj hi'
  split at hk2
  · rename_i h1 h2
    have h1 := Nat.eq_of_beq_eq_true h1
    have h2 := Nat.le_of_ble_eq_true h2
    rw [cellsOf_info hi] at h1 h2
    simp only [Array.length_toList] at h1 hk2
    unfold fillP at hk2
    split at hk2
    · rename_i cs hcs
      have hp : (parts.map fun (i, x) => (i, a.eval x)).toList = parts.toList.map fun (i, x) => (i, a.eval x) := by simp
      refine wp_val ?_ (retNew_after (el := el) hR hk2 rfl rfl rfl)
      simp only [execOp, ho, Instr.buildSlice, Sem.run_bind, underlying_run hu, Result.andThen_ok, sizeOf_run hi, hp]
      rw [if_neg (by omega)]
      simp only [Sem.run_bind, Sem.run_pure, Result.andThen_ok]
      by_cases hz0 : n * i.size = 0
      · rw [if_pos hz0]
        simp only [Sem.run_bind, Sem.run_pure, Result.andThen_ok]
        have he : (Array.range (n * i.size)).map (fun x => (#[] : Array Value)[x % (#[] : Array Value).size]!) = (repl n z.cells.toList).toArray := by
          have hl := repl_length n z.cells.toList
          have : (repl n z.cells.toList) = [] := List.eq_nil_of_length_eq_zero (by rw [hl]; simp [h1, hz0])
          rw [this, hz0]; simp
        rw [he, ← h1, hcs]
        simp [newRow_run]
      · rw [if_neg hz0]
        simp only [Sem.run_bind, hrun, Sem.run_pure, Result.andThen_ok]
        rw [← h1, repl_array, hcs]
        simp [newRow_run]
    · exact hk2.elim
  · exact hk2.elim

theorem core_nilCheck (hR : Rel C B e h a w) {x : Operand} (ho : o.op = .nilCheck x) (hk : dcore C o e h K) : o.wpIn (wideR ro) nn C.P a w (After C B o e K) Q := by
  unfold dcore at hk; rw [ho] at hk; simp only at hk
  replace hk := opv_run hR hk
  split at hk
  · rename_i p hx
    obtain ⟨ad, rfl, hk2⟩ := ptrK_run hk
    refine wp_val (w' := w) ?_ (retV_after hR hk2)
    simp only [execOp, ho, hx, Sem.run_pure]
  · rename_i g u v hx
    refine wp_val (w' := w) ?_ (retV_after hR hk)
    simp only [execOp, ho, hx, Sem.run_pure]
  · exact hk.elim

theorem core_binOp (hR : Rel C B e h a w) {op : BinOp} {t t' : TypeId} {x y : Operand} (ho : o.op = .binOp op t x y t') (hk : dcore C o e h K) : o.wpIn (wideR ro) nn C.P a w (After C B o e K) Q := by
  unfold dcore at hk; rw [ho] at hk; simp only at hk
  replace hk := opv_run hR (opv_run hR hk)
  obtain ⟨r, hr, hrun⟩ := binP_sound (w := w) hk x y
  refine wp_val (w' := w) ?_ (retV_after hR hr)
  simp only [execOp, ho]
  rw [Sem.run_bind]
  show ((eqGuard op t x y (a.eval x) (a.eval y) >>= fun _ => binOp op t (a.eval x) (a.eval y)).run C.P w).andThen _ = _
  rw [hrun]; rfl

theorem core_unOp (hR : Rel C B e h a w) {op : UnOp} {t : TypeId} {x : Operand} (ho : o.op = .unOp op t x) (hk : dcore C o e h K) : o.wpIn (wideR ro) nn C.P a w (After C B o e K) Q := by
  unfold dcore at hk; rw [ho] at hk; simp only at hk
  replace hk := opv_run hR hk
  obtain ⟨r, hr, hrun⟩ := unP_sound (P := C.P) (w := w) hk
  refine wp_val (w' := w) ?_ (retV_after hR hr)
  simp only [execOp, ho, Sem.run_bind, hrun, Result.andThen_ok, Sem.run_pure]

theorem core_convert (hR : Rel C B e h a w) {s t : TypeId} {x : Operand} (ho : o.op = .convert s t x) (hk : dcore C o e h K) : o.wpIn (wideR ro) nn C.P a w (After C B o e K) Q := by
  unfold dcore at hk; rw [ho] at hk; simp only at hk
  replace hk := opv_run hR hk
  split at hk
  · rename_i k k' n hu hx
    split at hk
    · rename_i hs
      obtain ⟨ds, hs⟩ := Option.isSome_iff_exists.1 hs
      refine wp_val (w' := w) ?_ (retV_after hR hk)
      simp only [execOp, ho, hx, convert, Sem.run_bind, underlying_run hu, underlying_run hs, Result.andThen_ok, Conv.intToInt, Sem.run_pure]
    · exact hk.elim
  · rename_i ad l c hu hx
    split at hk
    · rename_i el hs
      split at hk
      · rename_i he
        obtain ⟨bs, hcs, hk⟩ := hk
        refine wp_val (w' := w) ?_ (retV_after hR hk)
        have hrun : (Conv.bytesToString (.slice ad l c)).run C.P w = .ok (.string ⟨bs.toArray⟩) w := by
          cases ad with
          | none =>
            simp only [cellsAtO] at hcs
            split at hcs
            · simp only [Option.some.injEq] at hcs
              have : bs = [] := by cases bs with | nil => rfl | cons x r => simp at hcs
              subst this
              simp [Conv.bytesToString]; rfl
            · cases hcs
          | some ad =>
            have h1 := loadCells_run (P := C.P) hR.sub hcs
            have h2 : (bs.map fun b => Value.int .u8 ((b.toNat : Nat) : Int)) = (bs.map fun b => ((b.toNat : Nat) : Int)).map (Value.int .u8) := by simp
            rw [h2] at h1
            rw [run_bytesToString w ad l c _ h1]
            have h3 : ∀ (bs : List UInt8) (r : ByteArray), (bs.map fun b => ((b.toNat : Nat) : Int)).foldl (fun r n => r.push (UInt8.ofNat n.toNat)) r = ⟨r.data ++ bs.toArray⟩ := by
              intro bs
              induction bs with
              | nil => intro r; simp
              | cons x bs ih =>
                intro r
                simp only [List.map_cons, List.foldl_cons]
                rw [ih]
                simp [ByteArray.push]
            rw [h3]
            simp
        simp only [execOp, ho, hx, convert, Sem.run_bind, underlying_run hu, underlying_run hs, underlying_run he, Result.andThen_ok, hrun, Sem.run_pure]
      · exact hk.elim
    · exact hk.elim
  · rename_i el st hu hx
    split at hk
    · rename_i hs he
      have hnc : st.size ≤ grownCap w st.size 0 el := by
        have hcut : ∀ q, (Question.appendCap st.size 0 el).cut q = st.size + q % (2 ^ 63 - st.size) := fun q => rfl
        have h1 : grownCap w st.size 0 el = (Question.appendCap st.size 0 el).cut (w.tape w.drawn (.appendCap st.size 0 el)) := rfl
        rw [h1, hcut]; omega
      have hrow : bytesRow st (grownCap w st.size 0 el) = (bytesOfS st ++ List.replicate (grownCap w st.size 0 el - st.size) (Value.int .u8 0)).toArray := by
        unfold bytesRow bytesOfS
        apply Array.toList_inj.1; simp
      have hK := hk w.heap.size el _ ((bytesRow st (grownCap w st.size 0 el)).size, (bytesRow st (grownCap w st.size 0 el)).size + 1) hnc (hR.sub.fresh (Nat.le_refl _))
      have hR2 := hR.drew.alloc (bytesOfS st ++ List.replicate (grownCap w st.size 0 el - st.size) (Value.int .u8 0)) el ((bytesRow st (grownCap w st.size 0 el)).size, (bytesRow st (grownCap w st.size 0 el)).size + 1)
      rw [← hrow] at hR2
      refine wp_val ?_ (retV_after hR2 hK)
      have hrun := run_bytes_of_string (P := C.P) w s t el st hs hu he
      simp only [execOp, ho, hx, Sem.run_bind, hrun, Result.andThen_ok, Sem.run_pure]
      rfl
    · exact hk.elim
  · exact hk.elim

theorem core_makeFunc (hR : Rel C B e h a w) {g : FuncId} {u v : Array Operand} (ho : o.op = .makeFunc (.func g) u v) (hk : dcore C o e h K) : o.wpIn (wideR ro) nn C.P a w (After C B o e K) Q := by
  unfold dcore at hk; rw [ho] at hk; simp only at hk
  replace hk := opvs_run hR (opvs_run hR hk)
  refine wp_val (w' := w) ?_ (retV_after hR hk)
  have hm : ∀ l : Array Operand, (l.toList.map a.eval).toArray = l.map a.eval := fun l => by apply Array.toList_inj.1; simp
  simp only [execOp, ho, Instr.makeFunc, Sem.run_bind, Sem.run_pure, Result.andThen_ok, hm]

theorem core_extract (hR : Rel C B e h a w) {x : Operand} {i : Nat} (ho : o.op = .extract x i) (hk : dcore C o e h K) : o.wpIn (wideR ro) nn C.P a w (After C B o e K) Q := by
  unfold dcore at hk; rw [ho] at hk; simp only at hk
  replace hk := opv_run hR hk
  split at hk
  · rename_i vs hx
    split at hk
    · rename_i u hu
      refine wp_val (w' := w) ?_ (retV_after hR hk)
      have hu' : vs[i]? = some u := by simpa using hu
      simp only [execOp, ho, hx, Instr.extract, hu', Sem.run_bind, Sem.run_pure, Result.andThen_ok]
    · exact hk.elim
  · exact hk.elim

theorem wrap_i64 {n : Int} (h0 : 0 ≤ n) (h1 : n ≤ 140737488355328) : IntKind.i64.wrap n = n := IntWalk.i64_in n ⟨by omega, by omega⟩

theorem core_makeSlice (hR : Rel C B e h a w) {t : TypeId} {l c : Operand} (ho : o.op = .makeSlice t l c) (hk : dcore C o e h K) : o.wpIn (wideR ro) nn C.P a w (After C B o e K) Q := by
  unfold dcore at hk; rw [ho] at hk; simp only at hk
  replace hk := opv_run hR (opv_run hR hk)
  split at hk
  · rename_i kl len kc cap hl hc
    obtain ⟨el, i, hu, hi, hk1⟩ := elemOf_run hk
    obtain ⟨i', z, hi', hz, hk2, hrun⟩ := zeroC_run hk1
    obtain rfl : i = i' := by rw [hi] at hi'; exact Option.some.inj hi'
    split at hk2
    · rename_i h1 h2
      have h1 := Nat.eq_of_beq_eq_true h1
      have h2' : z.cells.toList.length ≠ 0 := fun hh => by rw [hh] at h2; cases h2
      rw [cellsOf_info hi] at h1
      simp only [Array.length_toList] at h1 h2'
      obtain ⟨g0, g1, g2, g3, hk3⟩ := hk2
      rw [bytesOf_info hi] at g2
      have := hk3 w.heap.size el (hR.sub.fresh (Nat.le_refl _))
      refine wp_val ?_ (retV_after (hR.alloc (repl cap.toNat z.cells.toList) el) this)
      simp only [execOp, ho, hl, hc, Instr.makeSlice, asInt, asIntOf, Sem.run_bind, underlying_run hu, Sem.run_pure, Result.andThen_ok, typeInfo, run_program, hi,
        wrap_i64 (show 0 ≤ len by omega) (show len ≤ 140737488355328 by omega), wrap_i64 (show 0 ≤ cap by omega) g3]
      have hnot : ((decide (cap < 0) || decide ((i.bytes : Int) * cap > 2 ^ 48)) || decide (len < 0) || decide (len > cap)) = false := by
        simp; omega
      simp only [hnot, Bool.false_eq_true, if_false, Sem.run_bind, run_askRoom, Result.andThen_ok, sizeOf_run hi, Sem.run_pure]
      by_cases hz0 : cap.toNat * i.size = 0
      · rw [if_pos hz0]
        simp only [Sem.run_bind, Sem.run_pure, Result.andThen_ok]
        have he : (Array.range (cap.toNat * i.size)).map (fun x => (#[] : Array Value)[x % (#[] : Array Value).size]!) = (repl cap.toNat z.cells.toList).toArray := by
          have hl := repl_length cap.toNat z.cells.toList
          have : (repl cap.toNat z.cells.toList) = [] := List.eq_nil_of_length_eq_zero (by rw [hl]; simp [h1, hz0])
          rw [this, hz0]; simp
        rw [he]
        simp [newRow_run]
      · rw [if_neg hz0]
        simp only [Sem.run_bind, hrun, Sem.run_pure, Result.andThen_ok]
        rw [← h1, repl_array]
        simp [newRow_run]
    · exact hk2.elim
  · exact hk.elim

theorem core_callF (hC : TabOK C C.tab) (hR : Rel C B e h a w) {c : Call} {f : Operand} (ho : o.op = .call c) (hf : c.callee = .value f) (hk : dcore C o e h K) : o.wpIn (wideR ro) nn C.P a w (After C B o e K) Q := by
  unfold dcore at hk; rw [ho] at hk; simp only [hf] at hk
  replace hk := opv_run hR hk
  split at hk
  · rename_i g u v hx
    replace hk := opvs_run hR hk
    rcases hC.get g with ⟨⟨⟨fn, hfn, hb, hn⟩, hcalls⟩, _⟩ | hno
    · have hc := hcalls _ _ _ _ hR.sub hk
      refine wp_call (w' := w) (f := g) (args := (u.toList ++ c.args.toList.map a.eval ++ v.toList).toArray) ?_ hc ?_
      · have ha : (u ++ c.args.map a.eval) ++ v = (u.toList ++ c.args.toList.map a.eval ++ v.toList).toArray := by
          apply Array.toList_inj.1; simp
        simp only [execOp, ho, resolve, hf, Sem.run_bind, hx, Deferred.ofValue, Sem.run_pure, Result.andThen_ok, invoke, callFunc, run_program, hfn, hb, hn, Bool.false_eq_true, if_false, ha]
      · rintro e' w'' ⟨r, h', rfl, hr, hs, hfr, hd⟩
        refine ⟨r, rfl, retV_after (hR.step hs hfr fun k h1 h2 => hd k h1 h2) hr⟩
    · exact (hno _ _ _ hk).elim
  · exact hk.elim

end
end Den
