/-
  The builtins, and all operations together.
-/
import Derived.Test.YtnahjnlkpmbhlaaDen7
namespace Den
open Go
variable {ro : Option Nat} {nn : Nat}

section
variable {C : Cfg} {B : Base} {e : Env} {h : Hp} {a : Act} {w : World} {K : Up → Hp → Prop} {o : Oper} {Q : Exit → Act → World → Prop}

theorem bytesOf_run {P : Program} {st : ByteArray} {w' : World} : (Builtin.firstCells 1 st.size (.string st)).run P w' = .ok (bytesOfS st).toArray w' := by
  simp only [Builtin.firstCells, Sem.run_pure, bytesOfS, Result.ok.injEq, and_true]
  apply Array.toList_inj.1; simp

theorem srcP_run (hR : Rel C B e h a w) {x : Operand} {size : Nat} {K : Nat → List Value → Prop} (hk : srcP e x size K h) :
    ∃ n vs, K n vs ∧ vs.length = n * size ∧ (∀ w', (Builtin.lenOf (a.eval x)).run C.P w' = .ok n w') ∧ ∀ w', w'.heap = w.heap → (Builtin.firstCells size n (a.eval x)).run C.P w' = .ok vs.toArray w' := by
  have hsub : ∀ w', w'.heap = w.heap → Sub h w' := fun w' hw k b hb => by rw [hw]; exact hR.sub k b hb
  unfold srcP at hk
  split at hk
  · rename_i t
    split at hk
    · rename_i cs n hb
      split at hk
      · rename_i hl
        have hl := Nat.eq_of_beq_eq_true hl
        obtain ⟨_, b, el, h1, h2, _, _⟩ := hR.hid t (by rw [hb]; rfl)
        rw [hb] at h1 h2
        simp only [hidV, hidC] at h1 h2
        refine ⟨n, cs, hk, hl, fun w' => by rw [eval_tmp h1]; rfl, fun w' hw => ?_⟩
        rw [eval_tmp h1]
        rw [← hw] at h2
        simp only [Builtin.firstCells, loadCells]
        rw [loadFrom_block h2 (by omega), ← hl]
        simp
      · exact hk.elim
    · rename_i ad n c hb
      obtain ⟨vs, hvs, hk⟩ := hk
      rw [eval_tmp (hR.vals t _ hb)]
      cases ad with
      | none =>
        simp only [cellsAtO] at hvs
        split at hvs
        · rename_i hz
          simp only [Option.some.injEq] at hvs; subst hvs
          exact ⟨n, [], hk, by simp [hz], (fun w' => rfl), fun w' _ => by simp [Builtin.firstCells]⟩
        · cases hvs
      | some ad =>
        simp only [cellsAtO] at hvs
        exact ⟨n, vs, hk, (cellsAt_run hR.sub hvs).1, (fun w' => rfl), fun w' hw => by simp only [Builtin.firstCells]; exact loadCells_run (hsub w' hw) hvs⟩
    · rename_i st hb
      split at hk
      · rename_i hsz
        obtain rfl := Nat.eq_of_beq_eq_true hsz
        rw [eval_tmp (hR.vals t _ hb)]
        exact ⟨st.size, bytesOfS st, hk, (by simp [bytesOfS]), (fun w' => rfl), fun w' _ => bytesOf_run⟩
      · exact hk.elim
    · exact hk.elim
  · rename_i ad n c
    obtain ⟨vs, hvs, hk⟩ := hk
    cases ad with
    | none =>
      simp only [cellsAtO] at hvs
      split at hvs
      · rename_i hz
        simp only [Option.some.injEq] at hvs; subst hvs
        exact ⟨n, [], hk, by simp [hz], (fun w' => rfl), fun w' _ => by simp [Builtin.firstCells, Act.eval]⟩
      · cases hvs
    | some ad =>
      simp only [cellsAtO] at hvs
      exact ⟨n, vs, hk, (cellsAt_run hR.sub hvs).1, (fun w' => rfl), fun w' hw => by simp only [Builtin.firstCells, Act.eval]; exact loadCells_run (hsub w' hw) hvs⟩
  · rename_i st
    split at hk
    · rename_i hsz
      obtain rfl := Nat.eq_of_beq_eq_true hsz
      exact ⟨st.size, bytesOfS st, hk, (by simp [bytesOfS]), (fun w' => rfl), fun w' _ => bytesOf_run⟩
    · exact hk.elim
  · exact hk.elim

theorem core_len (hR : Rel C B e h a w) {c : Call} {x : Operand} (ho : o.op = .call c) (hf : c.callee = .builtin .len) (hx : c.args.toList = [x])
    (hk : builtinP C .len c.argTypes.toList [x] e h o.dst K) : o.wpIn (wideR ro) nn C.P a w (After C B o e K) Q := by
  unfold builtinP at hk
  simp only at hk
  replace hk := opv_run hR hk
  have hargs : c.args = #[x] := by rw [← Array.toList_inj]; exact hx
  split at hk
  · rename_i s t hv ht
    have htypes : c.argTypes = #[t] := by rw [← Array.toList_inj]; exact ht
    split at hk
    · rename_i hu
      refine wp_val (w' := w) ?_ (retV_after hR hk)
      simp only [execOp, ho, resolve, hf, hargs, htypes, Sem.run_bind, Sem.run_pure, Result.andThen_ok, invoke, builtin, Builtin.len_]
      simp [hv, underlying_run hu, goInt]
    · exact hk.elim
  · rename_i ad n c' t hv ht
    have htypes : c.argTypes = #[t] := by rw [← Array.toList_inj]; exact ht
    split at hk
    · rename_i hu
      refine wp_val (w' := w) ?_ (retV_after hR hk)
      simp only [execOp, ho, resolve, hf, hargs, htypes, Sem.run_bind, Sem.run_pure, Result.andThen_ok, invoke, builtin, Builtin.len_]
      simp [hv, underlying_run hu, goInt]
    · exact hk.elim
  · exact hk.elim

theorem core_max (hR : Rel C B e h a w) {c : Call} {x y : Operand} (ho : o.op = .call c) (hf : c.callee = .builtin .max) (hx : c.args.toList = [x, y])
    (hk : builtinP C .max c.argTypes.toList [x, y] e h o.dst K) : o.wpIn (wideR ro) nn C.P a w (After C B o e K) Q := by
  unfold builtinP at hk
  simp only at hk
  replace hk := opv_run hR (opv_run hR hk)
  have hargs : c.args = #[x, y] := by rw [← Array.toList_inj]; exact hx
  generalize hu : a.eval x = u at hk
  generalize hv : a.eval y = v at hk
  unfold maxP at hk
  split at hk
  · rename_i k p k' q heq
    simp only [List.cons.injEq, and_true] at heq
    obtain ⟨rfl, rfl⟩ := heq
    obtain ⟨rfl, _⟩ := sameK_iff.1 hk
    refine wp_val (w' := w) ?_ (retV_after hR (sameK_iff.1 hk).2)
    simp [execOp, ho, resolve, hf, hargs, invoke, builtin, Builtin.max_, hu, hv, Builtin.max2, maxI]
  · exact hk.elim

theorem core_min (hR : Rel C B e h a w) {c : Call} {x y : Operand} (ho : o.op = .call c) (hf : c.callee = .builtin .min) (hx : c.args.toList = [x, y])
    (hk : builtinP C .min c.argTypes.toList [x, y] e h o.dst K) : o.wpIn (wideR ro) nn C.P a w (After C B o e K) Q := by
  unfold builtinP at hk
  simp only at hk
  replace hk := opv_run hR (opv_run hR hk)
  have hargs : c.args = #[x, y] := by rw [← Array.toList_inj]; exact hx
  generalize hu : a.eval x = u at hk
  generalize hv : a.eval y = v at hk
  unfold minP at hk
  split at hk
  · rename_i k p k' q heq
    simp only [List.cons.injEq, and_true] at heq
    obtain ⟨rfl, rfl⟩ := heq
    obtain ⟨rfl, _⟩ := sameK_iff.1 hk
    refine wp_val (w' := w) ?_ (retV_after hR (sameK_iff.1 hk).2)
    simp [execOp, ho, resolve, hf, hargs, invoke, builtin, Builtin.min_, hu, hv, Builtin.min2, minI]
  · exact hk.elim

theorem append_run (hR : Rel C B e h a w) {t t2 ty el el2 : TypeId} {i : TypeInfo} {z : Value} {s : Sl} {y : Value} {n : Nat} {new : List Value}
    (hu : C.P.underlying t = some (.slice el)) (hu2 : C.P.underlying t2 = some (.slice el2)) (hi : C.P.info? el = some i) (hz : ∀ w, (zeroValue el).run C.P w = .ok z w)
    (hsz : z.cells.size = i.size) (hy : ∀ w', (Builtin.lenOf y).run C.P w' = .ok n w')
    (hnew : ∀ w', w'.heap = w.heap → (Builtin.firstCells i.size n y).run C.P w' = .ok new.toArray w') {K : Sl → Hp → Prop}
    (hk : appP i.size i.bytes z.cells.toList s n new K h) :
    ∃ r h' w', K r h' ∧ (Builtin.append_ #[t, t2] ty #[.slice s.a s.len s.cap, y]).run C.P w = .ok (.slice r.a r.len r.cap) w' ∧ Sub h' w' ∧ Fr h w w' ∧
      (∀ k, h' k ≠ none → h k = none → w.heap.size ≤ k) := by
  obtain ⟨g1, g2, g3, g4⟩ := hk
  by_cases hfit : s.len + n ≤ s.cap
  · have hst := g3 hfit
    cases hsa : s.a with
    | none =>
      rw [hsa] at hst
      refine ⟨_, h, w, hst, ?_, hR.sub, Fr.refl h w, fun k h1 h2 => absurd h2 h1⟩
      simp [Builtin.append_, underlying_run hu, underlying_run hu2, sizeOf_run hi, hy, hfit, hnew w rfl]
    | some sa =>
      rw [hsa] at hst
      obtain ⟨h', w', hK, hrun, hs', hf, hd⟩ := stP_run (C := C) hR.sub hst
      refine ⟨_, h', w', hK, ?_, hs', hf, hd⟩
      simp [Builtin.append_, underlying_run hu, underlying_run hu2, sizeOf_run hi, hy, hfit, hnew w rfl, hrun]
  · obtain ⟨old, hold, hall⟩ := g4 (by omega)
    have hcut : ∀ q, (Question.appendCap (s.len + n) s.cap el).cut q = s.len + n + q % (2 ^ 63 - (s.len + n)) := fun q => rfl
    generalize hncd : (Question.appendCap (s.len + n) s.cap el).cut (w.tape w.drawn (.appendCap (s.len + n) s.cap el)) = nc
    have hnc : s.len + n ≤ nc := by rw [← hncd, hcut]; omega
    have hR1 := hR.drew
    have hR2 := hR1.alloc (old ++ new ++ repl (nc - (s.len + n)) z.cells.toList) el
    have hfr : h w.heap.size = none := hR.sub.fresh (Nat.le_refl _)
    refine ⟨_, _, _, hall w.heap.size el nc hnc hfr, ?_, hR2.sub, ?_, ?_⟩
    · have hcap := nextcap_le (show s.cap < s.len + n by omega)
      have hb : ¬ (Builtin.nextslicecap (s.len + n) s.cap * i.bytes > 2 ^ 48) := by
        have := Nat.mul_le_mul_right i.bytes hcap
        have h3 : 2 * (s.len + n) * i.bytes = 2 * ((s.len + n) * i.bytes) := by rw [Nat.mul_assoc]
        omega
      have hbig : ¬ (((s.len + n : Nat) : Int) > IntKind.i64.max) := by
        intro h1
        simp [IntKind.max, IntKind.signed, IntKind.bits] at h1
        omega
      have hold' : ∀ w', w'.heap = w.heap → (Builtin.firstCells i.size s.len (.slice s.a s.len s.cap)).run C.P w' = .ok old.toArray w' := by
        intro w' hw
        have hsub : Sub h w' := fun k b hb => by rw [hw]; exact hR.sub k b hb
        cases hsa : s.a with
        | none =>
          rw [hsa] at hold
          simp only [cellsAtO] at hold
          split at hold
          · simp only [Option.some.injEq] at hold; subst hold; simp [Builtin.firstCells]
          · cases hold
        | some sa =>
          rw [hsa] at hold
          simp only [Builtin.firstCells]
          exact loadCells_run hsub hold
      have hzc : Builtin.zeroCells z.cells (nc - (s.len + n)) = (repl (nc - (s.len + n)) z.cells.toList).toArray := repl_array
      have hforced : (Question.appendCap (s.len + n) s.cap el).forced = false := rfl
      have hty : (typeInfo el).run C.P w = .ok i w := by simp [typeInfo, hi]
      have hty' : (typeInfo el).run C.P { w with drawn := w.drawn + 1 } = .ok i { w with drawn := w.drawn + 1 } := by simp [typeInfo, hi]
      simp only [Builtin.append_, Sem.run_bind, underlying_run hu, underlying_run hu2, sizeOf_run hi, hy, Result.andThen_ok, List.getElem?_toArray, List.getElem?_cons_zero, List.getElem?_cons_succ, Sem.run_pure,
        Bool.false_eq_true, if_false, hfit, hty, false_or]
      rw [if_neg (by rintro ⟨h1, _⟩; exact hbig h1)]
      simp only [Sem.run_bind, hty, Result.andThen_ok]
      rw [if_neg hb]
      simp only [Sem.run_bind, run_choose, hforced, Bool.false_eq_true, if_false, Result.andThen_ok, hncd, hty', run_askRoom, hold' { w with drawn := w.drawn + 1 } rfl, hnew { w with drawn := w.drawn + 1 } rfl, hz, hzc, newRow_run, Sem.run_pure, Bool.not_false, if_true]
      simp
    · have f1 := drew_fr h w
      have f2 := Fr.alloc h { w with drawn := w.drawn + 1 } (.cells (old ++ new ++ repl (nc - (s.len + n)) z.cells.toList).toArray el (0, 0))
      exact ⟨Nat.le_trans f1.1 f2.1, fun k hk1 hk2 => (f2.2.1 k hk1 hk2).trans (f1.2.1 k hk1 hk2), rfl, rfl, rfl, Nat.le_succ _⟩
    · intro k h1 h2
      by_cases hkb : k = w.heap.size
      · omega
      · rw [Hp.ins_ne hkb] at h1; exact absurd h2 h1


theorem append_runS (hR : Rel C B e h a w) {t t2 ty el : TypeId} {i : TypeInfo} {z : Value} {s : Sl} {y : Value} {n : Nat} {new : List Value}
    (hu : C.P.underlying t = some (.slice el)) (hu2 : C.P.underlying t2 = some .string) (hi : C.P.info? el = some i) (hz : ∀ w, (zeroValue el).run C.P w = .ok z w)
    (hsz : z.cells.size = i.size) (hy : ∀ w', (Builtin.lenOf y).run C.P w' = .ok n w')
    (hnew : ∀ w', w'.heap = w.heap → (Builtin.firstCells i.size n y).run C.P w' = .ok new.toArray w') {K : Sl → Hp → Prop}
    (hk : appP i.size i.bytes z.cells.toList s n new K h) :
    ∃ r h' w', K r h' ∧ (Builtin.append_ #[t, t2] ty #[.slice s.a s.len s.cap, y]).run C.P w = .ok (.slice r.a r.len r.cap) w' ∧ Sub h' w' ∧ Fr h w w' ∧
      (∀ k, h' k ≠ none → h k = none → w.heap.size ≤ k) := by
  obtain ⟨g1, g2, g3, g4⟩ := hk
  by_cases hfit : s.len + n ≤ s.cap
  · have hst := g3 hfit
    cases hsa : s.a with
    | none =>
      rw [hsa] at hst
      refine ⟨_, h, w, hst, ?_, hR.sub, Fr.refl h w, fun k h1 h2 => absurd h2 h1⟩
      simp [Builtin.append_, underlying_run hu, underlying_run hu2, sizeOf_run hi, hy, hfit, hnew w rfl]
    | some sa =>
      rw [hsa] at hst
      obtain ⟨h', w', hK, hrun, hs', hf, hd⟩ := stP_run (C := C) hR.sub hst
      refine ⟨_, h', w', hK, ?_, hs', hf, hd⟩
      simp [Builtin.append_, underlying_run hu, underlying_run hu2, sizeOf_run hi, hy, hfit, hnew w rfl, hrun]
  · obtain ⟨old, hold, hall⟩ := g4 (by omega)
    have hcut : ∀ q, (Question.appendCap (s.len + n) s.cap el).cut q = s.len + n + q % (2 ^ 63 - (s.len + n)) := fun q => rfl
    generalize hncd : (Question.appendCap (s.len + n) s.cap el).cut (w.tape w.drawn (.appendCap (s.len + n) s.cap el)) = nc
    have hnc : s.len + n ≤ nc := by rw [← hncd, hcut]; omega
    have hR1 := hR.drew
    have hR2 := hR1.alloc (old ++ new ++ repl (nc - (s.len + n)) z.cells.toList) el
    have hfr : h w.heap.size = none := hR.sub.fresh (Nat.le_refl _)
    refine ⟨_, _, _, hall w.heap.size el nc hnc hfr, ?_, hR2.sub, ?_, ?_⟩
    · have hcap := nextcap_le (show s.cap < s.len + n by omega)
      have hb : ¬ (Builtin.nextslicecap (s.len + n) s.cap * i.bytes > 2 ^ 48) := by
        have := Nat.mul_le_mul_right i.bytes hcap
        have h3 : 2 * (s.len + n) * i.bytes = 2 * ((s.len + n) * i.bytes) := by rw [Nat.mul_assoc]
        omega
      have hbig : ¬ (((s.len + n : Nat) : Int) > IntKind.i64.max) := by
        intro h1
        simp [IntKind.max, IntKind.signed, IntKind.bits] at h1
        omega
      have hold' : ∀ w', w'.heap = w.heap → (Builtin.firstCells i.size s.len (.slice s.a s.len s.cap)).run C.P w' = .ok old.toArray w' := by
        intro w' hw
        have hsub : Sub h w' := fun k b hb => by rw [hw]; exact hR.sub k b hb
        cases hsa : s.a with
        | none =>
          rw [hsa] at hold
          simp only [cellsAtO] at hold
          split at hold
          · simp only [Option.some.injEq] at hold; subst hold; simp [Builtin.firstCells]
          · cases hold
        | some sa =>
          rw [hsa] at hold
          simp only [Builtin.firstCells]
          exact loadCells_run hsub hold
      have hzc : Builtin.zeroCells z.cells (nc - (s.len + n)) = (repl (nc - (s.len + n)) z.cells.toList).toArray := repl_array
      have hforced : (Question.appendCap (s.len + n) s.cap el).forced = false := rfl
      have hty : (typeInfo el).run C.P w = .ok i w := by simp [typeInfo, hi]
      have hty' : (typeInfo el).run C.P { w with drawn := w.drawn + 1 } = .ok i { w with drawn := w.drawn + 1 } := by simp [typeInfo, hi]
      simp only [Builtin.append_, Sem.run_bind, underlying_run hu, underlying_run hu2, sizeOf_run hi, hy, Result.andThen_ok, List.getElem?_toArray, List.getElem?_cons_zero, List.getElem?_cons_succ, Sem.run_pure,
        Bool.false_eq_true, if_false, hfit, hty, false_or]
      rw [if_neg (by rintro ⟨h1, _⟩; exact hbig h1)]
      simp only [Sem.run_bind, hty, Result.andThen_ok]
      rw [if_neg hb]
      simp only [Sem.run_bind, run_choose, hforced, Bool.false_eq_true, if_false, Result.andThen_ok, hncd, hty', run_askRoom, hold' { w with drawn := w.drawn + 1 } rfl, hnew { w with drawn := w.drawn + 1 } rfl, hz, hzc, newRow_run, Sem.run_pure, Bool.not_false, if_true]
      simp
    · have f1 := drew_fr h w
      have f2 := Fr.alloc h { w with drawn := w.drawn + 1 } (.cells (old ++ new ++ repl (nc - (s.len + n)) z.cells.toList).toArray el (0, 0))
      exact ⟨Nat.le_trans f1.1 f2.1, fun k hk1 hk2 => (f2.2.1 k hk1 hk2).trans (f1.2.1 k hk1 hk2), rfl, rfl, rfl, Nat.le_succ _⟩
    · intro k h1 h2
      by_cases hkb : k = w.heap.size
      · omega
      · rw [Hp.ins_ne hkb] at h1; exact absurd h2 h1

end
end Den
