/-
  All operations together; operations one behind the other.
-/
import Derived.Test.YtnahjnlkpmbhlaaDen8
namespace Den
open Go
variable {ro : Option Nat} {nn : Nat}

section
variable {C : Cfg} {B : Base} {e : Env} {h : Hp} {a : Act} {w : World} {K : Up → Hp → Prop} {o : Oper} {Q : Exit → Act → World → Prop}

theorem noInt_run {P : Program} {t : TypeId} {p : Prop} (hk : noInt P t p) : ((∃ e, P.underlying t = some (.slice e)) ∨ P.underlying t = some .string) ∧ p := by
  unfold noInt at hk
  split at hk
  · rename_i e he; exact ⟨.inl ⟨e, he⟩, hk⟩
  · rename_i he; exact ⟨.inr he, hk⟩
  · exact hk.elim

theorem core_append (hR : Rel C B e h a w) {c : Call} {x y : Operand} (ho : o.op = .call c) (hf : c.callee = .builtin .append) (hx : c.args.toList = [x, y])
    (hk : builtinP C .append c.argTypes.toList [x, y] e h o.dst K) : o.wpIn (wideR ro) nn C.P a w (After C B o e K) Q := by
  unfold builtinP at hk
  simp only at hk
  have hargs : c.args = #[x, y] := by rw [← Array.toList_inj]; exact hx
  split at hk
  · rename_i t t2 ht
    have htypes : c.argTypes = #[t, t2] := by rw [← Array.toList_inj]; exact ht
    obtain ⟨hu2, hk1⟩ := noInt_run hk
    obtain ⟨el, i, hu, hi, hk2⟩ := elemOf_run hk1
    obtain ⟨i', z, hi', hz0, hk3, hz⟩ := zeroC_run hk2
    obtain rfl : i = i' := by rw [hi] at hi'; exact Option.some.inj hi'
    split at hk3
    · rename_i h1 h2
      have h1 := Nat.eq_of_beq_eq_true h1
      rw [cellsOf_info hi] at h1
      have h1' : z.cells.size = i.size := by simpa using h1
      replace hk3 := opv_run hR hk3
      split at hk3
      · rename_i ad n c' hv
        rw [h1, bytesOf_info hi] at hk3
        obtain ⟨m, new, hk4, hl, hy, hnew⟩ := srcP_run hR hk3
        obtain ⟨r, h', w', hK, hrun, hs, hfr, hd⟩ := hu2.elim (fun ⟨el2, hu2⟩ => append_run (ty := o.type) hR hu hu2 hi hz h1' hy hnew hk4) (fun hu2 => append_runS (ty := o.type) hR hu hu2 hi hz h1' hy hnew hk4)
        refine wp_val (w' := w') ?_ (retV_after (hR.step hs hfr hd) hK)
        simp only [execOp, ho, resolve, hf, hargs, htypes, Sem.run_bind, Sem.run_pure, Result.andThen_ok, invoke, builtin]
        have : (#[x, y].map a.eval) = #[.slice ad n c', a.eval y] := by simp [hv]
        rw [this, hrun]
        rfl
      · exact hk3.elim
    · exact hk3.elim
  · exact hk.elim

theorem dcore_sound (hC : TabOK C C.tab) (hR : Rel C B e h a w) (hk : dcore C o e h K) : o.wpIn (wideR ro) nn C.P a w (After C B o e K) Q := by
  cases ho : o.op with
  | move x => exact core_move hR (.inl ho) hk
  | assign x => exact core_move hR (.inr ho) hk
  | pick c x y => exact core_pick hR ho hk
  | alloc t => exact core_alloc hR ho hk
  | box t x => exact core_box hR ho hk
  | build t p => exact core_build hR ho hk
  | buildSlice t n p => exact core_buildSlice hR ho hk
  | load t x => exact core_load hR ho hk
  | store t x y => exact core_store hR ho hk
  | nilCheck x => exact core_nilCheck hR ho hk
  | binOp op t x y t' => exact core_binOp hR ho hk
  | unOp op t x => exact core_unOp hR ho hk
  | convert s t x => exact core_convert hR ho hk
  | makeFunc fn u v =>
    cases fn with
    | func g => exact core_makeFunc hR ho hk
    | _ => unfold dcore at hk; rw [ho] at hk; exact hk.elim
  | makeSlice t l c => exact core_makeSlice hR ho hk
  | slice t x lo hi mx =>
    cases mx with
    | none => exact core_slice hR ho hk
    | some m => unfold dcore at hk; rw [ho] at hk; exact hk.elim
  | fieldAddr t x f => exact core_fieldAddr hR ho hk
  | field t x f => exact core_field hR ho hk
  | indexAddr t x ix => exact core_indexAddr hR ho hk
  | index t x ix => exact core_index hR ho hk
  | extract x i => exact core_extract hR ho hk
  | call c =>
    cases hc : c.callee with
    | value f => exact core_callF hC hR ho hc hk
    | invoke r m => unfold dcore at hk; rw [ho] at hk; simp only [hc] at hk
    | builtin b =>
      unfold dcore at hk; rw [ho] at hk; simp only [hc] at hk
      have hk0 := hk
      unfold builtinP at hk
      split at hk
      · rename_i x hx; rw [hx] at hk0; exact core_len hR ho hc hx hk0
      · rename_i x y hx; rw [hx] at hk0; exact core_max hR ho hc hx hk0
      · rename_i x y hx; rw [hx] at hk0; exact core_min hR ho hc hx hk0
      · rename_i x y hx; rw [hx] at hk0; exact core_append hR ho hc hx hk0
      · exact hk.elim
  | _ => unfold dcore at hk; rw [ho] at hk; exact hk.elim

end

/-! ### One behind the other -/

def keep (s s' : Slot) : Prop := (isHid s = true ∧ (∃ cs, s = .box cs) → s' = s) ∧ ∀ v, s = .val v → s' = .val v

theorem keep.refl (s : Slot) : keep s s := ⟨fun _ => rfl, fun _ h => h⟩
theorem keep.trans {a b c : Slot} (h1 : keep a b) (h2 : keep b c) : keep a c := by
  refine ⟨fun hh => ?_, fun v hv => h2.2 v (h1.2 v hv)⟩
  have := h1.1 hh
  rw [this] at h2
  exact h2.1 hh

section
variable {C : Cfg} {B : Base}

theorem keep_upd {e : Env} {u : Up} {t : Nat} (ht : ∀ d, u.dst = some d → t ≠ d) : keep (e t) (e.upd C.rt u t) := by
  cases u with
  | none => exact keep.refl _
  | set d s => simp only [Env.upd, Env.set_ne (ht d rfl)]; exact keep.refl _
  | alloc d s =>
    simp only [Env.upd]
    refine ⟨fun ⟨_, cs, h2⟩ => ?_, fun v hv => ?_⟩
    · exact Env.alloc_ne (ht d rfl) (by intro o ho; rw [h2] at ho; cases ho)
    · rw [Env.alloc_ne (ht d rfl) (by intro o ho; rw [hv] at ho; cases ho)]; exact hv

/-- The goal behind a list of operations. -/
def Behind (C : Cfg) (B : Base) (ms : List Nat) (e : Env) (K : Env → Hp → Prop) : Exit → Act → World → Prop := fun x a' w' =>
  x = .normal ∧ ∃ e' h', K e' h' ∧ Rel C B e' h' a' w' ∧ ∀ t, t ∉ ms → keep (e t) (e' t)

theorem wanted_true {ops : Array Oper} {o : Oper} {tmps : Array Value} (hg : o.guard = none) : Region.wanted o (yielded ops tmps) = true := by
  simp [Region.wanted, hg]

theorem wanted_bool {ops : Array Oper} {o : Oper} {tmps : Array Value} {j d : Nat} {want t : Bool} (hg : o.guard = some (j, want)) (hd : (ops[j]?).bind (·.dst) = some d)
    (ht : tmps[d]? = some (.bool t)) : Region.wanted o (yielded ops tmps) = (t == want) := by
  simp only [Region.wanted, hg, yielded, hd, Option.bind_some, ht]
  cases t <;> cases want <;> rfl

theorem wanted_undef {ops : Array Oper} {o : Oper} {tmps : Array Value} {j d : Nat} {want : Bool} {vs : Array Value} (hg : o.guard = some (j, want)) (hd : (ops[j]?).bind (·.dst) = some d)
    (ht : tmps[d]? = some (.tuple vs)) : Region.wanted o (yielded ops tmps) = false := by
  simp only [Region.wanted, hg, yielded, hd, Option.bind_some, ht]
  rfl

theorem dops_sound (hC : TabOK C C.tab) {ops : Array Oper} {K : Env → Hp → Prop} : ∀ {l : List Nat} {e : Env} {h : Hp} {a : Act} {w : World} {ms : List Nat} {Q : Exit → Act → World → Prop},
    (∀ (i : Nat) (o : Oper), ops[i]? = some o → ∀ d ∈ modsO C o, d ∈ ms) → (∀ x a w, Behind C B ms e K x a w → Q x a w) →
    Rel C B e h a w → dops C ops K l e h → wpOpsIn (wideR ro) nn C.P ops Q l a w
  | [], e, h, a, w, ms, Q, _, hQ, hR, hk => hQ _ _ _ ⟨rfl, e, h, hk, hR, fun _ _ => keep.refl _⟩
  | i :: r, e, h, a, w, ms, Q, hms, hQ, hR, hk => by
    rw [wpOpsIn_cons]
    unfold dops at hk
    unfold wpOpIn
    cases hi : ops[i]? with
    | none => rw [hi] at hk; exact hk.elim
    | some o =>
      rw [hi] at hk; simp only at hk ⊢
      -- the rest, from whatever environment
      have rest : ∀ e1 : Env, (∀ t, e1 t = e t) → ∀ a' w', After C B o e1 (fun u h' => dops C ops K r (e1.upd C.rt u) h') a' w' → wpOpsIn (wideR ro) nn C.P ops Q r a' w' := by
        rintro e1 he1 a' w' ⟨u, h', hk', hR', hd'⟩
        refine dops_sound hC hms (fun x a w hb => hQ x a w ?_) hR' hk'
        obtain ⟨hx, e', h'', q1, q2, q3⟩ := hb
        refine ⟨hx, e', h'', q1, q2, fun t ht => ?_⟩
        rw [← he1 t]
        exact (keep_upd fun d hd hh => ht (by rw [hh]; exact hms i o hi d (hd' d hd))).trans (q3 t ht)
      cases hg : o.guard with
      | none =>
        rw [hg] at hk; simp only at hk
        rw [if_pos (wanted_true hg)]
        exact Oper.wpIn_mono (fun a w ha => rest e (fun _ => rfl) a w ha) (dcore_sound hC hR hk)
      | some g =>
        obtain ⟨j, want⟩ := g
        rw [hg] at hk; simp only at hk
        cases hd : (ops[j]?).bind (·.dst) with
        | none => rw [hd] at hk; exact hk.elim
        | some d =>
          rw [hd] at hk; simp only at hk
          cases hl : C.loc d with
          | true =>
            rw [hl] at hk
            split at hk
            · contradiction
            · contradiction
            · exact hk.elim
          | false =>
            rw [hl] at hk
            split at hk
            · rename_i t _ hv
              have hset : ∀ b, t = b → e.set d (.val (.bool b)) = e := fun b hb => by
                subst hb; exact hR.setSame hv
              rw [wanted_bool hg hd (hR.vals d _ hv)]
              cases t <;> cases want <;> simp only [ifP] at hk
              · rw [hset false rfl] at hk
                rw [if_pos (by decide)]
                exact Oper.wpIn_mono (fun a w ha => rest e (fun _ => rfl) a w ha) (dcore_sound hC hR hk)
              · rw [hset false rfl] at hk
                rw [if_neg (by simp)]
                exact ⟨fun _ _ => trivial, rest e (fun _ => rfl) _ _ (skipV_after hR hk)⟩
              · rw [hset true rfl] at hk
                rw [if_neg (by simp)]
                exact ⟨fun _ _ => trivial, rest e (fun _ => rfl) _ _ (skipV_after hR hk)⟩
              · rw [hset true rfl] at hk
                rw [if_pos (by decide)]
                exact Oper.wpIn_mono (fun a w ha => rest e (fun _ => rfl) a w ha) (dcore_sound hC hR hk)
            · rename_i vs _ hv
              rw [wanted_undef hg hd (hR.vals d _ hv), if_neg (by simp)]
              exact ⟨fun _ _ => trivial, rest e (fun _ => rfl) _ _ (skipV_after hR hk)⟩
            · exact hk.elim

end
end Den
