/-
  One operation: what 'dcore' promises, the model does.
-/
import Derived.Test.YtnahjnlkpmbhlaaDen4
namespace Den
open Go
variable {ro : Option Nat} {nn : Nat}

/-- The fence that lets everything in, in a round's frame or in none. -/
abbrev wideR (r : Option Nat) : Fence := { Fence.wide with round := r }

theorem callsIn_wideR {P : Program} {f : FuncId} {args : Array Value} {w : World} {R : Ending → World → Prop} (h : Calls P f args w R) : CallsIn (wideR ro) nn P f args w R :=
  callsIn_wide (n := nn).2 h

theorem wpIn_mono_den {P : Program} {c : Code} {Q Q' : Exit → Act → World → Prop} {a : Act} {w : World} (hq : ∀ e a w, Q e a w → Q' e a w)
    (h : c.wpIn (wideR ro) nn P Q a w) : c.wpIn (wideR ro) nn P Q' a w := wpIn_mono h hq

def Up.dst : Up → Option Nat
  | .none => Option.none
  | .set d _ => some d
  | .alloc d _ => some d

def CallLike (T : (Value → Hp → Prop) → Hp → Prop) : Prop :=
  (∃ (α : Type) (G : (α → Hp → Prop) → Hp → Prop) (up : α → Value), ∀ K h, T K h ↔ callP G (fun r => K (up r)) h) ∨ ∀ K h, ¬ T K h

def FnOK (P : Program) (g : FuncId) (F : FSem) : Prop :=
  (∃ fn, P.funcs[g]? = some fn ∧ fn.body.isNone = false ∧ (fn.name == "runtime.NumGoroutine") = false) ∧
  (∀ args K h w, Sub h w → F args K h → Calls P g args.toArray w (Post K h w))

def TabOK (C : Cfg) : List (Nat × FSem) → Prop
  | [] => True
  | (g, F) :: r => FnOK C.P g F ∧ (memN g C.mutL = false → ∀ args, CallLike (F args)) ∧ TabOK C r

theorem TabOK.get {C : Cfg} : ∀ {l : List (Nat × FSem)}, TabOK C l → ∀ g, (FnOK C.P g (lookF g l) ∧ (memN g C.mutL = false → ∀ args, CallLike (lookF g l args))) ∨ (∀ args K h, ¬ lookF g l args K h)
  | [], _, g => .inr fun _ _ _ hh => hh
  | (g', F) :: r, ht, g => by
    unfold lookF
    by_cases hg : g = g'
    · subst hg; rw [beqT]; exact .inl ⟨ht.1, ht.2.1⟩
    · rw [beqF hg]; exact TabOK.get ht.2.2 g

section
variable {C : Cfg} {B : Base} {e : Env} {h : Hp} {a : Act} {w : World} {K : Up → Hp → Prop} {o : Oper}

def After (C : Cfg) (B : Base) (o : Oper) (e : Env) (K : Up → Hp → Prop) : Act → World → Prop := fun a' w' =>
  ∃ u h', K u h' ∧ Rel C B (e.upd C.rt u) h' a' w' ∧ ∀ d, u.dst = some d → d ∈ modsO C o

theorem semAt_of {P : Program} {ro : Option Nat} {o : Oper} {a : Act} {w w' : World} {x : Next} (hr : (execOp a.eval o).run P w = .ok x w') (hx : ∀ d, x ≠ .defer d) :
    Oper.semAt ro a.eval o = execOp a.eval o :=
  Oper.semAt_eq _ _ _ fun c hc => by
    unfold execOp at hr
    rw [hc] at hr
    simp only [Sem.run_bind, Sem.run_pure] at hr
    cases hz : (resolve a.eval c o.type).run P w with
    | ok d w1 => rw [hz] at hr; simp only [Result.andThen_ok, Result.ok.injEq] at hr; exact hx d hr.1.symm
    | _ => rw [hz] at hr; simp [Result.andThen] at hr

theorem wp_val {P : Program} {o : Oper} {a : Act} {w w' : World} {v : Value} {next : Act → World → Prop} {Q : Exit → Act → World → Prop}
    (hr : (execOp a.eval o).run P w = .ok (.value v) w') (hn : next (a.put o.dst v) w') : o.wpIn (wideR ro) nn P a w next Q := by
  unfold Oper.wpIn; rw [semAt_of hr (by intro d hd; cases hd), hr]; exact ⟨fun _ _ => trivial, hn⟩
theorem wp_none {P : Program} {o : Oper} {a : Act} {w w' : World} {next : Act → World → Prop} {Q : Exit → Act → World → Prop}
    (hr : (execOp a.eval o).run P w = .ok .skip w') (hn : next (a.put o.dst undef) w') : o.wpIn (wideR ro) nn P a w next Q := by
  unfold Oper.wpIn; rw [semAt_of hr (by intro d hd; cases hd), hr]; exact ⟨fun _ _ => trivial, hn⟩
theorem wp_call {P : Program} {o : Oper} {a : Act} {w w' : World} {f : FuncId} {args : Array Value} {next : Act → World → Prop} {Q : Exit → Act → World → Prop}
    {R : Ending → World → Prop} (hr : (execOp a.eval o).run P w = .ok (.enter f args) w') (hc : Calls P f args w' R) (hn : ∀ e w'', R e w'' → ∃ v, e = .returned v ∧ next (a.put o.dst v) w'') :
    o.wpIn (wideR ro) nn P a w next Q := by
  unfold Oper.wpIn; rw [semAt_of hr (by intro d hd; cases hd), hr, Oper.uponIn_enter]
  refine ⟨fun _ _ => trivial, (fun h => by cases h), (callsIn_wideR hc).mono fun e w'' hR => ?_⟩
  obtain ⟨v, rfl, hn⟩ := hn e w'' hR; exact hn

theorem eval_tmp {t : Nat} {v : Value} (ht : a.tmps[t]? = some v) : a.eval (.tmp t) = v := by
  simp only [Act.eval]; rw [Array.getD_eq_getD_getElem?, ht]; rfl

theorem opv_run (hR : Rel C B e h a w) {x : Operand} {K : Value → Prop} (hk : opv e x K) : K (a.eval x) := by
  unfold opv at hk
  split at hk
  · exact hk
  · exact hk
  · exact hk.elim
  · rename_i t
    split at hk
    · rename_i v hv; rw [eval_tmp (hR.vals t v hv)]; exact hk
    · exact hk.elim

theorem opvs_run (hR : Rel C B e h a w) : ∀ {l : List Operand} {K : List Value → Prop}, opvs e l K → K (l.map a.eval)
  | [], _, hk => hk
  | x :: r, K, hk => by
    have := opv_run hR hk
    exact opvs_run (l := r) (K := fun vs => K (a.eval x :: vs)) hR this

theorem retV_after (hR : Rel C B e h a w) {v : Value} (hk : retV C o.dst v h K) : After C B o e K (a.put o.dst v) w := by
  unfold retV at hk
  split at hk
  · rename_i hd
    exact ⟨.none, h, hk, by rw [hd]; exact hR, fun d hd' => by cases hd'⟩
  · rename_i d hd
    split at hk
    · rename_i hl hn
      refine ⟨.set d (.val v), h, hk, ?_, fun d' hd' => ?_⟩
      · rw [hd]; exact hR.setVal hl (by have := hn; unfold Nat.blt at this; have := Nat.le_of_ble_eq_true this; omega)
      · simp only [Up.dst, Option.some.injEq] at hd'; subst hd'; simp [modsO, hd]
    · exact hk.elim

theorem skipV_after (hR : Rel C B e h a w) (hk : skipV C o.dst h K) : After C B o e K (a.put o.dst undef) w := by
  unfold skipV at hk
  split at hk
  · rename_i hd
    exact ⟨.none, h, hk, by rw [hd]; exact hR, fun d hd' => by cases hd'⟩
  · rename_i d hd
    split at hk
    · rename_i hl
      refine ⟨.alloc d .junk, h, hk, ?_, fun d' hd' => ?_⟩
      · rw [hd]; exact hR.allocJunk hl
      · simp only [Up.dst, Option.some.injEq] at hd'; subst hd'; simp [modsO, hd]
    · exact retV_after hR hk

theorem retR_after (hR : Rel C B e h a w) {root off b : Nat} {cs : List Value} (hb : e root = .box cs) (hp : a.tmps[root]? = some (.pointer (some ⟨b, 0, none⟩)))
    (hk : retR C o.dst root off h K) : After C B o e K (a.put o.dst (.pointer (some ⟨b, off, none⟩))) w := by
  unfold retR at hk
  split at hk
  · exact hk.elim
  · rename_i d hd
    split at hk
    · rename_i hl hr hn
      have hr := Nat.eq_of_beq_eq_true hr
      refine ⟨.set d (.ref off), h, hk, ?_, fun d' hd' => ?_⟩
      · rw [hd]; exact hR.setRef hl (by have := hn; unfold Nat.blt at this; have := Nat.le_of_ble_eq_true this; omega) (cs := cs) (by rw [hr]; exact hb) (by rw [hr]; exact hp)
      · simp only [Up.dst, Option.some.injEq] at hd'; subst hd'; simp [modsO, hd]
    · exact hk.elim

theorem Rel.alloc (hR : Rel C B e h a w) (cs : List Value) (el : TypeId) (fz : Nat × Nat := (0, 0)) :
    Rel C B e (h.ins w.heap.size ⟨cs, el, fz⟩) a (w.alloc (.cells cs.toArray el fz)) := by
  refine hR.step (fun k b hk => ?_) (Fr.alloc h w _) (fun k hk hh => ?_)
  · by_cases hkb : k = w.heap.size
    · subst hkb; rw [Hp.ins_same] at hk; cases hk; exact alloc_new
    · rw [Hp.ins_ne hkb] at hk; exact hR.sub.alloc _ k b hk
  · by_cases hkb : k = w.heap.size
    · omega
    · rw [Hp.ins_ne hkb] at hk; exact absurd hh hk

theorem retNew_after (hR : Rel C B e h a w) {cs : List Value} {mk : Addr → Value} {hid : Slot} {el : TypeId} (hk : retNew C o.dst cs mk hid h K)
    (hm : mk ⟨w.heap.size, 0, none⟩ = hidV w.heap.size hid) (hc : hidC hid = cs) (hh : isHid hid = true) :
    After C B o e K (a.put o.dst (mk ⟨w.heap.size, 0, none⟩)) (w.alloc (.cells cs.toArray el (0, 0))) := by
  unfold retNew at hk
  split at hk
  · exact hk.elim
  · rename_i d hd
    split at hk
    · rename_i hl hn
      refine ⟨.alloc d hid, h, hk, ?_, fun d' hd' => ?_⟩
      · rw [hd, hm, ← hc]; exact hR.allocHid hl (by have := hn; unfold Nat.blt at this; have := Nat.le_of_ble_eq_true this; omega) hh
      · simp only [Up.dst, Option.some.injEq] at hd'; subst hd'; simp [modsO, hd]
    · rename_i hl hn
      have := hk w.heap.size el (hR.sub.fresh (Nat.le_refl _))
      refine ⟨_, _, this, ?_, fun d' hd' => ?_⟩
      · rw [hd]; exact (hR.alloc cs el).setVal hl (by have := hn; unfold Nat.blt at this; have := Nat.le_of_ble_eq_true this; omega)
      · simp only [Up.dst, Option.some.injEq] at hd'; subst hd'; simp [modsO, hd]
    · exact hk.elim

/-- Writing into the known part of the memory. -/
theorem stP_run (hs : Sub h w) {ad : Addr} {vs : List Value} {K : Hp → Prop} (hk : stP ad vs K h) :
    ∃ h' w', K h' ∧ (storeCells ad vs).run C.P w = .ok () w' ∧ Sub h' w' ∧ Fr h w w' ∧ (∀ k, h' k ≠ none → h k = none → w.heap.size ≤ k) := by
  obtain ⟨b, hb, hsp, hfz, hlen, hl, hK⟩ := hk
  obtain ⟨bl, off, sp⟩ := ad
  simp only at hb hsp hlen hK
  subst hsp
  have hw := hs _ _ hb
  rw [hfz] at hw
  have hlt := block_lt hw
  refine ⟨_, _, hK, storeCells_run hw (by simpa using hlen) hl, ?_, ?_, ?_⟩
  · intro k c hkc
    by_cases hkb : k = bl
    · subst hkb; rw [Hp.ins_same] at hkc; cases hkc
      rw [setBlk_same hlt]; simp [hfz]
    · rw [Hp.ins_ne hkb] at hkc; rw [setBlk_ne hkb]; exact hs k c hkc
  · refine ⟨by rw [setBlk_size]; exact Nat.le_refl _, fun k hk1 hk2 => ?_, rfl, rfl, rfl, Nat.le_refl _⟩
    have hkb : k ≠ bl := fun hh => by rw [hh, hb] at hk2; cases hk2
    exact setBlk_ne hkb
  · intro k hk1 hk2
    have hkb : k ≠ bl := fun hh => by rw [hh, hb] at hk2; cases hk2
    rw [Hp.ins_ne hkb] at hk1; exact absurd hk2 hk1

theorem drew_fr (D : Hp) (w : World) : Fr D w { w with drawn := w.drawn + 1 } := ⟨Nat.le_refl _, fun _ _ _ => rfl, rfl, rfl, rfl, Nat.le_succ _⟩
theorem Rel.drew (hR : Rel C B e h a w) : Rel C B e h a { w with drawn := w.drawn + 1 } := hR.step hR.sub (drew_fr h w) (fun k h1 h2 => absurd h2 h1)

end
end Den
