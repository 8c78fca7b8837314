/-
  Functions with typed arguments and results, as entries of a table.
-/
import Derived.Test.YtnahjnlkpmbhlaaDen15
namespace Den
open Go

structure Ty (α : Type) where
  up : α → Value
  dn : Value → (α → Prop) → Prop
  snd : ∀ v K, dn v K → ∃ x, v = up x ∧ K x
  cmp : ∀ x K, dn (up x) K ↔ K x

structure ArgT (α : Type) where
  up : α → List Value
  dn : List Value → (α → Prop) → Prop
  snd : ∀ v K, dn v K → ∃ x, v = up x ∧ K x
  cmp : ∀ x K, dn (up x) K ↔ K x

def mkE {α ρ : Type} (A : ArgT α) (R : Ty ρ) (F : α → (ρ → Hp → Prop) → Hp → Prop) : FSem := fun args K h =>
  A.dn args fun a => callP (F a) (fun r => K (R.up r)) h
def mkM {α ρ : Type} (A : ArgT α) (R : Ty ρ) (F : α → (ρ → Hp → Prop) → Hp → Prop) : FSem := fun args K h =>
  A.dn args fun a => callM (F a) (fun r => K (R.up r)) h

structure Entry (P : Program) (g : Nat) (F : FSem) (m : Bool) : Prop where
  fn : FnOK P g F
  like : m = false → ∀ args, CallLike (F args)
  mono : ∀ args K K' h, (∀ v h, K v h → K' v h) → F args K h → F args K' h

def Tab (C : Cfg) : List (Nat × FSem) → Prop
  | [] => True
  | (g, F) :: r => Entry C.P g F (memN g C.mutL) ∧ Tab C r

theorem Tab.ok {C : Cfg} : ∀ {l : List (Nat × FSem)}, Tab C l → TabOK C l
  | [], _ => trivial
  | (_, _) :: _, h => ⟨h.1.fn, h.1.like, Tab.ok h.2⟩
theorem Tab.mono {C : Cfg} : ∀ {l : List (Nat × FSem)}, Tab C l → ∀ g args K K' h, (∀ v h, K v h → K' v h) → lookF g l args K h → lookF g l args K' h
  | [], _, _, _, _, _, _, _, hk => hk
  | (g', F) :: r, ht, g, args, K, K', h, hkk, hk => by
    unfold lookF at *
    by_cases hg : g = g'
    · subst hg; rw [beqT] at *; exact ht.1.mono args K K' h hkk hk
    · rw [beqF hg] at *; exact Tab.mono ht.2 g args K K' h hkk hk
theorem CfgOK.of {C : Cfg} (h : Tab C C.tab) : CfgOK C := ⟨h.ok, h.mono⟩

section
variable {α ρ : Type} {A : ArgT α} {R : Ty ρ} {F : α → (ρ → Hp → Prop) → Hp → Prop} {P : Program} {g : Nat}

theorem frame_post {K : Value → Hp → Prop} {D O : Hp} {Q : ρ → Hp → Prop} {w : World} (hdj : D.dj O) (hs : Sub (D.add O) w)
    (hq : ∀ v D', Q v D' → D'.dj O → (D'.add O).Fin → K (R.up v) (D'.add O)) : ∀ e w', Post (fun v h => R.dn v fun r => Q r h) D w e w' → Post K (D.add O) w e w' := by
  rintro e w' ⟨v, D', rfl, hv, hs', hf, hd⟩
  obtain ⟨r, rfl, hr⟩ := R.snd _ _ hv
  have hO : ∀ k b, O k = some b → D k = none ∧ w.heap[k]? = some (.cells b.cells.toArray b.elem b.fz) ∧ k < w.heap.size := fun k b hb => by
    have h1 : D k = none := by rcases hdj k with h1 | h1
                               · exact h1
                               · rw [h1] at hb; cases hb
    have h2 : (D.add O) k = some b := by simp [Hp.add, h1, hb]
    exact ⟨h1, hs k b h2, hs.lt h2⟩
  have hdj' : D'.dj O := fun k => by
    cases hb : O k with
    | none => exact .inr rfl
    | some b =>
      obtain ⟨h1, _, h3⟩ := hO k b hb
      left
      cases hk : D' k with
      | none => rfl
      | some x => have := hd k (by simp [hk]) h1; omega
  suffices hsub : Sub (D'.add O) w' from by
    refine ⟨R.up r, D'.add O, rfl, hq r D' hr hdj' hsub.fin, hsub, ?_, fun k h1 h2 => ?_⟩
    · exact ⟨hf.1, fun k h1 h2 => hf.2.1 k h1 (Hp.add_none.1 h2).1, hf.2.2⟩
    · rw [Hp.add_none] at h2
      refine hd k (fun hh => h1 ?_) h2.1
      rw [Hp.add_none]; exact ⟨hh, h2.2⟩
  intro k b hk
  · cases hk' : D' k with
    | some x =>
      have : (D'.add O) k = some x := by simp [Hp.add, hk']
      rw [this] at hk; cases hk
      exact hs' k _ hk'
    | none =>
      have : (D'.add O) k = O k := by simp [Hp.add, hk']
      rw [this] at hk
      obtain ⟨h1, h2, h3⟩ := hO k b hk
      rw [hf.2.1 k h3 h1]; exact h2

theorem mkE_entry (hfn : ∃ fn, P.funcs[g]? = some fn ∧ fn.body.isNone = false ∧ (fn.name == "runtime.NumGoroutine") = false)
    (hb : ∀ a K D w, Sub D w → F a K D → Calls P g (A.up a).toArray w (Post (fun v h => R.dn v fun r => K r h) D w)) : Entry P g (mkE A R F) false where
  fn := by
    refine ⟨hfn, fun args K h w hs hk => ?_⟩
    obtain ⟨a, rfl, D, O, Q, h1, rfl, h3, h4⟩ := A.snd _ _ hk
    exact (hb a Q D w (hs.mono (Hp.le_add D O)) h3).mono (frame_post h1 hs fun v D' hq hd hfin => (h4 v D' hq).2 hd hfin)
  like := fun _ args => by
    by_cases hx : ∃ a, args = A.up a
    · obtain ⟨a, rfl⟩ := hx
      exact .inl ⟨ρ, F a, R.up, fun K h => A.cmp a _⟩
    · refine .inr fun K h hk => hx ?_
      obtain ⟨a, ha, _⟩ := A.snd _ _ hk
      exact ⟨a, ha⟩
  mono := fun args K K' h hkk hk => by
    obtain ⟨a, rfl, hc⟩ := A.snd _ _ hk
    exact (A.cmp a _).2 (callP_mono (fun v h' hh _ _ => hkk _ _ hh) hc)

theorem mkM_entry (hfn : ∃ fn, P.funcs[g]? = some fn ∧ fn.body.isNone = false ∧ (fn.name == "runtime.NumGoroutine") = false)
    (hb : ∀ a K D w, Sub D w → F a K D → Calls P g (A.up a).toArray w (Post (fun v h => R.dn v fun r => K r h) D w)) : Entry P g (mkM A R F) true where
  fn := by
    refine ⟨hfn, fun args K h w hs hk => ?_⟩
    obtain ⟨a, rfl, D, O, Q, h1, rfl, h3, h4⟩ := A.snd _ _ hk
    exact (hb a Q D w (hs.mono (Hp.le_add D O)) h3).mono (frame_post h1 hs fun v D' hq hd _ => h4 v D' hq hd)
  like := fun hh => by cases hh
  mono := fun args K K' h hkk hk => by
    obtain ⟨a, rfl, hc⟩ := A.snd _ _ hk
    exact (A.cmp a _).2 (callM_mono (fun v h' hh => hkk _ _ hh) hc)

theorem body_of {C : Cfg} (hC : Tab C C.tab) {fn : Func} {c : Code} {an : An} (hf : C.P.funcs[g]? = some fn) (hb : fn.body = some c) (hn : fn.ntmps = C.n)
    (ha : ∀ a, Nat.ble (A.up a).length C.n = true) (hF : ∀ a K D, denF C fn c an (A.up a) (fun v h => R.dn v fun r => K r h) D = F a K D) :
    ∀ a K D w, Sub D w → F a K D → Calls C.P g (A.up a).toArray w (Post (fun v h => R.dn v fun r => K r h) D w) := fun a K D w hs hk =>
  fn_sound (CfgOK.of hC) hf hb hn (Nat.le_of_ble_eq_true (ha a)) hs (by rw [hF]; exact hk)

theorem entry_of {C : Cfg} (hC : Tab C C.tab) {fn : Func} {c : Code} {an : An} (hf : C.P.funcs[g]? = some fn) (hb : fn.body = some c) (hn : fn.ntmps = C.n)
    (hname : (fn.name == "runtime.NumGoroutine") = false) (ha : ∀ a, Nat.ble (A.up a).length C.n = true)
    (hF : ∀ a K D, denF C fn c an (A.up a) (fun v h => R.dn v fun r => K r h) D = F a K D) : Entry C.P g (mkE A R F) false :=
  mkE_entry ⟨fn, hf, by rw [hb]; rfl, hname⟩ (body_of hC hf hb hn ha hF)

theorem entryM_of {C : Cfg} (hC : Tab C C.tab) {fn : Func} {c : Code} {an : An} (hf : C.P.funcs[g]? = some fn) (hb : fn.body = some c) (hn : fn.ntmps = C.n)
    (hname : (fn.name == "runtime.NumGoroutine") = false) (ha : ∀ a, Nat.ble (A.up a).length C.n = true)
    (hF : ∀ a K D, denF C fn c an (A.up a) (fun v h => R.dn v fun r => K r h) D = F a K D) : Entry C.P g (mkM A R F) true :=
  mkM_entry ⟨fn, hf, by rw [hb]; rfl, hname⟩ (body_of hC hf hb hn ha hF)

end
end Den
