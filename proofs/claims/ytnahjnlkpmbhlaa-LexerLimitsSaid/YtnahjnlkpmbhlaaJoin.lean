/-
  From the entry of a law to its row: what was there stands behind the call.
-/
import Derived.Test.YtnahjnlkpmbhlaaFl
import Derived.ProofKit
set_option linter.unusedVariables false
namespace Den
open Go
open Go.ChangeShapes Go.WideShapes Go.ChangeAt Go.RowKit

theorem old_same {D h' : Hp} {w w' : World} (hs : Sub D w) (hf : Fr D w w') (hs' : Sub h' w') (hl : D.le h') : ∀ k, k < w.heap.size → w'.heap[k]? = w.heap[k]? := fun k hk => by
  cases hD : D k with
  | none => exact hf.2.1 k hk hD
  | some b => rw [hs' k b (hl k b hD), hs k b hD]

theorem kept_of_same {w w' : World} (h1 : w'.os = w.os) (h2 : w'.output = w.output) (h3 : ∀ k, k < w.heap.size → w'.heap[k]? = w.heap[k]?) (may : MemPlace → Prop) : w.keptBut w' may := by
  refine ⟨h1, h2, fun i hi => ?_⟩
  rw [h3 i hi]
  exact (World.keptBut_refl w may).2.2 i hi

theorem frozen_of_same {w w' : World} (h3 : ∀ k, k < w.heap.size → w'.heap[k]? = w.heap[k]?) {a : Addr} (ha : a.block < w.heap.size) : w'.frozen? a = w.frozen? a := by
  unfold World.frozen?; rw [h3 _ ha]
theorem cell_of_same {w w' : World} (h3 : ∀ k, k < w.heap.size → w'.heap[k]? = w.heap[k]?) {a : Addr} (ha : a.block < w.heap.size) : w'.cell? a = w.cell? a := by
  unfold World.cell?; rw [h3 _ ha]

section
variable {H : Type} {enc : TypeId × Value → H} {P : Program}

/-- 'post_of_same', with the marks of what was there alone. -/
theorem post_of_same2 {f : Func} {s : ChangeSpec} {apart fresh handsOn again : Bool} {W W' : World} {args : Array Value} {v : Value} {ds gs : List (DataW H)} {before pa pv : List MemPlace}
    (hW : DataW.Whole enc P f.params.toList s.vars apart W args.toList ds gs before)
    (hres : ∀ (b : Nat) (sp : Nat → Bool) (hd : Bool), DataW.TrodAll enc P W' b sp hd f.resultTypes.toList (v.resultList f.resultTypes.size) (s.fn H (ds ++ gs)).results [])
    (hargs : ∀ sp : Nat → Bool, (∀ p ∈ before, sp p.block = true) → DataW.TrodAll enc P W' 0 sp true f.params.toList args.toList (s.fn H (ds ++ gs)).args pa)
    (hvars : ∀ sp : Nat → Bool, (∀ p ∈ before, sp p.block = true) → DataW.TrodVars enc P W' sp s.vars (s.fn H (ds ++ gs)).vars pv)
    (hps : before = pa ++ pv) (hk : W.keptBut W' (· ∈ before)) (hfz : ∀ a, a.block < W.heap.size → W'.frozen? a = W.frozen? a)
    (hok : ∀ (j : Nat) (t : TypeId) (r : Value), f.resultTypes[j]? = some t → (v.resultList f.resultTypes.size)[j]? = some r → Value.okWide P W' .any 0 t r) :
    s.post enc P f apart fresh handsOn again W args v W' := by
  have hold : ∀ p ∈ before, (fun b => decide (b < W.heap.size)) p.block = true := fun p hp => by simpa using hW.lt p hp
  have hlt := hW.lt
  refine ⟨ds, gs, before, [], pa, pv, hW, hres _ _ _, hargs _ hold, hvars _ hold, World.keptBut_mono (fun p hp => ⟨hp, ?_⟩) hk, fun _ => ?_⟩
  · rw [hps, List.mem_append] at hp
    exact Or.inr hp
  · obtain ⟨_, _, _, _, _, hz, hn⟩ := hW
    refine ⟨hok, _, _, ([] ++ pa) ++ pv, ⟨[] ++ pa, pv, trodAll_append (hargs _ (fun _ _ => rfl)) (hres _ _ _), hvars _ (fun _ _ => rfl), rfl, ?_, ?_⟩, ?_⟩
    · intro b off hp
      have hp' : MemPlace.cell b off ∈ before := by rw [hps]; simpa using hp
      rw [hfz _ (hlt _ hp')]
      exact hz b off hp'
    · intro ha
      have := hn ha
      rw [hps] at this
      simpa using this
    · intro p hp _
      rw [hps]
      simpa using hp
end

/-- The call of a law. -/
theorem law_calls {α : Type} {A : ArgT α} {F : α → (Bool → Hp → Prop) → Hp → Prop} {P : Program} {g : Nat} (hE : Entry P g (mkE A (Ty.leaf .bool) F) false) (a : α) (D : Hp) (w : World) (hs : Sub D w)
    (hF : ∀ K : Bool → Hp → Prop, (∀ h', D.le h' → K true h') → F a K D) :
    Calls P g (A.up a).toArray w fun e w' => e = .returned (.bool true) ∧ w'.os = w.os ∧ w'.output = w.output ∧ w.heap.size ≤ w'.heap.size ∧ ∀ k, k < w.heap.size → w'.heap[k]? = w.heap[k]? := by
  refine (hE.fn.2 (A.up a) (fun v h' => v = .bool true ∧ D.le h') D w hs ((A.cmp a _).2 ?_)).mono ?_
  · exact callP_of (fun v _ => v = true) (fun K' hk => hF _ fun h' hl => hk _ _ hl rfl) fun v h' hl hv => by subst hv; exact ⟨rfl, hl⟩
  · rintro e w' ⟨v, h', rfl, ⟨rfl, hl⟩, hs', hf, hd⟩
    exact ⟨rfl, hf.2.2.2.1, hf.2.2.2.2.1, hf.1, old_same hs hf hs' hl⟩
end Den
