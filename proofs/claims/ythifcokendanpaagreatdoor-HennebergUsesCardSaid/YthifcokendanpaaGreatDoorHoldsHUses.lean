/-
  HennebergUses holds for every input.
-/
import Derived.Test.YthifcokendanpaaGreatDoorPartu6
import Derived.Test.YthifcokendanpaaGreatDoorRows
import Derived.Test.YthifcokendanpaaGreatDoorArgK
import Derived.Test.YthifcokendanpaaGreatDoorCards
import Derived.WalkKit
import Derived.ProofKit
import Derived.SizedLaws
import Derived.OpenShut

namespace Go.Proofs.YthifcokendanpaaGreatDoor.hennebergUses
open Go.ChangeShapes Go.WideShapes Go.ChangeAt Go.RowKit Den Iv Lx
open Go.ChangeMaps (open_string shut_string)
set_option linter.all false

theorem own : ownKnob Tryz.prog.godebug = none := kfOwn

theorem walk (a0 : TSketch) (w : World) (hGT : GT (Den.hpW w)) (hUT : UT (Den.hpW w)) (ha0 : (∃ T, SK (Den.hpW w) a0 T)) :
    Calls Tryz.prog 13 #[Den.tyTSketch.up a0] w fun e w' => e = .returned (.bool true) ∧ w'.os = w.os ∧ w'.output = w.output ∧ w.heap.size ≤ w'.heap.size ∧ ∀ k, k < w.heap.size → w'.heap[k]? = w.heap[k]? := by
  exact Den.zab6 Den.zxt (a0, ()) (Den.hpW w) w (Den.zab7 w) (fun K hk => Den.za4k ha0.choose_spec hGT hUT hk)

abbrev laidL : List (String × DataW Unit) := Rows.hennebergUsesRow.laid
theorem door_met (os : Os) (args : Array Value) : laidMetH Tryz.prog laidL ((World.doorLaid Tryz.prog 73 os).forCall (fun _ _ => 0) ⟨#[], args, []⟩).memory :=
  laidMetH_of_parts3 (fuel := 8) (laidMet_of_run' 8 (by kernel_rfl) (by kernel_rfl)) (by kernel_rfl) (by kernel_rfl)
set_option maxRecDepth 100000 in
theorem lifted (os : Os) (started : os.Started) (H : Type) (enc : TypeId × Value → H) :
    ReturnsInHanded {} Tryz.checked os 13 .any (fun w args => (Rows.hennebergUsesSpec.pre enc Tryz.prog Tryz.f13 [] false w args ∧ laidMetH Tryz.prog laidL w) ∧ sizedMet enc Tryz.prog Tryz.f13 (OpenSpec.ofChange Rows.hennebergUsesSpec) false w args)
      (Rows.hennebergUsesSpec.post enc Tryz.prog Tryz.f13 false true false false) := by
  refine returnsInHanded_of_change_and (C := Tryz.checked) (X := fun w _ => laidMetH Tryz.prog laidL w) (fun _ _ _ hh h => h.of_heap hh) own started (by kernel_rfl) Tryz.func13
    (ChangeSpec.witness_shaped (enc := enc) (C := Tryz.checked) (os := os) (X := fun w _ => laidMetH Tryz.prog laidL w) false (World.doorLaid Tryz.prog 73 os) #[.agg #[.slice none 0 0, .slice none 0 0, .slice none 0 0, .slice none 0 0, .slice none 0 0, .slice none 0 0]] 8 rfl (World.shaped_of_RefB (by kernel_rfl) (by kernel_rfl)) (by kernel_rfl) (by kernel_rfl) (by kernel_rfl) (door_met os _)) ?_
  intro W base args ds gs before hval0 hW hcnd0 hsz0 hL _
  have hGT : GT (Den.hpW W) := by
    rw [MakeChecks.laidMetH_plain _ _ _ (by kernel_rfl)] at hL
    exact gt_of hL (List.mem_of_getElem? (i := 2) rfl) (List.mem_of_getElem? (i := 3) rfl) (List.mem_of_getElem? (i := 4) rfl)
  have hUT : UT (Den.hpW W) := by
    rw [MakeChecks.laidMetH_plain _ _ _ (by kernel_rfl)] at hL
    exact ut_of hL (List.mem_of_getElem? (i := 5) rfl)
  have hval : ∀ (j : Nat) t v, Tryz.f13.params[j]? = some t → args[j]? = some v → Value.okWide Tryz.prog W .any base t v := hval0
  have hW' := hW
  obtain ⟨p, q, hA0, hV, rfl, hfz, hnd⟩ := hW
  have hlt := hW'.lt
  have hA : DataW.TrodAll enc Tryz.prog W 0 (fun _ => true) true Tryz.f13.params.toList args.toList ds p := hA0
  have hsz1 : (DataW.weightsEach Tryz.prog (Tryz.f13.params.toList ++ []) (ds ++ gs)).all (· ≤ reachBytes) = true := hsz0
  rw [Tryz.params13, List.append_nil] at hsz1
  rw [Tryz.params13] at hA hval
  have hA2 := hA
  obtain ⟨v0, vs0, d0, ds0, p0, q0, hargs0, rfl, rfl, h0, r0⟩ := trodAll_cons hA
  obtain ⟨rfl, rfl, rfl⟩ := trodAll_nil r0
  obtain rfl : args = #[v0] := by cases args; simp_all
  obtain ⟨rfl, rfl⟩ := trodVars_none hV
  rw [List.append_nil] at hsz1
  obtain ⟨c0, rfl, e0⟩ := Den.zab8 (hval 0 29 v0 rfl rfl) (by kernel_rfl)
  have o0 := Den.zab9 0 rfl rfl h0 hsz1
  rw [e0] at o0
  obtain ⟨a0, rfl, fa0⟩ := Den.okt_S o0
  clear hA0 hval0 hcnd0 hsz0
  refine (walk a0 W hGT hUT fa0).mono fun e W' ⟨he, h1, h2, h3, h4⟩ => ?_
  subst he
  have hts : ∀ t ∈ ([29] : List TypeId), t < Tryz.prog.types.size := of_decide_eq_true (by kernel_rfl)
  have hpa : ∀ p ∈ p0 ++ ([]), p.block < W.heap.size := fun p hp => hlt p (List.mem_append_left _ hp)
  have hargs : ∀ sp : Nat → Bool, (∀ p ∈ (p0 ++ ([])) ++ [], sp p.block = true) → DataW.TrodAll enc Tryz.prog W' 0 sp true ([29] : List TypeId) [Den.tyTSketch.up a0] [d0] (p0 ++ ([])) := fun sp hsp =>
    Den.zvi Den.zab5 Den.zab3 Den.zab4 h4 hts hpa (fun p hp => hsp p (List.mem_append_left _ hp)) hA2
  exact ⟨_, rfl, Den.za7g (pa := p0 ++ ([])) (pv := []) hW' (fun _ _ _ => trodAll_cons_mk (shut_bool Tryz.underlying4 _) trodAll_mk0)
    hargs (fun _ _ => rfl) rfl
    (Den.za8g h1 h2 h4 _) (fun a ha => Den.za6r h4 ha) (ok_one (by kernel_rfl) rfl (okWide_bool_mk Tryz.underlying4 _))⟩

theorem k0 : (Rows.hennebergUsesRow.wf (OpenSpec.ofChange Rows.hennebergUsesSpec)) = true := by kernel_rfl
theorem k3 : (Tryz.f13.params.all (Tryz.prog.readableRec ·)) = true := by kernel_rfl
theorem k4 : (namedTie Tryz.prog Rows.hennebergUsesRow.named Rows.hennebergUsesSpec.vars) = true := by kernel_rfl
theorem k5 : ((Rows.hennebergUsesRow.stops == [])) = true := by kernel_rfl
theorem k7 : ((Rows.hennebergUsesRow.knobs == [])) = true := by kernel_rfl
theorem k9 : ((Rows.hennebergUsesRow.inPlace == Tryz.prog.inPlace 13)) = true := by kernel_rfl
theorem k10 : ((Rows.hennebergUsesRow.unfollowed == Tryz.prog.unfollowed 13)) = true := by kernel_rfl
theorem k11 : ((Rows.hennebergUsesRow.recurses == Tryz.prog.recurses 13)) = true := by kernel_rfl
theorem k12 : ((Rows.hennebergUsesRow.named == Tryz.prog.varsNamed 13)) = true := by kernel_rfl
theorem k13 : ((Rows.hennebergUsesRow.maps == (Tryz.f13.params.toList ++ Rows.hennebergUsesSpec.plain.varTypes Tryz.prog).any (Tryz.prog.mapsRec ·))) = true := by kernel_rfl
theorem k14 : ((Rows.hennebergUsesRow.ifaces == (Tryz.f13.params.toList ++ Rows.hennebergUsesSpec.plain.varTypes Tryz.prog).any (Tryz.prog.ifacesRec ·))) = true := by kernel_rfl
theorem k15 : ((Rows.hennebergUsesRow.mapsOut == Tryz.prog.mapsAmong Tryz.f13.resultTypes.toList)) = true := by kernel_rfl
theorem k16 : ((Rows.hennebergUsesRow.loops == (Tryz.f13.params.toList ++ Rows.hennebergUsesSpec.plain.varTypes Tryz.prog).any (Tryz.prog.loopsFrom ·))) = true := by kernel_rfl
theorem k17 : ((Rows.hennebergUsesRow.wideKeys == (Tryz.f13.params.toList ++ Rows.hennebergUsesSpec.plain.varTypes Tryz.prog ++ Tryz.f13.resultTypes.toList).any (Tryz.prog.wideKeysFrom ·))) = true := by kernel_rfl
theorem k18 : (Rows.hennebergUsesSpec.vars.all (Tryz.prog.varReadable ·)) = true := by kernel_rfl
theorem k19 : (Tryz.f13.resultTypes.all (fun t => Tryz.prog.readableRec t && decide (t < Tryz.prog.types.size))) = true := by kernel_rfl
theorem k20 : ((Rows.hennebergUsesRow.ifacesOut == Tryz.f13.resultTypes.toList.any (Tryz.prog.ifacesRec ·))) = true := by kernel_rfl
theorem k21 : ((Rows.hennebergUsesRow.loopsOut == Tryz.f13.resultTypes.toList.any (Tryz.prog.loopsFrom ·))) = true := by kernel_rfl
theorem k23 : (Rows.hennebergUsesRow.shortTexts.isNone) = true := by kernel_rfl
theorem k28 : ((Rows.hennebergUsesRow.kinds == (if Rows.hennebergUsesRow.domain.isEmpty then [] else Tryz.f13.params.toList.map fun t => match Tryz.prog.underlying t with | some (.int k) => some k | _ => none))) = true := by kernel_rfl
theorem k29 : ((Rows.hennebergUsesRow.pinned == Rows.hennebergUsesRow.pinnedBy)) = true := by kernel_rfl
theorem k30 : ((Rows.hennebergUsesRow.veiled == (Tryz.f13.params.toList ++ Rows.hennebergUsesSpec.plain.varTypes Tryz.prog ++ Tryz.f13.resultTypes.toList).any (Tryz.prog.veiledRec ·))) = true := by kernel_rfl
theorem k31 : (Rows.hennebergUsesRow.veiledFits Tryz.prog Tryz.f13.params.toList (Tryz.f13.params.toList ++ Rows.hennebergUsesSpec.plain.varTypes Tryz.prog ++ Tryz.f13.resultTypes.toList)) = true := by kernel_rfl
set_option maxRecDepth 100000 in
theorem closed : joinedFacts Tryz.prog 13 Tryz.f13 Rows.hennebergUsesSpec Rows.hennebergUsesRow = true :=
  andI (andI (andI (andI (andI (andI (andI (andI (andI (andI (andI (andI (andI (andI (andI (andI (andI (andI (andI (andI (andI (andI (andI (andI (andI (andI (andI (andI (andI (andI (andI k0 kf2) kf3) k3) k4) k5) kf7) k7) kf9) k9) k10) k11) k12) k13) k14) k15) k16) k17) k18) k19) k20) k21) kf23) k23) kf25) kf26) kf27) kf28) k28) k29) k30) k31
theorem wrap : Tryz.f13.isWrapper Tryz.prog Rows.hennebergUsesRow.wrapper Rows.hennebergUsesRow.mainSum := by unfold Func.isWrapper; first | (rw [if_pos (by decide +kernel)]; kernel_rfl) | (rw [if_neg (by decide +kernel)]; exact ⟨rfl, rfl⟩)
theorem named : Tryz.prog.funcNamed "setsquare/setsquarelaw39.HennebergUses" = some 13 := by kernel_rfl
theorem hennebergUses_holds : Rows.HennebergUsesSaid :=
  OpenClaim.holds_of_wide 13 Tryz.f13 rfl rfl rfl rfl rfl rfl rfl ⟨rfl, rfl, rfl, rfl, rfl⟩ rfl rfl rfl rfl rfl named Tryz.func13 closed
    (of_decide_eq_true (by kernel_rfl)) wrap
    (fun os started H enc _ => lifted os started H enc)
theorem kWf : Rows.hennebergUsesRow.wfByText (OpenSpec.ofChange Rows.hennebergUsesSpec) = true := by kernel_rfl
theorem kGoes : false = Rows.hennebergUsesRow.goesBy Tryz.pinned.checked.prog := by kernel_rfl
theorem kStand : ∀ t ∈ (([29] : List TypeId)), Tryz.prog.wantsStandIn t = false := by
  intro t ht
  simp only [List.mem_cons, List.not_mem_nil, or_false] at ht
  rcases ht with rfl <;> kernel_rfl
theorem hennebergUses_card : Rows.HennebergUsesCardSaid :=
  Claim7.holds_tied_plain_at .later [] Rows.hennebergUsesCard.laidKinds true Rows.hennebergUsesCard.stood.harness false
    hennebergUses_holds (fun _ h => by cases h) kWf (fun _ h => by cases h) hennebergUses_row_tie rfl ⟨rfl, rfl⟩ kfMain rfl
    (fun f fn hf hfn => by
      obtain rfl : f = 13 := Option.some.inj (named.symm.trans hf) |>.symm
      obtain rfl : fn = Tryz.f13 := (Option.some.inj (Tryz.func13.symm.trans hfn)).symm
      exact ⟨kfLooks, fun j t ht => by
        rw [Tryz.params13] at ht
        exact kStand t (List.mem_of_getElem? (by simpa using ht))⟩)
    kGoes
end Go.Proofs.YthifcokendanpaaGreatDoor.hennebergUses
#print axioms Go.Proofs.YthifcokendanpaaGreatDoor.hennebergUses.hennebergUses_card
