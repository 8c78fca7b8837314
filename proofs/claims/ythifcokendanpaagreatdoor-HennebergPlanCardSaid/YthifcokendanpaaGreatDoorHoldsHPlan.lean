/-
  HennebergPlan holds for every input.
-/
import Derived.Test.YthifcokendanpaaGreatDoorParta7
import Derived.Test.YthifcokendanpaaGreatDoorRows
import Derived.Test.YthifcokendanpaaGreatDoorArgK
import Derived.Test.YthifcokendanpaaGreatDoorCards
import Derived.WalkKit
import Derived.ProofKit
import Derived.SizedLaws
import Derived.OpenShut

namespace Go.Proofs.YthifcokendanpaaGreatDoor.hennebergPlan
open Go.ChangeShapes Go.WideShapes Go.ChangeAt Go.RowKit Den Iv Lx
open Go.ChangeMaps (open_string shut_string)
set_option linter.all false

theorem own : ownKnob Tryz.prog.godebug = none := kfOwn

theorem walk (a0 : TSketch) (w : World) (hGT : GT (Den.hpW w)) (ha0 : (∃ T, SK (Den.hpW w) a0 T)) :
    Calls Tryz.prog 4 #[Den.tyTSketch.up a0] w fun e w' => e = .returned (.bool true) ∧ w'.os = w.os ∧ w'.output = w.output ∧ w.heap.size ≤ w'.heap.size ∧ ∀ k, k < w.heap.size → w'.heap[k]? = w.heap[k]? := by
  exact Den.zagf Den.za28 (a0, ()) (Den.hpW w) w (Den.zagg w) (fun K hk => Den.za9p ha0.choose_spec hGT hk)

abbrev laidL : List (String × DataW Unit) := Rows.hennebergPlanRow.laid
theorem door_met (os : Os) (args : Array Value) : laidMetH Tryz.prog laidL ((World.doorLaid Tryz.prog 73 os).forCall (fun _ _ => 0) ⟨#[], args, []⟩).memory :=
  laidMetH_of_parts3 (fuel := 8) (laidMet_of_run' 8 (by kernel_rfl) (by kernel_rfl)) (by kernel_rfl) (by kernel_rfl)
set_option maxRecDepth 100000 in
theorem lifted (os : Os) (started : os.Started) (H : Type) (enc : TypeId × Value → H) :
    ReturnsInHanded {} Tryz.checked os 4 .any (fun w args => (Rows.hennebergPlanSpec.pre enc Tryz.prog Tryz.f4 [] false w args ∧ laidMetH Tryz.prog laidL w) ∧ sizedMet enc Tryz.prog Tryz.f4 (OpenSpec.ofChange Rows.hennebergPlanSpec) false w args)
      (Rows.hennebergPlanSpec.post enc Tryz.prog Tryz.f4 false true false false) := by
  refine returnsInHanded_of_change_and (C := Tryz.checked) (X := fun w _ => laidMetH Tryz.prog laidL w) (fun _ _ _ hh h => h.of_heap hh) own started (by kernel_rfl) Tryz.func4
    (ChangeSpec.witness_shaped (enc := enc) (C := Tryz.checked) (os := os) (X := fun w _ => laidMetH Tryz.prog laidL w) false (World.doorLaid Tryz.prog 73 os) #[.agg #[.slice none 0 0, .slice none 0 0, .slice none 0 0, .slice none 0 0, .slice none 0 0, .slice none 0 0]] 8 rfl (World.shaped_of_RefB (by kernel_rfl) (by kernel_rfl)) (by kernel_rfl) (by kernel_rfl) (by kernel_rfl) (door_met os _)) ?_
  intro W base args ds gs before hval0 hW hcnd0 hsz0 hL _
  have hGT : GT (Den.hpW W) := by
    rw [MakeChecks.laidMetH_plain _ _ _ (by kernel_rfl)] at hL
    exact gt_of hL (List.mem_of_getElem? (i := 2) rfl) (List.mem_of_getElem? (i := 3) rfl) (List.mem_of_getElem? (i := 4) rfl)
  have hval : ∀ (j : Nat) t v, Tryz.f4.params[j]? = some t → args[j]? = some v → Value.okWide Tryz.prog W .any base t v := hval0
  have hW' := hW
  obtain ⟨p, q, hA0, hV, rfl, hfz, hnd⟩ := hW
  have hlt := hW'.lt
  have hA : DataW.TrodAll enc Tryz.prog W 0 (fun _ => true) true Tryz.f4.params.toList args.toList ds p := hA0
  have hsz1 : (DataW.weightsEach Tryz.prog (Tryz.f4.params.toList ++ []) (ds ++ gs)).all (· ≤ reachBytes) = true := hsz0
  rw [Tryz.params4, List.append_nil] at hsz1
  rw [Tryz.params4] at hA hval
  have hA2 := hA
  obtain ⟨v0, vs0, d0, ds0, p0, q0, hargs0, rfl, rfl, h0, r0⟩ := trodAll_cons hA
  obtain ⟨rfl, rfl, rfl⟩ := trodAll_nil r0
  obtain rfl : args = #[v0] := by cases args; simp_all
  obtain ⟨rfl, rfl⟩ := trodVars_none hV
  rw [List.append_nil] at hsz1
  obtain ⟨c0, rfl, e0⟩ := Den.zagj (hval 0 29 v0 rfl rfl) (by kernel_rfl)
  have o0 := Den.zagk 0 rfl rfl h0 hsz1
  rw [e0] at o0
  obtain ⟨a0, rfl, fa0⟩ := Den.okt_S o0
  clear hA0 hval0 hcnd0 hsz0
  refine (walk a0 W hGT fa0).mono fun e W' ⟨he, h1, h2, h3, h4⟩ => ?_
  subst he
  have hts : ∀ t ∈ ([29] : List TypeId), t < Tryz.prog.types.size := of_decide_eq_true (by kernel_rfl)
  have hpa : ∀ p ∈ p0 ++ ([]), p.block < W.heap.size := fun p hp => hlt p (List.mem_append_left _ hp)
  have hargs : ∀ sp : Nat → Bool, (∀ p ∈ (p0 ++ ([])) ++ [], sp p.block = true) → DataW.TrodAll enc Tryz.prog W' 0 sp true ([29] : List TypeId) [Den.tyTSketch.up a0] [d0] (p0 ++ ([])) := fun sp hsp =>
    Den.zzf Den.zage Den.zagc Den.zagd h4 hts hpa (fun p hp => hsp p (List.mem_append_left _ hp)) hA2
  exact ⟨_, rfl, Den.zacd (pa := p0 ++ ([])) (pv := []) hW' (fun _ _ _ => trodAll_cons_mk (shut_bool Tryz.underlying4 _) trodAll_mk0)
    hargs (fun _ _ => rfl) rfl
    (Den.zadf h1 h2 h4 _) (fun a ha => Den.zabn h4 ha) (ok_one (by kernel_rfl) rfl (okWide_bool_mk Tryz.underlying4 _))⟩

theorem k0 : (Rows.hennebergPlanRow.wf (OpenSpec.ofChange Rows.hennebergPlanSpec)) = true := by kernel_rfl
theorem k3 : (Tryz.f4.params.all (Tryz.prog.readableRec ·)) = true := by kernel_rfl
theorem k4 : (namedTie Tryz.prog Rows.hennebergPlanRow.named Rows.hennebergPlanSpec.vars) = true := by kernel_rfl
theorem k5 : ((Rows.hennebergPlanRow.stops == [])) = true := by kernel_rfl
theorem k7 : ((Rows.hennebergPlanRow.knobs == [])) = true := by kernel_rfl
theorem k9 : ((Rows.hennebergPlanRow.inPlace == Tryz.prog.inPlace 4)) = true := by kernel_rfl
theorem k10 : ((Rows.hennebergPlanRow.unfollowed == Tryz.prog.unfollowed 4)) = true := by kernel_rfl
theorem k11 : ((Rows.hennebergPlanRow.recurses == Tryz.prog.recurses 4)) = true := by kernel_rfl
theorem k12 : ((Rows.hennebergPlanRow.named == Tryz.prog.varsNamed 4)) = true := by kernel_rfl
theorem k13 : ((Rows.hennebergPlanRow.maps == (Tryz.f4.params.toList ++ Rows.hennebergPlanSpec.plain.varTypes Tryz.prog).any (Tryz.prog.mapsRec ·))) = true := by kernel_rfl
theorem k14 : ((Rows.hennebergPlanRow.ifaces == (Tryz.f4.params.toList ++ Rows.hennebergPlanSpec.plain.varTypes Tryz.prog).any (Tryz.prog.ifacesRec ·))) = true := by kernel_rfl
theorem k15 : ((Rows.hennebergPlanRow.mapsOut == Tryz.prog.mapsAmong Tryz.f4.resultTypes.toList)) = true := by kernel_rfl
theorem k16 : ((Rows.hennebergPlanRow.loops == (Tryz.f4.params.toList ++ Rows.hennebergPlanSpec.plain.varTypes Tryz.prog).any (Tryz.prog.loopsFrom ·))) = true := by kernel_rfl
theorem k17 : ((Rows.hennebergPlanRow.wideKeys == (Tryz.f4.params.toList ++ Rows.hennebergPlanSpec.plain.varTypes Tryz.prog ++ Tryz.f4.resultTypes.toList).any (Tryz.prog.wideKeysFrom ·))) = true := by kernel_rfl
theorem k18 : (Rows.hennebergPlanSpec.vars.all (Tryz.prog.varReadable ·)) = true := by kernel_rfl
theorem k19 : (Tryz.f4.resultTypes.all (fun t => Tryz.prog.readableRec t && decide (t < Tryz.prog.types.size))) = true := by kernel_rfl
theorem k20 : ((Rows.hennebergPlanRow.ifacesOut == Tryz.f4.resultTypes.toList.any (Tryz.prog.ifacesRec ·))) = true := by kernel_rfl
theorem k21 : ((Rows.hennebergPlanRow.loopsOut == Tryz.f4.resultTypes.toList.any (Tryz.prog.loopsFrom ·))) = true := by kernel_rfl
theorem k23 : (Rows.hennebergPlanRow.shortTexts.isNone) = true := by kernel_rfl
theorem k28 : ((Rows.hennebergPlanRow.kinds == (if Rows.hennebergPlanRow.domain.isEmpty then [] else Tryz.f4.params.toList.map fun t => match Tryz.prog.underlying t with | some (.int k) => some k | _ => none))) = true := by kernel_rfl
theorem k29 : ((Rows.hennebergPlanRow.pinned == Rows.hennebergPlanRow.pinnedBy)) = true := by kernel_rfl
theorem k30 : ((Rows.hennebergPlanRow.veiled == (Tryz.f4.params.toList ++ Rows.hennebergPlanSpec.plain.varTypes Tryz.prog ++ Tryz.f4.resultTypes.toList).any (Tryz.prog.veiledRec ·))) = true := by kernel_rfl
theorem k31 : (Rows.hennebergPlanRow.veiledFits Tryz.prog Tryz.f4.params.toList (Tryz.f4.params.toList ++ Rows.hennebergPlanSpec.plain.varTypes Tryz.prog ++ Tryz.f4.resultTypes.toList)) = true := by kernel_rfl
set_option maxRecDepth 100000 in
theorem closed : joinedFacts Tryz.prog 4 Tryz.f4 Rows.hennebergPlanSpec Rows.hennebergPlanRow = true :=
  andI (andI (andI (andI (andI (andI (andI (andI (andI (andI (andI (andI (andI (andI (andI (andI (andI (andI (andI (andI (andI (andI (andI (andI (andI (andI (andI (andI (andI (andI (andI k0 kf2) kf3) k3) k4) k5) kf7) k7) kf9) k9) k10) k11) k12) k13) k14) k15) k16) k17) k18) k19) k20) k21) kf23) k23) kf25) kf26) kf27) kf28) k28) k29) k30) k31
theorem wrap : Tryz.f4.isWrapper Tryz.prog Rows.hennebergPlanRow.wrapper Rows.hennebergPlanRow.mainSum := by unfold Func.isWrapper; first | (rw [if_pos (by decide +kernel)]; kernel_rfl) | (rw [if_neg (by decide +kernel)]; exact ⟨rfl, rfl⟩)
theorem named : Tryz.prog.funcNamed "setsquare/setsquarelaw39.HennebergPlan" = some 4 := by kernel_rfl
theorem hennebergPlan_holds : Rows.HennebergPlanSaid :=
  OpenClaim.holds_of_wide 4 Tryz.f4 rfl rfl rfl rfl rfl rfl rfl ⟨rfl, rfl, rfl, rfl, rfl⟩ rfl rfl rfl rfl rfl named Tryz.func4 closed
    (of_decide_eq_true (by kernel_rfl)) wrap
    (fun os started H enc _ => lifted os started H enc)
theorem kWf : Rows.hennebergPlanRow.wfByText (OpenSpec.ofChange Rows.hennebergPlanSpec) = true := by kernel_rfl
theorem kGoes : false = Rows.hennebergPlanRow.goesBy Tryz.pinned.checked.prog := by kernel_rfl
theorem kStand : ∀ t ∈ (([29] : List TypeId)), Tryz.prog.wantsStandIn t = false := by
  intro t ht
  simp only [List.mem_cons, List.not_mem_nil, or_false] at ht
  rcases ht with rfl <;> kernel_rfl
theorem hennebergPlan_card : Rows.HennebergPlanCardSaid :=
  Claim7.holds_tied_plain_at .later [] Rows.hennebergPlanCard.laidKinds true Rows.hennebergPlanCard.stood.harness false
    hennebergPlan_holds (fun _ h => by cases h) kWf (fun _ h => by cases h) hennebergPlan_row_tie rfl ⟨rfl, rfl⟩ kfMain rfl
    (fun f fn hf hfn => by
      obtain rfl : f = 4 := Option.some.inj (named.symm.trans hf) |>.symm
      obtain rfl : fn = Tryz.f4 := (Option.some.inj (Tryz.func4.symm.trans hfn)).symm
      exact ⟨kfLooks, fun j t ht => by
        rw [Tryz.params4] at ht
        exact kStand t (List.mem_of_getElem? (by simpa using ht))⟩)
    kGoes
end Go.Proofs.YthifcokendanpaaGreatDoor.hennebergPlan
#print axioms Go.Proofs.YthifcokendanpaaGreatDoor.hennebergPlan.hennebergPlan_card
