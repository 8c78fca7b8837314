/-
  TopMotions holds for every input.
-/
import Derived.Test.YtmmloncoopohfaaGreatDoorPartm8
import Derived.Test.YtmmloncoopohfaaGreatDoorRows
import Derived.Test.YtmmloncoopohfaaGreatDoorArgO
import Derived.Test.YtmmloncoopohfaaGreatDoorArgR
import Derived.Test.YtmmloncoopohfaaGreatDoorCards
import Derived.SizedLaws

namespace Go.Proofs.YtmmloncoopohfaaGreatDoor.topMotions
open Go.ChangeShapes Go.WideShapes Go.ChangeAt Go.RowKit Den Iv Lx
open Go.ChangeMaps (open_string shut_string)
set_option linter.unusedVariables false

theorem own : ownKnob Tryz.prog.godebug = none := kfOwn

theorem walk (a0 : Tsetsquareref13_Plot) (a1 : Int) (w : World) (hGT : P10 (Den.hpW w)) (ha0 : (PLA (Den.hpW w) a0)) (wa1 : (Lit.int .u8 a1).wf = true) :
    Calls Tryz.prog 3 #[Den.Wv.up a0, .int .u8 a1] w fun e w' => e = .returned (.bool true) ∧ w'.os = w.os ∧ w'.output = w.output ∧ w.heap.size ≤ w'.heap.size ∧ ∀ k, k < w.heap.size → w'.heap[k]? = w.heap[k]? := by
  have ba1 := wa1
  simp [Lit.wf, IntKind.min, IntKind.max, IntKind.signed, IntKind.bits] at ba1
  exact Den.Zxx Den.Zc9 (a0, a1, ()) (Den.hpW w) w (Den.Y0m w) (fun K hk => Den.Y12 hGT ha0 hk)

abbrev laidL : List (String × DataW Unit) := Rows.topMotionsRow.laid
theorem door_met (os : Os) (args : Array Value) : laidMetH Tryz.prog laidL ((World.doorLaid Tryz.prog 73 os).forCall (fun _ _ => 0) ⟨#[], args, []⟩).memory :=
  laidMetH_of_parts3 (fuel := 8) (laidMet_of_run' 8 (by kernel_rfl) (by kernel_rfl)) (by kernel_rfl) (by kernel_rfl)
set_option maxRecDepth 100000 in
theorem lifted (os : Os) (started : os.Started) (H : Type) (enc : TypeId × Value → H) :
    ReturnsInHanded {} Tryz.checked os 3 .any (fun w args => (Rows.topMotionsSpec.pre enc Tryz.prog Tryz.f3 [] false w args ∧ laidMetH Tryz.prog laidL w) ∧ sizedMet enc Tryz.prog Tryz.f3 (OpenSpec.ofChange Rows.topMotionsSpec) false w args)
      (Rows.topMotionsSpec.post enc Tryz.prog Tryz.f3 false true false false) := by
  refine returnsInHanded_of_change_and (C := Tryz.checked) (X := fun w _ => laidMetH Tryz.prog laidL w) (fun _ _ _ hh h => h.of_heap hh) own started (by kernel_rfl) Tryz.func3
    (ChangeSpec.witness_shaped (enc := enc) (C := Tryz.checked) (os := os) (X := fun w _ => laidMetH Tryz.prog laidL w) false (World.doorLaid Tryz.prog 73 os) #[.agg #[.slice none 0 0, .slice none 0 0], .int .u8 0] 8 rfl (World.shaped_of_RefB (by kernel_rfl) (by kernel_rfl)) (by kernel_rfl) (by kernel_rfl) (by kernel_rfl) (door_met os _)) ?_
  intro W base args ds gs before hval0 hW hcnd0 hsz0 hL _
  have hGT : P10 (Den.hpW W) := by
    rw [MakeChecks.laidMetH_plain _ _ _ (by kernel_rfl)] at hL
    exact Y0v hL (List.mem_of_getElem? (i := 2) rfl)
  have hval : ∀ (j : Nat) t v, Tryz.f3.params[j]? = some t → args[j]? = some v → Value.okWide Tryz.prog W .any base t v := hval0
  have hW' := hW
  obtain ⟨p, q, hA0, hV, rfl, hfz, hnd⟩ := hW
  have hlt := hW'.lt
  have hA : DataW.TrodAll enc Tryz.prog W 0 (fun _ => true) true Tryz.f3.params.toList args.toList ds p := hA0
  have hsz1 : (DataW.weightsEach Tryz.prog (Tryz.f3.params.toList ++ []) (ds ++ gs)).all (· ≤ reachBytes) = true := hsz0
  rw [Tryz.params3, List.append_nil] at hsz1
  rw [Tryz.params3] at hA hval
  have hA2 := hA
  obtain ⟨v0, vs0, d0, ds0, p0, q0, hargs0, rfl, rfl, h0, r0⟩ := trodAll_cons hA
  obtain ⟨v1, vs1, d1, ds1, p1, q1, hargs1, rfl, rfl, h1, r1⟩ := trodAll_cons r0
  obtain ⟨rfl, rfl, rfl⟩ := trodAll_nil r1
  obtain rfl : args = #[v0, v1] := by cases args; simp_all
  obtain ⟨rfl, rfl⟩ := trodVars_none hV
  rw [List.append_nil] at hsz1
  obtain ⟨c0, rfl, e0⟩ := Den.Y0o (hval 0 26 v0 rfl rfl) (by kernel_rfl)
  have o0 := Den.Y0u 0 rfl rfl h0 hsz1
  rw [e0] at o0
  obtain ⟨a0, rfl, fa0⟩ := Den.Zyy o0
  obtain ⟨a1, rfl, -, -, wa1⟩ := open_int Tryz.underlying5 (hval 1 5 v1 rfl rfl) h1
  clear hA0 hval0 hcnd0 hsz0
  refine (walk a0 a1 W hGT fa0 wa1).mono fun e W' ⟨he, h1, h2, h3, h4⟩ => ?_
  subst he
  have hts : ∀ t ∈ ([26, 5] : List TypeId), t < Tryz.prog.types.size := of_decide_eq_true (by kernel_rfl)
  have hpa : ∀ p ∈ p0 ++ (p1 ++ ([])), p.block < W.heap.size := fun p hp => hlt p (List.mem_append_left _ hp)
  have hargs : ∀ sp : Nat → Bool, (∀ p ∈ (p0 ++ (p1 ++ ([]))) ++ [], sp p.block = true) → DataW.TrodAll enc Tryz.prog W' 0 sp true ([26, 5] : List TypeId) [Den.Wv.up a0, .int .u8 a1] [d0, d1] (p0 ++ (p1 ++ ([]))) := fun sp hsp =>
    Den.zxw Den.Zxw Den.Zt3 Den.Zt5 h4 hts hpa (fun p hp => hsp p (List.mem_append_left _ hp)) hA2
  exact ⟨_, rfl, Den.Znu (pa := p0 ++ (p1 ++ ([]))) (pv := []) hW' (fun _ _ _ => trodAll_cons_mk (shut_bool Tryz.underlying4 _) trodAll_mk0)
    hargs (fun _ _ => rfl) rfl
    (Den.Zon h1 h2 h4 _) (fun a ha => Den.Zj6 h4 ha) (ok_one (by kernel_rfl) rfl (okWide_bool_mk Tryz.underlying4 _))⟩

theorem k0 : (Rows.topMotionsRow.wf (OpenSpec.ofChange Rows.topMotionsSpec)) = true := by kernel_rfl
theorem k3 : (Tryz.f3.params.all (Tryz.prog.readableRec ·)) = true := by kernel_rfl
theorem k4 : (namedTie Tryz.prog Rows.topMotionsRow.named Rows.topMotionsSpec.vars) = true := by kernel_rfl
theorem k5 : ((Rows.topMotionsRow.stops == [])) = true := by kernel_rfl
theorem k7 : ((Rows.topMotionsRow.knobs == [])) = true := by kernel_rfl
theorem k9 : ((Rows.topMotionsRow.inPlace == Tryz.prog.inPlace 3)) = true := by kernel_rfl
theorem k10 : ((Rows.topMotionsRow.unfollowed == Tryz.prog.unfollowed 3)) = true := by kernel_rfl
theorem k11 : ((Rows.topMotionsRow.recurses == Tryz.prog.recurses 3)) = true := by kernel_rfl
theorem k12 : ((Rows.topMotionsRow.named == Tryz.prog.varsNamed 3)) = true := by kernel_rfl
theorem k13 : ((Rows.topMotionsRow.maps == (Tryz.f3.params.toList ++ Rows.topMotionsSpec.plain.varTypes Tryz.prog).any (Tryz.prog.mapsRec ·))) = true := by kernel_rfl
theorem k14 : ((Rows.topMotionsRow.ifaces == (Tryz.f3.params.toList ++ Rows.topMotionsSpec.plain.varTypes Tryz.prog).any (Tryz.prog.ifacesRec ·))) = true := by kernel_rfl
theorem k15 : ((Rows.topMotionsRow.mapsOut == Tryz.prog.mapsAmong Tryz.f3.resultTypes.toList)) = true := by kernel_rfl
theorem k16 : ((Rows.topMotionsRow.loops == (Tryz.f3.params.toList ++ Rows.topMotionsSpec.plain.varTypes Tryz.prog).any (Tryz.prog.loopsFrom ·))) = true := by kernel_rfl
theorem k17 : ((Rows.topMotionsRow.wideKeys == (Tryz.f3.params.toList ++ Rows.topMotionsSpec.plain.varTypes Tryz.prog ++ Tryz.f3.resultTypes.toList).any (Tryz.prog.wideKeysFrom ·))) = true := by kernel_rfl
theorem k18 : (Rows.topMotionsSpec.vars.all (Tryz.prog.varReadable ·)) = true := by kernel_rfl
theorem k19 : (Tryz.f3.resultTypes.all (fun t => Tryz.prog.readableRec t && decide (t < Tryz.prog.types.size))) = true := by kernel_rfl
theorem k20 : ((Rows.topMotionsRow.ifacesOut == Tryz.f3.resultTypes.toList.any (Tryz.prog.ifacesRec ·))) = true := by kernel_rfl
theorem k21 : ((Rows.topMotionsRow.loopsOut == Tryz.f3.resultTypes.toList.any (Tryz.prog.loopsFrom ·))) = true := by kernel_rfl
theorem k23 : (Rows.topMotionsRow.shortTexts.isNone) = true := by kernel_rfl
theorem k28 : ((Rows.topMotionsRow.kinds == (if Rows.topMotionsRow.domain.isEmpty then [] else Tryz.f3.params.toList.map fun t => match Tryz.prog.underlying t with | some (.int k) => some k | _ => none))) = true := by kernel_rfl
theorem k29 : ((Rows.topMotionsRow.pinned == Rows.topMotionsRow.pinnedBy)) = true := by kernel_rfl
theorem k30 : ((Rows.topMotionsRow.veiled == (Tryz.f3.params.toList ++ Rows.topMotionsSpec.plain.varTypes Tryz.prog ++ Tryz.f3.resultTypes.toList).any (Tryz.prog.veiledRec ·))) = true := by kernel_rfl
theorem k31 : (Rows.topMotionsRow.veiledFits Tryz.prog Tryz.f3.params.toList (Tryz.f3.params.toList ++ Rows.topMotionsSpec.plain.varTypes Tryz.prog ++ Tryz.f3.resultTypes.toList)) = true := by kernel_rfl
set_option maxRecDepth 100000 in
theorem closed : joinedFacts Tryz.prog 3 Tryz.f3 Rows.topMotionsSpec Rows.topMotionsRow = true :=
  andI (andI (andI (andI (andI (andI (andI (andI (andI (andI (andI (andI (andI (andI (andI (andI (andI (andI (andI (andI (andI (andI (andI (andI (andI (andI (andI (andI (andI (andI (andI k0 kf2) kf3) k3) k4) k5) kf7) k7) kf9) k9) k10) k11) k12) k13) k14) k15) k16) k17) k18) k19) k20) k21) kf23) k23) kf25) kf26) kf27) kf28) k28) k29) k30) k31
theorem wrap : Tryz.f3.isWrapper Tryz.prog Rows.topMotionsRow.wrapper Rows.topMotionsRow.mainSum := by unfold Func.isWrapper; first | (rw [if_pos (by decide +kernel)]; kernel_rfl) | (rw [if_neg (by decide +kernel)]; exact ⟨rfl, rfl⟩)
theorem named : Tryz.prog.funcNamed "setsquare/setsquaretop.TopMotions" = some 3 := by kernel_rfl
theorem topMotions_holds : Rows.TopMotionsSaid :=
  OpenClaim.holds_of_wide 3 Tryz.f3 rfl rfl rfl rfl rfl rfl rfl ⟨rfl, rfl, rfl, rfl, rfl⟩ rfl rfl rfl rfl rfl named Tryz.func3 closed
    (of_decide_eq_true (by kernel_rfl)) wrap
    (fun os started H enc _ => lifted os started H enc)
theorem kWf : Rows.topMotionsRow.wfByText (OpenSpec.ofChange Rows.topMotionsSpec) = true := by kernel_rfl
theorem kStand : ∀ t ∈ (([26, 5] : List TypeId)), Tryz.prog.wantsStandIn t = false := by
  intro t ht
  simp only [List.mem_cons, List.not_mem_nil, or_false] at ht
  rcases ht with rfl | rfl <;> kernel_rfl
theorem topMotions_card : Rows.TopMotionsCardSaid :=
  Claim7.holds_tied_plain_at .later [] Rows.topMotionsCard.laidKinds true Rows.topMotionsCard.stood.harness false
    topMotions_holds (fun _ h => by cases h) kWf (fun _ h => by cases h) topMotions_row_tie rfl ⟨rfl, rfl⟩ kfMain rfl
    (fun f fn hf hfn => by
      obtain rfl : f = 3 := Option.some.inj (named.symm.trans hf) |>.symm
      obtain rfl : fn = Tryz.f3 := (Option.some.inj (Tryz.func3.symm.trans hfn)).symm
      exact ⟨kfLooks, fun j t ht => by
        rw [Tryz.params3] at ht
        exact kStand t (List.mem_of_getElem? (by simpa using ht))⟩)
    Den.kGoesMotions
end Go.Proofs.YtmmloncoopohfaaGreatDoor.topMotions
#print axioms Go.Proofs.YtmmloncoopohfaaGreatDoor.topMotions.topMotions_card
