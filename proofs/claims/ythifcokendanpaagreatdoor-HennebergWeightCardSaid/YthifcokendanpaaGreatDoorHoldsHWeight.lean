/-
  HennebergWeight holds for every input.
-/
import Derived.Test.YthifcokendanpaaGreatDoorParta7
import Derived.Test.YthifcokendanpaaGreatDoorRows
import Derived.Test.YthifcokendanpaaGreatDoorArgK
import Derived.Test.YthifcokendanpaaGreatDoorCards
import Derived.WalkKit
import Derived.ProofKit
import Derived.SizedLaws
import Derived.OpenShut

namespace Go.Proofs.YthifcokendanpaaGreatDoor.hennebergWeight
open Go.ChangeShapes Go.WideShapes Go.ChangeAt Go.RowKit Den Iv Lx
open Go.ChangeMaps (open_string shut_string)
set_option linter.all false

theorem own : ownKnob Tryz.prog.godebug = none := kfOwn

theorem walk (a0 : TSketch) (a1 : Int) (a2 : Sl) (w : World) (hGT : GT (Den.hpW w)) (ha0 : (∃ T, SK (Den.hpW w) a0 T)) (wa1 : (Lit.int .i64 a1).wf = true) (ha2 : (∃ T, IL (Den.hpW w) a2 T ∧ ∀ z ∈ T, -9223372036854775808 ≤ z ∧ z ≤ 9223372036854775807)) (ma2 : True) :
    Calls Tryz.prog 8 #[Den.tyTSketch.up a0, .int .i64 a1, Den.Lf.up .sl a2] w fun e w' => e = .returned (.bool true) ∧ w'.os = w.os ∧ w'.output = w.output ∧ w.heap.size ≤ w'.heap.size ∧ ∀ k, k < w.heap.size → w'.heap[k]? = w.heap[k]? := by
  have ba1 := wa1
  simp [Lit.wf, IntKind.min, IntKind.max, IntKind.signed, IntKind.bits] at ba1
  exact Den.zagf Den.zzo (a0, a1, a2, ()) (Den.hpW w) w (Den.zagg w) (fun K hk => Den.za3v ha0.choose_spec hGT ha2.choose_spec.1 (show -9223372036854775808 ≤ a1 ∧ a1 ≤ 9223372036854775807 from ⟨by omega, by omega⟩) hk)

abbrev laidL : List (String × DataW Unit) := Rows.hennebergWeightRow.laid
theorem door_met (os : Os) (args : Array Value) : laidMetH Tryz.prog laidL ((World.doorLaid Tryz.prog 73 os).forCall (fun _ _ => 0) ⟨#[], args, []⟩).memory :=
  laidMetH_of_parts3 (fuel := 8) (laidMet_of_run' 8 (by kernel_rfl) (by kernel_rfl)) (by kernel_rfl) (by kernel_rfl)
set_option maxRecDepth 100000 in
theorem lifted (os : Os) (started : os.Started) (H : Type) (enc : TypeId × Value → H) :
    ReturnsInHanded {} Tryz.checked os 8 .any (fun w args => (Rows.hennebergWeightSpec.pre enc Tryz.prog Tryz.f8 [] false w args ∧ laidMetH Tryz.prog laidL w) ∧ sizedMet enc Tryz.prog Tryz.f8 (OpenSpec.ofChange Rows.hennebergWeightSpec) false w args)
      (Rows.hennebergWeightSpec.post enc Tryz.prog Tryz.f8 false true false false) := by
  refine returnsInHanded_of_change_and (C := Tryz.checked) (X := fun w _ => laidMetH Tryz.prog laidL w) (fun _ _ _ hh h => h.of_heap hh) own started (by kernel_rfl) Tryz.func8
    (ChangeSpec.witness_shaped (enc := enc) (C := Tryz.checked) (os := os) (X := fun w _ => laidMetH Tryz.prog laidL w) false (World.doorLaid Tryz.prog 73 os) #[.agg #[.slice none 0 0, .slice none 0 0, .slice none 0 0, .slice none 0 0, .slice none 0 0, .slice none 0 0], .int .i64 0, .slice none 0 0] 8 rfl (World.shaped_of_RefB (by kernel_rfl) (by kernel_rfl)) (by kernel_rfl) (by kernel_rfl) (by kernel_rfl) (door_met os _)) ?_
  intro W base args ds gs before hval0 hW hcnd0 hsz0 hL _
  have hGT : GT (Den.hpW W) := by
    rw [MakeChecks.laidMetH_plain _ _ _ (by kernel_rfl)] at hL
    exact gt_of hL (List.mem_of_getElem? (i := 2) rfl) (List.mem_of_getElem? (i := 3) rfl) (List.mem_of_getElem? (i := 4) rfl)
  have hval : ∀ (j : Nat) t v, Tryz.f8.params[j]? = some t → args[j]? = some v → Value.okWide Tryz.prog W .any base t v := hval0
  have hW' := hW
  obtain ⟨p, q, hA0, hV, rfl, hfz, hnd⟩ := hW
  have hlt := hW'.lt
  have hA : DataW.TrodAll enc Tryz.prog W 0 (fun _ => true) true Tryz.f8.params.toList args.toList ds p := hA0
  have hsz1 : (DataW.weightsEach Tryz.prog (Tryz.f8.params.toList ++ []) (ds ++ gs)).all (· ≤ reachBytes) = true := hsz0
  rw [Tryz.params8, List.append_nil] at hsz1
  rw [Tryz.params8] at hA hval
  have hA2 := hA
  obtain ⟨v0, vs0, d0, ds0, p0, q0, hargs0, rfl, rfl, h0, r0⟩ := trodAll_cons hA
  obtain ⟨v1, vs1, d1, ds1, p1, q1, hargs1, rfl, rfl, h1, r1⟩ := trodAll_cons r0
  obtain ⟨v2, vs2, d2, ds2, p2, q2, hargs2, rfl, rfl, h2, r2⟩ := trodAll_cons r1
  obtain ⟨rfl, rfl, rfl⟩ := trodAll_nil r2
  obtain rfl : args = #[v0, v1, v2] := by cases args; simp_all
  obtain ⟨rfl, rfl⟩ := trodVars_none hV
  rw [List.append_nil] at hsz1
  obtain ⟨c0, rfl, e0⟩ := Den.zagj (hval 0 29 v0 rfl rfl) (by kernel_rfl)
  have o0 := Den.zagk 0 rfl rfl h0 hsz1
  rw [e0] at o0
  obtain ⟨a0, rfl, fa0⟩ := Den.okt_S o0
  obtain ⟨a1, rfl, -, -, wa1⟩ := open_int Tryz.underlying3 (hval 1 3 v1 rfl rfl) h1
  have o2 := Den.zagk 2 rfl rfl h2 hsz1
  obtain ⟨a2, rfl, e2⟩ := Den.sl_of Tryz.underlying32 (hval 2 32 v2 rfl rfl) o2
  rw [e2] at o2
  obtain ⟨fa2, ma2⟩ := Den.zagh o2
  clear hA0 hval0 hcnd0 hsz0
  refine (walk a0 a1 a2 W hGT fa0 wa1 fa2 ma2).mono fun e W' ⟨he, h1, h2, h3, h4⟩ => ?_
  subst he
  have hts : ∀ t ∈ ([29, 3, 32] : List TypeId), t < Tryz.prog.types.size := of_decide_eq_true (by kernel_rfl)
  have hpa : ∀ p ∈ p0 ++ (p1 ++ (p2 ++ ([]))), p.block < W.heap.size := fun p hp => hlt p (List.mem_append_left _ hp)
  have hargs : ∀ sp : Nat → Bool, (∀ p ∈ (p0 ++ (p1 ++ (p2 ++ ([])))) ++ [], sp p.block = true) → DataW.TrodAll enc Tryz.prog W' 0 sp true ([29, 3, 32] : List TypeId) [Den.tyTSketch.up a0, .int .i64 a1, Den.Lf.up .sl a2] [d0, d1, d2] (p0 ++ (p1 ++ (p2 ++ ([])))) := fun sp hsp =>
    Den.zzf Den.zage Den.zagc Den.zagd h4 hts hpa (fun p hp => hsp p (List.mem_append_left _ hp)) hA2
  exact ⟨_, rfl, Den.zacd (pa := p0 ++ (p1 ++ (p2 ++ ([])))) (pv := []) hW' (fun _ _ _ => trodAll_cons_mk (shut_bool Tryz.underlying4 _) trodAll_mk0)
    hargs (fun _ _ => rfl) rfl
    (Den.zadf h1 h2 h4 _) (fun a ha => Den.zabn h4 ha) (ok_one (by kernel_rfl) rfl (okWide_bool_mk Tryz.underlying4 _))⟩

theorem k0 : (Rows.hennebergWeightRow.wf (OpenSpec.ofChange Rows.hennebergWeightSpec)) = true := by kernel_rfl
theorem k3 : (Tryz.f8.params.all (Tryz.prog.readableRec ·)) = true := by kernel_rfl
theorem k4 : (namedTie Tryz.prog Rows.hennebergWeightRow.named Rows.hennebergWeightSpec.vars) = true := by kernel_rfl
theorem k5 : ((Rows.hennebergWeightRow.stops == [])) = true := by kernel_rfl
theorem k7 : ((Rows.hennebergWeightRow.knobs == [])) = true := by kernel_rfl
theorem k9 : ((Rows.hennebergWeightRow.inPlace == Tryz.prog.inPlace 8)) = true := by kernel_rfl
theorem k10 : ((Rows.hennebergWeightRow.unfollowed == Tryz.prog.unfollowed 8)) = true := by kernel_rfl
theorem k11 : ((Rows.hennebergWeightRow.recurses == Tryz.prog.recurses 8)) = true := by kernel_rfl
theorem k12 : ((Rows.hennebergWeightRow.named == Tryz.prog.varsNamed 8)) = true := by kernel_rfl
theorem k13 : ((Rows.hennebergWeightRow.maps == (Tryz.f8.params.toList ++ Rows.hennebergWeightSpec.plain.varTypes Tryz.prog).any (Tryz.prog.mapsRec ·))) = true := by kernel_rfl
theorem k14 : ((Rows.hennebergWeightRow.ifaces == (Tryz.f8.params.toList ++ Rows.hennebergWeightSpec.plain.varTypes Tryz.prog).any (Tryz.prog.ifacesRec ·))) = true := by kernel_rfl
theorem k15 : ((Rows.hennebergWeightRow.mapsOut == Tryz.prog.mapsAmong Tryz.f8.resultTypes.toList)) = true := by kernel_rfl
theorem k16 : ((Rows.hennebergWeightRow.loops == (Tryz.f8.params.toList ++ Rows.hennebergWeightSpec.plain.varTypes Tryz.prog).any (Tryz.prog.loopsFrom ·))) = true := by kernel_rfl
theorem k17 : ((Rows.hennebergWeightRow.wideKeys == (Tryz.f8.params.toList ++ Rows.hennebergWeightSpec.plain.varTypes Tryz.prog ++ Tryz.f8.resultTypes.toList).any (Tryz.prog.wideKeysFrom ·))) = true := by kernel_rfl
theorem k18 : (Rows.hennebergWeightSpec.vars.all (Tryz.prog.varReadable ·)) = true := by kernel_rfl
theorem k19 : (Tryz.f8.resultTypes.all (fun t => Tryz.prog.readableRec t && decide (t < Tryz.prog.types.size))) = true := by kernel_rfl
theorem k20 : ((Rows.hennebergWeightRow.ifacesOut == Tryz.f8.resultTypes.toList.any (Tryz.prog.ifacesRec ·))) = true := by kernel_rfl
theorem k21 : ((Rows.hennebergWeightRow.loopsOut == Tryz.f8.resultTypes.toList.any (Tryz.prog.loopsFrom ·))) = true := by kernel_rfl
theorem k23 : (Rows.hennebergWeightRow.shortTexts.isNone) = true := by kernel_rfl
theorem k28 : ((Rows.hennebergWeightRow.kinds == (if Rows.hennebergWeightRow.domain.isEmpty then [] else Tryz.f8.params.toList.map fun t => match Tryz.prog.underlying t with | some (.int k) => some k | _ => none))) = true := by kernel_rfl
theorem k29 : ((Rows.hennebergWeightRow.pinned == Rows.hennebergWeightRow.pinnedBy)) = true := by kernel_rfl
theorem k30 : ((Rows.hennebergWeightRow.veiled == (Tryz.f8.params.toList ++ Rows.hennebergWeightSpec.plain.varTypes Tryz.prog ++ Tryz.f8.resultTypes.toList).any (Tryz.prog.veiledRec ·))) = true := by kernel_rfl
theorem k31 : (Rows.hennebergWeightRow.veiledFits Tryz.prog Tryz.f8.params.toList (Tryz.f8.params.toList ++ Rows.hennebergWeightSpec.plain.varTypes Tryz.prog ++ Tryz.f8.resultTypes.toList)) = true := by kernel_rfl
set_option maxRecDepth 100000 in
theorem closed : joinedFacts Tryz.prog 8 Tryz.f8 Rows.hennebergWeightSpec Rows.hennebergWeightRow = true :=
  andI (andI (andI (andI (andI (andI (andI (andI (andI (andI (andI (andI (andI (andI (andI (andI (andI (andI (andI (andI (andI (andI (andI (andI (andI (andI (andI (andI (andI (andI (andI k0 kf2) kf3) k3) k4) k5) kf7) k7) kf9) k9) k10) k11) k12) k13) k14) k15) k16) k17) k18) k19) k20) k21) kf23) k23) kf25) kf26) kf27) kf28) k28) k29) k30) k31
theorem wrap : Tryz.f8.isWrapper Tryz.prog Rows.hennebergWeightRow.wrapper Rows.hennebergWeightRow.mainSum := by unfold Func.isWrapper; first | (rw [if_pos (by decide +kernel)]; kernel_rfl) | (rw [if_neg (by decide +kernel)]; exact ⟨rfl, rfl⟩)
theorem named : Tryz.prog.funcNamed "setsquare/setsquarelaw39.HennebergWeight" = some 8 := by kernel_rfl
theorem hennebergWeight_holds : Rows.HennebergWeightSaid :=
  OpenClaim.holds_of_wide 8 Tryz.f8 rfl rfl rfl rfl rfl rfl rfl ⟨rfl, rfl, rfl, rfl, rfl⟩ rfl rfl rfl rfl rfl named Tryz.func8 closed
    (of_decide_eq_true (by kernel_rfl)) wrap
    (fun os started H enc _ => lifted os started H enc)
theorem kWf : Rows.hennebergWeightRow.wfByText (OpenSpec.ofChange Rows.hennebergWeightSpec) = true := by kernel_rfl
theorem kGoes : false = Rows.hennebergWeightRow.goesBy Tryz.pinned.checked.prog := by kernel_rfl
theorem kStand : ∀ t ∈ (([29, 3, 32] : List TypeId)), Tryz.prog.wantsStandIn t = false := by
  intro t ht
  simp only [List.mem_cons, List.not_mem_nil, or_false] at ht
  rcases ht with rfl | rfl | rfl <;> kernel_rfl
theorem hennebergWeight_card : Rows.HennebergWeightCardSaid :=
  Claim7.holds_tied_plain_at .later [] Rows.hennebergWeightCard.laidKinds true Rows.hennebergWeightCard.stood.harness false
    hennebergWeight_holds (fun _ h => by cases h) kWf (fun _ h => by cases h) hennebergWeight_row_tie rfl ⟨rfl, rfl⟩ kfMain rfl
    (fun f fn hf hfn => by
      obtain rfl : f = 8 := Option.some.inj (named.symm.trans hf) |>.symm
      obtain rfl : fn = Tryz.f8 := (Option.some.inj (Tryz.func8.symm.trans hfn)).symm
      exact ⟨kfLooks, fun j t ht => by
        rw [Tryz.params8] at ht
        exact kStand t (List.mem_of_getElem? (by simpa using ht))⟩)
    kGoes
end Go.Proofs.YthifcokendanpaaGreatDoor.hennebergWeight
#print axioms Go.Proofs.YthifcokendanpaaGreatDoor.hennebergWeight.hennebergWeight_card
