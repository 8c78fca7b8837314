/-
  CoreShrinks holds for every input.
-/
import Derived.Test.YthifcokendanpaaGreatDoorParts7
import Derived.Test.YthifcokendanpaaGreatDoorRows
import Derived.Test.YthifcokendanpaaGreatDoorArgK
import Derived.Test.YthifcokendanpaaGreatDoorCards
import Derived.WalkKit
import Derived.ProofKit
import Derived.SizedLaws
import Derived.OpenShut

namespace Go.Proofs.YthifcokendanpaaGreatDoor.coreShrinks
open Go.ChangeShapes Go.WideShapes Go.ChangeAt Go.RowKit Den Iv Lx
open Go.ChangeMaps (open_string shut_string)
set_option linter.all false

theorem own : ownKnob Tryz.prog.godebug = none := kfOwn

theorem walk (a0 : TSketch) (a1 : Int) (w : World) (hGT : GT (Den.hpW w)) (ha0 : (∃ T, SK (Den.hpW w) a0 T)) (wa1 : (Lit.int .u8 a1).wf = true) :
    Calls Tryz.prog 10 #[Den.tyTSketch.up a0, .int .u8 a1] w fun e w' => e = .returned (.bool true) ∧ w'.os = w.os ∧ w'.output = w.output ∧ w.heap.size ≤ w'.heap.size ∧ ∀ k, k < w.heap.size → w'.heap[k]? = w.heap[k]? := by
  have ba1 := wa1
  simp [Lit.wf, IntKind.min, IntKind.max, IntKind.signed, IntKind.bits] at ba1
  exact Den.zaeq Den.za1c (a0, a1, ()) (Den.hpW w) w (Den.zaer w) (fun K hk => Den.za8x ha0.choose_spec hGT (show 0 ≤ a1 ∧ a1 ≤ 255 from ⟨by omega, by omega⟩) hk)

abbrev laidL : List (String × DataW Unit) := Rows.coreShrinksRow.laid
theorem door_met (os : Os) (args : Array Value) : laidMetH Tryz.prog laidL ((World.doorLaid Tryz.prog 73 os).forCall (fun _ _ => 0) ⟨#[], args, []⟩).memory :=
  laidMetH_of_parts3 (fuel := 8) (laidMet_of_run' 8 (by kernel_rfl) (by kernel_rfl)) (by kernel_rfl) (by kernel_rfl)
set_option maxRecDepth 100000 in
theorem lifted (os : Os) (started : os.Started) (H : Type) (enc : TypeId × Value → H) :
    ReturnsInHanded {} Tryz.checked os 10 .any (fun w args => (Rows.coreShrinksSpec.pre enc Tryz.prog Tryz.f10 [] false w args ∧ laidMetH Tryz.prog laidL w) ∧ sizedMet enc Tryz.prog Tryz.f10 (OpenSpec.ofChange Rows.coreShrinksSpec) false w args)
      (Rows.coreShrinksSpec.post enc Tryz.prog Tryz.f10 false true false false) := by
  refine returnsInHanded_of_change_and (C := Tryz.checked) (X := fun w _ => laidMetH Tryz.prog laidL w) (fun _ _ _ hh h => h.of_heap hh) own started (by kernel_rfl) Tryz.func10
    (ChangeSpec.witness_shaped (enc := enc) (C := Tryz.checked) (os := os) (X := fun w _ => laidMetH Tryz.prog laidL w) false (World.doorLaid Tryz.prog 73 os) #[.agg #[.slice none 0 0, .slice none 0 0, .slice none 0 0, .slice none 0 0, .slice none 0 0, .slice none 0 0], .int .u8 0] 8 rfl (World.shaped_of_RefB (by kernel_rfl) (by kernel_rfl)) (by kernel_rfl) (by kernel_rfl) (by kernel_rfl) (door_met os _)) ?_
  intro W base args ds gs before hval0 hW hcnd0 hsz0 hL _
  have hGT : GT (Den.hpW W) := by
    rw [MakeChecks.laidMetH_plain _ _ _ (by kernel_rfl)] at hL
    exact gt_of hL (List.mem_of_getElem? (i := 2) rfl) (List.mem_of_getElem? (i := 3) rfl) (List.mem_of_getElem? (i := 4) rfl)
  have hval : ∀ (j : Nat) t v, Tryz.f10.params[j]? = some t → args[j]? = some v → Value.okWide Tryz.prog W .any base t v := hval0
  have hW' := hW
  obtain ⟨p, q, hA0, hV, rfl, hfz, hnd⟩ := hW
  have hlt := hW'.lt
  have hA : DataW.TrodAll enc Tryz.prog W 0 (fun _ => true) true Tryz.f10.params.toList args.toList ds p := hA0
  have hsz1 : (DataW.weightsEach Tryz.prog (Tryz.f10.params.toList ++ []) (ds ++ gs)).all (· ≤ reachBytes) = true := hsz0
  rw [Tryz.params10, List.append_nil] at hsz1
  rw [Tryz.params10] at hA hval
  have hA2 := hA
  obtain ⟨v0, vs0, d0, ds0, p0, q0, hargs0, rfl, rfl, h0, r0⟩ := trodAll_cons hA
  obtain ⟨v1, vs1, d1, ds1, p1, q1, hargs1, rfl, rfl, h1, r1⟩ := trodAll_cons r0
  obtain ⟨rfl, rfl, rfl⟩ := trodAll_nil r1
  obtain rfl : args = #[v0, v1] := by cases args; simp_all
  obtain ⟨rfl, rfl⟩ := trodVars_none hV
  rw [List.append_nil] at hsz1
  obtain ⟨c0, rfl, e0⟩ := Den.zaes (hval 0 29 v0 rfl rfl) (by kernel_rfl)
  have o0 := Den.zaet 0 rfl rfl h0 hsz1
  rw [e0] at o0
  obtain ⟨a0, rfl, fa0⟩ := Den.okt_S o0
  obtain ⟨a1, rfl, -, -, wa1⟩ := open_int Tryz.underlying5 (hval 1 5 v1 rfl rfl) h1
  clear hA0 hval0 hcnd0 hsz0
  refine (walk a0 a1 W hGT fa0 wa1).mono fun e W' ⟨he, h1, h2, h3, h4⟩ => ?_
  subst he
  have hts : ∀ t ∈ ([29, 5] : List TypeId), t < Tryz.prog.types.size := of_decide_eq_true (by kernel_rfl)
  have hpa : ∀ p ∈ p0 ++ (p1 ++ ([])), p.block < W.heap.size := fun p hp => hlt p (List.mem_append_left _ hp)
  have hargs : ∀ sp : Nat → Bool, (∀ p ∈ (p0 ++ (p1 ++ ([]))) ++ [], sp p.block = true) → DataW.TrodAll enc Tryz.prog W' 0 sp true ([29, 5] : List TypeId) [Den.tyTSketch.up a0, .int .u8 a1] [d0, d1] (p0 ++ (p1 ++ ([]))) := fun sp hsp =>
    Den.zxd Den.zaep Den.zaen Den.zaeo h4 hts hpa (fun p hp => hsp p (List.mem_append_left _ hp)) hA2
  exact ⟨_, rfl, Den.zaae (pa := p0 ++ (p1 ++ ([]))) (pv := []) hW' (fun _ _ _ => trodAll_cons_mk (shut_bool Tryz.underlying4 _) trodAll_mk0)
    hargs (fun _ _ => rfl) rfl
    (Den.zabh h1 h2 h4 _) (fun a ha => Den.za9j h4 ha) (ok_one (by kernel_rfl) rfl (okWide_bool_mk Tryz.underlying4 _))⟩

theorem k0 : (Rows.coreShrinksRow.wf (OpenSpec.ofChange Rows.coreShrinksSpec)) = true := by kernel_rfl
theorem k3 : (Tryz.f10.params.all (Tryz.prog.readableRec ·)) = true := by kernel_rfl
theorem k4 : (namedTie Tryz.prog Rows.coreShrinksRow.named Rows.coreShrinksSpec.vars) = true := by kernel_rfl
theorem k5 : ((Rows.coreShrinksRow.stops == [])) = true := by kernel_rfl
theorem k7 : ((Rows.coreShrinksRow.knobs == [])) = true := by kernel_rfl
theorem k9 : ((Rows.coreShrinksRow.inPlace == Tryz.prog.inPlace 10)) = true := by kernel_rfl
theorem k10 : ((Rows.coreShrinksRow.unfollowed == Tryz.prog.unfollowed 10)) = true := by kernel_rfl
theorem k11 : ((Rows.coreShrinksRow.recurses == Tryz.prog.recurses 10)) = true := by kernel_rfl
theorem k12 : ((Rows.coreShrinksRow.named == Tryz.prog.varsNamed 10)) = true := by kernel_rfl
theorem k13 : ((Rows.coreShrinksRow.maps == (Tryz.f10.params.toList ++ Rows.coreShrinksSpec.plain.varTypes Tryz.prog).any (Tryz.prog.mapsRec ·))) = true := by kernel_rfl
theorem k14 : ((Rows.coreShrinksRow.ifaces == (Tryz.f10.params.toList ++ Rows.coreShrinksSpec.plain.varTypes Tryz.prog).any (Tryz.prog.ifacesRec ·))) = true := by kernel_rfl
theorem k15 : ((Rows.coreShrinksRow.mapsOut == Tryz.prog.mapsAmong Tryz.f10.resultTypes.toList)) = true := by kernel_rfl
theorem k16 : ((Rows.coreShrinksRow.loops == (Tryz.f10.params.toList ++ Rows.coreShrinksSpec.plain.varTypes Tryz.prog).any (Tryz.prog.loopsFrom ·))) = true := by kernel_rfl
theorem k17 : ((Rows.coreShrinksRow.wideKeys == (Tryz.f10.params.toList ++ Rows.coreShrinksSpec.plain.varTypes Tryz.prog ++ Tryz.f10.resultTypes.toList).any (Tryz.prog.wideKeysFrom ·))) = true := by kernel_rfl
theorem k18 : (Rows.coreShrinksSpec.vars.all (Tryz.prog.varReadable ·)) = true := by kernel_rfl
theorem k19 : (Tryz.f10.resultTypes.all (fun t => Tryz.prog.readableRec t && decide (t < Tryz.prog.types.size))) = true := by kernel_rfl
theorem k20 : ((Rows.coreShrinksRow.ifacesOut == Tryz.f10.resultTypes.toList.any (Tryz.prog.ifacesRec ·))) = true := by kernel_rfl
theorem k21 : ((Rows.coreShrinksRow.loopsOut == Tryz.f10.resultTypes.toList.any (Tryz.prog.loopsFrom ·))) = true := by kernel_rfl
theorem k23 : (Rows.coreShrinksRow.shortTexts.isNone) = true := by kernel_rfl
theorem k28 : ((Rows.coreShrinksRow.kinds == (if Rows.coreShrinksRow.domain.isEmpty then [] else Tryz.f10.params.toList.map fun t => match Tryz.prog.underlying t with | some (.int k) => some k | _ => none))) = true := by kernel_rfl
theorem k29 : ((Rows.coreShrinksRow.pinned == Rows.coreShrinksRow.pinnedBy)) = true := by kernel_rfl
theorem k30 : ((Rows.coreShrinksRow.veiled == (Tryz.f10.params.toList ++ Rows.coreShrinksSpec.plain.varTypes Tryz.prog ++ Tryz.f10.resultTypes.toList).any (Tryz.prog.veiledRec ·))) = true := by kernel_rfl
theorem k31 : (Rows.coreShrinksRow.veiledFits Tryz.prog Tryz.f10.params.toList (Tryz.f10.params.toList ++ Rows.coreShrinksSpec.plain.varTypes Tryz.prog ++ Tryz.f10.resultTypes.toList)) = true := by kernel_rfl
set_option maxRecDepth 100000 in
theorem closed : joinedFacts Tryz.prog 10 Tryz.f10 Rows.coreShrinksSpec Rows.coreShrinksRow = true :=
  andI (andI (andI (andI (andI (andI (andI (andI (andI (andI (andI (andI (andI (andI (andI (andI (andI (andI (andI (andI (andI (andI (andI (andI (andI (andI (andI (andI (andI (andI (andI k0 kf2) kf3) k3) k4) k5) kf7) k7) kf9) k9) k10) k11) k12) k13) k14) k15) k16) k17) k18) k19) k20) k21) kf23) k23) kf25) kf26) kf27) kf28) k28) k29) k30) k31
theorem wrap : Tryz.f10.isWrapper Tryz.prog Rows.coreShrinksRow.wrapper Rows.coreShrinksRow.mainSum := by unfold Func.isWrapper; first | (rw [if_pos (by decide +kernel)]; kernel_rfl) | (rw [if_neg (by decide +kernel)]; exact ⟨rfl, rfl⟩)
theorem named : Tryz.prog.funcNamed "setsquare/setsquarelaw41.CoreShrinks" = some 10 := by kernel_rfl
theorem coreShrinks_holds : Rows.CoreShrinksSaid :=
  OpenClaim.holds_of_wide 10 Tryz.f10 rfl rfl rfl rfl rfl rfl rfl ⟨rfl, rfl, rfl, rfl, rfl⟩ rfl rfl rfl rfl rfl named Tryz.func10 closed
    (of_decide_eq_true (by kernel_rfl)) wrap
    (fun os started H enc _ => lifted os started H enc)
theorem kWf : Rows.coreShrinksRow.wfByText (OpenSpec.ofChange Rows.coreShrinksSpec) = true := by kernel_rfl
theorem kGoes : false = Rows.coreShrinksRow.goesBy Tryz.pinned.checked.prog := by kernel_rfl
theorem kStand : ∀ t ∈ (([29, 5] : List TypeId)), Tryz.prog.wantsStandIn t = false := by
  intro t ht
  simp only [List.mem_cons, List.not_mem_nil, or_false] at ht
  rcases ht with rfl | rfl <;> kernel_rfl
theorem coreShrinks_card : Rows.CoreShrinksCardSaid :=
  Claim7.holds_tied_plain_at .later [] Rows.coreShrinksCard.laidKinds true Rows.coreShrinksCard.stood.harness false
    coreShrinks_holds (fun _ h => by cases h) kWf (fun _ h => by cases h) coreShrinks_row_tie rfl ⟨rfl, rfl⟩ kfMain rfl
    (fun f fn hf hfn => by
      obtain rfl : f = 10 := Option.some.inj (named.symm.trans hf) |>.symm
      obtain rfl : fn = Tryz.f10 := (Option.some.inj (Tryz.func10.symm.trans hfn)).symm
      exact ⟨kfLooks, fun j t ht => by
        rw [Tryz.params10] at ht
        exact kStand t (List.mem_of_getElem? (by simpa using ht))⟩)
    kGoes
end Go.Proofs.YthifcokendanpaaGreatDoor.coreShrinks
#print axioms Go.Proofs.YthifcokendanpaaGreatDoor.coreShrinks.coreShrinks_card
