/-
  IntervalRound holds for every input.
-/
import Derived.Test.YtnobfpkmhbmgbaaGreatPart6
import Derived.Test.YtnobfpkmhbmgbaaGreatRows
import Derived.WalkKit
import Derived.ProofKit
import Derived.SizedLaws
import Derived.OpenShut

namespace Go.Proofs.YtnobfpkmhbmgbaaGreat.intervalRound
open Go.ChangeShapes Go.WideShapes Go.ChangeAt Go.RowKit Den Iv
open Go.ChangeMaps (open_string shut_string)
set_option linter.unusedVariables false

theorem own : ownKnob Tryz.prog.godebug = none := by kernel_rfl

theorem walk (a0 : TInterval) (a1 : Int) (w : World) (ha0 : AV (Den.hpW w) a0) (ma0 : (a0.low.num.mag.len ≤ 35184372088832 ∧ a0.low.den.mag.len ≤ 35184372088832 ∧ a0.high.num.mag.len ≤ 35184372088832 ∧ a0.high.den.mag.len ≤ 35184372088832)) (wa1 : (Lit.int .i64 a1).wf = true) :
    Calls Tryz.prog 7 #[Den.tyTInterval.up a0, .int .i64 a1] w fun e w' => e = .returned (.bool true) ∧ w'.os = w.os ∧ w'.output = w.output ∧ w.heap.size ≤ w'.heap.size ∧ ∀ k, k < w.heap.size → w'.heap[k]? = w.heap[k]? := by
  have ba1 := wa1
  simp [Lit.wf, IntKind.min, IntKind.max, IntKind.signed, IntKind.bits] at ba1
  exact Den.law_calls Den.t_law03_IntervalRound (a0, a1, ()) (Den.hpW w) w (Den.hpW_sub w) (fun K hk => Den.law_Round ha0 hk)

set_option maxRecDepth 100000 in
theorem lifted (os : Os) (started : os.Started) (H : Type) (enc : TypeId × Value → H) :
    ReturnsInHanded {} Tryz.checked os 7 .any (Rows.intervalRoundSpec.pre6 enc Tryz.prog Tryz.f7 Rows.intervalRoundRow.domain false) (Rows.intervalRoundSpec.post enc Tryz.prog Tryz.f7 false true false false) := by
  refine returnsInHanded_of_change_sized (C := Tryz.checked) own started (by kernel_rfl) Tryz.func7
    (ChangeSpec.witness6 (enc := enc) (C := Tryz.checked) false ⟨#[], #[.agg #[.bool false, .slice none 0 0, .bool false, .slice none 0 0, .bool false, .slice none 0 0, .bool false, .slice none 0 0], .int .i64 0], []⟩ 8 (by kernel_rfl) (by kernel_rfl) (by kernel_rfl) (by kernel_rfl)) ?_
  intro W base args ds gs before hval0 hW hcnd0 hsz0 _
  have hval : ∀ (j : Nat) t v, Tryz.f7.params[j]? = some t → args[j]? = some v → Value.okWide Tryz.prog W .any base t v := hval0
  have hW' := hW
  obtain ⟨p, q, hA0, hV, rfl, hfz, hnd⟩ := hW
  have hlt := hW'.lt
  have hA : DataW.TrodAll enc Tryz.prog W 0 (fun _ => true) true Tryz.f7.params.toList args.toList ds p := hA0
  have hsz1 : (DataW.weightsEach Tryz.prog (Tryz.f7.params.toList ++ []) (ds ++ gs)).all (· ≤ reachBytes) = true := hsz0
  rw [Tryz.params7, List.append_nil] at hsz1
  rw [Tryz.params7] at hA hval
  have hA2 := hA
  obtain ⟨v0, vs0, d0, ds0, p0, q0, hargs0, rfl, rfl, h0, r0⟩ := trodAll_cons hA
  obtain ⟨v1, vs1, d1, ds1, p1, q1, hargs1, rfl, rfl, h1, r1⟩ := trodAll_cons r0
  obtain ⟨rfl, rfl, rfl⟩ := trodAll_nil r1
  obtain rfl : args = #[v0, v1] := by cases args; simp_all
  obtain ⟨rfl, rfl⟩ := trodVars_none hV
  rw [List.append_nil] at hsz1
  obtain ⟨c0, rfl, e0⟩ := Den.agg_of (hval 0 28 v0 rfl rfl) (by kernel_rfl)
  have o0 := Den.okt_of 0 rfl rfl h0 hsz1
  rw [e0] at o0
  obtain ⟨a0, rfl, ma0, fa0⟩ := Den.okt_V o0
  obtain ⟨a1, rfl, -, -, wa1⟩ := open_int Tryz.underlying3 (hval 1 3 v1 rfl rfl) h1
  clear hA0 hval0 hcnd0 hsz0
  refine (walk a0 a1 W fa0 ma0 wa1).mono fun e W' ⟨he, h1, h2, h3, h4⟩ => ?_
  subst he
  have hts : ∀ t ∈ ([28, 3] : List TypeId), t < Tryz.prog.types.size := of_decide_eq_true (by kernel_rfl)
  have hpa : ∀ p ∈ p0 ++ (p1 ++ ([])), p.block < W.heap.size := fun p hp => hlt p (List.mem_append_left _ hp)
  have hargs : ∀ sp : Nat → Bool, (∀ p ∈ (p0 ++ (p1 ++ ([]))) ++ [], sp p.block = true) → DataW.TrodAll enc Tryz.prog W' 0 sp true ([28, 3] : List TypeId) [Den.tyTInterval.up a0, .int .i64 a1] [d0, d1] (p0 ++ (p1 ++ ([]))) := fun sp hsp =>
    Den.trodAll_same Den.laid_prog Den.rowed_prog Den.sized_prog h4 hts hpa (fun p hp => hsp p (List.mem_append_left _ hp)) hA2
  exact ⟨_, rfl, Den.post_of_same2 (pa := p0 ++ (p1 ++ ([]))) (pv := []) hW' (fun _ _ _ => trodAll_cons_mk (shut_bool Tryz.underlying4 _) trodAll_mk0)
    hargs (fun _ _ => rfl) rfl
    (Den.kept_of_same h1 h2 h4 _) (fun a ha => Den.frozen_of_same h4 ha) (ok_one (by kernel_rfl) rfl (okWide_bool_mk Tryz.underlying4 _))⟩

theorem intervalRound_holds : Rows.IntervalRoundSaid :=
  OpenClaim.holds_of_wide 7 Tryz.f7 rfl rfl rfl rfl rfl rfl rfl ⟨rfl, rfl, rfl, rfl, rfl⟩ rfl rfl rfl rfl rfl (by kernel_rfl) Tryz.func7 (by kernel_rfl)
    (of_decide_eq_true (by kernel_rfl)) (by unfold Func.isWrapper; first | (rw [if_pos (by decide +kernel)]; kernel_rfl) | (rw [if_neg (by decide +kernel)]; exact ⟨rfl, rfl⟩))
    (fun os started H enc _ => lifted os started H enc)
end Go.Proofs.YtnobfpkmhbmgbaaGreat.intervalRound
#print axioms Go.Proofs.YtnobfpkmhbmgbaaGreat.intervalRound.intervalRound_holds
