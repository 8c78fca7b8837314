/-
  LexerLimits holds for every input.
-/
import Derived.Test.YtnahjnlkpmbhlaaRows
import Derived.Test.YtnahjnlkpmbhlaaJoin
import Derived.Test.YtnahjnlkpmbhlaaLxG0
import Derived.Test.YtnahjnlkpmbhlaaLxR
import Derived.WalkKit
import Derived.ProofKit
import Derived.OpenShut
namespace Go.Proofs.Ytnahjnlkpmbhlaa.lexerLimits
open Go.ChangeShapes Go.WideShapes Go.ChangeAt Go.RowKit
open Go.ChangeMaps (open_string shut_string)
set_option linter.unusedVariables false

theorem own : ownKnob Try.prog.godebug = none := by kernel_rfl

theorem walk (a0 : Int) (a1 : Int) (wa0 : (Lit.int .u8 a0).wf = true) (wa1 : (Lit.int .u8 a1).wf = true) (w : World) :
    Calls Try.prog 6 #[.int .u8 a0, .int .u8 a1] w fun e w' => e = .returned (.bool true) ∧ w'.os = w.os ∧ w'.output = w.output ∧ w.heap.size ≤ w'.heap.size ∧ ∀ k, k < w.heap.size → w'.heap[k]? = w.heap[k]? := by
  have ba0 := wa0
  simp [Lit.wf, IntKind.min, IntKind.max, IntKind.signed, IntKind.bits] at ba0
  have ba1 := wa1
  simp [Lit.wf, IntKind.min, IntKind.max, IntKind.signed, IntKind.bits] at ba1
  exact Den.law_calls Den.t_law21_LexerLimits (a0, a1, ()) Den.Hp.emp w (fun k b e => by cases e) (fun K hk => Den.law_limits a0 a1 (by omega) (by omega) hk)


set_option maxRecDepth 100000 in
theorem lifted (os : Os) (started : os.Started) (H : Type) (enc : TypeId × Value → H) :
    ReturnsInHanded {} Try.checked os 6 .any (Rows.lexerLimitsSpec.pre6 enc Try.prog Try.f6 Rows.lexerLimitsRow.domain false) (Rows.lexerLimitsSpec.post enc Try.prog Try.f6 false true false false) := by
  refine returnsInHanded_of_change (C := Try.checked) own started (by kernel_rfl) Try.func6
    (ChangeSpec.witness6 (enc := enc) (C := Try.checked) false ⟨#[], #[.int .u8 0, .int .u8 0], []⟩ 8 (by kernel_rfl) (by kernel_rfl) (by kernel_rfl) (by kernel_rfl)) ?_
  intro W base args ds gs before hval0 hW hcnd0 _
  have hval : ∀ (j : Nat) t v, Try.f6.params[j]? = some t → args[j]? = some v → Value.okWide Try.prog W .any base t v := hval0
  have hW' := hW
  obtain ⟨p, q, hA0, hV, rfl, hfz, hnd⟩ := hW
  have hA : DataW.TrodAll enc Try.prog W 0 (fun _ => true) true Try.f6.params.toList args.toList ds p := hA0
  rw [Try.params6] at hA hval
  obtain ⟨v0, vs0, d0, ds0, p0, q0, hargs0, rfl, rfl, h0, r0⟩ := trodAll_cons hA
  obtain ⟨v1, vs1, d1, ds1, p1, q1, hargs1, rfl, rfl, h1, r1⟩ := trodAll_cons r0
  obtain ⟨rfl, rfl, rfl⟩ := trodAll_nil r1
  obtain rfl : args = #[v0, v1] := by cases args; simp_all
  obtain ⟨rfl, rfl⟩ := trodVars_none hV
  obtain ⟨a0, rfl, rfl, rfl, wa0⟩ := open_int Try.underlying5 (hval 0 5 v0 rfl rfl) h0
  obtain ⟨a1, rfl, rfl, rfl, wa1⟩ := open_int Try.underlying5 (hval 1 5 v1 rfl rfl) h1
  clear hA0 hval0 hcnd0
  simp only [List.append_nil] at hW'
  refine (walk a0 a1 wa0 wa1 W).mono fun e W' ⟨he, h1, h2, h3, h4⟩ => ?_
  subst he
  exact ⟨_, rfl, Den.post_of_same2 (pa := []) (pv := []) hW' (fun _ _ _ => trodAll_cons_mk (shut_bool Try.underlying4 _) trodAll_mk0) (fun _ _ => trodAll_cons_mk (shut_int Try.underlying5 wa0) (trodAll_cons_mk (shut_int Try.underlying5 wa1) (trodAll_mk0))) (fun _ _ => rfl) rfl
    (Den.kept_of_same h1 h2 h4 _) (fun a ha => Den.frozen_of_same h4 ha) (ok_one (by kernel_rfl) rfl (okWide_bool_mk Try.underlying4 _))⟩

theorem lexerLimits_holds : Rows.LexerLimitsSaid :=
  OpenClaim.holds_of_wide 6 Try.f6 rfl rfl rfl rfl rfl rfl rfl ⟨rfl, rfl, rfl, rfl, rfl⟩ rfl rfl rfl rfl rfl (by kernel_rfl) Try.func6 (by kernel_rfl)
    (of_decide_eq_true (by kernel_rfl)) (by unfold Func.isWrapper; first | (rw [if_pos (by decide +kernel)]; kernel_rfl) | (rw [if_neg (by decide +kernel)]; exact ⟨rfl, rfl⟩))
    (fun os started H enc _ => lifted os started H enc)
end Go.Proofs.Ytnahjnlkpmbhlaa.lexerLimits
#print axioms Go.Proofs.Ytnahjnlkpmbhlaa.lexerLimits.lexerLimits_holds
