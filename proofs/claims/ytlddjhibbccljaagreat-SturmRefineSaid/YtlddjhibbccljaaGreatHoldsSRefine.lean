/-
  SturmRefine holds for every input.
-/
import Derived.Test.YtlddjhibbccljaaGreatPartf5
import Derived.Test.YtlddjhibbccljaaGreatRows
import Derived.WalkKit
import Derived.ProofKit
import Derived.SizedLaws
import Derived.OpenShut

namespace Go.Proofs.YtlddjhibbccljaaGreat.sturmRefine
open Go.ChangeShapes Go.WideShapes Go.ChangeAt Go.RowKit Den Iv
open Go.ChangeMaps (open_string shut_string)
set_option linter.unusedVariables false

theorem own : ownKnob Tryz.prog.godebug = none := by kernel_rfl

theorem walk (a0 : Sl) (a1 : TInterval) (a2 : TRat) (w : World) (ha0 : AQX (Den.hpW w) a0) (ma0 : a0.len ≤ 35184372088832) (ha1 : AV (Den.hpW w) a1) (ma1 : (a1.low.num.mag.len ≤ 35184372088832 ∧ a1.low.den.mag.len ≤ 35184372088832 ∧ a1.high.num.mag.len ≤ 35184372088832 ∧ a1.high.den.mag.len ≤ 35184372088832)) (ha2 : ARX (Den.hpW w) a2) (ma2 : True) :
    Calls Tryz.prog 14 #[Den.Lf.up .sl a0, Den.tyTInterval.up a1, Den.tyTRat.up a2] w fun e w' => e = .returned (.bool true) ∧ w'.os = w.os ∧ w'.output = w.output ∧ w.heap.size ≤ w'.heap.size ∧ ∀ k, k < w.heap.size → w'.heap[k]? = w.heap[k]? := by
  exact Den.zau8 Den.zalq (a0, a1, a2, ()) (Den.hpW w) w (Den.zaua w) (fun K hk => Den.zaq7 ha0 ha1 ha2 hk)

set_option maxRecDepth 100000 in
theorem lifted (os : Os) (started : os.Started) (H : Type) (enc : TypeId × Value → H) :
    ReturnsInHanded {} Tryz.checked os 14 .any (Rows.sturmRefineSpec.pre6 enc Tryz.prog Tryz.f14 Rows.sturmRefineRow.domain false) (Rows.sturmRefineSpec.post enc Tryz.prog Tryz.f14 false true false false) := by
  refine returnsInHanded_of_change_sized (C := Tryz.checked) own started (by kernel_rfl) Tryz.func14
    (ChangeSpec.witness6 (enc := enc) (C := Tryz.checked) false ⟨#[], #[.slice none 0 0, .agg #[.bool false, .slice none 0 0, .bool false, .slice none 0 0, .bool false, .slice none 0 0, .bool false, .slice none 0 0], .agg #[.bool false, .slice none 0 0, .bool false, .slice none 0 0]], []⟩ 8 (by kernel_rfl) (by kernel_rfl) (by kernel_rfl) (by kernel_rfl)) ?_
  intro W base args ds gs before hval0 hW hcnd0 hsz0 _
  have hval : ∀ (j : Nat) t v, Tryz.f14.params[j]? = some t → args[j]? = some v → Value.okWide Tryz.prog W .any base t v := hval0
  have hW' := hW
  obtain ⟨p, q, hA0, hV, rfl, hfz, hnd⟩ := hW
  have hlt := hW'.lt
  have hA : DataW.TrodAll enc Tryz.prog W 0 (fun _ => true) true Tryz.f14.params.toList args.toList ds p := hA0
  have hsz1 : (DataW.weightsEach Tryz.prog (Tryz.f14.params.toList ++ []) (ds ++ gs)).all (· ≤ reachBytes) = true := hsz0
  rw [Tryz.params14, List.append_nil] at hsz1
  rw [Tryz.params14] at hA hval
  have hA2 := hA
  obtain ⟨v0, vs0, d0, ds0, p0, q0, hargs0, rfl, rfl, h0, r0⟩ := trodAll_cons hA
  obtain ⟨v1, vs1, d1, ds1, p1, q1, hargs1, rfl, rfl, h1, r1⟩ := trodAll_cons r0
  obtain ⟨v2, vs2, d2, ds2, p2, q2, hargs2, rfl, rfl, h2, r2⟩ := trodAll_cons r1
  obtain ⟨rfl, rfl, rfl⟩ := trodAll_nil r2
  obtain rfl : args = #[v0, v1, v2] := by cases args; simp_all
  obtain ⟨rfl, rfl⟩ := trodVars_none hV
  rw [List.append_nil] at hsz1
  have o0 := Den.zaud 0 rfl rfl h0 hsz1
  obtain ⟨a0, rfl, e0⟩ := Den.sl_of Tryz.underlying22 (hval 0 22 v0 rfl rfl) o0
  rw [e0] at o0
  obtain ⟨fa0, ma0⟩ := Den.zauc o0
  obtain ⟨c1, rfl, e1⟩ := Den.zaub (hval 1 59 v1 rfl rfl) (by kernel_rfl)
  have o1 := Den.zaud 1 rfl rfl h1 hsz1
  rw [e1] at o1
  obtain ⟨a1, rfl, ma1, fa1⟩ := Den.okt_V o1
  obtain ⟨c2, rfl, e2⟩ := Den.zaub (hval 2 39 v2 rfl rfl) (by kernel_rfl)
  have o2 := Den.zaud 2 rfl rfl h2 hsz1
  rw [e2] at o2
  obtain ⟨a2, rfl, ma2, fa2⟩ := Den.zatw o2
  clear hA0 hval0 hcnd0 hsz0
  refine (walk a0 a1 a2 W fa0 ma0 fa1 ma1 fa2 ma2).mono fun e W' ⟨he, h1, h2, h3, h4⟩ => ?_
  subst he
  have hts : ∀ t ∈ ([22, 59, 39] : List TypeId), t < Tryz.prog.types.size := of_decide_eq_true (by kernel_rfl)
  have hpa : ∀ p ∈ p0 ++ (p1 ++ (p2 ++ ([]))), p.block < W.heap.size := fun p hp => hlt p (List.mem_append_left _ hp)
  have hargs : ∀ sp : Nat → Bool, (∀ p ∈ (p0 ++ (p1 ++ (p2 ++ ([])))) ++ [], sp p.block = true) → DataW.TrodAll enc Tryz.prog W' 0 sp true ([22, 59, 39] : List TypeId) [Den.Lf.up .sl a0, Den.tyTInterval.up a1, Den.tyTRat.up a2] [d0, d1, d2] (p0 ++ (p1 ++ (p2 ++ ([])))) := fun sp hsp =>
    Den.zagn Den.zau7 Den.zatz Den.zau1 h4 hts hpa (fun p hp => hsp p (List.mem_append_left _ hp)) hA2
  exact ⟨_, rfl, Den.zash (pa := p0 ++ (p1 ++ (p2 ++ ([])))) (pv := []) hW' (fun _ _ _ => trodAll_cons_mk (shut_bool Tryz.underlying4 _) trodAll_mk0)
    hargs (fun _ _ => rfl) rfl
    (Den.zat0 h1 h2 h4 _) (fun a ha => Den.zar2 h4 ha) (ok_one (by kernel_rfl) rfl (okWide_bool_mk Tryz.underlying4 _))⟩

theorem sturmRefine_holds : Rows.SturmRefineSaid :=
  OpenClaim.holds_of_wide 14 Tryz.f14 rfl rfl rfl rfl rfl rfl rfl ⟨rfl, rfl, rfl, rfl, rfl⟩ rfl rfl rfl rfl rfl (by kernel_rfl) Tryz.func14 (by kernel_rfl)
    (of_decide_eq_true (by kernel_rfl)) (by unfold Func.isWrapper; first | (rw [if_pos (by decide +kernel)]; kernel_rfl) | (rw [if_neg (by decide +kernel)]; exact ⟨rfl, rfl⟩))
    (fun os started H enc _ => lifted os started H enc)
end Go.Proofs.YtlddjhibbccljaaGreat.sturmRefine
#print axioms Go.Proofs.YtlddjhibbccljaaGreat.sturmRefine.sturmRefine_holds
