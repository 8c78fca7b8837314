/-
  SturmKnown holds for every input.
-/
import Derived.Test.YtlddjhibbccljaaGreatPartk5
import Derived.Test.YtlddjhibbccljaaGreatRows
import Derived.WalkKit
import Derived.ProofKit
import Derived.SizedLaws
import Derived.OpenShut

namespace Go.Proofs.YtlddjhibbccljaaGreat.sturmKnown
open Go.ChangeShapes Go.WideShapes Go.ChangeAt Go.RowKit Den Iv
open Go.ChangeMaps (open_string shut_string)
set_option linter.unusedVariables false

theorem own : ownKnob Tryz.prog.godebug = none := by kernel_rfl

theorem walk (a0 : Sl) (a1 : Bool) (a2 : A2_TRat) (w : World) (ha0 : AQX (Den.hpW w) a0) (ma0 : a0.len ≤ 35184372088832) (ha2 : (ARX (Den.hpW w) a2.c0 ∧ ARX (Den.hpW w) a2.c1)) :
    Calls Tryz.prog 13 #[Den.Lf.up .sl a0, .bool a1, Den.zale.up a2] w fun e w' => e = .returned (.bool true) ∧ w'.os = w.os ∧ w'.output = w.output ∧ w.heap.size ≤ w'.heap.size ∧ ∀ k, k < w.heap.size → w'.heap[k]? = w.heap[k]? := by
  exact Den.zaq0 Den.zair (a0, a1, a2, ()) (Den.hpW w) w (Den.zaq1 w) (fun K hk => Den.zamh ha0 ha2 hk)

set_option maxRecDepth 100000 in
theorem lifted (os : Os) (started : os.Started) (H : Type) (enc : TypeId × Value → H) :
    ReturnsInHanded {} Tryz.checked os 13 .any (Rows.sturmKnownSpec.pre6 enc Tryz.prog Tryz.f13 Rows.sturmKnownRow.domain false) (Rows.sturmKnownSpec.post enc Tryz.prog Tryz.f13 false true false false) := by
  refine returnsInHanded_of_change_sized (C := Tryz.checked) own started (by kernel_rfl) Tryz.func13
    (ChangeSpec.witness6 (enc := enc) (C := Tryz.checked) false ⟨#[], #[.slice none 0 0, .bool false, .agg #[.bool false, .slice none 0 0, .bool false, .slice none 0 0, .bool false, .slice none 0 0, .bool false, .slice none 0 0]], []⟩ 8 (by kernel_rfl) (by kernel_rfl) (by kernel_rfl) (by kernel_rfl)) ?_
  intro W base args ds gs before hval0 hW hcnd0 hsz0 _
  have hval : ∀ (j : Nat) t v, Tryz.f13.params[j]? = some t → args[j]? = some v → Value.okWide Tryz.prog W .any base t v := hval0
  have hW' := hW
  obtain ⟨p, q, hA0, hV, rfl, hfz, hnd⟩ := hW
  have hlt := hW'.lt
  have hA : DataW.TrodAll enc Tryz.prog W 0 (fun _ => true) true Tryz.f13.params.toList args.toList ds p := hA0
  have hsz1 : (DataW.weightsEach Tryz.prog (Tryz.f13.params.toList ++ []) (ds ++ gs)).all (· ≤ reachBytes) = true := hsz0
  rw [Tryz.params13, List.append_nil] at hsz1
  rw [Tryz.params13] at hA hval
  have hA2 := hA
  obtain ⟨v0, vs0, d0, ds0, p0, q0, hargs0, rfl, rfl, h0, r0⟩ := trodAll_cons hA
  obtain ⟨v1, vs1, d1, ds1, p1, q1, hargs1, rfl, rfl, h1, r1⟩ := trodAll_cons r0
  obtain ⟨v2, vs2, d2, ds2, p2, q2, hargs2, rfl, rfl, h2, r2⟩ := trodAll_cons r1
  obtain ⟨rfl, rfl, rfl⟩ := trodAll_nil r2
  obtain rfl : args = #[v0, v1, v2] := by cases args; simp_all
  obtain ⟨rfl, rfl⟩ := trodVars_none hV
  rw [List.append_nil] at hsz1
  have o0 := Den.zaq5 0 rfl rfl h0 hsz1
  obtain ⟨a0, rfl, e0⟩ := Den.sl_of Tryz.underlying22 (hval 0 22 v0 rfl rfl) o0
  rw [e0] at o0
  obtain ⟨fa0, ma0⟩ := Den.zaq4 o0
  obtain ⟨a1, rfl, -, -⟩ := open_bool Tryz.underlying4 (hval 1 4 v1 rfl rfl) h1
  obtain ⟨c2, rfl, e2⟩ := Den.zaq3 (hval 2 64 v2 rfl rfl) (by kernel_rfl)
  have o2 := Den.zaq5 2 rfl rfl h2 hsz1
  rw [e2] at o2
  obtain ⟨a2, rfl, fa2⟩ := Den.zaq2 o2
  clear hA0 hval0 hcnd0 hsz0
  refine (walk a0 a1 a2 W fa0 ma0 fa2).mono fun e W' ⟨he, h1, h2, h3, h4⟩ => ?_
  subst he
  have hts : ∀ t ∈ ([22, 4, 64] : List TypeId), t < Tryz.prog.types.size := of_decide_eq_true (by kernel_rfl)
  have hpa : ∀ p ∈ p0 ++ (p1 ++ (p2 ++ ([]))), p.block < W.heap.size := fun p hp => hlt p (List.mem_append_left _ hp)
  have hargs : ∀ sp : Nat → Bool, (∀ p ∈ (p0 ++ (p1 ++ (p2 ++ ([])))) ++ [], sp p.block = true) → DataW.TrodAll enc Tryz.prog W' 0 sp true ([22, 4, 64] : List TypeId) [Den.Lf.up .sl a0, .bool a1, Den.zale.up a2] [d0, d1, d2] (p0 ++ (p1 ++ (p2 ++ ([])))) := fun sp hsp =>
    Den.zacg Den.zapz Den.zapr Den.zapt h4 hts hpa (fun p hp => hsp p (List.mem_append_left _ hp)) hA2
  exact ⟨_, rfl, Den.zanr (pa := p0 ++ (p1 ++ (p2 ++ ([])))) (pv := []) hW' (fun _ _ _ => trodAll_cons_mk (shut_bool Tryz.underlying4 _) trodAll_mk0)
    hargs (fun _ _ => rfl) rfl
    (Den.zaoe h1 h2 h4 _) (fun a ha => Den.zamd h4 ha) (ok_one (by kernel_rfl) rfl (okWide_bool_mk Tryz.underlying4 _))⟩

theorem sturmKnown_holds : Rows.SturmKnownSaid :=
  OpenClaim.holds_of_wide 13 Tryz.f13 rfl rfl rfl rfl rfl rfl rfl ⟨rfl, rfl, rfl, rfl, rfl⟩ rfl rfl rfl rfl rfl (by kernel_rfl) Tryz.func13 (by kernel_rfl)
    (of_decide_eq_true (by kernel_rfl)) (by unfold Func.isWrapper; first | (rw [if_pos (by decide +kernel)]; kernel_rfl) | (rw [if_neg (by decide +kernel)]; exact ⟨rfl, rfl⟩))
    (fun os started H enc _ => lifted os started H enc)
end Go.Proofs.YtlddjhibbccljaaGreat.sturmKnown
#print axioms Go.Proofs.YtlddjhibbccljaaGreat.sturmKnown.sturmKnown_holds
