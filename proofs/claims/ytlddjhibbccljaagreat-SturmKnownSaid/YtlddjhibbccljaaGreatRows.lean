/-
  No cell of these rows narrows 'for every input' (looked for: loops, veiled, ifaces, maps, wideKeys, modest, calm, conditions, laid).
  DERIVED. THE GIVEN ROWS OF THIS SEAT. 12 by the template 'for every input the law returns true; each argument reads behind the call as it read before'; 0 by the template 'total and deterministic' (their statements: YtlddjhibbccljaaGreatTotals.lean).
  GIVEN WITH THE SEED: the statements are not yours to turn. If you find one false, say at which input.
  Laid BY PROGRAM, IN A SANDBOX (cutbox-rows.mjs): the forced cells as the released guide's own fill.sh prints them over the translation dde67e3766badcc5… (all of the seat's roots in one cut). By AI agents, Wed Nov 11 2026. No macro, syntax, notation, axiom, sorry.
-/
import Derived.Test.YtlddjhibbccljaaGreatChecked
import GoSem.Claim
import GoSem.ClaimJoined
import GoSem.ClaimMapViews
import Derived.JoinedTies
import Derived.KernelRfl
namespace Go.Proofs.YtlddjhibbccljaaGreat
/- THE CELL 'sum', in the pinned program and in every row, IS THE sha256 OF THE DUMP (.gsa) THAT YtlddjhibbccljaaGreatProg.lean LOADS. Nothing in Lean hashes anything: it is a label: what it is worth is what the hold of that sum in a sandbox is worth. -/
noncomputable def Tryz.pinned : Pinned := { name := "ytlddjhibbccljaagreat", sum := "dde67e3766badcc5211684aab91c39003dd292b96bfba066a8779d346c68ef42", checked := Tryz.checked }
namespace Rows
def none {H : Type} : Left H := { results := [], args := [] }

/-- 'setsquarelaw04.PolynomialMul': WHATEVER THE INPUT: true; the input reads as it did. -/
def polynomialMulSpec : ChangeSpec := { name := "polynomialMul", fn := fun _ => fun
  | [d1, d2, d3] => { results := [.lit (.bool true)], args := [d1, d2, d3] }
  | _ => none }
def polynomialMulRow : OpenClaim := { program := "ytlddjhibbccljaagreat", sum := "dde67e3766badcc5211684aab91c39003dd292b96bfba066a8779d346c68ef42", func := "setsquare/setsquarelaw04.PolynomialMul", spec := "polynomialMul", unfollowed := true, recurses := true, apart := false }
def PolynomialMulSaid : Prop := polynomialMulRow.holds Tryz.pinned (OpenSpec.ofChange polynomialMulSpec)

/-- ITS FALSE NEIGHBOUR: 'it returns false'. Refute it at one input. -/
def polynomialMulWrong : ChangeSpec := { name := "polynomialMul", fn := fun _ => fun
  | [d1, d2, d3] => { results := [.lit (.bool false)], args := [d1, d2, d3] }
  | _ => none }
def PolynomialMulWrongFalsely : Prop := polynomialMulRow.holds Tryz.pinned (OpenSpec.ofChange polynomialMulWrong)

/-- 'setsquarelaw04.PolynomialDivMod': WHATEVER THE INPUT: true; the input reads as it did. -/
def polynomialDivModSpec : ChangeSpec := { name := "polynomialDivMod", fn := fun _ => fun
  | [d1, d2] => { results := [.lit (.bool true)], args := [d1, d2] }
  | _ => none }
def polynomialDivModRow : OpenClaim := { program := "ytlddjhibbccljaagreat", sum := "dde67e3766badcc5211684aab91c39003dd292b96bfba066a8779d346c68ef42", func := "setsquare/setsquarelaw04.PolynomialDivMod", spec := "polynomialDivMod", unfollowed := true, recurses := true, apart := false }
def PolynomialDivModSaid : Prop := polynomialDivModRow.holds Tryz.pinned (OpenSpec.ofChange polynomialDivModSpec)

/-- ITS FALSE NEIGHBOUR: 'it returns false'. Refute it at one input. -/
def polynomialDivModWrong : ChangeSpec := { name := "polynomialDivMod", fn := fun _ => fun
  | [d1, d2] => { results := [.lit (.bool false)], args := [d1, d2] }
  | _ => none }
def PolynomialDivModWrongFalsely : Prop := polynomialDivModRow.holds Tryz.pinned (OpenSpec.ofChange polynomialDivModWrong)

/-- 'setsquarelaw04.PolynomialDerivative': WHATEVER THE INPUT: true; the input reads as it did. -/
def polynomialDerivativeSpec : ChangeSpec := { name := "polynomialDerivative", fn := fun _ => fun
  | [d1, d2] => { results := [.lit (.bool true)], args := [d1, d2] }
  | _ => none }
def polynomialDerivativeRow : OpenClaim := { program := "ytlddjhibbccljaagreat", sum := "dde67e3766badcc5211684aab91c39003dd292b96bfba066a8779d346c68ef42", func := "setsquare/setsquarelaw04.PolynomialDerivative", spec := "polynomialDerivative", unfollowed := true, recurses := true, apart := false }
def PolynomialDerivativeSaid : Prop := polynomialDerivativeRow.holds Tryz.pinned (OpenSpec.ofChange polynomialDerivativeSpec)

/-- ITS FALSE NEIGHBOUR: 'it returns false'. Refute it at one input. -/
def polynomialDerivativeWrong : ChangeSpec := { name := "polynomialDerivative", fn := fun _ => fun
  | [d1, d2] => { results := [.lit (.bool false)], args := [d1, d2] }
  | _ => none }
def PolynomialDerivativeWrongFalsely : Prop := polynomialDerivativeRow.holds Tryz.pinned (OpenSpec.ofChange polynomialDerivativeWrong)

/-- 'setsquarelaw04.PolynomialPrimitive': WHATEVER THE INPUT: true; the input reads as it did. -/
def polynomialPrimitiveSpec : ChangeSpec := { name := "polynomialPrimitive", fn := fun _ => fun
  | [d1, d2] => { results := [.lit (.bool true)], args := [d1, d2] }
  | _ => none }
def polynomialPrimitiveRow : OpenClaim := { program := "ytlddjhibbccljaagreat", sum := "dde67e3766badcc5211684aab91c39003dd292b96bfba066a8779d346c68ef42", func := "setsquare/setsquarelaw04.PolynomialPrimitive", spec := "polynomialPrimitive", unfollowed := true, recurses := true, apart := false }
def PolynomialPrimitiveSaid : Prop := polynomialPrimitiveRow.holds Tryz.pinned (OpenSpec.ofChange polynomialPrimitiveSpec)

/-- ITS FALSE NEIGHBOUR: 'it returns false'. Refute it at one input. -/
def polynomialPrimitiveWrong : ChangeSpec := { name := "polynomialPrimitive", fn := fun _ => fun
  | [d1, d2] => { results := [.lit (.bool false)], args := [d1, d2] }
  | _ => none }
def PolynomialPrimitiveWrongFalsely : Prop := polynomialPrimitiveRow.holds Tryz.pinned (OpenSpec.ofChange polynomialPrimitiveWrong)

/-- 'setsquarelaw04.PolynomialAdd': WHATEVER THE INPUT: true; the input reads as it did. -/
def polynomialAddSpec : ChangeSpec := { name := "polynomialAdd", fn := fun _ => fun
  | [d1, d2, d3] => { results := [.lit (.bool true)], args := [d1, d2, d3] }
  | _ => none }
def polynomialAddRow : OpenClaim := { program := "ytlddjhibbccljaagreat", sum := "dde67e3766badcc5211684aab91c39003dd292b96bfba066a8779d346c68ef42", func := "setsquare/setsquarelaw04.PolynomialAdd", spec := "polynomialAdd", unfollowed := true, recurses := true, apart := false }
def PolynomialAddSaid : Prop := polynomialAddRow.holds Tryz.pinned (OpenSpec.ofChange polynomialAddSpec)

/-- ITS FALSE NEIGHBOUR: 'it returns false'. Refute it at one input. -/
def polynomialAddWrong : ChangeSpec := { name := "polynomialAdd", fn := fun _ => fun
  | [d1, d2, d3] => { results := [.lit (.bool false)], args := [d1, d2, d3] }
  | _ => none }
def PolynomialAddWrongFalsely : Prop := polynomialAddRow.holds Tryz.pinned (OpenSpec.ofChange polynomialAddWrong)

/-- 'setsquarelaw04.PolynomialEval': WHATEVER THE INPUT: true; the input reads as it did. -/
def polynomialEvalSpec : ChangeSpec := { name := "polynomialEval", fn := fun _ => fun
  | [d1, d2, d3] => { results := [.lit (.bool true)], args := [d1, d2, d3] }
  | _ => none }
def polynomialEvalRow : OpenClaim := { program := "ytlddjhibbccljaagreat", sum := "dde67e3766badcc5211684aab91c39003dd292b96bfba066a8779d346c68ef42", func := "setsquare/setsquarelaw04.PolynomialEval", spec := "polynomialEval", unfollowed := true, recurses := true, apart := false }
def PolynomialEvalSaid : Prop := polynomialEvalRow.holds Tryz.pinned (OpenSpec.ofChange polynomialEvalSpec)

/-- ITS FALSE NEIGHBOUR: 'it returns false'. Refute it at one input. -/
def polynomialEvalWrong : ChangeSpec := { name := "polynomialEval", fn := fun _ => fun
  | [d1, d2, d3] => { results := [.lit (.bool false)], args := [d1, d2, d3] }
  | _ => none }
def PolynomialEvalWrongFalsely : Prop := polynomialEvalRow.holds Tryz.pinned (OpenSpec.ofChange polynomialEvalWrong)

/-- 'setsquarelaw05.SturmChanges': WHATEVER THE INPUT: true; the input reads as it did. -/
def sturmChangesSpec : ChangeSpec := { name := "sturmChanges", fn := fun _ => fun
  | [d1, d2] => { results := [.lit (.bool true)], args := [d1, d2] }
  | _ => none }
def sturmChangesRow : OpenClaim := { program := "ytlddjhibbccljaagreat", sum := "dde67e3766badcc5211684aab91c39003dd292b96bfba066a8779d346c68ef42", func := "setsquare/setsquarelaw05.SturmChanges", spec := "sturmChanges", unfollowed := true, recurses := true, apart := false }
def SturmChangesSaid : Prop := sturmChangesRow.holds Tryz.pinned (OpenSpec.ofChange sturmChangesSpec)

/-- ITS FALSE NEIGHBOUR: 'it returns false'. Refute it at one input. -/
def sturmChangesWrong : ChangeSpec := { name := "sturmChanges", fn := fun _ => fun
  | [d1, d2] => { results := [.lit (.bool false)], args := [d1, d2] }
  | _ => none }
def SturmChangesWrongFalsely : Prop := sturmChangesRow.holds Tryz.pinned (OpenSpec.ofChange sturmChangesWrong)

/-- 'setsquarelaw05.SturmCount': WHATEVER THE INPUT: true; the input reads as it did. -/
def sturmCountSpec : ChangeSpec := { name := "sturmCount", fn := fun _ => fun
  | [d1, d2] => { results := [.lit (.bool true)], args := [d1, d2] }
  | _ => none }
def sturmCountRow : OpenClaim := { program := "ytlddjhibbccljaagreat", sum := "dde67e3766badcc5211684aab91c39003dd292b96bfba066a8779d346c68ef42", func := "setsquare/setsquarelaw05.SturmCount", spec := "sturmCount", unfollowed := true, recurses := true, apart := false }
def SturmCountSaid : Prop := sturmCountRow.holds Tryz.pinned (OpenSpec.ofChange sturmCountSpec)

/-- ITS FALSE NEIGHBOUR: 'it returns false'. Refute it at one input. -/
def sturmCountWrong : ChangeSpec := { name := "sturmCount", fn := fun _ => fun
  | [d1, d2] => { results := [.lit (.bool false)], args := [d1, d2] }
  | _ => none }
def SturmCountWrongFalsely : Prop := sturmCountRow.holds Tryz.pinned (OpenSpec.ofChange sturmCountWrong)

/-- 'setsquarelaw05.SturmPowers': WHATEVER THE INPUT: true; the input reads as it did. -/
def sturmPowersSpec : ChangeSpec := { name := "sturmPowers", fn := fun _ => fun
  | [d1, d2] => { results := [.lit (.bool true)], args := [d1, d2] }
  | _ => none }
def sturmPowersRow : OpenClaim := { program := "ytlddjhibbccljaagreat", sum := "dde67e3766badcc5211684aab91c39003dd292b96bfba066a8779d346c68ef42", func := "setsquare/setsquarelaw05.SturmPowers", spec := "sturmPowers", unfollowed := true, recurses := true, apart := false }
def SturmPowersSaid : Prop := sturmPowersRow.holds Tryz.pinned (OpenSpec.ofChange sturmPowersSpec)

/-- ITS FALSE NEIGHBOUR: 'it returns false'. Refute it at one input. -/
def sturmPowersWrong : ChangeSpec := { name := "sturmPowers", fn := fun _ => fun
  | [d1, d2] => { results := [.lit (.bool false)], args := [d1, d2] }
  | _ => none }
def SturmPowersWrongFalsely : Prop := sturmPowersRow.holds Tryz.pinned (OpenSpec.ofChange sturmPowersWrong)

/-- 'setsquarelaw05.SturmRoot': WHATEVER THE INPUT: true; the input reads as it did. -/
def sturmRootSpec : ChangeSpec := { name := "sturmRoot", fn := fun _ => fun
  | [d1, d2] => { results := [.lit (.bool true)], args := [d1, d2] }
  | _ => none }
def sturmRootRow : OpenClaim := { program := "ytlddjhibbccljaagreat", sum := "dde67e3766badcc5211684aab91c39003dd292b96bfba066a8779d346c68ef42", func := "setsquare/setsquarelaw05.SturmRoot", spec := "sturmRoot", unfollowed := true, recurses := true, apart := false }
def SturmRootSaid : Prop := sturmRootRow.holds Tryz.pinned (OpenSpec.ofChange sturmRootSpec)

/-- ITS FALSE NEIGHBOUR: 'it returns false'. Refute it at one input. -/
def sturmRootWrong : ChangeSpec := { name := "sturmRoot", fn := fun _ => fun
  | [d1, d2] => { results := [.lit (.bool false)], args := [d1, d2] }
  | _ => none }
def SturmRootWrongFalsely : Prop := sturmRootRow.holds Tryz.pinned (OpenSpec.ofChange sturmRootWrong)

/-- 'setsquarelaw05.SturmKnown': WHATEVER THE INPUT: true; the input reads as it did. -/
def sturmKnownSpec : ChangeSpec := { name := "sturmKnown", fn := fun _ => fun
  | [d1, d2, d3] => { results := [.lit (.bool true)], args := [d1, d2, d3] }
  | _ => none }
def sturmKnownRow : OpenClaim := { program := "ytlddjhibbccljaagreat", sum := "dde67e3766badcc5211684aab91c39003dd292b96bfba066a8779d346c68ef42", func := "setsquare/setsquarelaw05.SturmKnown", spec := "sturmKnown", unfollowed := true, recurses := true, apart := false }
def SturmKnownSaid : Prop := sturmKnownRow.holds Tryz.pinned (OpenSpec.ofChange sturmKnownSpec)

/-- ITS FALSE NEIGHBOUR: 'it returns false'. Refute it at one input. -/
def sturmKnownWrong : ChangeSpec := { name := "sturmKnown", fn := fun _ => fun
  | [d1, d2, d3] => { results := [.lit (.bool false)], args := [d1, d2, d3] }
  | _ => none }
def SturmKnownWrongFalsely : Prop := sturmKnownRow.holds Tryz.pinned (OpenSpec.ofChange sturmKnownWrong)

/-- 'setsquarelaw05.SturmRefine': WHATEVER THE INPUT: true; the input reads as it did. -/
def sturmRefineSpec : ChangeSpec := { name := "sturmRefine", fn := fun _ => fun
  | [d1, d2, d3] => { results := [.lit (.bool true)], args := [d1, d2, d3] }
  | _ => none }
def sturmRefineRow : OpenClaim := { program := "ytlddjhibbccljaagreat", sum := "dde67e3766badcc5211684aab91c39003dd292b96bfba066a8779d346c68ef42", func := "setsquare/setsquarelaw05.SturmRefine", spec := "sturmRefine", unfollowed := true, recurses := true, apart := false }
def SturmRefineSaid : Prop := sturmRefineRow.holds Tryz.pinned (OpenSpec.ofChange sturmRefineSpec)

/-- ITS FALSE NEIGHBOUR: 'it returns false'. Refute it at one input. -/
def sturmRefineWrong : ChangeSpec := { name := "sturmRefine", fn := fun _ => fun
  | [d1, d2, d3] => { results := [.lit (.bool false)], args := [d1, d2, d3] }
  | _ => none }
def SturmRefineWrongFalsely : Prop := sturmRefineRow.holds Tryz.pinned (OpenSpec.ofChange sturmRefineWrong)

/- THE SECOND FORM. 'bulk': how many values and letters a reading holds, each counted each time it is reached (what is shared counts as often as it is met; a slice's spare places count too). A statement '..UptoSaid' is the law's where the arguments, and the package variables that the reading takes, are together of bulk at most 1048576: NARROWER than '..Said'. Prove '..Said' where nothing that the law and all that it calls make is longer than what came in: it says more and counts as full. Else prove '..UptoSaid'. A law counts once. -/
mutual
def uptoBulk {H : Type} : DataW H → Nat
  | .lit (.string bytes) => bytes.length + 1
  | .lit _ => 1
  | .nil => 1
  | .ptr d => uptoBulk d + 1
  | .slice elems spare => uptoBulkAll elems + uptoBulkAll spare + 1
  | .agg parts => uptoBulkAll parts + 1
  | .iface _ d => uptoBulk d + 1
  | .map entries => uptoBulkEntries entries + 1
  | .held _ => 1
def uptoBulkAll {H : Type} : List (DataW H) → Nat
  | [] => 0
  | d :: r => uptoBulk d + uptoBulkAll r
def uptoBulkEntries {H : Type} : List (Lit × DataW H) → Nat
  | [] => 0
  | x :: r => uptoBulkEntry x + uptoBulkEntries r
def uptoBulkEntry {H : Type} : Lit × DataW H → Nat
  | (.string bytes, d) => bytes.length + uptoBulk d + 1
  | (_, d) => uptoBulk d + 1
 end
def uptoSmall : (H : Type) → List (DataW H) → Bool := fun _ ds => decide (uptoBulkAll ds ≤ 1048576)
def OpenSpec.upto (s : _root_.Go.ChangeSpec) : _root_.Go.OpenSpec := { _root_.Go.OpenSpec.ofChange s with cond := some uptoSmall }

/-- 'setsquarelaw04.PolynomialMul', WHERE WHAT IT READS IS OF BULK AT MOST 1048576: true; the input reads as it did. -/
def polynomialMulUptoRow : OpenClaim := { program := "ytlddjhibbccljaagreat", sum := "dde67e3766badcc5211684aab91c39003dd292b96bfba066a8779d346c68ef42", func := "setsquare/setsquarelaw04.PolynomialMul", spec := "polynomialMul", unfollowed := true, recurses := true, apart := false, narrowed := true }
def PolynomialMulUptoSaid : Prop := polynomialMulUptoRow.holds Tryz.pinned (OpenSpec.upto polynomialMulSpec)

/-- 'setsquarelaw04.PolynomialDivMod', WHERE WHAT IT READS IS OF BULK AT MOST 1048576: true; the input reads as it did. -/
def polynomialDivModUptoRow : OpenClaim := { program := "ytlddjhibbccljaagreat", sum := "dde67e3766badcc5211684aab91c39003dd292b96bfba066a8779d346c68ef42", func := "setsquare/setsquarelaw04.PolynomialDivMod", spec := "polynomialDivMod", unfollowed := true, recurses := true, apart := false, narrowed := true }
def PolynomialDivModUptoSaid : Prop := polynomialDivModUptoRow.holds Tryz.pinned (OpenSpec.upto polynomialDivModSpec)

/-- 'setsquarelaw04.PolynomialDerivative', WHERE WHAT IT READS IS OF BULK AT MOST 1048576: true; the input reads as it did. -/
def polynomialDerivativeUptoRow : OpenClaim := { program := "ytlddjhibbccljaagreat", sum := "dde67e3766badcc5211684aab91c39003dd292b96bfba066a8779d346c68ef42", func := "setsquare/setsquarelaw04.PolynomialDerivative", spec := "polynomialDerivative", unfollowed := true, recurses := true, apart := false, narrowed := true }
def PolynomialDerivativeUptoSaid : Prop := polynomialDerivativeUptoRow.holds Tryz.pinned (OpenSpec.upto polynomialDerivativeSpec)

/-- 'setsquarelaw04.PolynomialPrimitive', WHERE WHAT IT READS IS OF BULK AT MOST 1048576: true; the input reads as it did. -/
def polynomialPrimitiveUptoRow : OpenClaim := { program := "ytlddjhibbccljaagreat", sum := "dde67e3766badcc5211684aab91c39003dd292b96bfba066a8779d346c68ef42", func := "setsquare/setsquarelaw04.PolynomialPrimitive", spec := "polynomialPrimitive", unfollowed := true, recurses := true, apart := false, narrowed := true }
def PolynomialPrimitiveUptoSaid : Prop := polynomialPrimitiveUptoRow.holds Tryz.pinned (OpenSpec.upto polynomialPrimitiveSpec)

/-- 'setsquarelaw04.PolynomialAdd', WHERE WHAT IT READS IS OF BULK AT MOST 1048576: true; the input reads as it did. -/
def polynomialAddUptoRow : OpenClaim := { program := "ytlddjhibbccljaagreat", sum := "dde67e3766badcc5211684aab91c39003dd292b96bfba066a8779d346c68ef42", func := "setsquare/setsquarelaw04.PolynomialAdd", spec := "polynomialAdd", unfollowed := true, recurses := true, apart := false, narrowed := true }
def PolynomialAddUptoSaid : Prop := polynomialAddUptoRow.holds Tryz.pinned (OpenSpec.upto polynomialAddSpec)

/-- 'setsquarelaw04.PolynomialEval', WHERE WHAT IT READS IS OF BULK AT MOST 1048576: true; the input reads as it did. -/
def polynomialEvalUptoRow : OpenClaim := { program := "ytlddjhibbccljaagreat", sum := "dde67e3766badcc5211684aab91c39003dd292b96bfba066a8779d346c68ef42", func := "setsquare/setsquarelaw04.PolynomialEval", spec := "polynomialEval", unfollowed := true, recurses := true, apart := false, narrowed := true }
def PolynomialEvalUptoSaid : Prop := polynomialEvalUptoRow.holds Tryz.pinned (OpenSpec.upto polynomialEvalSpec)

/-- 'setsquarelaw05.SturmChanges', WHERE WHAT IT READS IS OF BULK AT MOST 1048576: true; the input reads as it did. -/
def sturmChangesUptoRow : OpenClaim := { program := "ytlddjhibbccljaagreat", sum := "dde67e3766badcc5211684aab91c39003dd292b96bfba066a8779d346c68ef42", func := "setsquare/setsquarelaw05.SturmChanges", spec := "sturmChanges", unfollowed := true, recurses := true, apart := false, narrowed := true }
def SturmChangesUptoSaid : Prop := sturmChangesUptoRow.holds Tryz.pinned (OpenSpec.upto sturmChangesSpec)

/-- 'setsquarelaw05.SturmCount', WHERE WHAT IT READS IS OF BULK AT MOST 1048576: true; the input reads as it did. -/
def sturmCountUptoRow : OpenClaim := { program := "ytlddjhibbccljaagreat", sum := "dde67e3766badcc5211684aab91c39003dd292b96bfba066a8779d346c68ef42", func := "setsquare/setsquarelaw05.SturmCount", spec := "sturmCount", unfollowed := true, recurses := true, apart := false, narrowed := true }
def SturmCountUptoSaid : Prop := sturmCountUptoRow.holds Tryz.pinned (OpenSpec.upto sturmCountSpec)

/-- 'setsquarelaw05.SturmPowers', WHERE WHAT IT READS IS OF BULK AT MOST 1048576: true; the input reads as it did. -/
def sturmPowersUptoRow : OpenClaim := { program := "ytlddjhibbccljaagreat", sum := "dde67e3766badcc5211684aab91c39003dd292b96bfba066a8779d346c68ef42", func := "setsquare/setsquarelaw05.SturmPowers", spec := "sturmPowers", unfollowed := true, recurses := true, apart := false, narrowed := true }
def SturmPowersUptoSaid : Prop := sturmPowersUptoRow.holds Tryz.pinned (OpenSpec.upto sturmPowersSpec)

/-- 'setsquarelaw05.SturmRoot', WHERE WHAT IT READS IS OF BULK AT MOST 1048576: true; the input reads as it did. -/
def sturmRootUptoRow : OpenClaim := { program := "ytlddjhibbccljaagreat", sum := "dde67e3766badcc5211684aab91c39003dd292b96bfba066a8779d346c68ef42", func := "setsquare/setsquarelaw05.SturmRoot", spec := "sturmRoot", unfollowed := true, recurses := true, apart := false, narrowed := true }
def SturmRootUptoSaid : Prop := sturmRootUptoRow.holds Tryz.pinned (OpenSpec.upto sturmRootSpec)

/-- 'setsquarelaw05.SturmKnown', WHERE WHAT IT READS IS OF BULK AT MOST 1048576: true; the input reads as it did. -/
def sturmKnownUptoRow : OpenClaim := { program := "ytlddjhibbccljaagreat", sum := "dde67e3766badcc5211684aab91c39003dd292b96bfba066a8779d346c68ef42", func := "setsquare/setsquarelaw05.SturmKnown", spec := "sturmKnown", unfollowed := true, recurses := true, apart := false, narrowed := true }
def SturmKnownUptoSaid : Prop := sturmKnownUptoRow.holds Tryz.pinned (OpenSpec.upto sturmKnownSpec)

/-- 'setsquarelaw05.SturmRefine', WHERE WHAT IT READS IS OF BULK AT MOST 1048576: true; the input reads as it did. -/
def sturmRefineUptoRow : OpenClaim := { program := "ytlddjhibbccljaagreat", sum := "dde67e3766badcc5211684aab91c39003dd292b96bfba066a8779d346c68ef42", func := "setsquare/setsquarelaw05.SturmRefine", spec := "sturmRefine", unfollowed := true, recurses := true, apart := false, narrowed := true }
def SturmRefineUptoSaid : Prop := sturmRefineUptoRow.holds Tryz.pinned (OpenSpec.upto sturmRefineSpec)

end Rows
end Go.Proofs.YtlddjhibbccljaaGreat
