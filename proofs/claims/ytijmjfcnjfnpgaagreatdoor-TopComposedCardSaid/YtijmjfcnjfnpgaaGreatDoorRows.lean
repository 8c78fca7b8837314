/-
  NARROWER THAN 'FOR EVERY INPUT', by the rows' own cells (each row's printed sentence says how): TopCore: laid · TopComposed: laid · TopHenneberg: laid.
  DERIVED. THE GIVEN ROWS OF THIS SEAT. 3 by the template 'for every input the law returns true; each argument reads behind the call as it read before'; 0 by the template 'total and deterministic' (their statements: YtijmjfcnjfnpgaaGreatDoorTotals.lean).
  GIVEN WITH THE SEED: the statements are not yours to turn. If you find one false, say at which input.
  Laid BY PROGRAM, IN A SANDBOX (cutbox-rows.mjs): the forced cells as the released guide's own fill.sh prints them over the translation 936151c9849dfd3e… (all of the seat's roots in one cut). By AI agents, Wed Nov 11 2026. No macro, syntax, notation, axiom, sorry.
-/
import Derived.Test.YtijmjfcnjfnpgaaGreatDoorChecked
import GoSem.Claim
import GoSem.ClaimJoined
import GoSem.ClaimMapViews
import Derived.JoinedTies
import Derived.KernelRfl
namespace Go.Proofs.YtijmjfcnjfnpgaaGreatDoor
/- THE CELL 'sum', in the pinned program and in every row, IS THE sha256 OF THE DUMP (.gsa) THAT YtijmjfcnjfnpgaaGreatDoorProg.lean LOADS. Nothing in Lean hashes anything: it is a label: what it is worth is what the hold of that sum in a sandbox is worth. -/
noncomputable def Tryz.pinned : Pinned := { name := "ytijmjfcnjfnpgaagreatdoor", sum := "936151c9849dfd3eaa4fe693883cf39f86ea374debd5525a0a7cce0d9e251eb0", checked := Tryz.checked }
namespace Rows
def none {H : Type} : Left H := { results := [], args := [] }

/- WHAT THE LISTED PACKAGE-LEVEL VARIABLES READ AS WHEN THE CALL BEGINS. Each datum BY PROGRAM (the guide's laid-datum.mjs) off the statement by which the dump's own 'gosem.cut.vars' lays the variable. In a bare row this is a premise. The card (YtijmjfcnjfnpgaaGreatDoorCards.lean) ties it to the program's text. -/
def laid_math_bits_deBruijn32tab {H : Type} : DataW H := .agg [.lit (.int .u8 0), .lit (.int .u8 1), .lit (.int .u8 28), .lit (.int .u8 2), .lit (.int .u8 29), .lit (.int .u8 14), .lit (.int .u8 24), .lit (.int .u8 3), .lit (.int .u8 30), .lit (.int .u8 22), .lit (.int .u8 20), .lit (.int .u8 15), .lit (.int .u8 25), .lit (.int .u8 17), .lit (.int .u8 4), .lit (.int .u8 8), .lit (.int .u8 31), .lit (.int .u8 27), .lit (.int .u8 13), .lit (.int .u8 23), .lit (.int .u8 21), .lit (.int .u8 19), .lit (.int .u8 16), .lit (.int .u8 7), .lit (.int .u8 26), .lit (.int .u8 12), .lit (.int .u8 18), .lit (.int .u8 6), .lit (.int .u8 11), .lit (.int .u8 5), .lit (.int .u8 10), .lit (.int .u8 9)]
def laid_math_bits_deBruijn64tab {H : Type} : DataW H := .agg [.lit (.int .u8 0), .lit (.int .u8 1), .lit (.int .u8 56), .lit (.int .u8 2), .lit (.int .u8 57), .lit (.int .u8 49), .lit (.int .u8 28), .lit (.int .u8 3), .lit (.int .u8 61), .lit (.int .u8 58), .lit (.int .u8 42), .lit (.int .u8 50), .lit (.int .u8 38), .lit (.int .u8 29), .lit (.int .u8 17), .lit (.int .u8 4), .lit (.int .u8 62), .lit (.int .u8 47), .lit (.int .u8 59), .lit (.int .u8 36), .lit (.int .u8 45), .lit (.int .u8 43), .lit (.int .u8 51), .lit (.int .u8 22), .lit (.int .u8 53), .lit (.int .u8 39), .lit (.int .u8 33), .lit (.int .u8 30), .lit (.int .u8 24), .lit (.int .u8 18), .lit (.int .u8 12), .lit (.int .u8 5), .lit (.int .u8 63), .lit (.int .u8 55), .lit (.int .u8 48), .lit (.int .u8 27), .lit (.int .u8 60), .lit (.int .u8 41), .lit (.int .u8 37), .lit (.int .u8 16), .lit (.int .u8 46), .lit (.int .u8 35), .lit (.int .u8 44), .lit (.int .u8 21), .lit (.int .u8 52), .lit (.int .u8 32), .lit (.int .u8 23), .lit (.int .u8 11), .lit (.int .u8 54), .lit (.int .u8 26), .lit (.int .u8 40), .lit (.int .u8 15), .lit (.int .u8 34), .lit (.int .u8 20), .lit (.int .u8 31), .lit (.int .u8 10), .lit (.int .u8 25), .lit (.int .u8 14), .lit (.int .u8 19), .lit (.int .u8 9), .lit (.int .u8 13), .lit (.int .u8 8), .lit (.int .u8 7), .lit (.int .u8 6)]
def laid_internal_strconv_uint64pow10 {H : Type} : DataW H := .agg [.lit (.int .u64 1), .lit (.int .u64 10), .lit (.int .u64 100), .lit (.int .u64 1000), .lit (.int .u64 10000), .lit (.int .u64 100000), .lit (.int .u64 1000000), .lit (.int .u64 10000000), .lit (.int .u64 100000000), .lit (.int .u64 1000000000), .lit (.int .u64 10000000000), .lit (.int .u64 100000000000), .lit (.int .u64 1000000000000), .lit (.int .u64 10000000000000), .lit (.int .u64 100000000000000), .lit (.int .u64 1000000000000000), .lit (.int .u64 10000000000000000), .lit (.int .u64 100000000000000000), .lit (.int .u64 1000000000000000000), .lit (.int .u64 10000000000000000000)]
def laid_setsquare_formula_operands {H : Type} : DataW H := .agg [.lit (.int .i64 0), .lit (.int .i64 0), .lit (.int .i64 0), .lit (.int .i64 1), .lit (.int .i64 2), .lit (.int .i64 2), .lit (.int .i64 2), .lit (.int .i64 2)]
def laid_setsquare_constraint_table {H : Type} : DataW H := .agg [.agg [.lit (.string []), .agg [.lit (.int .i64 0), .lit (.int .i64 0), .lit (.int .i64 0), .lit (.int .i64 0), .lit (.bool false), .lit (.bool false), .lit (.bool false)]], .agg [.lit (.string [102, 105, 120]), .agg [.lit (.int .i64 1), .lit (.int .i64 0), .lit (.int .i64 2), .lit (.int .i64 2), .lit (.bool false), .lit (.bool true), .lit (.bool false)]], .agg [.lit (.string [100, 105, 115, 116, 97, 110, 99, 101]), .agg [.lit (.int .i64 2), .lit (.int .i64 0), .lit (.int .i64 1), .lit (.int .i64 1), .lit (.bool false), .lit (.bool true), .lit (.bool true)]], .agg [.lit (.string [105, 110, 99, 105, 100, 101, 110, 116]), .agg [.lit (.int .i64 3), .lit (.int .i64 0), .lit (.int .i64 0), .lit (.int .i64 1), .lit (.bool false), .lit (.bool false), .lit (.bool false)]], .agg [.lit (.string [111, 102, 102, 115, 101, 116]), .agg [.lit (.int .i64 3), .lit (.int .i64 0), .lit (.int .i64 1), .lit (.int .i64 1), .lit (.bool true), .lit (.bool true), .lit (.bool true)]], .agg [.lit (.string [97, 110, 103, 108, 101]), .agg [.lit (.int .i64 4), .lit (.int .i64 0), .lit (.int .i64 1), .lit (.int .i64 1), .lit (.bool false), .lit (.bool false), .lit (.bool false)]], .agg [.lit (.string [112, 97, 114, 97, 108, 108, 101, 108]), .agg [.lit (.int .i64 4), .lit (.int .i64 0), .lit (.int .i64 0), .lit (.int .i64 1), .lit (.bool false), .lit (.bool false), .lit (.bool false)]], .agg [.lit (.string [112, 101, 114, 112, 101, 110, 100, 105, 99, 117, 108, 97, 114]), .agg [.lit (.int .i64 4), .lit (.int .i64 0), .lit (.int .i64 0), .lit (.int .i64 1), .lit (.bool false), .lit (.bool false), .lit (.bool false)]], .agg [.lit (.string [101, 113, 117, 97, 108]), .agg [.lit (.int .i64 4), .lit (.int .i64 0), .lit (.int .i64 0), .lit (.int .i64 1), .lit (.bool false), .lit (.bool false), .lit (.bool false)]], .agg [.lit (.string [109, 105, 100, 112, 111, 105, 110, 116]), .agg [.lit (.int .i64 3), .lit (.int .i64 0), .lit (.int .i64 0), .lit (.int .i64 2), .lit (.bool false), .lit (.bool false), .lit (.bool false)]], .agg [.lit (.string [115, 121, 109, 109, 101, 116, 114, 105, 99]), .agg [.lit (.int .i64 4), .lit (.int .i64 0), .lit (.int .i64 0), .lit (.int .i64 2), .lit (.bool false), .lit (.bool false), .lit (.bool false)]], .agg [.lit (.string [104, 111, 114, 105, 122, 111, 110, 116, 97, 108]), .agg [.lit (.int .i64 2), .lit (.int .i64 0), .lit (.int .i64 0), .lit (.int .i64 1), .lit (.bool false), .lit (.bool false), .lit (.bool false)]], .agg [.lit (.string [118, 101, 114, 116, 105, 99, 97, 108]), .agg [.lit (.int .i64 2), .lit (.int .i64 0), .lit (.int .i64 0), .lit (.int .i64 1), .lit (.bool false), .lit (.bool false), .lit (.bool false)]], .agg [.lit (.string [111, 110, 99, 105, 114, 99, 108, 101]), .agg [.lit (.int .i64 1), .lit (.int .i64 1), .lit (.int .i64 0), .lit (.int .i64 1), .lit (.bool false), .lit (.bool false), .lit (.bool false)]], .agg [.lit (.string [114, 97, 100, 105, 117, 115]), .agg [.lit (.int .i64 0), .lit (.int .i64 1), .lit (.int .i64 1), .lit (.int .i64 1), .lit (.bool false), .lit (.bool true), .lit (.bool true)]], .agg [.lit (.string [115, 97, 109, 101, 114, 97, 100, 105, 117, 115]), .agg [.lit (.int .i64 0), .lit (.int .i64 2), .lit (.int .i64 0), .lit (.int .i64 1), .lit (.bool false), .lit (.bool false), .lit (.bool false)]], .agg [.lit (.string [116, 97, 110, 103, 101, 110, 116, 108, 105, 110, 101]), .agg [.lit (.int .i64 2), .lit (.int .i64 1), .lit (.int .i64 0), .lit (.int .i64 1), .lit (.bool true), .lit (.bool false), .lit (.bool false)]], .agg [.lit (.string [116, 97, 110, 103, 101, 110, 116, 99, 105, 114, 99, 108, 101]), .agg [.lit (.int .i64 0), .lit (.int .i64 2), .lit (.int .i64 0), .lit (.int .i64 1), .lit (.bool true), .lit (.bool false), .lit (.bool false)]]]

/-- 'setsquaretop.TopCore': WHATEVER THE INPUT: true; the input reads as it did. -/
def topCoreSpec : ChangeSpec := { name := "topCore", fn := fun _ => fun
  | [d] => { results := [.lit (.bool true)], args := [d] }
  | _ => none }
def topCoreRow : OpenClaim := { program := "ytijmjfcnjfnpgaagreatdoor", sum := "936151c9849dfd3eaa4fe693883cf39f86ea374debd5525a0a7cce0d9e251eb0", func := "setsquare/setsquaretop.TopCore", spec := "topCore", inPlace := ["internal/abi.NoEscape", "internal/bytealg.MakeNoZero"], unfollowed := true, recurses := true, named := ["setsquare/constraint.table", "setsquare/formula.operands", "internal/strconv.uint64pow10", "math/bits.deBruijn32tab", "math/bits.deBruijn64tab"], apart := false, laid := [("math/bits.deBruijn32tab", laid_math_bits_deBruijn32tab), ("math/bits.deBruijn64tab", laid_math_bits_deBruijn64tab), ("internal/strconv.uint64pow10", laid_internal_strconv_uint64pow10), ("setsquare/formula.operands", laid_setsquare_formula_operands), ("setsquare/constraint.table", laid_setsquare_constraint_table)] }
def TopCoreSaid : Prop := topCoreRow.holds Tryz.pinned (OpenSpec.ofChange topCoreSpec)

/-- ITS FALSE NEIGHBOUR: 'it returns false'. Refute it at one input. -/
def topCoreWrong : ChangeSpec := { name := "topCore", fn := fun _ => fun
  | [d] => { results := [.lit (.bool false)], args := [d] }
  | _ => none }
def TopCoreWrongFalsely : Prop := topCoreRow.holds Tryz.pinned (OpenSpec.ofChange topCoreWrong)

/-- 'setsquaretop.TopComposed': WHATEVER THE INPUT: true; the input reads as it did. -/
def topComposedSpec : ChangeSpec := { name := "topComposed", fn := fun _ => fun
  | [d] => { results := [.lit (.bool true)], args := [d] }
  | _ => none }
def topComposedRow : OpenClaim := { program := "ytijmjfcnjfnpgaagreatdoor", sum := "936151c9849dfd3eaa4fe693883cf39f86ea374debd5525a0a7cce0d9e251eb0", func := "setsquare/setsquaretop.TopComposed", spec := "topComposed", inPlace := ["internal/abi.NoEscape", "internal/bytealg.MakeNoZero"], unfollowed := true, recurses := true, named := ["setsquare/constraint.table", "setsquare/formula.operands", "internal/strconv.uint64pow10", "math/bits.deBruijn32tab", "math/bits.deBruijn64tab"], apart := false, laid := [("math/bits.deBruijn32tab", laid_math_bits_deBruijn32tab), ("math/bits.deBruijn64tab", laid_math_bits_deBruijn64tab), ("internal/strconv.uint64pow10", laid_internal_strconv_uint64pow10), ("setsquare/formula.operands", laid_setsquare_formula_operands), ("setsquare/constraint.table", laid_setsquare_constraint_table)] }
def TopComposedSaid : Prop := topComposedRow.holds Tryz.pinned (OpenSpec.ofChange topComposedSpec)

/-- ITS FALSE NEIGHBOUR: 'it returns false'. Refute it at one input. -/
def topComposedWrong : ChangeSpec := { name := "topComposed", fn := fun _ => fun
  | [d] => { results := [.lit (.bool false)], args := [d] }
  | _ => none }
def TopComposedWrongFalsely : Prop := topComposedRow.holds Tryz.pinned (OpenSpec.ofChange topComposedWrong)

/-- 'setsquaretop.TopHenneberg': WHATEVER THE INPUT: true; the input reads as it did. -/
def topHennebergSpec : ChangeSpec := { name := "topHenneberg", fn := fun _ => fun
  | [d] => { results := [.lit (.bool true)], args := [d] }
  | _ => none }
def topHennebergRow : OpenClaim := { program := "ytijmjfcnjfnpgaagreatdoor", sum := "936151c9849dfd3eaa4fe693883cf39f86ea374debd5525a0a7cce0d9e251eb0", func := "setsquare/setsquaretop.TopHenneberg", spec := "topHenneberg", inPlace := ["internal/abi.NoEscape", "internal/bytealg.MakeNoZero"], unfollowed := true, recurses := true, named := ["setsquare/constraint.table", "setsquare/formula.operands", "internal/strconv.uint64pow10", "math/bits.deBruijn32tab", "math/bits.deBruijn64tab"], apart := false, laid := [("math/bits.deBruijn32tab", laid_math_bits_deBruijn32tab), ("math/bits.deBruijn64tab", laid_math_bits_deBruijn64tab), ("internal/strconv.uint64pow10", laid_internal_strconv_uint64pow10), ("setsquare/formula.operands", laid_setsquare_formula_operands), ("setsquare/constraint.table", laid_setsquare_constraint_table)] }
def TopHennebergSaid : Prop := topHennebergRow.holds Tryz.pinned (OpenSpec.ofChange topHennebergSpec)

/-- ITS FALSE NEIGHBOUR: 'it returns false'. Refute it at one input. -/
def topHennebergWrong : ChangeSpec := { name := "topHenneberg", fn := fun _ => fun
  | [d] => { results := [.lit (.bool false)], args := [d] }
  | _ => none }
def TopHennebergWrongFalsely : Prop := topHennebergRow.holds Tryz.pinned (OpenSpec.ofChange topHennebergWrong)

/- THE SECOND FORM. 'bulk': how many values and letters a reading holds, each counted each time it is reached (what is shared counts as often as it is met; a slice's spare places count too). A statement '..UptoSaid' is the law's where the arguments, and the package variables that the reading takes, are together of bulk at most 1048576: NARROWER than '..Said'. Prove '..Said' where nothing that the law and all that it calls make is longer than what came in: it says more and counts as full. Else prove '..UptoSaid'. A law counts once. -/
mutual
def uptoBulk {H : Type} : DataW H → Nat
  | .lit (.string bytes) => bytes.length + 1
  | .lit _ => 1
  | .nil => 1
  | .ptr d => uptoBulk d + 1
  | .slice elems spare => uptoBulkAll elems + uptoBulkAll spare + 1
  | .agg parts => uptoBulkAll parts + 1
  | .iface _ d => uptoBulk d + 1
  | .map entries => uptoBulkEntries entries + 1
  | .held _ => 1
def uptoBulkAll {H : Type} : List (DataW H) → Nat
  | [] => 0
  | d :: r => uptoBulk d + uptoBulkAll r
def uptoBulkEntries {H : Type} : List (Lit × DataW H) → Nat
  | [] => 0
  | x :: r => uptoBulkEntry x + uptoBulkEntries r
def uptoBulkEntry {H : Type} : Lit × DataW H → Nat
  | (.string bytes, d) => bytes.length + uptoBulk d + 1
  | (_, d) => uptoBulk d + 1
 end
def uptoSmall : (H : Type) → List (DataW H) → Bool := fun _ ds => decide (uptoBulkAll ds ≤ 1048576)
def OpenSpec.upto (s : _root_.Go.ChangeSpec) : _root_.Go.OpenSpec := { _root_.Go.OpenSpec.ofChange s with cond := some uptoSmall }

/-- 'setsquaretop.TopCore', WHERE WHAT IT READS IS OF BULK AT MOST 1048576: true; the input reads as it did. -/
def topCoreUptoRow : OpenClaim := { program := "ytijmjfcnjfnpgaagreatdoor", sum := "936151c9849dfd3eaa4fe693883cf39f86ea374debd5525a0a7cce0d9e251eb0", func := "setsquare/setsquaretop.TopCore", spec := "topCore", inPlace := ["internal/abi.NoEscape", "internal/bytealg.MakeNoZero"], unfollowed := true, recurses := true, named := ["setsquare/constraint.table", "setsquare/formula.operands", "internal/strconv.uint64pow10", "math/bits.deBruijn32tab", "math/bits.deBruijn64tab"], apart := false, laid := [("math/bits.deBruijn32tab", laid_math_bits_deBruijn32tab), ("math/bits.deBruijn64tab", laid_math_bits_deBruijn64tab), ("internal/strconv.uint64pow10", laid_internal_strconv_uint64pow10), ("setsquare/formula.operands", laid_setsquare_formula_operands), ("setsquare/constraint.table", laid_setsquare_constraint_table)], narrowed := true }
def TopCoreUptoSaid : Prop := topCoreUptoRow.holds Tryz.pinned (OpenSpec.upto topCoreSpec)

/-- 'setsquaretop.TopComposed', WHERE WHAT IT READS IS OF BULK AT MOST 1048576: true; the input reads as it did. -/
def topComposedUptoRow : OpenClaim := { program := "ytijmjfcnjfnpgaagreatdoor", sum := "936151c9849dfd3eaa4fe693883cf39f86ea374debd5525a0a7cce0d9e251eb0", func := "setsquare/setsquaretop.TopComposed", spec := "topComposed", inPlace := ["internal/abi.NoEscape", "internal/bytealg.MakeNoZero"], unfollowed := true, recurses := true, named := ["setsquare/constraint.table", "setsquare/formula.operands", "internal/strconv.uint64pow10", "math/bits.deBruijn32tab", "math/bits.deBruijn64tab"], apart := false, laid := [("math/bits.deBruijn32tab", laid_math_bits_deBruijn32tab), ("math/bits.deBruijn64tab", laid_math_bits_deBruijn64tab), ("internal/strconv.uint64pow10", laid_internal_strconv_uint64pow10), ("setsquare/formula.operands", laid_setsquare_formula_operands), ("setsquare/constraint.table", laid_setsquare_constraint_table)], narrowed := true }
def TopComposedUptoSaid : Prop := topComposedUptoRow.holds Tryz.pinned (OpenSpec.upto topComposedSpec)

/-- 'setsquaretop.TopHenneberg', WHERE WHAT IT READS IS OF BULK AT MOST 1048576: true; the input reads as it did. -/
def topHennebergUptoRow : OpenClaim := { program := "ytijmjfcnjfnpgaagreatdoor", sum := "936151c9849dfd3eaa4fe693883cf39f86ea374debd5525a0a7cce0d9e251eb0", func := "setsquare/setsquaretop.TopHenneberg", spec := "topHenneberg", inPlace := ["internal/abi.NoEscape", "internal/bytealg.MakeNoZero"], unfollowed := true, recurses := true, named := ["setsquare/constraint.table", "setsquare/formula.operands", "internal/strconv.uint64pow10", "math/bits.deBruijn32tab", "math/bits.deBruijn64tab"], apart := false, laid := [("math/bits.deBruijn32tab", laid_math_bits_deBruijn32tab), ("math/bits.deBruijn64tab", laid_math_bits_deBruijn64tab), ("internal/strconv.uint64pow10", laid_internal_strconv_uint64pow10), ("setsquare/formula.operands", laid_setsquare_formula_operands), ("setsquare/constraint.table", laid_setsquare_constraint_table)], narrowed := true }
def TopHennebergUptoSaid : Prop := topHennebergUptoRow.holds Tryz.pinned (OpenSpec.upto topHennebergSpec)

end Rows
end Go.Proofs.YtijmjfcnjfnpgaaGreatDoor
