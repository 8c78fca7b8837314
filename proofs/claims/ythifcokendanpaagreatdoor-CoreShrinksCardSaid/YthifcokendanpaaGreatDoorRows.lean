/-
  NARROWER THAN 'FOR EVERY INPUT', by the rows' own cells (each row's printed sentence says how): HennebergPeel: loops, laid · HennebergPlan: loops, laid · HennebergOrder: loops, laid · HennebergRemovable: loops, laid · HennebergMonotonic: loops, laid · HennebergWeight: loops, laid · CoreItems: loops, laid · CoreShrinks: loops, laid · CoreGraph: laid · CoreBars: laid · HennebergUses: loops, laid · CoreValid: loops, laid · CoreGreatest: loops, laid · CoreFrozen: loops, laid.
  DERIVED. THE GIVEN ROWS OF THIS SEAT. 14 by the template 'for every input the law returns true; each argument reads behind the call as it read before'; 0 by the template 'total and deterministic' (their statements: YthifcokendanpaaGreatDoorTotals.lean).
  GIVEN WITH THE SEED: the statements are not yours to turn. If you find one false, say at which input.
  Laid BY PROGRAM, IN A SANDBOX (cutbox-rows.mjs): the forced cells as the released guide's own fill.sh prints them over the translation 7efc384b4fc40833… (all of the seat's roots in one cut). By AI agents, Wed Nov 11 2026. No macro, syntax, notation, axiom, sorry.
-/
import Derived.Test.YthifcokendanpaaGreatDoorChecked
import GoSem.Claim
import GoSem.ClaimJoined
import GoSem.ClaimMapViews
import Derived.JoinedTies
import Derived.KernelRfl
namespace Go.Proofs.YthifcokendanpaaGreatDoor
/- THE CELL 'sum', in the pinned program and in every row, IS THE sha256 OF THE DUMP (.gsa) THAT YthifcokendanpaaGreatDoorProg.lean LOADS. Nothing in Lean hashes anything: it is a label: what it is worth is what the hold of that sum in a sandbox is worth. -/
noncomputable def Tryz.pinned : Pinned := { name := "ythifcokendanpaagreatdoor", sum := "7efc384b4fc4083333c9102aaa7a841955d233dda0da5d80a0cd22cf17337846", checked := Tryz.checked }
namespace Rows
def none {H : Type} : Left H := { results := [], args := [] }

/- WHAT THE LISTED PACKAGE-LEVEL VARIABLES READ AS WHEN THE CALL BEGINS. Each datum BY PROGRAM (the guide's laid-datum.mjs) off the statement by which the dump's own 'gosem.cut.vars' lays the variable. In a bare row this is a premise. The card (YthifcokendanpaaGreatDoorCards.lean) ties it to the program's text. -/
def laid_math_bits_deBruijn32tab {H : Type} : DataW H := .agg [.lit (.int .u8 0), .lit (.int .u8 1), .lit (.int .u8 28), .lit (.int .u8 2), .lit (.int .u8 29), .lit (.int .u8 14), .lit (.int .u8 24), .lit (.int .u8 3), .lit (.int .u8 30), .lit (.int .u8 22), .lit (.int .u8 20), .lit (.int .u8 15), .lit (.int .u8 25), .lit (.int .u8 17), .lit (.int .u8 4), .lit (.int .u8 8), .lit (.int .u8 31), .lit (.int .u8 27), .lit (.int .u8 13), .lit (.int .u8 23), .lit (.int .u8 21), .lit (.int .u8 19), .lit (.int .u8 16), .lit (.int .u8 7), .lit (.int .u8 26), .lit (.int .u8 12), .lit (.int .u8 18), .lit (.int .u8 6), .lit (.int .u8 11), .lit (.int .u8 5), .lit (.int .u8 10), .lit (.int .u8 9)]
def laid_math_bits_deBruijn64tab {H : Type} : DataW H := .agg [.lit (.int .u8 0), .lit (.int .u8 1), .lit (.int .u8 56), .lit (.int .u8 2), .lit (.int .u8 57), .lit (.int .u8 49), .lit (.int .u8 28), .lit (.int .u8 3), .lit (.int .u8 61), .lit (.int .u8 58), .lit (.int .u8 42), .lit (.int .u8 50), .lit (.int .u8 38), .lit (.int .u8 29), .lit (.int .u8 17), .lit (.int .u8 4), .lit (.int .u8 62), .lit (.int .u8 47), .lit (.int .u8 59), .lit (.int .u8 36), .lit (.int .u8 45), .lit (.int .u8 43), .lit (.int .u8 51), .lit (.int .u8 22), .lit (.int .u8 53), .lit (.int .u8 39), .lit (.int .u8 33), .lit (.int .u8 30), .lit (.int .u8 24), .lit (.int .u8 18), .lit (.int .u8 12), .lit (.int .u8 5), .lit (.int .u8 63), .lit (.int .u8 55), .lit (.int .u8 48), .lit (.int .u8 27), .lit (.int .u8 60), .lit (.int .u8 41), .lit (.int .u8 37), .lit (.int .u8 16), .lit (.int .u8 46), .lit (.int .u8 35), .lit (.int .u8 44), .lit (.int .u8 21), .lit (.int .u8 52), .lit (.int .u8 32), .lit (.int .u8 23), .lit (.int .u8 11), .lit (.int .u8 54), .lit (.int .u8 26), .lit (.int .u8 40), .lit (.int .u8 15), .lit (.int .u8 34), .lit (.int .u8 20), .lit (.int .u8 31), .lit (.int .u8 10), .lit (.int .u8 25), .lit (.int .u8 14), .lit (.int .u8 19), .lit (.int .u8 9), .lit (.int .u8 13), .lit (.int .u8 8), .lit (.int .u8 7), .lit (.int .u8 6)]
def laid_internal_strconv_uint64pow10 {H : Type} : DataW H := .agg [.lit (.int .u64 1), .lit (.int .u64 10), .lit (.int .u64 100), .lit (.int .u64 1000), .lit (.int .u64 10000), .lit (.int .u64 100000), .lit (.int .u64 1000000), .lit (.int .u64 10000000), .lit (.int .u64 100000000), .lit (.int .u64 1000000000), .lit (.int .u64 10000000000), .lit (.int .u64 100000000000), .lit (.int .u64 1000000000000), .lit (.int .u64 10000000000000), .lit (.int .u64 100000000000000), .lit (.int .u64 1000000000000000), .lit (.int .u64 10000000000000000), .lit (.int .u64 100000000000000000), .lit (.int .u64 1000000000000000000), .lit (.int .u64 10000000000000000000)]
def laid_setsquare_formula_operands {H : Type} : DataW H := .agg [.lit (.int .i64 0), .lit (.int .i64 0), .lit (.int .i64 0), .lit (.int .i64 1), .lit (.int .i64 2), .lit (.int .i64 2), .lit (.int .i64 2), .lit (.int .i64 2)]
def laid_setsquare_constraint_table {H : Type} : DataW H := .agg [.agg [.lit (.string []), .agg [.lit (.int .i64 0), .lit (.int .i64 0), .lit (.int .i64 0), .lit (.int .i64 0), .lit (.bool false), .lit (.bool false), .lit (.bool false)]], .agg [.lit (.string [102, 105, 120]), .agg [.lit (.int .i64 1), .lit (.int .i64 0), .lit (.int .i64 2), .lit (.int .i64 2), .lit (.bool false), .lit (.bool true), .lit (.bool false)]], .agg [.lit (.string [100, 105, 115, 116, 97, 110, 99, 101]), .agg [.lit (.int .i64 2), .lit (.int .i64 0), .lit (.int .i64 1), .lit (.int .i64 1), .lit (.bool false), .lit (.bool true), .lit (.bool true)]], .agg [.lit (.string [105, 110, 99, 105, 100, 101, 110, 116]), .agg [.lit (.int .i64 3), .lit (.int .i64 0), .lit (.int .i64 0), .lit (.int .i64 1), .lit (.bool false), .lit (.bool false), .lit (.bool false)]], .agg [.lit (.string [111, 102, 102, 115, 101, 116]), .agg [.lit (.int .i64 3), .lit (.int .i64 0), .lit (.int .i64 1), .lit (.int .i64 1), .lit (.bool true), .lit (.bool true), .lit (.bool true)]], .agg [.lit (.string [97, 110, 103, 108, 101]), .agg [.lit (.int .i64 4), .lit (.int .i64 0), .lit (.int .i64 1), .lit (.int .i64 1), .lit (.bool false), .lit (.bool false), .lit (.bool false)]], .agg [.lit (.string [112, 97, 114, 97, 108, 108, 101, 108]), .agg [.lit (.int .i64 4), .lit (.int .i64 0), .lit (.int .i64 0), .lit (.int .i64 1), .lit (.bool false), .lit (.bool false), .lit (.bool false)]], .agg [.lit (.string [112, 101, 114, 112, 101, 110, 100, 105, 99, 117, 108, 97, 114]), .agg [.lit (.int .i64 4), .lit (.int .i64 0), .lit (.int .i64 0), .lit (.int .i64 1), .lit (.bool false), .lit (.bool false), .lit (.bool false)]], .agg [.lit (.string [101, 113, 117, 97, 108]), .agg [.lit (.int .i64 4), .lit (.int .i64 0), .lit (.int .i64 0), .lit (.int .i64 1), .lit (.bool false), .lit (.bool false), .lit (.bool false)]], .agg [.lit (.string [109, 105, 100, 112, 111, 105, 110, 116]), .agg [.lit (.int .i64 3), .lit (.int .i64 0), .lit (.int .i64 0), .lit (.int .i64 2), .lit (.bool false), .lit (.bool false), .lit (.bool false)]], .agg [.lit (.string [115, 121, 109, 109, 101, 116, 114, 105, 99]), .agg [.lit (.int .i64 4), .lit (.int .i64 0), .lit (.int .i64 0), .lit (.int .i64 2), .lit (.bool false), .lit (.bool false), .lit (.bool false)]], .agg [.lit (.string [104, 111, 114, 105, 122, 111, 110, 116, 97, 108]), .agg [.lit (.int .i64 2), .lit (.int .i64 0), .lit (.int .i64 0), .lit (.int .i64 1), .lit (.bool false), .lit (.bool false), .lit (.bool false)]], .agg [.lit (.string [118, 101, 114, 116, 105, 99, 97, 108]), .agg [.lit (.int .i64 2), .lit (.int .i64 0), .lit (.int .i64 0), .lit (.int .i64 1), .lit (.bool false), .lit (.bool false), .lit (.bool false)]], .agg [.lit (.string [111, 110, 99, 105, 114, 99, 108, 101]), .agg [.lit (.int .i64 1), .lit (.int .i64 1), .lit (.int .i64 0), .lit (.int .i64 1), .lit (.bool false), .lit (.bool false), .lit (.bool false)]], .agg [.lit (.string [114, 97, 100, 105, 117, 115]), .agg [.lit (.int .i64 0), .lit (.int .i64 1), .lit (.int .i64 1), .lit (.int .i64 1), .lit (.bool false), .lit (.bool true), .lit (.bool true)]], .agg [.lit (.string [115, 97, 109, 101, 114, 97, 100, 105, 117, 115]), .agg [.lit (.int .i64 0), .lit (.int .i64 2), .lit (.int .i64 0), .lit (.int .i64 1), .lit (.bool false), .lit (.bool false), .lit (.bool false)]], .agg [.lit (.string [116, 97, 110, 103, 101, 110, 116, 108, 105, 110, 101]), .agg [.lit (.int .i64 2), .lit (.int .i64 1), .lit (.int .i64 0), .lit (.int .i64 1), .lit (.bool true), .lit (.bool false), .lit (.bool false)]], .agg [.lit (.string [116, 97, 110, 103, 101, 110, 116, 99, 105, 114, 99, 108, 101]), .agg [.lit (.int .i64 0), .lit (.int .i64 2), .lit (.int .i64 0), .lit (.int .i64 1), .lit (.bool true), .lit (.bool false), .lit (.bool false)]]]
def laid_setsquare_plan_uses {H : Type} : DataW H := .agg [.lit (.int .i64 0), .lit (.int .i64 0), .lit (.int .i64 1), .lit (.int .i64 2), .lit (.int .i64 1), .lit (.int .i64 0), .lit (.int .i64 1)]

/-- 'setsquarelaw39.HennebergPeel': WHATEVER THE INPUT: true; the input reads as it did. -/
def hennebergPeelSpec : ChangeSpec := { name := "hennebergPeel", fn := fun _ => fun
  | [d] => { results := [.lit (.bool true)], args := [d] }
  | _ => none }
def hennebergPeelRow : OpenClaim := { program := "ythifcokendanpaagreatdoor", sum := "7efc384b4fc4083333c9102aaa7a841955d233dda0da5d80a0cd22cf17337846", func := "setsquare/setsquarelaw39.HennebergPeel", spec := "hennebergPeel", inPlace := ["internal/abi.NoEscape", "internal/bytealg.MakeNoZero"], unfollowed := true, recurses := true, named := ["setsquare/constraint.table", "setsquare/formula.operands", "internal/strconv.uint64pow10", "math/bits.deBruijn32tab", "math/bits.deBruijn64tab"], loops := true, apart := false, laid := [("math/bits.deBruijn32tab", laid_math_bits_deBruijn32tab), ("math/bits.deBruijn64tab", laid_math_bits_deBruijn64tab), ("internal/strconv.uint64pow10", laid_internal_strconv_uint64pow10), ("setsquare/formula.operands", laid_setsquare_formula_operands), ("setsquare/constraint.table", laid_setsquare_constraint_table)] }
def HennebergPeelSaid : Prop := hennebergPeelRow.holds Tryz.pinned (OpenSpec.ofChange hennebergPeelSpec)

/-- ITS FALSE NEIGHBOUR: 'it returns false'. Refute it at one input. -/
def hennebergPeelWrong : ChangeSpec := { name := "hennebergPeel", fn := fun _ => fun
  | [d] => { results := [.lit (.bool false)], args := [d] }
  | _ => none }
def HennebergPeelWrongFalsely : Prop := hennebergPeelRow.holds Tryz.pinned (OpenSpec.ofChange hennebergPeelWrong)

/-- 'setsquarelaw39.HennebergPlan': WHATEVER THE INPUT: true; the input reads as it did. -/
def hennebergPlanSpec : ChangeSpec := { name := "hennebergPlan", fn := fun _ => fun
  | [d] => { results := [.lit (.bool true)], args := [d] }
  | _ => none }
def hennebergPlanRow : OpenClaim := { program := "ythifcokendanpaagreatdoor", sum := "7efc384b4fc4083333c9102aaa7a841955d233dda0da5d80a0cd22cf17337846", func := "setsquare/setsquarelaw39.HennebergPlan", spec := "hennebergPlan", inPlace := ["internal/abi.NoEscape", "internal/bytealg.MakeNoZero"], unfollowed := true, recurses := true, named := ["setsquare/constraint.table", "setsquare/formula.operands", "internal/strconv.uint64pow10", "math/bits.deBruijn32tab", "math/bits.deBruijn64tab"], loops := true, apart := false, laid := [("math/bits.deBruijn32tab", laid_math_bits_deBruijn32tab), ("math/bits.deBruijn64tab", laid_math_bits_deBruijn64tab), ("internal/strconv.uint64pow10", laid_internal_strconv_uint64pow10), ("setsquare/formula.operands", laid_setsquare_formula_operands), ("setsquare/constraint.table", laid_setsquare_constraint_table)] }
def HennebergPlanSaid : Prop := hennebergPlanRow.holds Tryz.pinned (OpenSpec.ofChange hennebergPlanSpec)

/-- ITS FALSE NEIGHBOUR: 'it returns false'. Refute it at one input. -/
def hennebergPlanWrong : ChangeSpec := { name := "hennebergPlan", fn := fun _ => fun
  | [d] => { results := [.lit (.bool false)], args := [d] }
  | _ => none }
def HennebergPlanWrongFalsely : Prop := hennebergPlanRow.holds Tryz.pinned (OpenSpec.ofChange hennebergPlanWrong)

/-- 'setsquarelaw39.HennebergOrder': WHATEVER THE INPUT: true; the input reads as it did. -/
def hennebergOrderSpec : ChangeSpec := { name := "hennebergOrder", fn := fun _ => fun
  | [d1, d2] => { results := [.lit (.bool true)], args := [d1, d2] }
  | _ => none }
def hennebergOrderRow : OpenClaim := { program := "ythifcokendanpaagreatdoor", sum := "7efc384b4fc4083333c9102aaa7a841955d233dda0da5d80a0cd22cf17337846", func := "setsquare/setsquarelaw39.HennebergOrder", spec := "hennebergOrder", inPlace := ["internal/abi.NoEscape", "internal/bytealg.MakeNoZero"], unfollowed := true, recurses := true, named := ["setsquare/constraint.table", "setsquare/formula.operands", "internal/strconv.uint64pow10", "math/bits.deBruijn32tab", "math/bits.deBruijn64tab"], loops := true, apart := false, laid := [("math/bits.deBruijn32tab", laid_math_bits_deBruijn32tab), ("math/bits.deBruijn64tab", laid_math_bits_deBruijn64tab), ("internal/strconv.uint64pow10", laid_internal_strconv_uint64pow10), ("setsquare/formula.operands", laid_setsquare_formula_operands), ("setsquare/constraint.table", laid_setsquare_constraint_table)] }
def HennebergOrderSaid : Prop := hennebergOrderRow.holds Tryz.pinned (OpenSpec.ofChange hennebergOrderSpec)

/-- ITS FALSE NEIGHBOUR: 'it returns false'. Refute it at one input. -/
def hennebergOrderWrong : ChangeSpec := { name := "hennebergOrder", fn := fun _ => fun
  | [d1, d2] => { results := [.lit (.bool false)], args := [d1, d2] }
  | _ => none }
def HennebergOrderWrongFalsely : Prop := hennebergOrderRow.holds Tryz.pinned (OpenSpec.ofChange hennebergOrderWrong)

/-- 'setsquarelaw39.HennebergRemovable': WHATEVER THE INPUT: true; the input reads as it did. -/
def hennebergRemovableSpec : ChangeSpec := { name := "hennebergRemovable", fn := fun _ => fun
  | [d1, d2, d3] => { results := [.lit (.bool true)], args := [d1, d2, d3] }
  | _ => none }
def hennebergRemovableRow : OpenClaim := { program := "ythifcokendanpaagreatdoor", sum := "7efc384b4fc4083333c9102aaa7a841955d233dda0da5d80a0cd22cf17337846", func := "setsquare/setsquarelaw39.HennebergRemovable", spec := "hennebergRemovable", inPlace := ["internal/abi.NoEscape", "internal/bytealg.MakeNoZero"], unfollowed := true, recurses := true, named := ["setsquare/constraint.table", "setsquare/formula.operands", "internal/strconv.uint64pow10", "math/bits.deBruijn32tab", "math/bits.deBruijn64tab"], loops := true, apart := false, laid := [("math/bits.deBruijn32tab", laid_math_bits_deBruijn32tab), ("math/bits.deBruijn64tab", laid_math_bits_deBruijn64tab), ("internal/strconv.uint64pow10", laid_internal_strconv_uint64pow10), ("setsquare/formula.operands", laid_setsquare_formula_operands), ("setsquare/constraint.table", laid_setsquare_constraint_table)] }
def HennebergRemovableSaid : Prop := hennebergRemovableRow.holds Tryz.pinned (OpenSpec.ofChange hennebergRemovableSpec)

/-- ITS FALSE NEIGHBOUR: 'it returns false'. Refute it at one input. -/
def hennebergRemovableWrong : ChangeSpec := { name := "hennebergRemovable", fn := fun _ => fun
  | [d1, d2, d3] => { results := [.lit (.bool false)], args := [d1, d2, d3] }
  | _ => none }
def HennebergRemovableWrongFalsely : Prop := hennebergRemovableRow.holds Tryz.pinned (OpenSpec.ofChange hennebergRemovableWrong)

/-- 'setsquarelaw39.HennebergMonotonic': WHATEVER THE INPUT: true; the input reads as it did. -/
def hennebergMonotonicSpec : ChangeSpec := { name := "hennebergMonotonic", fn := fun _ => fun
  | [d1, d2, d3] => { results := [.lit (.bool true)], args := [d1, d2, d3] }
  | _ => none }
def hennebergMonotonicRow : OpenClaim := { program := "ythifcokendanpaagreatdoor", sum := "7efc384b4fc4083333c9102aaa7a841955d233dda0da5d80a0cd22cf17337846", func := "setsquare/setsquarelaw39.HennebergMonotonic", spec := "hennebergMonotonic", inPlace := ["internal/abi.NoEscape", "internal/bytealg.MakeNoZero"], unfollowed := true, recurses := true, named := ["setsquare/constraint.table", "setsquare/formula.operands", "internal/strconv.uint64pow10", "math/bits.deBruijn32tab", "math/bits.deBruijn64tab"], loops := true, apart := false, laid := [("math/bits.deBruijn32tab", laid_math_bits_deBruijn32tab), ("math/bits.deBruijn64tab", laid_math_bits_deBruijn64tab), ("internal/strconv.uint64pow10", laid_internal_strconv_uint64pow10), ("setsquare/formula.operands", laid_setsquare_formula_operands), ("setsquare/constraint.table", laid_setsquare_constraint_table)] }
def HennebergMonotonicSaid : Prop := hennebergMonotonicRow.holds Tryz.pinned (OpenSpec.ofChange hennebergMonotonicSpec)

/-- ITS FALSE NEIGHBOUR: 'it returns false'. Refute it at one input. -/
def hennebergMonotonicWrong : ChangeSpec := { name := "hennebergMonotonic", fn := fun _ => fun
  | [d1, d2, d3] => { results := [.lit (.bool false)], args := [d1, d2, d3] }
  | _ => none }
def HennebergMonotonicWrongFalsely : Prop := hennebergMonotonicRow.holds Tryz.pinned (OpenSpec.ofChange hennebergMonotonicWrong)

/-- 'setsquarelaw39.HennebergWeight': WHATEVER THE INPUT: true; the input reads as it did. -/
def hennebergWeightSpec : ChangeSpec := { name := "hennebergWeight", fn := fun _ => fun
  | [d1, d2, d3] => { results := [.lit (.bool true)], args := [d1, d2, d3] }
  | _ => none }
def hennebergWeightRow : OpenClaim := { program := "ythifcokendanpaagreatdoor", sum := "7efc384b4fc4083333c9102aaa7a841955d233dda0da5d80a0cd22cf17337846", func := "setsquare/setsquarelaw39.HennebergWeight", spec := "hennebergWeight", inPlace := ["internal/abi.NoEscape", "internal/bytealg.MakeNoZero"], unfollowed := true, recurses := true, named := ["setsquare/constraint.table", "setsquare/formula.operands", "internal/strconv.uint64pow10", "math/bits.deBruijn32tab", "math/bits.deBruijn64tab"], loops := true, apart := false, laid := [("math/bits.deBruijn32tab", laid_math_bits_deBruijn32tab), ("math/bits.deBruijn64tab", laid_math_bits_deBruijn64tab), ("internal/strconv.uint64pow10", laid_internal_strconv_uint64pow10), ("setsquare/formula.operands", laid_setsquare_formula_operands), ("setsquare/constraint.table", laid_setsquare_constraint_table)] }
def HennebergWeightSaid : Prop := hennebergWeightRow.holds Tryz.pinned (OpenSpec.ofChange hennebergWeightSpec)

/-- ITS FALSE NEIGHBOUR: 'it returns false'. Refute it at one input. -/
def hennebergWeightWrong : ChangeSpec := { name := "hennebergWeight", fn := fun _ => fun
  | [d1, d2, d3] => { results := [.lit (.bool false)], args := [d1, d2, d3] }
  | _ => none }
def HennebergWeightWrongFalsely : Prop := hennebergWeightRow.holds Tryz.pinned (OpenSpec.ofChange hennebergWeightWrong)

/-- 'setsquarelaw41.CoreItems': WHATEVER THE INPUT: true; the input reads as it did. -/
def coreItemsSpec : ChangeSpec := { name := "coreItems", fn := fun _ => fun
  | [d] => { results := [.lit (.bool true)], args := [d] }
  | _ => none }
def coreItemsRow : OpenClaim := { program := "ythifcokendanpaagreatdoor", sum := "7efc384b4fc4083333c9102aaa7a841955d233dda0da5d80a0cd22cf17337846", func := "setsquare/setsquarelaw41.CoreItems", spec := "coreItems", inPlace := ["internal/abi.NoEscape", "internal/bytealg.MakeNoZero"], unfollowed := true, recurses := true, named := ["setsquare/constraint.table", "setsquare/formula.operands", "internal/strconv.uint64pow10", "math/bits.deBruijn32tab", "math/bits.deBruijn64tab"], loops := true, apart := false, laid := [("math/bits.deBruijn32tab", laid_math_bits_deBruijn32tab), ("math/bits.deBruijn64tab", laid_math_bits_deBruijn64tab), ("internal/strconv.uint64pow10", laid_internal_strconv_uint64pow10), ("setsquare/formula.operands", laid_setsquare_formula_operands), ("setsquare/constraint.table", laid_setsquare_constraint_table)] }
def CoreItemsSaid : Prop := coreItemsRow.holds Tryz.pinned (OpenSpec.ofChange coreItemsSpec)

/-- ITS FALSE NEIGHBOUR: 'it returns false'. Refute it at one input. -/
def coreItemsWrong : ChangeSpec := { name := "coreItems", fn := fun _ => fun
  | [d] => { results := [.lit (.bool false)], args := [d] }
  | _ => none }
def CoreItemsWrongFalsely : Prop := coreItemsRow.holds Tryz.pinned (OpenSpec.ofChange coreItemsWrong)

/-- 'setsquarelaw41.CoreShrinks': WHATEVER THE INPUT: true; the input reads as it did. -/
def coreShrinksSpec : ChangeSpec := { name := "coreShrinks", fn := fun _ => fun
  | [d1, d2] => { results := [.lit (.bool true)], args := [d1, d2] }
  | _ => none }
def coreShrinksRow : OpenClaim := { program := "ythifcokendanpaagreatdoor", sum := "7efc384b4fc4083333c9102aaa7a841955d233dda0da5d80a0cd22cf17337846", func := "setsquare/setsquarelaw41.CoreShrinks", spec := "coreShrinks", inPlace := ["internal/abi.NoEscape", "internal/bytealg.MakeNoZero"], unfollowed := true, recurses := true, named := ["setsquare/constraint.table", "setsquare/formula.operands", "internal/strconv.uint64pow10", "math/bits.deBruijn32tab", "math/bits.deBruijn64tab"], loops := true, apart := false, laid := [("math/bits.deBruijn32tab", laid_math_bits_deBruijn32tab), ("math/bits.deBruijn64tab", laid_math_bits_deBruijn64tab), ("internal/strconv.uint64pow10", laid_internal_strconv_uint64pow10), ("setsquare/formula.operands", laid_setsquare_formula_operands), ("setsquare/constraint.table", laid_setsquare_constraint_table)] }
def CoreShrinksSaid : Prop := coreShrinksRow.holds Tryz.pinned (OpenSpec.ofChange coreShrinksSpec)

/-- ITS FALSE NEIGHBOUR: 'it returns false'. Refute it at one input. -/
def coreShrinksWrong : ChangeSpec := { name := "coreShrinks", fn := fun _ => fun
  | [d1, d2] => { results := [.lit (.bool false)], args := [d1, d2] }
  | _ => none }
def CoreShrinksWrongFalsely : Prop := coreShrinksRow.holds Tryz.pinned (OpenSpec.ofChange coreShrinksWrong)

/-- 'setsquarelaw41.CoreGraph': WHATEVER THE INPUT: true; the input reads as it did. -/
def coreGraphSpec : ChangeSpec := { name := "coreGraph", fn := fun _ => fun
  | [d] => { results := [.lit (.bool true)], args := [d] }
  | _ => none }
def coreGraphRow : OpenClaim := { program := "ythifcokendanpaagreatdoor", sum := "7efc384b4fc4083333c9102aaa7a841955d233dda0da5d80a0cd22cf17337846", func := "setsquare/setsquarelaw41.CoreGraph", spec := "coreGraph", inPlace := ["internal/abi.NoEscape", "internal/bytealg.MakeNoZero"], unfollowed := true, recurses := true, named := ["setsquare/constraint.table", "setsquare/formula.operands", "internal/strconv.uint64pow10", "math/bits.deBruijn32tab", "math/bits.deBruijn64tab"], apart := false, laid := [("math/bits.deBruijn32tab", laid_math_bits_deBruijn32tab), ("math/bits.deBruijn64tab", laid_math_bits_deBruijn64tab), ("internal/strconv.uint64pow10", laid_internal_strconv_uint64pow10), ("setsquare/formula.operands", laid_setsquare_formula_operands), ("setsquare/constraint.table", laid_setsquare_constraint_table)] }
def CoreGraphSaid : Prop := coreGraphRow.holds Tryz.pinned (OpenSpec.ofChange coreGraphSpec)

/-- ITS FALSE NEIGHBOUR: 'it returns false'. Refute it at one input. -/
def coreGraphWrong : ChangeSpec := { name := "coreGraph", fn := fun _ => fun
  | [d] => { results := [.lit (.bool false)], args := [d] }
  | _ => none }
def CoreGraphWrongFalsely : Prop := coreGraphRow.holds Tryz.pinned (OpenSpec.ofChange coreGraphWrong)

/-- 'setsquarelaw41.CoreBars': WHATEVER THE INPUT: true; the input reads as it did. -/
def coreBarsSpec : ChangeSpec := { name := "coreBars", fn := fun _ => fun
  | [d] => { results := [.lit (.bool true)], args := [d] }
  | _ => none }
def coreBarsRow : OpenClaim := { program := "ythifcokendanpaagreatdoor", sum := "7efc384b4fc4083333c9102aaa7a841955d233dda0da5d80a0cd22cf17337846", func := "setsquare/setsquarelaw41.CoreBars", spec := "coreBars", inPlace := ["internal/abi.NoEscape", "internal/bytealg.MakeNoZero"], unfollowed := true, recurses := true, named := ["setsquare/constraint.table", "setsquare/formula.operands", "internal/strconv.uint64pow10", "math/bits.deBruijn32tab", "math/bits.deBruijn64tab"], apart := false, laid := [("math/bits.deBruijn32tab", laid_math_bits_deBruijn32tab), ("math/bits.deBruijn64tab", laid_math_bits_deBruijn64tab), ("internal/strconv.uint64pow10", laid_internal_strconv_uint64pow10), ("setsquare/formula.operands", laid_setsquare_formula_operands), ("setsquare/constraint.table", laid_setsquare_constraint_table)] }
def CoreBarsSaid : Prop := coreBarsRow.holds Tryz.pinned (OpenSpec.ofChange coreBarsSpec)

/-- ITS FALSE NEIGHBOUR: 'it returns false'. Refute it at one input. -/
def coreBarsWrong : ChangeSpec := { name := "coreBars", fn := fun _ => fun
  | [d] => { results := [.lit (.bool false)], args := [d] }
  | _ => none }
def CoreBarsWrongFalsely : Prop := coreBarsRow.holds Tryz.pinned (OpenSpec.ofChange coreBarsWrong)

/-- 'setsquarelaw39.HennebergUses': WHATEVER THE INPUT: true; the input reads as it did. -/
def hennebergUsesSpec : ChangeSpec := { name := "hennebergUses", fn := fun _ => fun
  | [d] => { results := [.lit (.bool true)], args := [d] }
  | _ => none }
def hennebergUsesRow : OpenClaim := { program := "ythifcokendanpaagreatdoor", sum := "7efc384b4fc4083333c9102aaa7a841955d233dda0da5d80a0cd22cf17337846", func := "setsquare/setsquarelaw39.HennebergUses", spec := "hennebergUses", inPlace := ["internal/abi.NoEscape", "internal/bytealg.MakeNoZero"], unfollowed := true, recurses := true, named := ["setsquare/constraint.table", "setsquare/formula.operands", "internal/strconv.uint64pow10", "math/bits.deBruijn32tab", "math/bits.deBruijn64tab", "setsquare/plan.uses"], loops := true, apart := false, laid := [("math/bits.deBruijn32tab", laid_math_bits_deBruijn32tab), ("math/bits.deBruijn64tab", laid_math_bits_deBruijn64tab), ("internal/strconv.uint64pow10", laid_internal_strconv_uint64pow10), ("setsquare/formula.operands", laid_setsquare_formula_operands), ("setsquare/constraint.table", laid_setsquare_constraint_table), ("setsquare/plan.uses", laid_setsquare_plan_uses)] }
def HennebergUsesSaid : Prop := hennebergUsesRow.holds Tryz.pinned (OpenSpec.ofChange hennebergUsesSpec)

/-- ITS FALSE NEIGHBOUR: 'it returns false'. Refute it at one input. -/
def hennebergUsesWrong : ChangeSpec := { name := "hennebergUses", fn := fun _ => fun
  | [d] => { results := [.lit (.bool false)], args := [d] }
  | _ => none }
def HennebergUsesWrongFalsely : Prop := hennebergUsesRow.holds Tryz.pinned (OpenSpec.ofChange hennebergUsesWrong)

/-- 'setsquarelaw41.CoreValid': WHATEVER THE INPUT: true; the input reads as it did. -/
def coreValidSpec : ChangeSpec := { name := "coreValid", fn := fun _ => fun
  | [d1, d2] => { results := [.lit (.bool true)], args := [d1, d2] }
  | _ => none }
def coreValidRow : OpenClaim := { program := "ythifcokendanpaagreatdoor", sum := "7efc384b4fc4083333c9102aaa7a841955d233dda0da5d80a0cd22cf17337846", func := "setsquare/setsquarelaw41.CoreValid", spec := "coreValid", inPlace := ["internal/abi.NoEscape", "internal/bytealg.MakeNoZero"], unfollowed := true, recurses := true, named := ["setsquare/constraint.table", "setsquare/formula.operands", "internal/strconv.uint64pow10", "math/bits.deBruijn32tab", "math/bits.deBruijn64tab"], loops := true, apart := false, laid := [("math/bits.deBruijn32tab", laid_math_bits_deBruijn32tab), ("math/bits.deBruijn64tab", laid_math_bits_deBruijn64tab), ("internal/strconv.uint64pow10", laid_internal_strconv_uint64pow10), ("setsquare/formula.operands", laid_setsquare_formula_operands), ("setsquare/constraint.table", laid_setsquare_constraint_table)] }
def CoreValidSaid : Prop := coreValidRow.holds Tryz.pinned (OpenSpec.ofChange coreValidSpec)

/-- ITS FALSE NEIGHBOUR: 'it returns false'. Refute it at one input. -/
def coreValidWrong : ChangeSpec := { name := "coreValid", fn := fun _ => fun
  | [d1, d2] => { results := [.lit (.bool false)], args := [d1, d2] }
  | _ => none }
def CoreValidWrongFalsely : Prop := coreValidRow.holds Tryz.pinned (OpenSpec.ofChange coreValidWrong)

/-- 'setsquarelaw41.CoreGreatest': WHATEVER THE INPUT: true; the input reads as it did. -/
def coreGreatestSpec : ChangeSpec := { name := "coreGreatest", fn := fun _ => fun
  | [d1, d2] => { results := [.lit (.bool true)], args := [d1, d2] }
  | _ => none }
def coreGreatestRow : OpenClaim := { program := "ythifcokendanpaagreatdoor", sum := "7efc384b4fc4083333c9102aaa7a841955d233dda0da5d80a0cd22cf17337846", func := "setsquare/setsquarelaw41.CoreGreatest", spec := "coreGreatest", inPlace := ["internal/abi.NoEscape", "internal/bytealg.MakeNoZero"], unfollowed := true, recurses := true, named := ["setsquare/constraint.table", "setsquare/formula.operands", "internal/strconv.uint64pow10", "math/bits.deBruijn32tab", "math/bits.deBruijn64tab"], loops := true, apart := false, laid := [("math/bits.deBruijn32tab", laid_math_bits_deBruijn32tab), ("math/bits.deBruijn64tab", laid_math_bits_deBruijn64tab), ("internal/strconv.uint64pow10", laid_internal_strconv_uint64pow10), ("setsquare/formula.operands", laid_setsquare_formula_operands), ("setsquare/constraint.table", laid_setsquare_constraint_table)] }
def CoreGreatestSaid : Prop := coreGreatestRow.holds Tryz.pinned (OpenSpec.ofChange coreGreatestSpec)

/-- ITS FALSE NEIGHBOUR: 'it returns false'. Refute it at one input. -/
def coreGreatestWrong : ChangeSpec := { name := "coreGreatest", fn := fun _ => fun
  | [d1, d2] => { results := [.lit (.bool false)], args := [d1, d2] }
  | _ => none }
def CoreGreatestWrongFalsely : Prop := coreGreatestRow.holds Tryz.pinned (OpenSpec.ofChange coreGreatestWrong)

/-- 'setsquarelaw41.CoreFrozen': WHATEVER THE INPUT: true; the input reads as it did. -/
def coreFrozenSpec : ChangeSpec := { name := "coreFrozen", fn := fun _ => fun
  | [d] => { results := [.lit (.bool true)], args := [d] }
  | _ => none }
def coreFrozenRow : OpenClaim := { program := "ythifcokendanpaagreatdoor", sum := "7efc384b4fc4083333c9102aaa7a841955d233dda0da5d80a0cd22cf17337846", func := "setsquare/setsquarelaw41.CoreFrozen", spec := "coreFrozen", inPlace := ["internal/abi.NoEscape", "internal/bytealg.MakeNoZero"], unfollowed := true, recurses := true, named := ["setsquare/constraint.table", "setsquare/formula.operands", "internal/strconv.uint64pow10", "math/bits.deBruijn32tab", "math/bits.deBruijn64tab"], loops := true, apart := false, laid := [("math/bits.deBruijn32tab", laid_math_bits_deBruijn32tab), ("math/bits.deBruijn64tab", laid_math_bits_deBruijn64tab), ("internal/strconv.uint64pow10", laid_internal_strconv_uint64pow10), ("setsquare/formula.operands", laid_setsquare_formula_operands), ("setsquare/constraint.table", laid_setsquare_constraint_table)] }
def CoreFrozenSaid : Prop := coreFrozenRow.holds Tryz.pinned (OpenSpec.ofChange coreFrozenSpec)

/-- ITS FALSE NEIGHBOUR: 'it returns false'. Refute it at one input. -/
def coreFrozenWrong : ChangeSpec := { name := "coreFrozen", fn := fun _ => fun
  | [d] => { results := [.lit (.bool false)], args := [d] }
  | _ => none }
def CoreFrozenWrongFalsely : Prop := coreFrozenRow.holds Tryz.pinned (OpenSpec.ofChange coreFrozenWrong)

/- THE SECOND FORM. 'bulk': how many values and letters a reading holds, each counted each time it is reached (what is shared counts as often as it is met; a slice's spare places count too). A statement '..UptoSaid' is the law's where the arguments, and the package variables that the reading takes, are together of bulk at most 1048576: NARROWER than '..Said'. Prove '..Said' where nothing that the law and all that it calls make is longer than what came in: it says more and counts as full. Else prove '..UptoSaid'. A law counts once. -/
mutual
def uptoBulk {H : Type} : DataW H → Nat
  | .lit (.string bytes) => bytes.length + 1
  | .lit _ => 1
  | .nil => 1
  | .ptr d => uptoBulk d + 1
  | .slice elems spare => uptoBulkAll elems + uptoBulkAll spare + 1
  | .agg parts => uptoBulkAll parts + 1
  | .iface _ d => uptoBulk d + 1
  | .map entries => uptoBulkEntries entries + 1
  | .held _ => 1
def uptoBulkAll {H : Type} : List (DataW H) → Nat
  | [] => 0
  | d :: r => uptoBulk d + uptoBulkAll r
def uptoBulkEntries {H : Type} : List (Lit × DataW H) → Nat
  | [] => 0
  | x :: r => uptoBulkEntry x + uptoBulkEntries r
def uptoBulkEntry {H : Type} : Lit × DataW H → Nat
  | (.string bytes, d) => bytes.length + uptoBulk d + 1
  | (_, d) => uptoBulk d + 1
 end
def uptoSmall : (H : Type) → List (DataW H) → Bool := fun _ ds => decide (uptoBulkAll ds ≤ 1048576)
def OpenSpec.upto (s : _root_.Go.ChangeSpec) : _root_.Go.OpenSpec := { _root_.Go.OpenSpec.ofChange s with cond := some uptoSmall }

/-- 'setsquarelaw39.HennebergPeel', WHERE WHAT IT READS IS OF BULK AT MOST 1048576: true; the input reads as it did. -/
def hennebergPeelUptoRow : OpenClaim := { program := "ythifcokendanpaagreatdoor", sum := "7efc384b4fc4083333c9102aaa7a841955d233dda0da5d80a0cd22cf17337846", func := "setsquare/setsquarelaw39.HennebergPeel", spec := "hennebergPeel", inPlace := ["internal/abi.NoEscape", "internal/bytealg.MakeNoZero"], unfollowed := true, recurses := true, named := ["setsquare/constraint.table", "setsquare/formula.operands", "internal/strconv.uint64pow10", "math/bits.deBruijn32tab", "math/bits.deBruijn64tab"], loops := true, apart := false, laid := [("math/bits.deBruijn32tab", laid_math_bits_deBruijn32tab), ("math/bits.deBruijn64tab", laid_math_bits_deBruijn64tab), ("internal/strconv.uint64pow10", laid_internal_strconv_uint64pow10), ("setsquare/formula.operands", laid_setsquare_formula_operands), ("setsquare/constraint.table", laid_setsquare_constraint_table)], narrowed := true }
def HennebergPeelUptoSaid : Prop := hennebergPeelUptoRow.holds Tryz.pinned (OpenSpec.upto hennebergPeelSpec)

/-- 'setsquarelaw39.HennebergPlan', WHERE WHAT IT READS IS OF BULK AT MOST 1048576: true; the input reads as it did. -/
def hennebergPlanUptoRow : OpenClaim := { program := "ythifcokendanpaagreatdoor", sum := "7efc384b4fc4083333c9102aaa7a841955d233dda0da5d80a0cd22cf17337846", func := "setsquare/setsquarelaw39.HennebergPlan", spec := "hennebergPlan", inPlace := ["internal/abi.NoEscape", "internal/bytealg.MakeNoZero"], unfollowed := true, recurses := true, named := ["setsquare/constraint.table", "setsquare/formula.operands", "internal/strconv.uint64pow10", "math/bits.deBruijn32tab", "math/bits.deBruijn64tab"], loops := true, apart := false, laid := [("math/bits.deBruijn32tab", laid_math_bits_deBruijn32tab), ("math/bits.deBruijn64tab", laid_math_bits_deBruijn64tab), ("internal/strconv.uint64pow10", laid_internal_strconv_uint64pow10), ("setsquare/formula.operands", laid_setsquare_formula_operands), ("setsquare/constraint.table", laid_setsquare_constraint_table)], narrowed := true }
def HennebergPlanUptoSaid : Prop := hennebergPlanUptoRow.holds Tryz.pinned (OpenSpec.upto hennebergPlanSpec)

/-- 'setsquarelaw39.HennebergOrder', WHERE WHAT IT READS IS OF BULK AT MOST 1048576: true; the input reads as it did. -/
def hennebergOrderUptoRow : OpenClaim := { program := "ythifcokendanpaagreatdoor", sum := "7efc384b4fc4083333c9102aaa7a841955d233dda0da5d80a0cd22cf17337846", func := "setsquare/setsquarelaw39.HennebergOrder", spec := "hennebergOrder", inPlace := ["internal/abi.NoEscape", "internal/bytealg.MakeNoZero"], unfollowed := true, recurses := true, named := ["setsquare/constraint.table", "setsquare/formula.operands", "internal/strconv.uint64pow10", "math/bits.deBruijn32tab", "math/bits.deBruijn64tab"], loops := true, apart := false, laid := [("math/bits.deBruijn32tab", laid_math_bits_deBruijn32tab), ("math/bits.deBruijn64tab", laid_math_bits_deBruijn64tab), ("internal/strconv.uint64pow10", laid_internal_strconv_uint64pow10), ("setsquare/formula.operands", laid_setsquare_formula_operands), ("setsquare/constraint.table", laid_setsquare_constraint_table)], narrowed := true }
def HennebergOrderUptoSaid : Prop := hennebergOrderUptoRow.holds Tryz.pinned (OpenSpec.upto hennebergOrderSpec)

/-- 'setsquarelaw39.HennebergRemovable', WHERE WHAT IT READS IS OF BULK AT MOST 1048576: true; the input reads as it did. -/
def hennebergRemovableUptoRow : OpenClaim := { program := "ythifcokendanpaagreatdoor", sum := "7efc384b4fc4083333c9102aaa7a841955d233dda0da5d80a0cd22cf17337846", func := "setsquare/setsquarelaw39.HennebergRemovable", spec := "hennebergRemovable", inPlace := ["internal/abi.NoEscape", "internal/bytealg.MakeNoZero"], unfollowed := true, recurses := true, named := ["setsquare/constraint.table", "setsquare/formula.operands", "internal/strconv.uint64pow10", "math/bits.deBruijn32tab", "math/bits.deBruijn64tab"], loops := true, apart := false, laid := [("math/bits.deBruijn32tab", laid_math_bits_deBruijn32tab), ("math/bits.deBruijn64tab", laid_math_bits_deBruijn64tab), ("internal/strconv.uint64pow10", laid_internal_strconv_uint64pow10), ("setsquare/formula.operands", laid_setsquare_formula_operands), ("setsquare/constraint.table", laid_setsquare_constraint_table)], narrowed := true }
def HennebergRemovableUptoSaid : Prop := hennebergRemovableUptoRow.holds Tryz.pinned (OpenSpec.upto hennebergRemovableSpec)

/-- 'setsquarelaw39.HennebergMonotonic', WHERE WHAT IT READS IS OF BULK AT MOST 1048576: true; the input reads as it did. -/
def hennebergMonotonicUptoRow : OpenClaim := { program := "ythifcokendanpaagreatdoor", sum := "7efc384b4fc4083333c9102aaa7a841955d233dda0da5d80a0cd22cf17337846", func := "setsquare/setsquarelaw39.HennebergMonotonic", spec := "hennebergMonotonic", inPlace := ["internal/abi.NoEscape", "internal/bytealg.MakeNoZero"], unfollowed := true, recurses := true, named := ["setsquare/constraint.table", "setsquare/formula.operands", "internal/strconv.uint64pow10", "math/bits.deBruijn32tab", "math/bits.deBruijn64tab"], loops := true, apart := false, laid := [("math/bits.deBruijn32tab", laid_math_bits_deBruijn32tab), ("math/bits.deBruijn64tab", laid_math_bits_deBruijn64tab), ("internal/strconv.uint64pow10", laid_internal_strconv_uint64pow10), ("setsquare/formula.operands", laid_setsquare_formula_operands), ("setsquare/constraint.table", laid_setsquare_constraint_table)], narrowed := true }
def HennebergMonotonicUptoSaid : Prop := hennebergMonotonicUptoRow.holds Tryz.pinned (OpenSpec.upto hennebergMonotonicSpec)

/-- 'setsquarelaw39.HennebergWeight', WHERE WHAT IT READS IS OF BULK AT MOST 1048576: true; the input reads as it did. -/
def hennebergWeightUptoRow : OpenClaim := { program := "ythifcokendanpaagreatdoor", sum := "7efc384b4fc4083333c9102aaa7a841955d233dda0da5d80a0cd22cf17337846", func := "setsquare/setsquarelaw39.HennebergWeight", spec := "hennebergWeight", inPlace := ["internal/abi.NoEscape", "internal/bytealg.MakeNoZero"], unfollowed := true, recurses := true, named := ["setsquare/constraint.table", "setsquare/formula.operands", "internal/strconv.uint64pow10", "math/bits.deBruijn32tab", "math/bits.deBruijn64tab"], loops := true, apart := false, laid := [("math/bits.deBruijn32tab", laid_math_bits_deBruijn32tab), ("math/bits.deBruijn64tab", laid_math_bits_deBruijn64tab), ("internal/strconv.uint64pow10", laid_internal_strconv_uint64pow10), ("setsquare/formula.operands", laid_setsquare_formula_operands), ("setsquare/constraint.table", laid_setsquare_constraint_table)], narrowed := true }
def HennebergWeightUptoSaid : Prop := hennebergWeightUptoRow.holds Tryz.pinned (OpenSpec.upto hennebergWeightSpec)

/-- 'setsquarelaw41.CoreItems', WHERE WHAT IT READS IS OF BULK AT MOST 1048576: true; the input reads as it did. -/
def coreItemsUptoRow : OpenClaim := { program := "ythifcokendanpaagreatdoor", sum := "7efc384b4fc4083333c9102aaa7a841955d233dda0da5d80a0cd22cf17337846", func := "setsquare/setsquarelaw41.CoreItems", spec := "coreItems", inPlace := ["internal/abi.NoEscape", "internal/bytealg.MakeNoZero"], unfollowed := true, recurses := true, named := ["setsquare/constraint.table", "setsquare/formula.operands", "internal/strconv.uint64pow10", "math/bits.deBruijn32tab", "math/bits.deBruijn64tab"], loops := true, apart := false, laid := [("math/bits.deBruijn32tab", laid_math_bits_deBruijn32tab), ("math/bits.deBruijn64tab", laid_math_bits_deBruijn64tab), ("internal/strconv.uint64pow10", laid_internal_strconv_uint64pow10), ("setsquare/formula.operands", laid_setsquare_formula_operands), ("setsquare/constraint.table", laid_setsquare_constraint_table)], narrowed := true }
def CoreItemsUptoSaid : Prop := coreItemsUptoRow.holds Tryz.pinned (OpenSpec.upto coreItemsSpec)

/-- 'setsquarelaw41.CoreShrinks', WHERE WHAT IT READS IS OF BULK AT MOST 1048576: true; the input reads as it did. -/
def coreShrinksUptoRow : OpenClaim := { program := "ythifcokendanpaagreatdoor", sum := "7efc384b4fc4083333c9102aaa7a841955d233dda0da5d80a0cd22cf17337846", func := "setsquare/setsquarelaw41.CoreShrinks", spec := "coreShrinks", inPlace := ["internal/abi.NoEscape", "internal/bytealg.MakeNoZero"], unfollowed := true, recurses := true, named := ["setsquare/constraint.table", "setsquare/formula.operands", "internal/strconv.uint64pow10", "math/bits.deBruijn32tab", "math/bits.deBruijn64tab"], loops := true, apart := false, laid := [("math/bits.deBruijn32tab", laid_math_bits_deBruijn32tab), ("math/bits.deBruijn64tab", laid_math_bits_deBruijn64tab), ("internal/strconv.uint64pow10", laid_internal_strconv_uint64pow10), ("setsquare/formula.operands", laid_setsquare_formula_operands), ("setsquare/constraint.table", laid_setsquare_constraint_table)], narrowed := true }
def CoreShrinksUptoSaid : Prop := coreShrinksUptoRow.holds Tryz.pinned (OpenSpec.upto coreShrinksSpec)

/-- 'setsquarelaw41.CoreGraph', WHERE WHAT IT READS IS OF BULK AT MOST 1048576: true; the input reads as it did. -/
def coreGraphUptoRow : OpenClaim := { program := "ythifcokendanpaagreatdoor", sum := "7efc384b4fc4083333c9102aaa7a841955d233dda0da5d80a0cd22cf17337846", func := "setsquare/setsquarelaw41.CoreGraph", spec := "coreGraph", inPlace := ["internal/abi.NoEscape", "internal/bytealg.MakeNoZero"], unfollowed := true, recurses := true, named := ["setsquare/constraint.table", "setsquare/formula.operands", "internal/strconv.uint64pow10", "math/bits.deBruijn32tab", "math/bits.deBruijn64tab"], apart := false, laid := [("math/bits.deBruijn32tab", laid_math_bits_deBruijn32tab), ("math/bits.deBruijn64tab", laid_math_bits_deBruijn64tab), ("internal/strconv.uint64pow10", laid_internal_strconv_uint64pow10), ("setsquare/formula.operands", laid_setsquare_formula_operands), ("setsquare/constraint.table", laid_setsquare_constraint_table)], narrowed := true }
def CoreGraphUptoSaid : Prop := coreGraphUptoRow.holds Tryz.pinned (OpenSpec.upto coreGraphSpec)

/-- 'setsquarelaw41.CoreBars', WHERE WHAT IT READS IS OF BULK AT MOST 1048576: true; the input reads as it did. -/
def coreBarsUptoRow : OpenClaim := { program := "ythifcokendanpaagreatdoor", sum := "7efc384b4fc4083333c9102aaa7a841955d233dda0da5d80a0cd22cf17337846", func := "setsquare/setsquarelaw41.CoreBars", spec := "coreBars", inPlace := ["internal/abi.NoEscape", "internal/bytealg.MakeNoZero"], unfollowed := true, recurses := true, named := ["setsquare/constraint.table", "setsquare/formula.operands", "internal/strconv.uint64pow10", "math/bits.deBruijn32tab", "math/bits.deBruijn64tab"], apart := false, laid := [("math/bits.deBruijn32tab", laid_math_bits_deBruijn32tab), ("math/bits.deBruijn64tab", laid_math_bits_deBruijn64tab), ("internal/strconv.uint64pow10", laid_internal_strconv_uint64pow10), ("setsquare/formula.operands", laid_setsquare_formula_operands), ("setsquare/constraint.table", laid_setsquare_constraint_table)], narrowed := true }
def CoreBarsUptoSaid : Prop := coreBarsUptoRow.holds Tryz.pinned (OpenSpec.upto coreBarsSpec)

/-- 'setsquarelaw39.HennebergUses', WHERE WHAT IT READS IS OF BULK AT MOST 1048576: true; the input reads as it did. -/
def hennebergUsesUptoRow : OpenClaim := { program := "ythifcokendanpaagreatdoor", sum := "7efc384b4fc4083333c9102aaa7a841955d233dda0da5d80a0cd22cf17337846", func := "setsquare/setsquarelaw39.HennebergUses", spec := "hennebergUses", inPlace := ["internal/abi.NoEscape", "internal/bytealg.MakeNoZero"], unfollowed := true, recurses := true, named := ["setsquare/constraint.table", "setsquare/formula.operands", "internal/strconv.uint64pow10", "math/bits.deBruijn32tab", "math/bits.deBruijn64tab", "setsquare/plan.uses"], loops := true, apart := false, laid := [("math/bits.deBruijn32tab", laid_math_bits_deBruijn32tab), ("math/bits.deBruijn64tab", laid_math_bits_deBruijn64tab), ("internal/strconv.uint64pow10", laid_internal_strconv_uint64pow10), ("setsquare/formula.operands", laid_setsquare_formula_operands), ("setsquare/constraint.table", laid_setsquare_constraint_table), ("setsquare/plan.uses", laid_setsquare_plan_uses)], narrowed := true }
def HennebergUsesUptoSaid : Prop := hennebergUsesUptoRow.holds Tryz.pinned (OpenSpec.upto hennebergUsesSpec)

/-- 'setsquarelaw41.CoreValid', WHERE WHAT IT READS IS OF BULK AT MOST 1048576: true; the input reads as it did. -/
def coreValidUptoRow : OpenClaim := { program := "ythifcokendanpaagreatdoor", sum := "7efc384b4fc4083333c9102aaa7a841955d233dda0da5d80a0cd22cf17337846", func := "setsquare/setsquarelaw41.CoreValid", spec := "coreValid", inPlace := ["internal/abi.NoEscape", "internal/bytealg.MakeNoZero"], unfollowed := true, recurses := true, named := ["setsquare/constraint.table", "setsquare/formula.operands", "internal/strconv.uint64pow10", "math/bits.deBruijn32tab", "math/bits.deBruijn64tab"], loops := true, apart := false, laid := [("math/bits.deBruijn32tab", laid_math_bits_deBruijn32tab), ("math/bits.deBruijn64tab", laid_math_bits_deBruijn64tab), ("internal/strconv.uint64pow10", laid_internal_strconv_uint64pow10), ("setsquare/formula.operands", laid_setsquare_formula_operands), ("setsquare/constraint.table", laid_setsquare_constraint_table)], narrowed := true }
def CoreValidUptoSaid : Prop := coreValidUptoRow.holds Tryz.pinned (OpenSpec.upto coreValidSpec)

/-- 'setsquarelaw41.CoreGreatest', WHERE WHAT IT READS IS OF BULK AT MOST 1048576: true; the input reads as it did. -/
def coreGreatestUptoRow : OpenClaim := { program := "ythifcokendanpaagreatdoor", sum := "7efc384b4fc4083333c9102aaa7a841955d233dda0da5d80a0cd22cf17337846", func := "setsquare/setsquarelaw41.CoreGreatest", spec := "coreGreatest", inPlace := ["internal/abi.NoEscape", "internal/bytealg.MakeNoZero"], unfollowed := true, recurses := true, named := ["setsquare/constraint.table", "setsquare/formula.operands", "internal/strconv.uint64pow10", "math/bits.deBruijn32tab", "math/bits.deBruijn64tab"], loops := true, apart := false, laid := [("math/bits.deBruijn32tab", laid_math_bits_deBruijn32tab), ("math/bits.deBruijn64tab", laid_math_bits_deBruijn64tab), ("internal/strconv.uint64pow10", laid_internal_strconv_uint64pow10), ("setsquare/formula.operands", laid_setsquare_formula_operands), ("setsquare/constraint.table", laid_setsquare_constraint_table)], narrowed := true }
def CoreGreatestUptoSaid : Prop := coreGreatestUptoRow.holds Tryz.pinned (OpenSpec.upto coreGreatestSpec)

/-- 'setsquarelaw41.CoreFrozen', WHERE WHAT IT READS IS OF BULK AT MOST 1048576: true; the input reads as it did. -/
def coreFrozenUptoRow : OpenClaim := { program := "ythifcokendanpaagreatdoor", sum := "7efc384b4fc4083333c9102aaa7a841955d233dda0da5d80a0cd22cf17337846", func := "setsquare/setsquarelaw41.CoreFrozen", spec := "coreFrozen", inPlace := ["internal/abi.NoEscape", "internal/bytealg.MakeNoZero"], unfollowed := true, recurses := true, named := ["setsquare/constraint.table", "setsquare/formula.operands", "internal/strconv.uint64pow10", "math/bits.deBruijn32tab", "math/bits.deBruijn64tab"], loops := true, apart := false, laid := [("math/bits.deBruijn32tab", laid_math_bits_deBruijn32tab), ("math/bits.deBruijn64tab", laid_math_bits_deBruijn64tab), ("internal/strconv.uint64pow10", laid_internal_strconv_uint64pow10), ("setsquare/formula.operands", laid_setsquare_formula_operands), ("setsquare/constraint.table", laid_setsquare_constraint_table)], narrowed := true }
def CoreFrozenUptoSaid : Prop := coreFrozenUptoRow.holds Tryz.pinned (OpenSpec.upto coreFrozenSpec)

end Rows
end Go.Proofs.YthifcokendanpaaGreatDoor
