/-
  Part 6 of the tools and contracts from which the statement is proved.
-/
import Derived.Test.YtnobfpkmhbmgbaaGreatPart5
import Derived.Test.YtnobfpkmhbmgbaaGreatProg
import Derived.Laws.Externs
import Derived.ProofKit
import Derived.ChangeSlices
import Derived.ChangeStays
import Derived.ChangeArms
import Derived.OpenShut
import Derived.Test.YtnobfpkmhbmgbaaGreatChecked
set_option linter.unusedVariables false
section
/- MADE BY fbuild.py: the entries of the functions. -/
set_option maxRecDepth 100000
set_option linter.unusedVariables false
namespace Den
open Go
noncomputable def A_interval_floor : ArgT (TRat × TInt × Unit) := (ArgT.cons tyTRat (ArgT.cons tyTInt ArgT.nil))
noncomputable def R_interval_floor : Ty TInt := tyTInt
noncomputable def e_interval_floor : FSem := mkE A_interval_floor R_interval_floor (fun a => F.interval_floor a.1 a.2.1)
noncomputable def c_interval_floor : Cfg := { P := Go.Proofs.Tryz.prog, n := 20, tab := [(64, e_integer_Mul), (103, e_integer_DivMod)], mutL := [], rtL := [(9, 2), (13, 2)], locL := [2, 3, 4, 5, 6] }
noncomputable def b_interval_floor : Code := match Go.Proofs.Tryz.f61.body with | some c => c | none => .skip
noncomputable def a_interval_floor : An := (.seq .leaf (.seq (.draw [0, 1, 2, 4, 5, 11, 12, 3, 6, 7, 8, 9, 10, 13, 14, 15]) (.seq .leaf .leaf)))
theorem t_interval_floor : Entry Go.Proofs.Tryz.prog 61 e_interval_floor false :=
  entry_of (C := c_interval_floor) (fn := Go.Proofs.Tryz.f61) (c := b_interval_floor) (an := a_interval_floor) ⟨t_integer_Mul, t_integer_DivMod, trivial⟩ trivial Go.Proofs.Tryz.func61 rfl rfl (by decide) (fun _ => rfl) (by intro a K D; kernel_rfl)
noncomputable def A_integer_Bits : ArgT (TInt × Unit) := (ArgT.cons tyTInt ArgT.nil)
noncomputable def R_integer_Bits : Ty Int := (Ty.leaf (.int .i64))
noncomputable def e_integer_Bits : FSem := mkE A_integer_Bits R_integer_Bits (fun a => F.integer_Bits a.1)
noncomputable def c_integer_Bits : Cfg := { P := Go.Proofs.Tryz.prog, n := 22, tab := [(98, e_integer_trim), (128, e_math_bits_Len32)], mutL := [], rtL := [(4, 1)], locL := [1] }
noncomputable def b_integer_Bits : Code := match Go.Proofs.Tryz.f95.body with | some c => c | none => .skip
noncomputable def a_integer_Bits : An := (.seq .leaf (.seq .leaf (.seq (.seq .leaf (.cond (.seq .leaf .leaf) .leaf)) (.seq .leaf .leaf))))
theorem t_integer_Bits : Entry Go.Proofs.Tryz.prog 95 e_integer_Bits false :=
  entry_of (C := c_integer_Bits) (fn := Go.Proofs.Tryz.f95) (c := b_integer_Bits) (an := a_integer_Bits) ⟨t_integer_trim, t_math_bits_Len32, trivial⟩ trivial Go.Proofs.Tryz.func95 rfl rfl (by decide) (fun _ => rfl) (by intro a K D; kernel_rfl)
noncomputable def A_integer_shifted : ArgT (Int × Unit) := (ArgT.cons (Ty.leaf (.int .i64)) ArgT.nil)
noncomputable def R_integer_shifted : Ty Sl := (Ty.leaf .sl)
noncomputable def e_integer_shifted : FSem := mkE A_integer_shifted R_integer_shifted (fun a => F.integer_shifted a.1)
noncomputable def c_integer_shifted : Cfg := { P := Go.Proofs.Tryz.prog, n := 16, tab := [], mutL := [], rtL := [], locL := [] }
noncomputable def b_integer_shifted : Code := match Go.Proofs.Tryz.f96.body with | some c => c | none => .skip
noncomputable def a_integer_shifted : An := (.seq .leaf (.seq .leaf (.seq .leaf (.seq .leaf .leaf))))
theorem t_integer_shifted : Entry Go.Proofs.Tryz.prog 96 e_integer_shifted false :=
  entry_of (C := c_integer_shifted) (fn := Go.Proofs.Tryz.f96) (c := b_integer_shifted) (an := a_integer_shifted) trivial trivial Go.Proofs.Tryz.func96 rfl rfl (by decide) (fun _ => rfl) (by intro a K D; kernel_rfl)
noncomputable def A_integer_half : ArgT (Sl × Unit) := (ArgT.cons (Ty.leaf .sl) ArgT.nil)
noncomputable def R_integer_half : Ty Sl := (Ty.leaf .sl)
noncomputable def e_integer_half : FSem := mkE A_integer_half R_integer_half (fun a => F.integer_half a.1)
noncomputable def c_integer_half : Cfg := { P := Go.Proofs.Tryz.prog, n := 6, tab := [(136, e_integer_shiftRight), (98, e_integer_trim)], mutL := [], rtL := [], locL := [] }
noncomputable def b_integer_half : Code := match Go.Proofs.Tryz.f99.body with | some c => c | none => .skip
noncomputable def a_integer_half : An := (.seq .leaf (.seq .leaf .leaf))
theorem t_integer_half : Entry Go.Proofs.Tryz.prog 99 e_integer_half false :=
  entry_of (C := c_integer_half) (fn := Go.Proofs.Tryz.f99) (c := b_integer_half) (an := a_integer_half) ⟨t_integer_shiftRight, t_integer_trim, trivial⟩ trivial Go.Proofs.Tryz.func99 rfl rfl (by decide) (fun _ => rfl) (by intro a K D; kernel_rfl)
noncomputable def A_integer_Sqrt : ArgT (TInt × Unit) := (ArgT.cons tyTInt ArgT.nil)
noncomputable def R_integer_Sqrt : Ty (TInt × Int) := (Ty.tup (.cons tyTInt (.cons (Ty.leaf (.int .i64)) .nil)) (fun x => (x.1, x.2, ())) (fun y => (y.1, y.2.1)) (fun _ => rfl) (fun _ => rfl))
noncomputable def e_integer_Sqrt : FSem := mkE A_integer_Sqrt R_integer_Sqrt (fun a => F.integer_Sqrt a.1)
noncomputable def c_integer_Sqrt : Cfg := { P := Go.Proofs.Tryz.prog, n := 42, tab := [(94, e_integer_Sign), (95, e_integer_Bits), (96, e_integer_shifted), (98, e_integer_trim), (97, e_integer_divide), (100, e_integer_plus), (99, e_integer_half), (101, e_integer_compare), (102, e_integer_signed)], mutL := [], rtL := [(24, 1)], locL := [1, 2] }
noncomputable def b_integer_Sqrt : Code := match Go.Proofs.Tryz.f60.body with | some c => c | none => .skip
noncomputable def a_integer_Sqrt : An := (.seq .leaf (.seq (.seq .leaf (.block (.seq .leaf (.cond (.seq .leaf .leaf) (.seq .leaf (.cond (.seq .leaf .leaf) .leaf)))))) (.seq .leaf (.seq .leaf (.block (.loop [(2, .box [.bool, .sl]), (5, .leaf (.sl))] (.block (.seq .leaf (.seq .leaf (.seq (.seq .leaf (.cond (.seq .leaf .leaf) .leaf)) .leaf))))))))))
theorem t_integer_Sqrt : Entry Go.Proofs.Tryz.prog 60 e_integer_Sqrt false :=
  entry_of (C := c_integer_Sqrt) (fn := Go.Proofs.Tryz.f60) (c := b_integer_Sqrt) (an := a_integer_Sqrt) ⟨t_integer_Sign, t_integer_Bits, t_integer_shifted, t_integer_trim, t_integer_divide, t_integer_plus, t_integer_half, t_integer_compare, t_integer_signed, trivial⟩ trivial Go.Proofs.Tryz.func60 rfl rfl (by decide) (fun _ => rfl) (by intro a K D; kernel_rfl)
noncomputable def A_rational_Neg : ArgT (TRat × Unit) := (ArgT.cons tyTRat ArgT.nil)
noncomputable def R_rational_Neg : Ty TRat := tyTRat
noncomputable def e_rational_Neg : FSem := mkE A_rational_Neg R_rational_Neg (fun a => F.rational_Neg a.1)
noncomputable def c_rational_Neg : Cfg := { P := Go.Proofs.Tryz.prog, n := 9, tab := [(104, e_integer_Neg)], mutL := [], rtL := [(3, 1), (6, 1)], locL := [1, 2] }
noncomputable def b_rational_Neg : Code := match Go.Proofs.Tryz.f105.body with | some c => c | none => .skip
noncomputable def a_rational_Neg : An := (.seq .leaf (.seq (.draw [0, 1, 3, 4, 2, 5, 6]) .leaf))
theorem t_rational_Neg : Entry Go.Proofs.Tryz.prog 105 e_rational_Neg false :=
  entry_of (C := c_rational_Neg) (fn := Go.Proofs.Tryz.f105) (c := b_rational_Neg) (an := a_rational_Neg) ⟨t_integer_Neg, trivial⟩ trivial Go.Proofs.Tryz.func105 rfl rfl (by decide) (fun _ => rfl) (by intro a K D; kernel_rfl)
noncomputable def A_interval_ceil : ArgT (TRat × TInt × Unit) := (ArgT.cons tyTRat (ArgT.cons tyTInt ArgT.nil))
noncomputable def R_interval_ceil : Ty TInt := tyTInt
noncomputable def e_interval_ceil : FSem := mkE A_interval_ceil R_interval_ceil (fun a => F.interval_ceil a.1 a.2.1)
noncomputable def c_interval_ceil : Cfg := { P := Go.Proofs.Tryz.prog, n := 10, tab := [(105, e_rational_Neg), (61, e_interval_floor), (104, e_integer_Neg)], mutL := [], rtL := [], locL := [2, 3, 4] }
noncomputable def b_interval_ceil : Code := match Go.Proofs.Tryz.f62.body with | some c => c | none => .skip
noncomputable def a_interval_ceil : An := (.seq .leaf (.seq (.draw [0, 2, 1, 3, 4, 5]) .leaf))
theorem t_interval_ceil : Entry Go.Proofs.Tryz.prog 62 e_interval_ceil false :=
  entry_of (C := c_interval_ceil) (fn := Go.Proofs.Tryz.f62) (c := b_interval_ceil) (an := a_interval_ceil) ⟨t_rational_Neg, t_interval_floor, t_integer_Neg, trivial⟩ trivial Go.Proofs.Tryz.func62 rfl rfl (by decide) (fun _ => rfl) (by intro a K D; kernel_rfl)
noncomputable def A_integer_Norm : ArgT (TInt × Unit) := (ArgT.cons tyTInt ArgT.nil)
noncomputable def R_integer_Norm : Ty TInt := tyTInt
noncomputable def e_integer_Norm : FSem := mkE A_integer_Norm R_integer_Norm (fun a => F.integer_Norm a.1)
noncomputable def c_integer_Norm : Cfg := { P := Go.Proofs.Tryz.prog, n := 10, tab := [(98, e_integer_trim), (129, e_slices_Clone_uint32_uint32), (102, e_integer_signed)], mutL := [], rtL := [(3, 1), (5, 1)], locL := [1, 2] }
noncomputable def b_integer_Norm : Code := match Go.Proofs.Tryz.f139.body with | some c => c | none => .skip
noncomputable def a_integer_Norm : An := (.seq .leaf (.seq (.draw [0, 1, 2, 3, 4, 5, 6, 7]) .leaf))
theorem t_integer_Norm : Entry Go.Proofs.Tryz.prog 139 e_integer_Norm false :=
  entry_of (C := c_integer_Norm) (fn := Go.Proofs.Tryz.f139) (c := b_integer_Norm) (an := a_integer_Norm) ⟨t_integer_trim, t_slices_Clone_uint32_uint32, t_integer_signed, trivial⟩ trivial Go.Proofs.Tryz.func139 rfl rfl (by decide) (fun _ => rfl) (by intro a K D; kernel_rfl)
noncomputable def A_rational_Make : ArgT (TInt × TInt × Unit) := (ArgT.cons tyTInt (ArgT.cons tyTInt ArgT.nil))
noncomputable def R_rational_Make : Ty (TRat × Int) := (Ty.tup (.cons tyTRat (.cons (Ty.leaf (.int .i64)) .nil)) (fun x => (x.1, x.2, ())) (fun y => (y.1, y.2.1)) (fun _ => rfl) (fun _ => rfl))
noncomputable def e_rational_Make : FSem := mkE A_rational_Make R_rational_Make (fun a => F.rational_Make a.1 a.2.1)
noncomputable def c_rational_Make : Cfg := { P := Go.Proofs.Tryz.prog, n := 16, tab := [(139, e_integer_Norm), (91, e_rational_isZero), (92, e_rational_lowest)], mutL := [], rtL := [], locL := [2, 3, 4] }
noncomputable def b_rational_Make : Code := match Go.Proofs.Tryz.f110.body with | some c => c | none => .skip
noncomputable def a_rational_Make : An := (.seq .leaf (.seq (.draw [0, 2, 1, 3, 4, 5]) (.seq (.seq .leaf (.cond (.seq .leaf .leaf) .leaf)) (.seq .leaf .leaf))))
theorem t_rational_Make : Entry Go.Proofs.Tryz.prog 110 e_rational_Make false :=
  entry_of (C := c_rational_Make) (fn := Go.Proofs.Tryz.f110) (c := b_rational_Make) (an := a_rational_Make) ⟨t_integer_Norm, t_rational_isZero, t_rational_lowest, trivial⟩ trivial Go.Proofs.Tryz.func110 rfl rfl (by decide) (fun _ => rfl) (by intro a K D; kernel_rfl)
noncomputable def A_interval_over : ArgT (TInt × TInt × Unit) := (ArgT.cons tyTInt (ArgT.cons tyTInt ArgT.nil))
noncomputable def R_interval_over : Ty TRat := tyTRat
noncomputable def e_interval_over : FSem := mkE A_interval_over R_interval_over (fun a => F.interval_over a.1 a.2.1)
noncomputable def c_interval_over : Cfg := { P := Go.Proofs.Tryz.prog, n := 14, tab := [(110, e_rational_Make)], mutL := [], rtL := [], locL := [2, 3, 4, 5] }
noncomputable def b_interval_over : Code := match Go.Proofs.Tryz.f67.body with | some c => c | none => .skip
noncomputable def a_interval_over : An := (.seq .leaf (.seq .leaf (.seq .leaf .leaf)))
theorem t_interval_over : Entry Go.Proofs.Tryz.prog 67 e_interval_over false :=
  entry_of (C := c_interval_over) (fn := Go.Proofs.Tryz.f67) (c := b_interval_over) (an := a_interval_over) ⟨t_rational_Make, trivial⟩ trivial Go.Proofs.Tryz.func67 rfl rfl (by decide) (fun _ => rfl) (by intro a K D; kernel_rfl)
noncomputable def A_interval_Sqrt : ArgT (TInterval × Int × Unit) := (ArgT.cons tyTInterval (ArgT.cons (Ty.leaf (.int .i64)) ArgT.nil))
noncomputable def R_interval_Sqrt : Ty (TInterval × Int) := (Ty.tup (.cons tyTInterval (.cons (Ty.leaf (.int .i64)) .nil)) (fun x => (x.1, x.2, ())) (fun y => (y.1, y.2.1)) (fun _ => rfl) (fun _ => rfl))
noncomputable def e_interval_Sqrt : FSem := mkE A_interval_Sqrt R_interval_Sqrt (fun a => F.interval_Sqrt a.1 a.2.1)
noncomputable def c_interval_Sqrt : Cfg := { P := Go.Proofs.Tryz.prog, n := 65, tab := [(59, e_interval_power), (61, e_interval_floor), (60, e_integer_Sqrt), (62, e_interval_ceil), (67, e_interval_over), (64, e_integer_Mul), (63, e_integer_Cmp), (66, e_integer_FromInt), (65, e_integer_Add), (58, e_rational_Sign)], mutL := [], rtL := [(22, 2), (33, 2), (40, 2)], locL := [2, 4, 6, 7, 8, 10, 11] }
noncomputable def b_interval_Sqrt : Code := match Go.Proofs.Tryz.f20.body with | some c => c | none => .skip
noncomputable def a_interval_Sqrt : An := (.seq .leaf (.join [(4, .box [.bool, .sl, .bool, .sl, .bool, .sl, .bool, .sl])] (.block (.seq .leaf (.cond (.seq .leaf .leaf) (.seq .leaf (.cond (.seq .leaf .leaf) .leaf))))) (.seq .leaf (.seq .leaf (.seq .leaf (.seq .leaf (.join [(11, .box [.bool, .sl])] (.seq (.draw [0, 1, 3, 2, 4, 5]) (.cond (.draw [0, 1, 2, 3]) .leaf)) (.seq (.draw [0, 1, 3, 4, 2, 5, 6, 7, 8]) .leaf))))))))
theorem t_interval_Sqrt : Entry Go.Proofs.Tryz.prog 20 e_interval_Sqrt false :=
  entry_of (C := c_interval_Sqrt) (fn := Go.Proofs.Tryz.f20) (c := b_interval_Sqrt) (an := a_interval_Sqrt) ⟨t_interval_power, t_interval_floor, t_integer_Sqrt, t_interval_ceil, t_interval_over, t_integer_Mul, t_integer_Cmp, t_integer_FromInt, t_integer_Add, t_rational_Sign, trivial⟩ trivial Go.Proofs.Tryz.func20 rfl rfl (by decide) (fun _ => rfl) (by intro a K D; kernel_rfl)
noncomputable def A_ref02_Make : ArgT (TInt × TInt × Unit) := (ArgT.cons tyTInt (ArgT.cons tyTInt ArgT.nil))
noncomputable def R_ref02_Make : Ty TRat := tyTRat
noncomputable def e_ref02_Make : FSem := mkE A_ref02_Make R_ref02_Make (fun a => F.ref02_Make a.1 a.2.1)
noncomputable def c_ref02_Make : Cfg := { P := Go.Proofs.Tryz.prog, n := 21, tab := [(79, e_ref01_GCD), (80, e_ref02_quo), (82, e_ref01_Sign), (83, e_ref01_Neg)], mutL := [], rtL := [], locL := [2, 3, 4, 5] }
noncomputable def b_ref02_Make : Code := match Go.Proofs.Tryz.f72.body with | some c => c | none => .skip
noncomputable def a_ref02_Make : An := (.seq .leaf (.seq .leaf (.join [(5, .box [.bool, .sl])] (.seq .leaf (.cond .leaf .leaf)) (.seq (.draw [0, 1, 3, 4, 2, 5, 6, 7]) .leaf))))
theorem t_ref02_Make : Entry Go.Proofs.Tryz.prog 72 e_ref02_Make false :=
  entry_of (C := c_ref02_Make) (fn := Go.Proofs.Tryz.f72) (c := b_ref02_Make) (an := a_ref02_Make) ⟨t_ref01_GCD, t_ref02_quo, t_ref01_Sign, t_ref01_Neg, trivial⟩ trivial Go.Proofs.Tryz.func72 rfl rfl (by decide) (fun _ => rfl) (by intro a K D; kernel_rfl)
noncomputable def A_ref02_Frac : ArgT (Int × Int × Unit) := (ArgT.cons (Ty.leaf (.int .i64)) (ArgT.cons (Ty.leaf (.int .i64)) ArgT.nil))
noncomputable def R_ref02_Frac : Ty TRat := tyTRat
noncomputable def e_ref02_Frac : FSem := mkE A_ref02_Frac R_ref02_Frac (fun a => F.ref02_Frac a.1 a.2.1)
noncomputable def c_ref02_Frac : Cfg := { P := Go.Proofs.Tryz.prog, n := 13, tab := [(48, e_ref02_FromInt), (74, e_ref01_FromInt), (72, e_ref02_Make)], mutL := [], rtL := [], locL := [4] }
noncomputable def b_ref02_Frac : Code := match Go.Proofs.Tryz.f89.body with | some c => c | none => .skip
noncomputable def a_ref02_Frac : An := (.seq .leaf (.seq (.seq .leaf (.cond (.seq .leaf .leaf) .leaf)) (.seq .leaf .leaf)))
theorem t_ref02_Frac : Entry Go.Proofs.Tryz.prog 89 e_ref02_Frac false :=
  entry_of (C := c_ref02_Frac) (fn := Go.Proofs.Tryz.f89) (c := b_ref02_Frac) (an := a_ref02_Frac) ⟨t_ref02_FromInt, t_ref01_FromInt, t_ref02_Make, trivial⟩ trivial Go.Proofs.Tryz.func89 rfl rfl (by decide) (fun _ => rfl) (by intro a K D; kernel_rfl)
noncomputable def A_law03_span : ArgT (Int × Int × Int × Int × Unit) := (ArgT.cons (Ty.leaf (.int .i64)) (ArgT.cons (Ty.leaf (.int .i64)) (ArgT.cons (Ty.leaf (.int .i64)) (ArgT.cons (Ty.leaf (.int .i64)) ArgT.nil))))
noncomputable def R_law03_span : Ty TInterval := tyTInterval
noncomputable def e_law03_span : FSem := mkE A_law03_span R_law03_span (fun a => F.law03_span a.1 a.2.1 a.2.2.1 a.2.2.2.1)
noncomputable def c_law03_span : Cfg := { P := Go.Proofs.Tryz.prog, n := 16, tab := [(89, e_ref02_Frac)], mutL := [], rtL := [], locL := [8] }
noncomputable def b_law03_span : Code := match Go.Proofs.Tryz.f49.body with | some c => c | none => .skip
noncomputable def a_law03_span : An := (.seq .leaf (.seq .leaf .leaf))
theorem t_law03_span : Entry Go.Proofs.Tryz.prog 49 e_law03_span false :=
  entry_of (C := c_law03_span) (fn := Go.Proofs.Tryz.f49) (c := b_law03_span) (an := a_law03_span) ⟨t_ref02_Frac, trivial⟩ trivial Go.Proofs.Tryz.func49 rfl rfl (by decide) (fun _ => rfl) (by intro a K D; kernel_rfl)
noncomputable def A_law03_awake : ArgT (Unit) := ArgT.nil
noncomputable def R_law03_awake : Ty Bool := (Ty.leaf .bool)
noncomputable def e_law03_awake : FSem := mkE A_law03_awake R_law03_awake (fun a => F.law03_awake )
noncomputable def c_law03_awake : Cfg := { P := Go.Proofs.Tryz.prog, n := 57, tab := [(48, e_ref02_FromInt), (30, e_interval_Point), (20, e_interval_Sqrt), (49, e_law03_span), (14, e_interval_Div), (17, e_interval_Mul), (16, e_ref03_Same)], mutL := [], rtL := [], locL := [1, 3, 5] }
noncomputable def b_law03_awake : Code := match Go.Proofs.Tryz.f12.body with | some c => c | none => .skip
noncomputable def a_law03_awake : An := (.seq .leaf (.seq .leaf (.seq .leaf (.seq .leaf (.seq (.draw [0, 1, 2, 3, 4, 5, 6, 7, 8, 9, 10, 11, 12, 13, 14, 15, 16, 17, 18, 19, 20, 21, 22, 23, 24, 25, 26, 27, 28, 29, 30, 31, 32]) .leaf)))))
theorem t_law03_awake : Entry Go.Proofs.Tryz.prog 12 e_law03_awake false :=
  entry_of (C := c_law03_awake) (fn := Go.Proofs.Tryz.f12) (c := b_law03_awake) (an := a_law03_awake) ⟨t_ref02_FromInt, t_interval_Point, t_interval_Sqrt, t_law03_span, t_interval_Div, t_interval_Mul, t_ref03_Same, trivial⟩ trivial Go.Proofs.Tryz.func12 rfl rfl (by decide) (fun _ => rfl) (by intro a K D; kernel_rfl)
noncomputable def A_ref01_Valid : ArgT (TInt × Unit) := (ArgT.cons tyTInt ArgT.nil)
noncomputable def R_ref01_Valid : Ty Bool := (Ty.leaf .bool)
noncomputable def e_ref01_Valid : FSem := mkE A_ref01_Valid R_ref01_Valid (fun a => F.ref01_Valid a.1)
noncomputable def c_ref01_Valid : Cfg := { P := Go.Proofs.Tryz.prog, n := 22, tab := [(116, e_ref01_trim)], mutL := [], rtL := [(3, 1), (7, 1), (12, 1), (16, 1)], locL := [1] }
noncomputable def b_ref01_Valid : Code := match Go.Proofs.Tryz.f122.body with | some c => c | none => .skip
noncomputable def a_ref01_Valid : An := (.seq .leaf (.seq (.draw [0, 1, 4, 5, 6, 2, 3, 7, 8, 9, 10, 11, 12, 13, 14, 15, 16, 17, 18, 19]) .leaf))
theorem t_ref01_Valid : Entry Go.Proofs.Tryz.prog 122 e_ref01_Valid false :=
  entry_of (C := c_ref01_Valid) (fn := Go.Proofs.Tryz.f122) (c := b_ref01_Valid) (an := a_ref01_Valid) ⟨t_ref01_trim, trivial⟩ trivial Go.Proofs.Tryz.func122 rfl rfl (by decide) (fun _ => rfl) (by intro a K D; kernel_rfl)
noncomputable def A_ref02_Valid : ArgT (TRat × Unit) := (ArgT.cons tyTRat ArgT.nil)
noncomputable def R_ref02_Valid : Ty Bool := (Ty.leaf .bool)
noncomputable def e_ref02_Valid : FSem := mkE A_ref02_Valid R_ref02_Valid (fun a => F.ref02_Valid a.1)
noncomputable def c_ref02_Valid : Cfg := { P := Go.Proofs.Tryz.prog, n := 25, tab := [(122, e_ref01_Valid), (82, e_ref01_Sign), (79, e_ref01_GCD), (78, e_ref02_one)], mutL := [], rtL := [(3, 1), (7, 1), (12, 1), (18, 1), (20, 1)], locL := [1] }
noncomputable def b_ref02_Valid : Code := match Go.Proofs.Tryz.f76.body with | some c => c | none => .skip
noncomputable def a_ref02_Valid : An := (.seq .leaf (.seq .leaf .leaf))
theorem t_ref02_Valid : Entry Go.Proofs.Tryz.prog 76 e_ref02_Valid false :=
  entry_of (C := c_ref02_Valid) (fn := Go.Proofs.Tryz.f76) (c := b_ref02_Valid) (an := a_ref02_Valid) ⟨t_ref01_Valid, t_ref01_Sign, t_ref01_GCD, t_ref02_one, trivial⟩ trivial Go.Proofs.Tryz.func76 rfl rfl (by decide) (fun _ => rfl) (by intro a K D; kernel_rfl)
noncomputable def A_ref02_Few : ArgT (TRat × Int × Unit) := (ArgT.cons tyTRat (ArgT.cons (Ty.leaf (.int .i64)) ArgT.nil))
noncomputable def R_ref02_Few : Ty Bool := (Ty.leaf .bool)
noncomputable def e_ref02_Few : FSem := mkE A_ref02_Few R_ref02_Few (fun a => F.ref02_Few a.1 a.2.1)
noncomputable def c_ref02_Few : Cfg := { P := Go.Proofs.Tryz.prog, n := 23, tab := [(76, e_ref02_Valid)], mutL := [], rtL := [(5, 2), (6, 2), (12, 2), (13, 2)], locL := [2] }
noncomputable def b_ref02_Few : Code := match Go.Proofs.Tryz.f22.body with | some c => c | none => .skip
noncomputable def a_ref02_Few : An := (.seq .leaf (.seq .leaf .leaf))
theorem t_ref02_Few : Entry Go.Proofs.Tryz.prog 22 e_ref02_Few false :=
  entry_of (C := c_ref02_Few) (fn := Go.Proofs.Tryz.f22) (c := b_ref02_Few) (an := a_ref02_Few) ⟨t_ref02_Valid, trivial⟩ trivial Go.Proofs.Tryz.func22 rfl rfl (by decide) (fun _ => rfl) (by intro a K D; kernel_rfl)
noncomputable def A_ref03_Valid : ArgT (TInterval × Unit) := (ArgT.cons tyTInterval ArgT.nil)
noncomputable def R_ref03_Valid : Ty Bool := (Ty.leaf .bool)
noncomputable def e_ref03_Valid : FSem := mkE A_ref03_Valid R_ref03_Valid (fun a => F.ref03_Valid a.1)
noncomputable def c_ref03_Valid : Cfg := { P := Go.Proofs.Tryz.prog, n := 19, tab := [(76, e_ref02_Valid), (71, e_ref02_Cmp)], mutL := [], rtL := [(3, 1), (7, 1), (12, 1), (14, 1)], locL := [1] }
noncomputable def b_ref03_Valid : Code := match Go.Proofs.Tryz.f46.body with | some c => c | none => .skip
noncomputable def a_ref03_Valid : An := (.seq .leaf (.seq .leaf .leaf))
theorem t_ref03_Valid : Entry Go.Proofs.Tryz.prog 46 e_ref03_Valid false :=
  entry_of (C := c_ref03_Valid) (fn := Go.Proofs.Tryz.f46) (c := b_ref03_Valid) (an := a_ref03_Valid) ⟨t_ref02_Valid, t_ref02_Cmp, trivial⟩ trivial Go.Proofs.Tryz.func46 rfl rfl (by decide) (fun _ => rfl) (by intro a K D; kernel_rfl)
noncomputable def A_ref03_Few : ArgT (TInterval × Int × Unit) := (ArgT.cons tyTInterval (ArgT.cons (Ty.leaf (.int .i64)) ArgT.nil))
noncomputable def R_ref03_Few : Ty Bool := (Ty.leaf .bool)
noncomputable def e_ref03_Few : FSem := mkE A_ref03_Few R_ref03_Few (fun a => F.ref03_Few a.1 a.2.1)
noncomputable def c_ref03_Few : Cfg := { P := Go.Proofs.Tryz.prog, n := 19, tab := [(22, e_ref02_Few), (46, e_ref03_Valid)], mutL := [], rtL := [(5, 2), (10, 2)], locL := [2] }
noncomputable def b_ref03_Few : Code := match Go.Proofs.Tryz.f50.body with | some c => c | none => .skip
noncomputable def a_ref03_Few : An := (.seq .leaf (.seq .leaf .leaf))
theorem t_ref03_Few : Entry Go.Proofs.Tryz.prog 50 e_ref03_Few false :=
  entry_of (C := c_ref03_Few) (fn := Go.Proofs.Tryz.f50) (c := b_ref03_Few) (an := a_ref03_Few) ⟨t_ref02_Few, t_ref03_Valid, trivial⟩ trivial Go.Proofs.Tryz.func50 rfl rfl (by decide) (fun _ => rfl) (by intro a K D; kernel_rfl)
noncomputable def A_law03_few : ArgT (Sl × Unit) := (ArgT.cons (Ty.leaf .sl) ArgT.nil)
noncomputable def R_law03_few : Ty Bool := (Ty.leaf .bool)
noncomputable def e_law03_few : FSem := mkE A_law03_few R_law03_few (fun a => F.law03_few a.1)
noncomputable def c_law03_few : Cfg := { P := Go.Proofs.Tryz.prog, n := 15, tab := [(50, e_ref03_Few)], mutL := [], rtL := [], locL := [4] }
noncomputable def b_law03_few : Code := match Go.Proofs.Tryz.f13.body with | some c => c | none => .skip
noncomputable def a_law03_few : An := (.seq .leaf (.seq (.seq .leaf (.block (.loop [(7, .leaf (.int .i64))] (.seq .leaf (.seq (.cond .leaf .leaf) (.seq (.block (.seq .leaf (.seq .leaf (.cond (.seq .leaf .leaf) .leaf)))) .leaf)))))) (.seq .leaf .leaf)))
theorem t_law03_few : Entry Go.Proofs.Tryz.prog 13 e_law03_few false :=
  entry_of (C := c_law03_few) (fn := Go.Proofs.Tryz.f13) (c := b_law03_few) (an := a_law03_few) ⟨t_ref03_Few, trivial⟩ trivial Go.Proofs.Tryz.func13 rfl rfl (by decide) (fun _ => rfl) (by intro a K D; kernel_rfl)
noncomputable def A_law03_IntervalProducts : ArgT (TInterval × TInterval × Unit) := (ArgT.cons tyTInterval (ArgT.cons tyTInterval ArgT.nil))
noncomputable def R_law03_IntervalProducts : Ty Bool := (Ty.leaf .bool)
noncomputable def e_law03_IntervalProducts : FSem := mkE A_law03_IntervalProducts R_law03_IntervalProducts (fun a => F.law03_IntervalProducts a.1 a.2.1)
noncomputable def c_law03_IntervalProducts : Cfg := { P := Go.Proofs.Tryz.prog, n := 60, tab := [(14, e_interval_Div), (15, e_ref03_Div), (17, e_interval_Mul), (18, e_ref03_Mul), (16, e_ref03_Same), (19, e_ref03_Zero), (12, e_law03_awake), (13, e_law03_few)], mutL := [], rtL := [], locL := [2, 3, 5, 7] }
noncomputable def b_law03_IntervalProducts : Code := match Go.Proofs.Tryz.f3.body with | some c => c | none => .skip
noncomputable def a_law03_IntervalProducts : An := (.seq .leaf (.join [] (.seq .leaf (.cond (.seq .leaf .leaf) .leaf)) (.seq .leaf (.seq .leaf (.seq (.draw [0, 1, 3, 4, 2, 5, 6, 7, 8, 9, 10, 11, 12, 13, 14, 15, 16, 17, 18, 19, 20, 21, 22, 23, 24, 25, 26, 27, 28, 29]) .leaf)))))
theorem t_law03_IntervalProducts : Entry Go.Proofs.Tryz.prog 3 e_law03_IntervalProducts false :=
  entry_of (C := c_law03_IntervalProducts) (fn := Go.Proofs.Tryz.f3) (c := b_law03_IntervalProducts) (an := a_law03_IntervalProducts) ⟨t_interval_Div, t_ref03_Div, t_interval_Mul, t_ref03_Mul, t_ref03_Same, t_ref03_Zero, t_law03_awake, t_law03_few, trivial⟩ trivial Go.Proofs.Tryz.func3 rfl rfl (by decide) (fun _ => rfl) (by intro a K D; kernel_rfl)
noncomputable def A_ref01_power : ArgT (TInt × Int × Unit) := (ArgT.cons tyTInt (ArgT.cons (Ty.leaf (.int .i64)) ArgT.nil))
noncomputable def R_ref01_power : Ty TInt := tyTInt
noncomputable def e_ref01_power : FSem := mkE A_ref01_power R_ref01_power (fun a => F.ref01_power a.1 a.2.1)
noncomputable def c_ref01_power (n : Nat) : Cfg := { P := Go.Proofs.Tryz.prog, n := 24, tab := [(74, e_ref01_FromInt), (140, mkE A_ref01_power R_ref01_power (fun a => F.ref01_power_ n a.1 a.2.1)), (73, e_ref01_Mul)], mutL := [], rtL := [], locL := [2, 4, 5, 6] }
noncomputable def b_ref01_power : Code := match Go.Proofs.Tryz.f140.body with | some c => c | none => .skip
noncomputable def a_ref01_power : An := (.seq .leaf (.seq (.seq .leaf (.cond (.seq .leaf .leaf) .leaf)) (.seq .leaf (.seq .leaf (.join [(6, .box [.bool, .sl])] (.seq .leaf (.cond .leaf .leaf)) (.seq .leaf .leaf))))))
theorem u_ref01_power : ∃ fn, Go.Proofs.Tryz.prog.funcs[140]? = some fn ∧ fn.body.isNone = false ∧ (fn.name == "runtime.NumGoroutine") = false := ⟨_, Go.Proofs.Tryz.func140, rfl, by decide⟩
theorem v_ref01_power : ∀ n a K D w, Sub D w → F.ref01_power_ n a.1 a.2.1 K D → Calls Go.Proofs.Tryz.prog 140 (A_ref01_power.up a).toArray w (Post (fun v h => R_ref01_power.dn v fun r => K r h) D w)
  | 0, _, _, _, _, _, h => h.elim
  | n + 1, a, K, D, w, hs, h => body_of (C := c_ref01_power n) (F := fun a => F.ref01_power_ (n + 1) a.1 a.2.1) (fn := Go.Proofs.Tryz.f140) (c := b_ref01_power) (an := a_ref01_power) ⟨t_ref01_FromInt, (mkE_entry u_ref01_power (v_ref01_power n)), t_ref01_Mul, trivial⟩ trivial Go.Proofs.Tryz.func140 rfl rfl (fun _ => rfl) (by intro a K D; kernel_rfl) a K D w hs h
theorem t_ref01_power : Entry Go.Proofs.Tryz.prog 140 e_ref01_power false := mkE_entry u_ref01_power (fun a K D w hs h => h.elim fun m h => v_ref01_power m a K D w hs h)
noncomputable def A_ref01_Pow : ArgT (TInt × Int × Unit) := (ArgT.cons tyTInt (ArgT.cons (Ty.leaf (.int .i64)) ArgT.nil))
noncomputable def R_ref01_Pow : Ty (TInt × Int) := (Ty.tup (.cons tyTInt (.cons (Ty.leaf (.int .i64)) .nil)) (fun x => (x.1, x.2, ())) (fun y => (y.1, y.2.1)) (fun _ => rfl) (fun _ => rfl))
noncomputable def e_ref01_Pow : FSem := mkE A_ref01_Pow R_ref01_Pow (fun a => F.ref01_Pow a.1 a.2.1)
noncomputable def c_ref01_Pow : Cfg := { P := Go.Proofs.Tryz.prog, n := 16, tab := [(140, e_ref01_power)], mutL := [], rtL := [], locL := [2, 4] }
noncomputable def b_ref01_Pow : Code := match Go.Proofs.Tryz.f111.body with | some c => c | none => .skip
noncomputable def a_ref01_Pow : An := (.seq .leaf (.join [(4, .box [.bool, .sl])] (.seq .leaf (.cond (.seq .leaf .leaf) .leaf)) (.seq .leaf .leaf)))
theorem t_ref01_Pow : Entry Go.Proofs.Tryz.prog 111 e_ref01_Pow false :=
  entry_of (C := c_ref01_Pow) (fn := Go.Proofs.Tryz.f111) (c := b_ref01_Pow) (an := a_ref01_Pow) ⟨t_ref01_power, trivial⟩ trivial Go.Proofs.Tryz.func111 rfl rfl (by decide) (fun _ => rfl) (by intro a K D; kernel_rfl)
noncomputable def A_ref03_unit : ArgT (Int × Unit) := (ArgT.cons (Ty.leaf (.int .i64)) ArgT.nil)
noncomputable def R_ref03_unit : Ty TRat := tyTRat
noncomputable def e_ref03_unit : FSem := mkE A_ref03_unit R_ref03_unit (fun a => F.ref03_unit a.1)
noncomputable def c_ref03_unit : Cfg := { P := Go.Proofs.Tryz.prog, n := 14, tab := [(74, e_ref01_FromInt), (111, e_ref01_Pow), (72, e_ref02_Make)], mutL := [], rtL := [], locL := [2, 3] }
noncomputable def b_ref03_unit : Code := match Go.Proofs.Tryz.f68.body with | some c => c | none => .skip
noncomputable def a_ref03_unit : An := (.seq .leaf (.seq .leaf (.seq (.draw [0, 1, 2, 3]) .leaf)))
theorem t_ref03_unit : Entry Go.Proofs.Tryz.prog 68 e_ref03_unit false :=
  entry_of (C := c_ref03_unit) (fn := Go.Proofs.Tryz.f68) (c := b_ref03_unit) (an := a_ref03_unit) ⟨t_ref01_FromInt, t_ref01_Pow, t_ref02_Make, trivial⟩ trivial Go.Proofs.Tryz.func68 rfl rfl (by decide) (fun _ => rfl) (by intro a K D; kernel_rfl)
noncomputable def A_ref02_Floor : ArgT (TRat × Unit) := (ArgT.cons tyTRat ArgT.nil)
noncomputable def R_ref02_Floor : Ty TInt := tyTInt
noncomputable def e_ref02_Floor : FSem := mkE A_ref02_Floor R_ref02_Floor (fun a => F.ref02_Floor a.1)
noncomputable def c_ref02_Floor : Cfg := { P := Go.Proofs.Tryz.prog, n := 8, tab := [(80, e_ref02_quo)], mutL := [], rtL := [(3, 1), (5, 1)], locL := [1, 2] }
noncomputable def b_ref02_Floor : Code := match Go.Proofs.Tryz.f70.body with | some c => c | none => .skip
noncomputable def a_ref02_Floor : An := (.seq .leaf (.seq .leaf .leaf))
theorem t_ref02_Floor : Entry Go.Proofs.Tryz.prog 70 e_ref02_Floor false :=
  entry_of (C := c_ref02_Floor) (fn := Go.Proofs.Tryz.f70) (c := b_ref02_Floor) (an := a_ref02_Floor) ⟨t_ref02_quo, trivial⟩ trivial Go.Proofs.Tryz.func70 rfl rfl (by decide) (fun _ => rfl) (by intro a K D; kernel_rfl)
noncomputable def A_ref01_Bits : ArgT (TInt × Unit) := (ArgT.cons tyTInt ArgT.nil)
noncomputable def R_ref01_Bits : Ty Int := (Ty.leaf (.int .i64))
noncomputable def e_ref01_Bits : FSem := mkE A_ref01_Bits R_ref01_Bits (fun a => F.ref01_Bits a.1)
noncomputable def c_ref01_Bits : Cfg := { P := Go.Proofs.Tryz.prog, n := 7, tab := [(116, e_ref01_trim), (141, e_ref01_length)], mutL := [], rtL := [(3, 1)], locL := [1] }
noncomputable def b_ref01_Bits : Code := match Go.Proofs.Tryz.f113.body with | some c => c | none => .skip
noncomputable def a_ref01_Bits : An := (.seq .leaf (.seq .leaf .leaf))
theorem t_ref01_Bits : Entry Go.Proofs.Tryz.prog 113 e_ref01_Bits false :=
  entry_of (C := c_ref01_Bits) (fn := Go.Proofs.Tryz.f113) (c := b_ref01_Bits) (an := a_ref01_Bits) ⟨t_ref01_trim, t_ref01_length, trivial⟩ trivial Go.Proofs.Tryz.func113 rfl rfl (by decide) (fun _ => rfl) (by intro a K D; kernel_rfl)
noncomputable def A_ref01_Sqrt : ArgT (TInt × Unit) := (ArgT.cons tyTInt ArgT.nil)
noncomputable def R_ref01_Sqrt : Ty (TInt × Int) := (Ty.tup (.cons tyTInt (.cons (Ty.leaf (.int .i64)) .nil)) (fun x => (x.1, x.2, ())) (fun y => (y.1, y.2.1)) (fun _ => rfl) (fun _ => rfl))
noncomputable def e_ref01_Sqrt : FSem := mkE A_ref01_Sqrt R_ref01_Sqrt (fun a => F.ref01_Sqrt a.1)
noncomputable def c_ref01_Sqrt : Cfg := { P := Go.Proofs.Tryz.prog, n := 63, tab := [(112, e_ref01_Norm), (113, e_ref01_Bits), (116, e_ref01_trim), (115, e_ref01_times), (114, e_ref01_compare), (117, e_ref01_signed)], mutL := [], rtL := [(9, 1), (44, 1)], locL := [1, 2] }
noncomputable def b_ref01_Sqrt : Code := match Go.Proofs.Tryz.f69.body with | some c => c | none => .skip
noncomputable def a_ref01_Sqrt : An := (.seq .leaf (.seq .leaf (.seq (.seq .leaf (.cond (.seq .leaf .leaf) .leaf)) (.seq .leaf (.seq .leaf (.seq (.seq .leaf (.block (.loop [(6, .leaf (.int .i64))] (.seq (.seq .leaf (.cond .leaf .leaf)) (.join [] (.block (.seq (.draw [0, 1, 2, 3, 4, 5, 6, 7, 8, 9, 10, 11, 12, 13]) (.seq (.draw [0, 2, 5, 6, 1, 3, 4, 7, 8]) (.cond (.draw [0, 1, 2, 3, 4, 5, 6, 7, 8, 9, 10, 11, 12, 13]) .leaf)))) .leaf))))) (.seq .leaf .leaf)))))))
theorem t_ref01_Sqrt : Entry Go.Proofs.Tryz.prog 69 e_ref01_Sqrt false :=
  entry_of (C := c_ref01_Sqrt) (fn := Go.Proofs.Tryz.f69) (c := b_ref01_Sqrt) (an := a_ref01_Sqrt) ⟨t_ref01_Norm, t_ref01_Bits, t_ref01_trim, t_ref01_times, t_ref01_compare, t_ref01_signed, trivial⟩ trivial Go.Proofs.Tryz.func69 rfl rfl (by decide) (fun _ => rfl) (by intro a K D; kernel_rfl)
noncomputable def A_ref03_Sqrt : ArgT (TInterval × Int × Unit) := (ArgT.cons tyTInterval (ArgT.cons (Ty.leaf (.int .i64)) ArgT.nil))
noncomputable def R_ref03_Sqrt : Ty (TInterval × Int) := (Ty.tup (.cons tyTInterval (.cons (Ty.leaf (.int .i64)) .nil)) (fun x => (x.1, x.2, ())) (fun y => (y.1, y.2.1)) (fun _ => rfl) (fun _ => rfl))
noncomputable def e_ref03_Sqrt : FSem := mkE A_ref03_Sqrt R_ref03_Sqrt (fun a => F.ref03_Sqrt a.1 a.2.1)
noncomputable def c_ref03_Sqrt : Cfg := { P := Go.Proofs.Tryz.prog, n := 69, tab := [(31, e_ref02_Sign), (68, e_ref03_unit), (28, e_ref02_Mul), (70, e_ref02_Floor), (69, e_ref01_Sqrt), (72, e_ref02_Make), (73, e_ref01_Mul), (74, e_ref01_FromInt), (71, e_ref02_Cmp), (75, e_ref01_Add)], mutL := [], rtL := [(20, 2), (31, 2), (39, 2), (61, 6), (65, 6)], locL := [2, 4, 6, 7, 8, 10, 11] }
noncomputable def b_ref03_Sqrt : Code := match Go.Proofs.Tryz.f21.body with | some c => c | none => .skip
noncomputable def a_ref03_Sqrt : An := (.seq .leaf (.join [(4, .box [.bool, .sl, .bool, .sl, .bool, .sl, .bool, .sl])] (.seq .leaf (.cond (.seq .leaf .leaf) .leaf)) (.seq (.seq .leaf (.cond (.seq .leaf .leaf) .leaf)) (.seq .leaf (.seq .leaf (.seq .leaf (.seq .leaf (.seq .leaf (.join [(11, .box [.bool, .sl])] (.seq (.draw [0, 1, 5, 2, 3, 4, 6, 7]) (.cond (.draw [0, 1, 2, 3]) .leaf)) (.seq (.draw [0, 1, 2, 4, 5, 6, 3, 7, 8, 9, 10]) .leaf))))))))))
theorem t_ref03_Sqrt : Entry Go.Proofs.Tryz.prog 21 e_ref03_Sqrt false :=
  entry_of (C := c_ref03_Sqrt) (fn := Go.Proofs.Tryz.f21) (c := b_ref03_Sqrt) (an := a_ref03_Sqrt) ⟨t_ref02_Sign, t_ref03_unit, t_ref02_Mul, t_ref02_Floor, t_ref01_Sqrt, t_ref02_Make, t_ref01_Mul, t_ref01_FromInt, t_ref02_Cmp, t_ref01_Add, trivial⟩ trivial Go.Proofs.Tryz.func21 rfl rfl (by decide) (fun _ => rfl) (by intro a K D; kernel_rfl)
noncomputable def A_law03_IntervalSqrt : ArgT (TInterval × Int × Unit) := (ArgT.cons tyTInterval (ArgT.cons (Ty.leaf (.int .i64)) ArgT.nil))
noncomputable def R_law03_IntervalSqrt : Ty Bool := (Ty.leaf .bool)
noncomputable def e_law03_IntervalSqrt : FSem := mkE A_law03_IntervalSqrt R_law03_IntervalSqrt (fun a => F.law03_IntervalSqrt a.1 a.2.1)
noncomputable def c_law03_IntervalSqrt : Cfg := { P := Go.Proofs.Tryz.prog, n := 58, tab := [(20, e_interval_Sqrt), (21, e_ref03_Sqrt), (16, e_ref03_Same), (19, e_ref03_Zero), (12, e_law03_awake), (13, e_law03_few)], mutL := [], rtL := [], locL := [2, 5, 7] }
noncomputable def b_law03_IntervalSqrt : Code := match Go.Proofs.Tryz.f4.body with | some c => c | none => .skip
noncomputable def a_law03_IntervalSqrt : An := (.seq .leaf (.join [] (.seq .leaf (.cond (.seq .leaf .leaf) .leaf)) (.seq .leaf (.seq .leaf (.seq .leaf .leaf)))))
theorem t_law03_IntervalSqrt : Entry Go.Proofs.Tryz.prog 4 e_law03_IntervalSqrt false :=
  entry_of (C := c_law03_IntervalSqrt) (fn := Go.Proofs.Tryz.f4) (c := b_law03_IntervalSqrt) (an := a_law03_IntervalSqrt) ⟨t_interval_Sqrt, t_ref03_Sqrt, t_ref03_Same, t_ref03_Zero, t_law03_awake, t_law03_few, trivial⟩ trivial Go.Proofs.Tryz.func4 rfl rfl (by decide) (fun _ => rfl) (by intro a K D; kernel_rfl)
end Den
end

section
/- MADE BY fbuild.py: the entries of the functions. -/
set_option maxRecDepth 100000
set_option linter.unusedVariables false
namespace Den
open Go
noncomputable def A_ref03_Contains : ArgT (TInterval × TRat × Unit) := (ArgT.cons tyTInterval (ArgT.cons tyTRat ArgT.nil))
noncomputable def R_ref03_Contains : Ty Bool := (Ty.leaf .bool)
noncomputable def e_ref03_Contains : FSem := mkE A_ref03_Contains R_ref03_Contains (fun a => F.ref03_Contains a.1 a.2.1)
noncomputable def c_ref03_Contains : Cfg := { P := Go.Proofs.Tryz.prog, n := 17, tab := [(71, e_ref02_Cmp)], mutL := [], rtL := [(5, 2), (12, 2)], locL := [2, 3] }
noncomputable def b_ref03_Contains : Code := match Go.Proofs.Tryz.f23.body with | some c => c | none => .skip
noncomputable def a_ref03_Contains : An := (.seq .leaf (.seq .leaf .leaf))
theorem t_ref03_Contains : Entry Go.Proofs.Tryz.prog 23 e_ref03_Contains false :=
  entry_of (C := c_ref03_Contains) (fn := Go.Proofs.Tryz.f23) (c := b_ref03_Contains) (an := a_ref03_Contains) ⟨t_ref02_Cmp, trivial⟩ trivial Go.Proofs.Tryz.func23 rfl rfl (by decide) (fun _ => rfl) (by intro a K D; kernel_rfl)
noncomputable def A_ref02_Div : ArgT (TRat × TRat × Unit) := (ArgT.cons tyTRat (ArgT.cons tyTRat ArgT.nil))
noncomputable def R_ref02_Div : Ty (TRat × Int) := (Ty.tup (.cons tyTRat (.cons (Ty.leaf (.int .i64)) .nil)) (fun x => (x.1, x.2, ())) (fun y => (y.1, y.2.1)) (fun _ => rfl) (fun _ => rfl))
noncomputable def e_ref02_Div : FSem := mkE A_ref02_Div R_ref02_Div (fun a => F.ref02_Div a.1 a.2.1)
noncomputable def c_ref02_Div : Cfg := { P := Go.Proofs.Tryz.prog, n := 16, tab := [(54, e_ref02_Inv), (28, e_ref02_Mul)], mutL := [], rtL := [(6, 3), (7, 3)], locL := [2, 3, 4] }
noncomputable def b_ref02_Div : Code := match Go.Proofs.Tryz.f29.body with | some c => c | none => .skip
noncomputable def a_ref02_Div : An := (.seq .leaf (.seq (.seq .leaf (.cond (.seq .leaf .leaf) .leaf)) (.seq (.draw [0, 1, 2, 3, 4, 5]) .leaf)))
theorem t_ref02_Div : Entry Go.Proofs.Tryz.prog 29 e_ref02_Div false :=
  entry_of (C := c_ref02_Div) (fn := Go.Proofs.Tryz.f29) (c := b_ref02_Div) (an := a_ref02_Div) ⟨t_ref02_Inv, t_ref02_Mul, trivial⟩ trivial Go.Proofs.Tryz.func29 rfl rfl (by decide) (fun _ => rfl) (by intro a K D; kernel_rfl)
noncomputable def A_interval_Add : ArgT (TInterval × TInterval × Unit) := (ArgT.cons tyTInterval (ArgT.cons tyTInterval ArgT.nil))
noncomputable def R_interval_Add : Ty TInterval := tyTInterval
noncomputable def e_interval_Add : FSem := mkE A_interval_Add R_interval_Add (fun a => F.interval_Add a.1 a.2.1)
noncomputable def c_interval_Add : Cfg := { P := Go.Proofs.Tryz.prog, n := 16, tab := [(77, e_rational_Add)], mutL := [], rtL := [(5, 2), (7, 3), (10, 2), (12, 3)], locL := [2, 3, 4] }
noncomputable def b_interval_Add : Code := match Go.Proofs.Tryz.f24.body with | some c => c | none => .skip
noncomputable def a_interval_Add : An := (.seq .leaf (.seq (.draw [0, 1, 2, 3, 5, 6, 7, 8, 4, 9, 10, 11]) .leaf))
theorem t_interval_Add : Entry Go.Proofs.Tryz.prog 24 e_interval_Add false :=
  entry_of (C := c_interval_Add) (fn := Go.Proofs.Tryz.f24) (c := b_interval_Add) (an := a_interval_Add) ⟨t_rational_Add, trivial⟩ trivial Go.Proofs.Tryz.func24 rfl rfl (by decide) (fun _ => rfl) (by intro a K D; kernel_rfl)
noncomputable def A_rational_Sub : ArgT (TRat × TRat × Unit) := (ArgT.cons tyTRat (ArgT.cons tyTRat ArgT.nil))
noncomputable def R_rational_Sub : Ty TRat := tyTRat
noncomputable def e_rational_Sub : FSem := mkE A_rational_Sub R_rational_Sub (fun a => F.rational_Sub a.1 a.2.1)
noncomputable def c_rational_Sub : Cfg := { P := Go.Proofs.Tryz.prog, n := 9, tab := [(105, e_rational_Neg), (77, e_rational_Add)], mutL := [], rtL := [], locL := [2, 3, 4] }
noncomputable def b_rational_Sub : Code := match Go.Proofs.Tryz.f81.body with | some c => c | none => .skip
noncomputable def a_rational_Sub : An := (.seq .leaf (.seq (.draw [0, 1, 2, 3, 4]) .leaf))
theorem t_rational_Sub : Entry Go.Proofs.Tryz.prog 81 e_rational_Sub false :=
  entry_of (C := c_rational_Sub) (fn := Go.Proofs.Tryz.f81) (c := b_rational_Sub) (an := a_rational_Sub) ⟨t_rational_Neg, t_rational_Add, trivial⟩ trivial Go.Proofs.Tryz.func81 rfl rfl (by decide) (fun _ => rfl) (by intro a K D; kernel_rfl)
noncomputable def A_interval_Sub : ArgT (TInterval × TInterval × Unit) := (ArgT.cons tyTInterval (ArgT.cons tyTInterval ArgT.nil))
noncomputable def R_interval_Sub : Ty TInterval := tyTInterval
noncomputable def e_interval_Sub : FSem := mkE A_interval_Sub R_interval_Sub (fun a => F.interval_Sub a.1 a.2.1)
noncomputable def c_interval_Sub : Cfg := { P := Go.Proofs.Tryz.prog, n := 16, tab := [(81, e_rational_Sub)], mutL := [], rtL := [(5, 2), (7, 3), (10, 2), (12, 3)], locL := [2, 3, 4] }
noncomputable def b_interval_Sub : Code := match Go.Proofs.Tryz.f26.body with | some c => c | none => .skip
noncomputable def a_interval_Sub : An := (.seq .leaf (.seq (.draw [0, 1, 2, 3, 5, 6, 7, 8, 4, 9, 10, 11]) .leaf))
theorem t_interval_Sub : Entry Go.Proofs.Tryz.prog 26 e_interval_Sub false :=
  entry_of (C := c_interval_Sub) (fn := Go.Proofs.Tryz.f26) (c := b_interval_Sub) (an := a_interval_Sub) ⟨t_rational_Sub, trivial⟩ trivial Go.Proofs.Tryz.func26 rfl rfl (by decide) (fun _ => rfl) (by intro a K D; kernel_rfl)
noncomputable def A_law03_IntervalEnclosure : ArgT (TInterval × TInterval × A2_TRat × Unit) := (ArgT.cons tyTInterval (ArgT.cons tyTInterval (ArgT.cons tyA2_TRat ArgT.nil)))
noncomputable def R_law03_IntervalEnclosure : Ty Bool := (Ty.leaf .bool)
noncomputable def e_law03_IntervalEnclosure : FSem := mkE A_law03_IntervalEnclosure R_law03_IntervalEnclosure (fun a => F.law03_IntervalEnclosure a.1 a.2.1 a.2.2.1)
noncomputable def c_law03_IntervalEnclosure : Cfg := { P := Go.Proofs.Tryz.prog, n := 123, tab := [(28, e_ref02_Mul), (30, e_interval_Point), (20, e_interval_Sqrt), (23, e_ref03_Contains), (31, e_ref02_Sign), (32, e_ref02_Neg), (14, e_interval_Div), (29, e_ref02_Div), (24, e_interval_Add), (25, e_ref02_Add), (26, e_interval_Sub), (27, e_ref02_Sub), (17, e_interval_Mul), (12, e_law03_awake), (13, e_law03_few), (22, e_ref02_Few)], mutL := [], rtL := [(16, 5), (18, 5)], locL := [3, 4, 5, 7, 8, 9, 11, 13, 14] }
noncomputable def b_law03_IntervalEnclosure : Code := match Go.Proofs.Tryz.f5.body with | some c => c | none => .skip
noncomputable def a_law03_IntervalEnclosure : An := (.seq .leaf (.seq (.draw [0, 1, 2, 3, 4, 5, 6, 7]) (.join [] (.seq .leaf (.cond (.seq .leaf .leaf) .leaf)) (.join [] (.seq (.draw [0, 1, 3, 4, 2, 5, 6, 7, 8, 9, 10, 12, 13, 11, 14, 15, 16, 17, 18, 19, 20, 22, 23, 21, 24, 25, 26, 27]) (.cond (.seq .leaf .leaf) .leaf)) (.join [] (.seq .leaf (.seq .leaf (.cond (.seq .leaf (.seq .leaf (.cond (.seq .leaf .leaf) .leaf))) .leaf))) (.seq .leaf (.seq .leaf (.join [(7, .box [.bool, .sl, .bool, .sl])] (.seq .leaf (.cond .leaf .leaf)) (.seq .leaf .leaf)))))))))
theorem t_law03_IntervalEnclosure : Entry Go.Proofs.Tryz.prog 5 e_law03_IntervalEnclosure false :=
  entry_of (C := c_law03_IntervalEnclosure) (fn := Go.Proofs.Tryz.f5) (c := b_law03_IntervalEnclosure) (an := a_law03_IntervalEnclosure) ⟨t_ref02_Mul, t_interval_Point, t_interval_Sqrt, t_ref03_Contains, t_ref02_Sign, t_ref02_Neg, t_interval_Div, t_ref02_Div, t_interval_Add, t_ref02_Add, t_interval_Sub, t_ref02_Sub, t_interval_Mul, t_law03_awake, t_law03_few, t_ref02_Few, trivial⟩ trivial Go.Proofs.Tryz.func5 rfl rfl (by decide) (fun _ => rfl) (by intro a K D; kernel_rfl)
noncomputable def A_ref03_Add : ArgT (TInterval × TInterval × Unit) := (ArgT.cons tyTInterval (ArgT.cons tyTInterval ArgT.nil))
noncomputable def R_ref03_Add : Ty TInterval := tyTInterval
noncomputable def e_ref03_Add : FSem := mkE A_ref03_Add R_ref03_Add (fun a => F.ref03_Add a.1 a.2.1)
noncomputable def c_ref03_Add : Cfg := { P := Go.Proofs.Tryz.prog, n := 9, tab := [(57, e_ref03_ends), (53, e_ref03_Hull)], mutL := [], rtL := [], locL := [2, 3, 4] }
noncomputable def b_ref03_Add : Code := match Go.Proofs.Tryz.f33.body with | some c => c | none => .skip
noncomputable def a_ref03_Add : An := (.seq .leaf (.seq .leaf .leaf))
theorem t_ref03_Add : Entry Go.Proofs.Tryz.prog 33 e_ref03_Add false :=
  entry_of (C := c_ref03_Add) (fn := Go.Proofs.Tryz.f33) (c := b_ref03_Add) (an := a_ref03_Add) ⟨t_ref03_ends, t_ref03_Hull, trivial⟩ trivial Go.Proofs.Tryz.func33 rfl rfl (by decide) (fun _ => rfl) (by intro a K D; kernel_rfl)
noncomputable def A_ref03_Sub : ArgT (TInterval × TInterval × Unit) := (ArgT.cons tyTInterval (ArgT.cons tyTInterval ArgT.nil))
noncomputable def R_ref03_Sub : Ty TInterval := tyTInterval
noncomputable def e_ref03_Sub : FSem := mkE A_ref03_Sub R_ref03_Sub (fun a => F.ref03_Sub a.1 a.2.1)
noncomputable def c_ref03_Sub : Cfg := { P := Go.Proofs.Tryz.prog, n := 9, tab := [(57, e_ref03_ends), (53, e_ref03_Hull)], mutL := [], rtL := [], locL := [2, 3, 4] }
noncomputable def b_ref03_Sub : Code := match Go.Proofs.Tryz.f34.body with | some c => c | none => .skip
noncomputable def a_ref03_Sub : An := (.seq .leaf (.seq .leaf .leaf))
theorem t_ref03_Sub : Entry Go.Proofs.Tryz.prog 34 e_ref03_Sub false :=
  entry_of (C := c_ref03_Sub) (fn := Go.Proofs.Tryz.f34) (c := b_ref03_Sub) (an := a_ref03_Sub) ⟨t_ref03_ends, t_ref03_Hull, trivial⟩ trivial Go.Proofs.Tryz.func34 rfl rfl (by decide) (fun _ => rfl) (by intro a K D; kernel_rfl)
noncomputable def A_interval_Width : ArgT (TInterval × Unit) := (ArgT.cons tyTInterval ArgT.nil)
noncomputable def R_interval_Width : Ty TRat := tyTRat
noncomputable def e_interval_Width : FSem := mkE A_interval_Width R_interval_Width (fun a => F.interval_Width a.1)
noncomputable def c_interval_Width : Cfg := { P := Go.Proofs.Tryz.prog, n := 8, tab := [(81, e_rational_Sub)], mutL := [], rtL := [(3, 1), (5, 1)], locL := [1, 2] }
noncomputable def b_interval_Width : Code := match Go.Proofs.Tryz.f36.body with | some c => c | none => .skip
noncomputable def a_interval_Width : An := (.seq .leaf (.seq .leaf .leaf))
theorem t_interval_Width : Entry Go.Proofs.Tryz.prog 36 e_interval_Width false :=
  entry_of (C := c_interval_Width) (fn := Go.Proofs.Tryz.f36) (c := b_interval_Width) (an := a_interval_Width) ⟨t_rational_Sub, trivial⟩ trivial Go.Proofs.Tryz.func36 rfl rfl (by decide) (fun _ => rfl) (by intro a K D; kernel_rfl)
noncomputable def A_law03_IntervalSums : ArgT (TInterval × TInterval × Unit) := (ArgT.cons tyTInterval (ArgT.cons tyTInterval ArgT.nil))
noncomputable def R_law03_IntervalSums : Ty Bool := (Ty.leaf .bool)
noncomputable def e_law03_IntervalSums : FSem := mkE A_law03_IntervalSums R_law03_IntervalSums (fun a => F.law03_IntervalSums a.1 a.2.1)
noncomputable def c_law03_IntervalSums : Cfg := { P := Go.Proofs.Tryz.prog, n := 41, tab := [(24, e_interval_Add), (33, e_ref03_Add), (16, e_ref03_Same), (26, e_interval_Sub), (34, e_ref03_Sub), (36, e_interval_Width), (27, e_ref02_Sub), (35, e_ref02_Same), (12, e_law03_awake), (13, e_law03_few)], mutL := [], rtL := [(34, 2), (36, 2)], locL := [2, 3] }
noncomputable def b_law03_IntervalSums : Code := match Go.Proofs.Tryz.f6.body with | some c => c | none => .skip
noncomputable def a_law03_IntervalSums : An := (.seq .leaf (.join [] (.seq .leaf (.cond (.seq .leaf .leaf) .leaf)) (.seq (.draw [0, 1, 3, 4, 2, 5, 6, 7, 8, 9, 11, 12, 10, 13, 14, 15, 16, 17, 19, 20, 21, 22, 18, 23, 24, 25, 26]) .leaf)))
theorem t_law03_IntervalSums : Entry Go.Proofs.Tryz.prog 6 e_law03_IntervalSums false :=
  entry_of (C := c_law03_IntervalSums) (fn := Go.Proofs.Tryz.f6) (c := b_law03_IntervalSums) (an := a_law03_IntervalSums) ⟨t_interval_Add, t_ref03_Add, t_ref03_Same, t_interval_Sub, t_ref03_Sub, t_interval_Width, t_ref02_Sub, t_ref02_Same, t_law03_awake, t_law03_few, trivial⟩ trivial Go.Proofs.Tryz.func6 rfl rfl (by decide) (fun _ => rfl) (by intro a K D; kernel_rfl)
noncomputable def A_interval_Round : ArgT (TInterval × Int × Unit) := (ArgT.cons tyTInterval (ArgT.cons (Ty.leaf (.int .i64)) ArgT.nil))
noncomputable def R_interval_Round : Ty TInterval := tyTInterval
noncomputable def e_interval_Round : FSem := mkE A_interval_Round R_interval_Round (fun a => F.interval_Round a.1 a.2.1)
noncomputable def c_interval_Round : Cfg := { P := Go.Proofs.Tryz.prog, n := 28, tab := [(59, e_interval_power), (61, e_interval_floor), (67, e_interval_over), (62, e_interval_ceil)], mutL := [], rtL := [(15, 2), (21, 2)], locL := [2, 4, 5] }
noncomputable def b_interval_Round : Code := match Go.Proofs.Tryz.f37.body with | some c => c | none => .skip
noncomputable def a_interval_Round : An := (.seq .leaf (.join [(4, .box [.bool, .sl, .bool, .sl, .bool, .sl, .bool, .sl])] (.seq .leaf (.cond (.seq .leaf .leaf) .leaf)) (.seq .leaf (.seq (.draw [0, 1, 2, 4, 6, 7, 8, 10, 3, 5, 9, 11, 12, 13]) .leaf))))
theorem t_interval_Round : Entry Go.Proofs.Tryz.prog 37 e_interval_Round false :=
  entry_of (C := c_interval_Round) (fn := Go.Proofs.Tryz.f37) (c := b_interval_Round) (an := a_interval_Round) ⟨t_interval_power, t_interval_floor, t_interval_over, t_interval_ceil, trivial⟩ trivial Go.Proofs.Tryz.func37 rfl rfl (by decide) (fun _ => rfl) (by intro a K D; kernel_rfl)
noncomputable def A_ref03_down : ArgT (TRat × Int × Unit) := (ArgT.cons tyTRat (ArgT.cons (Ty.leaf (.int .i64)) ArgT.nil))
noncomputable def R_ref03_down : Ty TRat := tyTRat
noncomputable def e_ref03_down : FSem := mkE A_ref03_down R_ref03_down (fun a => F.ref03_down a.1 a.2.1)
noncomputable def c_ref03_down : Cfg := { P := Go.Proofs.Tryz.prog, n := 15, tab := [(68, e_ref03_unit), (28, e_ref02_Mul), (70, e_ref02_Floor), (72, e_ref02_Make)], mutL := [], rtL := [(12, 5)], locL := [2, 4, 5] }
noncomputable def b_ref03_down : Code := match Go.Proofs.Tryz.f85.body with | some c => c | none => .skip
noncomputable def a_ref03_down : An := (.seq .leaf (.seq .leaf (.seq (.draw [0, 1, 4, 5, 2, 3, 6, 7]) .leaf)))
theorem t_ref03_down : Entry Go.Proofs.Tryz.prog 85 e_ref03_down false :=
  entry_of (C := c_ref03_down) (fn := Go.Proofs.Tryz.f85) (c := b_ref03_down) (an := a_ref03_down) ⟨t_ref03_unit, t_ref02_Mul, t_ref02_Floor, t_ref02_Make, trivial⟩ trivial Go.Proofs.Tryz.func85 rfl rfl (by decide) (fun _ => rfl) (by intro a K D; kernel_rfl)
noncomputable def A_ref03_up : ArgT (TRat × Int × Unit) := (ArgT.cons tyTRat (ArgT.cons (Ty.leaf (.int .i64)) ArgT.nil))
noncomputable def R_ref03_up : Ty TRat := tyTRat
noncomputable def e_ref03_up : FSem := mkE A_ref03_up R_ref03_up (fun a => F.ref03_up a.1 a.2.1)
noncomputable def c_ref03_up : Cfg := { P := Go.Proofs.Tryz.prog, n := 10, tab := [(32, e_ref02_Neg), (85, e_ref03_down)], mutL := [], rtL := [], locL := [2, 4] }
noncomputable def b_ref03_up : Code := match Go.Proofs.Tryz.f86.body with | some c => c | none => .skip
noncomputable def a_ref03_up : An := (.seq .leaf (.seq .leaf .leaf))
theorem t_ref03_up : Entry Go.Proofs.Tryz.prog 86 e_ref03_up false :=
  entry_of (C := c_ref03_up) (fn := Go.Proofs.Tryz.f86) (c := b_ref03_up) (an := a_ref03_up) ⟨t_ref02_Neg, t_ref03_down, trivial⟩ trivial Go.Proofs.Tryz.func86 rfl rfl (by decide) (fun _ => rfl) (by intro a K D; kernel_rfl)
noncomputable def A_ref03_Round : ArgT (TInterval × Int × Unit) := (ArgT.cons tyTInterval (ArgT.cons (Ty.leaf (.int .i64)) ArgT.nil))
noncomputable def R_ref03_Round : Ty TInterval := tyTInterval
noncomputable def e_ref03_Round : FSem := mkE A_ref03_Round R_ref03_Round (fun a => F.ref03_Round a.1 a.2.1)
noncomputable def c_ref03_Round : Cfg := { P := Go.Proofs.Tryz.prog, n := 21, tab := [(85, e_ref03_down), (86, e_ref03_up)], mutL := [], rtL := [(12, 2), (16, 2)], locL := [2, 4] }
noncomputable def b_ref03_Round : Code := match Go.Proofs.Tryz.f38.body with | some c => c | none => .skip
noncomputable def a_ref03_Round : An := (.seq .leaf (.join [(4, .box [.bool, .sl, .bool, .sl, .bool, .sl, .bool, .sl])] (.seq .leaf (.cond (.seq .leaf .leaf) .leaf)) (.seq (.draw [0, 1, 2, 4, 5, 6, 3, 7, 8, 9]) .leaf)))
theorem t_ref03_Round : Entry Go.Proofs.Tryz.prog 38 e_ref03_Round false :=
  entry_of (C := c_ref03_Round) (fn := Go.Proofs.Tryz.f38) (c := b_ref03_Round) (an := a_ref03_Round) ⟨t_ref03_down, t_ref03_up, trivial⟩ trivial Go.Proofs.Tryz.func38 rfl rfl (by decide) (fun _ => rfl) (by intro a K D; kernel_rfl)
noncomputable def A_interval_Within : ArgT (TInterval × TInterval × Unit) := (ArgT.cons tyTInterval (ArgT.cons tyTInterval ArgT.nil))
noncomputable def R_interval_Within : Ty Bool := (Ty.leaf .bool)
noncomputable def e_interval_Within : FSem := mkE A_interval_Within R_interval_Within (fun a => F.interval_Within a.1 a.2.1)
noncomputable def c_interval_Within : Cfg := { P := Go.Proofs.Tryz.prog, n := 15, tab := [(42, e_interval_Contains)], mutL := [], rtL := [(6, 2), (11, 2)], locL := [2, 3] }
noncomputable def b_interval_Within : Code := match Go.Proofs.Tryz.f39.body with | some c => c | none => .skip
noncomputable def a_interval_Within : An := (.seq .leaf (.seq .leaf .leaf))
theorem t_interval_Within : Entry Go.Proofs.Tryz.prog 39 e_interval_Within false :=
  entry_of (C := c_interval_Within) (fn := Go.Proofs.Tryz.f39) (c := b_interval_Within) (an := a_interval_Within) ⟨t_interval_Contains, trivial⟩ trivial Go.Proofs.Tryz.func39 rfl rfl (by decide) (fun _ => rfl) (by intro a K D; kernel_rfl)
noncomputable def A_law03_IntervalRound : ArgT (TInterval × Int × Unit) := (ArgT.cons tyTInterval (ArgT.cons (Ty.leaf (.int .i64)) ArgT.nil))
noncomputable def R_law03_IntervalRound : Ty Bool := (Ty.leaf .bool)
noncomputable def e_law03_IntervalRound : FSem := mkE A_law03_IntervalRound R_law03_IntervalRound (fun a => F.law03_IntervalRound a.1 a.2.1)
noncomputable def c_law03_IntervalRound : Cfg := { P := Go.Proofs.Tryz.prog, n := 44, tab := [(37, e_interval_Round), (38, e_ref03_Round), (16, e_ref03_Same), (39, e_interval_Within), (19, e_ref03_Zero), (12, e_law03_awake), (13, e_law03_few)], mutL := [], rtL := [], locL := [2, 5] }
noncomputable def b_law03_IntervalRound : Code := match Go.Proofs.Tryz.f7.body with | some c => c | none => .skip
noncomputable def a_law03_IntervalRound : An := (.seq .leaf (.join [] (.seq .leaf (.cond (.seq .leaf .leaf) .leaf)) (.seq .leaf (.join [] (.seq .leaf (.cond (.seq .leaf .leaf) .leaf)) (.seq (.draw [0, 1, 2, 3, 4, 5, 6, 7, 8, 9, 10]) .leaf)))))
theorem t_law03_IntervalRound : Entry Go.Proofs.Tryz.prog 7 e_law03_IntervalRound false :=
  entry_of (C := c_law03_IntervalRound) (fn := Go.Proofs.Tryz.f7) (c := b_law03_IntervalRound) (an := a_law03_IntervalRound) ⟨t_interval_Round, t_ref03_Round, t_ref03_Same, t_interval_Within, t_ref03_Zero, t_law03_awake, t_law03_few, trivial⟩ trivial Go.Proofs.Tryz.func7 rfl rfl (by decide) (fun _ => rfl) (by intro a K D; kernel_rfl)
noncomputable def A_interval_Sign : ArgT (TInterval × Unit) := (ArgT.cons tyTInterval ArgT.nil)
noncomputable def R_interval_Sign : Ty (Int × Bool) := (Ty.tup (.cons (Ty.leaf (.int .i64)) (.cons (Ty.leaf .bool) .nil)) (fun x => (x.1, x.2, ())) (fun y => (y.1, y.2.1)) (fun _ => rfl) (fun _ => rfl))
noncomputable def e_interval_Sign : FSem := mkE A_interval_Sign R_interval_Sign (fun a => F.interval_Sign a.1)
noncomputable def c_interval_Sign : Cfg := { P := Go.Proofs.Tryz.prog, n := 16, tab := [(58, e_rational_Sign)], mutL := [], rtL := [(6, 1), (9, 1)], locL := [1] }
noncomputable def b_interval_Sign : Code := match Go.Proofs.Tryz.f40.body with | some c => c | none => .skip
noncomputable def a_interval_Sign : An := (.seq .leaf (.seq (.draw [0, 1, 3, 4, 2, 5, 6, 7]) (.seq (.seq .leaf (.cond (.seq .leaf .leaf) .leaf)) (.seq .leaf .leaf))))
theorem t_interval_Sign : Entry Go.Proofs.Tryz.prog 40 e_interval_Sign false :=
  entry_of (C := c_interval_Sign) (fn := Go.Proofs.Tryz.f40) (c := b_interval_Sign) (an := a_interval_Sign) ⟨t_rational_Sign, trivial⟩ trivial Go.Proofs.Tryz.func40 rfl rfl (by decide) (fun _ => rfl) (by intro a K D; kernel_rfl)
noncomputable def A_ref03_Sign : ArgT (TInterval × Unit) := (ArgT.cons tyTInterval ArgT.nil)
noncomputable def R_ref03_Sign : Ty (Int × Bool) := (Ty.tup (.cons (Ty.leaf (.int .i64)) (.cons (Ty.leaf .bool) .nil)) (fun x => (x.1, x.2, ())) (fun y => (y.1, y.2.1)) (fun _ => rfl) (fun _ => rfl))
noncomputable def e_ref03_Sign : FSem := mkE A_ref03_Sign R_ref03_Sign (fun a => F.ref03_Sign a.1)
noncomputable def c_ref03_Sign : Cfg := { P := Go.Proofs.Tryz.prog, n := 16, tab := [(31, e_ref02_Sign)], mutL := [], rtL := [(6, 1), (9, 1)], locL := [1] }
noncomputable def b_ref03_Sign : Code := match Go.Proofs.Tryz.f41.body with | some c => c | none => .skip
noncomputable def a_ref03_Sign : An := (.seq .leaf (.seq (.draw [0, 1, 3, 4, 2, 5, 6, 7]) (.seq (.seq .leaf (.cond (.seq .leaf .leaf) .leaf)) (.seq .leaf .leaf))))
theorem t_ref03_Sign : Entry Go.Proofs.Tryz.prog 41 e_ref03_Sign false :=
  entry_of (C := c_ref03_Sign) (fn := Go.Proofs.Tryz.f41) (c := b_ref03_Sign) (an := a_ref03_Sign) ⟨t_ref02_Sign, trivial⟩ trivial Go.Proofs.Tryz.func41 rfl rfl (by decide) (fun _ => rfl) (by intro a K D; kernel_rfl)
noncomputable def A_law03_IntervalMembers : ArgT (TInterval × TInterval × TRat × Unit) := (ArgT.cons tyTInterval (ArgT.cons tyTInterval (ArgT.cons tyTRat ArgT.nil)))
noncomputable def R_law03_IntervalMembers : Ty Bool := (Ty.leaf .bool)
noncomputable def e_law03_IntervalMembers : FSem := mkE A_law03_IntervalMembers R_law03_IntervalMembers (fun a => F.law03_IntervalMembers a.1 a.2.1 a.2.2.1)
noncomputable def c_law03_IntervalMembers : Cfg := { P := Go.Proofs.Tryz.prog, n := 78, tab := [(40, e_interval_Sign), (41, e_ref03_Sign), (42, e_interval_Contains), (23, e_ref03_Contains), (39, e_interval_Within), (30, e_interval_Point), (43, e_ref03_Point), (16, e_ref03_Same), (12, e_law03_awake), (13, e_law03_few), (22, e_ref02_Few)], mutL := [], rtL := [(38, 3), (43, 3)], locL := [3, 4, 5] }
noncomputable def b_law03_IntervalMembers : Code := match Go.Proofs.Tryz.f8.body with | some c => c | none => .skip
noncomputable def a_law03_IntervalMembers : An := (.seq .leaf (.join [] (.seq .leaf (.cond (.seq .leaf .leaf) .leaf)) (.seq .leaf (.seq .leaf (.join [(11, .leaf (.bool))] .leaf (.seq (.draw [0, 1, 3, 4, 2, 5, 6, 7, 8, 9, 11, 10, 12, 13, 14, 15, 16, 17, 18, 19, 20, 21, 22, 23, 24, 25, 27, 26, 28, 29, 30, 31]) .leaf))))))
theorem t_law03_IntervalMembers : Entry Go.Proofs.Tryz.prog 8 e_law03_IntervalMembers false :=
  entry_of (C := c_law03_IntervalMembers) (fn := Go.Proofs.Tryz.f8) (c := b_law03_IntervalMembers) (an := a_law03_IntervalMembers) ⟨t_interval_Sign, t_ref03_Sign, t_interval_Contains, t_ref03_Contains, t_interval_Within, t_interval_Point, t_ref03_Point, t_ref03_Same, t_law03_awake, t_law03_few, t_ref02_Few, trivial⟩ trivial Go.Proofs.Tryz.func8 rfl rfl (by decide) (fun _ => rfl) (by intro a K D; kernel_rfl)
noncomputable def A_ref03_Meet : ArgT (TInterval × TInterval × Unit) := (ArgT.cons tyTInterval (ArgT.cons tyTInterval ArgT.nil))
noncomputable def R_ref03_Meet : Ty (TInterval × Bool) := (Ty.tup (.cons tyTInterval (.cons (Ty.leaf .bool) .nil)) (fun x => (x.1, x.2, ())) (fun y => (y.1, y.2.1)) (fun _ => rfl) (fun _ => rfl))
noncomputable def e_ref03_Meet : FSem := mkE A_ref03_Meet R_ref03_Meet (fun a => F.ref03_Meet a.1 a.2.1)
noncomputable def c_ref03_Meet : Cfg := { P := Go.Proofs.Tryz.prog, n := 34, tab := [(71, e_ref02_Cmp)], mutL := [], rtL := [(8, 3), (10, 6), (14, 3), (16, 6), (17, 3), (19, 6), (23, 3), (25, 6), (26, 6), (28, 6)], locL := [2, 3, 4, 6] }
noncomputable def b_ref03_Meet : Code := match Go.Proofs.Tryz.f44.body with | some c => c | none => .skip
noncomputable def a_ref03_Meet : An := (.seq .leaf (.seq .leaf (.join [(6, .box [.bool, .sl, .bool, .sl, .bool, .sl, .bool, .sl])] (.seq .leaf (.cond .leaf .leaf)) (.join [(6, .box [.bool, .sl, .bool, .sl, .bool, .sl, .bool, .sl])] (.seq .leaf (.cond .leaf .leaf)) (.seq (.seq .leaf (.cond (.seq .leaf .leaf) .leaf)) (.seq .leaf .leaf))))))
theorem t_ref03_Meet : Entry Go.Proofs.Tryz.prog 44 e_ref03_Meet false :=
  entry_of (C := c_ref03_Meet) (fn := Go.Proofs.Tryz.f44) (c := b_ref03_Meet) (an := a_ref03_Meet) ⟨t_ref02_Cmp, trivial⟩ trivial Go.Proofs.Tryz.func44 rfl rfl (by decide) (fun _ => rfl) (by intro a K D; kernel_rfl)
noncomputable def A_law03_IntervalMonotonic : ArgT (TInterval × TInterval × TInterval × Unit) := (ArgT.cons tyTInterval (ArgT.cons tyTInterval (ArgT.cons tyTInterval ArgT.nil)))
noncomputable def R_law03_IntervalMonotonic : Ty Bool := (Ty.leaf .bool)
noncomputable def e_law03_IntervalMonotonic : FSem := mkE A_law03_IntervalMonotonic R_law03_IntervalMonotonic (fun a => F.law03_IntervalMonotonic a.1 a.2.1 a.2.2.1)
noncomputable def c_law03_IntervalMonotonic : Cfg := { P := Go.Proofs.Tryz.prog, n := 83, tab := [(44, e_ref03_Meet), (14, e_interval_Div), (39, e_interval_Within), (24, e_interval_Add), (17, e_interval_Mul), (26, e_interval_Sub), (12, e_law03_awake), (13, e_law03_few)], mutL := [], rtL := [], locL := [3, 4, 5, 7, 9, 11] }
noncomputable def b_law03_IntervalMonotonic : Code := match Go.Proofs.Tryz.f9.body with | some c => c | none => .skip
noncomputable def a_law03_IntervalMonotonic : An := (.seq .leaf (.join [] (.seq .leaf (.cond (.seq .leaf .leaf) .leaf)) (.seq .leaf (.seq (.seq .leaf (.cond (.seq .leaf .leaf) .leaf)) (.join [] (.seq (.draw [0, 1, 3, 4, 2, 5, 6, 7, 8, 9, 10, 12, 13, 11, 14, 15, 16, 17, 18, 19, 20, 22, 23, 21, 24, 25, 26, 27]) (.cond (.seq .leaf .leaf) .leaf)) (.seq .leaf (.seq .leaf (.seq .leaf .leaf))))))))
theorem t_law03_IntervalMonotonic : Entry Go.Proofs.Tryz.prog 9 e_law03_IntervalMonotonic false :=
  entry_of (C := c_law03_IntervalMonotonic) (fn := Go.Proofs.Tryz.f9) (c := b_law03_IntervalMonotonic) (an := a_law03_IntervalMonotonic) ⟨t_ref03_Meet, t_interval_Div, t_interval_Within, t_interval_Add, t_interval_Mul, t_interval_Sub, t_law03_awake, t_law03_few, trivial⟩ trivial Go.Proofs.Tryz.func9 rfl rfl (by decide) (fun _ => rfl) (by intro a K D; kernel_rfl)
noncomputable def A_integer_Valid : ArgT (TInt × Unit) := (ArgT.cons tyTInt ArgT.nil)
noncomputable def R_integer_Valid : Ty Bool := (Ty.leaf .bool)
noncomputable def e_integer_Valid : FSem := mkE A_integer_Valid R_integer_Valid (fun a => F.integer_Valid a.1)
noncomputable def c_integer_Valid : Cfg := { P := Go.Proofs.Tryz.prog, n := 27, tab := [], mutL := [], rtL := [(4, 1), (10, 1), (18, 1)], locL := [1] }
noncomputable def b_integer_Valid : Code := match Go.Proofs.Tryz.f125.body with | some c => c | none => .skip
noncomputable def a_integer_Valid : An := (.seq .leaf (.seq .leaf (.seq .leaf .leaf)))
theorem t_integer_Valid : Entry Go.Proofs.Tryz.prog 125 e_integer_Valid false :=
  entry_of (C := c_integer_Valid) (fn := Go.Proofs.Tryz.f125) (c := b_integer_Valid) (an := a_integer_Valid) trivial trivial Go.Proofs.Tryz.func125 rfl rfl (by decide) (fun _ => rfl) (by intro a K D; kernel_rfl)
noncomputable def A_rational_Valid : ArgT (TRat × Unit) := (ArgT.cons tyTRat ArgT.nil)
noncomputable def R_rational_Valid : Ty Bool := (Ty.leaf .bool)
noncomputable def e_rational_Valid : FSem := mkE A_rational_Valid R_rational_Valid (fun a => F.rational_Valid a.1)
noncomputable def c_rational_Valid : Cfg := { P := Go.Proofs.Tryz.prog, n := 25, tab := [(125, e_integer_Valid), (94, e_integer_Sign), (126, e_integer_GCD), (93, e_rational_isOne)], mutL := [], rtL := [(3, 1), (7, 1), (12, 1), (18, 1), (20, 1)], locL := [1] }
noncomputable def b_rational_Valid : Code := match Go.Proofs.Tryz.f88.body with | some c => c | none => .skip
noncomputable def a_rational_Valid : An := (.seq .leaf (.seq .leaf .leaf))
theorem t_rational_Valid : Entry Go.Proofs.Tryz.prog 88 e_rational_Valid false :=
  entry_of (C := c_rational_Valid) (fn := Go.Proofs.Tryz.f88) (c := b_rational_Valid) (an := a_rational_Valid) ⟨t_integer_Valid, t_integer_Sign, t_integer_GCD, t_rational_isOne, trivial⟩ trivial Go.Proofs.Tryz.func88 rfl rfl (by decide) (fun _ => rfl) (by intro a K D; kernel_rfl)
noncomputable def A_interval_Valid : ArgT (TInterval × Unit) := (ArgT.cons tyTInterval ArgT.nil)
noncomputable def R_interval_Valid : Ty Bool := (Ty.leaf .bool)
noncomputable def e_interval_Valid : FSem := mkE A_interval_Valid R_interval_Valid (fun a => F.interval_Valid a.1)
noncomputable def c_interval_Valid : Cfg := { P := Go.Proofs.Tryz.prog, n := 19, tab := [(88, e_rational_Valid), (87, e_rational_Cmp)], mutL := [], rtL := [(3, 1), (7, 1), (12, 1), (14, 1)], locL := [1] }
noncomputable def b_interval_Valid : Code := match Go.Proofs.Tryz.f45.body with | some c => c | none => .skip
noncomputable def a_interval_Valid : An := (.seq .leaf (.seq .leaf .leaf))
theorem t_interval_Valid : Entry Go.Proofs.Tryz.prog 45 e_interval_Valid false :=
  entry_of (C := c_interval_Valid) (fn := Go.Proofs.Tryz.f45) (c := b_interval_Valid) (an := a_interval_Valid) ⟨t_rational_Valid, t_rational_Cmp, trivial⟩ trivial Go.Proofs.Tryz.func45 rfl rfl (by decide) (fun _ => rfl) (by intro a K D; kernel_rfl)
noncomputable def A_law03_IntervalValid : ArgT (TInterval × Unit) := (ArgT.cons tyTInterval ArgT.nil)
noncomputable def R_law03_IntervalValid : Ty Bool := (Ty.leaf .bool)
noncomputable def e_law03_IntervalValid : FSem := mkE A_law03_IntervalValid R_law03_IntervalValid (fun a => F.law03_IntervalValid a.1)
noncomputable def c_law03_IntervalValid : Cfg := { P := Go.Proofs.Tryz.prog, n := 39, tab := [(45, e_interval_Valid), (46, e_ref03_Valid), (12, e_law03_awake)], mutL := [], rtL := [(4, 1), (5, 1), (6, 1), (9, 1), (10, 1), (11, 1), (15, 1), (16, 1), (17, 1), (21, 1), (22, 1), (23, 1)], locL := [1] }
noncomputable def b_law03_IntervalValid : Code := match Go.Proofs.Tryz.f10.body with | some c => c | none => .skip
noncomputable def a_law03_IntervalValid : An := (.seq .leaf (.seq .leaf (.join [] (.seq .leaf (.cond (.seq .leaf .leaf) .leaf)) (.seq (.draw [0, 2, 1, 3, 4, 5]) .leaf))))
theorem t_law03_IntervalValid : Entry Go.Proofs.Tryz.prog 10 e_law03_IntervalValid false :=
  entry_of (C := c_law03_IntervalValid) (fn := Go.Proofs.Tryz.f10) (c := b_law03_IntervalValid) (an := a_law03_IntervalValid) ⟨t_interval_Valid, t_ref03_Valid, t_law03_awake, trivial⟩ trivial Go.Proofs.Tryz.func10 rfl rfl (by decide) (fun _ => rfl) (by intro a K D; kernel_rfl)
noncomputable def A_interval_Meet : ArgT (TInterval × TInterval × Unit) := (ArgT.cons tyTInterval (ArgT.cons tyTInterval ArgT.nil))
noncomputable def R_interval_Meet : Ty (TInterval × Bool) := (Ty.tup (.cons tyTInterval (.cons (Ty.leaf .bool) .nil)) (fun x => (x.1, x.2, ())) (fun y => (y.1, y.2.1)) (fun _ => rfl) (fun _ => rfl))
noncomputable def e_interval_Meet : FSem := mkE A_interval_Meet R_interval_Meet (fun a => F.interval_Meet a.1 a.2.1)
noncomputable def c_interval_Meet : Cfg := { P := Go.Proofs.Tryz.prog, n := 35, tab := [(87, e_rational_Cmp), (55, e_interval_hull)], mutL := [], rtL := [(8, 2), (10, 2), (12, 3), (17, 3), (19, 3), (24, 3)], locL := [2, 3, 4, 6, 7] }
noncomputable def b_interval_Meet : Code := match Go.Proofs.Tryz.f47.body with | some c => c | none => .skip
noncomputable def a_interval_Meet : An := (.seq .leaf (.seq (.draw [0, 1, 2, 3, 4, 5, 6, 7]) (.join [(6, .box [.bool, .sl, .bool, .sl])] (.seq .leaf (.cond .leaf .leaf)) (.join [(7, .box [.bool, .sl, .bool, .sl])] (.seq .leaf (.cond .leaf .leaf)) (.seq (.seq .leaf (.cond (.seq .leaf .leaf) .leaf)) (.seq .leaf .leaf))))))
theorem t_interval_Meet : Entry Go.Proofs.Tryz.prog 47 e_interval_Meet false :=
  entry_of (C := c_interval_Meet) (fn := Go.Proofs.Tryz.f47) (c := b_interval_Meet) (an := a_interval_Meet) ⟨t_rational_Cmp, t_interval_hull, trivial⟩ trivial Go.Proofs.Tryz.func47 rfl rfl (by decide) (fun _ => rfl) (by intro a K D; kernel_rfl)
noncomputable def A_law03_IntervalMeet : ArgT (TInterval × TInterval × TRat × Unit) := (ArgT.cons tyTInterval (ArgT.cons tyTInterval (ArgT.cons tyTRat ArgT.nil)))
noncomputable def R_law03_IntervalMeet : Ty Bool := (Ty.leaf .bool)
noncomputable def e_law03_IntervalMeet : FSem := mkE A_law03_IntervalMeet R_law03_IntervalMeet (fun a => F.law03_IntervalMeet a.1 a.2.1 a.2.2.1)
noncomputable def c_law03_IntervalMeet : Cfg := { P := Go.Proofs.Tryz.prog, n := 74, tab := [(47, e_interval_Meet), (44, e_ref03_Meet), (42, e_interval_Contains), (16, e_ref03_Same), (19, e_ref03_Zero), (12, e_law03_awake), (13, e_law03_few), (22, e_ref02_Few)], mutL := [], rtL := [], locL := [3, 4, 5, 7, 9] }
noncomputable def b_law03_IntervalMeet : Code := match Go.Proofs.Tryz.f11.body with | some c => c | none => .skip
noncomputable def a_law03_IntervalMeet : An := (.seq .leaf (.join [] (.seq .leaf (.cond (.seq .leaf .leaf) .leaf)) (.seq .leaf (.seq .leaf (.join [] (.seq .leaf (.cond (.seq .leaf .leaf) .leaf)) (.seq (.draw [0, 1, 2, 3, 6, 7, 4, 5, 8, 9, 10, 11, 12, 13, 14, 15]) .leaf))))))
theorem t_law03_IntervalMeet : Entry Go.Proofs.Tryz.prog 11 e_law03_IntervalMeet false :=
  entry_of (C := c_law03_IntervalMeet) (fn := Go.Proofs.Tryz.f11) (c := b_law03_IntervalMeet) (an := a_law03_IntervalMeet) ⟨t_interval_Meet, t_ref03_Meet, t_interval_Contains, t_ref03_Same, t_ref03_Zero, t_law03_awake, t_law03_few, t_ref02_Few, trivial⟩ trivial Go.Proofs.Tryz.func11 rfl rfl (by decide) (fun _ => rfl) (by intro a K D; kernel_rfl)
end Den
end

section
/-
  From the entry of a law to its row: what was there stands behind the call.
-/
set_option linter.unusedVariables false
namespace Den
open Go
open Go.ChangeShapes Go.WideShapes Go.ChangeAt Go.RowKit

theorem old_same {D h' : Hp} {w w' : World} (hs : Sub D w) (hf : Fr D w w') (hs' : Sub h' w') (hl : D.le h') : ∀ k, k < w.heap.size → w'.heap[k]? = w.heap[k]? := fun k hk => by
  cases hD : D k with
  | none => exact hf.2.1 k hk hD
  | some b => rw [hs' k b (hl k b hD), hs k b hD]

theorem kept_of_same {w w' : World} (h1 : w'.os = w.os) (h2 : w'.output = w.output) (h3 : ∀ k, k < w.heap.size → w'.heap[k]? = w.heap[k]?) (may : MemPlace → Prop) : w.keptBut w' may := by
  refine ⟨h1, h2, fun i hi => ?_⟩
  rw [h3 i hi]
  exact (World.keptBut_refl w may).2.2 i hi

theorem frozen_of_same {w w' : World} (h3 : ∀ k, k < w.heap.size → w'.heap[k]? = w.heap[k]?) {a : Addr} (ha : a.block < w.heap.size) : w'.frozen? a = w.frozen? a := by
  unfold World.frozen?; rw [h3 _ ha]
theorem cell_of_same {w w' : World} (h3 : ∀ k, k < w.heap.size → w'.heap[k]? = w.heap[k]?) {a : Addr} (ha : a.block < w.heap.size) : w'.cell? a = w.cell? a := by
  unfold World.cell?; rw [h3 _ ha]

section
variable {H : Type} {enc : TypeId × Value → H} {P : Program}

/-- 'post_of_same', with the marks of what was there alone. -/
theorem post_of_same2 {f : Func} {s : ChangeSpec} {apart fresh handsOn again : Bool} {W W' : World} {args : Array Value} {v : Value} {ds gs : List (DataW H)} {before pa pv : List MemPlace}
    (hW : DataW.Whole enc P f.params.toList s.vars apart W args.toList ds gs before)
    (hres : ∀ (b : Nat) (sp : Nat → Bool) (hd : Bool), DataW.TrodAll enc P W' b sp hd f.resultTypes.toList (v.resultList f.resultTypes.size) (s.fn H (ds ++ gs)).results [])
    (hargs : ∀ sp : Nat → Bool, (∀ p ∈ before, sp p.block = true) → DataW.TrodAll enc P W' 0 sp true f.params.toList args.toList (s.fn H (ds ++ gs)).args pa)
    (hvars : ∀ sp : Nat → Bool, (∀ p ∈ before, sp p.block = true) → DataW.TrodVars enc P W' sp s.vars (s.fn H (ds ++ gs)).vars pv)
    (hps : before = pa ++ pv) (hk : W.keptBut W' (· ∈ before)) (hfz : ∀ a, a.block < W.heap.size → W'.frozen? a = W.frozen? a)
    (hok : ∀ (j : Nat) (t : TypeId) (r : Value), f.resultTypes[j]? = some t → (v.resultList f.resultTypes.size)[j]? = some r → Value.okWide P W' .any 0 t r) :
    s.post enc P f apart fresh handsOn again W args v W' := by
  have hold : ∀ p ∈ before, (fun b => decide (b < W.heap.size)) p.block = true := fun p hp => by simpa using hW.lt p hp
  have hlt := hW.lt
  refine ⟨ds, gs, before, [], pa, pv, hW, hres _ _ _, hargs _ hold, hvars _ hold, World.keptBut_mono (fun p hp => ⟨hp, ?_⟩) hk, fun _ => ?_⟩
  · rw [hps, List.mem_append] at hp
    exact Or.inr hp
  · obtain ⟨_, _, _, _, _, hz, hn⟩ := hW
    refine ⟨hok, _, _, ([] ++ pa) ++ pv, ⟨[] ++ pa, pv, trodAll_append (hargs _ (fun _ _ => rfl)) (hres _ _ _), hvars _ (fun _ _ => rfl), rfl, ?_, ?_⟩, ?_⟩
    · intro b off hp
      have hp' : MemPlace.cell b off ∈ before := by rw [hps]; simpa using hp
      rw [hfz _ (hlt _ hp')]
      exact hz b off hp'
    · intro ha
      have := hn ha
      rw [hps] at this
      simpa using this
    · intro p hp _
      rw [hps]
      simpa using hp
end

/-- The call of a law. -/
theorem law_calls {α : Type} {A : ArgT α} {F : α → (Bool → Hp → Prop) → Hp → Prop} {P : Program} {g : Nat} (hE : Entry P g (mkE A (Ty.leaf .bool) F) false) (a : α) (D : Hp) (w : World) (hs : Sub D w)
    (hF : ∀ K : Bool → Hp → Prop, (∀ h', D.le h' → K true h') → F a K D) :
    Calls P g (A.up a).toArray w fun e w' => e = .returned (.bool true) ∧ w'.os = w.os ∧ w'.output = w.output ∧ w.heap.size ≤ w'.heap.size ∧ ∀ k, k < w.heap.size → w'.heap[k]? = w.heap[k]? := by
  refine (hE.fn.2 (A.up a) (fun v h' => v = .bool true ∧ D.le h') D w hs ((A.cmp a _).2 ?_)).mono ?_
  · exact callP_of (fun v _ => v = true) (fun K' hk => hF _ fun h' hl => hk _ _ hl rfl) fun v h' hl hv => by subst hv; exact ⟨rfl, hl⟩
  · rintro e w' ⟨v, h', rfl, ⟨rfl, hl⟩, hs', hf, hd⟩
    exact ⟨rfl, hf.2.2.2.1, hf.2.2.2.2.1, hf.1, old_same hs hf hs' hl⟩
end Den
end

section
/-
  Arguments that hold slices: the memory of the world as a heap, what the arguments hold in it, and that they read the same where the old memory is the same.
-/
set_option linter.unusedVariables false
namespace Den
open Go
open Go.ChangeShapes Go.WideShapes Go.ChangeAt Go.RowKit
/-- All blocks of cells. -/
def hpW (w : World) : Hp := fun k => match w.heap[k]? with | some (.cells cs e fz) => some ⟨cs.toList, e, fz⟩ | _ => none
theorem hpW_sub (w : World) : Sub (hpW w) w := fun k b hk => by
  unfold hpW at hk
  split at hk
  · rename_i cs e fz h
    cases hk
    rw [h]
  · cases hk
theorem hpW_cell (w : World) (a : Addr) : (hpW w).cell a = w.cell? a := by
  unfold Hp.cell hpW World.cell?
  cases hs : a.spot with
  | some x => cases w.heap[a.block]? with
    | none => rfl
    | some o => cases o <;> simp
  | none => cases w.heap[a.block]? with
    | none => rfl
    | some o => cases o <;> simp
theorem hpW_cells {w : World} {a : Addr} : ∀ {cs : List Value}, (∀ i, i < cs.length → w.cell? (a.add i) = cs[i]?) → cellsAt (hpW w) a cs.length = some cs := by
  suffices H : ∀ (n : Nat) (cs : List Value), n ≤ cs.length → (∀ i, i < cs.length → w.cell? (a.add i) = cs[i]?) → cellsAt (hpW w) a n = some (cs.take n) from fun {cs} h => by
    rw [H cs.length cs (Nat.le_refl _) h, List.take_length]
  intro n
  induction n with
  | zero => intro cs _ _; rfl
  | succ n ih =>
    intro cs hn h
    unfold cellsAt
    rw [ih cs (by omega) h]
    simp only
    rw [hpW_cell, h n (by omega), List.getElem?_eq_getElem (by omega)]
    simp only
    rw [List.take_add_one, List.getElem?_eq_getElem (by omega)]
    rfl

section
variable {H : Type} {enc : TypeId × Value → H} {P : Program} {w w' : World}

/-- The types of a program whose slices have elements with cells. -/
def sizedB (P : Program) : Bool := (List.range P.types.size).all fun t => match P.underlying t with | some (.slice e) => decide (0 < P.cellsOf e) | _ => true
theorem sized_of (h : sizedB P = true) {t e : TypeId} (ht : t < P.types.size) (hu : P.underlying t = some (.slice e)) : 0 < P.cellsOf e := by
  have := List.all_eq_true.1 h t (List.mem_range.2 ht)
  rw [hu] at this
  simpa using this

theorem trodAll_same (hl : laidOutB P = true) (hm : mapsRowed P = true) (hz : sizedB P = true) (h3 : ∀ k, k < w.heap.size → w'.heap[k]? = w.heap[k]?) {sp : Nat → Bool} :
    ∀ {ts : List TypeId} {vs : List Value} {ds : List (DataW H)} {ps : List MemPlace}, (∀ t ∈ ts, t < P.types.size) → (∀ p ∈ ps, p.block < w.heap.size) → (∀ p ∈ ps, sp p.block = true) →
      DataW.TrodAll enc P w 0 (fun _ => true) true ts vs ds ps → DataW.TrodAll enc P w' 0 sp true ts vs ds ps
  | [], [], [], _, _, _, _, h => h
  | t :: ts, v :: vs, d :: ds, _, ht, hp, hs, ⟨p, q, ⟨n, hn⟩, h2, e⟩ => by
    subst e
    refine ⟨p, q, ⟨n, ?_⟩, trodAll_same hl hm hz h3 (fun t h => ht t (List.mem_cons_of_mem _ h)) (fun x hx => hp x (List.mem_append_right _ hx)) (fun x hx => hs x (List.mem_append_right _ hx)) h2, rfl⟩
    refine DataW.trod_stays (T := fun t => t < P.types.size) (kids_rows hl hm) (fun h h' => sized_of hz h h') (by intro hh; cases hh) (ht t (by simp)) hn (fun x hx => ?_) (fun x hx => hs x (List.mem_append_left _ hx))
    have hb := hp x (List.mem_append_left _ hx)
    cases x with
    | cell b off => exact cell_of_same h3 (a := ⟨b, off, none⟩) hb
    | map b => exact h3 b hb

/-! ### What the cells of a value hold -/

/-- These cells are those of a value of the type t, none of whose slices and strings is too large for the memory. -/
def Okt (enc : TypeId × Value → H) (P : Program) (w : World) (t : TypeId) (cs : List Value) : Prop := ∃ n x, DataW.trod enc P w 0 (fun _ => true) true n t cs = some x ∧ ∀ k ∈ x.1.weights P t, k ≤ reachBytes

theorem mem_weightsEach : ∀ {ts : List TypeId} {ds : List (DataW H)} {i : Nat} {t : TypeId} {d : DataW H}, ts[i]? = some t → ds[i]? = some d → ∀ k ∈ d.weights P t, k ∈ DataW.weightsEach P ts ds
  | [], _, _, _, _, h, _, _, _ => by simp at h
  | _ :: _, [], _, _, _, _, h, _, _ => by simp at h
  | t :: ts, d :: ds, 0, _, _, h1, h2, k, hk => by
    simp only [List.getElem?_cons_zero, Option.some.injEq] at h1 h2
    subst h1 h2
    unfold DataW.weightsEach
    exact List.mem_append_left _ hk
  | t :: ts, d :: ds, i + 1, _, _, h1, h2, k, hk => by
    simp only [List.getElem?_cons_succ] at h1 h2
    unfold DataW.weightsEach
    exact List.mem_append_right _ (mem_weightsEach h1 h2 k hk)
theorem mem_weightsAll {e : TypeId} : ∀ {ds : List (DataW H)} {d : DataW H}, d ∈ ds → ∀ k ∈ d.weights P e, k ∈ DataW.weightsAll P e ds
  | [], _, h, _, _ => by simp at h
  | d :: ds, x, h, k, hk => by
    unfold DataW.weightsAll
    rcases List.mem_cons.1 h with rfl | h
    · exact List.mem_append_left _ hk
    · exact List.mem_append_right _ (mem_weightsAll h k hk)

theorem Okt.bool {t : TypeId} {cs : List Value} (ht : P.underlying t = some .bool) (h : Okt enc P w t cs) : ∃ b : Bool, cs = [.bool b] := by
  obtain ⟨n, x, h, _⟩ := h
  obtain ⟨b, hb, _⟩ := DataW.trod_bool ht h
  exact ⟨b, hb⟩
theorem Okt.int {t : TypeId} {k : IntKind} {cs : List Value} (ht : P.underlying t = some (.int k)) (h : Okt enc P w t cs) : ∃ m : Int, cs = [.int k m] ∧ (Lit.int k m).wf = true := by
  obtain ⟨n, x, h, _⟩ := h
  obtain ⟨m, hb, _, hw⟩ := DataW.trod_int ht h
  exact ⟨m, hb, hw⟩
theorem Okt.str {t : TypeId} {cs : List Value} (ht : P.underlying t = some .string) (h : Okt enc P w t cs) : ∃ s : ByteArray, cs = [.string s] ∧ s.size ≤ reachBytes := by
  obtain ⟨n, x, h, hw⟩ := h
  obtain ⟨s, hb, e, hs⟩ := DataW.trod_string ht h
  refine ⟨s, hb, ?_⟩
  subst e
  have := hw s.data.toList.length (by simp only [DataW.weights, List.mem_singleton])
  simpa using this
theorem Okt.fields {t : TypeId} {fs : Array Field} {cs : List Value} (ht : P.underlying t = some (.struct fs)) (h : Okt enc P w t cs) :
    cs.length = P.cellsOf t ∧ ∀ (i : Nat) (f : Field), fs[i]? = some f → Okt enc P w f.type ((cs.drop f.offset).take (P.cellsOf f.type)) := by
  obtain ⟨n, x, h, hw⟩ := h
  obtain ⟨xs, m, _, e, hl, hx, hf⟩ := DataW.trod_struct ht h
  subst e
  simp only [DataW.weights, ht] at hw
  refine ⟨hl, fun i f hi => ⟨m, ?_⟩⟩
  have h1 := hf i f hi
  have h2 : i < xs.length := by rw [hx]; exact (Array.getElem?_eq_some_iff.1 hi).1
  rw [List.getElem?_eq_getElem h2] at h1
  refine ⟨_, h1, fun k hk => hw k (mem_weightsEach (i := i) ?_ ?_ k hk)⟩
  · rw [List.getElem?_map, Array.getElem?_toList, hi]; rfl
  · rw [List.getElem?_map, List.getElem?_eq_getElem h2]; rfl
theorem Okt.items {t e : TypeId} {k : Nat} {cs : List Value} (ht : P.underlying t = some (.array k e)) (h : Okt enc P w t cs) :
    cs.length = P.cellsOf t ∧ ∀ i, i < k → Okt enc P w e ((cs.drop (i * P.cellsOf e)).take (P.cellsOf e)) := by
  obtain ⟨n, x, h, hw⟩ := h
  obtain ⟨xs, m, _, ee, hl, hx, hf⟩ := DataW.trod_array ht h
  subst ee
  simp only [DataW.weights, ht] at hw
  refine ⟨hl, fun i hi => ⟨m, ?_⟩⟩
  have h1 := hf i hi
  rw [List.getElem?_eq_getElem (by omega)] at h1
  exact ⟨_, h1, fun k hk => hw k (mem_weightsAll (List.mem_map.2 ⟨_, List.getElem_mem (by omega), rfl⟩) k hk)⟩
theorem flatk_len {css : List (List Value)} {k : Nat} (h : ∀ c ∈ css, c.length = k) : css.flatten.length = css.length * k := by
  induction css with
  | nil => simp
  | cons c r ih => rw [List.flatten_cons, List.length_append, ih (fun x hx => h x (by simp [hx])), h c (by simp), List.length_cons, Nat.add_mul]; omega
theorem flatk_get {css : List (List Value)} {k : Nat} (h : ∀ c ∈ css, c.length = k) : ∀ {i j : Nat}, j < k → css.flatten[i * k + j]? = css[i]?.bind fun c => c[j]? := by
  induction css with
  | nil => intro i j _; simp
  | cons c r ih =>
    intro i j hj
    have hc := h c (by simp)
    cases i with
    | zero => rw [List.flatten_cons, List.getElem?_append_left (by omega)]; simp
    | succ i =>
      rw [List.flatten_cons, List.getElem?_append_right (by rw [hc, Nat.add_mul]; omega), hc, show (i + 1) * k + j - k = i * k + j by rw [Nat.add_mul]; omega, ih (fun x hx => h x (by simp [hx])) hj]
      simp
theorem Okt.slice {t e : TypeId} {cs : List Value} (ht : P.underlying t = some (.slice e)) (h : Okt enc P w t cs) :
    ∃ s : Sl, cs = [Lf.sl.up s] ∧ s.len ≤ s.cap ∧ s.len * P.bytesOf e ≤ reachBytes ∧ ∃ css : List (List Value), css.length = s.len ∧ (∀ c ∈ css, c.length = P.cellsOf e ∧ Okt enc P w e c) ∧ Rd (hpW w) (P.cellsOf e) s css.flatten := by
  obtain ⟨n, x, h, hw⟩ := h
  rcases DataW.trod_slice ht h with ⟨rfl, _⟩ | ⟨a, len, cap, elems, rest, m, _, rfl, ex, _, hl, hm, hlen, hel, _, _⟩
  · exact ⟨⟨none, 0, 0⟩, rfl, Nat.le_refl _, by simp, [], rfl, by simp, by simp, rfl⟩
  · subst ex
    simp only [DataW.weights, ht] at hw
    have hby : len * P.bytesOf e ≤ reachBytes := by
      refine Nat.le_trans (Nat.mul_le_mul_right _ ?_) (hw _ (List.mem_cons_self ..))
      simp only [List.length_map, hlen]
      omega
    have each : ∀ i, i < len → ∃ c, w.cells? 0 (a.add (i * P.cellsOf e)) (P.cellsOf e) = some c ∧ Okt enc P w e c := fun i hi => by
      have h1 := hel i hi
      rw [List.getElem?_eq_getElem (by omega), Option.bind_eq_some_iff] at h1
      obtain ⟨c, hc, hd⟩ := h1
      exact ⟨c, hc, m, _, hd, fun k hk => hw k (List.mem_cons_of_mem _ (List.mem_append_left _ (mem_weightsAll (List.mem_map.2 ⟨_, List.getElem_mem (by omega), rfl⟩) k hk)))⟩
    have hall : ∀ k, k ≤ len → ∃ css : List (List Value), css.length = k ∧ ∀ i (hi : i < css.length), w.cells? 0 (a.add (i * P.cellsOf e)) (P.cellsOf e) = some css[i] ∧ Okt enc P w e css[i] := by
      intro k
      induction k with
      | zero => intro _; exact ⟨[], rfl, fun i hi => by simp at hi⟩
      | succ k ih =>
        intro hk
        obtain ⟨css, h1, h2⟩ := ih (by omega)
        obtain ⟨c, hc, hd⟩ := each k (by omega)
        refine ⟨css ++ [c], by simp [h1], fun i hi => ?_⟩
        by_cases hik : i < css.length
        · rw [List.getElem_append_left hik]; exact h2 i hik
        · have : i = k := by simp at hi; omega
          subst this
          rw [List.getElem_append_right (by omega)]
          simpa [h1] using ⟨hc, hd⟩
    obtain ⟨css, h1, h2⟩ := hall len (Nat.le_refl _)
    have hsz : ∀ c ∈ css, c.length = P.cellsOf e := fun c hc => by
      obtain ⟨i, hi, rfl⟩ := List.mem_iff_getElem.1 hc
      exact (World.cells?_some (h2 i hi).1).2.1
    refine ⟨⟨some a, len, cap⟩, rfl, hl, hby, css, h1, fun c hc => ⟨hsz c hc, ?_⟩, ?_, ?_⟩
    · obtain ⟨i, hi, rfl⟩ := List.mem_iff_getElem.1 hc
      exact (h2 i hi).2
    · rw [flatk_len hsz, h1]
    · refine hpW_cells fun i hi => ?_
      rw [flatk_len hsz] at hi
      have hk : 0 < P.cellsOf e := by
        rcases Nat.eq_zero_or_pos (P.cellsOf e) with h0 | h0
        · rw [h0, Nat.mul_zero] at hi; omega
        · exact h0
      have hq : i / P.cellsOf e < css.length := (Nat.div_lt_iff_lt_mul hk).2 hi
      have hr : i % P.cellsOf e < P.cellsOf e := Nat.mod_lt _ hk
      have hi' : i = i / P.cellsOf e * P.cellsOf e + i % P.cellsOf e := by rw [Nat.mul_comm]; exact (Nat.div_add_mod _ _).symm
      have h3 := (World.cells?_some (h2 _ hq).1).2.2 _ hr
      rw [addr_add_add, ← hi'] at h3
      have h4 : css.flatten[i]? = css.flatten[i / P.cellsOf e * P.cellsOf e + i % P.cellsOf e]? := congrArg (css.flatten[·]?) hi'
      rw [h3, h4, flatk_get hsz hr, List.getElem?_eq_getElem hq]
      rfl
theorem okt_of {ts : List TypeId} {ds : List (DataW H)} {t : TypeId} {v : Value} {d : DataW H} {ps : List MemPlace} (i : Nat) (ht : ts[i]? = some t) (hd : ds[i]? = some d) (h : DataW.Trod enc P w 0 (fun _ => true) true t v d ps)
    (hw : (DataW.weightsEach P ts ds).all (· ≤ reachBytes) = true) : Okt enc P w t v.cells.toList := by
  obtain ⟨n, hn⟩ := h
  exact ⟨n, _, hn, fun k hk => of_decide_eq_true (List.all_eq_true.1 hw k (mem_weightsEach ht hd k hk))⟩
/-- An argument that is a slice. -/
theorem sl_of {t e : TypeId} {r : Reach} {b : Nat} {v : Value} (ht : P.underlying t = some (.slice e)) (hv : Value.okWide P w r b t v) (h : Okt enc P w t v.cells.toList) :
    ∃ s : Sl, v = Lf.sl.up s ∧ v.cells.toList = [Lf.sl.up s] := by
  obtain ⟨s, hs, _⟩ := h.slice ht
  refine ⟨s, ?_, hs⟩
  unfold Value.okWide at hv
  rw [ht] at hv
  simp only at hv
  unfold Cell.okWide at hv
  rw [ht] at hv
  cases v <;> simp only [Cell.ok, ht] at hv
  simpa [Value.cells] using hs
end
end Den
end

section
/-
  The types of numbers and intervals as arguments.
-/
set_option linter.unusedVariables false
namespace Den
open Go Iv Go.Proofs
open Go.ChangeShapes Go.WideShapes Go.ChangeAt Go.RowKit
theorem laid_prog : laidOutB Tryz.prog = true := by kernel_rfl
theorem rowed_prog : mapsRowed Tryz.prog = true := by kernel_rfl
theorem sized_prog : sizedB Tryz.prog = true := by kernel_rfl
theorem c_bool : Tryz.prog.cellsOf 4 = 1 := by kernel_rfl
theorem by_u32 : Tryz.prog.bytesOf 84 = 4 := by kernel_rfl
theorem c_u32 : Tryz.prog.cellsOf 84 = 1 := by kernel_rfl
theorem c_W : Tryz.prog.cellsOf 22 = 1 := by kernel_rfl
theorem c_I : Tryz.prog.cellsOf 24 = 2 := by kernel_rfl
theorem c_R : Tryz.prog.cellsOf 26 = 4 := by kernel_rfl
theorem c_V : Tryz.prog.cellsOf 28 = 8 := by kernel_rfl
section
variable {H : Type} {enc : TypeId × Value → H} {w : World} {cs : List Value}
theorem wc_of : ∀ {css : List (List Value)}, (∀ c ∈ css, c.length = 1 ∧ Okt enc Tryz.prog w 84 c) → ∃ l : List Nat, css.flatten = wc l ∧ okW l
  | [], _ => ⟨[], rfl, fun d hd => by simp at hd⟩
  | c :: r, h => by
    obtain ⟨l, h1, h2⟩ := wc_of (css := r) fun x hx => h x (List.mem_cons_of_mem _ hx)
    obtain ⟨m, rfl, hw⟩ := (h c (by simp)).2.int Tryz.underlying84
    simp [Lit.wf, IntKind.min, IntKind.max, IntKind.signed, IntKind.bits] at hw
    refine ⟨m.toNat :: l, ?_, fun d hd => ?_⟩
    · rw [List.flatten_cons, h1]
      simp only [wc, List.map_cons, List.cons_append, List.nil_append]
      rw [Int.toNat_of_nonneg (by omega)]
    · rcases List.mem_cons.1 hd with rfl | hd
      · rw [W_eq]; omega
      · exact h2 d hd
theorem okt_W (h : Okt enc Tryz.prog w 22 cs) : ∃ s : Sl, cs = [Lf.sl.up s] ∧ s.len ≤ 35184372088832 ∧ ∃ l, RdW (hpW w) s l ∧ okW l := by
  obtain ⟨s, rfl, h1, h2, css, h3, h4, h5⟩ := h.slice Tryz.underlying22
  rw [c_u32] at h4 h5
  rw [by_u32, show reachBytes = 140737488351232 from rfl] at h2
  obtain ⟨l, hl, ok⟩ := wc_of h4
  rw [hl] at h5
  exact ⟨s, rfl, by omega, l, ⟨h5, h1⟩, ok⟩
theorem okt_I (h : Okt enc Tryz.prog w 24 cs) : ∃ x : TInt, cs = [.bool x.neg, Lf.sl.up x.mag] ∧ x.mag.len ≤ 35184372088832 ∧ AI (hpW w) x := by
  obtain ⟨hl, hf⟩ := h.fields Tryz.underlying24
  rw [c_I] at hl
  have h0 : Okt enc Tryz.prog w 4 ((cs.drop 0).take (Tryz.prog.cellsOf 4)) := hf 0 _ rfl
  have h1 : Okt enc Tryz.prog w 22 ((cs.drop 1).take (Tryz.prog.cellsOf 22)) := hf 1 _ rfl
  rw [c_bool, List.drop_zero] at h0
  rw [c_W] at h1
  obtain ⟨b, hb⟩ := h0.bool Tryz.underlying4
  obtain ⟨s, hs, hm, hr⟩ := okt_W h1
  refine ⟨⟨b, s⟩, ?_, hm, hr⟩
  rw [← List.take_append_drop 1 cs, hb, ← List.take_of_length_le (l := cs.drop 1) (i := 1) (by simp [hl]), hs]
  rfl
theorem okt_R (h : Okt enc Tryz.prog w 26 cs) : ∃ x : TRat, cs = [.bool x.num.neg, Lf.sl.up x.num.mag, .bool x.den.neg, Lf.sl.up x.den.mag] ∧ (x.num.mag.len ≤ 35184372088832 ∧ x.den.mag.len ≤ 35184372088832) ∧ AR (hpW w) x := by
  obtain ⟨hl, hf⟩ := h.fields Tryz.underlying26
  rw [c_R] at hl
  have h0 : Okt enc Tryz.prog w 24 ((cs.drop 0).take (Tryz.prog.cellsOf 24)) := hf 0 _ rfl
  have h1 : Okt enc Tryz.prog w 24 ((cs.drop 2).take (Tryz.prog.cellsOf 24)) := hf 1 _ rfl
  rw [c_I, List.drop_zero] at h0
  rw [c_I] at h1
  obtain ⟨x, hx, mx, ax⟩ := okt_I h0
  obtain ⟨y, hy, my, ay⟩ := okt_I h1
  refine ⟨⟨x, y⟩, ?_, ⟨mx, my⟩, ax, ay⟩
  rw [← List.take_append_drop 2 cs, hx, ← List.take_of_length_le (l := cs.drop 2) (i := 2) (by simp [hl]), hy]
  rfl
theorem okt_V (h : Okt enc Tryz.prog w 28 cs) : ∃ x : TInterval, cs = [.bool x.low.num.neg, Lf.sl.up x.low.num.mag, .bool x.low.den.neg, Lf.sl.up x.low.den.mag, .bool x.high.num.neg, Lf.sl.up x.high.num.mag, .bool x.high.den.neg, Lf.sl.up x.high.den.mag] ∧
    (x.low.num.mag.len ≤ 35184372088832 ∧ x.low.den.mag.len ≤ 35184372088832 ∧ x.high.num.mag.len ≤ 35184372088832 ∧ x.high.den.mag.len ≤ 35184372088832) ∧ AV (hpW w) x := by
  obtain ⟨hl, hf⟩ := h.fields Tryz.underlying28
  rw [c_V] at hl
  have h0 : Okt enc Tryz.prog w 26 ((cs.drop 0).take (Tryz.prog.cellsOf 26)) := hf 0 _ rfl
  have h1 : Okt enc Tryz.prog w 26 ((cs.drop 4).take (Tryz.prog.cellsOf 26)) := hf 1 _ rfl
  rw [c_R, List.drop_zero] at h0
  rw [c_R] at h1
  obtain ⟨x, hx, mx, ax⟩ := okt_R h0
  obtain ⟨y, hy, my, ay⟩ := okt_R h1
  refine ⟨⟨x, y⟩, ?_, ⟨mx.1, mx.2, my.1, my.2⟩, ax, ay⟩
  rw [← List.take_append_drop 4 cs, hx, ← List.take_of_length_le (l := cs.drop 4) (i := 4) (by simp [hl]), hy]
  rfl
theorem c_P : Tryz.prog.cellsOf 39 = 8 := by kernel_rfl
theorem okt_P (h : Okt enc Tryz.prog w 39 cs) : ∃ x : A2_TRat, cs = [.bool x.c0.num.neg, Lf.sl.up x.c0.num.mag, .bool x.c0.den.neg, Lf.sl.up x.c0.den.mag, .bool x.c1.num.neg, Lf.sl.up x.c1.num.mag, .bool x.c1.den.neg, Lf.sl.up x.c1.den.mag] ∧ AR (hpW w) x.c0 ∧ AR (hpW w) x.c1 := by
  obtain ⟨hl, hf⟩ := h.items Tryz.underlying39
  rw [c_P] at hl
  have h0 := hf 0 (by decide)
  have h1 := hf 1 (by decide)
  simp only [c_R, List.drop_zero, Nat.zero_mul, Nat.one_mul] at h0 h1
  obtain ⟨x, hx, mx, ax⟩ := okt_R h0
  obtain ⟨y, hy, my, ay⟩ := okt_R h1
  refine ⟨⟨x, y⟩, ?_, ax, ay⟩
  rw [← List.take_append_drop 4 cs, hx, ← List.take_of_length_le (l := cs.drop 4) (i := 4) (by simp [hl]), hy]
  rfl
end
/-- An argument that is a struct or an array. -/
theorem agg_of {P : Program} {W : World} {r : Reach} {b : Nat} {t : TypeId} {v : Value} (h : Value.okWide P W r b t v) (hu : isAgg? P t = some true) : ∃ c : List Value, v = .agg c.toArray ∧ v.cells.toList = c := by
  unfold isAgg? at hu
  unfold Value.okWide at h
  split at h
  · obtain ⟨cs, rfl, _⟩ := h; exact ⟨cs.toList, by simp, by simp [Value.cells]⟩
  · obtain ⟨cs, rfl, _⟩ := h; exact ⟨cs.toList, by simp, by simp [Value.cells]⟩
  · rename_i h1 h2
    split at hu
    · rename_i hh; exact absurd hh (h1 _)
    · rename_i hh; exact absurd hh (h2 _ _)
    · cases hu
    · cases hu
end Den
end
