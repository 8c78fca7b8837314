/-
  Part 7 of the tools and contracts from which the statement is proved.
-/
import Derived.Test.YtlddjhibbccljaaGreatPartc6
import Derived.Test.YtlddjhibbccljaaGreatProg
import Derived.Laws.Externs
set_option linter.unusedVariables false
section
/- MADE BY fbuild.py: the entries of the functions. -/
set_option maxRecDepth 100000
set_option linter.unusedVariables false
namespace Den
open Go
noncomputable def A_integer_Sign : ArgT (TInt × Unit) := (ArgT.cons tyTInt ArgT.nil)
noncomputable def R_integer_Sign : Ty Int := (Ty.leaf (.int .i64))
noncomputable def e_integer_Sign : FSem := mkE A_integer_Sign R_integer_Sign (fun a => F.integer_Sign a.1)
noncomputable def c_integer_Sign : Cfg := { P := Go.Proofs.Tryz.prog, n := 12, tab := [(139, e_integer_trim)], mutL := [], rtL := [(4, 1), (10, 1)], locL := [1] }
noncomputable def b_integer_Sign : Code := match Go.Proofs.Tryz.f153.body with | some c => c | none => .skip
noncomputable def a_integer_Sign : An := (.seq .leaf (.seq (.block (.seq .leaf (.cond (.seq .leaf .leaf) (.seq .leaf (.cond (.seq .leaf .leaf) .leaf))))) (.seq .leaf .leaf)))
theorem t_integer_Sign : Entry Go.Proofs.Tryz.prog 153 e_integer_Sign false :=
  entry_of (C := c_integer_Sign) (fn := Go.Proofs.Tryz.f153) (c := b_integer_Sign) (an := a_integer_Sign) ⟨t_integer_trim, trivial⟩ trivial Go.Proofs.Tryz.func153 rfl rfl (by decide) (fun _ => rfl) (by intro a K D; kernel_rfl)
noncomputable def A_rational_Sign : ArgT (TRat × Unit) := (ArgT.cons tyTRat ArgT.nil)
noncomputable def R_rational_Sign : Ty Int := (Ty.leaf (.int .i64))
noncomputable def e_rational_Sign : FSem := mkE A_rational_Sign R_rational_Sign (fun a => F.rational_Sign a.1)
noncomputable def c_rational_Sign : Cfg := { P := Go.Proofs.Tryz.prog, n := 6, tab := [(153, e_integer_Sign)], mutL := [], rtL := [(3, 1)], locL := [1] }
noncomputable def b_rational_Sign : Code := match Go.Proofs.Tryz.f96.body with | some c => c | none => .skip
noncomputable def a_rational_Sign : An := (.seq .leaf (.seq .leaf .leaf))
theorem t_rational_Sign : Entry Go.Proofs.Tryz.prog 96 e_rational_Sign false :=
  entry_of (C := c_rational_Sign) (fn := Go.Proofs.Tryz.f96) (c := b_rational_Sign) (an := a_rational_Sign) ⟨t_integer_Sign, trivial⟩ trivial Go.Proofs.Tryz.func96 rfl rfl (by decide) (fun _ => rfl) (by intro a K D; kernel_rfl)
noncomputable def A_polynomial_Trim : ArgT (Sl × Unit) := (ArgT.cons (Ty.leaf .sl) ArgT.nil)
noncomputable def R_polynomial_Trim : Ty Sl := (Ty.leaf .sl)
noncomputable def e_polynomial_Trim : FSem := mkE A_polynomial_Trim R_polynomial_Trim (fun a => F.polynomial_Trim a.1)
noncomputable def c_polynomial_Trim : Cfg := { P := Go.Proofs.Tryz.prog, n := 23, tab := [(104, e_slices_Clone_api_Rat_api_Rat), (96, e_rational_Sign)], mutL := [], rtL := [], locL := [] }
noncomputable def b_polynomial_Trim : Code := match Go.Proofs.Tryz.f38.body with | some c => c | none => .skip
noncomputable def a_polynomial_Trim : An := (.seq .leaf (.seq .leaf (.join [(3, .leaf (.int .i64))] (.block (.loop [(3, .leaf (.int .i64))] (.join [] (.seq .leaf (.cond .leaf .leaf)) (.block .leaf)))) (.seq .leaf .leaf))))
theorem t_polynomial_Trim : Entry Go.Proofs.Tryz.prog 38 e_polynomial_Trim false :=
  entry_of (C := c_polynomial_Trim) (fn := Go.Proofs.Tryz.f38) (c := b_polynomial_Trim) (an := a_polynomial_Trim) ⟨t_slices_Clone_api_Rat_api_Rat, t_rational_Sign, trivial⟩ trivial Go.Proofs.Tryz.func38 rfl rfl (by decide) (fun _ => rfl) (by intro a K D; kernel_rfl)
noncomputable def A_polynomial_Degree : ArgT (Sl × Unit) := (ArgT.cons (Ty.leaf .sl) ArgT.nil)
noncomputable def R_polynomial_Degree : Ty Int := (Ty.leaf (.int .i64))
noncomputable def e_polynomial_Degree : FSem := mkE A_polynomial_Degree R_polynomial_Degree (fun a => F.polynomial_Degree a.1)
noncomputable def c_polynomial_Degree : Cfg := { P := Go.Proofs.Tryz.prog, n := 7, tab := [(38, e_polynomial_Trim)], mutL := [], rtL := [], locL := [] }
noncomputable def b_polynomial_Degree : Code := match Go.Proofs.Tryz.f39.body with | some c => c | none => .skip
noncomputable def a_polynomial_Degree : An := (.seq .leaf (.seq .leaf .leaf))
theorem t_polynomial_Degree : Entry Go.Proofs.Tryz.prog 39 e_polynomial_Degree false :=
  entry_of (C := c_polynomial_Degree) (fn := Go.Proofs.Tryz.f39) (c := b_polynomial_Degree) (an := a_polynomial_Degree) ⟨t_polynomial_Trim, trivial⟩ trivial Go.Proofs.Tryz.func39 rfl rfl (by decide) (fun _ => rfl) (by intro a K D; kernel_rfl)
noncomputable def A_integer_fromUint : ArgT (Int × Unit) := (ArgT.cons (Ty.leaf (.int .u64)) ArgT.nil)
noncomputable def R_integer_fromUint : Ty Sl := (Ty.leaf .sl)
noncomputable def e_integer_fromUint : FSem := mkE A_integer_fromUint R_integer_fromUint (fun a => F.integer_fromUint a.1)
noncomputable def c_integer_fromUint : Cfg := { P := Go.Proofs.Tryz.prog, n := 10, tab := [(139, e_integer_trim)], mutL := [], rtL := [], locL := [] }
noncomputable def b_integer_fromUint : Code := match Go.Proofs.Tryz.f138.body with | some c => c | none => .skip
noncomputable def a_integer_fromUint : An := (.seq .leaf (.seq .leaf .leaf))
theorem t_integer_fromUint : Entry Go.Proofs.Tryz.prog 138 e_integer_fromUint false :=
  entry_of (C := c_integer_fromUint) (fn := Go.Proofs.Tryz.f138) (c := b_integer_fromUint) (an := a_integer_fromUint) ⟨t_integer_trim, trivial⟩ trivial Go.Proofs.Tryz.func138 rfl rfl (by decide) (fun _ => rfl) (by intro a K D; kernel_rfl)
noncomputable def A_integer_signed : ArgT (Bool × Sl × Unit) := (ArgT.cons (Ty.leaf .bool) (ArgT.cons (Ty.leaf .sl) ArgT.nil))
noncomputable def R_integer_signed : Ty TInt := tyTInt
noncomputable def e_integer_signed : FSem := mkE A_integer_signed R_integer_signed (fun a => F.integer_signed a.1 a.2.1)
noncomputable def c_integer_signed : Cfg := { P := Go.Proofs.Tryz.prog, n := 14, tab := [(139, e_integer_trim)], mutL := [], rtL := [], locL := [4] }
noncomputable def b_integer_signed : Code := match Go.Proofs.Tryz.f137.body with | some c => c | none => .skip
noncomputable def a_integer_signed : An := (.seq .leaf (.seq .leaf (.seq (.seq .leaf (.cond (.seq .leaf .leaf) .leaf)) (.seq .leaf .leaf))))
theorem t_integer_signed : Entry Go.Proofs.Tryz.prog 137 e_integer_signed false :=
  entry_of (C := c_integer_signed) (fn := Go.Proofs.Tryz.f137) (c := b_integer_signed) (an := a_integer_signed) ⟨t_integer_trim, trivial⟩ trivial Go.Proofs.Tryz.func137 rfl rfl (by decide) (fun _ => rfl) (by intro a K D; kernel_rfl)
noncomputable def A_integer_FromInt : ArgT (Int × Unit) := (ArgT.cons (Ty.leaf (.int .i64)) ArgT.nil)
noncomputable def R_integer_FromInt : Ty TInt := tyTInt
noncomputable def e_integer_FromInt : FSem := mkE A_integer_FromInt R_integer_FromInt (fun a => F.integer_FromInt a.1)
noncomputable def c_integer_FromInt : Cfg := { P := Go.Proofs.Tryz.prog, n := 15, tab := [(138, e_integer_fromUint), (137, e_integer_signed)], mutL := [], rtL := [], locL := [2] }
noncomputable def b_integer_FromInt : Code := match Go.Proofs.Tryz.f84.body with | some c => c | none => .skip
noncomputable def a_integer_FromInt : An := (.seq .leaf (.seq .leaf (.join [(3, .leaf (.int .u64))] (.seq .leaf (.cond .leaf .leaf)) (.seq .leaf .leaf))))
theorem t_integer_FromInt : Entry Go.Proofs.Tryz.prog 84 e_integer_FromInt false :=
  entry_of (C := c_integer_FromInt) (fn := Go.Proofs.Tryz.f84) (c := b_integer_FromInt) (an := a_integer_FromInt) ⟨t_integer_fromUint, t_integer_signed, trivial⟩ trivial Go.Proofs.Tryz.func84 rfl rfl (by decide) (fun _ => rfl) (by intro a K D; kernel_rfl)
noncomputable def A_rational_one : ArgT (Unit) := ArgT.nil
noncomputable def R_rational_one : Ty TInt := tyTInt
noncomputable def e_rational_one : FSem := mkE A_rational_one R_rational_one (fun a => F.rational_one )
noncomputable def c_rational_one : Cfg := { P := Go.Proofs.Tryz.prog, n := 2, tab := [(84, e_integer_FromInt)], mutL := [], rtL := [], locL := [0] }
noncomputable def b_rational_one : Code := match Go.Proofs.Tryz.f129.body with | some c => c | none => .skip
noncomputable def a_rational_one : An := (.seq .leaf (.seq .leaf .leaf))
theorem t_rational_one : Entry Go.Proofs.Tryz.prog 129 e_rational_one false :=
  entry_of (C := c_rational_one) (fn := Go.Proofs.Tryz.f129) (c := b_rational_one) (an := a_rational_one) ⟨t_integer_FromInt, trivial⟩ trivial Go.Proofs.Tryz.func129 rfl rfl (by decide) (fun _ => rfl) (by intro a K D; kernel_rfl)
noncomputable def A_rational_FromInt : ArgT (Int × Unit) := (ArgT.cons (Ty.leaf (.int .i64)) ArgT.nil)
noncomputable def R_rational_FromInt : Ty TRat := tyTRat
noncomputable def e_rational_FromInt : FSem := mkE A_rational_FromInt R_rational_FromInt (fun a => F.rational_FromInt a.1)
noncomputable def c_rational_FromInt : Cfg := { P := Go.Proofs.Tryz.prog, n := 7, tab := [(84, e_integer_FromInt), (129, e_rational_one)], mutL := [], rtL := [], locL := [2] }
noncomputable def b_rational_FromInt : Code := match Go.Proofs.Tryz.f79.body with | some c => c | none => .skip
noncomputable def a_rational_FromInt : An := (.seq .leaf (.seq .leaf .leaf))
theorem t_rational_FromInt : Entry Go.Proofs.Tryz.prog 79 e_rational_FromInt false :=
  entry_of (C := c_rational_FromInt) (fn := Go.Proofs.Tryz.f79) (c := b_rational_FromInt) (an := a_rational_FromInt) ⟨t_integer_FromInt, t_rational_one, trivial⟩ trivial Go.Proofs.Tryz.func79 rfl rfl (by decide) (fun _ => rfl) (by intro a K D; kernel_rfl)
noncomputable def A_math_bits_Mul64 : ArgT (Int × Int × Unit) := (ArgT.cons (Ty.leaf (.int .u64)) (ArgT.cons (Ty.leaf (.int .u64)) ArgT.nil))
noncomputable def R_math_bits_Mul64 : Ty (Int × Int) := (Ty.tup (.cons (Ty.leaf (.int .u64)) (.cons (Ty.leaf (.int .u64)) .nil)) (fun x => (x.1, x.2, ())) (fun y => (y.1, y.2.1)) (fun _ => rfl) (fun _ => rfl))
noncomputable def e_math_bits_Mul64 : FSem := mkE A_math_bits_Mul64 R_math_bits_Mul64 (fun a => F.math_bits_Mul64 a.1 a.2.1)
noncomputable def c_math_bits_Mul64 : Cfg := { P := Go.Proofs.Tryz.prog, n := 51, tab := [], mutL := [], rtL := [], locL := [] }
noncomputable def b_math_bits_Mul64 : Code := match Go.Proofs.Tryz.f186.body with | some c => c | none => .skip
noncomputable def a_math_bits_Mul64 : An := (.seq .leaf (.seq .leaf (.seq .leaf (.seq .leaf (.seq .leaf (.seq .leaf (.seq .leaf (.seq .leaf (.seq .leaf (.seq .leaf (.seq .leaf (.seq .leaf .leaf))))))))))))
theorem t_math_bits_Mul64 : Entry Go.Proofs.Tryz.prog 186 e_math_bits_Mul64 false :=
  entry_of (C := c_math_bits_Mul64) (fn := Go.Proofs.Tryz.f186) (c := b_math_bits_Mul64) (an := a_math_bits_Mul64) trivial trivial Go.Proofs.Tryz.func186 rfl rfl (by decide) (fun _ => rfl) (by intro a K D; kernel_rfl)
noncomputable def A_math_bits_Mul : ArgT (Int × Int × Unit) := (ArgT.cons (Ty.leaf (.int .u64)) (ArgT.cons (Ty.leaf (.int .u64)) ArgT.nil))
noncomputable def R_math_bits_Mul : Ty (Int × Int) := (Ty.tup (.cons (Ty.leaf (.int .u64)) (.cons (Ty.leaf (.int .u64)) .nil)) (fun x => (x.1, x.2, ())) (fun y => (y.1, y.2.1)) (fun _ => rfl) (fun _ => rfl))
noncomputable def e_math_bits_Mul : FSem := mkE A_math_bits_Mul R_math_bits_Mul (fun a => F.math_bits_Mul a.1 a.2.1)
noncomputable def c_math_bits_Mul : Cfg := { P := Go.Proofs.Tryz.prog, n := 30, tab := [(186, e_math_bits_Mul64)], mutL := [], rtL := [], locL := [] }
noncomputable def b_math_bits_Mul : Code := match Go.Proofs.Tryz.f162.body with | some c => c | none => .skip
noncomputable def a_math_bits_Mul : An := (.seq .leaf (.seq (.cond (.seq .leaf (.seq .leaf .leaf)) .leaf) (.seq .leaf (.seq .leaf .leaf))))
theorem t_math_bits_Mul : Entry Go.Proofs.Tryz.prog 162 e_math_bits_Mul false :=
  entry_of (C := c_math_bits_Mul) (fn := Go.Proofs.Tryz.f162) (c := b_math_bits_Mul) (an := a_math_bits_Mul) ⟨t_math_bits_Mul64, trivial⟩ trivial Go.Proofs.Tryz.func162 rfl rfl (by decide) (fun _ => rfl) (by intro a K D; kernel_rfl)
noncomputable def A_slices_Repeat_api_Rat_api_Rat : ArgT (Sl × Int × Unit) := (ArgT.cons (Ty.leaf .sl) (ArgT.cons (Ty.leaf (.int .i64)) ArgT.nil))
noncomputable def R_slices_Repeat_api_Rat_api_Rat : Ty Sl := (Ty.leaf .sl)
noncomputable def e_slices_Repeat_api_Rat_api_Rat : FSem := mkE A_slices_Repeat_api_Rat_api_Rat R_slices_Repeat_api_Rat_api_Rat (fun a => F.slices_Repeat_api_Rat_api_Rat a.1 a.2.1)
noncomputable def c_slices_Repeat_api_Rat_api_Rat : Cfg := { P := Go.Proofs.Tryz.prog, n := 48, tab := [(162, e_math_bits_Mul)], mutL := [], rtL := [], locL := [] }
noncomputable def b_slices_Repeat_api_Rat_api_Rat : Code := match Go.Proofs.Tryz.f126.body with | some c => c | none => .skip
noncomputable def a_slices_Repeat_api_Rat_api_Rat : An := (.seq .leaf (.join [] (.seq .leaf (.cond .leaf .leaf)) (.seq .leaf (.join [] (.seq .leaf (.cond .leaf .leaf)) (.seq .leaf (.seq .leaf (.seq (.block (.loop [(8, .leaf (.int .i64))] (.seq (.seq .leaf (.cond .leaf .leaf)) (.block (.draw [0, 1, 2, 3, 4, 5, 6, 7, 8, 9]))))) (.seq .leaf .leaf))))))))
theorem t_slices_Repeat_api_Rat_api_Rat : Entry Go.Proofs.Tryz.prog 126 e_slices_Repeat_api_Rat_api_Rat false :=
  entry_of (C := c_slices_Repeat_api_Rat_api_Rat) (fn := Go.Proofs.Tryz.f126) (c := b_slices_Repeat_api_Rat_api_Rat) (an := a_slices_Repeat_api_Rat_api_Rat) ⟨t_math_bits_Mul, trivial⟩ trivial Go.Proofs.Tryz.func126 rfl rfl (by decide) (fun _ => rfl) (by intro a K D; kernel_rfl)
noncomputable def A_polynomial_zeros : ArgT (Int × Unit) := (ArgT.cons (Ty.leaf (.int .i64)) ArgT.nil)
noncomputable def R_polynomial_zeros : Ty Sl := (Ty.leaf .sl)
noncomputable def e_polynomial_zeros : FSem := mkE A_polynomial_zeros R_polynomial_zeros (fun a => F.polynomial_zeros a.1)
noncomputable def c_polynomial_zeros : Cfg := { P := Go.Proofs.Tryz.prog, n := 7, tab := [(79, e_rational_FromInt), (126, e_slices_Repeat_api_Rat_api_Rat)], mutL := [], rtL := [], locL := [] }
noncomputable def b_polynomial_zeros : Code := match Go.Proofs.Tryz.f73.body with | some c => c | none => .skip
noncomputable def a_polynomial_zeros : An := (.seq .leaf (.seq .leaf .leaf))
theorem t_polynomial_zeros : Entry Go.Proofs.Tryz.prog 73 e_polynomial_zeros false :=
  entry_of (C := c_polynomial_zeros) (fn := Go.Proofs.Tryz.f73) (c := b_polynomial_zeros) (an := a_polynomial_zeros) ⟨t_rational_FromInt, t_slices_Repeat_api_Rat_api_Rat, trivial⟩ trivial Go.Proofs.Tryz.func73 rfl rfl (by decide) (fun _ => rfl) (by intro a K D; kernel_rfl)
noncomputable def A_rational_isZero : ArgT (TInt × Unit) := (ArgT.cons tyTInt ArgT.nil)
noncomputable def R_rational_isZero : Ty Bool := (Ty.leaf .bool)
noncomputable def e_rational_isZero : FSem := mkE A_rational_isZero R_rational_isZero (fun a => F.rational_isZero a.1)
noncomputable def c_rational_isZero : Cfg := { P := Go.Proofs.Tryz.prog, n := 7, tab := [], mutL := [], rtL := [(3, 1)], locL := [1] }
noncomputable def b_rational_isZero : Code := match Go.Proofs.Tryz.f165.body with | some c => c | none => .skip
noncomputable def a_rational_isZero : An := (.seq .leaf (.seq .leaf .leaf))
theorem t_rational_isZero : Entry Go.Proofs.Tryz.prog 165 e_rational_isZero false :=
  entry_of (C := c_rational_isZero) (fn := Go.Proofs.Tryz.f165) (c := b_rational_isZero) (an := a_rational_isZero) trivial trivial Go.Proofs.Tryz.func165 rfl rfl (by decide) (fun _ => rfl) (by intro a K D; kernel_rfl)
noncomputable def A_integer_times : ArgT (Sl × Sl × Unit) := (ArgT.cons (Ty.leaf .sl) (ArgT.cons (Ty.leaf .sl) ArgT.nil))
noncomputable def R_integer_times : Ty Sl := (Ty.leaf .sl)
noncomputable def e_integer_times : FSem := mkE A_integer_times R_integer_times (fun a => F.integer_times a.1 a.2.1)
noncomputable def c_integer_times : Cfg := { P := Go.Proofs.Tryz.prog, n := 75, tab := [(139, e_integer_trim)], mutL := [], rtL := [], locL := [] }
noncomputable def b_integer_times : Code := match Go.Proofs.Tryz.f145.body with | some c => c | none => .skip
noncomputable def a_integer_times : An := (.seq .leaf (.join [] (.seq .leaf (.cond (.seq .leaf .leaf) .leaf)) (.seq .leaf (.seq (.seq .leaf (.block (.loop [(27, .leaf (.int .i64))] (.seq .leaf (.seq (.cond .leaf .leaf) (.seq (.block (.seq .leaf (.seq .leaf (.seq (.seq .leaf (.block (.loop [(8, .leaf (.int .u64)), (34, .leaf (.int .i64))] (.seq .leaf (.seq (.cond .leaf .leaf) (.seq (.block (.seq .leaf (.seq .leaf (.seq .leaf .leaf)))) .leaf)))))) .leaf)))) .leaf)))))) (.seq .leaf .leaf)))))
theorem t_integer_times : Entry Go.Proofs.Tryz.prog 145 e_integer_times false :=
  entry_of (C := c_integer_times) (fn := Go.Proofs.Tryz.f145) (c := b_integer_times) (an := a_integer_times) ⟨t_integer_trim, trivial⟩ trivial Go.Proofs.Tryz.func145 rfl rfl (by decide) (fun _ => rfl) (by intro a K D; kernel_rfl)
noncomputable def A_integer_Mul : ArgT (TInt × TInt × Unit) := (ArgT.cons tyTInt (ArgT.cons tyTInt ArgT.nil))
noncomputable def R_integer_Mul : Ty TInt := tyTInt
noncomputable def e_integer_Mul : FSem := mkE A_integer_Mul R_integer_Mul (fun a => F.integer_Mul a.1 a.2.1)
noncomputable def c_integer_Mul : Cfg := { P := Go.Proofs.Tryz.prog, n := 18, tab := [(139, e_integer_trim), (145, e_integer_times), (137, e_integer_signed)], mutL := [], rtL := [(5, 2), (7, 3), (10, 2), (13, 3)], locL := [2, 3, 4] }
noncomputable def b_integer_Mul : Code := match Go.Proofs.Tryz.f87.body with | some c => c | none => .skip
noncomputable def a_integer_Mul : An := (.seq .leaf (.seq (.draw [0, 1, 2, 3, 4, 5, 6, 8, 9, 7, 10, 11, 12, 13]) .leaf))
theorem t_integer_Mul : Entry Go.Proofs.Tryz.prog 87 e_integer_Mul false :=
  entry_of (C := c_integer_Mul) (fn := Go.Proofs.Tryz.f87) (c := b_integer_Mul) (an := a_integer_Mul) ⟨t_integer_trim, t_integer_times, t_integer_signed, trivial⟩ trivial Go.Proofs.Tryz.func87 rfl rfl (by decide) (fun _ => rfl) (by intro a K D; kernel_rfl)
noncomputable def A_slices_Clone_uint32_uint32 : ArgT (Sl × Unit) := (ArgT.cons (Ty.leaf .sl) ArgT.nil)
noncomputable def R_slices_Clone_uint32_uint32 : Ty Sl := (Ty.leaf .sl)
noncomputable def e_slices_Clone_uint32_uint32 : FSem := mkE A_slices_Clone_uint32_uint32 R_slices_Clone_uint32_uint32 (fun a => F.slices_Clone_uint32_uint32 a.1)
noncomputable def c_slices_Clone_uint32_uint32 : Cfg := { P := Go.Proofs.Tryz.prog, n := 8, tab := [], mutL := [], rtL := [], locL := [] }
noncomputable def b_slices_Clone_uint32_uint32 : Code := match Go.Proofs.Tryz.f143.body with | some c => c | none => .skip
noncomputable def a_slices_Clone_uint32_uint32 : An := (.seq .leaf (.seq (.seq .leaf (.cond (.seq .leaf .leaf) .leaf)) (.seq .leaf .leaf)))
theorem t_slices_Clone_uint32_uint32 : Entry Go.Proofs.Tryz.prog 143 e_slices_Clone_uint32_uint32 false :=
  entry_of (C := c_slices_Clone_uint32_uint32) (fn := Go.Proofs.Tryz.f143) (c := b_slices_Clone_uint32_uint32) (an := a_slices_Clone_uint32_uint32) trivial trivial Go.Proofs.Tryz.func143 rfl rfl (by decide) (fun _ => rfl) (by intro a K D; kernel_rfl)
noncomputable def A_slices_Backward_uint32_uint32 : ArgT (Sl × Unit) := (ArgT.cons (Ty.leaf .sl) ArgT.nil)
noncomputable def R_slices_Backward_uint32_uint32 : Ty Addr := (Ty.clo 189)
noncomputable def e_slices_Backward_uint32_uint32 : FSem := mkE A_slices_Backward_uint32_uint32 R_slices_Backward_uint32_uint32 (fun a => F.slices_Backward_uint32_uint32 a.1)
noncomputable def c_slices_Backward_uint32_uint32 : Cfg := { P := Go.Proofs.Tryz.prog, n := 4, tab := [], mutL := [], rtL := [], locL := [] }
noncomputable def b_slices_Backward_uint32_uint32 : Code := match Go.Proofs.Tryz.f173.body with | some c => c | none => .skip
noncomputable def a_slices_Backward_uint32_uint32 : An := (.seq .leaf (.seq .leaf .leaf))
theorem t_slices_Backward_uint32_uint32 : Entry Go.Proofs.Tryz.prog 173 e_slices_Backward_uint32_uint32 false :=
  entry_of (C := c_slices_Backward_uint32_uint32) (fn := Go.Proofs.Tryz.f173) (c := b_slices_Backward_uint32_uint32) (an := a_slices_Backward_uint32_uint32) trivial trivial Go.Proofs.Tryz.func173 rfl rfl (by decide) (fun _ => rfl) (by intro a K D; kernel_rfl)
noncomputable def A_integer_toUint : ArgT (Sl × Unit) := (ArgT.cons (Ty.leaf .sl) ArgT.nil)
noncomputable def R_integer_toUint : Ty Int := (Ty.leaf (.int .u64))
noncomputable def e_integer_toUint : FSem := mkE A_integer_toUint R_integer_toUint (fun a => F.integer_toUint a.1)
noncomputable def c_integer_toUint : Cfg := { P := Go.Proofs.Tryz.prog, n := 16, tab := [(173, e_slices_Backward_uint32_uint32)], mutL := [], rtL := [], locL := [3], backs := [(189, (.leaf (.int .u32)))] }
noncomputable def b_integer_toUint : Code := match Go.Proofs.Tryz.f144.body with | some c => c | none => .skip
noncomputable def a_integer_toUint : An := (.seq .leaf (.seq .leaf (.seq (.seq .leaf (.block (.back [(3, .box [.int .u64])] .leaf (.block .leaf)))) (.seq .leaf .leaf))))
theorem t_integer_toUint : Entry Go.Proofs.Tryz.prog 144 e_integer_toUint false :=
  entry_of (C := c_integer_toUint) (fn := Go.Proofs.Tryz.f144) (c := b_integer_toUint) (an := a_integer_toUint) ⟨t_slices_Backward_uint32_uint32, trivial⟩ ⟨bk_u32, trivial⟩ Go.Proofs.Tryz.func144 rfl rfl (by decide) (fun _ => rfl) (by intro a K D; kernel_rfl)
noncomputable def A_cmp_isNaN_int : ArgT (Int × Unit) := (ArgT.cons (Ty.leaf (.int .i64)) ArgT.nil)
noncomputable def R_cmp_isNaN_int : Ty Bool := (Ty.leaf .bool)
noncomputable def e_cmp_isNaN_int : FSem := mkE A_cmp_isNaN_int R_cmp_isNaN_int (fun a => F.cmp_isNaN_int a.1)
noncomputable def c_cmp_isNaN_int : Cfg := { P := Go.Proofs.Tryz.prog, n := 6, tab := [], mutL := [], rtL := [], locL := [] }
noncomputable def b_cmp_isNaN_int : Code := match Go.Proofs.Tryz.f190.body with | some c => c | none => .skip
noncomputable def a_cmp_isNaN_int : An := (.seq .leaf (.seq .leaf .leaf))
theorem t_cmp_isNaN_int : Entry Go.Proofs.Tryz.prog 190 e_cmp_isNaN_int false :=
  entry_of (C := c_cmp_isNaN_int) (fn := Go.Proofs.Tryz.f190) (c := b_cmp_isNaN_int) (an := a_cmp_isNaN_int) trivial trivial Go.Proofs.Tryz.func190 rfl rfl (by decide) (fun _ => rfl) (by intro a K D; kernel_rfl)
noncomputable def A_cmp_Compare_int : ArgT (Int × Int × Unit) := (ArgT.cons (Ty.leaf (.int .i64)) (ArgT.cons (Ty.leaf (.int .i64)) ArgT.nil))
noncomputable def R_cmp_Compare_int : Ty Int := (Ty.leaf (.int .i64))
noncomputable def e_cmp_Compare_int : FSem := mkE A_cmp_Compare_int R_cmp_Compare_int (fun a => F.cmp_Compare_int a.1 a.2.1)
noncomputable def c_cmp_Compare_int : Cfg := { P := Go.Proofs.Tryz.prog, n := 20, tab := [(190, e_cmp_isNaN_int)], mutL := [], rtL := [], locL := [] }
noncomputable def b_cmp_Compare_int : Code := match Go.Proofs.Tryz.f182.body with | some c => c | none => .skip
noncomputable def a_cmp_Compare_int : An := (.seq .leaf (.seq .leaf (.seq .leaf (.seq (.seq .leaf (.cond (.seq (.seq .leaf (.cond (.seq .leaf .leaf) .leaf)) (.seq .leaf .leaf)) .leaf)) (.seq (.seq .leaf (.cond (.seq .leaf .leaf) .leaf)) (.seq (.seq .leaf (.cond (.seq .leaf .leaf) .leaf)) (.seq (.seq .leaf (.cond (.seq .leaf .leaf) .leaf)) (.seq .leaf .leaf))))))))
theorem t_cmp_Compare_int : Entry Go.Proofs.Tryz.prog 182 e_cmp_Compare_int false :=
  entry_of (C := c_cmp_Compare_int) (fn := Go.Proofs.Tryz.f182) (c := b_cmp_Compare_int) (an := a_cmp_Compare_int) ⟨t_cmp_isNaN_int, trivial⟩ trivial Go.Proofs.Tryz.func182 rfl rfl (by decide) (fun _ => rfl) (by intro a K D; kernel_rfl)
noncomputable def A_cmp_isNaN_uint32 : ArgT (Int × Unit) := (ArgT.cons (Ty.leaf (.int .u32)) ArgT.nil)
noncomputable def R_cmp_isNaN_uint32 : Ty Bool := (Ty.leaf .bool)
noncomputable def e_cmp_isNaN_uint32 : FSem := mkE A_cmp_isNaN_uint32 R_cmp_isNaN_uint32 (fun a => F.cmp_isNaN_uint32 a.1)
noncomputable def c_cmp_isNaN_uint32 : Cfg := { P := Go.Proofs.Tryz.prog, n := 6, tab := [], mutL := [], rtL := [], locL := [] }
noncomputable def b_cmp_isNaN_uint32 : Code := match Go.Proofs.Tryz.f192.body with | some c => c | none => .skip
noncomputable def a_cmp_isNaN_uint32 : An := (.seq .leaf (.seq .leaf .leaf))
theorem t_cmp_isNaN_uint32 : Entry Go.Proofs.Tryz.prog 192 e_cmp_isNaN_uint32 false :=
  entry_of (C := c_cmp_isNaN_uint32) (fn := Go.Proofs.Tryz.f192) (c := b_cmp_isNaN_uint32) (an := a_cmp_isNaN_uint32) trivial trivial Go.Proofs.Tryz.func192 rfl rfl (by decide) (fun _ => rfl) (by intro a K D; kernel_rfl)
noncomputable def A_cmp_Compare_uint32 : ArgT (Int × Int × Unit) := (ArgT.cons (Ty.leaf (.int .u32)) (ArgT.cons (Ty.leaf (.int .u32)) ArgT.nil))
noncomputable def R_cmp_Compare_uint32 : Ty Int := (Ty.leaf (.int .i64))
noncomputable def e_cmp_Compare_uint32 : FSem := mkE A_cmp_Compare_uint32 R_cmp_Compare_uint32 (fun a => F.cmp_Compare_uint32 a.1 a.2.1)
noncomputable def c_cmp_Compare_uint32 : Cfg := { P := Go.Proofs.Tryz.prog, n := 20, tab := [(192, e_cmp_isNaN_uint32)], mutL := [], rtL := [], locL := [] }
noncomputable def b_cmp_Compare_uint32 : Code := match Go.Proofs.Tryz.f187.body with | some c => c | none => .skip
noncomputable def a_cmp_Compare_uint32 : An := (.seq .leaf (.seq .leaf (.seq .leaf (.seq (.seq .leaf (.cond (.seq (.seq .leaf (.cond (.seq .leaf .leaf) .leaf)) (.seq .leaf .leaf)) .leaf)) (.seq (.seq .leaf (.cond (.seq .leaf .leaf) .leaf)) (.seq (.seq .leaf (.cond (.seq .leaf .leaf) .leaf)) (.seq (.seq .leaf (.cond (.seq .leaf .leaf) .leaf)) (.seq .leaf .leaf))))))))
theorem t_cmp_Compare_uint32 : Entry Go.Proofs.Tryz.prog 187 e_cmp_Compare_uint32 false :=
  entry_of (C := c_cmp_Compare_uint32) (fn := Go.Proofs.Tryz.f187) (c := b_cmp_Compare_uint32) (an := a_cmp_Compare_uint32) ⟨t_cmp_isNaN_uint32, trivial⟩ trivial Go.Proofs.Tryz.func187 rfl rfl (by decide) (fun _ => rfl) (by intro a K D; kernel_rfl)
noncomputable def A_integer_compare : ArgT (Sl × Sl × Unit) := (ArgT.cons (Ty.leaf .sl) (ArgT.cons (Ty.leaf .sl) ArgT.nil))
noncomputable def R_integer_compare : Ty Int := (Ty.leaf (.int .i64))
noncomputable def e_integer_compare : FSem := mkE A_integer_compare R_integer_compare (fun a => F.integer_compare a.1 a.2.1)
noncomputable def c_integer_compare : Cfg := { P := Go.Proofs.Tryz.prog, n := 41, tab := [(182, e_cmp_Compare_int), (187, e_cmp_Compare_uint32)], mutL := [], rtL := [], locL := [] }
noncomputable def b_integer_compare : Code := match Go.Proofs.Tryz.f163.body with | some c => c | none => .skip
noncomputable def a_integer_compare : An := (.seq .leaf (.seq (.seq .leaf (.cond (.seq .leaf .leaf) .leaf)) (.seq (.seq .leaf (.block (.loop [(5, .leaf (.int .i64))] (.seq (.seq .leaf (.cond .leaf .leaf)) (.seq (.block (.seq (.draw [0, 1, 2, 3, 4, 5, 6, 7, 8]) (.cond (.seq (.draw [0, 1, 2, 3, 4, 5, 6, 7, 8, 9]) .leaf) .leaf))) .leaf))))) (.seq .leaf .leaf))))
theorem t_integer_compare : Entry Go.Proofs.Tryz.prog 163 e_integer_compare false :=
  entry_of (C := c_integer_compare) (fn := Go.Proofs.Tryz.f163) (c := b_integer_compare) (an := a_integer_compare) ⟨t_cmp_Compare_int, t_cmp_Compare_uint32, trivial⟩ trivial Go.Proofs.Tryz.func163 rfl rfl (by decide) (fun _ => rfl) (by intro a K D; kernel_rfl)
noncomputable def A_integer_divideWord : ArgT (Sl × Int × Unit) := (ArgT.cons (Ty.leaf .sl) (ArgT.cons (Ty.leaf (.int .u32)) ArgT.nil))
noncomputable def R_integer_divideWord : Ty (Sl × Sl) := (Ty.tup (.cons (Ty.leaf .sl) (.cons (Ty.leaf .sl) .nil)) (fun x => (x.1, x.2, ())) (fun y => (y.1, y.2.1)) (fun _ => rfl) (fun _ => rfl))
noncomputable def e_integer_divideWord : FSem := mkE A_integer_divideWord R_integer_divideWord (fun a => F.integer_divideWord a.1 a.2.1)
noncomputable def c_integer_divideWord : Cfg := { P := Go.Proofs.Tryz.prog, n := 43, tab := [(139, e_integer_trim), (138, e_integer_fromUint)], mutL := [], rtL := [], locL := [] }
noncomputable def b_integer_divideWord : Code := match Go.Proofs.Tryz.f167.body with | some c => c | none => .skip
noncomputable def a_integer_divideWord : An := (.seq .leaf (.seq .leaf (.seq .leaf (.seq (.seq .leaf (.block (.loop [(7, .leaf (.int .u64)), (8, .leaf (.int .i64))] (.seq (.seq .leaf (.cond .leaf .leaf)) (.seq (.block (.seq .leaf (.seq .leaf .leaf))) .leaf))))) (.seq .leaf .leaf)))))
theorem t_integer_divideWord : Entry Go.Proofs.Tryz.prog 167 e_integer_divideWord false :=
  entry_of (C := c_integer_divideWord) (fn := Go.Proofs.Tryz.f167) (c := b_integer_divideWord) (an := a_integer_divideWord) ⟨t_integer_trim, t_integer_fromUint, trivial⟩ trivial Go.Proofs.Tryz.func167 rfl rfl (by decide) (fun _ => rfl) (by intro a K D; kernel_rfl)
noncomputable def A_math_bits_Len32 : ArgT (Int × Unit) := (ArgT.cons (Ty.leaf (.int .u32)) ArgT.nil)
noncomputable def R_math_bits_Len32 : Ty Int := (Ty.leaf (.int .i64))
noncomputable def e_math_bits_Len32 : FSem := mkE A_math_bits_Len32 R_math_bits_Len32 (fun a => F.math_bits_Len32 a.1)
noncomputable def c_math_bits_Len32 : Cfg := { P := Go.Proofs.Tryz.prog, n := 19, tab := [], mutL := [], rtL := [], locL := [] }
noncomputable def b_math_bits_Len32 : Code := match Go.Proofs.Tryz.f188.body with | some c => c | none => .skip
noncomputable def a_math_bits_Len32 : An := (.seq .leaf (.join [(0, .leaf (.int .u32)), (2, .leaf (.int .i64))] (.seq .leaf (.cond (.seq .leaf .leaf) .leaf)) (.join [(0, .leaf (.int .u32)), (2, .leaf (.int .i64))] (.seq .leaf (.cond (.seq .leaf .leaf) .leaf)) (.seq .leaf .leaf))))
theorem t_math_bits_Len32 : Entry Go.Proofs.Tryz.prog 188 e_math_bits_Len32 false :=
  entry_of (C := c_math_bits_Len32) (fn := Go.Proofs.Tryz.f188) (c := b_math_bits_Len32) (an := a_math_bits_Len32) trivial trivial Go.Proofs.Tryz.func188 rfl rfl (by decide) (fun _ => rfl) (by intro a K D; kernel_rfl)
noncomputable def A_math_bits_LeadingZeros32 : ArgT (Int × Unit) := (ArgT.cons (Ty.leaf (.int .u32)) ArgT.nil)
noncomputable def R_math_bits_LeadingZeros32 : Ty Int := (Ty.leaf (.int .i64))
noncomputable def e_math_bits_LeadingZeros32 : FSem := mkE A_math_bits_LeadingZeros32 R_math_bits_LeadingZeros32 (fun a => F.math_bits_LeadingZeros32 a.1)
noncomputable def c_math_bits_LeadingZeros32 : Cfg := { P := Go.Proofs.Tryz.prog, n := 6, tab := [(188, e_math_bits_Len32)], mutL := [], rtL := [], locL := [] }
noncomputable def b_math_bits_LeadingZeros32 : Code := match Go.Proofs.Tryz.f168.body with | some c => c | none => .skip
noncomputable def a_math_bits_LeadingZeros32 : An := (.seq .leaf (.seq .leaf .leaf))
theorem t_math_bits_LeadingZeros32 : Entry Go.Proofs.Tryz.prog 168 e_math_bits_LeadingZeros32 false :=
  entry_of (C := c_math_bits_LeadingZeros32) (fn := Go.Proofs.Tryz.f168) (c := b_math_bits_LeadingZeros32) (an := a_math_bits_LeadingZeros32) ⟨t_math_bits_Len32, trivial⟩ trivial Go.Proofs.Tryz.func168 rfl rfl (by decide) (fun _ => rfl) (by intro a K D; kernel_rfl)
noncomputable def A_integer_shiftLeft : ArgT (Sl × Int × Unit) := (ArgT.cons (Ty.leaf .sl) (ArgT.cons (Ty.leaf (.int .i64)) ArgT.nil))
noncomputable def R_integer_shiftLeft : Ty Sl := (Ty.leaf .sl)
noncomputable def e_integer_shiftLeft : FSem := mkE A_integer_shiftLeft R_integer_shiftLeft (fun a => F.integer_shiftLeft a.1 a.2.1)
noncomputable def c_integer_shiftLeft : Cfg := { P := Go.Proofs.Tryz.prog, n := 41, tab := [], mutL := [], rtL := [], locL := [] }
noncomputable def b_integer_shiftLeft : Code := match Go.Proofs.Tryz.f169.body with | some c => c | none => .skip
noncomputable def a_integer_shiftLeft : An := (.seq .leaf (.seq .leaf (.seq (.seq .leaf (.block (.loop [(15, .leaf (.int .i64))] (.seq .leaf (.seq (.cond .leaf .leaf) (.seq (.block (.seq .leaf (.seq .leaf (.seq .leaf .leaf)))) .leaf)))))) (.seq .leaf .leaf))))
theorem t_integer_shiftLeft : Entry Go.Proofs.Tryz.prog 169 e_integer_shiftLeft false :=
  entry_of (C := c_integer_shiftLeft) (fn := Go.Proofs.Tryz.f169) (c := b_integer_shiftLeft) (an := a_integer_shiftLeft) trivial trivial Go.Proofs.Tryz.func169 rfl rfl (by decide) (fun _ => rfl) (by intro a K D; kernel_rfl)
noncomputable def A_integer_subtract : ArgT (Sl × Sl × Int × Unit) := (ArgT.cons (Ty.leaf .sl) (ArgT.cons (Ty.leaf .sl) (ArgT.cons (Ty.leaf (.int .u64)) ArgT.nil)))
noncomputable def R_integer_subtract : Ty Bool := (Ty.leaf .bool)
noncomputable def e_integer_subtract : FSem := mkM A_integer_subtract R_integer_subtract (fun a => F.integer_subtract a.1 a.2.1 a.2.2.1)
noncomputable def c_integer_subtract : Cfg := { P := Go.Proofs.Tryz.prog, n := 63, tab := [], mutL := [], rtL := [], locL := [] }
noncomputable def b_integer_subtract : Code := match Go.Proofs.Tryz.f170.body with | some c => c | none => .skip
noncomputable def a_integer_subtract : An := (.seq .leaf (.seq .leaf (.seq (.seq .leaf (.block (.loop [(7, .leaf (.int .u64)), (15, .leaf (.int .i64))] (.seq .leaf (.seq (.cond .leaf .leaf) (.seq (.block (.seq .leaf (.seq .leaf (.seq .leaf (.seq .leaf .leaf))))) .leaf)))))) (.seq .leaf (.seq .leaf (.seq .leaf .leaf))))))
theorem t_integer_subtract : Entry Go.Proofs.Tryz.prog 170 e_integer_subtract true :=
  entryM_of (C := c_integer_subtract) (fn := Go.Proofs.Tryz.f170) (c := b_integer_subtract) (an := a_integer_subtract) trivial trivial Go.Proofs.Tryz.func170 rfl rfl (by decide) (fun _ => rfl) (by intro a K D; kernel_rfl)
noncomputable def A_integer_restore : ArgT (Sl × Sl × Unit) := (ArgT.cons (Ty.leaf .sl) (ArgT.cons (Ty.leaf .sl) ArgT.nil))
noncomputable def R_integer_restore : Ty Unit := Ty.unit
noncomputable def e_integer_restore : FSem := mkM A_integer_restore R_integer_restore (fun a => F.integer_restore a.1 a.2.1)
noncomputable def c_integer_restore : Cfg := { P := Go.Proofs.Tryz.prog, n := 41, tab := [], mutL := [], rtL := [], locL := [] }
noncomputable def b_integer_restore : Code := match Go.Proofs.Tryz.f171.body with | some c => c | none => .skip
noncomputable def a_integer_restore : An := (.seq .leaf (.seq (.seq .leaf (.block (.loop [(4, .leaf (.int .u64)), (9, .leaf (.int .i64))] (.seq .leaf (.seq (.cond .leaf .leaf) (.seq (.block (.seq .leaf (.seq .leaf (.seq .leaf .leaf)))) .leaf)))))) .leaf))
theorem t_integer_restore : Entry Go.Proofs.Tryz.prog 171 e_integer_restore true :=
  entryM_of (C := c_integer_restore) (fn := Go.Proofs.Tryz.f171) (c := b_integer_restore) (an := a_integer_restore) trivial trivial Go.Proofs.Tryz.func171 rfl rfl (by decide) (fun _ => rfl) (by intro a K D; kernel_rfl)
end Den
end

section
/- MADE BY fbuild.py: the entries of the functions. -/
set_option maxRecDepth 100000
set_option linter.unusedVariables false
namespace Den
open Go
noncomputable def A_integer_shiftRight : ArgT (Sl × Int × Unit) := (ArgT.cons (Ty.leaf .sl) (ArgT.cons (Ty.leaf (.int .i64)) ArgT.nil))
noncomputable def R_integer_shiftRight : Ty Sl := (Ty.leaf .sl)
noncomputable def e_integer_shiftRight : FSem := mkE A_integer_shiftRight R_integer_shiftRight (fun a => F.integer_shiftRight a.1 a.2.1)
noncomputable def c_integer_shiftRight : Cfg := { P := Go.Proofs.Tryz.prog, n := 47, tab := [], mutL := [], rtL := [], locL := [] }
noncomputable def b_integer_shiftRight : Code := match Go.Proofs.Tryz.f172.body with | some c => c | none => .skip
noncomputable def a_integer_shiftRight : An := (.seq .leaf (.seq .leaf (.seq (.seq .leaf (.block (.loop [(13, .leaf (.int .i64))] (.seq .leaf (.seq (.cond .leaf .leaf) (.join [] (.block (.seq .leaf (.seq .leaf (.seq .leaf (.cond (.draw [0, 1, 2, 3, 4, 5, 6, 7, 8, 9, 10, 11, 12, 13, 14, 15, 16]) .leaf))))) .leaf)))))) (.seq .leaf .leaf))))
theorem t_integer_shiftRight : Entry Go.Proofs.Tryz.prog 172 e_integer_shiftRight false :=
  entry_of (C := c_integer_shiftRight) (fn := Go.Proofs.Tryz.f172) (c := b_integer_shiftRight) (an := a_integer_shiftRight) trivial trivial Go.Proofs.Tryz.func172 rfl rfl (by decide) (fun _ => rfl) (by intro a K D; kernel_rfl)
noncomputable def A_integer_divide : ArgT (Sl × Sl × Unit) := (ArgT.cons (Ty.leaf .sl) (ArgT.cons (Ty.leaf .sl) ArgT.nil))
noncomputable def R_integer_divide : Ty (Sl × Sl) := (Ty.tup (.cons (Ty.leaf .sl) (.cons (Ty.leaf .sl) .nil)) (fun x => (x.1, x.2, ())) (fun y => (y.1, y.2.1)) (fun _ => rfl) (fun _ => rfl))
noncomputable def e_integer_divide : FSem := mkE A_integer_divide R_integer_divide (fun a => F.integer_divide a.1 a.2.1)
noncomputable def c_integer_divide : Cfg := { P := Go.Proofs.Tryz.prog, n := 177, tab := [(163, e_integer_compare), (143, e_slices_Clone_uint32_uint32), (144, e_integer_toUint), (138, e_integer_fromUint), (167, e_integer_divideWord), (168, e_math_bits_LeadingZeros32), (169, e_integer_shiftLeft), (139, e_integer_trim), (170, e_integer_subtract), (171, e_integer_restore), (172, e_integer_shiftRight)], mutL := [170, 171], rtL := [], locL := [] }
noncomputable def b_integer_divide : Code := match Go.Proofs.Tryz.f140.body with | some c => c | none => .skip
noncomputable def a_integer_divide : An := (.seq .leaf (.seq (.block (.seq .leaf (.cond (.seq .leaf .leaf) (.seq .leaf (.cond (.seq .leaf (.seq (.draw [0, 1, 2, 4, 5, 6, 3, 7, 8, 9]) .leaf)) (.seq .leaf (.cond (.seq .leaf .leaf) .leaf))))))) (.seq .leaf (.seq .leaf (.seq .leaf (.seq .leaf (.seq (.draw [0, 1, 2, 3, 4, 5, 6, 7, 8, 9, 10, 11, 12, 13]) (.seq (.seq .leaf (.block (.loop [(15, .leaf (.int .i64))] (.seq (.seq .leaf (.cond .leaf .leaf)) (.seq (.block (.seq (.draw [0, 1, 2, 3, 4, 5, 6, 7, 8, 9, 10, 11, 12, 13, 14, 15, 16, 17]) (.seq (.draw [0, 1, 2, 3, 4, 5, 6, 7]) (.join [(17, .leaf (.int .u64))] (.block (.loop [(17, .leaf (.int .u64)), (18, .leaf (.int .u64))] (.join [] (.seq .leaf (.cond .leaf .leaf)) (.block (.seq .leaf (.seq .leaf (.seq .leaf (.cond .leaf .leaf)))))))) (.join [(17, .leaf (.int .u64))] (.seq .leaf (.cond (.seq .leaf .leaf) .leaf)) .leaf))))) .leaf))))) (.seq (.draw [0, 2, 3, 4, 6, 1, 5, 7, 8, 9, 10]) .leaf)))))))))
theorem t_integer_divide : Entry Go.Proofs.Tryz.prog 140 e_integer_divide false :=
  entry_of (C := c_integer_divide) (fn := Go.Proofs.Tryz.f140) (c := b_integer_divide) (an := a_integer_divide) ⟨t_integer_compare, t_slices_Clone_uint32_uint32, t_integer_toUint, t_integer_fromUint, t_integer_divideWord, t_math_bits_LeadingZeros32, t_integer_shiftLeft, t_integer_trim, t_integer_subtract, t_integer_restore, t_integer_shiftRight, trivial⟩ trivial Go.Proofs.Tryz.func140 rfl rfl (by decide) (fun _ => rfl) (by intro a K D; kernel_rfl)
noncomputable def A_integer_GCD : ArgT (TInt × TInt × Unit) := (ArgT.cons tyTInt (ArgT.cons tyTInt ArgT.nil))
noncomputable def R_integer_GCD : Ty TInt := tyTInt
noncomputable def e_integer_GCD : FSem := mkE A_integer_GCD R_integer_GCD (fun a => F.integer_GCD a.1 a.2.1)
noncomputable def c_integer_GCD : Cfg := { P := Go.Proofs.Tryz.prog, n := 57, tab := [(139, e_integer_trim), (143, e_slices_Clone_uint32_uint32), (137, e_integer_signed), (144, e_integer_toUint), (138, e_integer_fromUint), (140, e_integer_divide)], mutL := [], rtL := [(11, 2), (14, 3)], locL := [2, 3, 4] }
noncomputable def b_integer_GCD : Code := match Go.Proofs.Tryz.f86.body with | some c => c | none => .skip
noncomputable def a_integer_GCD : An := (.seq .leaf (.seq (.draw [0, 1, 3, 4, 2, 5, 6, 7]) (.join [(5, .leaf (.sl)), (6, .leaf (.sl))] (.block (.loop [(5, .leaf (.sl)), (6, .leaf (.sl))] (.join [] (.seq .leaf (.cond .leaf .leaf)) (.block (.seq .leaf .leaf))))) (.seq (.seq .leaf (.cond (.seq .leaf .leaf) .leaf)) (.seq .leaf (.seq (.block (.loop [(9, .leaf (.int .u64)), (10, .leaf (.int .u64))] (.seq (.seq .leaf (.cond .leaf .leaf)) (.block (.draw [0, 1, 2, 3, 4, 5]))))) (.seq .leaf .leaf)))))))
theorem t_integer_GCD : Entry Go.Proofs.Tryz.prog 86 e_integer_GCD false :=
  entry_of (C := c_integer_GCD) (fn := Go.Proofs.Tryz.f86) (c := b_integer_GCD) (an := a_integer_GCD) ⟨t_integer_trim, t_slices_Clone_uint32_uint32, t_integer_signed, t_integer_toUint, t_integer_fromUint, t_integer_divide, trivial⟩ trivial Go.Proofs.Tryz.func86 rfl rfl (by decide) (fun _ => rfl) (by intro a K D; kernel_rfl)
noncomputable def A_rational_isOne : ArgT (TInt × Unit) := (ArgT.cons tyTInt ArgT.nil)
noncomputable def R_rational_isOne : Ty Bool := (Ty.leaf .bool)
noncomputable def e_rational_isOne : FSem := mkE A_rational_isOne R_rational_isOne (fun a => F.rational_isOne a.1)
noncomputable def c_rational_isOne : Cfg := { P := Go.Proofs.Tryz.prog, n := 19, tab := [], mutL := [], rtL := [(3, 1), (7, 1), (13, 1)], locL := [1] }
noncomputable def b_rational_isOne : Code := match Go.Proofs.Tryz.f127.body with | some c => c | none => .skip
noncomputable def a_rational_isOne : An := (.seq .leaf (.seq .leaf .leaf))
theorem t_rational_isOne : Entry Go.Proofs.Tryz.prog 127 e_rational_isOne false :=
  entry_of (C := c_rational_isOne) (fn := Go.Proofs.Tryz.f127) (c := b_rational_isOne) (an := a_rational_isOne) trivial trivial Go.Proofs.Tryz.func127 rfl rfl (by decide) (fun _ => rfl) (by intro a K D; kernel_rfl)
noncomputable def A_integer_plus : ArgT (Sl × Sl × Unit) := (ArgT.cons (Ty.leaf .sl) (ArgT.cons (Ty.leaf .sl) ArgT.nil))
noncomputable def R_integer_plus : Ty Sl := (Ty.leaf .sl)
noncomputable def e_integer_plus : FSem := mkE A_integer_plus R_integer_plus (fun a => F.integer_plus a.1 a.2.1)
noncomputable def c_integer_plus : Cfg := { P := Go.Proofs.Tryz.prog, n := 58, tab := [], mutL := [], rtL := [], locL := [45, 55] }
noncomputable def b_integer_plus : Code := match Go.Proofs.Tryz.f141.body with | some c => c | none => .skip
noncomputable def a_integer_plus : An := (.seq .leaf (.join [(0, .leaf (.sl)), (1, .leaf (.sl))] (.seq .leaf (.cond .leaf .leaf)) (.seq .leaf (.seq .leaf (.seq (.seq .leaf (.block (.loop [(5, .leaf (.sl)), (6, .leaf (.int .u64)), (22, .leaf (.int .i64))] (.seq .leaf (.seq (.cond .leaf .leaf) (.seq (.block (.seq .leaf (.seq .leaf (.join [(6, .leaf (.int .u64))] (.seq .leaf (.cond .leaf .leaf)) (.seq .leaf .leaf))))) .leaf)))))) (.seq (.seq .leaf (.cond .leaf .leaf)) (.seq .leaf .leaf)))))))
theorem t_integer_plus : Entry Go.Proofs.Tryz.prog 141 e_integer_plus false :=
  entry_of (C := c_integer_plus) (fn := Go.Proofs.Tryz.f141) (c := b_integer_plus) (an := a_integer_plus) trivial trivial Go.Proofs.Tryz.func141 rfl rfl (by decide) (fun _ => rfl) (by intro a K D; kernel_rfl)
noncomputable def A_integer_minus : ArgT (Sl × Sl × Unit) := (ArgT.cons (Ty.leaf .sl) (ArgT.cons (Ty.leaf .sl) ArgT.nil))
noncomputable def R_integer_minus : Ty Sl := (Ty.leaf .sl)
noncomputable def e_integer_minus : FSem := mkE A_integer_minus R_integer_minus (fun a => F.integer_minus a.1 a.2.1)
noncomputable def c_integer_minus : Cfg := { P := Go.Proofs.Tryz.prog, n := 45, tab := [(139, e_integer_trim)], mutL := [], rtL := [], locL := [] }
noncomputable def b_integer_minus : Code := match Go.Proofs.Tryz.f142.body with | some c => c | none => .skip
noncomputable def a_integer_minus : An := (.seq .leaf (.seq .leaf (.seq .leaf (.seq (.seq .leaf (.block (.loop [(6, .leaf (.int .u64)), (15, .leaf (.int .i64))] (.seq .leaf (.seq (.cond .leaf .leaf) (.seq (.block (.seq .leaf (.seq .leaf (.join [(9, .leaf (.int .u64))] (.seq .leaf (.cond .leaf .leaf)) (.seq .leaf .leaf))))) .leaf)))))) (.seq .leaf .leaf)))))
theorem t_integer_minus : Entry Go.Proofs.Tryz.prog 142 e_integer_minus false :=
  entry_of (C := c_integer_minus) (fn := Go.Proofs.Tryz.f142) (c := b_integer_minus) (an := a_integer_minus) ⟨t_integer_trim, trivial⟩ trivial Go.Proofs.Tryz.func142 rfl rfl (by decide) (fun _ => rfl) (by intro a K D; kernel_rfl)
noncomputable def A_integer_DivMod : ArgT (TInt × TInt × Unit) := (ArgT.cons tyTInt (ArgT.cons tyTInt ArgT.nil))
noncomputable def R_integer_DivMod : Ty (TInt × TInt × Int) := (Ty.tup (.cons tyTInt (.cons tyTInt (.cons (Ty.leaf (.int .i64)) .nil))) (fun x => (x.1, x.2.1, x.2.2, ())) (fun y => (y.1, y.2.1, y.2.2.1)) (fun _ => rfl) (fun _ => rfl))
noncomputable def e_integer_DivMod : FSem := mkE A_integer_DivMod R_integer_DivMod (fun a => F.integer_DivMod a.1 a.2.1)
noncomputable def c_integer_DivMod : Cfg := { P := Go.Proofs.Tryz.prog, n := 53, tab := [(139, e_integer_trim), (140, e_integer_divide), (137, e_integer_signed), (141, e_integer_plus), (142, e_integer_minus)], mutL := [], rtL := [(10, 3), (19, 2), (26, 2), (28, 3), (42, 2), (44, 3), (49, 3)], locL := [2, 3, 4, 5] }
noncomputable def b_integer_DivMod : Code := match Go.Proofs.Tryz.f85.body with | some c => c | none => .skip
noncomputable def a_integer_DivMod : An := (.seq .leaf (.seq .leaf (.seq (.seq .leaf (.cond (.seq .leaf .leaf) .leaf)) (.seq .leaf (.join [(8, .leaf (.sl)), (9, .leaf (.sl))] (.seq .leaf (.cond (.seq .leaf .leaf) .leaf)) (.seq (.draw [0, 1, 2, 3, 4, 5, 7, 8, 9, 6, 10, 11, 12, 13]) .leaf))))))
theorem t_integer_DivMod : Entry Go.Proofs.Tryz.prog 85 e_integer_DivMod false :=
  entry_of (C := c_integer_DivMod) (fn := Go.Proofs.Tryz.f85) (c := b_integer_DivMod) (an := a_integer_DivMod) ⟨t_integer_trim, t_integer_divide, t_integer_signed, t_integer_plus, t_integer_minus, trivial⟩ trivial Go.Proofs.Tryz.func85 rfl rfl (by decide) (fun _ => rfl) (by intro a K D; kernel_rfl)
noncomputable def A_rational_quo : ArgT (TInt × TInt × Unit) := (ArgT.cons tyTInt (ArgT.cons tyTInt ArgT.nil))
noncomputable def R_rational_quo : Ty TInt := tyTInt
noncomputable def e_rational_quo : FSem := mkE A_rational_quo R_rational_quo (fun a => F.rational_quo a.1 a.2.1)
noncomputable def c_rational_quo : Cfg := { P := Go.Proofs.Tryz.prog, n := 19, tab := [(127, e_rational_isOne), (85, e_integer_DivMod)], mutL := [], rtL := [], locL := [2, 3, 4, 5, 6] }
noncomputable def b_rational_quo : Code := match Go.Proofs.Tryz.f164.body with | some c => c | none => .skip
noncomputable def a_rational_quo : An := (.seq .leaf (.seq (.seq .leaf (.cond (.seq .leaf .leaf) .leaf)) (.seq .leaf (.seq .leaf .leaf))))
theorem t_rational_quo : Entry Go.Proofs.Tryz.prog 164 e_rational_quo false :=
  entry_of (C := c_rational_quo) (fn := Go.Proofs.Tryz.f164) (c := b_rational_quo) (an := a_rational_quo) ⟨t_rational_isOne, t_integer_DivMod, trivial⟩ trivial Go.Proofs.Tryz.func164 rfl rfl (by decide) (fun _ => rfl) (by intro a K D; kernel_rfl)
noncomputable def A_integer_Neg : ArgT (TInt × Unit) := (ArgT.cons tyTInt ArgT.nil)
noncomputable def R_integer_Neg : Ty TInt := tyTInt
noncomputable def e_integer_Neg : FSem := mkE A_integer_Neg R_integer_Neg (fun a => F.integer_Neg a.1)
noncomputable def c_integer_Neg : Cfg := { P := Go.Proofs.Tryz.prog, n := 11, tab := [(139, e_integer_trim), (143, e_slices_Clone_uint32_uint32), (137, e_integer_signed)], mutL := [], rtL := [(3, 1), (6, 1)], locL := [1, 2] }
noncomputable def b_integer_Neg : Code := match Go.Proofs.Tryz.f154.body with | some c => c | none => .skip
noncomputable def a_integer_Neg : An := (.seq .leaf (.seq (.draw [0, 1, 2, 3, 4, 5, 6, 7, 8]) .leaf))
theorem t_integer_Neg : Entry Go.Proofs.Tryz.prog 154 e_integer_Neg false :=
  entry_of (C := c_integer_Neg) (fn := Go.Proofs.Tryz.f154) (c := b_integer_Neg) (an := a_integer_Neg) ⟨t_integer_trim, t_slices_Clone_uint32_uint32, t_integer_signed, trivial⟩ trivial Go.Proofs.Tryz.func154 rfl rfl (by decide) (fun _ => rfl) (by intro a K D; kernel_rfl)
noncomputable def A_rational_lowest : ArgT (TInt × TInt × Unit) := (ArgT.cons tyTInt (ArgT.cons tyTInt ArgT.nil))
noncomputable def R_rational_lowest : Ty TRat := tyTRat
noncomputable def e_rational_lowest : FSem := mkE A_rational_lowest R_rational_lowest (fun a => F.rational_lowest a.1 a.2.1)
noncomputable def c_rational_lowest : Cfg := { P := Go.Proofs.Tryz.prog, n := 20, tab := [(86, e_integer_GCD), (164, e_rational_quo), (154, e_integer_Neg)], mutL := [], rtL := [(9, 3)], locL := [2, 3, 4, 5] }
noncomputable def b_rational_lowest : Code := match Go.Proofs.Tryz.f130.body with | some c => c | none => .skip
noncomputable def a_rational_lowest : An := (.seq .leaf (.seq .leaf (.join [(5, .box [.bool, .sl])] (.seq .leaf (.cond .leaf .leaf)) (.seq (.draw [0, 1, 3, 4, 2, 5, 6, 7]) .leaf))))
theorem t_rational_lowest : Entry Go.Proofs.Tryz.prog 130 e_rational_lowest false :=
  entry_of (C := c_rational_lowest) (fn := Go.Proofs.Tryz.f130) (c := b_rational_lowest) (an := a_rational_lowest) ⟨t_integer_GCD, t_rational_quo, t_integer_Neg, trivial⟩ trivial Go.Proofs.Tryz.func130 rfl rfl (by decide) (fun _ => rfl) (by intro a K D; kernel_rfl)
noncomputable def A_rational_Div : ArgT (TRat × TRat × Unit) := (ArgT.cons tyTRat (ArgT.cons tyTRat ArgT.nil))
noncomputable def R_rational_Div : Ty (TRat × Int) := (Ty.tup (.cons tyTRat (.cons (Ty.leaf (.int .i64)) .nil)) (fun x => (x.1, x.2, ())) (fun y => (y.1, y.2.1)) (fun _ => rfl) (fun _ => rfl))
noncomputable def e_rational_Div : FSem := mkE A_rational_Div R_rational_Div (fun a => F.rational_Div a.1 a.2.1)
noncomputable def c_rational_Div : Cfg := { P := Go.Proofs.Tryz.prog, n := 21, tab := [(165, e_rational_isZero), (87, e_integer_Mul), (130, e_rational_lowest)], mutL := [], rtL := [(6, 3), (10, 2), (12, 3), (15, 2), (17, 3)], locL := [2, 3, 4] }
noncomputable def b_rational_Div : Code := match Go.Proofs.Tryz.f131.body with | some c => c | none => .skip
noncomputable def a_rational_Div : An := (.seq .leaf (.seq (.seq .leaf (.cond (.seq .leaf .leaf) .leaf)) (.seq (.draw [0, 1, 2, 3, 5, 6, 7, 8, 4, 9, 10, 11, 12]) .leaf)))
theorem t_rational_Div : Entry Go.Proofs.Tryz.prog 131 e_rational_Div false :=
  entry_of (C := c_rational_Div) (fn := Go.Proofs.Tryz.f131) (c := b_rational_Div) (an := a_rational_Div) ⟨t_rational_isZero, t_integer_Mul, t_rational_lowest, trivial⟩ trivial Go.Proofs.Tryz.func131 rfl rfl (by decide) (fun _ => rfl) (by intro a K D; kernel_rfl)
noncomputable def A_rational_Mul : ArgT (TRat × TRat × Unit) := (ArgT.cons tyTRat (ArgT.cons tyTRat ArgT.nil))
noncomputable def R_rational_Mul : Ty TRat := tyTRat
noncomputable def e_rational_Mul : FSem := mkE A_rational_Mul R_rational_Mul (fun a => F.rational_Mul a.1 a.2.1)
noncomputable def c_rational_Mul : Cfg := { P := Go.Proofs.Tryz.prog, n := 31, tab := [(87, e_integer_Mul), (130, e_rational_lowest), (127, e_rational_isOne), (129, e_rational_one)], mutL := [], rtL := [(5, 2), (9, 3), (13, 2), (15, 3), (20, 2), (22, 3), (25, 2), (27, 3)], locL := [2, 3, 4] }
noncomputable def b_rational_Mul : Code := match Go.Proofs.Tryz.f75.body with | some c => c | none => .skip
noncomputable def a_rational_Mul : An := (.seq .leaf (.join [(4, .box [.bool, .sl, .bool, .sl])] (.seq .leaf (.cond (.seq .leaf .leaf) .leaf)) (.seq (.draw [0, 1, 2, 3, 5, 6, 7, 8, 4, 9, 10, 11]) .leaf)))
theorem t_rational_Mul : Entry Go.Proofs.Tryz.prog 75 e_rational_Mul false :=
  entry_of (C := c_rational_Mul) (fn := Go.Proofs.Tryz.f75) (c := b_rational_Mul) (an := a_rational_Mul) ⟨t_integer_Mul, t_rational_lowest, t_rational_isOne, t_rational_one, trivial⟩ trivial Go.Proofs.Tryz.func75 rfl rfl (by decide) (fun _ => rfl) (by intro a K D; kernel_rfl)
noncomputable def A_rational_Neg : ArgT (TRat × Unit) := (ArgT.cons tyTRat ArgT.nil)
noncomputable def R_rational_Neg : Ty TRat := tyTRat
noncomputable def e_rational_Neg : FSem := mkE A_rational_Neg R_rational_Neg (fun a => F.rational_Neg a.1)
noncomputable def c_rational_Neg : Cfg := { P := Go.Proofs.Tryz.prog, n := 9, tab := [(154, e_integer_Neg)], mutL := [], rtL := [(3, 1), (6, 1)], locL := [1, 2] }
noncomputable def b_rational_Neg : Code := match Go.Proofs.Tryz.f97.body with | some c => c | none => .skip
noncomputable def a_rational_Neg : An := (.seq .leaf (.seq (.draw [0, 1, 3, 4, 2, 5, 6]) .leaf))
theorem t_rational_Neg : Entry Go.Proofs.Tryz.prog 97 e_rational_Neg false :=
  entry_of (C := c_rational_Neg) (fn := Go.Proofs.Tryz.f97) (c := b_rational_Neg) (an := a_rational_Neg) ⟨t_integer_Neg, trivial⟩ trivial Go.Proofs.Tryz.func97 rfl rfl (by decide) (fun _ => rfl) (by intro a K D; kernel_rfl)
noncomputable def A_integer_Add : ArgT (TInt × TInt × Unit) := (ArgT.cons tyTInt (ArgT.cons tyTInt ArgT.nil))
noncomputable def R_integer_Add : Ty TInt := tyTInt
noncomputable def e_integer_Add : FSem := mkE A_integer_Add R_integer_Add (fun a => F.integer_Add a.1 a.2.1)
noncomputable def c_integer_Add : Cfg := { P := Go.Proofs.Tryz.prog, n := 40, tab := [(139, e_integer_trim), (141, e_integer_plus), (137, e_integer_signed), (163, e_integer_compare), (142, e_integer_minus)], mutL := [], rtL := [(7, 2), (10, 3), (13, 2), (15, 3), (18, 2), (28, 3), (34, 2)], locL := [2, 3, 4] }
noncomputable def b_integer_Add : Code := match Go.Proofs.Tryz.f128.body with | some c => c | none => .skip
noncomputable def a_integer_Add : An := (.seq .leaf (.seq (.draw [0, 1, 3, 4, 2, 5, 6, 7]) (.seq (.seq .leaf (.cond (.seq (.draw [0, 1, 2, 3, 4, 5, 6]) .leaf) .leaf)) (.seq (.seq .leaf (.cond (.seq (.draw [0, 1, 2, 3, 4, 5, 6]) .leaf) .leaf)) (.seq (.draw [0, 1, 2, 3, 4, 5, 6]) .leaf)))))
theorem t_integer_Add : Entry Go.Proofs.Tryz.prog 128 e_integer_Add false :=
  entry_of (C := c_integer_Add) (fn := Go.Proofs.Tryz.f128) (c := b_integer_Add) (an := a_integer_Add) ⟨t_integer_trim, t_integer_plus, t_integer_signed, t_integer_compare, t_integer_minus, trivial⟩ trivial Go.Proofs.Tryz.func128 rfl rfl (by decide) (fun _ => rfl) (by intro a K D; kernel_rfl)
noncomputable def A_rational_Add : ArgT (TRat × TRat × Unit) := (ArgT.cons tyTRat (ArgT.cons tyTRat ArgT.nil))
noncomputable def R_rational_Add : Ty TRat := tyTRat
noncomputable def e_rational_Add : FSem := mkE A_rational_Add R_rational_Add (fun a => F.rational_Add a.1 a.2.1)
noncomputable def c_rational_Add : Cfg := { P := Go.Proofs.Tryz.prog, n := 39, tab := [(87, e_integer_Mul), (128, e_integer_Add), (130, e_rational_lowest), (127, e_rational_isOne), (129, e_rational_one)], mutL := [], rtL := [(6, 2), (10, 3), (14, 2), (16, 3), (21, 2), (23, 3), (26, 3), (28, 2), (33, 2), (35, 3)], locL := [2, 3, 4, 5] }
noncomputable def b_rational_Add : Code := match Go.Proofs.Tryz.f74.body with | some c => c | none => .skip
noncomputable def a_rational_Add : An := (.seq .leaf (.join [(4, .box [.bool, .sl, .bool, .sl])] (.seq .leaf (.cond (.seq .leaf .leaf) .leaf)) (.seq (.draw [0, 1, 2, 3, 5, 6, 7, 8, 11, 4, 9, 10, 12]) (.seq (.draw [0, 1, 2, 3, 4, 5, 6, 7]) .leaf))))
theorem t_rational_Add : Entry Go.Proofs.Tryz.prog 74 e_rational_Add false :=
  entry_of (C := c_rational_Add) (fn := Go.Proofs.Tryz.f74) (c := b_rational_Add) (an := a_rational_Add) ⟨t_integer_Mul, t_integer_Add, t_rational_lowest, t_rational_isOne, t_rational_one, trivial⟩ trivial Go.Proofs.Tryz.func74 rfl rfl (by decide) (fun _ => rfl) (by intro a K D; kernel_rfl)
noncomputable def A_rational_Sub : ArgT (TRat × TRat × Unit) := (ArgT.cons tyTRat (ArgT.cons tyTRat ArgT.nil))
noncomputable def R_rational_Sub : Ty TRat := tyTRat
noncomputable def e_rational_Sub : FSem := mkE A_rational_Sub R_rational_Sub (fun a => F.rational_Sub a.1 a.2.1)
noncomputable def c_rational_Sub : Cfg := { P := Go.Proofs.Tryz.prog, n := 9, tab := [(97, e_rational_Neg), (74, e_rational_Add)], mutL := [], rtL := [], locL := [2, 3, 4] }
noncomputable def b_rational_Sub : Code := match Go.Proofs.Tryz.f132.body with | some c => c | none => .skip
noncomputable def a_rational_Sub : An := (.seq .leaf (.seq (.draw [0, 1, 2, 3, 4]) .leaf))
theorem t_rational_Sub : Entry Go.Proofs.Tryz.prog 132 e_rational_Sub false :=
  entry_of (C := c_rational_Sub) (fn := Go.Proofs.Tryz.f132) (c := b_rational_Sub) (an := a_rational_Sub) ⟨t_rational_Neg, t_rational_Add, trivial⟩ trivial Go.Proofs.Tryz.func132 rfl rfl (by decide) (fun _ => rfl) (by intro a K D; kernel_rfl)
noncomputable def A_polynomial_divide : ArgT (Sl × Sl × Unit) := (ArgT.cons (Ty.leaf .sl) (ArgT.cons (Ty.leaf .sl) ArgT.nil))
noncomputable def R_polynomial_divide : Ty (Sl × Sl) := (Ty.tup (.cons (Ty.leaf .sl) (.cons (Ty.leaf .sl) .nil)) (fun x => (x.1, x.2, ())) (fun y => (y.1, y.2.1)) (fun _ => rfl) (fun _ => rfl))
noncomputable def e_polynomial_divide : FSem := mkE A_polynomial_divide R_polynomial_divide (fun a => F.polynomial_divide a.1 a.2.1)
noncomputable def c_polynomial_divide : Cfg := { P := Go.Proofs.Tryz.prog, n := 83, tab := [(38, e_polynomial_Trim), (73, e_polynomial_zeros), (131, e_rational_Div), (75, e_rational_Mul), (132, e_rational_Sub)], mutL := [], rtL := [], locL := [10] }
noncomputable def b_polynomial_divide : Code := match Go.Proofs.Tryz.f77.body with | some c => c | none => .skip
noncomputable def a_polynomial_divide : An := (.seq .leaf (.seq .leaf (.seq .leaf (.seq .leaf (.seq (.seq .leaf (.block (.loop [(8, .leaf (.int .i64))] (.seq (.seq .leaf (.cond .leaf .leaf)) (.seq (.block (.seq (.draw [0, 1, 2, 3, 4, 5, 6, 7, 8, 9, 10, 11, 12, 13, 14, 15, 16, 17, 18, 19, 20, 21]) (.seq .leaf (.block (.loop [(55, .leaf (.int .i64))] (.seq .leaf (.seq (.cond .leaf .leaf) (.seq (.block (.seq .leaf (.draw [0, 1, 2, 3, 4, 5, 6, 7, 8, 9, 10, 11, 12, 13, 14, 15, 16, 17, 18]))) .leaf)))))))) .leaf))))) (.seq .leaf .leaf))))))
theorem t_polynomial_divide : Entry Go.Proofs.Tryz.prog 77 e_polynomial_divide false :=
  entry_of (C := c_polynomial_divide) (fn := Go.Proofs.Tryz.f77) (c := b_polynomial_divide) (an := a_polynomial_divide) ⟨t_polynomial_Trim, t_polynomial_zeros, t_rational_Div, t_rational_Mul, t_rational_Sub, trivial⟩ trivial Go.Proofs.Tryz.func77 rfl rfl (by decide) (fun _ => rfl) (by intro a K D; kernel_rfl)
noncomputable def A_polynomial_DivMod : ArgT (Sl × Sl × Unit) := (ArgT.cons (Ty.leaf .sl) (ArgT.cons (Ty.leaf .sl) ArgT.nil))
noncomputable def R_polynomial_DivMod : Ty (Sl × Sl × Int) := (Ty.tup (.cons (Ty.leaf .sl) (.cons (Ty.leaf .sl) (.cons (Ty.leaf (.int .i64)) .nil))) (fun x => (x.1, x.2.1, x.2.2, ())) (fun y => (y.1, y.2.1, y.2.2.1)) (fun _ => rfl) (fun _ => rfl))
noncomputable def e_polynomial_DivMod : FSem := mkE A_polynomial_DivMod R_polynomial_DivMod (fun a => F.polynomial_DivMod a.1 a.2.1)
noncomputable def c_polynomial_DivMod : Cfg := { P := Go.Proofs.Tryz.prog, n := 20, tab := [(39, e_polynomial_Degree), (77, e_polynomial_divide)], mutL := [], rtL := [], locL := [] }
noncomputable def b_polynomial_DivMod : Code := match Go.Proofs.Tryz.f22.body with | some c => c | none => .skip
noncomputable def a_polynomial_DivMod : An := (.seq .leaf (.seq (.seq .leaf (.cond (.seq .leaf .leaf) .leaf)) (.seq .leaf (.seq .leaf .leaf))))
theorem t_polynomial_DivMod : Entry Go.Proofs.Tryz.prog 22 e_polynomial_DivMod false :=
  entry_of (C := c_polynomial_DivMod) (fn := Go.Proofs.Tryz.f22) (c := b_polynomial_DivMod) (an := a_polynomial_DivMod) ⟨t_polynomial_Degree, t_polynomial_divide, trivial⟩ trivial Go.Proofs.Tryz.func22 rfl rfl (by decide) (fun _ => rfl) (by intro a K D; kernel_rfl)
noncomputable def A_polynomial_Scale : ArgT (Sl × TRat × Unit) := (ArgT.cons (Ty.leaf .sl) (ArgT.cons tyTRat ArgT.nil))
noncomputable def R_polynomial_Scale : Ty Sl := (Ty.leaf .sl)
noncomputable def e_polynomial_Scale : FSem := mkE A_polynomial_Scale R_polynomial_Scale (fun a => F.polynomial_Scale a.1 a.2.1)
noncomputable def c_polynomial_Scale : Cfg := { P := Go.Proofs.Tryz.prog, n := 27, tab := [(75, e_rational_Mul), (38, e_polynomial_Trim)], mutL := [], rtL := [], locL := [3, 7] }
noncomputable def b_polynomial_Scale : Code := match Go.Proofs.Tryz.f43.body with | some c => c | none => .skip
noncomputable def a_polynomial_Scale : An := (.seq .leaf (.seq .leaf (.seq (.seq .leaf (.block (.loop [(13, .leaf (.int .i64))] (.seq .leaf (.seq (.cond .leaf .leaf) (.seq (.block (.seq .leaf .leaf)) .leaf)))))) (.seq .leaf .leaf))))
theorem t_polynomial_Scale : Entry Go.Proofs.Tryz.prog 43 e_polynomial_Scale false :=
  entry_of (C := c_polynomial_Scale) (fn := Go.Proofs.Tryz.f43) (c := b_polynomial_Scale) (an := a_polynomial_Scale) ⟨t_rational_Mul, t_polynomial_Trim, trivial⟩ trivial Go.Proofs.Tryz.func43 rfl rfl (by decide) (fun _ => rfl) (by intro a K D; kernel_rfl)
noncomputable def A_polynomial_monic : ArgT (Sl × Unit) := (ArgT.cons (Ty.leaf .sl) ArgT.nil)
noncomputable def R_polynomial_monic : Ty Sl := (Ty.leaf .sl)
noncomputable def e_polynomial_monic : FSem := mkE A_polynomial_monic R_polynomial_monic (fun a => F.polynomial_monic a.1)
noncomputable def c_polynomial_monic : Cfg := { P := Go.Proofs.Tryz.prog, n := 24, tab := [(38, e_polynomial_Trim), (79, e_rational_FromInt), (131, e_rational_Div), (43, e_polynomial_Scale)], mutL := [], rtL := [], locL := [3] }
noncomputable def b_polynomial_monic : Code := match Go.Proofs.Tryz.f83.body with | some c => c | none => .skip
noncomputable def a_polynomial_monic : An := (.seq .leaf (.seq .leaf (.seq (.seq .leaf (.cond (.seq .leaf .leaf) .leaf)) (.seq (.draw [1, 2, 3, 4, 5, 6, 11, 0, 7, 8, 9, 10, 12, 13]) (.seq .leaf .leaf)))))
theorem t_polynomial_monic : Entry Go.Proofs.Tryz.prog 83 e_polynomial_monic false :=
  entry_of (C := c_polynomial_monic) (fn := Go.Proofs.Tryz.f83) (c := b_polynomial_monic) (an := a_polynomial_monic) ⟨t_polynomial_Trim, t_rational_FromInt, t_rational_Div, t_polynomial_Scale, trivial⟩ trivial Go.Proofs.Tryz.func83 rfl rfl (by decide) (fun _ => rfl) (by intro a K D; kernel_rfl)
noncomputable def A_polynomial_Derivative : ArgT (Sl × Unit) := (ArgT.cons (Ty.leaf .sl) ArgT.nil)
noncomputable def R_polynomial_Derivative : Ty Sl := (Ty.leaf .sl)
noncomputable def e_polynomial_Derivative : FSem := mkE A_polynomial_Derivative R_polynomial_Derivative (fun a => F.polynomial_Derivative a.1)
noncomputable def c_polynomial_Derivative : Cfg := { P := Go.Proofs.Tryz.prog, n := 25, tab := [(79, e_rational_FromInt), (75, e_rational_Mul), (38, e_polynomial_Trim)], mutL := [], rtL := [], locL := [5, 20] }
noncomputable def b_polynomial_Derivative : Code := match Go.Proofs.Tryz.f26.body with | some c => c | none => .skip
noncomputable def a_polynomial_Derivative : An := (.seq .leaf (.seq .leaf (.seq (.seq .leaf (.block (.loop [(3, .leaf (.sl)), (8, .leaf (.int .i64))] (.seq .leaf (.seq (.cond .leaf .leaf) (.join [(3, .leaf (.sl))] (.block (.seq .leaf (.seq .leaf (.cond (.draw [0, 1, 2, 3, 4, 5, 6, 7]) .leaf)))) .leaf)))))) (.seq .leaf .leaf))))
theorem t_polynomial_Derivative : Entry Go.Proofs.Tryz.prog 26 e_polynomial_Derivative false :=
  entry_of (C := c_polynomial_Derivative) (fn := Go.Proofs.Tryz.f26) (c := b_polynomial_Derivative) (an := a_polynomial_Derivative) ⟨t_rational_FromInt, t_rational_Mul, t_polynomial_Trim, trivial⟩ trivial Go.Proofs.Tryz.func26 rfl rfl (by decide) (fun _ => rfl) (by intro a K D; kernel_rfl)
noncomputable def A_polynomial_GCD : ArgT (Sl × Sl × Unit) := (ArgT.cons (Ty.leaf .sl) (ArgT.cons (Ty.leaf .sl) ArgT.nil))
noncomputable def R_polynomial_GCD : Ty Sl := (Ty.leaf .sl)
noncomputable def e_polynomial_GCD : FSem := mkE A_polynomial_GCD R_polynomial_GCD (fun a => F.polynomial_GCD a.1 a.2.1)
noncomputable def c_polynomial_GCD : Cfg := { P := Go.Proofs.Tryz.prog, n := 24, tab := [(83, e_polynomial_monic), (77, e_polynomial_divide)], mutL := [], rtL := [], locL := [] }
noncomputable def b_polynomial_GCD : Code := match Go.Proofs.Tryz.f123.body with | some c => c | none => .skip
noncomputable def a_polynomial_GCD : An := (.seq .leaf (.seq .leaf (.seq (.block (.loop [(0, .leaf (.sl)), (1, .leaf (.sl))] (.seq (.seq .leaf (.cond .leaf .leaf)) (.block (.seq .leaf .leaf))))) (.seq .leaf .leaf))))
theorem t_polynomial_GCD : Entry Go.Proofs.Tryz.prog 123 e_polynomial_GCD false :=
  entry_of (C := c_polynomial_GCD) (fn := Go.Proofs.Tryz.f123) (c := b_polynomial_GCD) (an := a_polynomial_GCD) ⟨t_polynomial_monic, t_polynomial_divide, trivial⟩ trivial Go.Proofs.Tryz.func123 rfl rfl (by decide) (fun _ => rfl) (by intro a K D; kernel_rfl)
noncomputable def A_polynomial_Squarefree : ArgT (Sl × Unit) := (ArgT.cons (Ty.leaf .sl) ArgT.nil)
noncomputable def R_polynomial_Squarefree : Ty Sl := (Ty.leaf .sl)
noncomputable def e_polynomial_Squarefree : FSem := mkE A_polynomial_Squarefree R_polynomial_Squarefree (fun a => F.polynomial_Squarefree a.1)
noncomputable def c_polynomial_Squarefree : Cfg := { P := Go.Proofs.Tryz.prog, n := 21, tab := [(83, e_polynomial_monic), (26, e_polynomial_Derivative), (123, e_polynomial_GCD), (77, e_polynomial_divide)], mutL := [], rtL := [], locL := [] }
noncomputable def b_polynomial_Squarefree : Code := match Go.Proofs.Tryz.f69.body with | some c => c | none => .skip
noncomputable def a_polynomial_Squarefree : An := (.seq .leaf (.seq .leaf (.seq (.seq .leaf (.cond (.seq .leaf .leaf) .leaf)) (.seq .leaf (.seq .leaf .leaf)))))
theorem t_polynomial_Squarefree : Entry Go.Proofs.Tryz.prog 69 e_polynomial_Squarefree false :=
  entry_of (C := c_polynomial_Squarefree) (fn := Go.Proofs.Tryz.f69) (c := b_polynomial_Squarefree) (an := a_polynomial_Squarefree) ⟨t_polynomial_monic, t_polynomial_Derivative, t_polynomial_GCD, t_polynomial_divide, trivial⟩ trivial Go.Proofs.Tryz.func69 rfl rfl (by decide) (fun _ => rfl) (by intro a K D; kernel_rfl)
noncomputable def A_polynomial_Primitive : ArgT (Sl × Unit) := (ArgT.cons (Ty.leaf .sl) ArgT.nil)
noncomputable def R_polynomial_Primitive : Ty Sl := (Ty.leaf .sl)
noncomputable def e_polynomial_Primitive : FSem := mkE A_polynomial_Primitive R_polynomial_Primitive (fun a => F.polynomial_Primitive a.1)
noncomputable def c_polynomial_Primitive : Cfg := { P := Go.Proofs.Tryz.prog, n := 94, tab := [(83, e_polynomial_monic), (84, e_integer_FromInt), (86, e_integer_GCD), (85, e_integer_DivMod), (87, e_integer_Mul)], mutL := [], rtL := [(28, 5), (31, 5), (55, 12), (63, 12)], locL := [3, 5, 6, 7, 10, 12, 13, 14, 17] }
noncomputable def b_polynomial_Primitive : Code := match Go.Proofs.Tryz.f29.body with | some c => c | none => .skip
noncomputable def a_polynomial_Primitive : An := (.seq .leaf (.seq .leaf (.seq .leaf (.seq (.seq .leaf (.block (.loop [(3, .box [.bool, .sl]), (23, .leaf (.int .i64))] (.seq .leaf (.seq (.cond .leaf .leaf) (.seq (.block (.seq .leaf (.seq (.draw [0, 1, 2, 3, 4, 11, 12, 5, 6, 7, 8, 9, 10, 13, 14, 15]) .leaf))) .leaf)))))) (.seq .leaf (.seq .leaf (.seq (.seq .leaf (.block (.loop [(10, .box [.bool, .sl]), (48, .leaf (.int .i64))] (.seq .leaf (.seq (.cond .leaf .leaf) (.seq (.block (.seq .leaf (.seq .leaf (.seq .leaf (.draw [0, 1, 2, 3, 4, 5, 6]))))) .leaf)))))) (.seq (.seq .leaf (.block (.loop [(77, .leaf (.int .i64))] (.seq .leaf (.seq (.cond .leaf .leaf) (.seq (.block (.seq .leaf .leaf)) .leaf)))))) (.seq .leaf .leaf)))))))))
theorem t_polynomial_Primitive : Entry Go.Proofs.Tryz.prog 29 e_polynomial_Primitive false :=
  entry_of (C := c_polynomial_Primitive) (fn := Go.Proofs.Tryz.f29) (c := b_polynomial_Primitive) (an := a_polynomial_Primitive) ⟨t_polynomial_monic, t_integer_FromInt, t_integer_GCD, t_integer_DivMod, t_integer_Mul, trivial⟩ trivial Go.Proofs.Tryz.func29 rfl rfl (by decide) (fun _ => rfl) (by intro a K D; kernel_rfl)
noncomputable def A_integer_Cmp : ArgT (TInt × TInt × Unit) := (ArgT.cons tyTInt (ArgT.cons tyTInt ArgT.nil))
noncomputable def R_integer_Cmp : Ty Int := (Ty.leaf (.int .i64))
noncomputable def e_integer_Cmp : FSem := mkE A_integer_Cmp R_integer_Cmp (fun a => F.integer_Cmp a.1 a.2.1)
noncomputable def c_integer_Cmp : Cfg := { P := Go.Proofs.Tryz.prog, n := 26, tab := [(153, e_integer_Sign), (182, e_cmp_Compare_int), (139, e_integer_trim), (163, e_integer_compare)], mutL := [], rtL := [(18, 2), (21, 3)], locL := [2, 3] }
noncomputable def b_integer_Cmp : Code := match Go.Proofs.Tryz.f155.body with | some c => c | none => .skip
noncomputable def a_integer_Cmp : An := (.seq .leaf (.seq (.draw [0, 2, 1, 3, 4, 5]) (.seq (.seq .leaf (.cond (.seq .leaf .leaf) .leaf)) (.seq (.draw [0, 1, 2, 4, 5, 3, 6, 7, 8, 9]) .leaf))))
theorem t_integer_Cmp : Entry Go.Proofs.Tryz.prog 155 e_integer_Cmp false :=
  entry_of (C := c_integer_Cmp) (fn := Go.Proofs.Tryz.f155) (c := b_integer_Cmp) (an := a_integer_Cmp) ⟨t_integer_Sign, t_cmp_Compare_int, t_integer_trim, t_integer_compare, trivial⟩ trivial Go.Proofs.Tryz.func155 rfl rfl (by decide) (fun _ => rfl) (by intro a K D; kernel_rfl)
noncomputable def A_rational_Cmp : ArgT (TRat × TRat × Unit) := (ArgT.cons tyTRat (ArgT.cons tyTRat ArgT.nil))
noncomputable def R_rational_Cmp : Ty Int := (Ty.leaf (.int .i64))
noncomputable def e_rational_Cmp : FSem := mkE A_rational_Cmp R_rational_Cmp (fun a => F.rational_Cmp a.1 a.2.1)
noncomputable def c_rational_Cmp : Cfg := { P := Go.Proofs.Tryz.prog, n := 28, tab := [(96, e_rational_Sign), (87, e_integer_Mul), (155, e_integer_Cmp)], mutL := [], rtL := [(17, 2), (19, 3), (22, 3), (24, 2)], locL := [2, 3] }
noncomputable def b_rational_Cmp : Code := match Go.Proofs.Tryz.f98.body with | some c => c | none => .skip
noncomputable def a_rational_Cmp : An := (.seq .leaf (.seq (.seq (.draw [0, 2, 1, 3, 4, 5]) (.seq .leaf (.cond (.seq (.seq .leaf (.cond (.seq .leaf .leaf) .leaf)) (.seq .leaf .leaf)) .leaf))) (.seq (.draw [0, 1, 2, 3, 5, 6, 7, 8, 4, 9, 10, 11]) .leaf)))
theorem t_rational_Cmp : Entry Go.Proofs.Tryz.prog 98 e_rational_Cmp false :=
  entry_of (C := c_rational_Cmp) (fn := Go.Proofs.Tryz.f98) (c := b_rational_Cmp) (an := a_rational_Cmp) ⟨t_rational_Sign, t_integer_Mul, t_integer_Cmp, trivial⟩ trivial Go.Proofs.Tryz.func98 rfl rfl (by decide) (fun _ => rfl) (by intro a K D; kernel_rfl)
noncomputable def A_polynomial_Bound : ArgT (Sl × Unit) := (ArgT.cons (Ty.leaf .sl) ArgT.nil)
noncomputable def R_polynomial_Bound : Ty TRat := tyTRat
noncomputable def e_polynomial_Bound : FSem := mkE A_polynomial_Bound R_polynomial_Bound (fun a => F.polynomial_Bound a.1)
noncomputable def c_polynomial_Bound : Cfg := { P := Go.Proofs.Tryz.prog, n := 37, tab := [(83, e_polynomial_monic), (79, e_rational_FromInt), (98, e_rational_Cmp), (96, e_rational_Sign), (97, e_rational_Neg), (74, e_rational_Add)], mutL := [], rtL := [], locL := [2, 3, 5] }
noncomputable def b_polynomial_Bound : Code := match Go.Proofs.Tryz.f34.body with | some c => c | none => .skip
noncomputable def a_polynomial_Bound : An := (.seq .leaf (.seq .leaf (.seq (.seq .leaf (.cond (.seq .leaf .leaf) .leaf)) (.seq .leaf (.seq (.seq .leaf (.block (.loop [(3, .box [.bool, .sl, .bool, .sl]), (19, .leaf (.int .i64))] (.seq .leaf (.seq (.cond .leaf .leaf) (.join [(3, .box [.bool, .sl, .bool, .sl])] (.block (.seq .leaf (.join [(5, .box [.bool, .sl, .bool, .sl])] (.seq .leaf (.cond .leaf .leaf)) (.seq .leaf (.cond .leaf .leaf))))) .leaf)))))) (.seq (.draw [0, 1, 2, 3]) .leaf))))))
theorem t_polynomial_Bound : Entry Go.Proofs.Tryz.prog 34 e_polynomial_Bound false :=
  entry_of (C := c_polynomial_Bound) (fn := Go.Proofs.Tryz.f34) (c := b_polynomial_Bound) (an := a_polynomial_Bound) ⟨t_polynomial_monic, t_rational_FromInt, t_rational_Cmp, t_rational_Sign, t_rational_Neg, t_rational_Add, trivial⟩ trivial Go.Proofs.Tryz.func34 rfl rfl (by decide) (fun _ => rfl) (by intro a K D; kernel_rfl)
noncomputable def A_slices_Backward_api_Rat_api_Rat : ArgT (Sl × Unit) := (ArgT.cons (Ty.leaf .sl) ArgT.nil)
noncomputable def R_slices_Backward_api_Rat_api_Rat : Ty Addr := (Ty.clo 156)
noncomputable def e_slices_Backward_api_Rat_api_Rat : FSem := mkE A_slices_Backward_api_Rat_api_Rat R_slices_Backward_api_Rat_api_Rat (fun a => F.slices_Backward_api_Rat_api_Rat a.1)
noncomputable def c_slices_Backward_api_Rat_api_Rat : Cfg := { P := Go.Proofs.Tryz.prog, n := 4, tab := [], mutL := [], rtL := [], locL := [] }
noncomputable def b_slices_Backward_api_Rat_api_Rat : Code := match Go.Proofs.Tryz.f106.body with | some c => c | none => .skip
noncomputable def a_slices_Backward_api_Rat_api_Rat : An := (.seq .leaf (.seq .leaf .leaf))
theorem t_slices_Backward_api_Rat_api_Rat : Entry Go.Proofs.Tryz.prog 106 e_slices_Backward_api_Rat_api_Rat false :=
  entry_of (C := c_slices_Backward_api_Rat_api_Rat) (fn := Go.Proofs.Tryz.f106) (c := b_slices_Backward_api_Rat_api_Rat) (an := a_slices_Backward_api_Rat_api_Rat) trivial trivial Go.Proofs.Tryz.func106 rfl rfl (by decide) (fun _ => rfl) (by intro a K D; kernel_rfl)
noncomputable def A_polynomial_Mul : ArgT (Sl × Sl × Unit) := (ArgT.cons (Ty.leaf .sl) (ArgT.cons (Ty.leaf .sl) ArgT.nil))
noncomputable def R_polynomial_Mul : Ty Sl := (Ty.leaf .sl)
noncomputable def e_polynomial_Mul : FSem := mkE A_polynomial_Mul R_polynomial_Mul (fun a => F.polynomial_Mul a.1 a.2.1)
noncomputable def c_polynomial_Mul : Cfg := { P := Go.Proofs.Tryz.prog, n := 58, tab := [(73, e_polynomial_zeros), (75, e_rational_Mul), (74, e_rational_Add), (38, e_polynomial_Trim)], mutL := [], rtL := [], locL := [7, 9] }
noncomputable def b_polynomial_Mul : Code := match Go.Proofs.Tryz.f17.body with | some c => c | none => .skip
noncomputable def a_polynomial_Mul : An := (.seq .leaf (.join [] (.seq .leaf (.cond (.seq .leaf .leaf) .leaf)) (.seq .leaf (.seq (.seq .leaf (.block (.loop [(27, .leaf (.int .i64))] (.seq .leaf (.seq (.cond .leaf .leaf) (.seq (.block (.seq .leaf (.seq .leaf (.block (.loop [(34, .leaf (.int .i64))] (.seq .leaf (.seq (.cond .leaf .leaf) (.seq (.block (.seq .leaf (.draw [0, 1, 2, 3, 4, 5, 6, 7, 8, 9, 10, 11, 12, 13, 14, 15]))) .leaf)))))))) .leaf)))))) (.seq .leaf .leaf)))))
theorem t_polynomial_Mul : Entry Go.Proofs.Tryz.prog 17 e_polynomial_Mul false :=
  entry_of (C := c_polynomial_Mul) (fn := Go.Proofs.Tryz.f17) (c := b_polynomial_Mul) (an := a_polynomial_Mul) ⟨t_polynomial_zeros, t_rational_Mul, t_rational_Add, t_polynomial_Trim, trivial⟩ trivial Go.Proofs.Tryz.func17 rfl rfl (by decide) (fun _ => rfl) (by intro a K D; kernel_rfl)
noncomputable def A_polynomial_Add : ArgT (Sl × Sl × Unit) := (ArgT.cons (Ty.leaf .sl) (ArgT.cons (Ty.leaf .sl) ArgT.nil))
noncomputable def R_polynomial_Add : Ty Sl := (Ty.leaf .sl)
noncomputable def e_polynomial_Add : FSem := mkE A_polynomial_Add R_polynomial_Add (fun a => F.polynomial_Add a.1 a.2.1)
noncomputable def c_polynomial_Add : Cfg := { P := Go.Proofs.Tryz.prog, n := 36, tab := [(73, e_polynomial_zeros), (74, e_rational_Add), (38, e_polynomial_Trim)], mutL := [], rtL := [], locL := [7] }
noncomputable def b_polynomial_Add : Code := match Go.Proofs.Tryz.f19.body with | some c => c | none => .skip
noncomputable def a_polynomial_Add : An := (.seq .leaf (.seq .leaf (.seq .leaf (.seq (.seq .leaf (.block (.loop [(19, .leaf (.int .i64))] (.seq .leaf (.seq (.cond .leaf .leaf) (.seq (.block (.seq .leaf (.draw [0, 1, 2, 3, 4, 5, 6, 7, 8, 9]))) .leaf)))))) (.seq .leaf .leaf)))))
theorem t_polynomial_Add : Entry Go.Proofs.Tryz.prog 19 e_polynomial_Add false :=
  entry_of (C := c_polynomial_Add) (fn := Go.Proofs.Tryz.f19) (c := b_polynomial_Add) (an := a_polynomial_Add) ⟨t_polynomial_zeros, t_rational_Add, t_polynomial_Trim, trivial⟩ trivial Go.Proofs.Tryz.func19 rfl rfl (by decide) (fun _ => rfl) (by intro a K D; kernel_rfl)
end Den
end

section
/-
  The iterator of slices.Backward over rational numbers.
-/
set_option linter.unusedVariables false
namespace Den
open Go Go.RowKit Go.Shelf
open Go.Proofs
attribute [local go_sem] Oper.semAt_some

set_option maxRecDepth 100000 in
set_option maxHeartbeats 2000000 in
theorem bk_aggboolslboolsl : BackFn Tryz.prog 156 (.agg [.bool, .sl, .bool, .sl]) := by
  refine ⟨enters_of Tryz.func156 (by kernel_rfl) rfl, ?_⟩
  rintro l ab ⟨xa, xl, xc⟩ J w hxl h0 hbox hround
  simp only at hxl h0 hbox hround
  have hb0 := hbox _ _ h0
  refine callsIn_of_wp Tryz.func156 rfl trivial ?_ rfl
  simp only [Tryz.ntmps156, List.size_toArray, List.length_cons, List.length_nil, Nat.reduceAdd, Nat.reduceSub, Array.replicate_succ, Array.replicate_zero, List.push_toArray, List.append_toArray, List.nil_append, List.cons_append]
  gi_wp2
  gi_loopw [3] (fun i wr => ∃ k : Nat, k ≤ xl ∧ i = .int .i64 ((k : Int) - 1) ∧ J k wr) (fun i _ => (intOf i + 1).toNat)
  case atStart => exact ⟨xl, Nat.le_refl _, rfl, h0⟩
  case round =>
    obtain ⟨k, hk, rfl, hJ⟩ := hrel
    have hbx := hbox _ _ hJ
    cases k with
    | zero =>
      gi_wp2
      go_end0
      exact ⟨⟨_, rfl⟩, hJ⟩
    | succ j =>
      obtain ⟨ad, ⟨v0, v1, v2, v3, _⟩, hxa, hcells, f, tmps1, asg, body, hy, hR⟩ := hround j wr (by omega) hJ
      subst hxa
      have hc : ∀ i u, [Value.bool v0, .slice v1.a v1.len v1.cap, .bool v2, .slice v3.a v3.len v3.cap][i]? = some u → wr.cell? (ad.add (j * 4 + i)) = some u := fun i u hu => by
        have := hcells i u (by simpa [STy.cells, LT.up, Lf.up] using hu)
        simpa [STy.size] using this
      have hc0 := hc 0 _ rfl
      have hk1 : ∀ i, 0 < i → ad.add (j * 4 + i) = { block := (ad.add (j * 4)).block, off := (ad.add (j * 4)).off + i } := fun i hi => by
        rw [add_block, add_off]
        unfold Addr.add
        rw [if_neg (by omega)]
        congr 1
        omega
      have hc1 := hc 1 _ rfl
      have hc2 := hc 2 _ rfl
      have hc3 := hc 3 _ rfl
      rw [hk1 _ (by decide)] at hc1 hc2 hc3
      rw [Nat.add_zero] at hc0
      have hkj : (((j + 1 : Nat) : Int) - 1) = (j : Int) := by omega
      rw [hkj]
      simp only [STy.val, LT.up, Lf.up] at hy
      gi_wp2
      refine ⟨rfl, hR.mono ?_⟩
      rintro e W3 ⟨rfl, hJ3⟩
      gi_wp2
      go_roundw
      case rel => exact ⟨j, by omega, by simp, hJ3⟩
      case measure => simp [intOf]
end Den
end

section
/- MADE BY fbuild.py: the entries of the functions. -/
set_option maxRecDepth 100000
set_option linter.unusedVariables false
namespace Den
open Go
noncomputable def A_polynomial_Compose : ArgT (Sl × Sl × Unit) := (ArgT.cons (Ty.leaf .sl) (ArgT.cons (Ty.leaf .sl) ArgT.nil))
noncomputable def R_polynomial_Compose : Ty Sl := (Ty.leaf .sl)
noncomputable def e_polynomial_Compose : FSem := mkE A_polynomial_Compose R_polynomial_Compose (fun a => F.polynomial_Compose a.1 a.2.1)
noncomputable def c_polynomial_Compose : Cfg := { P := Go.Proofs.Tryz.prog, n := 19, tab := [(106, e_slices_Backward_api_Rat_api_Rat), (17, e_polynomial_Mul), (19, e_polynomial_Add)], mutL := [], rtL := [], locL := [3, 5, 7], backs := [(156, (.agg [.bool, .sl, .bool, .sl]))] }
noncomputable def b_polynomial_Compose : Code := match Go.Proofs.Tryz.f45.body with | some c => c | none => .skip
noncomputable def a_polynomial_Compose : An := (.seq .leaf (.seq .leaf (.seq (.seq .leaf (.block (.back [(5, .box [.sl])] .leaf (.block (.draw [0, 1, 3, 2, 4, 5, 6]))))) (.seq .leaf .leaf))))
theorem t_polynomial_Compose : Entry Go.Proofs.Tryz.prog 45 e_polynomial_Compose false :=
  entry_of (C := c_polynomial_Compose) (fn := Go.Proofs.Tryz.f45) (c := b_polynomial_Compose) (an := a_polynomial_Compose) ⟨t_slices_Backward_api_Rat_api_Rat, t_polynomial_Mul, t_polynomial_Add, trivial⟩ ⟨bk_aggboolslboolsl, trivial⟩ Go.Proofs.Tryz.func45 rfl rfl (by decide) (fun _ => rfl) (by intro a K D; kernel_rfl)
noncomputable def A_ref02_one : ArgT (TInt × Unit) := (ArgT.cons tyTInt ArgT.nil)
noncomputable def R_ref02_one : Ty Bool := (Ty.leaf .bool)
noncomputable def e_ref02_one : FSem := mkE A_ref02_one R_ref02_one (fun a => F.ref02_one a.1)
noncomputable def c_ref02_one : Cfg := { P := Go.Proofs.Tryz.prog, n := 19, tab := [], mutL := [], rtL := [(3, 1), (8, 1), (15, 1)], locL := [1] }
noncomputable def b_ref02_one : Code := match Go.Proofs.Tryz.f99.body with | some c => c | none => .skip
noncomputable def a_ref02_one : An := (.seq .leaf (.seq .leaf .leaf))
theorem t_ref02_one : Entry Go.Proofs.Tryz.prog 99 e_ref02_one false :=
  entry_of (C := c_ref02_one) (fn := Go.Proofs.Tryz.f99) (c := b_ref02_one) (an := a_ref02_one) trivial trivial Go.Proofs.Tryz.func99 rfl rfl (by decide) (fun _ => rfl) (by intro a K D; kernel_rfl)
noncomputable def A_ref02_Mul : ArgT (TRat × TRat × Unit) := (ArgT.cons tyTRat (ArgT.cons tyTRat ArgT.nil))
noncomputable def R_ref02_Mul : Ty TRat := tyTRat
noncomputable def e_ref02_Mul : FSem := mkE A_ref02_Mul R_ref02_Mul (fun a => F.ref02_Mul a.1 a.2.1)
noncomputable def c_ref02_Mul : Cfg := { P := Go.Proofs.Tryz.prog, n := 65, tab := [(90, e_ref01_GCD), (134, e_ref02_quo), (91, e_ref01_Mul), (99, e_ref02_one), (81, e_ref02_FromInt)], mutL := [], rtL := [(7, 2), (8, 2), (13, 3), (14, 3), (20, 2), (24, 3), (28, 2), (30, 3), (33, 2), (36, 2), (38, 3), (41, 3), (43, 2), (46, 2), (50, 3), (55, 2), (59, 3)], locL := [2, 3, 4, 5, 6] }
noncomputable def b_ref02_Mul : Code := match Go.Proofs.Tryz.f80.body with | some c => c | none => .skip
noncomputable def a_ref02_Mul : An := (.seq .leaf (.join [(4, .box [.bool, .sl, .bool, .sl])] (.seq .leaf (.cond (.seq .leaf .leaf) .leaf)) (.join [(4, .box [.bool, .sl, .bool, .sl])] (.seq .leaf (.cond (.seq (.draw [0, 1, 2, 3, 5, 6, 4, 7, 8]) .leaf) .leaf)) (.seq (.draw [0, 1, 2, 3, 5, 6, 7, 8, 10, 11, 4, 9, 12, 13]) (.seq (.draw [0, 1, 2, 4, 5, 6, 9, 10, 11, 13, 14, 15, 3, 7, 8, 12, 16, 17, 18, 19]) .leaf)))))
theorem t_ref02_Mul : Entry Go.Proofs.Tryz.prog 80 e_ref02_Mul false :=
  entry_of (C := c_ref02_Mul) (fn := Go.Proofs.Tryz.f80) (c := b_ref02_Mul) (an := a_ref02_Mul) ⟨t_ref01_GCD, t_ref02_quo, t_ref01_Mul, t_ref02_one, t_ref02_FromInt, trivial⟩ trivial Go.Proofs.Tryz.func80 rfl rfl (by decide) (fun _ => rfl) (by intro a K D; kernel_rfl)
noncomputable def A_ref02_Sign : ArgT (TRat × Unit) := (ArgT.cons tyTRat ArgT.nil)
noncomputable def R_ref02_Sign : Ty Int := (Ty.leaf (.int .i64))
noncomputable def e_ref02_Sign : FSem := mkE A_ref02_Sign R_ref02_Sign (fun a => F.ref02_Sign a.1)
noncomputable def c_ref02_Sign : Cfg := { P := Go.Proofs.Tryz.prog, n := 6, tab := [(92, e_ref01_Sign)], mutL := [], rtL := [(3, 1)], locL := [1] }
noncomputable def b_ref02_Sign : Code := match Go.Proofs.Tryz.f32.body with | some c => c | none => .skip
noncomputable def a_ref02_Sign : An := (.seq .leaf (.seq .leaf .leaf))
theorem t_ref02_Sign : Entry Go.Proofs.Tryz.prog 32 e_ref02_Sign false :=
  entry_of (C := c_ref02_Sign) (fn := Go.Proofs.Tryz.f32) (c := b_ref02_Sign) (an := a_ref02_Sign) ⟨t_ref01_Sign, trivial⟩ trivial Go.Proofs.Tryz.func32 rfl rfl (by decide) (fun _ => rfl) (by intro a K D; kernel_rfl)
noncomputable def A_ref04_Trim : ArgT (Sl × Unit) := (ArgT.cons (Ty.leaf .sl) ArgT.nil)
noncomputable def R_ref04_Trim : Ty Sl := (Ty.leaf .sl)
noncomputable def e_ref04_Trim : FSem := mkE A_ref04_Trim R_ref04_Trim (fun a => F.ref04_Trim a.1)
noncomputable def c_ref04_Trim : Cfg := { P := Go.Proofs.Tryz.prog, n := 24, tab := [(32, e_ref02_Sign)], mutL := [], rtL := [], locL := [] }
noncomputable def b_ref04_Trim : Code := match Go.Proofs.Tryz.f25.body with | some c => c | none => .skip
noncomputable def a_ref04_Trim : An := (.seq .leaf (.seq .leaf (.join [(3, .leaf (.int .i64))] (.block (.loop [(3, .leaf (.int .i64))] (.join [] (.seq .leaf (.cond .leaf .leaf)) (.block .leaf)))) (.seq .leaf .leaf))))
theorem t_ref04_Trim : Entry Go.Proofs.Tryz.prog 25 e_ref04_Trim false :=
  entry_of (C := c_ref04_Trim) (fn := Go.Proofs.Tryz.f25) (c := b_ref04_Trim) (an := a_ref04_Trim) ⟨t_ref02_Sign, trivial⟩ trivial Go.Proofs.Tryz.func25 rfl rfl (by decide) (fun _ => rfl) (by intro a K D; kernel_rfl)
noncomputable def A_ref04_Scale : ArgT (Sl × TRat × Unit) := (ArgT.cons (Ty.leaf .sl) (ArgT.cons tyTRat ArgT.nil))
noncomputable def R_ref04_Scale : Ty Sl := (Ty.leaf .sl)
noncomputable def e_ref04_Scale : FSem := mkE A_ref04_Scale R_ref04_Scale (fun a => F.ref04_Scale a.1 a.2.1)
noncomputable def c_ref04_Scale : Cfg := { P := Go.Proofs.Tryz.prog, n := 24, tab := [(80, e_ref02_Mul), (25, e_ref04_Trim)], mutL := [], rtL := [], locL := [3, 20] }
noncomputable def b_ref04_Scale : Code := match Go.Proofs.Tryz.f33.body with | some c => c | none => .skip
noncomputable def a_ref04_Scale : An := (.seq .leaf (.seq .leaf (.seq (.seq .leaf (.block (.loop [(5, .leaf (.sl)), (6, .leaf (.int .i64))] (.seq (.seq .leaf (.cond .leaf .leaf)) (.seq (.block (.draw [0, 1, 2, 3, 4, 5, 6, 7, 8, 9])) .leaf))))) (.seq .leaf .leaf))))
theorem t_ref04_Scale : Entry Go.Proofs.Tryz.prog 33 e_ref04_Scale false :=
  entry_of (C := c_ref04_Scale) (fn := Go.Proofs.Tryz.f33) (c := b_ref04_Scale) (an := a_ref04_Scale) ⟨t_ref02_Mul, t_ref04_Trim, trivial⟩ trivial Go.Proofs.Tryz.func33 rfl rfl (by decide) (fun _ => rfl) (by intro a K D; kernel_rfl)
noncomputable def A_ref04_zero : ArgT (Unit) := ArgT.nil
noncomputable def R_ref04_zero : Ty TRat := tyTRat
noncomputable def e_ref04_zero : FSem := mkE A_ref04_zero R_ref04_zero (fun a => F.ref04_zero )
noncomputable def c_ref04_zero : Cfg := { P := Go.Proofs.Tryz.prog, n := 2, tab := [(81, e_ref02_FromInt)], mutL := [], rtL := [], locL := [0] }
noncomputable def b_ref04_zero : Code := match Go.Proofs.Tryz.f101.body with | some c => c | none => .skip
noncomputable def a_ref04_zero : An := (.seq .leaf (.seq .leaf .leaf))
theorem t_ref04_zero : Entry Go.Proofs.Tryz.prog 101 e_ref04_zero false :=
  entry_of (C := c_ref04_zero) (fn := Go.Proofs.Tryz.f101) (c := b_ref04_zero) (an := a_ref04_zero) ⟨t_ref02_FromInt, trivial⟩ trivial Go.Proofs.Tryz.func101 rfl rfl (by decide) (fun _ => rfl) (by intro a K D; kernel_rfl)
noncomputable def A_ref04_at : ArgT (Sl × Int × Unit) := (ArgT.cons (Ty.leaf .sl) (ArgT.cons (Ty.leaf (.int .i64)) ArgT.nil))
noncomputable def R_ref04_at : Ty TRat := tyTRat
noncomputable def e_ref04_at : FSem := mkE A_ref04_at R_ref04_at (fun a => F.ref04_at a.1 a.2.1)
noncomputable def c_ref04_at : Cfg := { P := Go.Proofs.Tryz.prog, n := 18, tab := [(101, e_ref04_zero)], mutL := [], rtL := [], locL := [4] }
noncomputable def b_ref04_at : Code := match Go.Proofs.Tryz.f105.body with | some c => c | none => .skip
noncomputable def a_ref04_at : An := (.seq .leaf (.join [(4, .box [.bool, .sl, .bool, .sl])] (.seq .leaf (.cond (.seq .leaf .leaf) .leaf)) (.seq .leaf .leaf)))
theorem t_ref04_at : Entry Go.Proofs.Tryz.prog 105 e_ref04_at false :=
  entry_of (C := c_ref04_at) (fn := Go.Proofs.Tryz.f105) (c := b_ref04_at) (an := a_ref04_at) ⟨t_ref04_zero, trivial⟩ trivial Go.Proofs.Tryz.func105 rfl rfl (by decide) (fun _ => rfl) (by intro a K D; kernel_rfl)
noncomputable def A_ref02_Add : ArgT (TRat × TRat × Unit) := (ArgT.cons tyTRat (ArgT.cons tyTRat ArgT.nil))
noncomputable def R_ref02_Add : Ty TRat := tyTRat
noncomputable def e_ref02_Add : FSem := mkE A_ref02_Add R_ref02_Add (fun a => F.ref02_Add a.1 a.2.1)
noncomputable def c_ref02_Add : Cfg := { P := Go.Proofs.Tryz.prog, n := 94, tab := [(90, e_ref01_GCD), (99, e_ref02_one), (91, e_ref01_Mul), (151, e_ref01_Add), (134, e_ref02_quo)], mutL := [], rtL := [(11, 2), (12, 2), (17, 3), (18, 3), (23, 2), (27, 3), (31, 2), (33, 3), (36, 2), (39, 2), (41, 3), (46, 2), (48, 3), (51, 3), (53, 2), (58, 2), (60, 3), (64, 2), (68, 3), (72, 2), (76, 3), (88, 3)], locL := [2, 3, 4, 5, 6, 7, 8, 9, 10] }
noncomputable def b_ref02_Add : Code := match Go.Proofs.Tryz.f103.body with | some c => c | none => .skip
noncomputable def a_ref02_Add : An := (.seq .leaf (.seq (.seq .leaf (.cond (.seq .leaf .leaf) .leaf)) (.seq (.seq .leaf (.cond (.seq .leaf .leaf) .leaf)) (.join [(4, .box [.bool, .sl, .bool, .sl])] (.seq .leaf (.cond (.seq (.draw [0, 1, 2, 3, 5, 6, 4, 7, 8]) .leaf) .leaf)) (.seq .leaf (.seq (.seq .leaf (.cond (.seq (.draw [0, 1, 2, 3, 5, 6, 7, 8, 11, 4, 9, 10, 12]) (.seq (.draw [0, 1, 2, 3, 4, 5, 6, 7]) .leaf)) .leaf)) (.seq (.draw [0, 1, 2, 4, 5, 6, 8, 9, 3, 7, 10, 11]) (.seq (.draw [0, 1, 2, 4, 5, 6, 9, 3, 7, 8, 10]) (.seq .leaf (.seq (.draw [0, 1, 3, 4, 5, 6, 2, 7, 8, 9, 10]) .leaf))))))))))
theorem t_ref02_Add : Entry Go.Proofs.Tryz.prog 103 e_ref02_Add false :=
  entry_of (C := c_ref02_Add) (fn := Go.Proofs.Tryz.f103) (c := b_ref02_Add) (an := a_ref02_Add) ⟨t_ref01_GCD, t_ref02_one, t_ref01_Mul, t_ref01_Add, t_ref02_quo, trivial⟩ trivial Go.Proofs.Tryz.func103 rfl rfl (by decide) (fun _ => rfl) (by intro a K D; kernel_rfl)
noncomputable def A_ref04_Add : ArgT (Sl × Sl × Unit) := (ArgT.cons (Ty.leaf .sl) (ArgT.cons (Ty.leaf .sl) ArgT.nil))
noncomputable def R_ref04_Add : Ty Sl := (Ty.leaf .sl)
noncomputable def e_ref04_Add : FSem := mkE A_ref04_Add R_ref04_Add (fun a => F.ref04_Add a.1 a.2.1)
noncomputable def c_ref04_Add : Cfg := { P := Go.Proofs.Tryz.prog, n := 31, tab := [(25, e_ref04_Trim), (105, e_ref04_at), (103, e_ref02_Add)], mutL := [], rtL := [], locL := [27] }
noncomputable def b_ref04_Add : Code := match Go.Proofs.Tryz.f40.body with | some c => c | none => .skip
noncomputable def a_ref04_Add : An := (.seq .leaf (.seq .leaf (.join [(5, .leaf (.sl))] (.seq .leaf (.block (.loop [(5, .leaf (.sl)), (6, .leaf (.int .i64))] (.join [] (.seq .leaf (.cond .leaf .leaf)) (.seq (.block .leaf) .leaf))))) (.seq .leaf .leaf))))
theorem t_ref04_Add : Entry Go.Proofs.Tryz.prog 40 e_ref04_Add false :=
  entry_of (C := c_ref04_Add) (fn := Go.Proofs.Tryz.f40) (c := b_ref04_Add) (an := a_ref04_Add) ⟨t_ref04_Trim, t_ref04_at, t_ref02_Add, trivial⟩ trivial Go.Proofs.Tryz.func40 rfl rfl (by decide) (fun _ => rfl) (by intro a K D; kernel_rfl)
noncomputable def A_ref04_Sub : ArgT (Sl × Sl × Unit) := (ArgT.cons (Ty.leaf .sl) (ArgT.cons (Ty.leaf .sl) ArgT.nil))
noncomputable def R_ref04_Sub : Ty Sl := (Ty.leaf .sl)
noncomputable def e_ref04_Sub : FSem := mkE A_ref04_Sub R_ref04_Sub (fun a => F.ref04_Sub a.1 a.2.1)
noncomputable def c_ref04_Sub : Cfg := { P := Go.Proofs.Tryz.prog, n := 10, tab := [(81, e_ref02_FromInt), (33, e_ref04_Scale), (40, e_ref04_Add)], mutL := [], rtL := [], locL := [] }
noncomputable def b_ref04_Sub : Code := match Go.Proofs.Tryz.f42.body with | some c => c | none => .skip
noncomputable def a_ref04_Sub : An := (.seq .leaf (.seq .leaf .leaf))
theorem t_ref04_Sub : Entry Go.Proofs.Tryz.prog 42 e_ref04_Sub false :=
  entry_of (C := c_ref04_Sub) (fn := Go.Proofs.Tryz.f42) (c := b_ref04_Sub) (an := a_ref04_Sub) ⟨t_ref02_FromInt, t_ref04_Scale, t_ref04_Add, trivial⟩ trivial Go.Proofs.Tryz.func42 rfl rfl (by decide) (fun _ => rfl) (by intro a K D; kernel_rfl)
noncomputable def A_ref04_Same : ArgT (Sl × Sl × Unit) := (ArgT.cons (Ty.leaf .sl) (ArgT.cons (Ty.leaf .sl) ArgT.nil))
noncomputable def R_ref04_Same : Ty Bool := (Ty.leaf .bool)
noncomputable def e_ref04_Same : FSem := mkE A_ref04_Same R_ref04_Same (fun a => F.ref04_Same a.1 a.2.1)
noncomputable def c_ref04_Same : Cfg := { P := Go.Proofs.Tryz.prog, n := 10, tab := [(42, e_ref04_Sub)], mutL := [], rtL := [], locL := [] }
noncomputable def b_ref04_Same : Code := match Go.Proofs.Tryz.f124.body with | some c => c | none => .skip
noncomputable def a_ref04_Same : An := (.seq .leaf (.seq .leaf .leaf))
theorem t_ref04_Same : Entry Go.Proofs.Tryz.prog 124 e_ref04_Same false :=
  entry_of (C := c_ref04_Same) (fn := Go.Proofs.Tryz.f124) (c := b_ref04_Same) (an := a_ref04_Same) ⟨t_ref04_Sub, trivial⟩ trivial Go.Proofs.Tryz.func124 rfl rfl (by decide) (fun _ => rfl) (by intro a K D; kernel_rfl)
noncomputable def A_ref04_Equal : ArgT (Sl × Sl × Unit) := (ArgT.cons (Ty.leaf .sl) (ArgT.cons (Ty.leaf .sl) ArgT.nil))
noncomputable def R_ref04_Equal : Ty Bool := (Ty.leaf .bool)
noncomputable def e_ref04_Equal : FSem := mkE A_ref04_Equal R_ref04_Equal (fun a => F.ref04_Equal a.1 a.2.1)
noncomputable def c_ref04_Equal : Cfg := { P := Go.Proofs.Tryz.prog, n := 15, tab := [(124, e_ref04_Same)], mutL := [], rtL := [], locL := [] }
noncomputable def b_ref04_Equal : Code := match Go.Proofs.Tryz.f70.body with | some c => c | none => .skip
noncomputable def a_ref04_Equal : An := (.seq .leaf (.seq .leaf .leaf))
theorem t_ref04_Equal : Entry Go.Proofs.Tryz.prog 70 e_ref04_Equal false :=
  entry_of (C := c_ref04_Equal) (fn := Go.Proofs.Tryz.f70) (c := b_ref04_Equal) (an := a_ref04_Equal) ⟨t_ref04_Same, trivial⟩ trivial Go.Proofs.Tryz.func70 rfl rfl (by decide) (fun _ => rfl) (by intro a K D; kernel_rfl)
noncomputable def A_ref01_Cmp : ArgT (TInt × TInt × Unit) := (ArgT.cons tyTInt (ArgT.cons tyTInt ArgT.nil))
noncomputable def R_ref01_Cmp : Ty Int := (Ty.leaf (.int .i64))
noncomputable def e_ref01_Cmp : FSem := mkE A_ref01_Cmp R_ref01_Cmp (fun a => F.ref01_Cmp a.1 a.2.1)
noncomputable def c_ref01_Cmp : Cfg := { P := Go.Proofs.Tryz.prog, n := 9, tab := [(150, e_ref01_Sub), (92, e_ref01_Sign)], mutL := [], rtL := [], locL := [2, 3] }
noncomputable def b_ref01_Cmp : Code := match Go.Proofs.Tryz.f95.body with | some c => c | none => .skip
noncomputable def a_ref01_Cmp : An := (.seq .leaf (.seq .leaf .leaf))
theorem t_ref01_Cmp : Entry Go.Proofs.Tryz.prog 95 e_ref01_Cmp false :=
  entry_of (C := c_ref01_Cmp) (fn := Go.Proofs.Tryz.f95) (c := b_ref01_Cmp) (an := a_ref01_Cmp) ⟨t_ref01_Sub, t_ref01_Sign, trivial⟩ trivial Go.Proofs.Tryz.func95 rfl rfl (by decide) (fun _ => rfl) (by intro a K D; kernel_rfl)
noncomputable def A_law04_ints : ArgT (Sl × Sl × Unit) := (ArgT.cons (Ty.leaf .sl) (ArgT.cons (Ty.leaf .sl) ArgT.nil))
noncomputable def R_law04_ints : Ty Bool := (Ty.leaf .bool)
noncomputable def e_law04_ints : FSem := mkE A_law04_ints R_law04_ints (fun a => F.law04_ints a.1 a.2.1)
noncomputable def c_law04_ints : Cfg := { P := Go.Proofs.Tryz.prog, n := 28, tab := [(88, e_ref01_FromInt), (95, e_ref01_Cmp)], mutL := [], rtL := [], locL := [] }
noncomputable def b_law04_ints : Code := match Go.Proofs.Tryz.f71.body with | some c => c | none => .skip
noncomputable def a_law04_ints : An := (.seq .leaf (.seq (.seq .leaf (.cond (.seq .leaf .leaf) .leaf)) (.seq (.seq .leaf (.block (.loop [(14, .leaf (.int .i64))] (.seq .leaf (.seq (.cond .leaf .leaf) (.seq (.block (.seq .leaf (.seq (.draw [0, 1, 2, 3, 4, 5, 6, 7]) (.cond (.seq .leaf .leaf) .leaf)))) .leaf)))))) (.seq .leaf .leaf))))
theorem t_law04_ints : Entry Go.Proofs.Tryz.prog 71 e_law04_ints false :=
  entry_of (C := c_law04_ints) (fn := Go.Proofs.Tryz.f71) (c := b_law04_ints) (an := a_law04_ints) ⟨t_ref01_FromInt, t_ref01_Cmp, trivial⟩ trivial Go.Proofs.Tryz.func71 rfl rfl (by decide) (fun _ => rfl) (by intro a K D; kernel_rfl)
noncomputable def A_ref01_Valid : ArgT (TInt × Unit) := (ArgT.cons tyTInt ArgT.nil)
noncomputable def R_ref01_Valid : Ty Bool := (Ty.leaf .bool)
noncomputable def e_ref01_Valid : FSem := mkE A_ref01_Valid R_ref01_Valid (fun a => F.ref01_Valid a.1)
noncomputable def c_ref01_Valid : Cfg := { P := Go.Proofs.Tryz.prog, n := 22, tab := [(136, e_ref01_trim)], mutL := [], rtL := [(3, 1), (7, 1), (12, 1), (16, 1)], locL := [1] }
noncomputable def b_ref01_Valid : Code := match Go.Proofs.Tryz.f94.body with | some c => c | none => .skip
noncomputable def a_ref01_Valid : An := (.seq .leaf (.seq (.draw [0, 1, 4, 5, 6, 2, 3, 7, 8, 9, 10, 11, 12, 13, 14, 15, 16, 17, 18, 19]) .leaf))
theorem t_ref01_Valid : Entry Go.Proofs.Tryz.prog 94 e_ref01_Valid false :=
  entry_of (C := c_ref01_Valid) (fn := Go.Proofs.Tryz.f94) (c := b_ref01_Valid) (an := a_ref01_Valid) ⟨t_ref01_trim, trivial⟩ trivial Go.Proofs.Tryz.func94 rfl rfl (by decide) (fun _ => rfl) (by intro a K D; kernel_rfl)
noncomputable def A_ref02_Valid : ArgT (TRat × Unit) := (ArgT.cons tyTRat ArgT.nil)
noncomputable def R_ref02_Valid : Ty Bool := (Ty.leaf .bool)
noncomputable def e_ref02_Valid : FSem := mkE A_ref02_Valid R_ref02_Valid (fun a => F.ref02_Valid a.1)
noncomputable def c_ref02_Valid : Cfg := { P := Go.Proofs.Tryz.prog, n := 25, tab := [(94, e_ref01_Valid), (92, e_ref01_Sign), (90, e_ref01_GCD), (99, e_ref02_one)], mutL := [], rtL := [(3, 1), (7, 1), (12, 1), (18, 1), (20, 1)], locL := [1] }
noncomputable def b_ref02_Valid : Code := match Go.Proofs.Tryz.f35.body with | some c => c | none => .skip
noncomputable def a_ref02_Valid : An := (.seq .leaf (.seq .leaf .leaf))
theorem t_ref02_Valid : Entry Go.Proofs.Tryz.prog 35 e_ref02_Valid false :=
  entry_of (C := c_ref02_Valid) (fn := Go.Proofs.Tryz.f35) (c := b_ref02_Valid) (an := a_ref02_Valid) ⟨t_ref01_Valid, t_ref01_Sign, t_ref01_GCD, t_ref02_one, trivial⟩ trivial Go.Proofs.Tryz.func35 rfl rfl (by decide) (fun _ => rfl) (by intro a K D; kernel_rfl)
noncomputable def A_ref02_Cmp : ArgT (TRat × TRat × Unit) := (ArgT.cons tyTRat (ArgT.cons tyTRat ArgT.nil))
noncomputable def R_ref02_Cmp : Ty Int := (Ty.leaf (.int .i64))
noncomputable def e_ref02_Cmp : FSem := mkE A_ref02_Cmp R_ref02_Cmp (fun a => F.ref02_Cmp a.1 a.2.1)
noncomputable def c_ref02_Cmp : Cfg := { P := Go.Proofs.Tryz.prog, n := 16, tab := [(91, e_ref01_Mul), (95, e_ref01_Cmp)], mutL := [], rtL := [(5, 2), (7, 3), (10, 3), (12, 2)], locL := [2, 3] }
noncomputable def b_ref02_Cmp : Code := match Go.Proofs.Tryz.f36.body with | some c => c | none => .skip
noncomputable def a_ref02_Cmp : An := (.seq .leaf (.seq (.draw [0, 1, 2, 3, 5, 6, 7, 8, 4, 9, 10, 11]) .leaf))
theorem t_ref02_Cmp : Entry Go.Proofs.Tryz.prog 36 e_ref02_Cmp false :=
  entry_of (C := c_ref02_Cmp) (fn := Go.Proofs.Tryz.f36) (c := b_ref02_Cmp) (an := a_ref02_Cmp) ⟨t_ref01_Mul, t_ref01_Cmp, trivial⟩ trivial Go.Proofs.Tryz.func36 rfl rfl (by decide) (fun _ => rfl) (by intro a K D; kernel_rfl)
noncomputable def A_law04_awake : ArgT (Unit) := ArgT.nil
noncomputable def R_law04_awake : Ty Bool := (Ty.leaf .bool)
noncomputable def e_law04_awake : FSem := mkE A_law04_awake R_law04_awake (fun a => F.law04_awake )
noncomputable def c_law04_awake : Cfg := { P := Go.Proofs.Tryz.prog, n := 109, tab := [(68, e_law04_rats), (22, e_polynomial_DivMod), (69, e_polynomial_Squarefree), (29, e_polynomial_Primitive), (34, e_polynomial_Bound), (45, e_polynomial_Compose), (70, e_ref04_Equal), (71, e_law04_ints), (35, e_ref02_Valid), (72, e_ref02_Frac), (36, e_ref02_Cmp)], mutL := [], rtL := [], locL := [7] }
noncomputable def b_law04_awake : Code := match Go.Proofs.Tryz.f15.body with | some c => c | none => .skip
noncomputable def a_law04_awake : An := (.seq .leaf (.seq .leaf (.seq .leaf (.seq .leaf (.seq .leaf (.seq .leaf (.seq .leaf (.seq (.draw [0, 1, 2, 3, 4, 5, 6, 7, 8, 9, 10, 11, 12, 13, 14, 15, 16, 17, 18, 19, 20, 21, 22, 23, 24, 25, 26, 27, 28, 29, 30, 31, 32, 33, 34, 35, 36, 37, 38, 39, 40, 41, 42, 43, 44, 45, 46, 47, 48, 49, 50, 51, 52, 53]) .leaf))))))))
theorem t_law04_awake : Entry Go.Proofs.Tryz.prog 15 e_law04_awake false :=
  entry_of (C := c_law04_awake) (fn := Go.Proofs.Tryz.f15) (c := b_law04_awake) (an := a_law04_awake) ⟨t_law04_rats, t_polynomial_DivMod, t_polynomial_Squarefree, t_polynomial_Primitive, t_polynomial_Bound, t_polynomial_Compose, t_ref04_Equal, t_law04_ints, t_ref02_Valid, t_ref02_Frac, t_ref02_Cmp, trivial⟩ trivial Go.Proofs.Tryz.func15 rfl rfl (by decide) (fun _ => rfl) (by intro a K D; kernel_rfl)
noncomputable def A_ref01_Bits : ArgT (TInt × Unit) := (ArgT.cons tyTInt ArgT.nil)
noncomputable def R_ref01_Bits : Ty Int := (Ty.leaf (.int .i64))
noncomputable def e_ref01_Bits : FSem := mkE A_ref01_Bits R_ref01_Bits (fun a => F.ref01_Bits a.1)
noncomputable def c_ref01_Bits : Cfg := { P := Go.Proofs.Tryz.prog, n := 7, tab := [(136, e_ref01_trim), (135, e_ref01_length)], mutL := [], rtL := [(3, 1)], locL := [1] }
noncomputable def b_ref01_Bits : Code := match Go.Proofs.Tryz.f82.body with | some c => c | none => .skip
noncomputable def a_ref01_Bits : An := (.seq .leaf (.seq .leaf .leaf))
theorem t_ref01_Bits : Entry Go.Proofs.Tryz.prog 82 e_ref01_Bits false :=
  entry_of (C := c_ref01_Bits) (fn := Go.Proofs.Tryz.f82) (c := b_ref01_Bits) (an := a_ref01_Bits) ⟨t_ref01_trim, t_ref01_length, trivial⟩ trivial Go.Proofs.Tryz.func82 rfl rfl (by decide) (fun _ => rfl) (by intro a K D; kernel_rfl)
noncomputable def A_ref04_Short : ArgT (TRat × Unit) := (ArgT.cons tyTRat ArgT.nil)
noncomputable def R_ref04_Short : Ty Bool := (Ty.leaf .bool)
noncomputable def e_ref04_Short : FSem := mkE A_ref04_Short R_ref04_Short (fun a => F.ref04_Short a.1)
noncomputable def c_ref04_Short : Cfg := { P := Go.Proofs.Tryz.prog, n := 31, tab := [(35, e_ref02_Valid), (82, e_ref01_Bits)], mutL := [], rtL := [(3, 1), (4, 1), (9, 1), (10, 1), (20, 1), (26, 1)], locL := [1] }
noncomputable def b_ref04_Short : Code := match Go.Proofs.Tryz.f28.body with | some c => c | none => .skip
noncomputable def a_ref04_Short : An := (.seq .leaf (.seq .leaf .leaf))
theorem t_ref04_Short : Entry Go.Proofs.Tryz.prog 28 e_ref04_Short false :=
  entry_of (C := c_ref04_Short) (fn := Go.Proofs.Tryz.f28) (c := b_ref04_Short) (an := a_ref04_Short) ⟨t_ref02_Valid, t_ref01_Bits, trivial⟩ trivial Go.Proofs.Tryz.func28 rfl rfl (by decide) (fun _ => rfl) (by intro a K D; kernel_rfl)
noncomputable def A_ref04_Small : ArgT (Sl × Int × Unit) := (ArgT.cons (Ty.leaf .sl) (ArgT.cons (Ty.leaf (.int .i64)) ArgT.nil))
noncomputable def R_ref04_Small : Ty Bool := (Ty.leaf .bool)
noncomputable def e_ref04_Small : FSem := mkE A_ref04_Small R_ref04_Small (fun a => F.ref04_Small a.1 a.2.1)
noncomputable def c_ref04_Small : Cfg := { P := Go.Proofs.Tryz.prog, n := 22, tab := [(28, e_ref04_Short)], mutL := [], rtL := [], locL := [] }
noncomputable def b_ref04_Small : Code := match Go.Proofs.Tryz.f44.body with | some c => c | none => .skip
noncomputable def a_ref04_Small : An := (.seq .leaf (.seq (.seq .leaf (.cond (.seq .leaf .leaf) .leaf)) (.seq (.seq .leaf (.block (.loop [(5, .leaf (.int .i64))] (.seq (.seq .leaf (.cond .leaf .leaf)) (.seq (.block (.seq .leaf (.cond (.seq .leaf .leaf) .leaf))) .leaf))))) (.seq .leaf .leaf))))
theorem t_ref04_Small : Entry Go.Proofs.Tryz.prog 44 e_ref04_Small false :=
  entry_of (C := c_ref04_Small) (fn := Go.Proofs.Tryz.f44) (c := b_ref04_Small) (an := a_ref04_Small) ⟨t_ref04_Short, trivial⟩ trivial Go.Proofs.Tryz.func44 rfl rfl (by decide) (fun _ => rfl) (by intro a K D; kernel_rfl)
noncomputable def A_law04_few : ArgT (Sl × Unit) := (ArgT.cons (Ty.leaf .sl) ArgT.nil)
noncomputable def R_law04_few : Ty Bool := (Ty.leaf .bool)
noncomputable def e_law04_few : FSem := mkE A_law04_few R_law04_few (fun a => F.law04_few a.1)
noncomputable def c_law04_few : Cfg := { P := Go.Proofs.Tryz.prog, n := 15, tab := [(44, e_ref04_Small)], mutL := [], rtL := [], locL := [] }
noncomputable def b_law04_few : Code := match Go.Proofs.Tryz.f16.body with | some c => c | none => .skip
noncomputable def a_law04_few : An := (.seq .leaf (.seq (.seq .leaf (.block (.loop [(7, .leaf (.int .i64))] (.seq .leaf (.seq (.cond .leaf .leaf) (.seq (.block (.seq .leaf (.seq .leaf (.cond (.seq .leaf .leaf) .leaf)))) .leaf)))))) (.seq .leaf .leaf)))
theorem t_law04_few : Entry Go.Proofs.Tryz.prog 16 e_law04_few false :=
  entry_of (C := c_law04_few) (fn := Go.Proofs.Tryz.f16) (c := b_law04_few) (an := a_law04_few) ⟨t_ref04_Small, trivial⟩ trivial Go.Proofs.Tryz.func16 rfl rfl (by decide) (fun _ => rfl) (by intro a K D; kernel_rfl)
noncomputable def A_law04_own : ArgT (Sl × Unit) := (ArgT.cons (Ty.leaf .sl) ArgT.nil)
noncomputable def R_law04_own : Ty Sl := (Ty.leaf .sl)
noncomputable def e_law04_own : FSem := mkE A_law04_own R_law04_own (fun a => F.law04_own a.1)
noncomputable def c_law04_own : Cfg := { P := Go.Proofs.Tryz.prog, n := 6, tab := [], mutL := [], rtL := [], locL := [] }
noncomputable def b_law04_own : Code := match Go.Proofs.Tryz.f18.body with | some c => c | none => .skip
noncomputable def a_law04_own : An := (.seq .leaf (.seq .leaf .leaf))
theorem t_law04_own : Entry Go.Proofs.Tryz.prog 18 e_law04_own false :=
  entry_of (C := c_law04_own) (fn := Go.Proofs.Tryz.f18) (c := b_law04_own) (an := a_law04_own) trivial trivial Go.Proofs.Tryz.func18 rfl rfl (by decide) (fun _ => rfl) (by intro a K D; kernel_rfl)
noncomputable def A_ref04_Shift : ArgT (Sl × Int × Unit) := (ArgT.cons (Ty.leaf .sl) (ArgT.cons (Ty.leaf (.int .i64)) ArgT.nil))
noncomputable def R_ref04_Shift : Ty Sl := (Ty.leaf .sl)
noncomputable def e_ref04_Shift : FSem := mkE A_ref04_Shift R_ref04_Shift (fun a => F.ref04_Shift a.1 a.2.1)
noncomputable def c_ref04_Shift : Cfg := { P := Go.Proofs.Tryz.prog, n := 20, tab := [(101, e_ref04_zero), (25, e_ref04_Trim)], mutL := [], rtL := [], locL := [14] }
noncomputable def b_ref04_Shift : Code := match Go.Proofs.Tryz.f76.body with | some c => c | none => .skip
noncomputable def a_ref04_Shift : An := (.seq .leaf (.seq .leaf (.seq (.seq .leaf (.block (.loop [(5, .leaf (.sl)), (6, .leaf (.int .i64))] (.seq (.seq .leaf (.cond .leaf .leaf)) (.seq (.block .leaf) .leaf))))) (.seq .leaf .leaf))))
theorem t_ref04_Shift : Entry Go.Proofs.Tryz.prog 76 e_ref04_Shift false :=
  entry_of (C := c_ref04_Shift) (fn := Go.Proofs.Tryz.f76) (c := b_ref04_Shift) (an := a_ref04_Shift) ⟨t_ref04_zero, t_ref04_Trim, trivial⟩ trivial Go.Proofs.Tryz.func76 rfl rfl (by decide) (fun _ => rfl) (by intro a K D; kernel_rfl)
noncomputable def A_ref04_Mul : ArgT (Sl × Sl × Unit) := (ArgT.cons (Ty.leaf .sl) (ArgT.cons (Ty.leaf .sl) ArgT.nil))
noncomputable def R_ref04_Mul : Ty Sl := (Ty.leaf .sl)
noncomputable def e_ref04_Mul : FSem := mkE A_ref04_Mul R_ref04_Mul (fun a => F.ref04_Mul a.1 a.2.1)
noncomputable def c_ref04_Mul : Cfg := { P := Go.Proofs.Tryz.prog, n := 24, tab := [(33, e_ref04_Scale), (76, e_ref04_Shift), (40, e_ref04_Add)], mutL := [], rtL := [], locL := [] }
noncomputable def b_ref04_Mul : Code := match Go.Proofs.Tryz.f21.body with | some c => c | none => .skip
noncomputable def a_ref04_Mul : An := (.seq .leaf (.seq .leaf (.seq (.seq .leaf (.block (.loop [(5, .leaf (.sl)), (6, .leaf (.int .i64))] (.seq (.seq .leaf (.cond .leaf .leaf)) (.seq (.block .leaf) .leaf))))) (.seq .leaf .leaf))))
theorem t_ref04_Mul : Entry Go.Proofs.Tryz.prog 21 e_ref04_Mul false :=
  entry_of (C := c_ref04_Mul) (fn := Go.Proofs.Tryz.f21) (c := b_ref04_Mul) (an := a_ref04_Mul) ⟨t_ref04_Scale, t_ref04_Shift, t_ref04_Add, trivial⟩ trivial Go.Proofs.Tryz.func21 rfl rfl (by decide) (fun _ => rfl) (by intro a K D; kernel_rfl)
noncomputable def A_law04_good : ArgT (Sl × Sl × Unit) := (ArgT.cons (Ty.leaf .sl) (ArgT.cons (Ty.leaf .sl) ArgT.nil))
noncomputable def R_law04_good : Ty Bool := (Ty.leaf .bool)
noncomputable def e_law04_good : FSem := mkE A_law04_good R_law04_good (fun a => F.law04_good a.1 a.2.1)
noncomputable def c_law04_good : Cfg := { P := Go.Proofs.Tryz.prog, n := 20, tab := [(35, e_ref02_Valid), (70, e_ref04_Equal)], mutL := [], rtL := [], locL := [6] }
noncomputable def b_law04_good : Code := match Go.Proofs.Tryz.f20.body with | some c => c | none => .skip
noncomputable def a_law04_good : An := (.seq .leaf (.seq (.seq .leaf (.block (.loop [(9, .leaf (.int .i64))] (.seq .leaf (.seq (.cond .leaf .leaf) (.seq (.block (.seq .leaf (.seq .leaf (.cond (.seq .leaf .leaf) .leaf)))) .leaf)))))) (.seq .leaf .leaf)))
theorem t_law04_good : Entry Go.Proofs.Tryz.prog 20 e_law04_good false :=
  entry_of (C := c_law04_good) (fn := Go.Proofs.Tryz.f20) (c := b_law04_good) (an := a_law04_good) ⟨t_ref02_Valid, t_ref04_Equal, trivial⟩ trivial Go.Proofs.Tryz.func20 rfl rfl (by decide) (fun _ => rfl) (by intro a K D; kernel_rfl)
noncomputable def A_law04_PolynomialMul : ArgT (Sl × Sl × Sl × Unit) := (ArgT.cons (Ty.leaf .sl) (ArgT.cons (Ty.leaf .sl) (ArgT.cons (Ty.leaf .sl) ArgT.nil)))
noncomputable def R_law04_PolynomialMul : Ty Bool := (Ty.leaf .bool)
noncomputable def e_law04_PolynomialMul : FSem := mkE A_law04_PolynomialMul R_law04_PolynomialMul (fun a => F.law04_PolynomialMul a.1 a.2.1 a.2.2.1)
noncomputable def c_law04_PolynomialMul : Cfg := { P := Go.Proofs.Tryz.prog, n := 55, tab := [(15, e_law04_awake), (16, e_law04_few), (18, e_law04_own), (17, e_polynomial_Mul), (19, e_polynomial_Add), (21, e_ref04_Mul), (20, e_law04_good)], mutL := [], rtL := [], locL := [] }
noncomputable def b_law04_PolynomialMul : Code := match Go.Proofs.Tryz.f3.body with | some c => c | none => .skip
noncomputable def a_law04_PolynomialMul : An := (.seq .leaf (.seq (.seq .leaf (.cond (.seq .leaf .leaf) .leaf)) (.seq (.seq .leaf (.cond (.seq .leaf .leaf) .leaf)) (.seq .leaf (.seq .leaf (.seq .leaf .leaf))))))
theorem t_law04_PolynomialMul : Entry Go.Proofs.Tryz.prog 3 e_law04_PolynomialMul false :=
  entry_of (C := c_law04_PolynomialMul) (fn := Go.Proofs.Tryz.f3) (c := b_law04_PolynomialMul) (an := a_law04_PolynomialMul) ⟨t_law04_awake, t_law04_few, t_law04_own, t_polynomial_Mul, t_polynomial_Add, t_ref04_Mul, t_law04_good, trivial⟩ trivial Go.Proofs.Tryz.func3 rfl rfl (by decide) (fun _ => rfl) (by intro a K D; kernel_rfl)
noncomputable def A_ref04_Degree : ArgT (Sl × Unit) := (ArgT.cons (Ty.leaf .sl) ArgT.nil)
noncomputable def R_ref04_Degree : Ty Int := (Ty.leaf (.int .i64))
noncomputable def e_ref04_Degree : FSem := mkE A_ref04_Degree R_ref04_Degree (fun a => F.ref04_Degree a.1)
noncomputable def c_ref04_Degree : Cfg := { P := Go.Proofs.Tryz.prog, n := 7, tab := [(25, e_ref04_Trim)], mutL := [], rtL := [], locL := [] }
noncomputable def b_ref04_Degree : Code := match Go.Proofs.Tryz.f23.body with | some c => c | none => .skip
noncomputable def a_ref04_Degree : An := (.seq .leaf (.seq .leaf .leaf))
theorem t_ref04_Degree : Entry Go.Proofs.Tryz.prog 23 e_ref04_Degree false :=
  entry_of (C := c_ref04_Degree) (fn := Go.Proofs.Tryz.f23) (c := b_ref04_Degree) (an := a_ref04_Degree) ⟨t_ref04_Trim, trivial⟩ trivial Go.Proofs.Tryz.func23 rfl rfl (by decide) (fun _ => rfl) (by intro a K D; kernel_rfl)
noncomputable def A_ref02_Inv : ArgT (TRat × Unit) := (ArgT.cons tyTRat ArgT.nil)
noncomputable def R_ref02_Inv : Ty TRat := tyTRat
noncomputable def e_ref02_Inv : FSem := mkE A_ref02_Inv R_ref02_Inv (fun a => F.ref02_Inv a.1)
noncomputable def c_ref02_Inv : Cfg := { P := Go.Proofs.Tryz.prog, n := 18, tab := [(93, e_ref01_Neg)], mutL := [], rtL := [(3, 1), (4, 1), (6, 1), (9, 1), (13, 1), (15, 1)], locL := [1, 2] }
noncomputable def b_ref02_Inv : Code := match Go.Proofs.Tryz.f166.body with | some c => c | none => .skip
noncomputable def a_ref02_Inv : An := (.seq .leaf (.seq (.seq .leaf (.cond (.seq (.draw [0, 1, 3, 4, 2, 5, 6, 7]) .leaf) .leaf)) (.seq .leaf .leaf)))
theorem t_ref02_Inv : Entry Go.Proofs.Tryz.prog 166 e_ref02_Inv false :=
  entry_of (C := c_ref02_Inv) (fn := Go.Proofs.Tryz.f166) (c := b_ref02_Inv) (an := a_ref02_Inv) ⟨t_ref01_Neg, trivial⟩ trivial Go.Proofs.Tryz.func166 rfl rfl (by decide) (fun _ => rfl) (by intro a K D; kernel_rfl)
end Den
end

section
/- MADE BY fbuild.py: the entries of the functions. -/
set_option maxRecDepth 100000
set_option linter.unusedVariables false
namespace Den
open Go
noncomputable def A_ref02_Div : ArgT (TRat × TRat × Unit) := (ArgT.cons tyTRat (ArgT.cons tyTRat ArgT.nil))
noncomputable def R_ref02_Div : Ty (TRat × Int) := (Ty.tup (.cons tyTRat (.cons (Ty.leaf (.int .i64)) .nil)) (fun x => (x.1, x.2, ())) (fun y => (y.1, y.2.1)) (fun _ => rfl) (fun _ => rfl))
noncomputable def e_ref02_Div : FSem := mkE A_ref02_Div R_ref02_Div (fun a => F.ref02_Div a.1 a.2.1)
noncomputable def c_ref02_Div : Cfg := { P := Go.Proofs.Tryz.prog, n := 16, tab := [(166, e_ref02_Inv), (80, e_ref02_Mul)], mutL := [], rtL := [(6, 3), (7, 3)], locL := [2, 3, 4] }
noncomputable def b_ref02_Div : Code := match Go.Proofs.Tryz.f133.body with | some c => c | none => .skip
noncomputable def a_ref02_Div : An := (.seq .leaf (.seq (.seq .leaf (.cond (.seq .leaf .leaf) .leaf)) (.seq (.draw [0, 1, 2, 3, 4, 5]) .leaf)))
theorem t_ref02_Div : Entry Go.Proofs.Tryz.prog 133 e_ref02_Div false :=
  entry_of (C := c_ref02_Div) (fn := Go.Proofs.Tryz.f133) (c := b_ref02_Div) (an := a_ref02_Div) ⟨t_ref02_Inv, t_ref02_Mul, trivial⟩ trivial Go.Proofs.Tryz.func133 rfl rfl (by decide) (fun _ => rfl) (by intro a K D; kernel_rfl)
noncomputable def A_ref04_quotient : ArgT (TRat × TRat × Unit) := (ArgT.cons tyTRat (ArgT.cons tyTRat ArgT.nil))
noncomputable def R_ref04_quotient : Ty TRat := tyTRat
noncomputable def e_ref04_quotient : FSem := mkE A_ref04_quotient R_ref04_quotient (fun a => F.ref04_quotient a.1 a.2.1)
noncomputable def c_ref04_quotient : Cfg := { P := Go.Proofs.Tryz.prog, n := 14, tab := [(133, e_ref02_Div)], mutL := [], rtL := [], locL := [2, 3, 4, 5] }
noncomputable def b_ref04_quotient : Code := match Go.Proofs.Tryz.f78.body with | some c => c | none => .skip
noncomputable def a_ref04_quotient : An := (.seq .leaf (.seq .leaf (.seq .leaf .leaf)))
theorem t_ref04_quotient : Entry Go.Proofs.Tryz.prog 78 e_ref04_quotient false :=
  entry_of (C := c_ref04_quotient) (fn := Go.Proofs.Tryz.f78) (c := b_ref04_quotient) (an := a_ref04_quotient) ⟨t_ref02_Div, trivial⟩ trivial Go.Proofs.Tryz.func78 rfl rfl (by decide) (fun _ => rfl) (by intro a K D; kernel_rfl)
noncomputable def A_ref04_DivMod : ArgT (Sl × Sl × Unit) := (ArgT.cons (Ty.leaf .sl) (ArgT.cons (Ty.leaf .sl) ArgT.nil))
noncomputable def R_ref04_DivMod : Ty (Sl × Sl) := (Ty.tup (.cons (Ty.leaf .sl) (.cons (Ty.leaf .sl) .nil)) (fun x => (x.1, x.2, ())) (fun y => (y.1, y.2.1)) (fun _ => rfl) (fun _ => rfl))
noncomputable def e_ref04_DivMod : FSem := mkE A_ref04_DivMod R_ref04_DivMod (fun a => F.ref04_DivMod a.1 a.2.1)
noncomputable def c_ref04_DivMod : Cfg := { P := Go.Proofs.Tryz.prog, n := 50, tab := [(25, e_ref04_Trim), (78, e_ref04_quotient), (76, e_ref04_Shift), (40, e_ref04_Add), (21, e_ref04_Mul), (42, e_ref04_Sub)], mutL := [], rtL := [], locL := [] }
noncomputable def b_ref04_DivMod : Code := match Go.Proofs.Tryz.f24.body with | some c => c | none => .skip
noncomputable def a_ref04_DivMod : An := (.seq .leaf (.seq .leaf (.seq .leaf (.seq .leaf (.seq (.block (.loop [(6, .leaf (.sl)), (7, .leaf (.sl))] (.seq (.seq .leaf (.cond .leaf .leaf)) (.block (.seq .leaf (.seq (.draw [0, 1, 2, 3, 4, 5, 6, 7, 8, 9, 10, 11, 14, 12, 13, 15, 16]) (.seq .leaf .leaf))))))) (.seq .leaf .leaf))))))
theorem t_ref04_DivMod : Entry Go.Proofs.Tryz.prog 24 e_ref04_DivMod false :=
  entry_of (C := c_ref04_DivMod) (fn := Go.Proofs.Tryz.f24) (c := b_ref04_DivMod) (an := a_ref04_DivMod) ⟨t_ref04_Trim, t_ref04_quotient, t_ref04_Shift, t_ref04_Add, t_ref04_Mul, t_ref04_Sub, trivial⟩ trivial Go.Proofs.Tryz.func24 rfl rfl (by decide) (fun _ => rfl) (by intro a K D; kernel_rfl)
noncomputable def A_law04_PolynomialDivMod : ArgT (Sl × Sl × Unit) := (ArgT.cons (Ty.leaf .sl) (ArgT.cons (Ty.leaf .sl) ArgT.nil))
noncomputable def R_law04_PolynomialDivMod : Ty Bool := (Ty.leaf .bool)
noncomputable def e_law04_PolynomialDivMod : FSem := mkE A_law04_PolynomialDivMod R_law04_PolynomialDivMod (fun a => F.law04_PolynomialDivMod a.1 a.2.1)
noncomputable def c_law04_PolynomialDivMod : Cfg := { P := Go.Proofs.Tryz.prog, n := 75, tab := [(15, e_law04_awake), (16, e_law04_few), (18, e_law04_own), (22, e_polynomial_DivMod), (23, e_ref04_Degree), (24, e_ref04_DivMod), (20, e_law04_good), (17, e_polynomial_Mul), (19, e_polynomial_Add), (25, e_ref04_Trim)], mutL := [], rtL := [], locL := [] }
noncomputable def b_law04_PolynomialDivMod : Code := match Go.Proofs.Tryz.f4.body with | some c => c | none => .skip
noncomputable def a_law04_PolynomialDivMod : An := (.seq .leaf (.seq (.seq .leaf (.cond (.seq .leaf .leaf) .leaf)) (.seq (.seq .leaf (.cond (.seq .leaf .leaf) .leaf)) (.seq .leaf (.seq (.seq .leaf (.cond (.seq .leaf .leaf) .leaf)) (.seq .leaf (.seq .leaf .leaf)))))))
theorem t_law04_PolynomialDivMod : Entry Go.Proofs.Tryz.prog 4 e_law04_PolynomialDivMod false :=
  entry_of (C := c_law04_PolynomialDivMod) (fn := Go.Proofs.Tryz.f4) (c := b_law04_PolynomialDivMod) (an := a_law04_PolynomialDivMod) ⟨t_law04_awake, t_law04_few, t_law04_own, t_polynomial_DivMod, t_ref04_Degree, t_ref04_DivMod, t_law04_good, t_polynomial_Mul, t_polynomial_Add, t_ref04_Trim, trivial⟩ trivial Go.Proofs.Tryz.func4 rfl rfl (by decide) (fun _ => rfl) (by intro a K D; kernel_rfl)
noncomputable def A_ref04_Derivative : ArgT (Sl × Unit) := (ArgT.cons (Ty.leaf .sl) ArgT.nil)
noncomputable def R_ref04_Derivative : Ty Sl := (Ty.leaf .sl)
noncomputable def e_ref04_Derivative : FSem := mkE A_ref04_Derivative R_ref04_Derivative (fun a => F.ref04_Derivative a.1)
noncomputable def c_ref04_Derivative : Cfg := { P := Go.Proofs.Tryz.prog, n := 23, tab := [(81, e_ref02_FromInt), (80, e_ref02_Mul), (25, e_ref04_Trim)], mutL := [], rtL := [], locL := [19] }
noncomputable def b_ref04_Derivative : Code := match Go.Proofs.Tryz.f27.body with | some c => c | none => .skip
noncomputable def a_ref04_Derivative : An := (.seq .leaf (.seq .leaf (.seq (.seq .leaf (.block (.loop [(3, .leaf (.sl)), (4, .leaf (.int .i64))] (.seq (.seq .leaf (.cond .leaf .leaf)) (.seq (.block (.draw [0, 1, 2, 3, 4, 5, 6, 7, 8, 9, 10])) .leaf))))) (.seq .leaf .leaf))))
theorem t_ref04_Derivative : Entry Go.Proofs.Tryz.prog 27 e_ref04_Derivative false :=
  entry_of (C := c_ref04_Derivative) (fn := Go.Proofs.Tryz.f27) (c := b_ref04_Derivative) (an := a_ref04_Derivative) ⟨t_ref02_FromInt, t_ref02_Mul, t_ref04_Trim, trivial⟩ trivial Go.Proofs.Tryz.func27 rfl rfl (by decide) (fun _ => rfl) (by intro a K D; kernel_rfl)
noncomputable def A_law04_PolynomialDerivative : ArgT (Sl × Sl × Unit) := (ArgT.cons (Ty.leaf .sl) (ArgT.cons (Ty.leaf .sl) ArgT.nil))
noncomputable def R_law04_PolynomialDerivative : Ty Bool := (Ty.leaf .bool)
noncomputable def e_law04_PolynomialDerivative : FSem := mkE A_law04_PolynomialDerivative R_law04_PolynomialDerivative (fun a => F.law04_PolynomialDerivative a.1 a.2.1)
noncomputable def c_law04_PolynomialDerivative : Cfg := { P := Go.Proofs.Tryz.prog, n := 44, tab := [(15, e_law04_awake), (16, e_law04_few), (18, e_law04_own), (26, e_polynomial_Derivative), (17, e_polynomial_Mul), (27, e_ref04_Derivative), (20, e_law04_good), (19, e_polynomial_Add)], mutL := [], rtL := [], locL := [] }
noncomputable def b_law04_PolynomialDerivative : Code := match Go.Proofs.Tryz.f5.body with | some c => c | none => .skip
noncomputable def a_law04_PolynomialDerivative : An := (.seq .leaf (.seq (.seq .leaf (.cond (.seq .leaf .leaf) .leaf)) (.seq (.seq .leaf (.cond (.seq .leaf .leaf) .leaf)) (.seq .leaf (.seq .leaf (.seq .leaf .leaf))))))
theorem t_law04_PolynomialDerivative : Entry Go.Proofs.Tryz.prog 5 e_law04_PolynomialDerivative false :=
  entry_of (C := c_law04_PolynomialDerivative) (fn := Go.Proofs.Tryz.f5) (c := b_law04_PolynomialDerivative) (an := a_law04_PolynomialDerivative) ⟨t_law04_awake, t_law04_few, t_law04_own, t_polynomial_Derivative, t_polynomial_Mul, t_ref04_Derivative, t_law04_good, t_polynomial_Add, trivial⟩ trivial Go.Proofs.Tryz.func5 rfl rfl (by decide) (fun _ => rfl) (by intro a K D; kernel_rfl)
noncomputable def A_ref04_Primitive : ArgT (Sl × Unit) := (ArgT.cons (Ty.leaf .sl) ArgT.nil)
noncomputable def R_ref04_Primitive : Ty Sl := (Ty.leaf .sl)
noncomputable def e_ref04_Primitive : FSem := mkE A_ref04_Primitive R_ref04_Primitive (fun a => F.ref04_Primitive a.1)
noncomputable def c_ref04_Primitive : Cfg := { P := Go.Proofs.Tryz.prog, n := 111, tab := [(25, e_ref04_Trim), (88, e_ref01_FromInt), (90, e_ref01_GCD), (89, e_ref01_DivMod), (91, e_ref01_Mul), (92, e_ref01_Sign), (93, e_ref01_Neg)], mutL := [], rtL := [], locL := [3, 5, 6, 9, 11, 12, 73] }
noncomputable def b_ref04_Primitive : Code := match Go.Proofs.Tryz.f30.body with | some c => c | none => .skip
noncomputable def a_ref04_Primitive : An := (.seq .leaf (.seq .leaf (.seq (.seq .leaf (.cond (.seq .leaf .leaf) .leaf)) (.seq .leaf (.seq (.seq .leaf (.block (.loop [(3, .box [.bool, .sl]), (4, .leaf (.int .i64))] (.seq (.seq .leaf (.cond .leaf .leaf)) (.seq (.block (.seq (.draw [0, 1, 2, 3, 4, 5, 6, 7, 8, 9, 10, 17, 18, 11, 12, 13, 14, 15, 16, 19, 20, 21]) .leaf)) .leaf))))) (.seq .leaf (.seq .leaf (.seq (.seq .leaf (.block (.loop [(8, .leaf (.sl)), (9, .box [.bool, .sl]), (10, .leaf (.int .i64))] (.seq (.seq .leaf (.cond .leaf .leaf)) (.seq (.block (.seq (.draw [0, 1, 2, 3, 4, 5, 11, 12, 6, 7, 8, 9, 10, 13, 14, 15]) (.seq (.draw [0, 1, 2, 3, 4, 5, 6, 7, 8, 9, 10]) (.draw [0, 1, 2, 3, 4, 5, 6])))) .leaf))))) (.join [(9, .box [.bool, .sl])] (.seq .leaf (.cond .leaf .leaf)) (.seq (.seq .leaf (.block (.loop [(14, .leaf (.int .i64))] (.seq (.seq .leaf (.cond .leaf .leaf)) (.seq (.block (.draw [0, 1, 2, 3, 4, 5, 6, 7, 8, 9, 10, 11, 12, 13])) .leaf))))) (.seq .leaf .leaf)))))))))))
theorem t_ref04_Primitive : Entry Go.Proofs.Tryz.prog 30 e_ref04_Primitive false :=
  entry_of (C := c_ref04_Primitive) (fn := Go.Proofs.Tryz.f30) (c := b_ref04_Primitive) (an := a_ref04_Primitive) ⟨t_ref04_Trim, t_ref01_FromInt, t_ref01_GCD, t_ref01_DivMod, t_ref01_Mul, t_ref01_Sign, t_ref01_Neg, trivial⟩ trivial Go.Proofs.Tryz.func30 rfl rfl (by decide) (fun _ => rfl) (by intro a K D; kernel_rfl)
noncomputable def A_ref04_Monic : ArgT (Sl × Unit) := (ArgT.cons (Ty.leaf .sl) ArgT.nil)
noncomputable def R_ref04_Monic : Ty Sl := (Ty.leaf .sl)
noncomputable def e_ref04_Monic : FSem := mkE A_ref04_Monic R_ref04_Monic (fun a => F.ref04_Monic a.1)
noncomputable def c_ref04_Monic : Cfg := { P := Go.Proofs.Tryz.prog, n := 19, tab := [(25, e_ref04_Trim), (81, e_ref02_FromInt), (78, e_ref04_quotient), (33, e_ref04_Scale)], mutL := [], rtL := [], locL := [] }
noncomputable def b_ref04_Monic : Code := match Go.Proofs.Tryz.f100.body with | some c => c | none => .skip
noncomputable def a_ref04_Monic : An := (.seq .leaf (.seq .leaf (.seq (.seq .leaf (.cond (.seq .leaf .leaf) .leaf)) (.seq (.draw [0, 2, 3, 4, 5, 6, 7, 1, 8, 9, 10]) .leaf))))
theorem t_ref04_Monic : Entry Go.Proofs.Tryz.prog 100 e_ref04_Monic false :=
  entry_of (C := c_ref04_Monic) (fn := Go.Proofs.Tryz.f100) (c := b_ref04_Monic) (an := a_ref04_Monic) ⟨t_ref04_Trim, t_ref02_FromInt, t_ref04_quotient, t_ref04_Scale, trivial⟩ trivial Go.Proofs.Tryz.func100 rfl rfl (by decide) (fun _ => rfl) (by intro a K D; kernel_rfl)
noncomputable def A_ref02_Neg : ArgT (TRat × Unit) := (ArgT.cons tyTRat ArgT.nil)
noncomputable def R_ref02_Neg : Ty TRat := tyTRat
noncomputable def e_ref02_Neg : FSem := mkE A_ref02_Neg R_ref02_Neg (fun a => F.ref02_Neg a.1)
noncomputable def c_ref02_Neg : Cfg := { P := Go.Proofs.Tryz.prog, n := 9, tab := [(93, e_ref01_Neg)], mutL := [], rtL := [(3, 1), (6, 1)], locL := [1, 2] }
noncomputable def b_ref02_Neg : Code := match Go.Proofs.Tryz.f117.body with | some c => c | none => .skip
noncomputable def a_ref02_Neg : An := (.seq .leaf (.seq (.draw [0, 1, 3, 4, 2, 5, 6]) .leaf))
theorem t_ref02_Neg : Entry Go.Proofs.Tryz.prog 117 e_ref02_Neg false :=
  entry_of (C := c_ref02_Neg) (fn := Go.Proofs.Tryz.f117) (c := b_ref02_Neg) (an := a_ref02_Neg) ⟨t_ref01_Neg, trivial⟩ trivial Go.Proofs.Tryz.func117 rfl rfl (by decide) (fun _ => rfl) (by intro a K D; kernel_rfl)
noncomputable def A_ref04_abs : ArgT (TRat × Unit) := (ArgT.cons tyTRat ArgT.nil)
noncomputable def R_ref04_abs : Ty TRat := tyTRat
noncomputable def e_ref04_abs : FSem := mkE A_ref04_abs R_ref04_abs (fun a => F.ref04_abs a.1)
noncomputable def c_ref04_abs : Cfg := { P := Go.Proofs.Tryz.prog, n := 9, tab := [(32, e_ref02_Sign), (117, e_ref02_Neg)], mutL := [], rtL := [], locL := [1, 2] }
noncomputable def b_ref04_abs : Code := match Go.Proofs.Tryz.f102.body with | some c => c | none => .skip
noncomputable def a_ref04_abs : An := (.seq .leaf (.seq (.seq .leaf (.cond (.seq .leaf .leaf) .leaf)) (.seq .leaf .leaf)))
theorem t_ref04_abs : Entry Go.Proofs.Tryz.prog 102 e_ref04_abs false :=
  entry_of (C := c_ref04_abs) (fn := Go.Proofs.Tryz.f102) (c := b_ref04_abs) (an := a_ref04_abs) ⟨t_ref02_Sign, t_ref02_Neg, trivial⟩ trivial Go.Proofs.Tryz.func102 rfl rfl (by decide) (fun _ => rfl) (by intro a K D; kernel_rfl)
noncomputable def A_ref04_Bound : ArgT (Sl × Unit) := (ArgT.cons (Ty.leaf .sl) ArgT.nil)
noncomputable def R_ref04_Bound : Ty TRat := tyTRat
noncomputable def e_ref04_Bound : FSem := mkE A_ref04_Bound R_ref04_Bound (fun a => F.ref04_Bound a.1)
noncomputable def c_ref04_Bound : Cfg := { P := Go.Proofs.Tryz.prog, n := 35, tab := [(100, e_ref04_Monic), (101, e_ref04_zero), (102, e_ref04_abs), (36, e_ref02_Cmp), (81, e_ref02_FromInt), (103, e_ref02_Add)], mutL := [], rtL := [], locL := [2, 3] }
noncomputable def b_ref04_Bound : Code := match Go.Proofs.Tryz.f37.body with | some c => c | none => .skip
noncomputable def a_ref04_Bound : An := (.seq .leaf (.seq .leaf (.seq (.seq .leaf (.cond (.seq .leaf .leaf) .leaf)) (.seq .leaf (.seq (.seq .leaf (.block (.loop [(3, .box [.bool, .sl, .bool, .sl]), (4, .leaf (.int .i64))] (.seq (.seq .leaf (.cond .leaf .leaf)) (.join [(3, .box [.bool, .sl, .bool, .sl])] (.block (.seq (.draw [0, 1, 2, 3, 5, 4, 6, 7]) (.cond .leaf .leaf))) .leaf))))) (.seq (.draw [0, 1, 2, 3]) .leaf))))))
theorem t_ref04_Bound : Entry Go.Proofs.Tryz.prog 37 e_ref04_Bound false :=
  entry_of (C := c_ref04_Bound) (fn := Go.Proofs.Tryz.f37) (c := b_ref04_Bound) (an := a_ref04_Bound) ⟨t_ref04_Monic, t_ref04_zero, t_ref04_abs, t_ref02_Cmp, t_ref02_FromInt, t_ref02_Add, trivial⟩ trivial Go.Proofs.Tryz.func37 rfl rfl (by decide) (fun _ => rfl) (by intro a K D; kernel_rfl)
noncomputable def A_law04_same : ArgT (Sl × Sl × Unit) := (ArgT.cons (Ty.leaf .sl) (ArgT.cons (Ty.leaf .sl) ArgT.nil))
noncomputable def R_law04_same : Ty Bool := (Ty.leaf .bool)
noncomputable def e_law04_same : FSem := mkE A_law04_same R_law04_same (fun a => F.law04_same a.1 a.2.1)
noncomputable def c_law04_same : Cfg := { P := Go.Proofs.Tryz.prog, n := 35, tab := [(94, e_ref01_Valid), (95, e_ref01_Cmp)], mutL := [], rtL := [], locL := [] }
noncomputable def b_law04_same : Code := match Go.Proofs.Tryz.f31.body with | some c => c | none => .skip
noncomputable def a_law04_same : An := (.seq .leaf (.seq (.seq .leaf (.cond (.seq .leaf .leaf) .leaf)) (.seq (.seq .leaf (.block (.loop [(13, .leaf (.int .i64))] (.seq .leaf (.seq (.cond .leaf .leaf) (.join [] (.block (.seq .leaf (.seq (.draw [0, 1, 2, 3, 4, 5, 6, 7, 8, 9, 10, 11, 12, 13, 14, 15, 16, 17]) (.cond (.seq .leaf .leaf) .leaf)))) .leaf)))))) (.seq .leaf .leaf))))
theorem t_law04_same : Entry Go.Proofs.Tryz.prog 31 e_law04_same false :=
  entry_of (C := c_law04_same) (fn := Go.Proofs.Tryz.f31) (c := b_law04_same) (an := a_law04_same) ⟨t_ref01_Valid, t_ref01_Cmp, trivial⟩ trivial Go.Proofs.Tryz.func31 rfl rfl (by decide) (fun _ => rfl) (by intro a K D; kernel_rfl)
noncomputable def A_law04_PolynomialPrimitive : ArgT (Sl × TRat × Unit) := (ArgT.cons (Ty.leaf .sl) (ArgT.cons tyTRat ArgT.nil))
noncomputable def R_law04_PolynomialPrimitive : Ty Bool := (Ty.leaf .bool)
noncomputable def e_law04_PolynomialPrimitive : FSem := mkE A_law04_PolynomialPrimitive R_law04_PolynomialPrimitive (fun a => F.law04_PolynomialPrimitive a.1 a.2.1)
noncomputable def c_law04_PolynomialPrimitive : Cfg := { P := Go.Proofs.Tryz.prog, n := 54, tab := [(15, e_law04_awake), (18, e_law04_own), (29, e_polynomial_Primitive), (30, e_ref04_Primitive), (34, e_polynomial_Bound), (35, e_ref02_Valid), (37, e_ref04_Bound), (36, e_ref02_Cmp), (31, e_law04_same), (32, e_ref02_Sign), (33, e_ref04_Scale), (16, e_law04_few), (28, e_ref04_Short)], mutL := [], rtL := [], locL := [3, 7] }
noncomputable def b_law04_PolynomialPrimitive : Code := match Go.Proofs.Tryz.f6.body with | some c => c | none => .skip
noncomputable def a_law04_PolynomialPrimitive : An := (.seq .leaf (.seq (.seq .leaf (.cond (.seq .leaf .leaf) .leaf)) (.join [] (.seq .leaf (.cond (.seq .leaf .leaf) .leaf)) (.seq .leaf (.join [] (.seq .leaf (.cond (.seq .leaf .leaf) .leaf)) (.seq .leaf (.seq (.draw [0, 1, 2, 3, 4, 5, 6, 7, 8, 9]) .leaf)))))))
theorem t_law04_PolynomialPrimitive : Entry Go.Proofs.Tryz.prog 6 e_law04_PolynomialPrimitive false :=
  entry_of (C := c_law04_PolynomialPrimitive) (fn := Go.Proofs.Tryz.f6) (c := b_law04_PolynomialPrimitive) (an := a_law04_PolynomialPrimitive) ⟨t_law04_awake, t_law04_own, t_polynomial_Primitive, t_ref04_Primitive, t_polynomial_Bound, t_ref02_Valid, t_ref04_Bound, t_ref02_Cmp, t_law04_same, t_ref02_Sign, t_ref04_Scale, t_law04_few, t_ref04_Short, trivial⟩ trivial Go.Proofs.Tryz.func6 rfl rfl (by decide) (fun _ => rfl) (by intro a K D; kernel_rfl)
noncomputable def A_polynomial_Sub : ArgT (Sl × Sl × Unit) := (ArgT.cons (Ty.leaf .sl) (ArgT.cons (Ty.leaf .sl) ArgT.nil))
noncomputable def R_polynomial_Sub : Ty Sl := (Ty.leaf .sl)
noncomputable def e_polynomial_Sub : FSem := mkE A_polynomial_Sub R_polynomial_Sub (fun a => F.polynomial_Sub a.1 a.2.1)
noncomputable def c_polynomial_Sub : Cfg := { P := Go.Proofs.Tryz.prog, n := 10, tab := [(79, e_rational_FromInt), (43, e_polynomial_Scale), (19, e_polynomial_Add)], mutL := [], rtL := [], locL := [] }
noncomputable def b_polynomial_Sub : Code := match Go.Proofs.Tryz.f41.body with | some c => c | none => .skip
noncomputable def a_polynomial_Sub : An := (.seq .leaf (.seq .leaf .leaf))
theorem t_polynomial_Sub : Entry Go.Proofs.Tryz.prog 41 e_polynomial_Sub false :=
  entry_of (C := c_polynomial_Sub) (fn := Go.Proofs.Tryz.f41) (c := b_polynomial_Sub) (an := a_polynomial_Sub) ⟨t_rational_FromInt, t_polynomial_Scale, t_polynomial_Add, trivial⟩ trivial Go.Proofs.Tryz.func41 rfl rfl (by decide) (fun _ => rfl) (by intro a K D; kernel_rfl)
noncomputable def A_law04_PolynomialAdd : ArgT (Sl × Sl × TRat × Unit) := (ArgT.cons (Ty.leaf .sl) (ArgT.cons (Ty.leaf .sl) (ArgT.cons tyTRat ArgT.nil)))
noncomputable def R_law04_PolynomialAdd : Ty Bool := (Ty.leaf .bool)
noncomputable def e_law04_PolynomialAdd : FSem := mkE A_law04_PolynomialAdd R_law04_PolynomialAdd (fun a => F.law04_PolynomialAdd a.1 a.2.1 a.2.2.1)
noncomputable def c_law04_PolynomialAdd : Cfg := { P := Go.Proofs.Tryz.prog, n := 65, tab := [(15, e_law04_awake), (18, e_law04_own), (38, e_polynomial_Trim), (25, e_ref04_Trim), (20, e_law04_good), (39, e_polynomial_Degree), (23, e_ref04_Degree), (19, e_polynomial_Add), (40, e_ref04_Add), (41, e_polynomial_Sub), (42, e_ref04_Sub), (43, e_polynomial_Scale), (33, e_ref04_Scale), (16, e_law04_few), (28, e_ref04_Short)], mutL := [], rtL := [], locL := [5] }
noncomputable def b_law04_PolynomialAdd : Code := match Go.Proofs.Tryz.f7.body with | some c => c | none => .skip
noncomputable def a_law04_PolynomialAdd : An := (.seq .leaf (.seq (.seq .leaf (.cond (.seq .leaf .leaf) .leaf)) (.join [] (.seq .leaf (.cond (.seq .leaf .leaf) .leaf)) (.seq (.draw [0, 3, 1, 2, 4, 5, 6, 7, 10, 8, 9, 11, 12, 13, 14, 15, 17, 20, 21, 16, 18, 19, 22, 23, 24, 25, 26, 28, 31, 32, 27, 29, 30, 33, 34, 35, 36, 37, 39, 41, 42, 38, 40, 43, 44, 45, 46]) .leaf))))
theorem t_law04_PolynomialAdd : Entry Go.Proofs.Tryz.prog 7 e_law04_PolynomialAdd false :=
  entry_of (C := c_law04_PolynomialAdd) (fn := Go.Proofs.Tryz.f7) (c := b_law04_PolynomialAdd) (an := a_law04_PolynomialAdd) ⟨t_law04_awake, t_law04_own, t_polynomial_Trim, t_ref04_Trim, t_law04_good, t_polynomial_Degree, t_ref04_Degree, t_polynomial_Add, t_ref04_Add, t_polynomial_Sub, t_ref04_Sub, t_polynomial_Scale, t_ref04_Scale, t_law04_few, t_ref04_Short, trivial⟩ trivial Go.Proofs.Tryz.func7 rfl rfl (by decide) (fun _ => rfl) (by intro a K D; kernel_rfl)
noncomputable def A_polynomial_Eval : ArgT (Sl × TRat × Unit) := (ArgT.cons (Ty.leaf .sl) (ArgT.cons tyTRat ArgT.nil))
noncomputable def R_polynomial_Eval : Ty TRat := tyTRat
noncomputable def e_polynomial_Eval : FSem := mkE A_polynomial_Eval R_polynomial_Eval (fun a => F.polynomial_Eval a.1 a.2.1)
noncomputable def c_polynomial_Eval : Cfg := { P := Go.Proofs.Tryz.prog, n := 19, tab := [(79, e_rational_FromInt), (106, e_slices_Backward_api_Rat_api_Rat), (75, e_rational_Mul), (74, e_rational_Add)], mutL := [], rtL := [], locL := [3, 4, 5, 7], backs := [(156, (.agg [.bool, .sl, .bool, .sl]))] }
noncomputable def b_polynomial_Eval : Code := match Go.Proofs.Tryz.f46.body with | some c => c | none => .skip
noncomputable def a_polynomial_Eval : An := (.seq .leaf (.seq .leaf (.seq (.seq .leaf (.block (.back [(5, .box [.bool, .sl, .bool, .sl])] .leaf (.block (.draw [0, 1, 3, 2, 4, 5]))))) (.seq .leaf .leaf))))
theorem t_polynomial_Eval : Entry Go.Proofs.Tryz.prog 46 e_polynomial_Eval false :=
  entry_of (C := c_polynomial_Eval) (fn := Go.Proofs.Tryz.f46) (c := b_polynomial_Eval) (an := a_polynomial_Eval) ⟨t_rational_FromInt, t_slices_Backward_api_Rat_api_Rat, t_rational_Mul, t_rational_Add, trivial⟩ ⟨bk_aggboolslboolsl, trivial⟩ Go.Proofs.Tryz.func46 rfl rfl (by decide) (fun _ => rfl) (by intro a K D; kernel_rfl)
noncomputable def A_ref04_Compose : ArgT (Sl × Sl × Unit) := (ArgT.cons (Ty.leaf .sl) (ArgT.cons (Ty.leaf .sl) ArgT.nil))
noncomputable def R_ref04_Compose : Ty Sl := (Ty.leaf .sl)
noncomputable def e_ref04_Compose : FSem := mkE A_ref04_Compose R_ref04_Compose (fun a => F.ref04_Compose a.1 a.2.1)
noncomputable def c_ref04_Compose : Cfg := { P := Go.Proofs.Tryz.prog, n := 25, tab := [(21, e_ref04_Mul), (40, e_ref04_Add), (25, e_ref04_Trim)], mutL := [], rtL := [], locL := [] }
noncomputable def b_ref04_Compose : Code := match Go.Proofs.Tryz.f47.body with | some c => c | none => .skip
noncomputable def a_ref04_Compose : An := (.seq .leaf (.seq .leaf (.seq (.seq .leaf (.block (.loop [(5, .leaf (.sl)), (6, .leaf (.int .i64))] (.seq (.seq .leaf (.cond .leaf .leaf)) (.seq (.block (.draw [0, 1, 3, 4, 5, 6, 2, 7, 8, 9])) .leaf))))) (.seq .leaf .leaf))))
theorem t_ref04_Compose : Entry Go.Proofs.Tryz.prog 47 e_ref04_Compose false :=
  entry_of (C := c_ref04_Compose) (fn := Go.Proofs.Tryz.f47) (c := b_ref04_Compose) (an := a_ref04_Compose) ⟨t_ref04_Mul, t_ref04_Add, t_ref04_Trim, trivial⟩ trivial Go.Proofs.Tryz.func47 rfl rfl (by decide) (fun _ => rfl) (by intro a K D; kernel_rfl)
noncomputable def A_ref04_Eval : ArgT (Sl × TRat × Unit) := (ArgT.cons (Ty.leaf .sl) (ArgT.cons tyTRat ArgT.nil))
noncomputable def R_ref04_Eval : Ty TRat := tyTRat
noncomputable def e_ref04_Eval : FSem := mkE A_ref04_Eval R_ref04_Eval (fun a => F.ref04_Eval a.1 a.2.1)
noncomputable def c_ref04_Eval : Cfg := { P := Go.Proofs.Tryz.prog, n := 24, tab := [(101, e_ref04_zero), (80, e_ref02_Mul), (103, e_ref02_Add)], mutL := [], rtL := [], locL := [3, 4, 5] }
noncomputable def b_ref04_Eval : Code := match Go.Proofs.Tryz.f48.body with | some c => c | none => .skip
noncomputable def a_ref04_Eval : An := (.seq .leaf (.seq .leaf (.seq (.seq .leaf (.block (.loop [(5, .box [.bool, .sl, .bool, .sl]), (6, .leaf (.int .i64))] (.seq (.seq .leaf (.cond .leaf .leaf)) (.seq (.block (.draw [0, 1, 3, 4, 5, 6, 2, 7, 8])) .leaf))))) (.seq .leaf .leaf))))
theorem t_ref04_Eval : Entry Go.Proofs.Tryz.prog 48 e_ref04_Eval false :=
  entry_of (C := c_ref04_Eval) (fn := Go.Proofs.Tryz.f48) (c := b_ref04_Eval) (an := a_ref04_Eval) ⟨t_ref04_zero, t_ref02_Mul, t_ref02_Add, trivial⟩ trivial Go.Proofs.Tryz.func48 rfl rfl (by decide) (fun _ => rfl) (by intro a K D; kernel_rfl)
noncomputable def A_law04_PolynomialEval : ArgT (Sl × Sl × TRat × Unit) := (ArgT.cons (Ty.leaf .sl) (ArgT.cons (Ty.leaf .sl) (ArgT.cons tyTRat ArgT.nil)))
noncomputable def R_law04_PolynomialEval : Ty Bool := (Ty.leaf .bool)
noncomputable def e_law04_PolynomialEval : FSem := mkE A_law04_PolynomialEval R_law04_PolynomialEval (fun a => F.law04_PolynomialEval a.1 a.2.1 a.2.2.1)
noncomputable def c_law04_PolynomialEval : Cfg := { P := Go.Proofs.Tryz.prog, n := 75, tab := [(15, e_law04_awake), (18, e_law04_own), (45, e_polynomial_Compose), (46, e_polynomial_Eval), (47, e_ref04_Compose), (20, e_law04_good), (35, e_ref02_Valid), (48, e_ref04_Eval), (36, e_ref02_Cmp), (44, e_ref04_Small), (28, e_ref04_Short)], mutL := [], rtL := [], locL := [5, 8, 9] }
noncomputable def b_law04_PolynomialEval : Code := match Go.Proofs.Tryz.f8.body with | some c => c | none => .skip
noncomputable def a_law04_PolynomialEval : An := (.seq .leaf (.seq (.seq .leaf (.cond (.seq .leaf .leaf) .leaf)) (.join [] (.seq .leaf (.cond (.seq .leaf .leaf) .leaf)) (.seq .leaf (.seq (.draw [0, 2, 4, 1, 3, 5]) (.seq (.draw [0, 2, 4, 1, 3, 5]) (.seq (.draw [0, 1, 2, 3, 4, 5, 6, 7, 8, 9, 10, 11, 12, 13, 14, 15, 16, 17, 18, 19, 20, 21, 22, 23, 24, 25, 26, 27, 28, 29, 30, 31, 33, 32, 34, 35, 36, 37]) .leaf)))))))
theorem t_law04_PolynomialEval : Entry Go.Proofs.Tryz.prog 8 e_law04_PolynomialEval false :=
  entry_of (C := c_law04_PolynomialEval) (fn := Go.Proofs.Tryz.f8) (c := b_law04_PolynomialEval) (an := a_law04_PolynomialEval) ⟨t_law04_awake, t_law04_own, t_polynomial_Compose, t_polynomial_Eval, t_ref04_Compose, t_law04_good, t_ref02_Valid, t_ref04_Eval, t_ref02_Cmp, t_ref04_Small, t_ref04_Short, trivial⟩ trivial Go.Proofs.Tryz.func8 rfl rfl (by decide) (fun _ => rfl) (by intro a K D; kernel_rfl)
noncomputable def A_sturm_Changes : ArgT (Sl × TRat × Unit) := (ArgT.cons (Ty.leaf .sl) (ArgT.cons tyTRat ArgT.nil))
noncomputable def R_sturm_Changes : Ty Int := (Ty.leaf (.int .i64))
noncomputable def e_sturm_Changes : FSem := mkE A_sturm_Changes R_sturm_Changes (fun a => F.sturm_Changes a.1 a.2.1)
noncomputable def c_sturm_Changes : Cfg := { P := Go.Proofs.Tryz.prog, n := 31, tab := [(46, e_polynomial_Eval), (96, e_rational_Sign)], mutL := [], rtL := [], locL := [3] }
noncomputable def b_sturm_Changes : Code := match Go.Proofs.Tryz.f52.body with | some c => c | none => .skip
noncomputable def a_sturm_Changes : An := (.seq .leaf (.seq .leaf (.seq (.seq .leaf (.block (.loop [(5, .leaf (.int .i64)), (6, .leaf (.int .i64)), (12, .leaf (.int .i64))] (.seq .leaf (.seq (.cond .leaf .leaf) (.join [(5, .leaf (.int .i64)), (6, .leaf (.int .i64))] (.block (.seq .leaf (.seq .leaf (.seq (.seq .leaf (.cond .leaf .leaf)) (.seq (.seq .leaf (.cond .leaf .leaf)) .leaf))))) .leaf)))))) (.seq .leaf .leaf))))
theorem t_sturm_Changes : Entry Go.Proofs.Tryz.prog 52 e_sturm_Changes false :=
  entry_of (C := c_sturm_Changes) (fn := Go.Proofs.Tryz.f52) (c := b_sturm_Changes) (an := a_sturm_Changes) ⟨t_polynomial_Eval, t_rational_Sign, trivial⟩ trivial Go.Proofs.Tryz.func52 rfl rfl (by decide) (fun _ => rfl) (by intro a K D; kernel_rfl)
noncomputable def A_ref05_Changes : ArgT (Sl × TRat × Unit) := (ArgT.cons (Ty.leaf .sl) (ArgT.cons tyTRat ArgT.nil))
noncomputable def R_ref05_Changes : Ty Int := (Ty.leaf (.int .i64))
noncomputable def e_ref05_Changes : FSem := mkE A_ref05_Changes R_ref05_Changes (fun a => F.ref05_Changes a.1 a.2.1)
noncomputable def c_ref05_Changes : Cfg := { P := Go.Proofs.Tryz.prog, n := 32, tab := [(48, e_ref04_Eval), (32, e_ref02_Sign)], mutL := [], rtL := [], locL := [3] }
noncomputable def b_ref05_Changes : Code := match Go.Proofs.Tryz.f53.body with | some c => c | none => .skip
noncomputable def a_ref05_Changes : An := (.seq .leaf (.seq .leaf (.seq (.seq .leaf (.block (.loop [(5, .leaf (.int .i64)), (6, .leaf (.int .i64)), (7, .leaf (.int .i64))] (.seq (.seq .leaf (.cond .leaf .leaf)) (.join [(5, .leaf (.int .i64)), (6, .leaf (.int .i64))] (.block (.seq (.draw [0, 1, 2, 3, 4, 5, 6, 7]) (.seq .leaf (.cond (.seq (.seq .leaf (.cond .leaf .leaf)) .leaf) .leaf)))) .leaf))))) (.seq .leaf .leaf))))
theorem t_ref05_Changes : Entry Go.Proofs.Tryz.prog 53 e_ref05_Changes false :=
  entry_of (C := c_ref05_Changes) (fn := Go.Proofs.Tryz.f53) (c := b_ref05_Changes) (an := a_ref05_Changes) ⟨t_ref04_Eval, t_ref02_Sign, trivial⟩ trivial Go.Proofs.Tryz.func53 rfl rfl (by decide) (fun _ => rfl) (by intro a K D; kernel_rfl)
noncomputable def A_law05_poly : ArgT (Sl × Unit) := (ArgT.cons (Ty.leaf .sl) ArgT.nil)
noncomputable def R_law05_poly : Ty Sl := (Ty.leaf .sl)
noncomputable def e_law05_poly : FSem := mkE A_law05_poly R_law05_poly (fun a => F.law05_poly a.1)
noncomputable def c_law05_poly : Cfg := { P := Go.Proofs.Tryz.prog, n := 19, tab := [(81, e_ref02_FromInt)], mutL := [], rtL := [], locL := [15] }
noncomputable def b_law05_poly : Code := match Go.Proofs.Tryz.f63.body with | some c => c | none => .skip
noncomputable def a_law05_poly : An := (.seq .leaf (.seq .leaf (.seq (.seq .leaf (.block (.loop [(3, .leaf (.sl)), (8, .leaf (.int .i64))] (.seq .leaf (.seq (.cond .leaf .leaf) (.seq (.block (.seq .leaf .leaf)) .leaf)))))) (.seq .leaf .leaf))))
theorem t_law05_poly : Entry Go.Proofs.Tryz.prog 63 e_law05_poly false :=
  entry_of (C := c_law05_poly) (fn := Go.Proofs.Tryz.f63) (c := b_law05_poly) (an := a_law05_poly) ⟨t_ref02_FromInt, trivial⟩ trivial Go.Proofs.Tryz.func63 rfl rfl (by decide) (fun _ => rfl) (by intro a K D; kernel_rfl)
noncomputable def A_sturm_Chain : ArgT (Sl × Unit) := (ArgT.cons (Ty.leaf .sl) ArgT.nil)
noncomputable def R_sturm_Chain : Ty Sl := (Ty.leaf .sl)
noncomputable def e_sturm_Chain : FSem := mkE A_sturm_Chain R_sturm_Chain (fun a => F.sturm_Chain a.1)
noncomputable def c_sturm_Chain : Cfg := { P := Go.Proofs.Tryz.prog, n := 42, tab := [(39, e_polynomial_Degree), (69, e_polynomial_Squarefree), (26, e_polynomial_Derivative), (22, e_polynomial_DivMod), (79, e_rational_FromInt), (43, e_polynomial_Scale)], mutL := [], rtL := [], locL := [40] }
noncomputable def b_sturm_Chain : Code := match Go.Proofs.Tryz.f107.body with | some c => c | none => .skip
noncomputable def a_sturm_Chain : An := (.seq .leaf (.seq (.seq .leaf (.cond (.seq .leaf .leaf) .leaf)) (.seq .leaf (.seq .leaf (.seq .leaf (.block (.loop [(3, .leaf (.sl)), (4, .leaf (.sl)), (5, .leaf (.sl))] (.block (.seq .leaf (.join [] (.seq .leaf (.cond (.seq .leaf .leaf) .leaf)) (.seq .leaf .leaf)))))))))))
theorem t_sturm_Chain : Entry Go.Proofs.Tryz.prog 107 e_sturm_Chain false :=
  entry_of (C := c_sturm_Chain) (fn := Go.Proofs.Tryz.f107) (c := b_sturm_Chain) (an := a_sturm_Chain) ⟨t_polynomial_Degree, t_polynomial_Squarefree, t_polynomial_Derivative, t_polynomial_DivMod, t_rational_FromInt, t_polynomial_Scale, trivial⟩ trivial Go.Proofs.Tryz.func107 rfl rfl (by decide) (fun _ => rfl) (by intro a K D; kernel_rfl)
noncomputable def A_ref05_Same : ArgT (Sl × Sl × Unit) := (ArgT.cons (Ty.leaf .sl) (ArgT.cons (Ty.leaf .sl) ArgT.nil))
noncomputable def R_ref05_Same : Ty Bool := (Ty.leaf .bool)
noncomputable def e_ref05_Same : FSem := mkE A_ref05_Same R_ref05_Same (fun a => F.ref05_Same a.1 a.2.1)
noncomputable def c_ref05_Same : Cfg := { P := Go.Proofs.Tryz.prog, n := 27, tab := [(70, e_ref04_Equal)], mutL := [], rtL := [], locL := [] }
noncomputable def b_ref05_Same : Code := match Go.Proofs.Tryz.f109.body with | some c => c | none => .skip
noncomputable def a_ref05_Same : An := (.seq .leaf (.seq (.seq .leaf (.cond (.seq .leaf .leaf) .leaf)) (.seq (.seq .leaf (.block (.loop [(5, .leaf (.int .i64))] (.seq (.seq .leaf (.cond .leaf .leaf)) (.seq (.block (.seq (.draw [0, 1, 2, 3, 4, 5, 6, 7, 8, 9]) (.cond (.seq .leaf .leaf) .leaf))) .leaf))))) (.seq .leaf .leaf))))
theorem t_ref05_Same : Entry Go.Proofs.Tryz.prog 109 e_ref05_Same false :=
  entry_of (C := c_ref05_Same) (fn := Go.Proofs.Tryz.f109) (c := b_ref05_Same) (an := a_ref05_Same) ⟨t_ref04_Equal, trivial⟩ trivial Go.Proofs.Tryz.func109 rfl rfl (by decide) (fun _ => rfl) (by intro a K D; kernel_rfl)
noncomputable def A_law05_awake_1 : ArgT (Int × (Option Addr) × Unit) := (ArgT.cons (Ty.leaf (.int .i64)) (ArgT.cons (Ty.leaf .ptr) ArgT.nil))
noncomputable def R_law05_awake_1 : Ty Int := (Ty.leaf (.int .i64))
noncomputable def e_law05_awake_1 : FSem := mkE A_law05_awake_1 R_law05_awake_1 (fun a => F.law05_awake_1 a.1 a.2.1)
noncomputable def c_law05_awake_1 : Cfg := { P := Go.Proofs.Tryz.prog, n := 8, tab := [(81, e_ref02_FromInt), (52, e_sturm_Changes)], mutL := [], rtL := [], locL := [] }
noncomputable def b_law05_awake_1 : Code := match Go.Proofs.Tryz.f108.body with | some c => c | none => .skip
noncomputable def a_law05_awake_1 : An := (.seq .leaf (.seq (.draw [0, 1, 2, 3, 4]) .leaf))
theorem t_law05_awake_1 : Entry Go.Proofs.Tryz.prog 108 e_law05_awake_1 false :=
  entry_of (C := c_law05_awake_1) (fn := Go.Proofs.Tryz.f108) (c := b_law05_awake_1) (an := a_law05_awake_1) ⟨t_ref02_FromInt, t_sturm_Changes, trivial⟩ trivial Go.Proofs.Tryz.func108 rfl rfl (by decide) (fun _ => rfl) (by intro a K D; kernel_rfl)
noncomputable def A_sturm_around : ArgT (Sl × Unit) := (ArgT.cons (Ty.leaf .sl) ArgT.nil)
noncomputable def R_sturm_around : Ty TInterval := tyTInterval
noncomputable def e_sturm_around : FSem := mkE A_sturm_around R_sturm_around (fun a => F.sturm_around a.1)
noncomputable def c_sturm_around : Cfg := { P := Go.Proofs.Tryz.prog, n := 10, tab := [(34, e_polynomial_Bound), (97, e_rational_Neg)], mutL := [], rtL := [], locL := [2, 3] }
noncomputable def b_sturm_around : Code := match Go.Proofs.Tryz.f113.body with | some c => c | none => .skip
noncomputable def a_sturm_around : An := (.seq .leaf (.seq .leaf (.seq (.draw [0, 2, 1, 3, 4]) .leaf)))
theorem t_sturm_around : Entry Go.Proofs.Tryz.prog 113 e_sturm_around false :=
  entry_of (C := c_sturm_around) (fn := Go.Proofs.Tryz.f113) (c := b_sturm_around) (an := a_sturm_around) ⟨t_polynomial_Bound, t_rational_Neg, trivial⟩ trivial Go.Proofs.Tryz.func113 rfl rfl (by decide) (fun _ => rfl) (by intro a K D; kernel_rfl)
noncomputable def A_sturm_between : ArgT (Sl × TRat × TRat × Unit) := (ArgT.cons (Ty.leaf .sl) (ArgT.cons tyTRat (ArgT.cons tyTRat ArgT.nil)))
noncomputable def R_sturm_between : Ty Int := (Ty.leaf (.int .i64))
noncomputable def e_sturm_between : FSem := mkE A_sturm_between R_sturm_between (fun a => F.sturm_between a.1 a.2.1 a.2.2.1)
noncomputable def c_sturm_between : Cfg := { P := Go.Proofs.Tryz.prog, n := 14, tab := [(52, e_sturm_Changes)], mutL := [], rtL := [], locL := [4, 5] }
noncomputable def b_sturm_between : Code := match Go.Proofs.Tryz.f111.body with | some c => c | none => .skip
noncomputable def a_sturm_between : An := (.seq .leaf (.seq (.draw [0, 1, 3, 4, 2, 5, 6, 7]) .leaf))
theorem t_sturm_between : Entry Go.Proofs.Tryz.prog 111 e_sturm_between false :=
  entry_of (C := c_sturm_between) (fn := Go.Proofs.Tryz.f111) (c := b_sturm_between) (an := a_sturm_between) ⟨t_sturm_Changes, trivial⟩ trivial Go.Proofs.Tryz.func111 rfl rfl (by decide) (fun _ => rfl) (by intro a K D; kernel_rfl)
noncomputable def A_sturm_Count : ArgT (Sl × TRat × TRat × Unit) := (ArgT.cons (Ty.leaf .sl) (ArgT.cons tyTRat (ArgT.cons tyTRat ArgT.nil)))
noncomputable def R_sturm_Count : Ty Int := (Ty.leaf (.int .i64))
noncomputable def e_sturm_Count : FSem := mkE A_sturm_Count R_sturm_Count (fun a => F.sturm_Count a.1 a.2.1 a.2.2.1)
noncomputable def c_sturm_Count : Cfg := { P := Go.Proofs.Tryz.prog, n := 16, tab := [(98, e_rational_Cmp), (107, e_sturm_Chain), (111, e_sturm_between)], mutL := [], rtL := [], locL := [4, 5] }
noncomputable def b_sturm_Count : Code := match Go.Proofs.Tryz.f54.body with | some c => c | none => .skip
noncomputable def a_sturm_Count : An := (.seq .leaf (.seq (.seq .leaf (.cond (.seq .leaf .leaf) .leaf)) (.seq (.draw [0, 2, 3, 1, 4, 5]) .leaf)))
theorem t_sturm_Count : Entry Go.Proofs.Tryz.prog 54 e_sturm_Count false :=
  entry_of (C := c_sturm_Count) (fn := Go.Proofs.Tryz.f54) (c := b_sturm_Count) (an := a_sturm_Count) ⟨t_rational_Cmp, t_sturm_Chain, t_sturm_between, trivial⟩ trivial Go.Proofs.Tryz.func54 rfl rfl (by decide) (fun _ => rfl) (by intro a K D; kernel_rfl)
noncomputable def A_sturm_Total : ArgT (Sl × Unit) := (ArgT.cons (Ty.leaf .sl) ArgT.nil)
noncomputable def R_sturm_Total : Ty Int := (Ty.leaf (.int .i64))
noncomputable def e_sturm_Total : FSem := mkE A_sturm_Total R_sturm_Total (fun a => F.sturm_Total a.1)
noncomputable def c_sturm_Total : Cfg := { P := Go.Proofs.Tryz.prog, n := 12, tab := [(113, e_sturm_around), (54, e_sturm_Count)], mutL := [], rtL := [(7, 3), (9, 3)], locL := [3] }
noncomputable def b_sturm_Total : Code := match Go.Proofs.Tryz.f57.body with | some c => c | none => .skip
noncomputable def a_sturm_Total : An := (.seq .leaf (.seq .leaf (.seq .leaf .leaf)))
theorem t_sturm_Total : Entry Go.Proofs.Tryz.prog 57 e_sturm_Total false :=
  entry_of (C := c_sturm_Total) (fn := Go.Proofs.Tryz.f57) (c := b_sturm_Total) (an := a_sturm_Total) ⟨t_sturm_around, t_sturm_Count, trivial⟩ trivial Go.Proofs.Tryz.func57 rfl rfl (by decide) (fun _ => rfl) (by intro a K D; kernel_rfl)
noncomputable def A_law05_awake : ArgT (Unit) := ArgT.nil
noncomputable def R_law05_awake : Ty Bool := (Ty.leaf .bool)
noncomputable def e_law05_awake : FSem := mkE A_law05_awake R_law05_awake (fun a => F.law05_awake )
noncomputable def c_law05_awake : Cfg := { P := Go.Proofs.Tryz.prog, n := 32, tab := [(63, e_law05_poly), (107, e_sturm_Chain), (109, e_ref05_Same), (108, e_law05_awake_1), (57, e_sturm_Total)], mutL := [], rtL := [], locL := [] }
noncomputable def b_law05_awake : Code := match Go.Proofs.Tryz.f49.body with | some c => c | none => .skip
noncomputable def a_law05_awake : An := (.seq .leaf (.seq .leaf (.seq .leaf (.seq (.draw [0, 1, 2, 3, 4, 5, 6, 7, 8, 9, 10, 11, 12, 13, 14, 15, 16, 17, 18, 19, 20, 21, 22, 23, 24, 25]) .leaf))))
theorem t_law05_awake : Entry Go.Proofs.Tryz.prog 49 e_law05_awake false :=
  entry_of (C := c_law05_awake) (fn := Go.Proofs.Tryz.f49) (c := b_law05_awake) (an := a_law05_awake) ⟨t_law05_poly, t_sturm_Chain, t_ref05_Same, t_law05_awake_1, t_sturm_Total, trivial⟩ trivial Go.Proofs.Tryz.func49 rfl rfl (by decide) (fun _ => rfl) (by intro a K D; kernel_rfl)
end Den
end

section
/- MADE BY fbuild.py: the entries of the functions. -/
set_option maxRecDepth 100000
set_option linter.unusedVariables false
namespace Den
open Go
noncomputable def A_ref05_Short : ArgT (TRat × Unit) := (ArgT.cons tyTRat ArgT.nil)
noncomputable def R_ref05_Short : Ty Bool := (Ty.leaf .bool)
noncomputable def e_ref05_Short : FSem := mkE A_ref05_Short R_ref05_Short (fun a => F.ref05_Short a.1)
noncomputable def c_ref05_Short : Cfg := { P := Go.Proofs.Tryz.prog, n := 19, tab := [(35, e_ref02_Valid)], mutL := [], rtL := [(6, 1), (7, 1), (13, 1), (14, 1)], locL := [1] }
noncomputable def b_ref05_Short : Code := match Go.Proofs.Tryz.f51.body with | some c => c | none => .skip
noncomputable def a_ref05_Short : An := (.seq .leaf (.seq .leaf .leaf))
theorem t_ref05_Short : Entry Go.Proofs.Tryz.prog 51 e_ref05_Short false :=
  entry_of (C := c_ref05_Short) (fn := Go.Proofs.Tryz.f51) (c := b_ref05_Short) (an := a_ref05_Short) ⟨t_ref02_Valid, trivial⟩ trivial Go.Proofs.Tryz.func51 rfl rfl (by decide) (fun _ => rfl) (by intro a K D; kernel_rfl)
noncomputable def A_ref05_Small : ArgT (Sl × Unit) := (ArgT.cons (Ty.leaf .sl) ArgT.nil)
noncomputable def R_ref05_Small : Ty Bool := (Ty.leaf .bool)
noncomputable def e_ref05_Small : FSem := mkE A_ref05_Small R_ref05_Small (fun a => F.ref05_Small a.1)
noncomputable def c_ref05_Small : Cfg := { P := Go.Proofs.Tryz.prog, n := 19, tab := [(51, e_ref05_Short)], mutL := [], rtL := [], locL := [] }
noncomputable def b_ref05_Small : Code := match Go.Proofs.Tryz.f110.body with | some c => c | none => .skip
noncomputable def a_ref05_Small : An := (.seq .leaf (.seq (.seq .leaf (.block (.loop [(3, .leaf (.int .i64))] (.seq (.seq .leaf (.cond .leaf .leaf)) (.seq (.block (.seq .leaf (.cond (.seq .leaf .leaf) .leaf))) .leaf))))) (.seq .leaf .leaf)))
theorem t_ref05_Small : Entry Go.Proofs.Tryz.prog 110 e_ref05_Small false :=
  entry_of (C := c_ref05_Small) (fn := Go.Proofs.Tryz.f110) (c := b_ref05_Small) (an := a_ref05_Small) ⟨t_ref05_Short, trivial⟩ trivial Go.Proofs.Tryz.func110 rfl rfl (by decide) (fun _ => rfl) (by intro a K D; kernel_rfl)
noncomputable def A_law05_small : ArgT (Sl × Unit) := (ArgT.cons (Ty.leaf .sl) ArgT.nil)
noncomputable def R_law05_small : Ty Bool := (Ty.leaf .bool)
noncomputable def e_law05_small : FSem := mkE A_law05_small R_law05_small (fun a => F.law05_small a.1)
noncomputable def c_law05_small : Cfg := { P := Go.Proofs.Tryz.prog, n := 15, tab := [(110, e_ref05_Small)], mutL := [], rtL := [], locL := [] }
noncomputable def b_law05_small : Code := match Go.Proofs.Tryz.f50.body with | some c => c | none => .skip
noncomputable def a_law05_small : An := (.seq .leaf (.seq (.seq .leaf (.block (.loop [(7, .leaf (.int .i64))] (.seq .leaf (.seq (.cond .leaf .leaf) (.seq (.block (.seq .leaf (.seq .leaf (.cond (.seq .leaf .leaf) .leaf)))) .leaf)))))) (.seq .leaf .leaf)))
theorem t_law05_small : Entry Go.Proofs.Tryz.prog 50 e_law05_small false :=
  entry_of (C := c_law05_small) (fn := Go.Proofs.Tryz.f50) (c := b_law05_small) (an := a_law05_small) ⟨t_ref05_Small, trivial⟩ trivial Go.Proofs.Tryz.func50 rfl rfl (by decide) (fun _ => rfl) (by intro a K D; kernel_rfl)
noncomputable def A_law05_SturmChanges : ArgT (Sl × TRat × Unit) := (ArgT.cons (Ty.leaf .sl) (ArgT.cons tyTRat ArgT.nil))
noncomputable def R_law05_SturmChanges : Ty Bool := (Ty.leaf .bool)
noncomputable def e_law05_SturmChanges : FSem := mkE A_law05_SturmChanges R_law05_SturmChanges (fun a => F.law05_SturmChanges a.1 a.2.1)
noncomputable def c_law05_SturmChanges : Cfg := { P := Go.Proofs.Tryz.prog, n := 30, tab := [(52, e_sturm_Changes), (53, e_ref05_Changes), (49, e_law05_awake), (50, e_law05_small), (51, e_ref05_Short)], mutL := [], rtL := [], locL := [3] }
noncomputable def b_law05_SturmChanges : Code := match Go.Proofs.Tryz.f9.body with | some c => c | none => .skip
noncomputable def a_law05_SturmChanges : An := (.seq .leaf (.join [] (.seq .leaf (.cond (.seq .leaf .leaf) .leaf)) (.seq (.draw [0, 1, 3, 4, 2, 5, 6, 7]) .leaf)))
theorem t_law05_SturmChanges : Entry Go.Proofs.Tryz.prog 9 e_law05_SturmChanges false :=
  entry_of (C := c_law05_SturmChanges) (fn := Go.Proofs.Tryz.f9) (c := b_law05_SturmChanges) (an := a_law05_SturmChanges) ⟨t_sturm_Changes, t_ref05_Changes, t_law05_awake, t_law05_small, t_ref05_Short, trivial⟩ trivial Go.Proofs.Tryz.func9 rfl rfl (by decide) (fun _ => rfl) (by intro a K D; kernel_rfl)
noncomputable def A_law05_cp : ArgT (Sl × Unit) := (ArgT.cons (Ty.leaf .sl) ArgT.nil)
noncomputable def R_law05_cp : Ty Sl := (Ty.leaf .sl)
noncomputable def e_law05_cp : FSem := mkE A_law05_cp R_law05_cp (fun a => F.law05_cp a.1)
noncomputable def c_law05_cp : Cfg := { P := Go.Proofs.Tryz.prog, n := 6, tab := [], mutL := [], rtL := [], locL := [] }
noncomputable def b_law05_cp : Code := match Go.Proofs.Tryz.f55.body with | some c => c | none => .skip
noncomputable def a_law05_cp : An := (.seq .leaf (.seq .leaf .leaf))
theorem t_law05_cp : Entry Go.Proofs.Tryz.prog 55 e_law05_cp false :=
  entry_of (C := c_law05_cp) (fn := Go.Proofs.Tryz.f55) (c := b_law05_cp) (an := a_law05_cp) trivial trivial Go.Proofs.Tryz.func55 rfl rfl (by decide) (fun _ => rfl) (by intro a K D; kernel_rfl)
noncomputable def A_ref04_GCD : ArgT (Sl × Sl × Unit) := (ArgT.cons (Ty.leaf .sl) (ArgT.cons (Ty.leaf .sl) ArgT.nil))
noncomputable def R_ref04_GCD : Ty Sl := (Ty.leaf .sl)
noncomputable def e_ref04_GCD : FSem := mkE A_ref04_GCD R_ref04_GCD (fun a => F.ref04_GCD a.1 a.2.1)
noncomputable def c_ref04_GCD : Cfg := { P := Go.Proofs.Tryz.prog, n := 24, tab := [(100, e_ref04_Monic), (24, e_ref04_DivMod)], mutL := [], rtL := [], locL := [] }
noncomputable def b_ref04_GCD : Code := match Go.Proofs.Tryz.f59.body with | some c => c | none => .skip
noncomputable def a_ref04_GCD : An := (.seq .leaf (.seq .leaf (.seq (.block (.loop [(0, .leaf (.sl)), (1, .leaf (.sl))] (.seq (.seq .leaf (.cond .leaf .leaf)) (.block (.seq .leaf .leaf))))) (.seq .leaf .leaf))))
theorem t_ref04_GCD : Entry Go.Proofs.Tryz.prog 59 e_ref04_GCD false :=
  entry_of (C := c_ref04_GCD) (fn := Go.Proofs.Tryz.f59) (c := b_ref04_GCD) (an := a_ref04_GCD) ⟨t_ref04_Monic, t_ref04_DivMod, trivial⟩ trivial Go.Proofs.Tryz.func59 rfl rfl (by decide) (fun _ => rfl) (by intro a K D; kernel_rfl)
noncomputable def A_ref04_Squarefree : ArgT (Sl × Unit) := (ArgT.cons (Ty.leaf .sl) ArgT.nil)
noncomputable def R_ref04_Squarefree : Ty Sl := (Ty.leaf .sl)
noncomputable def e_ref04_Squarefree : FSem := mkE A_ref04_Squarefree R_ref04_Squarefree (fun a => F.ref04_Squarefree a.1)
noncomputable def c_ref04_Squarefree : Cfg := { P := Go.Proofs.Tryz.prog, n := 22, tab := [(100, e_ref04_Monic), (27, e_ref04_Derivative), (59, e_ref04_GCD), (24, e_ref04_DivMod)], mutL := [], rtL := [], locL := [] }
noncomputable def b_ref04_Squarefree : Code := match Go.Proofs.Tryz.f157.body with | some c => c | none => .skip
noncomputable def a_ref04_Squarefree : An := (.seq .leaf (.seq .leaf (.seq (.seq .leaf (.cond (.seq .leaf .leaf) .leaf)) (.seq .leaf (.seq .leaf .leaf)))))
theorem t_ref04_Squarefree : Entry Go.Proofs.Tryz.prog 157 e_ref04_Squarefree false :=
  entry_of (C := c_ref04_Squarefree) (fn := Go.Proofs.Tryz.f157) (c := b_ref04_Squarefree) (an := a_ref04_Squarefree) ⟨t_ref04_Monic, t_ref04_Derivative, t_ref04_GCD, t_ref04_DivMod, trivial⟩ trivial Go.Proofs.Tryz.func157 rfl rfl (by decide) (fun _ => rfl) (by intro a K D; kernel_rfl)
noncomputable def A_ref05_Chain : ArgT (Sl × Unit) := (ArgT.cons (Ty.leaf .sl) ArgT.nil)
noncomputable def R_ref05_Chain : Ty Sl := (Ty.leaf .sl)
noncomputable def e_ref05_Chain : FSem := mkE A_ref05_Chain R_ref05_Chain (fun a => F.ref05_Chain a.1)
noncomputable def c_ref05_Chain : Cfg := { P := Go.Proofs.Tryz.prog, n := 35, tab := [(23, e_ref04_Degree), (157, e_ref04_Squarefree), (27, e_ref04_Derivative), (24, e_ref04_DivMod), (81, e_ref02_FromInt), (33, e_ref04_Scale)], mutL := [], rtL := [], locL := [22] }
noncomputable def b_ref05_Chain : Code := match Go.Proofs.Tryz.f112.body with | some c => c | none => .skip
noncomputable def a_ref05_Chain : An := (.seq .leaf (.seq (.seq .leaf (.cond (.seq .leaf .leaf) .leaf)) (.seq .leaf (.seq .leaf (.seq .leaf (.seq (.block (.loop [(3, .leaf (.sl)), (4, .leaf (.sl)), (5, .leaf (.sl))] (.seq (.seq .leaf (.cond .leaf .leaf)) (.block (.seq .leaf (.seq .leaf .leaf)))))) (.seq .leaf .leaf)))))))
theorem t_ref05_Chain : Entry Go.Proofs.Tryz.prog 112 e_ref05_Chain false :=
  entry_of (C := c_ref05_Chain) (fn := Go.Proofs.Tryz.f112) (c := b_ref05_Chain) (an := a_ref05_Chain) ⟨t_ref04_Degree, t_ref04_Squarefree, t_ref04_Derivative, t_ref04_DivMod, t_ref02_FromInt, t_ref04_Scale, trivial⟩ trivial Go.Proofs.Tryz.func112 rfl rfl (by decide) (fun _ => rfl) (by intro a K D; kernel_rfl)
noncomputable def A_ref05_Count : ArgT (Sl × TRat × TRat × Unit) := (ArgT.cons (Ty.leaf .sl) (ArgT.cons tyTRat (ArgT.cons tyTRat ArgT.nil)))
noncomputable def R_ref05_Count : Ty Int := (Ty.leaf (.int .i64))
noncomputable def e_ref05_Count : FSem := mkE A_ref05_Count R_ref05_Count (fun a => F.ref05_Count a.1 a.2.1 a.2.2.1)
noncomputable def c_ref05_Count : Cfg := { P := Go.Proofs.Tryz.prog, n := 21, tab := [(36, e_ref02_Cmp), (112, e_ref05_Chain), (53, e_ref05_Changes)], mutL := [], rtL := [], locL := [4, 5] }
noncomputable def b_ref05_Count : Code := match Go.Proofs.Tryz.f56.body with | some c => c | none => .skip
noncomputable def a_ref05_Count : An := (.seq .leaf (.seq (.seq .leaf (.cond (.seq .leaf .leaf) .leaf)) (.seq .leaf (.seq (.draw [0, 1, 3, 4, 2, 5, 6, 7]) .leaf))))
theorem t_ref05_Count : Entry Go.Proofs.Tryz.prog 56 e_ref05_Count false :=
  entry_of (C := c_ref05_Count) (fn := Go.Proofs.Tryz.f56) (c := b_ref05_Count) (an := a_ref05_Count) ⟨t_ref02_Cmp, t_ref05_Chain, t_ref05_Changes, trivial⟩ trivial Go.Proofs.Tryz.func56 rfl rfl (by decide) (fun _ => rfl) (by intro a K D; kernel_rfl)
noncomputable def A_ref05_ends : ArgT (Sl × Unit) := (ArgT.cons (Ty.leaf .sl) ArgT.nil)
noncomputable def R_ref05_ends : Ty (TRat × TRat) := (Ty.tup (.cons tyTRat (.cons tyTRat .nil)) (fun x => (x.1, x.2, ())) (fun y => (y.1, y.2.1)) (fun _ => rfl) (fun _ => rfl))
noncomputable def e_ref05_ends : FSem := mkE A_ref05_ends R_ref05_ends (fun a => F.ref05_ends a.1)
noncomputable def c_ref05_ends : Cfg := { P := Go.Proofs.Tryz.prog, n := 10, tab := [(37, e_ref04_Bound), (117, e_ref02_Neg)], mutL := [], rtL := [], locL := [2, 3, 4] }
noncomputable def b_ref05_ends : Code := match Go.Proofs.Tryz.f114.body with | some c => c | none => .skip
noncomputable def a_ref05_ends : An := (.seq .leaf (.seq .leaf (.seq (.draw [0, 2, 1, 3, 4]) .leaf)))
theorem t_ref05_ends : Entry Go.Proofs.Tryz.prog 114 e_ref05_ends false :=
  entry_of (C := c_ref05_ends) (fn := Go.Proofs.Tryz.f114) (c := b_ref05_ends) (an := a_ref05_ends) ⟨t_ref04_Bound, t_ref02_Neg, trivial⟩ trivial Go.Proofs.Tryz.func114 rfl rfl (by decide) (fun _ => rfl) (by intro a K D; kernel_rfl)
noncomputable def A_ref05_Total : ArgT (Sl × Unit) := (ArgT.cons (Ty.leaf .sl) ArgT.nil)
noncomputable def R_ref05_Total : Ty Int := (Ty.leaf (.int .i64))
noncomputable def e_ref05_Total : FSem := mkE A_ref05_Total R_ref05_Total (fun a => F.ref05_Total a.1)
noncomputable def c_ref05_Total : Cfg := { P := Go.Proofs.Tryz.prog, n := 14, tab := [(114, e_ref05_ends), (56, e_ref05_Count)], mutL := [], rtL := [], locL := [3, 4] }
noncomputable def b_ref05_Total : Code := match Go.Proofs.Tryz.f58.body with | some c => c | none => .skip
noncomputable def a_ref05_Total : An := (.seq .leaf (.seq .leaf (.seq .leaf .leaf)))
theorem t_ref05_Total : Entry Go.Proofs.Tryz.prog 58 e_ref05_Total false :=
  entry_of (C := c_ref05_Total) (fn := Go.Proofs.Tryz.f58) (c := b_ref05_Total) (an := a_ref05_Total) ⟨t_ref05_ends, t_ref05_Count, trivial⟩ trivial Go.Proofs.Tryz.func58 rfl rfl (by decide) (fun _ => rfl) (by intro a K D; kernel_rfl)
noncomputable def A_law05_SturmCount : ArgT (Sl × A3_TRat × Unit) := (ArgT.cons (Ty.leaf .sl) (ArgT.cons tyA3_TRat ArgT.nil))
noncomputable def R_law05_SturmCount : Ty Bool := (Ty.leaf .bool)
noncomputable def e_law05_SturmCount : FSem := mkE A_law05_SturmCount R_law05_SturmCount (fun a => F.law05_SturmCount a.1 a.2.1)
noncomputable def c_law05_SturmCount : Cfg := { P := Go.Proofs.Tryz.prog, n := 106, tab := [(55, e_law05_cp), (54, e_sturm_Count), (36, e_ref02_Cmp), (56, e_ref05_Count), (57, e_sturm_Total), (58, e_ref05_Total), (49, e_law05_awake), (50, e_law05_small), (51, e_ref05_Short)], mutL := [], rtL := [(18, 3), (24, 3), (30, 3), (38, 3), (40, 3), (45, 3), (47, 3), (52, 3), (54, 3), (59, 3), (61, 3), (68, 3), (70, 3), (83, 3), (85, 3), (90, 3), (92, 3)], locL := [3] }
noncomputable def b_law05_SturmCount : Code := match Go.Proofs.Tryz.f10.body with | some c => c | none => .skip
noncomputable def a_law05_SturmCount : An := (.seq .leaf (.join [] (.seq .leaf (.cond (.seq .leaf .leaf) .leaf)) (.seq (.draw [0, 2, 3, 4, 5, 7, 9, 10, 11, 12, 14, 16, 17, 18, 19, 1, 6, 8, 13, 15, 20, 21, 22, 23]) (.join [] (.seq .leaf (.cond (.seq .leaf .leaf) .leaf)) (.join [(8, .leaf (.bool))] .leaf (.seq .leaf .leaf))))))
theorem t_law05_SturmCount : Entry Go.Proofs.Tryz.prog 10 e_law05_SturmCount false :=
  entry_of (C := c_law05_SturmCount) (fn := Go.Proofs.Tryz.f10) (c := b_law05_SturmCount) (an := a_law05_SturmCount) ⟨t_law05_cp, t_sturm_Count, t_ref02_Cmp, t_ref05_Count, t_sturm_Total, t_ref05_Total, t_law05_awake, t_law05_small, t_ref05_Short, trivial⟩ trivial Go.Proofs.Tryz.func10 rfl rfl (by decide) (fun _ => rfl) (by intro a K D; kernel_rfl)
noncomputable def A_law05_SturmPowers : ArgT (Sl × Sl × Unit) := (ArgT.cons (Ty.leaf .sl) (ArgT.cons (Ty.leaf .sl) ArgT.nil))
noncomputable def R_law05_SturmPowers : Ty Bool := (Ty.leaf .bool)
noncomputable def e_law05_SturmPowers : FSem := mkE A_law05_SturmPowers R_law05_SturmPowers (fun a => F.law05_SturmPowers a.1 a.2.1)
noncomputable def c_law05_SturmPowers : Cfg := { P := Go.Proofs.Tryz.prog, n := 64, tab := [(59, e_ref04_GCD), (21, e_ref04_Mul), (57, e_sturm_Total), (55, e_law05_cp), (49, e_law05_awake), (50, e_law05_small), (23, e_ref04_Degree)], mutL := [], rtL := [], locL := [] }
noncomputable def b_law05_SturmPowers : Code := match Go.Proofs.Tryz.f11.body with | some c => c | none => .skip
noncomputable def a_law05_SturmPowers : An := (.seq .leaf (.join [] (.seq .leaf (.cond (.seq .leaf .leaf) .leaf)) (.seq .leaf (.seq .leaf .leaf))))
theorem t_law05_SturmPowers : Entry Go.Proofs.Tryz.prog 11 e_law05_SturmPowers false :=
  entry_of (C := c_law05_SturmPowers) (fn := Go.Proofs.Tryz.f11) (c := b_law05_SturmPowers) (an := a_law05_SturmPowers) ⟨t_ref04_GCD, t_ref04_Mul, t_sturm_Total, t_law05_cp, t_law05_awake, t_law05_small, t_ref04_Degree, trivial⟩ trivial Go.Proofs.Tryz.func11 rfl rfl (by decide) (fun _ => rfl) (by intro a K D; kernel_rfl)
noncomputable def A_integer_Valid : ArgT (TInt × Unit) := (ArgT.cons tyTInt ArgT.nil)
noncomputable def R_integer_Valid : Ty Bool := (Ty.leaf .bool)
noncomputable def e_integer_Valid : FSem := mkE A_integer_Valid R_integer_Valid (fun a => F.integer_Valid a.1)
noncomputable def c_integer_Valid : Cfg := { P := Go.Proofs.Tryz.prog, n := 27, tab := [], mutL := [], rtL := [(4, 1), (10, 1), (18, 1)], locL := [1] }
noncomputable def b_integer_Valid : Code := match Go.Proofs.Tryz.f183.body with | some c => c | none => .skip
noncomputable def a_integer_Valid : An := (.seq .leaf (.seq .leaf (.seq .leaf .leaf)))
theorem t_integer_Valid : Entry Go.Proofs.Tryz.prog 183 e_integer_Valid false :=
  entry_of (C := c_integer_Valid) (fn := Go.Proofs.Tryz.f183) (c := b_integer_Valid) (an := a_integer_Valid) trivial trivial Go.Proofs.Tryz.func183 rfl rfl (by decide) (fun _ => rfl) (by intro a K D; kernel_rfl)
noncomputable def A_rational_Valid : ArgT (TRat × Unit) := (ArgT.cons tyTRat ArgT.nil)
noncomputable def R_rational_Valid : Ty Bool := (Ty.leaf .bool)
noncomputable def e_rational_Valid : FSem := mkE A_rational_Valid R_rational_Valid (fun a => F.rational_Valid a.1)
noncomputable def c_rational_Valid : Cfg := { P := Go.Proofs.Tryz.prog, n := 25, tab := [(183, e_integer_Valid), (153, e_integer_Sign), (86, e_integer_GCD), (127, e_rational_isOne)], mutL := [], rtL := [(3, 1), (7, 1), (12, 1), (18, 1), (20, 1)], locL := [1] }
noncomputable def b_rational_Valid : Code := match Go.Proofs.Tryz.f158.body with | some c => c | none => .skip
noncomputable def a_rational_Valid : An := (.seq .leaf (.seq .leaf .leaf))
theorem t_rational_Valid : Entry Go.Proofs.Tryz.prog 158 e_rational_Valid false :=
  entry_of (C := c_rational_Valid) (fn := Go.Proofs.Tryz.f158) (c := b_rational_Valid) (an := a_rational_Valid) ⟨t_integer_Valid, t_integer_Sign, t_integer_GCD, t_rational_isOne, trivial⟩ trivial Go.Proofs.Tryz.func158 rfl rfl (by decide) (fun _ => rfl) (by intro a K D; kernel_rfl)
noncomputable def A_interval_Valid : ArgT (TInterval × Unit) := (ArgT.cons tyTInterval ArgT.nil)
noncomputable def R_interval_Valid : Ty Bool := (Ty.leaf .bool)
noncomputable def e_interval_Valid : FSem := mkE A_interval_Valid R_interval_Valid (fun a => F.interval_Valid a.1)
noncomputable def c_interval_Valid : Cfg := { P := Go.Proofs.Tryz.prog, n := 19, tab := [(158, e_rational_Valid), (98, e_rational_Cmp)], mutL := [], rtL := [(3, 1), (7, 1), (12, 1), (14, 1)], locL := [1] }
noncomputable def b_interval_Valid : Code := match Go.Proofs.Tryz.f159.body with | some c => c | none => .skip
noncomputable def a_interval_Valid : An := (.seq .leaf (.seq .leaf .leaf))
theorem t_interval_Valid : Entry Go.Proofs.Tryz.prog 159 e_interval_Valid false :=
  entry_of (C := c_interval_Valid) (fn := Go.Proofs.Tryz.f159) (c := b_interval_Valid) (an := a_interval_Valid) ⟨t_rational_Valid, t_rational_Cmp, trivial⟩ trivial Go.Proofs.Tryz.func159 rfl rfl (by decide) (fun _ => rfl) (by intro a K D; kernel_rfl)
noncomputable def A_sturm_single : ArgT (Sl × TInterval × Unit) := (ArgT.cons (Ty.leaf .sl) (ArgT.cons tyTInterval ArgT.nil))
noncomputable def R_sturm_single : Ty Bool := (Ty.leaf .bool)
noncomputable def e_sturm_single : FSem := mkE A_sturm_single R_sturm_single (fun a => F.sturm_single a.1 a.2.1)
noncomputable def c_sturm_single : Cfg := { P := Go.Proofs.Tryz.prog, n := 34, tab := [(158, e_rational_Valid), (159, e_interval_Valid), (98, e_rational_Cmp), (111, e_sturm_between)], mutL := [], rtL := [(5, 3), (9, 3), (18, 3), (20, 3), (27, 3), (29, 3)], locL := [3] }
noncomputable def b_sturm_single : Code := match Go.Proofs.Tryz.f115.body with | some c => c | none => .skip
noncomputable def a_sturm_single : An := (.seq .leaf (.seq .leaf .leaf))
theorem t_sturm_single : Entry Go.Proofs.Tryz.prog 115 e_sturm_single false :=
  entry_of (C := c_sturm_single) (fn := Go.Proofs.Tryz.f115) (c := b_sturm_single) (an := a_sturm_single) ⟨t_rational_Valid, t_interval_Valid, t_rational_Cmp, t_sturm_between, trivial⟩ trivial Go.Proofs.Tryz.func115 rfl rfl (by decide) (fun _ => rfl) (by intro a K D; kernel_rfl)
noncomputable def A_sturm_Root : ArgT (Sl × TInterval × Unit) := (ArgT.cons (Ty.leaf .sl) (ArgT.cons tyTInterval ArgT.nil))
noncomputable def R_sturm_Root : Ty (Int × Int) := (Ty.tup (.cons (Ty.leaf (.int .i64)) (.cons (Ty.leaf (.int .i64)) .nil)) (fun x => (x.1, x.2, ())) (fun y => (y.1, y.2.1)) (fun _ => rfl) (fun _ => rfl))
noncomputable def e_sturm_Root : FSem := mkE A_sturm_Root R_sturm_Root (fun a => F.sturm_Root a.1 a.2.1)
noncomputable def c_sturm_Root : Cfg := { P := Go.Proofs.Tryz.prog, n := 27, tab := [(107, e_sturm_Chain), (115, e_sturm_single), (113, e_sturm_around), (98, e_rational_Cmp), (111, e_sturm_between)], mutL := [], rtL := [(17, 3), (24, 3)], locL := [3, 7] }
noncomputable def b_sturm_Root : Code := match Go.Proofs.Tryz.f60.body with | some c => c | none => .skip
noncomputable def a_sturm_Root : An := (.seq .leaf (.seq .leaf (.seq (.seq .leaf (.cond (.seq .leaf .leaf) .leaf)) (.seq .leaf (.seq (.seq .leaf (.cond (.seq .leaf .leaf) .leaf)) (.seq .leaf .leaf))))))
theorem t_sturm_Root : Entry Go.Proofs.Tryz.prog 60 e_sturm_Root false :=
  entry_of (C := c_sturm_Root) (fn := Go.Proofs.Tryz.f60) (c := b_sturm_Root) (an := a_sturm_Root) ⟨t_sturm_Chain, t_sturm_single, t_sturm_around, t_rational_Cmp, t_sturm_between, trivial⟩ trivial Go.Proofs.Tryz.func60 rfl rfl (by decide) (fun _ => rfl) (by intro a K D; kernel_rfl)
noncomputable def A_ref05_Interval : ArgT (TInterval × Unit) := (ArgT.cons tyTInterval ArgT.nil)
noncomputable def R_ref05_Interval : Ty Bool := (Ty.leaf .bool)
noncomputable def e_ref05_Interval : FSem := mkE A_ref05_Interval R_ref05_Interval (fun a => F.ref05_Interval a.1)
noncomputable def c_ref05_Interval : Cfg := { P := Go.Proofs.Tryz.prog, n := 19, tab := [(35, e_ref02_Valid), (36, e_ref02_Cmp)], mutL := [], rtL := [(3, 1), (7, 1), (12, 1), (14, 1)], locL := [1] }
noncomputable def b_ref05_Interval : Code := match Go.Proofs.Tryz.f116.body with | some c => c | none => .skip
noncomputable def a_ref05_Interval : An := (.seq .leaf (.seq .leaf .leaf))
theorem t_ref05_Interval : Entry Go.Proofs.Tryz.prog 116 e_ref05_Interval false :=
  entry_of (C := c_ref05_Interval) (fn := Go.Proofs.Tryz.f116) (c := b_ref05_Interval) (an := a_ref05_Interval) ⟨t_ref02_Valid, t_ref02_Cmp, trivial⟩ trivial Go.Proofs.Tryz.func116 rfl rfl (by decide) (fun _ => rfl) (by intro a K D; kernel_rfl)
noncomputable def A_ref05_One : ArgT (Sl × TInterval × Unit) := (ArgT.cons (Ty.leaf .sl) (ArgT.cons tyTInterval ArgT.nil))
noncomputable def R_ref05_One : Ty Bool := (Ty.leaf .bool)
noncomputable def e_ref05_One : FSem := mkE A_ref05_One R_ref05_One (fun a => F.ref05_One a.1 a.2.1)
noncomputable def c_ref05_One : Cfg := { P := Go.Proofs.Tryz.prog, n := 16, tab := [(116, e_ref05_Interval), (56, e_ref05_Count)], mutL := [], rtL := [(9, 3), (11, 3)], locL := [3] }
noncomputable def b_ref05_One : Code := match Go.Proofs.Tryz.f61.body with | some c => c | none => .skip
noncomputable def a_ref05_One : An := (.seq .leaf (.seq .leaf .leaf))
theorem t_ref05_One : Entry Go.Proofs.Tryz.prog 61 e_ref05_One false :=
  entry_of (C := c_ref05_One) (fn := Go.Proofs.Tryz.f61) (c := b_ref05_One) (an := a_ref05_One) ⟨t_ref05_Interval, t_ref05_Count, trivial⟩ trivial Go.Proofs.Tryz.func61 rfl rfl (by decide) (fun _ => rfl) (by intro a K D; kernel_rfl)
noncomputable def A_ref05_Root : ArgT (Sl × TInterval × Unit) := (ArgT.cons (Ty.leaf .sl) (ArgT.cons tyTInterval ArgT.nil))
noncomputable def R_ref05_Root : Ty Int := (Ty.leaf (.int .i64))
noncomputable def e_ref05_Root : FSem := mkE A_ref05_Root R_ref05_Root (fun a => F.ref05_Root a.1 a.2.1)
noncomputable def c_ref05_Root : Cfg := { P := Go.Proofs.Tryz.prog, n := 18, tab := [(114, e_ref05_ends), (56, e_ref05_Count)], mutL := [], rtL := [(14, 3)], locL := [3, 5, 6] }
noncomputable def b_ref05_Root : Code := match Go.Proofs.Tryz.f62.body with | some c => c | none => .skip
noncomputable def a_ref05_Root : An := (.seq .leaf (.seq .leaf (.seq .leaf .leaf)))
theorem t_ref05_Root : Entry Go.Proofs.Tryz.prog 62 e_ref05_Root false :=
  entry_of (C := c_ref05_Root) (fn := Go.Proofs.Tryz.f62) (c := b_ref05_Root) (an := a_ref05_Root) ⟨t_ref05_ends, t_ref05_Count, trivial⟩ trivial Go.Proofs.Tryz.func62 rfl rfl (by decide) (fun _ => rfl) (by intro a K D; kernel_rfl)
noncomputable def A_law05_SturmRoot : ArgT (Sl × TInterval × Unit) := (ArgT.cons (Ty.leaf .sl) (ArgT.cons tyTInterval ArgT.nil))
noncomputable def R_law05_SturmRoot : Ty Bool := (Ty.leaf .bool)
noncomputable def e_law05_SturmRoot : FSem := mkE A_law05_SturmRoot R_law05_SturmRoot (fun a => F.law05_SturmRoot a.1 a.2.1)
noncomputable def c_law05_SturmRoot : Cfg := { P := Go.Proofs.Tryz.prog, n := 74, tab := [(55, e_law05_cp), (60, e_sturm_Root), (61, e_ref05_One), (62, e_ref05_Root), (49, e_law05_awake), (50, e_law05_small)], mutL := [], rtL := [(16, 3), (17, 3), (18, 3), (24, 3), (25, 3), (26, 3), (32, 3), (33, 3), (34, 3), (40, 3), (41, 3), (42, 3)], locL := [3] }
noncomputable def b_law05_SturmRoot : Code := match Go.Proofs.Tryz.f12.body with | some c => c | none => .skip
noncomputable def a_law05_SturmRoot : An := (.seq .leaf (.join [] (.seq .leaf (.cond (.seq .leaf .leaf) .leaf)) (.seq (.draw [0, 2, 1, 3, 4, 5, 6, 7, 8]) (.seq (.seq .leaf (.cond (.seq .leaf .leaf) .leaf)) (.seq .leaf .leaf)))))
theorem t_law05_SturmRoot : Entry Go.Proofs.Tryz.prog 12 e_law05_SturmRoot false :=
  entry_of (C := c_law05_SturmRoot) (fn := Go.Proofs.Tryz.f12) (c := b_law05_SturmRoot) (an := a_law05_SturmRoot) ⟨t_law05_cp, t_sturm_Root, t_ref05_One, t_ref05_Root, t_law05_awake, t_law05_small, trivial⟩ trivial Go.Proofs.Tryz.func12 rfl rfl (by decide) (fun _ => rfl) (by intro a K D; kernel_rfl)
noncomputable def A_ref05_Product : ArgT (Sl × Sl × Unit) := (ArgT.cons (Ty.leaf .sl) (ArgT.cons (Ty.leaf .sl) ArgT.nil))
noncomputable def R_ref05_Product : Ty Sl := (Ty.leaf .sl)
noncomputable def e_ref05_Product : FSem := mkE A_ref05_Product R_ref05_Product (fun a => F.ref05_Product a.1 a.2.1)
noncomputable def c_ref05_Product : Cfg := { P := Go.Proofs.Tryz.prog, n := 22, tab := [(117, e_ref02_Neg), (81, e_ref02_FromInt), (21, e_ref04_Mul)], mutL := [], rtL := [], locL := [] }
noncomputable def b_ref05_Product : Code := match Go.Proofs.Tryz.f64.body with | some c => c | none => .skip
noncomputable def a_ref05_Product : An := (.seq .leaf (.seq (.seq .leaf (.block (.loop [(1, .leaf (.sl)), (5, .leaf (.int .i64))] (.seq (.seq .leaf (.cond .leaf .leaf)) (.seq (.block .leaf) .leaf))))) (.seq .leaf .leaf)))
theorem t_ref05_Product : Entry Go.Proofs.Tryz.prog 64 e_ref05_Product false :=
  entry_of (C := c_ref05_Product) (fn := Go.Proofs.Tryz.f64) (c := b_ref05_Product) (an := a_ref05_Product) ⟨t_ref02_Neg, t_ref02_FromInt, t_ref04_Mul, trivial⟩ trivial Go.Proofs.Tryz.func64 rfl rfl (by decide) (fun _ => rfl) (by intro a K D; kernel_rfl)
noncomputable def A_integer_Norm : ArgT (TInt × Unit) := (ArgT.cons tyTInt ArgT.nil)
noncomputable def R_integer_Norm : Ty TInt := tyTInt
noncomputable def e_integer_Norm : FSem := mkE A_integer_Norm R_integer_Norm (fun a => F.integer_Norm a.1)
noncomputable def c_integer_Norm : Cfg := { P := Go.Proofs.Tryz.prog, n := 10, tab := [(139, e_integer_trim), (143, e_slices_Clone_uint32_uint32), (137, e_integer_signed)], mutL := [], rtL := [(3, 1), (5, 1)], locL := [1, 2] }
noncomputable def b_integer_Norm : Code := match Go.Proofs.Tryz.f191.body with | some c => c | none => .skip
noncomputable def a_integer_Norm : An := (.seq .leaf (.seq (.draw [0, 1, 2, 3, 4, 5, 6, 7]) .leaf))
theorem t_integer_Norm : Entry Go.Proofs.Tryz.prog 191 e_integer_Norm false :=
  entry_of (C := c_integer_Norm) (fn := Go.Proofs.Tryz.f191) (c := b_integer_Norm) (an := a_integer_Norm) ⟨t_integer_trim, t_slices_Clone_uint32_uint32, t_integer_signed, trivial⟩ trivial Go.Proofs.Tryz.func191 rfl rfl (by decide) (fun _ => rfl) (by intro a K D; kernel_rfl)
noncomputable def A_rational_Make : ArgT (TInt × TInt × Unit) := (ArgT.cons tyTInt (ArgT.cons tyTInt ArgT.nil))
noncomputable def R_rational_Make : Ty (TRat × Int) := (Ty.tup (.cons tyTRat (.cons (Ty.leaf (.int .i64)) .nil)) (fun x => (x.1, x.2, ())) (fun y => (y.1, y.2.1)) (fun _ => rfl) (fun _ => rfl))
noncomputable def e_rational_Make : FSem := mkE A_rational_Make R_rational_Make (fun a => F.rational_Make a.1 a.2.1)
noncomputable def c_rational_Make : Cfg := { P := Go.Proofs.Tryz.prog, n := 16, tab := [(191, e_integer_Norm), (165, e_rational_isZero), (130, e_rational_lowest)], mutL := [], rtL := [], locL := [2, 3, 4] }
noncomputable def b_rational_Make : Code := match Go.Proofs.Tryz.f184.body with | some c => c | none => .skip
noncomputable def a_rational_Make : An := (.seq .leaf (.seq (.draw [0, 2, 1, 3, 4, 5]) (.seq (.seq .leaf (.cond (.seq .leaf .leaf) .leaf)) (.seq .leaf .leaf))))
theorem t_rational_Make : Entry Go.Proofs.Tryz.prog 184 e_rational_Make false :=
  entry_of (C := c_rational_Make) (fn := Go.Proofs.Tryz.f184) (c := b_rational_Make) (an := a_rational_Make) ⟨t_integer_Norm, t_rational_isZero, t_rational_lowest, trivial⟩ trivial Go.Proofs.Tryz.func184 rfl rfl (by decide) (fun _ => rfl) (by intro a K D; kernel_rfl)
noncomputable def A_rational_Frac : ArgT (Int × Int × Unit) := (ArgT.cons (Ty.leaf (.int .i64)) (ArgT.cons (Ty.leaf (.int .i64)) ArgT.nil))
noncomputable def R_rational_Frac : Ty TRat := tyTRat
noncomputable def e_rational_Frac : FSem := mkE A_rational_Frac R_rational_Frac (fun a => F.rational_Frac a.1 a.2.1)
noncomputable def c_rational_Frac : Cfg := { P := Go.Proofs.Tryz.prog, n := 19, tab := [(84, e_integer_FromInt), (184, e_rational_Make), (79, e_rational_FromInt)], mutL := [], rtL := [], locL := [4, 5] }
noncomputable def b_rational_Frac : Code := match Go.Proofs.Tryz.f160.body with | some c => c | none => .skip
noncomputable def a_rational_Frac : An := (.seq .leaf (.seq .leaf (.seq (.seq .leaf (.cond (.seq .leaf .leaf) .leaf)) (.seq .leaf .leaf))))
theorem t_rational_Frac : Entry Go.Proofs.Tryz.prog 160 e_rational_Frac false :=
  entry_of (C := c_rational_Frac) (fn := Go.Proofs.Tryz.f160) (c := b_rational_Frac) (an := a_rational_Frac) ⟨t_integer_FromInt, t_rational_Make, t_rational_FromInt, trivial⟩ trivial Go.Proofs.Tryz.func160 rfl rfl (by decide) (fun _ => rfl) (by intro a K D; kernel_rfl)
noncomputable def A_sturm_middle : ArgT (TInterval × Unit) := (ArgT.cons tyTInterval ArgT.nil)
noncomputable def R_sturm_middle : Ty TRat := tyTRat
noncomputable def e_sturm_middle : FSem := mkE A_sturm_middle R_sturm_middle (fun a => F.sturm_middle a.1)
noncomputable def c_sturm_middle : Cfg := { P := Go.Proofs.Tryz.prog, n := 10, tab := [(74, e_rational_Add), (160, e_rational_Frac), (75, e_rational_Mul)], mutL := [], rtL := [(3, 1), (5, 1)], locL := [1, 2] }
noncomputable def b_sturm_middle : Code := match Go.Proofs.Tryz.f120.body with | some c => c | none => .skip
noncomputable def a_sturm_middle : An := (.seq .leaf (.seq .leaf .leaf))
theorem t_sturm_middle : Entry Go.Proofs.Tryz.prog 120 e_sturm_middle false :=
  entry_of (C := c_sturm_middle) (fn := Go.Proofs.Tryz.f120) (c := b_sturm_middle) (an := a_sturm_middle) ⟨t_rational_Add, t_rational_Frac, t_rational_Mul, trivial⟩ trivial Go.Proofs.Tryz.func120 rfl rfl (by decide) (fun _ => rfl) (by intro a K D; kernel_rfl)
noncomputable def A_sturm_isolate : ArgT (Sl × TInterval × Int × Int × Unit) := (ArgT.cons (Ty.leaf .sl) (ArgT.cons tyTInterval (ArgT.cons (Ty.leaf (.int .i64)) (ArgT.cons (Ty.leaf (.int .i64)) ArgT.nil))))
noncomputable def R_sturm_isolate : Ty Sl := (Ty.leaf .sl)
noncomputable def e_sturm_isolate : FSem := mkE A_sturm_isolate R_sturm_isolate (fun a => F.sturm_isolate a.1 a.2.1 a.2.2.1 a.2.2.2.1)
noncomputable def c_sturm_isolate (n : Nat) : Cfg := { P := Go.Proofs.Tryz.prog, n := 46, tab := [(120, e_sturm_middle), (52, e_sturm_Changes), (118, mkE A_sturm_isolate R_sturm_isolate (fun a => F.sturm_isolate_ n a.1 a.2.1 a.2.2.1 a.2.2.2.1))], mutL := [], rtL := [(28, 5), (37, 5)], locL := [5, 9] }
noncomputable def b_sturm_isolate : Code := match Go.Proofs.Tryz.f118.body with | some c => c | none => .skip
noncomputable def a_sturm_isolate : An := (.seq .leaf (.seq (.seq .leaf (.block (.seq .leaf (.cond (.seq .leaf .leaf) (.seq .leaf (.cond (.seq .leaf .leaf) .leaf)))))) (.seq .leaf (.seq .leaf (.seq .leaf (.seq .leaf (.seq .leaf .leaf)))))))
theorem u_sturm_isolate : ∃ fn, Go.Proofs.Tryz.prog.funcs[118]? = some fn ∧ fn.body.isNone = false ∧ (fn.name == "runtime.NumGoroutine") = false := ⟨_, Go.Proofs.Tryz.func118, rfl, by decide⟩
theorem v_sturm_isolate : ∀ n a K D w, Sub D w → F.sturm_isolate_ n a.1 a.2.1 a.2.2.1 a.2.2.2.1 K D → Calls Go.Proofs.Tryz.prog 118 (A_sturm_isolate.up a).toArray w (Post (fun v h => R_sturm_isolate.dn v fun r => K r h) D w)
  | 0, _, _, _, _, _, h => h.elim
  | n + 1, a, K, D, w, hs, h => body_of (C := c_sturm_isolate n) (F := fun a => F.sturm_isolate_ (n + 1) a.1 a.2.1 a.2.2.1 a.2.2.2.1) (fn := Go.Proofs.Tryz.f118) (c := b_sturm_isolate) (an := a_sturm_isolate) ⟨t_sturm_middle, t_sturm_Changes, (mkE_entry u_sturm_isolate (v_sturm_isolate n)), trivial⟩ trivial Go.Proofs.Tryz.func118 rfl rfl (fun _ => rfl) (by intro a K D; kernel_rfl) a K D w hs h
theorem t_sturm_isolate : Entry Go.Proofs.Tryz.prog 118 e_sturm_isolate false := mkE_entry u_sturm_isolate (fun a K D w hs h => h.elim fun m h => v_sturm_isolate m a K D w hs h)
noncomputable def A_sturm_Isolate : ArgT (Sl × Unit) := (ArgT.cons (Ty.leaf .sl) ArgT.nil)
noncomputable def R_sturm_Isolate : Ty Sl := (Ty.leaf .sl)
noncomputable def e_sturm_Isolate : FSem := mkE A_sturm_Isolate R_sturm_Isolate (fun a => F.sturm_Isolate a.1)
noncomputable def c_sturm_Isolate : Cfg := { P := Go.Proofs.Tryz.prog, n := 23, tab := [(107, e_sturm_Chain), (113, e_sturm_around), (52, e_sturm_Changes), (118, e_sturm_isolate)], mutL := [], rtL := [(15, 4), (19, 4)], locL := [4] }
noncomputable def b_sturm_Isolate : Code := match Go.Proofs.Tryz.f65.body with | some c => c | none => .skip
noncomputable def a_sturm_Isolate : An := (.seq .leaf (.seq .leaf (.seq (.seq .leaf (.cond (.seq .leaf .leaf) .leaf)) (.seq .leaf (.seq (.draw [0, 1, 2, 3, 4, 6, 7, 8, 5, 9, 10, 11]) .leaf)))))
theorem t_sturm_Isolate : Entry Go.Proofs.Tryz.prog 65 e_sturm_Isolate false :=
  entry_of (C := c_sturm_Isolate) (fn := Go.Proofs.Tryz.f65) (c := b_sturm_Isolate) (an := a_sturm_Isolate) ⟨t_sturm_Chain, t_sturm_around, t_sturm_Changes, t_sturm_isolate, trivial⟩ trivial Go.Proofs.Tryz.func65 rfl rfl (by decide) (fun _ => rfl) (by intro a K D; kernel_rfl)
noncomputable def A_law05_SturmKnown : ArgT (Sl × Bool × A2_TRat × Unit) := (ArgT.cons (Ty.leaf .sl) (ArgT.cons (Ty.leaf .bool) (ArgT.cons tyA2_TRat ArgT.nil)))
noncomputable def R_law05_SturmKnown : Ty Bool := (Ty.leaf .bool)
noncomputable def e_law05_SturmKnown : FSem := mkE A_law05_SturmKnown R_law05_SturmKnown (fun a => F.law05_SturmKnown a.1 a.2.1 a.2.2.1)
noncomputable def c_law05_SturmKnown : Cfg := { P := Go.Proofs.Tryz.prog, n := 111, tab := [(63, e_law05_poly), (64, e_ref05_Product), (36, e_ref02_Cmp), (57, e_sturm_Total), (54, e_sturm_Count), (65, e_sturm_Isolate), (49, e_law05_awake), (50, e_law05_small), (51, e_ref05_Short)], mutL := [], rtL := [(29, 5), (35, 5), (75, 5), (82, 5), (96, 5), (98, 5)], locL := [5, 11, 14] }
noncomputable def b_law05_SturmKnown : Code := match Go.Proofs.Tryz.f13.body with | some c => c | none => .skip
noncomputable def a_law05_SturmKnown : An := (.seq .leaf (.join [] (.seq .leaf (.cond (.seq .leaf .leaf) .leaf)) (.seq .leaf (.join [(7, .leaf (.sl))] (.seq .leaf (.cond .leaf .leaf)) (.seq .leaf (.seq .leaf (.seq (.seq .leaf (.block (.loop [(8, .leaf (.int .i64)), (9, .leaf (.int .i64)), (51, .leaf (.int .i64))] (.seq .leaf (.seq (.cond .leaf .leaf) (.join [(8, .leaf (.int .i64)), (9, .leaf (.int .i64))] (.block (.seq .leaf (.seq .leaf (.seq (.seq .leaf (.block (.loop [(12, .leaf (.bool)), (60, .leaf (.int .i64))] (.seq .leaf (.seq (.cond .leaf .leaf) (.join [(12, .leaf (.bool))] (.block (.seq .leaf .leaf)) .leaf)))))) (.seq (.seq .leaf (.cond .leaf .leaf)) (.seq .leaf (.seq .leaf (.cond .leaf .leaf)))))))) .leaf)))))) (.seq .leaf .leaf))))))))
theorem t_law05_SturmKnown : Entry Go.Proofs.Tryz.prog 13 e_law05_SturmKnown false :=
  entry_of (C := c_law05_SturmKnown) (fn := Go.Proofs.Tryz.f13) (c := b_law05_SturmKnown) (an := a_law05_SturmKnown) ⟨t_law05_poly, t_ref05_Product, t_ref02_Cmp, t_sturm_Total, t_sturm_Count, t_sturm_Isolate, t_law05_awake, t_law05_small, t_ref05_Short, trivial⟩ trivial Go.Proofs.Tryz.func13 rfl rfl (by decide) (fun _ => rfl) (by intro a K D; kernel_rfl)
end Den
end
