/-
  Part 7 of the tools and contracts from which the statement is proved.
-/
import Derived.Test.YtlddjhibbccljaaGreatPartp6
import Derived.Test.YtlddjhibbccljaaGreatProg
import Derived.Laws.Externs
set_option linter.unusedVariables false
section
/- MADE BY fbuild.py: the entries of the functions. -/
set_option maxRecDepth 100000
set_option linter.unusedVariables false
namespace Den
open Go
noncomputable def A_ref02_Div : ArgT (TRat × TRat × Unit) := (ArgT.cons tyTRat (ArgT.cons tyTRat ArgT.nil))
noncomputable def R_ref02_Div : Ty (TRat × Int) := (Ty.tup (.cons tyTRat (.cons (Ty.leaf (.int .i64)) .nil)) (fun x => (x.1, x.2, ())) (fun y => (y.1, y.2.1)) (fun _ => rfl) (fun _ => rfl))
noncomputable def e_ref02_Div : FSem := mkE A_ref02_Div R_ref02_Div (fun a => F.ref02_Div a.1 a.2.1)
noncomputable def c_ref02_Div : Cfg := { P := Go.Proofs.Tryz.prog, n := 16, tab := [(166, e_ref02_Inv), (80, e_ref02_Mul)], mutL := [], rtL := [(6, 3), (7, 3)], locL := [2, 3, 4] }
noncomputable def b_ref02_Div : Code := match Go.Proofs.Tryz.f133.body with | some c => c | none => .skip
noncomputable def a_ref02_Div : An := (.seq .leaf (.seq (.seq .leaf (.cond (.seq .leaf .leaf) .leaf)) (.seq (.draw [0, 1, 2, 3, 4, 5]) .leaf)))
theorem t_ref02_Div : Entry Go.Proofs.Tryz.prog 133 e_ref02_Div false :=
  entry_of (C := c_ref02_Div) (fn := Go.Proofs.Tryz.f133) (c := b_ref02_Div) (an := a_ref02_Div) ⟨t_ref02_Inv, t_ref02_Mul, trivial⟩ trivial Go.Proofs.Tryz.func133 rfl rfl (by decide) (fun _ => rfl) (by intro a K D; kernel_rfl)
noncomputable def A_ref04_quotient : ArgT (TRat × TRat × Unit) := (ArgT.cons tyTRat (ArgT.cons tyTRat ArgT.nil))
noncomputable def R_ref04_quotient : Ty TRat := tyTRat
noncomputable def e_ref04_quotient : FSem := mkE A_ref04_quotient R_ref04_quotient (fun a => F.ref04_quotient a.1 a.2.1)
noncomputable def c_ref04_quotient : Cfg := { P := Go.Proofs.Tryz.prog, n := 14, tab := [(133, e_ref02_Div)], mutL := [], rtL := [], locL := [2, 3, 4, 5] }
noncomputable def b_ref04_quotient : Code := match Go.Proofs.Tryz.f78.body with | some c => c | none => .skip
noncomputable def a_ref04_quotient : An := (.seq .leaf (.seq .leaf (.seq .leaf .leaf)))
theorem t_ref04_quotient : Entry Go.Proofs.Tryz.prog 78 e_ref04_quotient false :=
  entry_of (C := c_ref04_quotient) (fn := Go.Proofs.Tryz.f78) (c := b_ref04_quotient) (an := a_ref04_quotient) ⟨t_ref02_Div, trivial⟩ trivial Go.Proofs.Tryz.func78 rfl rfl (by decide) (fun _ => rfl) (by intro a K D; kernel_rfl)
noncomputable def A_ref04_DivMod : ArgT (Sl × Sl × Unit) := (ArgT.cons (Ty.leaf .sl) (ArgT.cons (Ty.leaf .sl) ArgT.nil))
noncomputable def R_ref04_DivMod : Ty (Sl × Sl) := (Ty.tup (.cons (Ty.leaf .sl) (.cons (Ty.leaf .sl) .nil)) (fun x => (x.1, x.2, ())) (fun y => (y.1, y.2.1)) (fun _ => rfl) (fun _ => rfl))
noncomputable def e_ref04_DivMod : FSem := mkE A_ref04_DivMod R_ref04_DivMod (fun a => F.ref04_DivMod a.1 a.2.1)
noncomputable def c_ref04_DivMod : Cfg := { P := Go.Proofs.Tryz.prog, n := 50, tab := [(25, e_ref04_Trim), (78, e_ref04_quotient), (76, e_ref04_Shift), (40, e_ref04_Add), (21, e_ref04_Mul), (42, e_ref04_Sub)], mutL := [], rtL := [], locL := [] }
noncomputable def b_ref04_DivMod : Code := match Go.Proofs.Tryz.f24.body with | some c => c | none => .skip
noncomputable def a_ref04_DivMod : An := (.seq .leaf (.seq .leaf (.seq .leaf (.seq .leaf (.seq (.block (.loop [(6, .leaf (.sl)), (7, .leaf (.sl))] (.seq (.seq .leaf (.cond .leaf .leaf)) (.block (.seq .leaf (.seq (.draw [0, 1, 2, 3, 4, 5, 6, 7, 8, 9, 10, 11, 14, 12, 13, 15, 16]) (.seq .leaf .leaf))))))) (.seq .leaf .leaf))))))
theorem t_ref04_DivMod : Entry Go.Proofs.Tryz.prog 24 e_ref04_DivMod false :=
  entry_of (C := c_ref04_DivMod) (fn := Go.Proofs.Tryz.f24) (c := b_ref04_DivMod) (an := a_ref04_DivMod) ⟨t_ref04_Trim, t_ref04_quotient, t_ref04_Shift, t_ref04_Add, t_ref04_Mul, t_ref04_Sub, trivial⟩ trivial Go.Proofs.Tryz.func24 rfl rfl (by decide) (fun _ => rfl) (by intro a K D; kernel_rfl)
noncomputable def A_law04_PolynomialDivMod : ArgT (Sl × Sl × Unit) := (ArgT.cons (Ty.leaf .sl) (ArgT.cons (Ty.leaf .sl) ArgT.nil))
noncomputable def R_law04_PolynomialDivMod : Ty Bool := (Ty.leaf .bool)
noncomputable def e_law04_PolynomialDivMod : FSem := mkE A_law04_PolynomialDivMod R_law04_PolynomialDivMod (fun a => F.law04_PolynomialDivMod a.1 a.2.1)
noncomputable def c_law04_PolynomialDivMod : Cfg := { P := Go.Proofs.Tryz.prog, n := 75, tab := [(15, e_law04_awake), (16, e_law04_few), (18, e_law04_own), (22, e_polynomial_DivMod), (23, e_ref04_Degree), (24, e_ref04_DivMod), (20, e_law04_good), (17, e_polynomial_Mul), (19, e_polynomial_Add), (25, e_ref04_Trim)], mutL := [], rtL := [], locL := [] }
noncomputable def b_law04_PolynomialDivMod : Code := match Go.Proofs.Tryz.f4.body with | some c => c | none => .skip
noncomputable def a_law04_PolynomialDivMod : An := (.seq .leaf (.seq (.seq .leaf (.cond (.seq .leaf .leaf) .leaf)) (.seq (.seq .leaf (.cond (.seq .leaf .leaf) .leaf)) (.seq .leaf (.seq (.seq .leaf (.cond (.seq .leaf .leaf) .leaf)) (.seq .leaf (.seq .leaf .leaf)))))))
theorem t_law04_PolynomialDivMod : Entry Go.Proofs.Tryz.prog 4 e_law04_PolynomialDivMod false :=
  entry_of (C := c_law04_PolynomialDivMod) (fn := Go.Proofs.Tryz.f4) (c := b_law04_PolynomialDivMod) (an := a_law04_PolynomialDivMod) ⟨t_law04_awake, t_law04_few, t_law04_own, t_polynomial_DivMod, t_ref04_Degree, t_ref04_DivMod, t_law04_good, t_polynomial_Mul, t_polynomial_Add, t_ref04_Trim, trivial⟩ trivial Go.Proofs.Tryz.func4 rfl rfl (by decide) (fun _ => rfl) (by intro a K D; kernel_rfl)
noncomputable def A_ref04_Derivative : ArgT (Sl × Unit) := (ArgT.cons (Ty.leaf .sl) ArgT.nil)
noncomputable def R_ref04_Derivative : Ty Sl := (Ty.leaf .sl)
noncomputable def e_ref04_Derivative : FSem := mkE A_ref04_Derivative R_ref04_Derivative (fun a => F.ref04_Derivative a.1)
noncomputable def c_ref04_Derivative : Cfg := { P := Go.Proofs.Tryz.prog, n := 23, tab := [(81, e_ref02_FromInt), (80, e_ref02_Mul), (25, e_ref04_Trim)], mutL := [], rtL := [], locL := [19] }
noncomputable def b_ref04_Derivative : Code := match Go.Proofs.Tryz.f27.body with | some c => c | none => .skip
noncomputable def a_ref04_Derivative : An := (.seq .leaf (.seq .leaf (.seq (.seq .leaf (.block (.loop [(3, .leaf (.sl)), (4, .leaf (.int .i64))] (.seq (.seq .leaf (.cond .leaf .leaf)) (.seq (.block (.draw [0, 1, 2, 3, 4, 5, 6, 7, 8, 9, 10])) .leaf))))) (.seq .leaf .leaf))))
theorem t_ref04_Derivative : Entry Go.Proofs.Tryz.prog 27 e_ref04_Derivative false :=
  entry_of (C := c_ref04_Derivative) (fn := Go.Proofs.Tryz.f27) (c := b_ref04_Derivative) (an := a_ref04_Derivative) ⟨t_ref02_FromInt, t_ref02_Mul, t_ref04_Trim, trivial⟩ trivial Go.Proofs.Tryz.func27 rfl rfl (by decide) (fun _ => rfl) (by intro a K D; kernel_rfl)
noncomputable def A_law04_PolynomialDerivative : ArgT (Sl × Sl × Unit) := (ArgT.cons (Ty.leaf .sl) (ArgT.cons (Ty.leaf .sl) ArgT.nil))
noncomputable def R_law04_PolynomialDerivative : Ty Bool := (Ty.leaf .bool)
noncomputable def e_law04_PolynomialDerivative : FSem := mkE A_law04_PolynomialDerivative R_law04_PolynomialDerivative (fun a => F.law04_PolynomialDerivative a.1 a.2.1)
noncomputable def c_law04_PolynomialDerivative : Cfg := { P := Go.Proofs.Tryz.prog, n := 44, tab := [(15, e_law04_awake), (16, e_law04_few), (18, e_law04_own), (26, e_polynomial_Derivative), (17, e_polynomial_Mul), (27, e_ref04_Derivative), (20, e_law04_good), (19, e_polynomial_Add)], mutL := [], rtL := [], locL := [] }
noncomputable def b_law04_PolynomialDerivative : Code := match Go.Proofs.Tryz.f5.body with | some c => c | none => .skip
noncomputable def a_law04_PolynomialDerivative : An := (.seq .leaf (.seq (.seq .leaf (.cond (.seq .leaf .leaf) .leaf)) (.seq (.seq .leaf (.cond (.seq .leaf .leaf) .leaf)) (.seq .leaf (.seq .leaf (.seq .leaf .leaf))))))
theorem t_law04_PolynomialDerivative : Entry Go.Proofs.Tryz.prog 5 e_law04_PolynomialDerivative false :=
  entry_of (C := c_law04_PolynomialDerivative) (fn := Go.Proofs.Tryz.f5) (c := b_law04_PolynomialDerivative) (an := a_law04_PolynomialDerivative) ⟨t_law04_awake, t_law04_few, t_law04_own, t_polynomial_Derivative, t_polynomial_Mul, t_ref04_Derivative, t_law04_good, t_polynomial_Add, trivial⟩ trivial Go.Proofs.Tryz.func5 rfl rfl (by decide) (fun _ => rfl) (by intro a K D; kernel_rfl)
noncomputable def A_ref04_Primitive : ArgT (Sl × Unit) := (ArgT.cons (Ty.leaf .sl) ArgT.nil)
noncomputable def R_ref04_Primitive : Ty Sl := (Ty.leaf .sl)
noncomputable def e_ref04_Primitive : FSem := mkE A_ref04_Primitive R_ref04_Primitive (fun a => F.ref04_Primitive a.1)
noncomputable def c_ref04_Primitive : Cfg := { P := Go.Proofs.Tryz.prog, n := 111, tab := [(25, e_ref04_Trim), (88, e_ref01_FromInt), (90, e_ref01_GCD), (89, e_ref01_DivMod), (91, e_ref01_Mul), (92, e_ref01_Sign), (93, e_ref01_Neg)], mutL := [], rtL := [], locL := [3, 5, 6, 9, 11, 12, 73] }
noncomputable def b_ref04_Primitive : Code := match Go.Proofs.Tryz.f30.body with | some c => c | none => .skip
noncomputable def a_ref04_Primitive : An := (.seq .leaf (.seq .leaf (.seq (.seq .leaf (.cond (.seq .leaf .leaf) .leaf)) (.seq .leaf (.seq (.seq .leaf (.block (.loop [(3, .box [.bool, .sl]), (4, .leaf (.int .i64))] (.seq (.seq .leaf (.cond .leaf .leaf)) (.seq (.block (.seq (.draw [0, 1, 2, 3, 4, 5, 6, 7, 8, 9, 10, 17, 18, 11, 12, 13, 14, 15, 16, 19, 20, 21]) .leaf)) .leaf))))) (.seq .leaf (.seq .leaf (.seq (.seq .leaf (.block (.loop [(8, .leaf (.sl)), (9, .box [.bool, .sl]), (10, .leaf (.int .i64))] (.seq (.seq .leaf (.cond .leaf .leaf)) (.seq (.block (.seq (.draw [0, 1, 2, 3, 4, 5, 11, 12, 6, 7, 8, 9, 10, 13, 14, 15]) (.seq (.draw [0, 1, 2, 3, 4, 5, 6, 7, 8, 9, 10]) (.draw [0, 1, 2, 3, 4, 5, 6])))) .leaf))))) (.join [(9, .box [.bool, .sl])] (.seq .leaf (.cond .leaf .leaf)) (.seq (.seq .leaf (.block (.loop [(14, .leaf (.int .i64))] (.seq (.seq .leaf (.cond .leaf .leaf)) (.seq (.block (.draw [0, 1, 2, 3, 4, 5, 6, 7, 8, 9, 10, 11, 12, 13])) .leaf))))) (.seq .leaf .leaf)))))))))))
theorem t_ref04_Primitive : Entry Go.Proofs.Tryz.prog 30 e_ref04_Primitive false :=
  entry_of (C := c_ref04_Primitive) (fn := Go.Proofs.Tryz.f30) (c := b_ref04_Primitive) (an := a_ref04_Primitive) ⟨t_ref04_Trim, t_ref01_FromInt, t_ref01_GCD, t_ref01_DivMod, t_ref01_Mul, t_ref01_Sign, t_ref01_Neg, trivial⟩ trivial Go.Proofs.Tryz.func30 rfl rfl (by decide) (fun _ => rfl) (by intro a K D; kernel_rfl)
noncomputable def A_ref04_Monic : ArgT (Sl × Unit) := (ArgT.cons (Ty.leaf .sl) ArgT.nil)
noncomputable def R_ref04_Monic : Ty Sl := (Ty.leaf .sl)
noncomputable def e_ref04_Monic : FSem := mkE A_ref04_Monic R_ref04_Monic (fun a => F.ref04_Monic a.1)
noncomputable def c_ref04_Monic : Cfg := { P := Go.Proofs.Tryz.prog, n := 19, tab := [(25, e_ref04_Trim), (81, e_ref02_FromInt), (78, e_ref04_quotient), (33, e_ref04_Scale)], mutL := [], rtL := [], locL := [] }
noncomputable def b_ref04_Monic : Code := match Go.Proofs.Tryz.f100.body with | some c => c | none => .skip
noncomputable def a_ref04_Monic : An := (.seq .leaf (.seq .leaf (.seq (.seq .leaf (.cond (.seq .leaf .leaf) .leaf)) (.seq (.draw [0, 2, 3, 4, 5, 6, 7, 1, 8, 9, 10]) .leaf))))
theorem t_ref04_Monic : Entry Go.Proofs.Tryz.prog 100 e_ref04_Monic false :=
  entry_of (C := c_ref04_Monic) (fn := Go.Proofs.Tryz.f100) (c := b_ref04_Monic) (an := a_ref04_Monic) ⟨t_ref04_Trim, t_ref02_FromInt, t_ref04_quotient, t_ref04_Scale, trivial⟩ trivial Go.Proofs.Tryz.func100 rfl rfl (by decide) (fun _ => rfl) (by intro a K D; kernel_rfl)
noncomputable def A_ref02_Neg : ArgT (TRat × Unit) := (ArgT.cons tyTRat ArgT.nil)
noncomputable def R_ref02_Neg : Ty TRat := tyTRat
noncomputable def e_ref02_Neg : FSem := mkE A_ref02_Neg R_ref02_Neg (fun a => F.ref02_Neg a.1)
noncomputable def c_ref02_Neg : Cfg := { P := Go.Proofs.Tryz.prog, n := 9, tab := [(93, e_ref01_Neg)], mutL := [], rtL := [(3, 1), (6, 1)], locL := [1, 2] }
noncomputable def b_ref02_Neg : Code := match Go.Proofs.Tryz.f117.body with | some c => c | none => .skip
noncomputable def a_ref02_Neg : An := (.seq .leaf (.seq (.draw [0, 1, 3, 4, 2, 5, 6]) .leaf))
theorem t_ref02_Neg : Entry Go.Proofs.Tryz.prog 117 e_ref02_Neg false :=
  entry_of (C := c_ref02_Neg) (fn := Go.Proofs.Tryz.f117) (c := b_ref02_Neg) (an := a_ref02_Neg) ⟨t_ref01_Neg, trivial⟩ trivial Go.Proofs.Tryz.func117 rfl rfl (by decide) (fun _ => rfl) (by intro a K D; kernel_rfl)
noncomputable def A_ref04_abs : ArgT (TRat × Unit) := (ArgT.cons tyTRat ArgT.nil)
noncomputable def R_ref04_abs : Ty TRat := tyTRat
noncomputable def e_ref04_abs : FSem := mkE A_ref04_abs R_ref04_abs (fun a => F.ref04_abs a.1)
noncomputable def c_ref04_abs : Cfg := { P := Go.Proofs.Tryz.prog, n := 9, tab := [(32, e_ref02_Sign), (117, e_ref02_Neg)], mutL := [], rtL := [], locL := [1, 2] }
noncomputable def b_ref04_abs : Code := match Go.Proofs.Tryz.f102.body with | some c => c | none => .skip
noncomputable def a_ref04_abs : An := (.seq .leaf (.seq (.seq .leaf (.cond (.seq .leaf .leaf) .leaf)) (.seq .leaf .leaf)))
theorem t_ref04_abs : Entry Go.Proofs.Tryz.prog 102 e_ref04_abs false :=
  entry_of (C := c_ref04_abs) (fn := Go.Proofs.Tryz.f102) (c := b_ref04_abs) (an := a_ref04_abs) ⟨t_ref02_Sign, t_ref02_Neg, trivial⟩ trivial Go.Proofs.Tryz.func102 rfl rfl (by decide) (fun _ => rfl) (by intro a K D; kernel_rfl)
noncomputable def A_ref04_Bound : ArgT (Sl × Unit) := (ArgT.cons (Ty.leaf .sl) ArgT.nil)
noncomputable def R_ref04_Bound : Ty TRat := tyTRat
noncomputable def e_ref04_Bound : FSem := mkE A_ref04_Bound R_ref04_Bound (fun a => F.ref04_Bound a.1)
noncomputable def c_ref04_Bound : Cfg := { P := Go.Proofs.Tryz.prog, n := 35, tab := [(100, e_ref04_Monic), (101, e_ref04_zero), (102, e_ref04_abs), (36, e_ref02_Cmp), (81, e_ref02_FromInt), (103, e_ref02_Add)], mutL := [], rtL := [], locL := [2, 3] }
noncomputable def b_ref04_Bound : Code := match Go.Proofs.Tryz.f37.body with | some c => c | none => .skip
noncomputable def a_ref04_Bound : An := (.seq .leaf (.seq .leaf (.seq (.seq .leaf (.cond (.seq .leaf .leaf) .leaf)) (.seq .leaf (.seq (.seq .leaf (.block (.loop [(3, .box [.bool, .sl, .bool, .sl]), (4, .leaf (.int .i64))] (.seq (.seq .leaf (.cond .leaf .leaf)) (.join [(3, .box [.bool, .sl, .bool, .sl])] (.block (.seq (.draw [0, 1, 2, 3, 5, 4, 6, 7]) (.cond .leaf .leaf))) .leaf))))) (.seq (.draw [0, 1, 2, 3]) .leaf))))))
theorem t_ref04_Bound : Entry Go.Proofs.Tryz.prog 37 e_ref04_Bound false :=
  entry_of (C := c_ref04_Bound) (fn := Go.Proofs.Tryz.f37) (c := b_ref04_Bound) (an := a_ref04_Bound) ⟨t_ref04_Monic, t_ref04_zero, t_ref04_abs, t_ref02_Cmp, t_ref02_FromInt, t_ref02_Add, trivial⟩ trivial Go.Proofs.Tryz.func37 rfl rfl (by decide) (fun _ => rfl) (by intro a K D; kernel_rfl)
noncomputable def A_law04_same : ArgT (Sl × Sl × Unit) := (ArgT.cons (Ty.leaf .sl) (ArgT.cons (Ty.leaf .sl) ArgT.nil))
noncomputable def R_law04_same : Ty Bool := (Ty.leaf .bool)
noncomputable def e_law04_same : FSem := mkE A_law04_same R_law04_same (fun a => F.law04_same a.1 a.2.1)
noncomputable def c_law04_same : Cfg := { P := Go.Proofs.Tryz.prog, n := 35, tab := [(94, e_ref01_Valid), (95, e_ref01_Cmp)], mutL := [], rtL := [], locL := [] }
noncomputable def b_law04_same : Code := match Go.Proofs.Tryz.f31.body with | some c => c | none => .skip
noncomputable def a_law04_same : An := (.seq .leaf (.seq (.seq .leaf (.cond (.seq .leaf .leaf) .leaf)) (.seq (.seq .leaf (.block (.loop [(13, .leaf (.int .i64))] (.seq .leaf (.seq (.cond .leaf .leaf) (.join [] (.block (.seq .leaf (.seq (.draw [0, 1, 2, 3, 4, 5, 6, 7, 8, 9, 10, 11, 12, 13, 14, 15, 16, 17]) (.cond (.seq .leaf .leaf) .leaf)))) .leaf)))))) (.seq .leaf .leaf))))
theorem t_law04_same : Entry Go.Proofs.Tryz.prog 31 e_law04_same false :=
  entry_of (C := c_law04_same) (fn := Go.Proofs.Tryz.f31) (c := b_law04_same) (an := a_law04_same) ⟨t_ref01_Valid, t_ref01_Cmp, trivial⟩ trivial Go.Proofs.Tryz.func31 rfl rfl (by decide) (fun _ => rfl) (by intro a K D; kernel_rfl)
noncomputable def A_law04_PolynomialPrimitive : ArgT (Sl × TRat × Unit) := (ArgT.cons (Ty.leaf .sl) (ArgT.cons tyTRat ArgT.nil))
noncomputable def R_law04_PolynomialPrimitive : Ty Bool := (Ty.leaf .bool)
noncomputable def e_law04_PolynomialPrimitive : FSem := mkE A_law04_PolynomialPrimitive R_law04_PolynomialPrimitive (fun a => F.law04_PolynomialPrimitive a.1 a.2.1)
noncomputable def c_law04_PolynomialPrimitive : Cfg := { P := Go.Proofs.Tryz.prog, n := 54, tab := [(15, e_law04_awake), (18, e_law04_own), (29, e_polynomial_Primitive), (30, e_ref04_Primitive), (34, e_polynomial_Bound), (35, e_ref02_Valid), (37, e_ref04_Bound), (36, e_ref02_Cmp), (31, e_law04_same), (32, e_ref02_Sign), (33, e_ref04_Scale), (16, e_law04_few), (28, e_ref04_Short)], mutL := [], rtL := [], locL := [3, 7] }
noncomputable def b_law04_PolynomialPrimitive : Code := match Go.Proofs.Tryz.f6.body with | some c => c | none => .skip
noncomputable def a_law04_PolynomialPrimitive : An := (.seq .leaf (.seq (.seq .leaf (.cond (.seq .leaf .leaf) .leaf)) (.join [] (.seq .leaf (.cond (.seq .leaf .leaf) .leaf)) (.seq .leaf (.join [] (.seq .leaf (.cond (.seq .leaf .leaf) .leaf)) (.seq .leaf (.seq (.draw [0, 1, 2, 3, 4, 5, 6, 7, 8, 9]) .leaf)))))))
theorem t_law04_PolynomialPrimitive : Entry Go.Proofs.Tryz.prog 6 e_law04_PolynomialPrimitive false :=
  entry_of (C := c_law04_PolynomialPrimitive) (fn := Go.Proofs.Tryz.f6) (c := b_law04_PolynomialPrimitive) (an := a_law04_PolynomialPrimitive) ⟨t_law04_awake, t_law04_own, t_polynomial_Primitive, t_ref04_Primitive, t_polynomial_Bound, t_ref02_Valid, t_ref04_Bound, t_ref02_Cmp, t_law04_same, t_ref02_Sign, t_ref04_Scale, t_law04_few, t_ref04_Short, trivial⟩ trivial Go.Proofs.Tryz.func6 rfl rfl (by decide) (fun _ => rfl) (by intro a K D; kernel_rfl)
noncomputable def A_polynomial_Sub : ArgT (Sl × Sl × Unit) := (ArgT.cons (Ty.leaf .sl) (ArgT.cons (Ty.leaf .sl) ArgT.nil))
noncomputable def R_polynomial_Sub : Ty Sl := (Ty.leaf .sl)
noncomputable def e_polynomial_Sub : FSem := mkE A_polynomial_Sub R_polynomial_Sub (fun a => F.polynomial_Sub a.1 a.2.1)
noncomputable def c_polynomial_Sub : Cfg := { P := Go.Proofs.Tryz.prog, n := 10, tab := [(79, e_rational_FromInt), (43, e_polynomial_Scale), (19, e_polynomial_Add)], mutL := [], rtL := [], locL := [] }
noncomputable def b_polynomial_Sub : Code := match Go.Proofs.Tryz.f41.body with | some c => c | none => .skip
noncomputable def a_polynomial_Sub : An := (.seq .leaf (.seq .leaf .leaf))
theorem t_polynomial_Sub : Entry Go.Proofs.Tryz.prog 41 e_polynomial_Sub false :=
  entry_of (C := c_polynomial_Sub) (fn := Go.Proofs.Tryz.f41) (c := b_polynomial_Sub) (an := a_polynomial_Sub) ⟨t_rational_FromInt, t_polynomial_Scale, t_polynomial_Add, trivial⟩ trivial Go.Proofs.Tryz.func41 rfl rfl (by decide) (fun _ => rfl) (by intro a K D; kernel_rfl)
noncomputable def A_law04_PolynomialAdd : ArgT (Sl × Sl × TRat × Unit) := (ArgT.cons (Ty.leaf .sl) (ArgT.cons (Ty.leaf .sl) (ArgT.cons tyTRat ArgT.nil)))
noncomputable def R_law04_PolynomialAdd : Ty Bool := (Ty.leaf .bool)
noncomputable def e_law04_PolynomialAdd : FSem := mkE A_law04_PolynomialAdd R_law04_PolynomialAdd (fun a => F.law04_PolynomialAdd a.1 a.2.1 a.2.2.1)
noncomputable def c_law04_PolynomialAdd : Cfg := { P := Go.Proofs.Tryz.prog, n := 65, tab := [(15, e_law04_awake), (18, e_law04_own), (38, e_polynomial_Trim), (25, e_ref04_Trim), (20, e_law04_good), (39, e_polynomial_Degree), (23, e_ref04_Degree), (19, e_polynomial_Add), (40, e_ref04_Add), (41, e_polynomial_Sub), (42, e_ref04_Sub), (43, e_polynomial_Scale), (33, e_ref04_Scale), (16, e_law04_few), (28, e_ref04_Short)], mutL := [], rtL := [], locL := [5] }
noncomputable def b_law04_PolynomialAdd : Code := match Go.Proofs.Tryz.f7.body with | some c => c | none => .skip
noncomputable def a_law04_PolynomialAdd : An := (.seq .leaf (.seq (.seq .leaf (.cond (.seq .leaf .leaf) .leaf)) (.join [] (.seq .leaf (.cond (.seq .leaf .leaf) .leaf)) (.seq (.draw [0, 3, 1, 2, 4, 5, 6, 7, 10, 8, 9, 11, 12, 13, 14, 15, 17, 20, 21, 16, 18, 19, 22, 23, 24, 25, 26, 28, 31, 32, 27, 29, 30, 33, 34, 35, 36, 37, 39, 41, 42, 38, 40, 43, 44, 45, 46]) .leaf))))
theorem t_law04_PolynomialAdd : Entry Go.Proofs.Tryz.prog 7 e_law04_PolynomialAdd false :=
  entry_of (C := c_law04_PolynomialAdd) (fn := Go.Proofs.Tryz.f7) (c := b_law04_PolynomialAdd) (an := a_law04_PolynomialAdd) ⟨t_law04_awake, t_law04_own, t_polynomial_Trim, t_ref04_Trim, t_law04_good, t_polynomial_Degree, t_ref04_Degree, t_polynomial_Add, t_ref04_Add, t_polynomial_Sub, t_ref04_Sub, t_polynomial_Scale, t_ref04_Scale, t_law04_few, t_ref04_Short, trivial⟩ trivial Go.Proofs.Tryz.func7 rfl rfl (by decide) (fun _ => rfl) (by intro a K D; kernel_rfl)
noncomputable def A_polynomial_Eval : ArgT (Sl × TRat × Unit) := (ArgT.cons (Ty.leaf .sl) (ArgT.cons tyTRat ArgT.nil))
noncomputable def R_polynomial_Eval : Ty TRat := tyTRat
noncomputable def e_polynomial_Eval : FSem := mkE A_polynomial_Eval R_polynomial_Eval (fun a => F.polynomial_Eval a.1 a.2.1)
noncomputable def c_polynomial_Eval : Cfg := { P := Go.Proofs.Tryz.prog, n := 19, tab := [(79, e_rational_FromInt), (106, e_slices_Backward_api_Rat_api_Rat), (75, e_rational_Mul), (74, e_rational_Add)], mutL := [], rtL := [], locL := [3, 4, 5, 7], backs := [(156, (.agg [.bool, .sl, .bool, .sl]))] }
noncomputable def b_polynomial_Eval : Code := match Go.Proofs.Tryz.f46.body with | some c => c | none => .skip
noncomputable def a_polynomial_Eval : An := (.seq .leaf (.seq .leaf (.seq (.seq .leaf (.block (.back [(5, .box [.bool, .sl, .bool, .sl])] .leaf (.block (.draw [0, 1, 3, 2, 4, 5]))))) (.seq .leaf .leaf))))
theorem t_polynomial_Eval : Entry Go.Proofs.Tryz.prog 46 e_polynomial_Eval false :=
  entry_of (C := c_polynomial_Eval) (fn := Go.Proofs.Tryz.f46) (c := b_polynomial_Eval) (an := a_polynomial_Eval) ⟨t_rational_FromInt, t_slices_Backward_api_Rat_api_Rat, t_rational_Mul, t_rational_Add, trivial⟩ ⟨bk_aggboolslboolsl, trivial⟩ Go.Proofs.Tryz.func46 rfl rfl (by decide) (fun _ => rfl) (by intro a K D; kernel_rfl)
noncomputable def A_ref04_Compose : ArgT (Sl × Sl × Unit) := (ArgT.cons (Ty.leaf .sl) (ArgT.cons (Ty.leaf .sl) ArgT.nil))
noncomputable def R_ref04_Compose : Ty Sl := (Ty.leaf .sl)
noncomputable def e_ref04_Compose : FSem := mkE A_ref04_Compose R_ref04_Compose (fun a => F.ref04_Compose a.1 a.2.1)
noncomputable def c_ref04_Compose : Cfg := { P := Go.Proofs.Tryz.prog, n := 25, tab := [(21, e_ref04_Mul), (40, e_ref04_Add), (25, e_ref04_Trim)], mutL := [], rtL := [], locL := [] }
noncomputable def b_ref04_Compose : Code := match Go.Proofs.Tryz.f47.body with | some c => c | none => .skip
noncomputable def a_ref04_Compose : An := (.seq .leaf (.seq .leaf (.seq (.seq .leaf (.block (.loop [(5, .leaf (.sl)), (6, .leaf (.int .i64))] (.seq (.seq .leaf (.cond .leaf .leaf)) (.seq (.block (.draw [0, 1, 3, 4, 5, 6, 2, 7, 8, 9])) .leaf))))) (.seq .leaf .leaf))))
theorem t_ref04_Compose : Entry Go.Proofs.Tryz.prog 47 e_ref04_Compose false :=
  entry_of (C := c_ref04_Compose) (fn := Go.Proofs.Tryz.f47) (c := b_ref04_Compose) (an := a_ref04_Compose) ⟨t_ref04_Mul, t_ref04_Add, t_ref04_Trim, trivial⟩ trivial Go.Proofs.Tryz.func47 rfl rfl (by decide) (fun _ => rfl) (by intro a K D; kernel_rfl)
noncomputable def A_ref04_Eval : ArgT (Sl × TRat × Unit) := (ArgT.cons (Ty.leaf .sl) (ArgT.cons tyTRat ArgT.nil))
noncomputable def R_ref04_Eval : Ty TRat := tyTRat
noncomputable def e_ref04_Eval : FSem := mkE A_ref04_Eval R_ref04_Eval (fun a => F.ref04_Eval a.1 a.2.1)
noncomputable def c_ref04_Eval : Cfg := { P := Go.Proofs.Tryz.prog, n := 24, tab := [(101, e_ref04_zero), (80, e_ref02_Mul), (103, e_ref02_Add)], mutL := [], rtL := [], locL := [3, 4, 5] }
noncomputable def b_ref04_Eval : Code := match Go.Proofs.Tryz.f48.body with | some c => c | none => .skip
noncomputable def a_ref04_Eval : An := (.seq .leaf (.seq .leaf (.seq (.seq .leaf (.block (.loop [(5, .box [.bool, .sl, .bool, .sl]), (6, .leaf (.int .i64))] (.seq (.seq .leaf (.cond .leaf .leaf)) (.seq (.block (.draw [0, 1, 3, 4, 5, 6, 2, 7, 8])) .leaf))))) (.seq .leaf .leaf))))
theorem t_ref04_Eval : Entry Go.Proofs.Tryz.prog 48 e_ref04_Eval false :=
  entry_of (C := c_ref04_Eval) (fn := Go.Proofs.Tryz.f48) (c := b_ref04_Eval) (an := a_ref04_Eval) ⟨t_ref04_zero, t_ref02_Mul, t_ref02_Add, trivial⟩ trivial Go.Proofs.Tryz.func48 rfl rfl (by decide) (fun _ => rfl) (by intro a K D; kernel_rfl)
noncomputable def A_law04_PolynomialEval : ArgT (Sl × Sl × TRat × Unit) := (ArgT.cons (Ty.leaf .sl) (ArgT.cons (Ty.leaf .sl) (ArgT.cons tyTRat ArgT.nil)))
noncomputable def R_law04_PolynomialEval : Ty Bool := (Ty.leaf .bool)
noncomputable def e_law04_PolynomialEval : FSem := mkE A_law04_PolynomialEval R_law04_PolynomialEval (fun a => F.law04_PolynomialEval a.1 a.2.1 a.2.2.1)
noncomputable def c_law04_PolynomialEval : Cfg := { P := Go.Proofs.Tryz.prog, n := 75, tab := [(15, e_law04_awake), (18, e_law04_own), (45, e_polynomial_Compose), (46, e_polynomial_Eval), (47, e_ref04_Compose), (20, e_law04_good), (35, e_ref02_Valid), (48, e_ref04_Eval), (36, e_ref02_Cmp), (44, e_ref04_Small), (28, e_ref04_Short)], mutL := [], rtL := [], locL := [5, 8, 9] }
noncomputable def b_law04_PolynomialEval : Code := match Go.Proofs.Tryz.f8.body with | some c => c | none => .skip
noncomputable def a_law04_PolynomialEval : An := (.seq .leaf (.seq (.seq .leaf (.cond (.seq .leaf .leaf) .leaf)) (.join [] (.seq .leaf (.cond (.seq .leaf .leaf) .leaf)) (.seq .leaf (.seq (.draw [0, 2, 4, 1, 3, 5]) (.seq (.draw [0, 2, 4, 1, 3, 5]) (.seq (.draw [0, 1, 2, 3, 4, 5, 6, 7, 8, 9, 10, 11, 12, 13, 14, 15, 16, 17, 18, 19, 20, 21, 22, 23, 24, 25, 26, 27, 28, 29, 30, 31, 33, 32, 34, 35, 36, 37]) .leaf)))))))
theorem t_law04_PolynomialEval : Entry Go.Proofs.Tryz.prog 8 e_law04_PolynomialEval false :=
  entry_of (C := c_law04_PolynomialEval) (fn := Go.Proofs.Tryz.f8) (c := b_law04_PolynomialEval) (an := a_law04_PolynomialEval) ⟨t_law04_awake, t_law04_own, t_polynomial_Compose, t_polynomial_Eval, t_ref04_Compose, t_law04_good, t_ref02_Valid, t_ref04_Eval, t_ref02_Cmp, t_ref04_Small, t_ref04_Short, trivial⟩ trivial Go.Proofs.Tryz.func8 rfl rfl (by decide) (fun _ => rfl) (by intro a K D; kernel_rfl)
noncomputable def A_sturm_Changes : ArgT (Sl × TRat × Unit) := (ArgT.cons (Ty.leaf .sl) (ArgT.cons tyTRat ArgT.nil))
noncomputable def R_sturm_Changes : Ty Int := (Ty.leaf (.int .i64))
noncomputable def e_sturm_Changes : FSem := mkE A_sturm_Changes R_sturm_Changes (fun a => F.sturm_Changes a.1 a.2.1)
noncomputable def c_sturm_Changes : Cfg := { P := Go.Proofs.Tryz.prog, n := 31, tab := [(46, e_polynomial_Eval), (96, e_rational_Sign)], mutL := [], rtL := [], locL := [3] }
noncomputable def b_sturm_Changes : Code := match Go.Proofs.Tryz.f52.body with | some c => c | none => .skip
noncomputable def a_sturm_Changes : An := (.seq .leaf (.seq .leaf (.seq (.seq .leaf (.block (.loop [(5, .leaf (.int .i64)), (6, .leaf (.int .i64)), (12, .leaf (.int .i64))] (.seq .leaf (.seq (.cond .leaf .leaf) (.join [(5, .leaf (.int .i64)), (6, .leaf (.int .i64))] (.block (.seq .leaf (.seq .leaf (.seq (.seq .leaf (.cond .leaf .leaf)) (.seq (.seq .leaf (.cond .leaf .leaf)) .leaf))))) .leaf)))))) (.seq .leaf .leaf))))
theorem t_sturm_Changes : Entry Go.Proofs.Tryz.prog 52 e_sturm_Changes false :=
  entry_of (C := c_sturm_Changes) (fn := Go.Proofs.Tryz.f52) (c := b_sturm_Changes) (an := a_sturm_Changes) ⟨t_polynomial_Eval, t_rational_Sign, trivial⟩ trivial Go.Proofs.Tryz.func52 rfl rfl (by decide) (fun _ => rfl) (by intro a K D; kernel_rfl)
noncomputable def A_ref05_Changes : ArgT (Sl × TRat × Unit) := (ArgT.cons (Ty.leaf .sl) (ArgT.cons tyTRat ArgT.nil))
noncomputable def R_ref05_Changes : Ty Int := (Ty.leaf (.int .i64))
noncomputable def e_ref05_Changes : FSem := mkE A_ref05_Changes R_ref05_Changes (fun a => F.ref05_Changes a.1 a.2.1)
noncomputable def c_ref05_Changes : Cfg := { P := Go.Proofs.Tryz.prog, n := 32, tab := [(48, e_ref04_Eval), (32, e_ref02_Sign)], mutL := [], rtL := [], locL := [3] }
noncomputable def b_ref05_Changes : Code := match Go.Proofs.Tryz.f53.body with | some c => c | none => .skip
noncomputable def a_ref05_Changes : An := (.seq .leaf (.seq .leaf (.seq (.seq .leaf (.block (.loop [(5, .leaf (.int .i64)), (6, .leaf (.int .i64)), (7, .leaf (.int .i64))] (.seq (.seq .leaf (.cond .leaf .leaf)) (.join [(5, .leaf (.int .i64)), (6, .leaf (.int .i64))] (.block (.seq (.draw [0, 1, 2, 3, 4, 5, 6, 7]) (.seq .leaf (.cond (.seq (.seq .leaf (.cond .leaf .leaf)) .leaf) .leaf)))) .leaf))))) (.seq .leaf .leaf))))
theorem t_ref05_Changes : Entry Go.Proofs.Tryz.prog 53 e_ref05_Changes false :=
  entry_of (C := c_ref05_Changes) (fn := Go.Proofs.Tryz.f53) (c := b_ref05_Changes) (an := a_ref05_Changes) ⟨t_ref04_Eval, t_ref02_Sign, trivial⟩ trivial Go.Proofs.Tryz.func53 rfl rfl (by decide) (fun _ => rfl) (by intro a K D; kernel_rfl)
noncomputable def A_law05_poly : ArgT (Sl × Unit) := (ArgT.cons (Ty.leaf .sl) ArgT.nil)
noncomputable def R_law05_poly : Ty Sl := (Ty.leaf .sl)
noncomputable def e_law05_poly : FSem := mkE A_law05_poly R_law05_poly (fun a => F.law05_poly a.1)
noncomputable def c_law05_poly : Cfg := { P := Go.Proofs.Tryz.prog, n := 19, tab := [(81, e_ref02_FromInt)], mutL := [], rtL := [], locL := [15] }
noncomputable def b_law05_poly : Code := match Go.Proofs.Tryz.f63.body with | some c => c | none => .skip
noncomputable def a_law05_poly : An := (.seq .leaf (.seq .leaf (.seq (.seq .leaf (.block (.loop [(3, .leaf (.sl)), (8, .leaf (.int .i64))] (.seq .leaf (.seq (.cond .leaf .leaf) (.seq (.block (.seq .leaf .leaf)) .leaf)))))) (.seq .leaf .leaf))))
theorem t_law05_poly : Entry Go.Proofs.Tryz.prog 63 e_law05_poly false :=
  entry_of (C := c_law05_poly) (fn := Go.Proofs.Tryz.f63) (c := b_law05_poly) (an := a_law05_poly) ⟨t_ref02_FromInt, trivial⟩ trivial Go.Proofs.Tryz.func63 rfl rfl (by decide) (fun _ => rfl) (by intro a K D; kernel_rfl)
noncomputable def A_sturm_Chain : ArgT (Sl × Unit) := (ArgT.cons (Ty.leaf .sl) ArgT.nil)
noncomputable def R_sturm_Chain : Ty Sl := (Ty.leaf .sl)
noncomputable def e_sturm_Chain : FSem := mkE A_sturm_Chain R_sturm_Chain (fun a => F.sturm_Chain a.1)
noncomputable def c_sturm_Chain : Cfg := { P := Go.Proofs.Tryz.prog, n := 42, tab := [(39, e_polynomial_Degree), (69, e_polynomial_Squarefree), (26, e_polynomial_Derivative), (22, e_polynomial_DivMod), (79, e_rational_FromInt), (43, e_polynomial_Scale)], mutL := [], rtL := [], locL := [40] }
noncomputable def b_sturm_Chain : Code := match Go.Proofs.Tryz.f107.body with | some c => c | none => .skip
noncomputable def a_sturm_Chain : An := (.seq .leaf (.seq (.seq .leaf (.cond (.seq .leaf .leaf) .leaf)) (.seq .leaf (.seq .leaf (.seq .leaf (.block (.loop [(3, .leaf (.sl)), (4, .leaf (.sl)), (5, .leaf (.sl))] (.block (.seq .leaf (.join [] (.seq .leaf (.cond (.seq .leaf .leaf) .leaf)) (.seq .leaf .leaf)))))))))))
theorem t_sturm_Chain : Entry Go.Proofs.Tryz.prog 107 e_sturm_Chain false :=
  entry_of (C := c_sturm_Chain) (fn := Go.Proofs.Tryz.f107) (c := b_sturm_Chain) (an := a_sturm_Chain) ⟨t_polynomial_Degree, t_polynomial_Squarefree, t_polynomial_Derivative, t_polynomial_DivMod, t_rational_FromInt, t_polynomial_Scale, trivial⟩ trivial Go.Proofs.Tryz.func107 rfl rfl (by decide) (fun _ => rfl) (by intro a K D; kernel_rfl)
noncomputable def A_ref05_Same : ArgT (Sl × Sl × Unit) := (ArgT.cons (Ty.leaf .sl) (ArgT.cons (Ty.leaf .sl) ArgT.nil))
noncomputable def R_ref05_Same : Ty Bool := (Ty.leaf .bool)
noncomputable def e_ref05_Same : FSem := mkE A_ref05_Same R_ref05_Same (fun a => F.ref05_Same a.1 a.2.1)
noncomputable def c_ref05_Same : Cfg := { P := Go.Proofs.Tryz.prog, n := 27, tab := [(70, e_ref04_Equal)], mutL := [], rtL := [], locL := [] }
noncomputable def b_ref05_Same : Code := match Go.Proofs.Tryz.f109.body with | some c => c | none => .skip
noncomputable def a_ref05_Same : An := (.seq .leaf (.seq (.seq .leaf (.cond (.seq .leaf .leaf) .leaf)) (.seq (.seq .leaf (.block (.loop [(5, .leaf (.int .i64))] (.seq (.seq .leaf (.cond .leaf .leaf)) (.seq (.block (.seq (.draw [0, 1, 2, 3, 4, 5, 6, 7, 8, 9]) (.cond (.seq .leaf .leaf) .leaf))) .leaf))))) (.seq .leaf .leaf))))
theorem t_ref05_Same : Entry Go.Proofs.Tryz.prog 109 e_ref05_Same false :=
  entry_of (C := c_ref05_Same) (fn := Go.Proofs.Tryz.f109) (c := b_ref05_Same) (an := a_ref05_Same) ⟨t_ref04_Equal, trivial⟩ trivial Go.Proofs.Tryz.func109 rfl rfl (by decide) (fun _ => rfl) (by intro a K D; kernel_rfl)
noncomputable def A_law05_cp : ArgT (Sl × Unit) := (ArgT.cons (Ty.leaf .sl) ArgT.nil)
noncomputable def R_law05_cp : Ty Sl := (Ty.leaf .sl)
noncomputable def e_law05_cp : FSem := mkE A_law05_cp R_law05_cp (fun a => F.law05_cp a.1)
noncomputable def c_law05_cp : Cfg := { P := Go.Proofs.Tryz.prog, n := 6, tab := [], mutL := [], rtL := [], locL := [] }
noncomputable def b_law05_cp : Code := match Go.Proofs.Tryz.f55.body with | some c => c | none => .skip
noncomputable def a_law05_cp : An := (.seq .leaf (.seq .leaf .leaf))
theorem t_law05_cp : Entry Go.Proofs.Tryz.prog 55 e_law05_cp false :=
  entry_of (C := c_law05_cp) (fn := Go.Proofs.Tryz.f55) (c := b_law05_cp) (an := a_law05_cp) trivial trivial Go.Proofs.Tryz.func55 rfl rfl (by decide) (fun _ => rfl) (by intro a K D; kernel_rfl)
noncomputable def A_sturm_between : ArgT (Sl × TRat × TRat × Unit) := (ArgT.cons (Ty.leaf .sl) (ArgT.cons tyTRat (ArgT.cons tyTRat ArgT.nil)))
noncomputable def R_sturm_between : Ty Int := (Ty.leaf (.int .i64))
noncomputable def e_sturm_between : FSem := mkE A_sturm_between R_sturm_between (fun a => F.sturm_between a.1 a.2.1 a.2.2.1)
noncomputable def c_sturm_between : Cfg := { P := Go.Proofs.Tryz.prog, n := 14, tab := [(52, e_sturm_Changes)], mutL := [], rtL := [], locL := [4, 5] }
noncomputable def b_sturm_between : Code := match Go.Proofs.Tryz.f111.body with | some c => c | none => .skip
noncomputable def a_sturm_between : An := (.seq .leaf (.seq (.draw [0, 1, 3, 4, 2, 5, 6, 7]) .leaf))
theorem t_sturm_between : Entry Go.Proofs.Tryz.prog 111 e_sturm_between false :=
  entry_of (C := c_sturm_between) (fn := Go.Proofs.Tryz.f111) (c := b_sturm_between) (an := a_sturm_between) ⟨t_sturm_Changes, trivial⟩ trivial Go.Proofs.Tryz.func111 rfl rfl (by decide) (fun _ => rfl) (by intro a K D; kernel_rfl)
noncomputable def A_sturm_Count : ArgT (Sl × TRat × TRat × Unit) := (ArgT.cons (Ty.leaf .sl) (ArgT.cons tyTRat (ArgT.cons tyTRat ArgT.nil)))
noncomputable def R_sturm_Count : Ty Int := (Ty.leaf (.int .i64))
noncomputable def e_sturm_Count : FSem := mkE A_sturm_Count R_sturm_Count (fun a => F.sturm_Count a.1 a.2.1 a.2.2.1)
noncomputable def c_sturm_Count : Cfg := { P := Go.Proofs.Tryz.prog, n := 16, tab := [(98, e_rational_Cmp), (107, e_sturm_Chain), (111, e_sturm_between)], mutL := [], rtL := [], locL := [4, 5] }
noncomputable def b_sturm_Count : Code := match Go.Proofs.Tryz.f54.body with | some c => c | none => .skip
noncomputable def a_sturm_Count : An := (.seq .leaf (.seq (.seq .leaf (.cond (.seq .leaf .leaf) .leaf)) (.seq (.draw [0, 2, 3, 1, 4, 5]) .leaf)))
theorem t_sturm_Count : Entry Go.Proofs.Tryz.prog 54 e_sturm_Count false :=
  entry_of (C := c_sturm_Count) (fn := Go.Proofs.Tryz.f54) (c := b_sturm_Count) (an := a_sturm_Count) ⟨t_rational_Cmp, t_sturm_Chain, t_sturm_between, trivial⟩ trivial Go.Proofs.Tryz.func54 rfl rfl (by decide) (fun _ => rfl) (by intro a K D; kernel_rfl)
noncomputable def A_ref04_GCD : ArgT (Sl × Sl × Unit) := (ArgT.cons (Ty.leaf .sl) (ArgT.cons (Ty.leaf .sl) ArgT.nil))
noncomputable def R_ref04_GCD : Ty Sl := (Ty.leaf .sl)
noncomputable def e_ref04_GCD : FSem := mkE A_ref04_GCD R_ref04_GCD (fun a => F.ref04_GCD a.1 a.2.1)
noncomputable def c_ref04_GCD : Cfg := { P := Go.Proofs.Tryz.prog, n := 24, tab := [(100, e_ref04_Monic), (24, e_ref04_DivMod)], mutL := [], rtL := [], locL := [] }
noncomputable def b_ref04_GCD : Code := match Go.Proofs.Tryz.f59.body with | some c => c | none => .skip
noncomputable def a_ref04_GCD : An := (.seq .leaf (.seq .leaf (.seq (.block (.loop [(0, .leaf (.sl)), (1, .leaf (.sl))] (.seq (.seq .leaf (.cond .leaf .leaf)) (.block (.seq .leaf .leaf))))) (.seq .leaf .leaf))))
theorem t_ref04_GCD : Entry Go.Proofs.Tryz.prog 59 e_ref04_GCD false :=
  entry_of (C := c_ref04_GCD) (fn := Go.Proofs.Tryz.f59) (c := b_ref04_GCD) (an := a_ref04_GCD) ⟨t_ref04_Monic, t_ref04_DivMod, trivial⟩ trivial Go.Proofs.Tryz.func59 rfl rfl (by decide) (fun _ => rfl) (by intro a K D; kernel_rfl)
noncomputable def A_ref04_Squarefree : ArgT (Sl × Unit) := (ArgT.cons (Ty.leaf .sl) ArgT.nil)
noncomputable def R_ref04_Squarefree : Ty Sl := (Ty.leaf .sl)
noncomputable def e_ref04_Squarefree : FSem := mkE A_ref04_Squarefree R_ref04_Squarefree (fun a => F.ref04_Squarefree a.1)
noncomputable def c_ref04_Squarefree : Cfg := { P := Go.Proofs.Tryz.prog, n := 22, tab := [(100, e_ref04_Monic), (27, e_ref04_Derivative), (59, e_ref04_GCD), (24, e_ref04_DivMod)], mutL := [], rtL := [], locL := [] }
noncomputable def b_ref04_Squarefree : Code := match Go.Proofs.Tryz.f157.body with | some c => c | none => .skip
noncomputable def a_ref04_Squarefree : An := (.seq .leaf (.seq .leaf (.seq (.seq .leaf (.cond (.seq .leaf .leaf) .leaf)) (.seq .leaf (.seq .leaf .leaf)))))
theorem t_ref04_Squarefree : Entry Go.Proofs.Tryz.prog 157 e_ref04_Squarefree false :=
  entry_of (C := c_ref04_Squarefree) (fn := Go.Proofs.Tryz.f157) (c := b_ref04_Squarefree) (an := a_ref04_Squarefree) ⟨t_ref04_Monic, t_ref04_Derivative, t_ref04_GCD, t_ref04_DivMod, trivial⟩ trivial Go.Proofs.Tryz.func157 rfl rfl (by decide) (fun _ => rfl) (by intro a K D; kernel_rfl)
noncomputable def A_ref05_Chain : ArgT (Sl × Unit) := (ArgT.cons (Ty.leaf .sl) ArgT.nil)
noncomputable def R_ref05_Chain : Ty Sl := (Ty.leaf .sl)
noncomputable def e_ref05_Chain : FSem := mkE A_ref05_Chain R_ref05_Chain (fun a => F.ref05_Chain a.1)
noncomputable def c_ref05_Chain : Cfg := { P := Go.Proofs.Tryz.prog, n := 35, tab := [(23, e_ref04_Degree), (157, e_ref04_Squarefree), (27, e_ref04_Derivative), (24, e_ref04_DivMod), (81, e_ref02_FromInt), (33, e_ref04_Scale)], mutL := [], rtL := [], locL := [22] }
noncomputable def b_ref05_Chain : Code := match Go.Proofs.Tryz.f112.body with | some c => c | none => .skip
noncomputable def a_ref05_Chain : An := (.seq .leaf (.seq (.seq .leaf (.cond (.seq .leaf .leaf) .leaf)) (.seq .leaf (.seq .leaf (.seq .leaf (.seq (.block (.loop [(3, .leaf (.sl)), (4, .leaf (.sl)), (5, .leaf (.sl))] (.seq (.seq .leaf (.cond .leaf .leaf)) (.block (.seq .leaf (.seq .leaf .leaf)))))) (.seq .leaf .leaf)))))))
theorem t_ref05_Chain : Entry Go.Proofs.Tryz.prog 112 e_ref05_Chain false :=
  entry_of (C := c_ref05_Chain) (fn := Go.Proofs.Tryz.f112) (c := b_ref05_Chain) (an := a_ref05_Chain) ⟨t_ref04_Degree, t_ref04_Squarefree, t_ref04_Derivative, t_ref04_DivMod, t_ref02_FromInt, t_ref04_Scale, trivial⟩ trivial Go.Proofs.Tryz.func112 rfl rfl (by decide) (fun _ => rfl) (by intro a K D; kernel_rfl)
end Den
end

section
/-
  Polynomials: primitive lists of integers (program and reference).
-/
set_option linter.unusedVariables false
namespace Den
open Go Iv Pq
/-- The cells of an integer. -/
def nc (x : TInt) : List Value := [.bool x.neg, .slice x.mag.a x.mag.len x.mag.cap]
theorem nc_len (x : TInt) : (nc x).length = 2 := rfl
theorem nc_leaf (x : TInt) : (nc x).all Value.leaf = true := rfl
def NL (h : Hp) (B : Nat) (xs : List TInt) (us : List Int) : Prop := xs.length = us.length ∧ ∀ k (h1 : k < xs.length) (h2 : k < us.length), NI h xs[k] us[k] ∧ Lt B us[k]
theorem NL.le {h h' : Hp} {B : Nat} {xs : List TInt} {us : List Int} (hq : NL h B xs us) (hl : h.le h') : NL h' B xs us := ⟨hq.1, fun k h1 h2 => ⟨(hq.2 k h1 h2).1.le hl, (hq.2 k h1 h2).2⟩⟩
theorem NL.set {h : Hp} {B : Nat} {xs : List TInt} {us : List Int} {x : TInt} {v : Int} {k : Nat} (hq : NL h B xs us) (h1 : NI h x v) (h2 : Lt B v) : NL h B (xs.set k x) (us.set k v) := by
  refine ⟨by simp [hq.1], fun j j1 j2 => ?_⟩
  rw [List.getElem_set, List.getElem_set]
  by_cases hj : k = j
  · rw [if_pos hj, if_pos hj]; exact ⟨h1, h2⟩
  · rw [if_neg hj, if_neg hj]
    exact hq.2 j (by simpa using j1) (by simpa using j2)
theorem NL.snoc {h : Hp} {B : Nat} {xs : List TInt} {us : List Int} {x : TInt} {v : Int} (hq : NL h B xs us) (h1 : NI h x v) (h2 : Lt B v) : NL h B (xs ++ [x]) (us ++ [v]) := by
  refine ⟨by simp [hq.1], fun k k1 k2 => ?_⟩
  have hl := hq.1
  rcases Nat.lt_or_ge k xs.length with h3 | h3
  · rw [List.getElem_append_left h3, List.getElem_append_left (by omega)]
    exact hq.2 k h3 (by omega)
  · have h4 : k = xs.length := by simp at k1; omega
    subst h4
    rw [List.getElem_append_right (Nat.le_refl _), List.getElem_append_right (by omega)]
    simp only [Nat.sub_self, List.getElem_cons_zero]
    have : xs.length - us.length = 0 := by omega
    simp only [this, List.getElem_cons_zero]
    exact ⟨h1, h2⟩
/-- l holds the integers us. -/
def IL (h : Hp) (B : Nat) (l : Sl) (us : List Int) : Prop := ∃ xs, Rd h 2 l (xs.flatMap nc) ∧ NL h B xs us
def OI (D h : Hp) (B : Nat) (l : Sl) (us : List Int) : Prop := ∃ xs, Own D h 2 l (xs.flatMap nc) ∧ NL D B xs us
theorem rd_int {h : Hp} {l : Sl} {xs : List TInt} {i : Int} {K : Bool → Sl → Prop} (k : Nat) (hr : Rd h 2 l (xs.flatMap nc)) (hi : i = k) (hk : k < xs.length) (H : K xs[k].neg xs[k].mag) :
    idxP l i 2 fun a => ldL .bool (a.add 0) (fun x0 => ldL .sl (a.add 1) (fun x1 => K x0 x1) h) h := by
  have hl : l.len = xs.length := by have := hr.1; rw [flat_len nc_len] at this; omega
  refine idxP_of k hr hi (by omega) (by decide) fun a ha => ?_
  have g : ∀ j v, j < 2 → (nc xs[k])[j]? = some v → h.cell (a.add j) = some v := fun j v hj hv => ha j v (by rw [flat_get nc_len hk hj]; exact hv)
  exact ⟨_, g 0 _ (by decide) rfl, _, g 1 _ (by decide) rfl, H⟩
section
variable {D h h' : Hp} {A B : Nat} {l m : Sl} {us vs : List Int} {K : Sl → Hp → Prop}
theorem IL.le (hp : IL h B l us) (hl : h.le h') : IL h' B l us := by obtain ⟨xs, h1, h2⟩ := hp; exact ⟨xs, h1.le hl, h2.le hl⟩
theorem IL.len (hp : IL h B l us) : l.len = us.length := by
  obtain ⟨xs, h1, h2⟩ := hp
  have := h1.1
  rw [flat_len nc_len, h2.1] at this; omega
theorem IL.get {i : Int} {K : Bool → Sl → Prop} (k : Nat) (hp : IL h B l us) (hi : i = k) (hk : k < us.length) (H : ∀ x : TInt, NI h x us[k] → Lt B us[k] → K x.neg x.mag) :
    idxP l i 2 fun a => ldL .bool (a.add 0) (fun x0 => ldL .sl (a.add 1) (fun x1 => K x0 x1) h) h := by
  obtain ⟨xs, h1, h2⟩ := hp
  have hk' : k < xs.length := by rw [h2.1]; exact hk
  have := h2.2 k hk' hk
  exact rd_int k h1 hi hk' (H _ this.1 this.2)
theorem OI.il (ho : OI D h B l us) : IL h B l us := by obtain ⟨xs, h1, h2⟩ := ho; exact ⟨xs, h1.rd, h2.le h1.1⟩
theorem OI.dle (ho : OI D h B l us) : D.le h := by obtain ⟨xs, h1, h2⟩ := ho; exact h1.1
theorem OI.len (ho : OI D h B l us) : l.len = us.length := ho.il.len
theorem OI.nil : OI h h B nilS [] := ⟨[], Own.nil (Hp.le_refl _), ⟨rfl, fun k h1 _ => by simp at h1⟩⟩
theorem OI.get {i : Int} {K : Bool → Sl → Prop} (k : Nat) (hp : OI D h B l us) (hi : i = k) (hk : k < us.length) (H : ∀ x : TInt, NI D x us[k] → Lt B us[k] → K x.neg x.mag) :
    idxP l i 2 fun a => ldL .bool (a.add 0) (fun x0 => ldL .sl (a.add 1) (fun x1 => K x0 x1) h) h := by
  obtain ⟨xs, h1, h2⟩ := hp
  have hk' : k < xs.length := by rw [h2.1]; exact hk
  have := h2.2 k hk' hk
  exact rd_int k h1.rd hi hk' (H _ this.1 this.2)
theorem OI.set {i : Int} {K : Hp → Prop} {x : TInt} {v : Int} (k : Nat) (hp : OI D h B l us) (hi : i = k) (hk : k < us.length) (hx : NI D x v) (bx : Lt B v) (H : ∀ h', OI D h' B l (us.set k v) → K h') :
    idxP l i 2 fun a => stP a [.bool x.neg, .slice x.mag.a x.mag.len x.mag.cap] K h := by
  obtain ⟨xs, h1, h2⟩ := hp
  exact set_own nc_len (by decide) k h1 hi (by rw [h2.1]; exact hk) (nc_leaf x) fun h' g1 g2 => H h' ⟨_, g1, h2.set hx bx⟩
theorem OI.call {α : Type} {G : (α → Hp → Prop) → Hp → Prop} {K1 K : α → Hp → Prop} (hp : OI D h B l us) (H : callP G K1 D)
    (k : ∀ v D' h', D.le D' → OI D' h' B l us → K1 v D' → K v h') : callP G K h := by
  obtain ⟨xs, h1, h2⟩ := hp
  exact h1.call H fun v D' h' g1 g2 g3 => k v D' h' g1 ⟨_, g2, h2.le g1⟩ g3
theorem OI.app {Ks : Sl → Hp → Prop} {x : TInt} {v : Int} (hp : OI D h B l us) (hlen : us.length ≤ 1000000) (hx : NI D x v) (bx : Lt B v) (H : ∀ y h', OI D h' B y (us ++ [v]) → Ks y h') :
    appP 2 32 [.bool false, .slice nilS.a nilS.len nilS.cap] l 1 [.bool x.neg, .slice x.mag.a x.mag.len x.mag.cap] Ks h := by
  have hl := hp.len
  obtain ⟨xs, h1, h2⟩ := hp
  refine app_own h1 (n := 1) (new := nc x) rfl rfl rfl (by omega) (by omega) fun y h' hy hyl => H y h' ⟨xs ++ [x], ?_, h2.snoc hx bx⟩
  rw [List.flatMap_append]
  simp only [List.flatMap_cons, List.flatMap_nil, List.append_nil]
  exact hy
end

/-! ### Plain facts -/
theorem lcmD_lt {k : Nat} : ∀ {l : List Rat} {m j : Nat}, (∀ x ∈ l, x.den < W ^ k) → m < W ^ j → lcmD m l < W ^ (j + l.length * k)
  | [], m, j, _, h => by simpa [lcmD] using h
  | x :: r, m, j, hl, h => by
    have h1 : m * (x.den / Nat.gcd m x.den) < W ^ (j + k) := by
      rw [Nat.pow_add]
      refine Nat.lt_of_le_of_lt (Nat.mul_le_mul_left _ (Nat.div_le_self _ _)) ?_
      exact Nat.mul_lt_mul'' h (hl x (by simp))
    have h2 := lcmD_lt (l := r) (m := m * (x.den / Nat.gcd m x.den)) (j := j + k) (fun y hy => hl y (by simp [hy])) h1
    have e : j + (x :: r).length * k = j + k + r.length * k := by rw [List.length_cons, Nat.add_mul]; omega
    rw [e]; exact h2
theorem take_lcm {M : List Rat} {i : Nat} (hi : i < M.length) : lcmD 1 (M.take (i + 1)) = lcmD 1 (M.take i) * (M[i].den / Nat.gcd (lcmD 1 (M.take i)) M[i].den) := by
  rw [List.take_succ_eq_append_getElem hi, lcmD_append]
theorem ups_get {L i : Nat} {M : List Rat} (hi : i < M.length) : (ups L M)[i]'(by unfold ups; simpa using hi) = M[i].num * ((L / M[i].den : Nat) : Int) := by simp [ups]
theorem ups_len {L : Nat} {M : List Rat} : (ups L M).length = M.length := by simp [ups]
theorem ndiv {a b : Nat} : ((a : Int)) / ((b : Int)) = ((a / b : Nat) : Int) := rfl
theorem gcd_zero_pos {o : List Int} {x : Int} (hx : x ∈ o) (h0 : x ≠ 0) : 0 < gcdL 0 o := by
  rcases Nat.eq_zero_or_pos (gcdL 0 o) with h1 | h1
  · have := (gcdL_dvd (l := o) (g := 0)).2 x hx
    rw [h1] at this
    exact absurd (Int.zero_dvd.1 this) h0
  · exact h1
theorem getLast_get {α : Type} {o : List α} (h : o ≠ []) : o.getLast h = o[o.length - 1]'(by have := List.length_pos_iff.2 h; omega) := List.getLast_eq_getElem h
abbrev t2 (s : Bool × Sl × Unit) : TInt := ⟨s.1, s.2.1⟩
end Den
end

section
/-
  Polynomials: the primitive multiple (program).
-/
set_option linter.unusedVariables false
namespace Den
open Go Iv Pq
def zI : TInt := ⟨false, nilS⟩
theorem repl_nc {n : Nat} : repl n (nc zI) = (List.replicate n zI).flatMap nc := by
  unfold repl
  induction n with
  | zero => rfl
  | succ n ih => rw [List.replicate_succ, List.replicate_succ, List.flatten_cons, List.flatMap_cons, ih]
/-- The numbers, the first i of them divided by d. -/
def divs (d : Int) (o : List Int) (i : Nat) : List Int := (o.take i).map (· / d) ++ o.drop i
theorem divs_len {d : Int} {o : List Int} {i : Nat} : (divs d o i).length = o.length := by unfold divs; simp; omega
theorem divs_get {d : Int} {o : List Int} {i : Nat} (hi : i < o.length) : (divs d o i)[i]'(by rw [divs_len]; exact hi) = o[i] := by
  unfold divs
  rw [List.getElem_append_right (by simp; omega)]
  simp only [List.length_map, List.length_take]
  rw [List.getElem_drop]
  congr 1
  omega
theorem divs_succ {d : Int} {o : List Int} {i : Nat} (hi : i < o.length) : (divs d o i).set i (o[i] / d) = divs d o (i + 1) := by
  unfold divs
  have hl : ((o.take i).map (· / d)).length = i := by simp; omega
  rw [List.set_append_right _ _ (by omega), hl, Nat.sub_self, List.drop_eq_getElem_cons hi, List.set_cons_zero, List.take_succ_eq_append_getElem hi, List.map_append]
  simp
theorem divs_zero {d : Int} {o : List Int} : divs d o 0 = o := by unfold divs; simp
theorem divs_all {d : Int} {o : List Int} : divs d o o.length = o.map (· / d) := by unfold divs; simp
theorem mon_last {p : List Rat} (h : trim p ≠ []) : ∃ hn : (monQ p).length - 1 < (monQ p).length, (monQ p)[(monQ p).length - 1] = 1 := by
  have hpos : 0 < (trim p).length := List.length_pos_iff.2 h
  have hl := monQ_len (p := p)
  refine ⟨by omega, ?_⟩
  rw [← co_lt (show (monQ p).length - 1 < (monQ p).length by omega), co_monQ, hl]
  show (((1 : Int) : Rat)) / lead p * lead p = 1
  rw [Rat.div_mul_cancel (lead_ne h)]; rfl
section
variable {h : Hp} {A : Nat} {l : Sl} {p : List Rat} {K : Sl → Hp → Prop}

theorem ppPrim_call (hp : PL h A l p) (hlen : p.length ≤ 100) (hA : 1 ≤ A ∧ A ≤ 1000) (H : ∀ y h' us, h.le h' → IL h' 300000 y us → us.length = (trim p).length → (trim p ≠ [] → Prim us (trim p)) → K y h') : callP (F.polynomial_Primitive l) K h := by
  refine callP_of (fun y h' => ∃ us, IL h' 300000 y us ∧ us.length = (trim p).length ∧ (trim p ≠ [] → Prim us (trim p))) (fun K' hk => ?_) fun y h' hl ⟨us, g1, g2, g3⟩ => H y h' us hl g1 g2 g3
  unfold F.polynomial_Primitive
  refine pMonic_call hp (by omega) (by omega) fun r1 h1 hl1 hr1 => ?_
  obtain ⟨M, hM⟩ : ∃ M, M = monQ p := ⟨_, rfl⟩
  have lM : M.length = (trim p).length := by rw [hM, monQ_len]
  have lM2 : M.length ≤ 100 := by rw [lM]; exact Nat.le_trans trim_len hlen
  have hlast : trim p ≠ [] → ∃ hn : M.length - 1 < M.length, M[M.length - 1] = 1 := fun hh => by rw [hM]; exact mon_last hh
  have hmul : ∀ i (h1 : i < (trim p).length) (h2 : i < M.length), (trim p)[i] = lead p * M[i] := fun i g1 g2 => by
    simp only [hM]
    by_cases h0 : trim p = []
    · rw [h0] at g1; simp at g1
    · rw [← co_lt g1, ← co_lt (show i < (monQ p).length by rw [← hM]; exact g2), co_monQ, co_trim]
      have := Rat.div_mul_cancel (a := (((1 : Int) : Rat))) (lead_ne h0)
      have e1 : lead p * ((((1 : Int) : Rat)) / lead p) = 1 := by rw [Rat.mul_comm, this]; rfl
      rw [← Rat.mul_assoc, e1, Rat.one_mul]
  rw [← hM] at hr1
  have len1 := hr1.len
  have bM := hr1.bound
  have bden : ∀ x ∈ M, x.den < W ^ (A + (1 + A)) := fun x hx => by
    have := (bM x hx).2
    unfold Lt at this
    simpa using this
  have lcb : ∀ i, Lt (1 + 100 * (A + (1 + A))) ((lcmD 1 (M.take i) : Nat) : Int) := fun i => by
    unfold Lt
    rw [Int.natAbs_natCast]
    refine Nat.lt_of_lt_of_le (lcmD_lt (k := A + (1 + A)) (j := 1) (fun x hx => bden x (List.mem_of_mem_take hx)) (by decide)) (Nat.pow_le_pow_right W_pos ?_)
    have : (M.take i).length ≤ 100 := by rw [List.length_take]; omega
    have := Nat.mul_le_mul_right (A + (1 + A)) this
    omega
  have lcp : ∀ i, 0 < lcmD 1 (M.take i) := fun i => (lcmD_spec (l := M.take i) (m := 1) (by decide)).1
  refine FromInt_call (by decide) (by decide) fun o h2 hl2 ho => ?_
  have hpl := hr1.le hl2
  refine loopP_of (fun st h' => h2.le h' ∧ ∃ i : Nat, st.2.1 = (i : Int) ∧ i ≤ M.length ∧ NI h' (t2 st.1) ((lcmD 1 (M.take i) : Nat) : Int)) (fun st => (M.length - st.2.1).toNat)
    ⟨Hp.le_refl _, 0, rfl, Nat.zero_le _, ho⟩ ?_
  rintro ⟨s, _, _⟩ h3 ⟨hl3, i, hi, hi2, hc⟩
  simp only at hi hc
  subst hi
  refine ifP_dec (fun h4 => ?_) (fun h4 => ?_)
  · simp only at h4
    have hi' : i < M.length := by omega
    refine (hpl.le hl3).get i rfl hi' fun x hx bx => ?_
    have okc : Ok ((lcmD 1 (M.take i) : Nat) : Int) := (lcb i).ok (by omega)
    have okd : Ok ((M[i].den : Nat) : Int) := bx.2.ok (by omega)
    refine GCD_call hc hx.2 okc okd fun g h5 hl5 hg => ?_
    rw [Int.natAbs_natCast, Int.natAbs_natCast] at hg
    obtain ⟨G, hG⟩ : ∃ G, G = Nat.gcd (lcmD 1 (M.take i)) M[i].den := ⟨_, rfl⟩
    rw [← hG] at hg
    have hGp : 0 < G := by rw [hG]; exact Nat.gcd_pos_of_pos_left _ (lcp i)
    have hGle : G ≤ M[i].den := by rw [hG]; exact Nat.le_of_dvd M[i].den_pos (Nat.gcd_dvd_right _ _)
    have okg : Ok ((G : Nat) : Int) := okd.le (by rw [Int.natAbs_natCast, Int.natAbs_natCast]; exact hGle)
    refine DivMod_call (hx.2.le hl5) hg okd okg (by omega) fun z w h6 q r hl6 hz hw hdm => ?_
    have eq : q = ((M[i].den / G : Nat) : Int) := by rw [hdm.div (by omega) (.inl (by omega))]; exact ndiv
    have okq : Ok q := by rw [eq]; exact okd.le (by rw [Int.natAbs_natCast, Int.natAbs_natCast]; exact Nat.div_le_self _ _)
    refine Mul_call ((hc.le hl5).le hl6) hz okc okq fun v h7 hl7 hv => ⟨⟨Hp.le_trans hl3 (Hp.le_trans hl5 (Hp.le_trans hl6 hl7)), i + 1, ?_, hi', ?_⟩, ?_⟩
    · simp only; rw [w64 (by omega)]; rfl
    · rw [take_lcm hi', ← hG]
      rw [eq, ← Int.natCast_mul] at hv
      exact hv
    · simp only; rw [w64 (by omega)]; omega
  · simp only at h4
    have hi' : i = M.length := by omega
    subst hi'
    rw [List.take_length] at hc
    obtain ⟨L, hL⟩ : ∃ L, L = lcmD 1 M := ⟨_, rfl⟩
    have hLp : 0 < L := by have := lcp M.length; rw [List.take_length] at this; rw [hL]; exact this
    have hLb : Lt (1 + 100 * (A + (1 + A))) ((L : Nat) : Int) := by have := lcb M.length; rw [List.take_length] at this; rw [hL]; exact this
    have hLd : ∀ x ∈ M, x.den ∣ L := by rw [hL]; exact (lcmD_spec (l := M) (m := 1) (by decide)).2.2
    rw [← hL] at hc
    obtain ⟨o2, ho2⟩ : ∃ o2, o2 = ups L M := ⟨_, rfl⟩
    have lo : o2.length = M.length := by rw [ho2, ups_len]
    have og : ∀ i (g : i < M.length), o2[i]'(by omega) = M[i].num * ((L / M[i].den : Nat) : Int) := fun i g => by simp only [ho2]; exact ups_get g
    have ob : ∀ x ∈ o2, Lt 300000 x := fun x hx => by
      obtain ⟨i, hi, rfl⟩ := List.mem_iff_getElem.1 hx
      have hiM : i < M.length := by omega
      rw [og i hiM]
      have b1 := (bM _ (List.getElem_mem hiM)).1
      have b2 : Lt (1 + 100 * (A + (1 + A))) ((L / M[i].den : Nat) : Int) := by
        unfold Lt at hLb ⊢
        rw [Int.natAbs_natCast] at hLb ⊢
        exact Nat.lt_of_le_of_lt (Nat.div_le_self _ _) hLb
      exact (b1.mul b2).mono (by omega)
    obtain ⟨d, hd⟩ : ∃ d, d = gcdL 0 o2 := ⟨_, rfl⟩
    have hdp : 0 < M.length → 0 < d := fun hpos => by
      have h0 : trim p ≠ [] := fun hh => by rw [hh, List.length_nil] at lM; omega
      obtain ⟨hn, e1⟩ := hlast h0
      rw [hd]
      refine gcd_zero_pos (x := o2[M.length - 1]'(by omega)) (List.getElem_mem _) ?_
      rw [og _ hn, e1]
      show (1 : Int) * ((L / 1 : Nat) : Int) ≠ 0
      rw [Nat.div_one]; omega
    have gb : ∀ i, Ok ((gcdL 0 (o2.take i) : Nat) : Int) := fun i => by
      rcases Nat.eq_zero_or_pos (gcdL 0 (o2.take i)) with h0 | h0
      · rw [h0]; unfold Ok; rw [show ((0 : Nat) : Int).natAbs = 0 from rfl, dg_zero]; decide
      · have hne : ∃ x ∈ o2.take i, x ≠ 0 := by
          by_cases hall : ∀ x ∈ o2.take i, x = 0
          · have : gcdL 0 (o2.take i) = 0 := by
              have key : ∀ (t : List Int), (∀ x ∈ t, x = 0) → gcdL 0 t = 0 := by
                intro t
                induction t with
                | nil => intro _; rfl
                | cons a t ih =>
                  intro ht
                  have ha := ht a (by simp)
                  subst ha
                  show gcdL (Nat.gcd 0 0) t = 0
                  exact ih fun x hx => ht x (by simp [hx])
              exact key _ hall
            omega
          · exact Classical.byContradiction fun hn => hall fun x hx => Classical.byContradiction fun h1 => hn ⟨x, hx, h1⟩
        obtain ⟨x, hx, hx0⟩ := hne
        have hdv := (gcdL_dvd (l := o2.take i) (g := 0)).2 x hx
        have hok : Ok x := (ob x (List.mem_of_mem_take hx)).ok (by decide)
        refine hok.le ?_
        rw [Int.natAbs_natCast]
        exact Nat.le_of_dvd (Int.natAbs_pos.2 hx0) (Int.ofNat_dvd_left.1 hdv)
    refine mk_own (size := 2) M.length M.length (by rw [len1]) (by rw [len1]) (Nat.le_refl _) (by omega) (by omega) rfl fun m h5 ml mc how => ?_
    have hzr : repl M.length [Value.bool false, .slice nilS.a nilS.len nilS.cap] = (List.replicate M.length zI).flatMap nc := repl_nc
    rw [hzr] at how
    have hpl3 := hpl.le hl3
    refine loopP_of (fun st h' => ∃ D, h3.le D ∧ ∃ i : Nat, st.2.1 = (i : Int) ∧ i ≤ M.length ∧ NI D (t2 st.1) ((gcdL 0 (o2.take i) : Nat) : Int) ∧ ∃ xs : List TInt, xs.length = M.length ∧ Own D h' 2 m (xs.flatMap nc) ∧ NL D 300000 (xs.take i) (o2.take i)) (fun st => (M.length - st.2.1).toNat)
      ⟨h3, Hp.le_refl _, 0, rfl, Nat.zero_le _, NI.zero, _, by simp, how, ⟨rfl, fun k g1 _ => by simp at g1⟩⟩ ?_
    rintro ⟨s2, _, _⟩ h6 ⟨D, hD, i, hi, hi2, hg, xs, hxs, hown, hnl⟩
    simp only at hi hg
    subst hi
    refine ifP_dec (fun h7 => ?_) (fun h7 => ?_)
    · simp only at h7
      have hi' : i < M.length := by omega
      refine hpl3.getle i (Hp.le_trans hD hown.1) rfl hi' fun x hx bx => ?_
      have okd : Ok ((M[i].den : Nat) : Int) := bx.2.ok (by omega)
      have okL : Ok ((L : Nat) : Int) := hLb.ok (by omega)
      have dpos := M[i].den_pos
      refine hown.call (K1 := fun v D' => NI D' v.1 ((L / M[i].den : Nat) : Int)) (DivMod_call (hc.le hD) (hx.2.le hD) okL okd (by omega) fun z w h8 q r hl8 hz hw hdm => by
        have eq : q = ((L / M[i].den : Nat) : Int) := by rw [hdm.div (by omega) (.inl (by omega))]; exact ndiv
        rw [eq] at hz; exact hz) fun v D1 h8 hl8 hown1 hv => ?_
      have okq : Ok ((L / M[i].den : Nat) : Int) := okL.le (by rw [Int.natAbs_natCast, Int.natAbs_natCast]; exact Nat.div_le_self _ _)
      refine hown1.call (K1 := fun v D' => NI D' v (o2[i]'(by omega))) (Mul_call ((hx.1.le hD).le hl8) hv (bx.1.ok (by omega)) okq fun z h9 _ hz => by rw [og i hi']; exact hz) fun z D2 h9 hl9 hown2 hz => ?_
      refine set_own nc_len (by decide) (x := z) i hown2 rfl (by omega) (nc_leaf z) fun h10 hown3 _ => ?_
      refine rd_int i hown3.rd rfl (by simp; omega) ?_
      have ez : (xs.set i z)[i]'(by simp; omega) = z := by simp
      rw [ez]
      have okz : Ok (o2[i]'(by omega)) := (ob _ (List.getElem_mem _)).ok (by decide)
      refine hown3.call (K1 := fun v D' => NI D' v ((gcdL 0 (o2.take (i + 1)) : Nat) : Int)) (GCD_call ((hg.le hl8).le hl9) hz (gb i) okz fun y h11 _ hy => by
        rw [Int.natAbs_natCast] at hy
        rw [List.take_succ_eq_append_getElem (show i < o2.length by omega), gcdL_append]
        exact hy) fun y D3 h11 hl11 hown4 hy => ?_
      refine ⟨⟨D3, Hp.le_trans hD (Hp.le_trans hl8 (Hp.le_trans hl9 hl11)), i + 1, ?_, hi', hy, xs.set i z, by simpa using hxs, hown4, ?_⟩, ?_⟩
      · simp only; rw [w64 (by omega)]; rfl
      · have e1 : (xs.set i z).take (i + 1) = xs.take i ++ [z] := by
          rw [List.take_succ_eq_append_getElem (by simp; omega), List.take_set_of_le (Nat.le_refl _)]
          simp
        rw [e1, List.take_succ_eq_append_getElem (show i < o2.length by omega)]
        exact NL.snoc (hnl.le (Hp.le_trans hl8 (Hp.le_trans hl9 hl11))) (hz.le hl11) (ob _ (List.getElem_mem _))
      · simp only; rw [w64 (by omega)]; omega
    · simp only at h7
      have hi' : i = M.length := by omega
      subst hi'
      rw [← lo, List.take_length, ← hd] at hg
      rw [List.take_of_length_le (by omega), List.take_of_length_le (by omega)] at hnl
      have hoi : OI D h6 300000 m (divs (d : Int) o2 0) := by rw [divs_zero]; exact ⟨xs, hown, hnl⟩
      refine loopP_of (fun st h' => ∃ D', D.le D' ∧ ∃ i : Nat, st.1 = (i : Int) ∧ i ≤ M.length ∧ OI D' h' 300000 m (divs (d : Int) o2 i)) (fun st => (M.length - st.1).toNat) ⟨D, Hp.le_refl _, 0, rfl, Nat.zero_le _, hoi⟩ ?_
      rintro ⟨_, _⟩ h8 ⟨D', hD', i, hi, hi2, hoi2⟩
      simp only at hi
      subst hi
      refine ifP_dec (fun h9 => ?_) (fun h9 => ?_)
      · simp only [ml] at h9
        have hi' : i < M.length := by omega
        have hio : i < o2.length := by omega
        refine hoi2.get i rfl (by rw [divs_len]; omega) fun x hx bx => ?_
        rw [divs_get hio] at hx bx
        have hdpos := hdp (by omega)
        have okd : Ok ((d : Nat) : Int) := by have := gb o2.length; rw [List.take_length, ← hd] at this; exact this
        have ddvd : ((d : Nat) : Int) ∣ o2[i] := by rw [hd]; exact (gcdL_dvd (l := o2) (g := 0)).2 _ (List.getElem_mem _)
        refine hoi2.call (K1 := fun v D'' => NI D'' v.1 (o2[i] / (d : Int))) (DivMod_call hx (hg.le hD') (bx.ok (by decide)) okd (by omega) fun z w h10 q r _ hz _ hdm => by
          rw [hdm.div (by omega) (.inl (by omega))] at hz; exact hz) fun v D2 h10 hl10 hoi3 hv => ?_
        have bq : Lt 300000 (o2[i] / (d : Int)) := by
          unfold Lt at bx ⊢
          exact Nat.lt_of_le_of_lt (Int.natAbs_ediv_le_natAbs _ _) bx
        refine hoi3.set i rfl (by rw [divs_len]; omega) hv bq fun h11 hoi4 => ⟨⟨D2, Hp.le_trans hD' hl10, i + 1, ?_, hi', ?_⟩, ?_⟩
        · simp only; rw [w64 (by omega)]; rfl
        · rw [divs_succ hio] at hoi4; exact hoi4
        · simp only; rw [w64 (by omega)]; omega
      · simp only [ml] at h9
        have hi' : i = o2.length := by omega
        subst hi'
        rw [divs_all] at hoi2
        refine hk _ _ (Hp.le_trans hl1 (Hp.le_trans hl2 (Hp.le_trans hl3 (Hp.le_trans hD (Hp.le_trans hD' hoi2.dle))))) ⟨_, hoi2.il, by simp; omega, fun h0 => ?_⟩
        obtain ⟨hn, e1⟩ := hlast h0
        have hM0 : M ≠ [] := List.length_pos_iff.1 (by omega)
        have hpr : Prim (o2.map (· / (d : Int))) M := by
          refine prim_of hM0 hLp lo (fun i g1 g2 => ?_) (by rw [Int.natAbs_natCast]; exact hd) fun h1 => ?_
          · rw [og i g2]; exact ups_val (hLd _ (List.getElem_mem g2))
          · rw [getLast_get]
            have e2 : o2[o2.length - 1]'(by omega) = ((L : Nat) : Int) := by
              have := og (M.length - 1) hn
              rw [e1] at this
              have e3 : o2[o2.length - 1]'(by omega) = o2[M.length - 1]'(by omega) := by congr 1; omega
              rw [e3, this]
              show (1 : Int) * ((L / 1 : Nat) : Int) = _
              rw [Nat.div_one, Int.one_mul]
            rw [e2]
            have := hdp (by omega)
            exact Int.mul_pos (by omega) (by omega)
        exact hpr.scale (lead_ne h0) (by omega) hmul
end
end Den
end

section
/-
  Polynomials: the primitive multiple (reference), comparison of lists of integers.
-/
set_option linter.unusedVariables false
namespace Den
open Go Iv Pq
section
variable {h h0 : Hp} {A B : Nat} {l m : Sl} {p : List Rat} {K : Sl → Hp → Prop} {Kb : Bool → Hp → Prop} {us vs : List Int}
theorem PL.getden {i : Int} {K : Bool → Sl → Prop} (k : Nat) (hp : PL h0 B l p) (hl : h0.le h) (hi : i = k) (hk : k < p.length) (H : ∀ x : TInt, NI h0 x ((p[k].den : Nat) : Int) → Lt B ((p[k].den : Nat) : Int) → K x.neg x.mag) :
    idxP l i 4 fun a => ldL .bool ((a.add 2).add 0) (fun x0 => ldL .sl ((a.add 2).add 1) (fun x1 => K x0 x1) h) h := by
  obtain ⟨xs, h1, h2, h3⟩ := hp
  have hk' : k < xs.length := by rw [h2.1]; exact hk
  have hq := h2.2 k hk' hk
  refine idxP_of k (h1.le hl) hi (by rw [RdQ.len h1]; exact hk') (by decide) fun a ha => ?_
  have g : ∀ j v, j < 4 → (qc xs[k])[j]? = some v → h.cell (a.add j) = some v := fun j v hj hv => ha j v (by rw [flat_get qc_len hk' hj]; exact hv)
  refine ⟨xs[k].den.neg, ?_, xs[k].den.mag, ?_, H _ hq.1.2 hq.2.2⟩
  · rw [addr_add_add]; exact g 2 _ (by decide) rfl
  · rw [addr_add_add]; exact g 3 _ (by decide) rfl
theorem PL.getnum {i : Int} {K : Bool → Sl → Prop} (k : Nat) (hp : PL h0 B l p) (hl : h0.le h) (hi : i = k) (hk : k < p.length) (H : ∀ x : TInt, NI h0 x p[k].num → Lt B p[k].num → K x.neg x.mag) :
    idxP l i 4 fun a => ldL .bool ((a.add 0).add 0) (fun x0 => ldL .sl ((a.add 0).add 1) (fun x1 => K x0 x1) h) h := by
  obtain ⟨xs, h1, h2, h3⟩ := hp
  have hk' : k < xs.length := by rw [h2.1]; exact hk
  have hq := h2.2 k hk' hk
  refine idxP_of k (h1.le hl) hi (by rw [RdQ.len h1]; exact hk') (by decide) fun a ha => ?_
  have g : ∀ j v, j < 4 → (qc xs[k])[j]? = some v → h.cell (a.add j) = some v := fun j v hj hv => ha j v (by rw [flat_get qc_len hk' hj]; exact hv)
  refine ⟨xs[k].num.neg, ?_, xs[k].num.mag, ?_, H _ hq.1.1 hq.2.1⟩
  · rw [addr_add_add]; exact g 0 _ (by decide) rfl
  · rw [addr_add_add]; exact g 1 _ (by decide) rfl

theorem rpPrim_call (hp : PL h A l p) (hlen : p.length ≤ 100) (hA : 1 ≤ A ∧ A ≤ 1000) (H : ∀ y h' us, h.le h' → IL h' 300000 y us → us.length = (trim p).length → (trim p ≠ [] → Prim us (trim p)) → K y h') : callP (F.ref04_Primitive l) K h := by
  refine callP_of (fun y h' => ∃ us, IL h' 300000 y us ∧ us.length = (trim p).length ∧ (trim p ≠ [] → Prim us (trim p))) (fun K' hk => ?_) fun y h' hl ⟨us, g1, g2, g3⟩ => H y h' us hl g1 g2 g3
  unfold F.ref04_Primitive
  refine rTrim_call hp (by omega) (by omega) fun r1 h1 hr1 => ?_
  have hl1 := hr1.hle
  have hr1 := hr1.pl
  obtain ⟨M, hM⟩ : ∃ M, M = trim p := ⟨_, rfl⟩
  have lM2 : M.length ≤ 100 := by rw [hM]; exact Nat.le_trans trim_len hlen
  rw [← hM] at hr1 hk
  have len1 := hr1.len
  have bM := hr1.bound
  refine ifP_eq (fun h2 => ?_) (fun h2 => ?_)
  · have h0 : M = [] := List.eq_nil_of_length_eq_zero (by omega)
    exact hk _ _ hl1 ⟨[], ⟨[], Rd.nil, ⟨rfl, fun k g1 _ => by simp at g1⟩⟩, by rw [h0]; rfl, fun hh => absurd h0 hh⟩
  have hM0 : M ≠ [] := fun hh => by rw [hh, List.length_nil] at len1; exact h2 (by rw [len1]; rfl)
  have hpos : 0 < M.length := List.length_pos_iff.2 hM0
  have hlast : M[M.length - 1]'(by omega) ≠ 0 := by
    have h3 := nf_top (nf_trim (p := p)) (by rw [← hM]; exact hM0)
    rw [← hM, co_lt (by omega)] at h3
    exact h3
  have bden : ∀ x ∈ M, x.den < W ^ A := fun x hx => by
    have := (bM x hx).2
    unfold Lt at this
    simpa using this
  have lcb : ∀ i, Lt (1 + 100 * A) ((lcmD 1 (M.take i) : Nat) : Int) := fun i => by
    unfold Lt
    rw [Int.natAbs_natCast]
    refine Nat.lt_of_lt_of_le (lcmD_lt (k := A) (j := 1) (fun x hx => bden x (List.mem_of_mem_take hx)) (by decide)) (Nat.pow_le_pow_right W_pos ?_)
    have : (M.take i).length ≤ 100 := by rw [List.length_take]; omega
    have := Nat.mul_le_mul_right A this
    omega
  have lcp : ∀ i, 0 < lcmD 1 (M.take i) := fun i => (lcmD_spec (l := M.take i) (m := 1) (by decide)).1
  refine rFromInt_call (by decide) (by decide) fun o h2 hl2 ho => ?_
  have hpl := hr1.le hl2
  refine loopP_of (fun st h' => h2.le h' ∧ ∃ i : Nat, st.2.1 = (i : Int) ∧ i ≤ M.length ∧ NI h' (t2 st.1) ((lcmD 1 (M.take i) : Nat) : Int)) (fun st => (M.length - st.2.1).toNat)
    ⟨Hp.le_refl _, 0, rfl, Nat.zero_le _, ho⟩ ?_
  rintro ⟨s, _, _⟩ h3 ⟨hl3, i, hi, hi2, hc⟩
  simp only at hi hc
  subst hi
  refine ifP_dec (fun h4 => ?_) (fun h4 => ?_)
  · simp only at h4
    have hi' : i < M.length := by omega
    refine hpl.getden i hl3 rfl hi' fun x hx bx => hpl.getden i hl3 rfl hi' fun x2 hx2 _ => ?_
    have okc : Ok ((lcmD 1 (M.take i) : Nat) : Int) := (lcb i).ok (by omega)
    have okd : Ok ((M[i].den : Nat) : Int) := bx.ok (by omega)
    refine rGCD_call hc (hx2.le hl3) okc okd fun g h5 hl5 hg => ?_
    rw [Int.natAbs_natCast, Int.natAbs_natCast] at hg
    obtain ⟨G, hG⟩ : ∃ G, G = Nat.gcd (lcmD 1 (M.take i)) M[i].den := ⟨_, rfl⟩
    rw [← hG] at hg
    have hGp : 0 < G := by rw [hG]; exact Nat.gcd_pos_of_pos_left _ (lcp i)
    have hGle : G ≤ M[i].den := by rw [hG]; exact Nat.le_of_dvd M[i].den_pos (Nat.gcd_dvd_right _ _)
    have okg : Ok ((G : Nat) : Int) := okd.le (by rw [Int.natAbs_natCast, Int.natAbs_natCast]; exact hGle)
    refine rDivMod_call ((hx.le hl3).le hl5) hg okd okg (by omega) fun z w h6 q r hl6 hz hw hdm => ?_
    have eq : q = ((M[i].den / G : Nat) : Int) := by rw [hdm.div (by omega) (.inl (by omega))]; exact ndiv
    have okq : Ok q := by rw [eq]; exact okd.le (by rw [Int.natAbs_natCast, Int.natAbs_natCast]; exact Nat.div_le_self _ _)
    refine rMul_call ((hc.le hl5).le hl6) hz okc okq fun v h7 hl7 hv => ⟨⟨Hp.le_trans hl3 (Hp.le_trans hl5 (Hp.le_trans hl6 hl7)), i + 1, ?_, hi', ?_⟩, ?_⟩
    · simp only; rw [w64 (by omega)]; rfl
    · rw [take_lcm hi', ← hG]
      rw [eq, ← Int.natCast_mul] at hv
      exact hv
    · simp only; rw [w64 (by omega)]; omega
  · simp only at h4
    have hi' : i = M.length := by omega
    subst hi'
    rw [List.take_length] at hc
    obtain ⟨L, hL⟩ : ∃ L, L = lcmD 1 M := ⟨_, rfl⟩
    have hLp : 0 < L := by have := lcp M.length; rw [List.take_length] at this; rw [hL]; exact this
    have hLb : Lt (1 + 100 * A) ((L : Nat) : Int) := by have := lcb M.length; rw [List.take_length] at this; rw [hL]; exact this
    have hLd : ∀ x ∈ M, x.den ∣ L := by rw [hL]; exact (lcmD_spec (l := M) (m := 1) (by decide)).2.2
    rw [← hL] at hc
    obtain ⟨o2, ho2⟩ : ∃ o2, o2 = ups L M := ⟨_, rfl⟩
    have lo : o2.length = M.length := by rw [ho2, ups_len]
    have og : ∀ i (g : i < M.length), o2[i]'(by omega) = M[i].num * ((L / M[i].den : Nat) : Int) := fun i g => by simp only [ho2]; exact ups_get g
    have ob : ∀ x ∈ o2, Lt 300000 x := fun x hx => by
      obtain ⟨i, hi, rfl⟩ := List.mem_iff_getElem.1 hx
      have hiM : i < M.length := by omega
      rw [og i hiM]
      have b1 := (bM _ (List.getElem_mem hiM)).1
      have b2 : Lt (1 + 100 * A) ((L / M[i].den : Nat) : Int) := by
        unfold Lt at hLb ⊢
        rw [Int.natAbs_natCast] at hLb ⊢
        exact Nat.lt_of_le_of_lt (Nat.div_le_self _ _) hLb
      exact (b1.mul b2).mono (by omega)
    have olast : o2[o2.length - 1]'(by omega) ≠ 0 := fun hh => by
      have e3 : o2[o2.length - 1]'(by omega) = o2[M.length - 1]'(by omega) := by congr 1; omega
      rw [e3, og _ (by omega)] at hh
      have hL2 : 0 < L / (M[M.length - 1]'(by omega)).den := Nat.div_pos (Nat.le_of_dvd hLp (hLd _ (List.getElem_mem _))) (M[M.length - 1]'(by omega)).den_pos
      rcases Int.mul_eq_zero.1 hh with h8 | h8
      · exact hlast (Rat.num_eq_zero.1 h8)
      · omega
    obtain ⟨d, hd⟩ : ∃ d, d = gcdL 0 o2 := ⟨_, rfl⟩
    have hdp : 0 < d := by rw [hd]; exact gcd_zero_pos (List.getElem_mem (by omega)) olast
    have gb : ∀ i, Ok ((gcdL 0 (o2.take i) : Nat) : Int) := fun i => by
      rcases Nat.eq_zero_or_pos (gcdL 0 (o2.take i)) with h0 | h0
      · rw [h0]; unfold Ok; rw [show ((0 : Nat) : Int).natAbs = 0 from rfl, dg_zero]; decide
      · have hne : ∃ x ∈ o2.take i, x ≠ 0 := by
          by_cases hall : ∀ x ∈ o2.take i, x = 0
          · have : gcdL 0 (o2.take i) = 0 := by
              have key : ∀ (t : List Int), (∀ x ∈ t, x = 0) → gcdL 0 t = 0 := by
                intro t
                induction t with
                | nil => intro _; rfl
                | cons a t ih =>
                  intro ht
                  have ha := ht a (by simp)
                  subst ha
                  show gcdL (Nat.gcd 0 0) t = 0
                  exact ih fun x hx => ht x (by simp [hx])
              exact key _ hall
            omega
          · exact Classical.byContradiction fun hn => hall fun x hx => Classical.byContradiction fun h1 => hn ⟨x, hx, h1⟩
        obtain ⟨x, hx, hx0⟩ := hne
        have hdv := (gcdL_dvd (l := o2.take i) (g := 0)).2 x hx
        have hok : Ok x := (ob x (List.mem_of_mem_take hx)).ok (by decide)
        refine hok.le ?_
        rw [Int.natAbs_natCast]
        exact Nat.le_of_dvd (Int.natAbs_pos.2 hx0) (Int.ofNat_dvd_left.1 hdv)
    refine rFromInt_call (by decide) (by decide) fun g0 h5 hl5 hg0 => ?_
    have hpl3 := hpl.le (Hp.le_trans hl3 hl5)
    have hc5 := hc.le hl5
    refine loopP_of (fun st h' => ∃ D, h5.le D ∧ ∃ i : Nat, st.2.2.1 = (i : Int) ∧ i ≤ M.length ∧ NI D (t2 st.2.1) ((gcdL 0 (o2.take i) : Nat) : Int) ∧ OI D h' 300000 st.1 (o2.take i)) (fun st => (M.length - st.2.2.1).toNat)
      ⟨h5, Hp.le_refl _, 0, rfl, Nat.zero_le _, hg0, OI.nil⟩ ?_
    rintro ⟨s1, s2, _, _⟩ h6 ⟨D, hD, i, hi, hi2, hg, hoi⟩
    simp only at hi hg hoi
    subst hi
    refine ifP_dec (fun h7 => ?_) (fun h7 => ?_)
    · simp only at h7
      have hi' : i < M.length := by omega
      have hio : i < o2.length := by omega
      refine hpl3.getden i (Hp.le_trans hD hoi.dle) rfl hi' fun x hx bx => ?_
      have okd : Ok ((M[i].den : Nat) : Int) := bx.ok (by omega)
      have okL : Ok ((L : Nat) : Int) := hLb.ok (by omega)
      have dpos := M[i].den_pos
      refine hoi.call (K1 := fun v D' => NI D' v.1 ((L / M[i].den : Nat) : Int)) (rDivMod_call (hc5.le hD) (hx.le hD) okL okd (by omega) fun z w h8 q r hl8 hz hw hdm => by
        have eq : q = ((L / M[i].den : Nat) : Int) := by rw [hdm.div (by omega) (.inl (by omega))]; exact ndiv
        rw [eq] at hz; exact hz) fun v D1 h8 hl8 hoi1 hv => ?_
      have okq : Ok ((L / M[i].den : Nat) : Int) := okL.le (by rw [Int.natAbs_natCast, Int.natAbs_natCast]; exact Nat.div_le_self _ _)
      refine hpl3.getnum i (Hp.le_trans hD (Hp.le_trans hl8 hoi1.dle)) rfl hi' fun x2 hx2 bx2 => ?_
      refine hoi1.call (K1 := fun v D' => NI D' v o2[i]) (rMul_call ((hx2.le hD).le hl8) hv (bx2.ok (by omega)) okq fun z h9 _ hz => by rw [og i hi']; exact hz) fun z D2 h9 hl9 hoi2 hz => ?_
      refine hoi2.app (by simp; omega) hz (ob _ (List.getElem_mem hio)) fun w h10 hoi3 => ?_
      rw [← List.take_succ_eq_append_getElem hio] at hoi3
      refine hoi3.get i rfl (by simp; omega) fun y hy _ => ?_
      have ey : (o2.take (i + 1))[i]'(by simp; omega) = o2[i] := by simp
      rw [ey] at hy
      have okz : Ok o2[i] := (ob _ (List.getElem_mem hio)).ok (by decide)
      refine hoi3.call (K1 := fun v D' => NI D' v ((gcdL 0 (o2.take (i + 1)) : Nat) : Int)) (rGCD_call ((hg.le hl8).le hl9) hy (gb i) okz fun y h11 _ hy => by
        rw [Int.natAbs_natCast] at hy
        rw [List.take_succ_eq_append_getElem hio, gcdL_append]
        exact hy) fun y D3 h11 hl11 hoi4 hy2 => ?_
      refine ⟨⟨D3, Hp.le_trans hD (Hp.le_trans hl8 (Hp.le_trans hl9 hl11)), i + 1, ?_, hi', hy2, hoi4⟩, ?_⟩
      · simp only; rw [w64 (by omega)]; rfl
      · simp only; rw [w64 (by omega)]; omega
    · simp only at h7
      have hi' : i = M.length := by omega
      subst hi'
      rw [← lo, List.take_length, ← hd] at hg
      rw [← lo, List.take_length] at hoi
      have lens := hoi.len
      have okd : Ok ((d : Nat) : Int) := by have := gb o2.length; rw [List.take_length, ← hd] at this; exact this
      refine joinP_inv (fun s25 h' => ∃ D', D.le D' ∧ OI D' h' 300000 s1 o2 ∧ ∃ e : Int, NI D' (t2 s25.1) e ∧ e.natAbs = d ∧ 0 < o2[o2.length - 1]'(by omega) * e) ?_ ?_
      · rintro ⟨s25, _⟩ h8 ⟨D', hD', hoi1, e, he, hed, hsg⟩
        simp only at he
        have he0 : e ≠ 0 := fun hh => by rw [hh] at hed; simp at hed; omega
        have oke : Ok e := okd.le (by rw [hed, Int.natAbs_natCast]; exact Nat.le_refl _)
        have hoi0 : OI D' h8 300000 s1 (divs e o2 0) := by rw [divs_zero]; exact hoi1
        refine loopP_of (fun st h' => ∃ D2, D'.le D2 ∧ ∃ i : Nat, st.1 = (i : Int) ∧ i ≤ o2.length ∧ OI D2 h' 300000 s1 (divs e o2 i)) (fun st => (o2.length - st.1).toNat) ⟨D', Hp.le_refl _, 0, rfl, Nat.zero_le _, hoi0⟩ ?_
        rintro ⟨_, _⟩ h9 ⟨D2, hD2, i, hi, hi2, hoi2⟩
        simp only at hi
        subst hi
        refine ifP_dec (fun h10 => ?_) (fun h10 => ?_)
        · simp only [lens] at h10
          have hio : i < o2.length := by omega
          refine hoi2.get i rfl (by rw [divs_len]; omega) fun x hx bx => ?_
          rw [divs_get hio] at hx bx
          have ddvd : e ∣ o2[i] := by
            have := (gcdL_dvd (l := o2) (g := 0)).2 _ (List.getElem_mem hio)
            rw [← hd, ← hed] at this
            exact Int.natAbs_dvd.1 this
          refine hoi2.call (K1 := fun v D'' => NI D'' v.1 (o2[i] / e)) (rDivMod_call hx (he.le hD2) (bx.ok (by decide)) oke he0 fun z w h10 q r _ hz _ hdm => by
            rw [hdm.div he0 (.inr ddvd)] at hz; exact hz) fun v D3 h10 hl10 hoi3 hv => ?_
          have bq : Lt 300000 (o2[i] / e) := by
            unfold Lt at bx ⊢
            exact Nat.lt_of_le_of_lt (Int.natAbs_ediv_le_natAbs _ _) bx
          refine hoi3.set i rfl (by rw [divs_len]; omega) hv bq fun h11 hoi4 => ⟨⟨D3, Hp.le_trans hD2 hl10, i + 1, ?_, hio, ?_⟩, ?_⟩
          · simp only; rw [w64 (by omega)]; rfl
          · rw [divs_succ hio] at hoi4; exact hoi4
          · simp only; rw [w64 (by omega)]; omega
        · simp only [lens] at h10
          have hi' : i = o2.length := by omega
          subst hi'
          rw [divs_all] at hoi2
          refine hk _ _ (Hp.le_trans hl1 (Hp.le_trans hl2 (Hp.le_trans hl3 (Hp.le_trans hl5 (Hp.le_trans hD (Hp.le_trans hD' (Hp.le_trans hD2 hoi2.dle))))))) ⟨_, hoi2.il, by simp; omega, fun _ => ?_⟩
          refine prim_of hM0 hLp lo (fun i g1 g2 => ?_) (by rw [hed]; exact hd) fun h1 => ?_
          · rw [og i g2]; exact ups_val (hLd _ (List.getElem_mem g2))
          · rw [getLast_get]; exact hsg
      · have e3 : IntKind.i64.wrap ((s1.len : Int) - 1) = ((o2.length - 1 : Nat) : Int) := by rw [lens, w64 (by omega)]; omega
        refine hoi.get (o2.length - 1) e3 (by omega) fun x hx bx => ?_
        refine rSign_call (hx.le hoi.dle) (bx.ok (by decide)) ?_
        refine ifP_dec (fun h8 => ?_) (fun h8 => ?_)
        · have hneg : o2[o2.length - 1]'(by omega) < 0 := Int.sign_neg_iff.1 h8
          refine hoi.call (K1 := fun v D' => NI D' v (-((d : Nat) : Int))) (rNeg_call hg okd fun y hy => hy) fun y D1 h9 hl9 hoi1 hy => ⟨D1, hl9, hoi1, -((d : Nat) : Int), hy, by rw [Int.natAbs_neg, Int.natAbs_natCast], ?_⟩
          have : 0 < (-(o2[o2.length - 1]'(by omega))) * ((d : Nat) : Int) := Int.mul_pos (by omega) (by omega)
          rw [Int.mul_neg, ← Int.neg_mul]; exact this
        · have hposl : 0 < o2[o2.length - 1]'(by omega) := by
            have : ¬ o2[o2.length - 1]'(by omega) < 0 := fun hh => h8 (Int.sign_neg_iff.2 hh)
            omega
          exact ⟨D, Hp.le_refl _, hoi, ((d : Nat) : Int), hg, Int.natAbs_natCast _, Int.mul_pos hposl (by omega)⟩

theorem same4_call (hp : IL h 300000 l us) (hq : IL h 300000 m us) (hlen : us.length ≤ 100000) (H : ∀ h', h.le h' → Kb true h') : callP (F.law04_same l m) Kb h := by
  refine callP_of (fun b h' => b = true) (fun K' hk => ?_) fun b h' hl hb => by subst hb; exact H h' hl
  unfold F.law04_same
  have hl := hp.len
  have hl2 := hq.len
  refine ifP_ne (fun h1 => absurd (by rw [hl, hl2]) h1) (fun _ => ?_)
  refine loopP_of (fun st h' => h.le h' ∧ ∃ i : Nat, st.1 = (i : Int) ∧ i ≤ us.length) (fun st => (us.length - st.1).toNat) ⟨Hp.le_refl _, 0, rfl, Nat.zero_le _⟩ ?_
  rintro ⟨_, _⟩ h2 ⟨hl2', i, hi, hi2⟩
  simp only at hi
  subst hi
  refine ifP_dec (fun h3 => ?_) (fun h3 => hk _ _ hl2' rfl)
  simp only at h3
  have hi' : i < us.length := by omega
  refine joinP_inv (fun _ h' => h2.le h') ?_ ?_
  · rintro _ h4 hl4
    refine ⟨⟨Hp.le_trans hl2' hl4, i + 1, ?_, hi'⟩, ?_⟩
    · simp only; rw [w64 (by omega)]; rfl
    · simp only; rw [w64 (by omega)]; omega
  · refine (hp.le hl2').get i rfl hi' fun x hx bx => ?_
    have hlx : x.mag.len ≤ 268435456 := by have := hx.1.len; have := dg_len.2 bx; omega
    refine rValid_call (a := x) hx.ai hlx (fun n _ => ifP_false rfl ?_) (fun hn => absurd ⟨_, hx⟩ hn)
    refine (hp.le hl2').get i rfl hi' fun y hy by_ => (hq.le hl2').get i rfl hi' fun z hz bz => ?_
    have oz : Ok (us[i] - us[i]) := by rw [Int.sub_self]; unfold Ok; rw [show (0 : Int).natAbs = 0 from rfl, dg_zero]; decide
    refine rCmp_call hy hz (by_.ok (by decide)) (bz.ok (by decide)) oz fun h4 hl4 => ?_
    rw [Int.sub_self]
    exact ifP_false rfl hl4
end
end Den
end

section
/-
  Polynomials: sizes of results.
-/
set_option linter.unusedVariables false
namespace Den
open Go Iv Pq
section
variable {h h0 : Hp} {A B C : Nat} {l m : Sl} {p q : List Rat} {K : Sl → Hp → Prop} {Kb : Bool → Hp → Prop} {f g : Nat → Rat}
theorem PL.re (hp : PL h B l p) (hb : ∀ v ∈ p, BR C v) : PL h C l p := by
  obtain ⟨xs, h1, h2, h3⟩ := hp
  exact ⟨xs, h1, ⟨h2.1, fun k g1 g2 => ⟨(h2.2 k g1 g2).1, hb _ (List.getElem_mem g2)⟩⟩, h3⟩
theorem BR.sub' {k j : Nat} {a b : Rat} (ha : BR k a) (hb : BR j b) : BR (k + j + 1) (a - b) := ha.sub hb
/-- The size of what is left after k steps of a division. -/
def gB (A B : Nat) : Nat → Nat
  | 0 => A
  | k + 1 => 2 * gB A B k + 2 * B + 1
theorem gB_succ {A B k : Nat} : gB A B (k + 1) = 2 * gB A B k + 2 * B + 1 := rfl
theorem gB_mono {A B : Nat} : ∀ {k j : Nat}, k ≤ j → gB A B k ≤ gB A B j
  | k, 0, h => by have : k = 0 := by omega
                  subst this; exact Nat.le_refl _
  | k, j + 1, h => by
    by_cases hk : k = j + 1
    · subst hk; exact Nat.le_refl _
    · have := gB_mono (A := A) (B := B) (k := k) (j := j) (by omega)
      rw [gB_succ]; omega
theorem restK_BR {b : Nat → Rat} {d N : Nat} (hf : ∀ j, BR A (f j)) (hb : ∀ j, BR B (b j)) (h0 : b d ≠ 0) : ∀ {k j : Nat}, BR (gB A B k) (restK b d N f k j)
  | 0, j => hf j
  | k + 1, j => by
    have ih := fun j => restK_BR (N := N) hf hb h0 (k := k) (j := j)
    show BR (gB A B (k + 1)) (stepF b d (N - 1 - k) (restK b d N f k) j)
    rw [gB_succ]
    unfold stepF
    split
    · have h1 := ((ih (N - 1 - k + d)).div (hb d) (NR.num_ne (y := zT) h0)).mul (hb (j - (N - 1 - k)))
      exact ((ih j).sub h1).mono (by omega)
    · exact (ih j).mono (by omega)
theorem part_BR {N : Nat} (hf : ∀ i, BR A (f i)) (hg : ∀ i, BR B (g i)) (hN : ∀ i, N ≤ i → g i = 0) (m n : Nat) : BR (N * (A + B + 1) + 1) (Pq.part f g m n) := by
  have key : ∀ m, BR ((min m (n + 1) - min m (n + 1 - N)) * (A + B + 1) + 1) (Pq.part f g m n) := by
    intro m
    induction m with
    | zero => exact BR_zero.mono (by omega)
    | succ m ih =>
      rw [part_succ]
      by_cases h1 : m ≤ n
      · rw [if_pos h1]
        by_cases h2 : n - m < N
        · have h3 := ih.add ((hf m).mul (hg (n - m)))
          have e : min (m + 1) (n + 1) - min (m + 1) (n + 1 - N) = (min m (n + 1) - min m (n + 1 - N)) + 1 := by omega
          rw [e, Nat.add_mul]
          exact h3.mono (by omega)
        · rw [hN _ (by omega), Rat.mul_zero, Rat.add_zero]
          refine ih.mono ?_
          have e : min m (n + 1) - min m (n + 1 - N) ≤ min (m + 1) (n + 1) - min (m + 1) (n + 1 - N) := by omega
          have := Nat.mul_le_mul_right (A + B + 1) e
          omega
      · rw [if_neg h1, Rat.add_zero]
        refine ih.mono ?_
        have e : min m (n + 1) - min m (n + 1 - N) ≤ min (m + 1) (n + 1) - min (m + 1) (n + 1 - N) := by omega
        have := Nat.mul_le_mul_right (A + B + 1) e
        omega
  refine (key m).mono ?_
  have e : min m (n + 1) - min m (n + 1 - N) ≤ N := by omega
  have := Nat.mul_le_mul_right (A + B + 1) e
  omega
theorem part_BR' {N : Nat} (hf : ∀ i, BR A (f i)) (hg : ∀ i, BR B (g i)) (hN : ∀ i, N ≤ i → f i = 0) (m n : Nat) : BR (N * (A + B + 1) + 1) (Pq.part f g m n) := by
  have key : ∀ m, BR ((min m N) * (A + B + 1) + 1) (Pq.part f g m n) := by
    intro m
    induction m with
    | zero => exact BR_zero.mono (by omega)
    | succ m ih =>
      rw [part_succ]
      have e : min m N ≤ min (m + 1) N := by omega
      have e2 := Nat.mul_le_mul_right (A + B + 1) e
      by_cases h1 : m < N
      · split
        · have h3 := ih.add ((hf m).mul (hg (n - m)))
          have e : min (m + 1) N = min m N + 1 := by omega
          rw [e, Nat.add_mul]
          exact h3.mono (by omega)
        · rw [Rat.add_zero]; exact ih.mono (by omega)
      · rw [hN m (by omega), Rat.zero_mul, ite_self, Rat.add_zero]
        exact ih.mono (by omega)
  refine (key m).mono ?_
  have := Nat.mul_le_mul_right (A + B + 1) (show min m N ≤ N by omega)
  omega
theorem conv_part {n : Nat} : conv f g n = Pq.part f g (n + 1) n := by
  unfold conv Pq.part
  exact sm_congr fun i hi => (if_pos (by omega)).symm
theorem conv_BR {N : Nat} (hf : ∀ i, BR A (f i)) (hg : ∀ i, BR B (g i)) (hN : ∀ i, N ≤ i → g i = 0) (n : Nat) : BR (N * (A + B + 1) + 1) (conv f g n) := by
  rw [conv_part]; exact part_BR hf hg hN _ _
/-- The size of a composition. -/
def cB (N A B : Nat) : Nat → Nat
  | 0 => 1
  | k + 1 => N * (cB N A B k + B + 1) + 1 + A + 1
theorem cB_succ {N A B k : Nat} : cB N A B (k + 1) = N * (cB N A B k + B + 1) + 1 + A + 1 := rfl
theorem comp_BR (hA : 1 ≤ A) (hq : ∀ v ∈ q, BR B v) (hB : 1 ≤ B) : ∀ {p : List Rat}, (∀ v ∈ p, BR A v) → ∀ j, BR (cB q.length A B p.length) (co (compL p q) j)
  | [], _, j => BR_zero
  | c :: r, hp, j => by
    have ih := comp_BR hA hq hB (p := r) fun v hv => hp v (by simp [hv])
    simp only [compL]
    rw [co_addL, co_mulL]
    have h1 := conv_BR (N := q.length) ih (BR.co hq hB) (fun i hi => co_ge hi) j
    have h2 : BR A (co [c] j) := BR.co (fun v hv => hp v (by simp at hv; simp [hv])) hA j
    exact (h1.add h2).mono (by show _ ≤ cB q.length A B (r.length + 1); rw [cB_succ]; omega)
theorem cB_mono {N M A B : Nat} (hN : N ≤ M) : ∀ {k j : Nat}, k ≤ j → cB N A B k ≤ cB M A B j
  | 0, j, _ => by
    cases j with
    | zero => exact Nat.le_refl _
    | succ j => rw [cB_succ]; show 1 ≤ _; omega
  | k + 1, 0, h => by omega
  | k + 1, j + 1, h => by
    have := cB_mono (A := A) (B := B) hN (k := k) (j := j) (by omega)
    rw [cB_succ, cB_succ]
    have := Nat.mul_le_mul hN (show cB N A B k + B + 1 ≤ cB M A B j + B + 1 by omega)
    omega
theorem ev_BR {c : Rat} (hc : BR B c) : ∀ {p : List Rat}, (∀ v ∈ p, BR A v) → BR (p.length * (A + B + 1) + 1) (ev p c)
  | [], _ => by rw [List.length_nil, Nat.zero_mul]; exact BR_zero
  | a :: r, hp => by
    have ih := ev_BR hc (p := r) fun v hv => hp v (by simp [hv])
    have h1 := (hp a (by simp)).add (ih.mul hc)
    show BR _ (a + ev r c * c)
    exact h1.mono (by rw [List.length_cons, Nat.add_mul]; omega)
theorem ev_drop_BR {c : Rat} (hc : BR B c) (hp : ∀ v ∈ p, BR A v) (i : Nat) : BR (p.length * (A + B + 1) + 1) (ev (p.drop i) c) := by
  refine (ev_BR hc (p := p.drop i) fun v hv => hp v (List.mem_of_mem_drop hv)).mono ?_
  have := Nat.mul_le_mul_right (A + B + 1) (show (p.drop i).length ≤ p.length by simp)
  omega

theorem rpMul2_call (hp : PL h A l p) (hq : PL h B m q) (hlen : p.length ≤ 1000) (hlen2 : q.length ≤ 1000) (hA : 1 ≤ A ∧ A ≤ 100000) (hB : 1 ≤ B ∧ B ≤ 100000) (hC : ∀ k n, k ≤ q.length → BR C (Pq.part (co q) (co p) k n)) (hC2 : 1 ≤ C ∧ C ≤ 400000)
    (H : ∀ y h', h.le h' → PL h' C y (trim (mulL p q)) → K y h') : callP (F.ref04_Mul l m) K h :=
  rpMul_call hp hq hlen hlen2 hA hB hC hC2 fun y h' hl hy => H y h' hl (by
    split at hy
    · rename_i hq0
      have e : trim (mulL p q) = [] := nf_eq_nil nf_trim fun i => by
        rw [co_trim, co_mulL, conv_comm, hq0]; exact conv_nil
      rw [e]; exact hy
    · exact hy)

/-- A known quotient. -/
theorem known_div {q' r' qs rs : List Rat} (hq0 : trim q ≠ []) (hc : ∀ j, conv (co qs) (co q) j + co rs j = co p j) (hz : ∀ j, (trim q).length - 1 ≤ j → co rs j = 0) (hlen : qs.length ≤ 1001) (hlen2 : q'.length ≤ 1001)
    (hk : trim (addL (mulL q' q) r') = trim p) (hr : r'.length ≤ (trim q).length - 1) : trim qs = trim q' ∧ trim rs = trim r' := by
  have hb : co q ((trim q).length - 1) ≠ 0 := lead_ne hq0
  have hpos : 0 < (trim q).length := List.length_pos_iff.2 hq0
  have := div_unique (q := co qs) (q' := co q') (b := co q) (r := co rs) (r' := co r') (d := (trim q).length - 1) (n := 1001) hb (fun i hi => by rw [← co_trim, co_ge (by omega)]) (fun i hi => co_ge (by omega)) (fun i hi => co_ge (by omega)) hz (fun i hi => co_ge (by omega)) fun i => by
    rw [hc]
    have e : co (trim (addL (mulL q' q) r')) i = co (trim p) i := by rw [hk]
    rw [co_trim, co_trim, co_addL, co_mulL] at e
    exact e.symm
  exact ⟨trim_eq this.1, trim_eq this.2⟩
end
end Den
end

section
/-
  Polynomials: the examples of the chapter.
-/
set_option linter.unusedVariables false
namespace Den
open Go Iv Pq
section
variable {h h0 : Hp} {A B C : Nat} {l m : Sl} {p q : List Rat} {K : Sl → Hp → Prop} {Kb : Bool → Hp → Prop} {us : List Int}
theorem br1 {p : List Rat} (h : (p.all fun v => decide (v.num.natAbs < 4294967296 ∧ v.den < 4294967296)) = true) : ∀ v ∈ p, BR 1 v := fun v hv => by
  have := of_decide_eq_true (List.all_eq_true.1 h v hv)
  refine ⟨?_, ?_⟩
  · unfold Lt; rw [Nat.pow_one, W_eq]; exact this.1
  · unfold Lt; rw [Nat.pow_one, W_eq, Int.natAbs_natCast]; exact this.2
theorem PL.re1 (hp : PL h B l p) (hq : p = q) (hb : (q.all fun v => decide (v.num.natAbs < 4294967296 ∧ v.den < 4294967296)) = true) : PL h 1 l q := by
  subst hq; exact hp.re (br1 hb)
def zOk (zs : List (Int × Int)) : Bool := zs.all fun z => decide (z.1.natAbs < 4294967296 ∧ z.2.natAbs < 4294967296 ∧ z.2 ≠ 0)
theorem rats_lit {cells : List Value} {n : Nat} (zs : List (Int × Int)) (ps : List Rat) (hc : cells = zs.flatMap zc) (hn : zs.length = n) (hz : zOk zs = true) (hps : zs.map qz = ps) (hlen : n ≤ 1000) (H : ∀ y h', h.le h' → PL h' 1 y ps → K y h') :
    newP cells (fun a h1 => callP (F.law04_rats ⟨some a, n, n⟩) K h1) h := by
  subst hc hps
  refine new_own (n := n) (size := 2) (by rw [flat_len zc_len, hn]) fun b h1 hb ho => ?_
  exact rats4_call ho.rd (by omega) (fun z hz' => of_decide_eq_true (List.all_eq_true.1 hz z hz')) fun y h' hl hy => H y h' (Hp.le_trans ho.1 hl) hy
def icel (n : Int) : Value := .int .i64 n
theorem ints4_call (hp : IL h 300000 l us) (hw : Rd h 1 m (us.map icel)) (hlen : us.length ≤ 1000) (hb : ∀ u ∈ us, u.natAbs < 4294967296) (H : ∀ h', h.le h' → Kb true h') : callP (F.law04_ints l m) Kb h := by
  refine callP_of (fun b h' => b = true) (fun K' hk => ?_) fun b h' hl hb => by subst hb; exact H h' hl
  unfold F.law04_ints
  have hl := hp.len
  have hl2 : m.len = us.length := by have := hw.1; simp at this; omega
  refine ifP_ne (fun h1 => absurd (by rw [hl, hl2]) h1) (fun _ => ?_)
  refine loopP_of (fun st h' => h.le h' ∧ ∃ i : Nat, st.1 = (i : Int) ∧ i ≤ us.length) (fun st => (us.length - st.1).toNat) ⟨Hp.le_refl _, 0, rfl, Nat.zero_le _⟩ ?_
  rintro ⟨_, _⟩ h2 ⟨hl2', i, hi, hi2⟩
  simp only at hi
  subst hi
  refine ifP_dec (fun h3 => ?_) (fun h3 => hk _ _ hl2' rfl)
  simp only at h3
  have hi' : i < us.length := by omega
  refine rd_one i (hw.le hl2') rfl (v := icel us[i]) (by rw [List.getElem?_map, List.getElem?_eq_getElem hi']; rfl) fun a hc => ⟨us[i], hc, ?_⟩
  refine (hp.le hl2').get i rfl hi' fun x hx bx => ?_
  have hbi := hb _ (List.getElem_mem hi')
  refine rFromInt_call (by omega) (by omega) fun y h4 hl4 hy => ?_
  have oz : Ok (us[i] - us[i]) := by rw [Int.sub_self]; unfold Ok; rw [show (0 : Int).natAbs = 0 from rfl, dg_zero]; decide
  refine rCmp_call (hx.le hl4) hy (bx.ok (by decide)) (bx.ok (by decide)) oz fun h5 hl5 => ?_
  rw [Int.sub_self]
  refine ifP_false rfl ⟨⟨Hp.le_trans hl2' (Hp.le_trans hl4 hl5), i + 1, ?_, hi'⟩, ?_⟩
  · simp only; rw [w64 (by omega)]; rfl
  · simp only; rw [w64 (by omega)]; omega
theorem ints_lit {cells : List Value} {n : Nat} (hp : IL h 300000 l us) (hc : cells = us.map icel) (hn : us.length = n) (hlen : n ≤ 1000) (hb : ∀ u ∈ us, u.natAbs < 4294967296) (H : ∀ h', h.le h' → Kb true h') :
    newP cells (fun a h1 => callP (F.law04_ints l ⟨some a, n, n⟩) Kb h1) h := by
  subst hc
  refine new_own (n := n) (size := 1) (by simp [hn]) fun b h1 hb1 ho => ?_
  exact ints4_call (hp.le ho.1) ho.rd (by omega) hb fun h' hl => H h' (Hp.le_trans ho.1 hl)

/-- A division of small numbers. -/
theorem restK_1 {k j N : Nat} (hp : PL h 1 l p) (hq : PL h 1 m q) (hq0 : trim q ≠ []) (hk : k ≤ 8) : BR 2000 (restK (co q) ((trim q).length - 1) N (co p) k j) :=
  (restK_BR (fun j => BR.co hp.bound (by decide) j) (fun j => BR.co hq.bound (by decide) j) (lead_ne hq0)).mono (Nat.le_trans (gB_mono hk) (by decide))
theorem divide_lit {KK : Sl × Sl → Hp → Prop} (q' r' : List Rat) (hp : PL h 1 l p) (hq : PL h 1 m q) (hlen : p.length ≤ 7) (hlen2 : q.length ≤ 7) (hq0 : trim q ≠ []) (hk : trim (addL (mulL q' q) r') = trim p) (hr : r'.length ≤ (trim q).length - 1) (hql : q'.length ≤ 7)
    (hb : ((trim q').all fun v => decide (v.num.natAbs < 4294967296 ∧ v.den < 4294967296)) = true) (hb2 : ((trim r').all fun v => decide (v.num.natAbs < 4294967296 ∧ v.den < 4294967296)) = true)
    (H : ∀ y z h', h.le h' → PL h' 1 y (trim q') → PL h' 1 z (trim r') → KK (y, z) h') : callP (F.polynomial_divide l m) KK h := by
  have tp := trim_len (p := p)
  refine pdivide_call hp hq (by omega) (by omega) (by decide) hq0 (C := 2000) (fun k j hk => restK_1 hp hq hq0 (by omega)) (by decide) fun y z h' qs rs hl hy hz lq lr hc hz2 => ?_
  obtain ⟨e1, e2⟩ := known_div hq0 hc hz2 lq (by omega) hk hr
  exact H y z h' hl (hy.re1 e1 hb) (hz.re1 e2 hb2)
theorem sqf_call (hp : PL h 1 l [0, 2, -4, 2]) (H : ∀ y h', h.le h' → PL h' 1 y [0, -1, 1] → K y h') : callP (F.polynomial_Squarefree l) K h := by
  refine callP_of (fun y h' => PL h' 1 y [0, -1, 1]) (fun K' hk => ?_) fun y h' hl hy => H y h' hl hy
  unfold F.polynomial_Squarefree
  refine pMonic_call hp (by decide) (by decide) fun r1 h1 hl1 hr1 => ?_
  have hr1 := hr1.re1 (q := [0, 1, -2, 1]) (by decide +kernel) (by decide +kernel)
  refine ifP_eq (fun h2 => absurd h2 (by rw [hr1.len]; decide)) (fun h2 => ?_)
  refine pDerivative_call hr1 (by decide) (by decide) fun r2 h3 hr2 => ?_
  have hl3 := hr2.hle
  have hr2 := hr2.pl.re1 (q := [1, -4, 3]) (by decide +kernel) (by decide +kernel)
  -- the greatest common divisor
  have hgcd : ∀ {K3 : Sl → Hp → Prop}, (∀ y h', h3.le h' → PL h' 1 y [-1, 1] → K3 y h') → callP (F.polynomial_GCD r1 r2) K3 h3 := by
    intro K3 H3
    refine callP_of (fun y h' => PL h' 1 y [-1, 1]) (fun K4 hk4 => ?_) fun y h' hl hy => H3 y h' hl hy
    unfold F.polynomial_GCD
    refine pMonic_call (hr1.le hl3) (by decide) (by decide) fun a h4 hl4 ha => ?_
    have ha := ha.re1 (q := [0, 1, -2, 1]) (by decide +kernel) (by decide +kernel)
    refine pMonic_call (hr2.le hl4) (by decide) (by decide) fun b h5 hl5 hb => ?_
    have hb := hb.re1 (q := [(1 : Rat) / 3, -4 / 3, 1]) (by decide +kernel) (by decide +kernel)
    refine loopP_of (fun st h' => h3.le h' ∧ ∃ x y, PL h' 1 st.1 x ∧ PL h' 1 st.2.1 y ∧ ((x = [0, 1, -2, 1] ∧ y = [(1 : Rat) / 3, -4 / 3, 1]) ∨ (x = [(1 : Rat) / 3, -4 / 3, 1] ∧ y = [-1, 1]) ∨ (x = [-1, 1] ∧ y = []))) (fun st => st.2.1.len)
      ⟨Hp.le_trans hl4 hl5, _, _, ha.le hl5, hb, .inl ⟨rfl, rfl⟩⟩ ?_
    rintro ⟨s, t, _⟩ h6 ⟨hl6, x, y, hx, hy, hxy⟩
    simp only at hx hy
    have ly := hy.len
    refine ifP_dec (fun h7 => ?_) (fun h7 => ?_)
    · rcases hxy with ⟨rfl, rfl⟩ | ⟨rfl, rfl⟩ | ⟨rfl, rfl⟩
      · refine divide_lit [-2 / 3, 1] [(2 : Rat) / 9, -2 / 9] hx hy (by decide) (by decide) (by decide +kernel) (by decide +kernel) (by decide +kernel) (by decide) (by decide +kernel) (by decide +kernel) fun u v h8 hl8 hu hv => ?_
        refine pMonic_call hv (by decide +kernel) (by decide) fun w h9 hl9 hw => ?_
        have hw := hw.re1 (q := [-1, 1]) (by decide +kernel) (by decide +kernel)
        exact ⟨⟨Hp.le_trans hl6 (Hp.le_trans hl8 hl9), _, _, (hy.le hl8).le hl9, hw, .inr (.inl ⟨rfl, rfl⟩)⟩, by rw [hw.len, ly]; decide⟩
      · refine divide_lit [-1 / 3, 1] [] hx hy (by decide) (by decide) (by decide +kernel) (by decide +kernel) (by decide +kernel) (by decide) (by decide +kernel) (by decide +kernel) fun u v h8 hl8 hu hv => ?_
        refine pMonic_call hv (by decide +kernel) (by decide) fun w h9 hl9 hw => ?_
        have hw := hw.re1 (q := []) (by decide +kernel) (by decide +kernel)
        exact ⟨⟨Hp.le_trans hl6 (Hp.le_trans hl8 hl9), _, _, (hy.le hl8).le hl9, hw, .inr (.inr ⟨rfl, rfl⟩)⟩, by rw [hw.len, ly]; decide⟩
      · rw [ly] at h7; exact absurd h7 (by decide)
    · rcases hxy with ⟨rfl, rfl⟩ | ⟨rfl, rfl⟩ | ⟨rfl, rfl⟩
      · exact absurd (by rw [ly]; decide) h7
      · exact absurd (by rw [ly]; decide) h7
      · exact hk4 _ _ hl6 hx
  refine hgcd fun r3 h4 hl4 hr3 => ?_
  refine divide_lit [0, -1, 1] [] ((hr1.le hl3).le hl4) hr3 (by decide) (by decide) (by decide +kernel) (by decide +kernel) (by decide +kernel) (by decide) (by decide +kernel) (by decide +kernel) fun u v h5 hl5 hu hv => ?_
  refine pMonic_call hu (by decide +kernel) (by decide) fun w h6 hl6 hw => ?_
  have hw := hw.re1 (q := [0, -1, 1]) (by decide +kernel) (by decide +kernel)
  exact hk _ _ (Hp.le_trans hl1 (Hp.le_trans hl3 (Hp.le_trans hl4 (Hp.le_trans hl5 hl6)))) hw
theorem prim_a : Prim [-2, 3] [-1 / 3, (1 : Rat) / 2] := by
  refine ⟨rfl, ⟨6, by decide, fun i h1 h2 => ?_⟩, fun k hk => ?_, fun _ => (by decide : (0 : Int) < 3)⟩
  · match i, h1 with
    | 0, _ => exact (by decide +kernel : ((-2 : Int) : Rat) = 6 * (-1 / 3))
    | 1, _ => exact (by decide +kernel : ((3 : Int) : Rat) = 6 * ((1 : Rat) / 2))
  · have h1 := hk (-2) (by simp)
    have h2 := hk 3 (by simp)
    have h3 := Int.dvd_add h1 h2
    have : (k : Int) ∣ 1 := h3
    have := Int.ofNat_dvd_left.1 this
    exact Nat.dvd_one.1 this
theorem prim_b : Prim [0, 1] [(0 : Rat), -1] := by
  refine ⟨rfl, ⟨-1, by decide, fun i h1 h2 => ?_⟩, fun k hk => ?_, fun _ => (by decide : (0 : Int) < 1)⟩
  · match i, h1 with
    | 0, _ => exact (by decide +kernel : ((0 : Int) : Rat) = -1 * 0)
    | 1, _ => exact (by decide +kernel : ((1 : Int) : Rat) = -1 * -1)
  · have h2 := hk 1 (by simp)
    have := Int.ofNat_dvd_left.1 h2
    exact Nat.dvd_one.1 this
end
end Den
end

section
/-
  Polynomials: all examples of the chapter hold.
-/
set_option linter.unusedVariables false
namespace Den
open Go Iv Pq
section
variable {h : Hp} {Kb : Bool → Hp → Prop}
theorem equal_lit {l m : Sl} {p q : List Rat} (hp : PL h 1 l p) (hq : PL h 1 m q) (he : p = q) (hlen : p.length ≤ 100) (H : ∀ h', h.le h' → Kb true h') : callP (F.ref04_Equal l m) Kb h := by
  subst he
  exact rpEqual_call hp hq (by omega) (by omega) (by decide) (by decide) fun h' hl => by
    rw [decide_eq_true (p := p.length = p.length ∧ trim p = trim p) ⟨rfl, rfl⟩]; exact H h' hl
theorem awake4_call (H : ∀ h', h.le h' → Kb true h') : callP F.law04_awake Kb h := by
  refine callP_of (fun b h' => b = true) (fun K' hk => ?_) fun b h' hl hb => by subst hb; exact H h' hl
  unfold F.law04_awake
  refine rats_lit [(-1, 1), (0, 1), (1, 1)] [-1, 0, 1] rfl rfl (by decide) (by decide +kernel) (by decide) fun r2 h2 hl2 hr2 => ?_
  refine rats_lit [(2, 1), (2, 1)] [2, 2] rfl rfl (by decide) (by decide +kernel) (by decide) fun r4 h4 hl4 hr4 => ?_
  refine ppDivMod_call (hr2.le hl4) hr4 (by decide) (by decide) (by decide) (C := 2000) (fun k j hq0 hk => restK_1 (hr2.le hl4) hr4 hq0 (Nat.le_trans hk (by decide +kernel))) (by decide) (fun hh => absurd hh (by decide +kernel)) fun hq0 y z h5 qs rs hl5 hy hz lq lr hc hz2 => ?_
  obtain ⟨e1, e2⟩ := known_div (q' := [-1 / 2, (1 : Rat) / 2]) (r' := []) hq0 hc hz2 lq (by decide) (by decide +kernel) (by decide +kernel)
  have hy := hy.re1 (q := [-1 / 2, (1 : Rat) / 2]) (e1.trans (by decide +kernel)) (by decide +kernel)
  have hz := hz.re1 (q := []) (e2.trans (by decide +kernel)) (by decide +kernel)
  refine rats_lit [(0, 1), (2, 1), (-4, 1), (2, 1)] [0, 2, -4, 2] rfl rfl (by decide) (by decide +kernel) (by decide) fun r7 h7 hl7 hr7 => ?_
  refine sqf_call hr7 fun r8 h8 hl8 hr8 => ?_
  refine rats_lit [(-1, 3), (1, 2)] [-1 / 3, (1 : Rat) / 2] rfl rfl (by decide) (by decide +kernel) (by decide) fun r10 h10 hl10 hr10 => ?_
  refine ppPrim_call hr10 (by decide) (by decide) fun r11 h11 us hl11 hu11 lu pu => ?_
  have t1 : trim [-1 / 3, (1 : Rat) / 2] = [-1 / 3, (1 : Rat) / 2] := by decide +kernel
  rw [t1] at pu
  have eu : us = [-2, 3] := prim_unique (by simp) (pu (by simp)) prim_a
  subst eu
  refine rats_lit [(0, 1), (-1, 1)] [0, -1] rfl rfl (by decide) (by decide +kernel) (by decide) fun r13 h13 hl13 hr13 => ?_
  refine ppPrim_call hr13 (by decide) (by decide) fun r14 h14 vs hl14 hu14 lv pv => ?_
  have t2 : trim [(0 : Rat), -1] = [0, -1] := by decide +kernel
  rw [t2] at pv
  have ev : vs = [0, 1] := prim_unique (by simp) (pv (by simp)) prim_b
  subst ev
  refine rats_lit [(1, 1), (-3, 1), (2, 1)] [1, -3, 2] rfl rfl (by decide) (by decide +kernel) (by decide) fun r16 h16 hl16 hr16 => ?_
  refine pBound_call hr16 (by decide) (by decide) fun r17 h17 hl17 hr17 => ?_
  have eb : bndQ [1, -3, 2] = (5 : Rat) / 2 := by decide +kernel
  rw [eb] at hr17
  refine rats_lit [(0, 1), (0, 1), (1, 1)] [0, 0, 1] rfl rfl (by decide) (by decide +kernel) (by decide) fun r19 h19 hl19 hr19 => ?_
  refine rats_lit [(1, 1), (1, 1)] [1, 1] rfl rfl (by decide) (by decide +kernel) (by decide) fun r21 h21 hl21 hr21 => ?_
  have hcb : ∀ i j, BR 1000 (co (compL (List.drop i [(0 : Rat), 0, 1]) [1, 1]) j) := fun i j =>
    (comp_BR (A := 1) (B := 1) (q := [1, 1]) (by decide) (hr21.bound) (by decide) (p := List.drop i [(0 : Rat), 0, 1]) (fun v hv => hr19.bound v (List.mem_of_mem_drop hv)) j).mono
      (Nat.le_trans (cB_mono (Nat.le_refl _) (j := 3) (by simp)) (by decide))
  refine pCompose_call (hr19.le hl21) hr21 (by decide) (by decide) (by decide) (by decide) (M := 5000) (fun i k n => (part_BR (N := 2) (hcb i) (fun j => BR.co hr21.bound (by decide) j) (fun j hj => co_ge (by simpa using hj)) k n).mono (by decide)) (by decide) (C := 6000) (fun i j => (hcb i j).mono (by decide)) (by decide) fun r22 h22 hl22 hr22 => ?_
  have hr22 := hr22.re1 (q := [1, 2, 1]) (by decide +kernel) (by decide +kernel)
  -- the comparisons
  refine ifP_true rfl ?_
  have l5 : h5.le h22 := Hp.le_trans hl7 (Hp.le_trans hl8 (Hp.le_trans hl10 (Hp.le_trans hl11 (Hp.le_trans hl13 (Hp.le_trans hl14 (Hp.le_trans hl16 (Hp.le_trans hl17 (Hp.le_trans hl19 (Hp.le_trans hl21 hl22)))))))))
  have l8 : h8.le h22 := Hp.le_trans hl10 (Hp.le_trans hl11 (Hp.le_trans hl13 (Hp.le_trans hl14 (Hp.le_trans hl16 (Hp.le_trans hl17 (Hp.le_trans hl19 (Hp.le_trans hl21 hl22)))))))
  have l11 : h11.le h22 := Hp.le_trans hl13 (Hp.le_trans hl14 (Hp.le_trans hl16 (Hp.le_trans hl17 (Hp.le_trans hl19 (Hp.le_trans hl21 hl22)))))
  have l14 : h14.le h22 := Hp.le_trans hl16 (Hp.le_trans hl17 (Hp.le_trans hl19 (Hp.le_trans hl21 hl22)))
  have l17 : h17.le h22 := Hp.le_trans hl19 (Hp.le_trans hl21 hl22)
  have l0 : h.le h22 := Hp.le_trans hl2 (Hp.le_trans hl4 (Hp.le_trans hl5 l5))
  refine rats_lit [(-1, 2), (1, 2)] [-1 / 2, (1 : Rat) / 2] rfl rfl (by decide) (by decide +kernel) (by decide) fun r24 h24 hl24 hr24 => ?_
  refine equal_lit ((hy.le l5).le hl24) hr24 rfl (by decide) fun h25 hl25 => ifP_true rfl ?_
  refine ifP_true (by rw [hz.len]; rfl) ?_
  refine rats_lit [(0, 1), (-1, 1), (1, 1)] [0, -1, 1] rfl rfl (by decide) (by decide +kernel) (by decide) fun r27 h27 hl27 hr27 => ?_
  have l2427 := Hp.le_trans hl24 (Hp.le_trans hl25 hl27)
  refine equal_lit ((hr8.le l8).le l2427) hr27 rfl (by decide) fun h28 hl28 => ifP_true rfl ?_
  have l28 := Hp.le_trans l2427 hl28
  refine ints_lit ((hu11.le l11).le l28) rfl rfl (by decide) (by decide) fun h30 hl30 => ifP_true rfl ?_
  have l30 := Hp.le_trans l28 hl30
  refine ints_lit ((hu14.le l14).le l30) rfl rfl (by decide) (by decide) fun h32 hl32 => ifP_true rfl ?_
  have l32 := Hp.le_trans l30 hl32
  have h17' := (hr17.le l17).le l32
  have b52 : BR 1 ((5 : Rat) / 2) := br1 (p := [(5 : Rat) / 2]) (by decide +kernel) _ (by simp)
  have ln := h17'.lens b52
  refine rqValid_call h17'.ar (by omega) (by omega) (fun v h33 hl33 _ => ifP_true rfl ?_) (fun _ _ hn => absurd ⟨_, h17'⟩ hn)
  refine rqFrac_call (by decide) (by decide) (by decide) (by decide) (by decide) fun z34 h34 hl34 hz34 => ?_
  have e52 : Rat.divInt 5 2 = (5 : Rat) / 2 := by decide +kernel
  rw [e52] at hz34
  refine rqCmp_call ((h17'.le hl33).le hl34) hz34 b52 b52 (by decide) (by decide) fun h35 hl35 => ?_
  refine ifP_true (by decide +kernel) ?_
  have l35 := Hp.le_trans l32 (Hp.le_trans hl33 (Hp.le_trans hl34 hl35))
  refine rats_lit [(1, 1), (2, 1), (1, 1)] [1, 2, 1] rfl rfl (by decide) (by decide +kernel) (by decide) fun r37 h37 hl37 hr37 => ?_
  refine equal_lit ((hr22.le l35).le hl37) hr37 rfl (by decide) fun h38 hl38 => hk _ _ ?_ rfl
  exact Hp.le_trans l0 (Hp.le_trans l35 (Hp.le_trans hl37 hl38))
end
end Den
end

section
/-
  The statements on polynomials, plain.
-/
set_option linter.unusedVariables false
namespace Den
open Go Iv Pq
section
variable {h : Hp} {A B : Nat} {a b c l m : Sl} {n x : TRat} {p q r : List Rat} {Kb K : Bool → Hp → Prop}
theorem few_lit {cells : List Value} {n : Nat} (ss : List Sl) (hc : cells = ss.map slc) (hn : ss.length = n) (hlen : n ≤ 100) (ha : ∀ s ∈ ss, AQ h s) (H1 : ∀ h', h.le h' → (∀ s ∈ ss, ∃ vs, PL h' 4 s vs ∧ vs.length ≤ 8) → Kb true h') (H0 : ∀ h', h.le h' → Kb false h') :
    newP cells (fun a h1 => callP (F.law04_few ⟨some a, n, n⟩) Kb h1) h := by
  subst hc
  refine new_own (n := n) (size := 1) (by simp [hn]) fun b h1 hb1 ho => ?_
  refine few4_call ho.rd (fun s hs => (ha s hs).le ho.1) (by omega) (fun h' hl hall => H1 h' (Hp.le_trans ho.1 hl) fun s hs => ?_) fun h' hl => H0 h' (Hp.le_trans ho.1 hl)
  obtain ⟨vs, h2, h3⟩ := hall s hs
  exact ⟨vs, h2.le hl, h3⟩
theorem good_eq (hp : PL h A l p) (hq : PL h B m q) (he : p = q) (hlen : p.length ≤ 10000) (hA : 1 ≤ A ∧ A ≤ 300000) (hB : 1 ≤ B ∧ B ≤ 300000) (H : ∀ h', h.le h' → Kb true h') : callP (F.law04_good l m) Kb h := by
  subst he
  exact good4_call hp hq (by omega) (by omega) hA hB fun h' hl => by
    rw [decide_eq_true (p := p.length = p.length ∧ trim p = trim p) ⟨rfl, rfl⟩]; exact H h' hl
theorem mul_len {i j : Nat} (hp : p.length ≤ i) (hq : q.length ≤ j) : (trim (mulL p q)).length ≤ i + j := nf_len nf_trim fun k hk => by
  rw [co_trim, co_mulL]
  exact conv_zero_of (a := i) (b := j) (fun i hi => co_ge (by omega)) (fun i hi => co_ge (by omega)) (by omega)
theorem add_len {i : Nat} (hp : p.length ≤ i) (hq : q.length ≤ i) : (trim (addL p q)).length ≤ i := nf_len nf_trim fun k hk => by
  rw [co_trim, co_addL, co_ge (by omega), co_ge (by omega), Rat.add_zero]
theorem tlen {i : Nat} (hp : p.length ≤ i) : (trim p).length ≤ i := Nat.le_trans trim_len hp
theorem co_tmul {i : Nat} : co (trim (mulL p q)) i = conv (co p) (co q) i := by rw [co_trim, co_mulL]

theorem law_PolyMul (ha : AQ h a) (hb : AQ h b) (hc : AQ h c) (H : ∀ h', h.le h' → K true h') : F.law04_PolynomialMul a b c K h := by
  unfold F.law04_PolynomialMul
  refine awake4_call fun h1 hl1 => ifP_false rfl ?_
  refine few_lit [a, b, c] rfl rfl (by decide) (fun s hs => ?_) (fun h3 hl3 hall => ifP_false rfl ?_) (fun h3 hl3 => ifP_true rfl (H _ (Hp.le_trans hl1 hl3)))
  · simp only [List.mem_cons, List.not_mem_nil, or_false] at hs
    rcases hs with rfl | rfl | rfl
    · exact ha.le hl1
    · exact hb.le hl1
    · exact hc.le hl1
  obtain ⟨p, hp, lp⟩ := hall a (by simp)
  obtain ⟨q, hq, lq⟩ := hall b (by simp)
  obtain ⟨r, hr, lr⟩ := hall c (by simp)
  have bp := fun i => BR.co hp.bound (by decide) i
  have bq := fun i => BR.co hq.bound (by decide) i
  have br := fun i => BR.co hr.bound (by decide) i
  have zp : ∀ i, 8 ≤ i → co p i = 0 := fun i hi => co_ge (by omega)
  have zq : ∀ i, 8 ≤ i → co q i = 0 := fun i hi => co_ge (by omega)
  have zr : ∀ i, 8 ≤ i → co r i = 0 := fun i hi => co_ge (by omega)
  have l03 := Hp.le_trans hl1 hl3
  refine own4_call hp (by omega) fun r4 h4 hl4 hr4 => own4_call (hq.le hl4) (by omega) fun r5 h5 hl5 hr5 => ?_
  have hl45 := Hp.le_trans hl4 hl5
  refine pMul_call (hr4.le hl5) hr5 (by omega) (by omega) (by decide) (by decide) (C := 73) (fun k n _ => (part_BR bp bq zq k n).mono (by decide)) (by decide) fun r6 h6 hr6 => ?_
  have hl36 := Hp.le_trans hl45 hr6.hle
  refine own4_call (hp.le hl36) (by omega) fun r7 h7 hl7 hr7 => own4_call ((hq.le hl36).le hl7) (by omega) fun r8 h8 hl8 hr8 => ?_
  have hl38 := Hp.le_trans hl36 (Hp.le_trans hl7 hl8)
  refine own4_call (hr.le hl38) (by omega) fun r9 h9 hl9 hr9 => ?_
  refine pAdd_call (hr8.le hl9) hr9 (by omega) (by omega) (C := 9) (by decide) (by decide) (fun i => BR.mono ((bq i).add (br i)) (by decide)) (by decide) fun r10 h10 hr10 => ?_
  have l10 := add_len lq lr
  have b10 := fun i => BR.co hr10.pl.bound (by decide) i
  have hl810 := Hp.le_trans hl8 (Hp.le_trans hl9 hr10.hle)
  refine pMul_call (hr7.le hl810) hr10.pl (by omega) (by omega) (by decide) (by decide) (C := 113) (fun k n _ => (part_BR bp b10 (N := 8) (fun i hi => co_ge (by omega)) k n).mono (by decide)) (by decide) fun r11 h11 hr11 => ?_
  have hl611 := Hp.le_trans hl7 (Hp.le_trans hl810 hr11.hle)
  have hl311 := Hp.le_trans hl36 hl611
  refine rpMul2_call (hp.le hl311) (hq.le hl311) (by omega) (by omega) (by decide) (by decide) (C := 73) (fun k n _ => (part_BR bq bp zp k n).mono (by decide)) (by decide) fun r12 h12 hl12 hr12 => ?_
  have hl612 := Hp.le_trans hl611 hl12
  have lM := mul_len lp lq
  refine good_eq (hr6.pl.le hl612) hr12 rfl (by omega) (by decide) (by decide) fun h13 hl13 => ifP_true rfl ?_
  have hl613 := Hp.le_trans hl612 hl13
  have hl313 := Hp.le_trans hl36 hl613
  refine own4_call (hq.le hl313) (by omega) fun r14 h14 hl14 hr14 => own4_call ((hp.le hl313).le hl14) (by omega) fun r15 h15 hl15 hr15 => ?_
  refine pMul_call (hr14.le hl15) hr15 (by omega) (by omega) (by decide) (by decide) (C := 73) (fun k n _ => (part_BR bq bp zp k n).mono (by decide)) (by decide) fun r16 h16 hr16 => ?_
  have hl1316 := Hp.le_trans hl14 (Hp.le_trans hl15 hr16.hle)
  have hl616 := Hp.le_trans hl613 hl1316
  have ecomm : trim (mulL q p) = trim (mulL p q) := trim_eq fun i => by rw [co_mulL, co_mulL, conv_comm]
  refine good_eq hr16.pl (hr6.pl.le hl616) ecomm (by rw [ecomm]; omega) (by decide) (by decide) fun h17 hl17 => ifP_true rfl ?_
  have hl617 := Hp.le_trans hl616 hl17
  have hl317 := Hp.le_trans hl36 hl617
  refine own4_call (hp.le hl317) (by omega) fun r18 h18 hl18 hr18 => own4_call ((hr.le hl317).le hl18) (by omega) fun r19 h19 hl19 hr19 => ?_
  refine pMul_call (hr18.le hl19) hr19 (by omega) (by omega) (by decide) (by decide) (C := 73) (fun k n _ => (part_BR bp br zr k n).mono (by decide)) (by decide) fun r20 h20 hr20 => ?_
  have hl1720 := Hp.le_trans hl18 (Hp.le_trans hl19 hr20.hle)
  have hl620 := Hp.le_trans hl617 hl1720
  have lM2 := mul_len lp lr
  refine pAdd_call (hr6.pl.le hl620) hr20.pl (by omega) (by omega) (C := 147) (by decide) (by decide) (fun i => BR.mono ((BR.co hr6.pl.bound (by decide) i).add (BR.co hr20.pl.bound (by decide) i)) (by decide)) (by decide) fun r21 h21 hr21 => ?_
  have hl1121 : h11.le h21 := Hp.le_trans hl12 (Hp.le_trans hl13 (Hp.le_trans hl1316 (Hp.le_trans hl17 (Hp.le_trans hl1720 hr21.hle))))
  have edist : trim (mulL p (trim (addL q r))) = trim (addL (trim (mulL p q)) (trim (mulL p r))) := trim_eq fun i => by
    rw [co_mulL, co_addL, co_tmul, co_tmul, ← conv_add]
    exact conv_congr (fun _ => rfl) fun j => by rw [co_trim, co_addL]
  refine good_eq (hr11.pl.le hl1121) hr21.pl edist (Nat.le_trans (mul_len lp l10) (by omega)) (by decide) (by decide) fun h22 hl22 => H _ ?_
  exact Hp.le_trans l03 (Hp.le_trans hl311 (Hp.le_trans hl1121 hl22))

theorem law_PolyDerivative (ha : AQ h a) (hb : AQ h b) (H : ∀ h', h.le h' → K true h') : F.law04_PolynomialDerivative a b K h := by
  unfold F.law04_PolynomialDerivative
  refine awake4_call fun h1 hl1 => ifP_false rfl ?_
  refine few_lit [a, b] rfl rfl (by decide) (fun s hs => ?_) (fun h3 hl3 hall => ifP_false rfl ?_) (fun h3 hl3 => ifP_true rfl (H _ (Hp.le_trans hl1 hl3)))
  · simp only [List.mem_cons, List.not_mem_nil, or_false] at hs
    rcases hs with rfl | rfl
    · exact ha.le hl1
    · exact hb.le hl1
  obtain ⟨p, hp, lp⟩ := hall a (by simp)
  obtain ⟨q, hq, lq⟩ := hall b (by simp)
  have bp := fun i => BR.co hp.bound (by decide) i
  have bq := fun i => BR.co hq.bound (by decide) i
  have zp : ∀ i, 8 ≤ i → co p i = 0 := fun i hi => co_ge (by omega)
  have zq : ∀ i, 8 ≤ i → co q i = 0 := fun i hi => co_ge (by omega)
  have l03 := Hp.le_trans hl1 hl3
  have ld : ∀ {p : List Rat}, p.length ≤ 8 → (trim (derL p)).length ≤ 8 := fun {p} h => tlen (by unfold derL derP; simp; omega)
  refine own4_call hp (by omega) fun r4 h4 hl4 hr4 => ?_
  refine pDerivative_call hr4 (by omega) (by decide) fun r5 h5 hr5 => ?_
  have hl35 := Hp.le_trans hl4 hr5.hle
  refine own4_call (hq.le hl35) (by omega) fun r6 h6 hl6 hr6 => ?_
  refine pDerivative_call hr6 (by omega) (by decide) fun r7 h7 hr7 => ?_
  have hl57 := Hp.le_trans hl6 hr7.hle
  have hl37 := Hp.le_trans hl35 hl57
  refine own4_call (hp.le hl37) (by omega) fun r8 h8 hl8 hr8 => own4_call ((hq.le hl37).le hl8) (by omega) fun r9 h9 hl9 hr9 => ?_
  refine pMul_call (hr8.le hl9) hr9 (by omega) (by omega) (by decide) (by decide) (C := 73) (fun k n _ => (part_BR bp bq zq k n).mono (by decide)) (by decide) fun r10 h10 hr10 => ?_
  have lM := mul_len lp lq
  refine pDerivative_call hr10.pl (by omega) (by decide) fun r11 h11 hr11 => ?_
  have hl711 := Hp.le_trans hl8 (Hp.le_trans hl9 (Hp.le_trans hr10.hle hr11.hle))
  have hl311 := Hp.le_trans hl37 hl711
  refine rDerivative_call (hp.le hl311) (by omega) (by decide) fun r12 h12 hr12 => ?_
  have hl512 := Hp.le_trans hl57 (Hp.le_trans hl711 hr12.hle)
  refine good_eq (hr5.pl.le hl512) hr12.pl rfl (Nat.le_trans (ld lp) (by omega)) (by decide) (by decide) fun h13 hl13 => ifP_true rfl ?_
  have hl513 := Hp.le_trans hl512 hl13
  have hl313 := Hp.le_trans hl35 hl513
  refine own4_call (hq.le hl313) (by omega) fun r14 h14 hl14 hr14 => ?_
  have b5 := fun i => BR.co hr5.pl.bound (by decide) i
  have b7 := fun i => BR.co hr7.pl.bound (by decide) i
  have hl514 := Hp.le_trans hl513 hl14
  have l5 := ld lp
  have l7 := ld lq
  refine pMul_call (hr5.pl.le hl514) hr14 (by omega) (by omega) (by decide) (by decide) (C := 81) (fun k n _ => (part_BR b5 bq zq k n).mono (by decide)) (by decide) fun r15 h15 hr15 => ?_
  have hl1315 := Hp.le_trans hl14 hr15.hle
  refine own4_call ((hp.le hl313).le hl1315) (by omega) fun r16 h16 hl16 hr16 => ?_
  have hl1116 := Hp.le_trans hr12.hle (Hp.le_trans hl13 (Hp.le_trans hl1315 hl16))
  have hl716 := Hp.le_trans hl711 hl1116
  refine pMul_call hr16 (hr7.pl.le hl716) (by omega) (by omega) (by decide) (by decide) (C := 81) (fun k n _ => (part_BR bp b7 (N := 8) (fun i hi => co_ge (by omega)) k n).mono (by decide)) (by decide) fun r17 h17 hr17 => ?_
  have l15 := mul_len (p := trim (derL p)) (q := q) (i := 8) (j := 8) (by omega) lq
  have l17 := mul_len (p := p) (q := trim (derL q)) (i := 8) (j := 8) lp (by omega)
  have hl1517 := Hp.le_trans hl16 hr17.hle
  refine pAdd_call (hr15.pl.le hl1517) hr17.pl (by omega) (by omega) (C := 163) (by decide) (by decide) (fun i => BR.mono ((BR.co hr15.pl.bound (by decide) i).add (BR.co hr17.pl.bound (by decide) i)) (by decide)) (by decide) fun r18 h18 hr18 => ?_
  have hl1118 := Hp.le_trans hl1116 (Hp.le_trans hr17.hle hr18.hle)
  have erule : trim (derL (trim (mulL p q))) = trim (addL (trim (mulL (trim (derL p)) q)) (trim (mulL p (trim (derL q))))) := trim_eq fun i => by
    rw [co_derL, co_addL, co_tmul, co_tmul]
    have e1 : der (co (trim (mulL p q))) i = der (conv (co p) (co q)) i := by unfold der; rw [co_tmul]
    rw [e1, der_conv]
    congr 1
    · exact conv_congr (fun j => by rw [co_trim, co_derL]) fun _ => rfl
    · exact conv_congr (fun _ => rfl) fun j => by rw [co_trim, co_derL]
  refine good_eq (hr11.pl.le hl1118) hr18.pl erule (tlen (by unfold derL derP; simp; omega)) (by decide) (by decide) fun h19 hl19 => H _ ?_
  exact Hp.le_trans l03 (Hp.le_trans hl311 (Hp.le_trans hl1118 hl19))

theorem law_PolyAdd (ha : AQ h a) (hb : AQ h b) (hn : AR h n) (H : ∀ h', h.le h' → K true h') : F.law04_PolynomialAdd a b n K h := by
  unfold F.law04_PolynomialAdd
  refine awake4_call fun h1 hl1 => ifP_false rfl ?_
  refine joinP_inv (fun _ h' => h.le h' ∧ ∃ p q v, PL h' 4 a p ∧ p.length ≤ 8 ∧ PL h' 4 b q ∧ q.length ≤ 8 ∧ NR h' n v ∧ BR 4 v) ?_ ?_
  · rintro _ h2 ⟨l02, p, q, v, hp, lp, hq, lq, hv, bv⟩
    have bp := fun i => BR.co hp.bound (by decide) i
    have bq := fun i => BR.co hq.bound (by decide) i
    refine own4_call hp (by omega) fun r4 h3 hl3 hr4 => ?_
    refine pTrim_call hr4 (by omega) (by decide) fun r5 h4 hr5 => ?_
    have hl24 := Hp.le_trans hl3 hr5.hle
    refine rTrim_call (hp.le hl24) (by omega) (by decide) fun r6 h5 hr6 => ?_
    refine good_eq (hr5.pl.le hr6.hle) hr6.pl rfl (tlen (by omega)) (by decide) (by decide) fun h6 hl6 => ifP_true rfl ?_
    have hl26 := Hp.le_trans hl24 (Hp.le_trans hr6.hle hl6)
    refine own4_call (hp.le hl26) (by omega) fun r8 h7 hl7 hr8 => ?_
    refine pDegree_call hr8 (by omega) (by decide) fun h8 hl8 => ?_
    have hl28 := Hp.le_trans hl26 (Hp.le_trans hl7 hl8)
    refine rDegree_call (hp.le hl28) (by omega) (by decide) fun h9 hl9 => ?_
    refine ifP_true (by simp) ?_
    have hl29 := Hp.le_trans hl28 hl9
    refine own4_call (hp.le hl29) (by omega) fun r11 h10 hl10 hr11 => own4_call ((hq.le hl29).le hl10) (by omega) fun r12 h11 hl11 hr12 => ?_
    refine pAdd_call (hr11.le hl11) hr12 (by omega) (by omega) (C := 9) (by decide) (by decide) (fun i => BR.mono ((bp i).add (bq i)) (by decide)) (by decide) fun r13 h12 hr13 => ?_
    have hl212 := Hp.le_trans hl29 (Hp.le_trans hl10 (Hp.le_trans hl11 hr13.hle))
    refine rpAdd_call (hp.le hl212) (hq.le hl212) (by omega) (by omega) (by decide) (by decide) (C := 9) (fun i => BR.mono ((bp i).add (bq i)) (by decide)) (by decide) fun r14 h13 hr14 => ?_
    refine good_eq (hr13.pl.le hr14.hle) hr14.pl rfl (Nat.le_trans (add_len lp lq) (by omega)) (by decide) (by decide) fun h14 hl14 => ifP_true rfl ?_
    have hl214 := Hp.le_trans hl212 (Hp.le_trans hr14.hle hl14)
    refine own4_call (hp.le hl214) (by omega) fun r16 h15 hl15 hr16 => own4_call ((hq.le hl214).le hl15) (by omega) fun r17 h16 hl16 hr17 => ?_
    refine pSub_call (hr16.le hl16) hr17 (by omega) (by omega) (C := 9) (by decide) (by decide) (fun i => BR.mono ((bp i).sub (bq i)) (by decide)) (by decide) fun r18 h17 hr18 => ?_
    have hl217 := Hp.le_trans hl214 (Hp.le_trans hl15 (Hp.le_trans hl16 hr18.hle))
    refine rpSub_call (hp.le hl217) (hq.le hl217) (by omega) (by omega) (by decide) (by decide) (C := 9) (fun i => BR.mono ((bp i).sub (bq i)) (by decide)) (by decide) fun r19 h18 hr19 => ?_
    have ln : (negL q).length ≤ 8 := by unfold negL; simpa using lq
    refine good_eq (hr18.pl.le hr19.hle) hr19.pl rfl (Nat.le_trans (add_len lp ln) (by omega)) (by decide) (by decide) fun h19 hl19 => ifP_true rfl ?_
    have hl219 := Hp.le_trans hl217 (Hp.le_trans hr19.hle hl19)
    refine own4_call (hp.le hl219) (by omega) fun r21 h20 hl20 hr21 => ?_
    refine pScale_call hr21 ((hv.le hl219).le hl20) bv (by omega) (by decide) (by decide) fun r22 h21 hr22 => ?_
    have hl221 := Hp.le_trans hl219 (Hp.le_trans hl20 hr22.hle)
    refine rScale_call (hp.le hl221) (hv.le hl221) bv (by omega) (by decide) (by decide) fun r23 h22 hr23 => ?_
    refine good_eq (hr22.pl.le hr23.hle) hr23.pl rfl (tlen (by simp; omega)) (by decide) (by decide) fun h23 hl23 => H _ ?_
    exact Hp.le_trans l02 (Hp.le_trans hl221 (Hp.le_trans hr23.hle hl23))
  · refine few_lit [a, b] rfl rfl (by decide) (fun s hs => ?_) (fun h3 hl3 hall => ifP_false rfl ?_) (fun h3 hl3 => ifP_true rfl (H _ (Hp.le_trans hl1 hl3)))
    · simp only [List.mem_cons, List.not_mem_nil, or_false] at hs
      rcases hs with rfl | rfl
      · exact ha.le hl1
      · exact hb.le hl1
    obtain ⟨p, hp, lp⟩ := hall a (by simp)
    obtain ⟨q, hq, lq⟩ := hall b (by simp)
    have l03 := Hp.le_trans hl1 hl3
    refine rShort_call (hn.le l03) (fun v h4 hl4 hv bv => ifP_false rfl ⟨Hp.le_trans l03 hl4, p, q, v, hp.le hl4, lp, hq.le hl4, lq, hv.le hl4, bv⟩) (fun h4 hl4 => ifP_true rfl (H _ (Hp.le_trans l03 hl4)))
end
end Den
end

section
/-
  The statements on polynomials, plain, continued.
-/
set_option linter.unusedVariables false
namespace Den
open Go Iv Pq
section
variable {h : Hp} {A B : Nat} {a b c l m : Sl} {n x : TRat} {p q r : List Rat} {Kb K : Bool → Hp → Prop}

theorem law_PolyDivMod (ha : AQ h a) (hb : AQ h b) (H : ∀ h', h.le h' → K true h') : F.law04_PolynomialDivMod a b K h := by
  unfold F.law04_PolynomialDivMod
  refine awake4_call fun h1 hl1 => ifP_false rfl ?_
  refine few_lit [a, b] rfl rfl (by decide) (fun s hs => ?_) (fun h3 hl3 hall => ifP_false rfl ?_) (fun h3 hl3 => ifP_true rfl (H _ (Hp.le_trans hl1 hl3)))
  · simp only [List.mem_cons, List.not_mem_nil, or_false] at hs
    rcases hs with rfl | rfl
    · exact ha.le hl1
    · exact hb.le hl1
  obtain ⟨p, hp, lp⟩ := hall a (by simp)
  obtain ⟨q, hq, lq⟩ := hall b (by simp)
  have bp := fun i => BR.co hp.bound (by decide) i
  have bq := fun i => BR.co hq.bound (by decide) i
  have zq : ∀ i, 8 ≤ i → co q i = 0 := fun i hi => co_ge (by omega)
  have l03 := Hp.le_trans hl1 hl3
  have tp := tlen lp
  have tq := tlen lq
  have hC : ∀ k j, trim q ≠ [] → k ≤ (trim p).length + 1 - (trim q).length → BR 3319 (restK (co q) ((trim q).length - 1) ((trim p).length + 1 - (trim q).length) (co p) k j) := fun k j h0 hk => by
    have hpos : 0 < (trim q).length := List.length_pos_iff.2 h0
    exact (restK_BR bp bq (lead_ne h0)).mono (Nat.le_trans (gB_mono (show k ≤ 8 by omega)) (by decide))
  refine own4_call hp (by omega) fun r4 h4 hl4 hr4 => own4_call (hq.le hl4) (by omega) fun r5 h5 hl5 hr5 => ?_
  have hl35 := Hp.le_trans hl4 hl5
  refine ppDivMod_call (hr4.le hl5) hr5 (by omega) (by omega) (by decide) (C := 3319) hC (by decide) (fun h0 h6 hl6 => ?_) fun h0 y z h6 qs rs hl6 hy hz lqs lrs hc hv => ?_
  · have hl36 := Hp.le_trans hl35 hl6
    refine rDegree_call (hq.le hl36) (by omega) (by decide) fun h7 hl7 => ?_
    refine ifP_true (by rw [h0]; rfl) (ifP_true rfl ?_)
    exact H _ (Hp.le_trans l03 (Hp.le_trans hl36 hl7))
  · have hl36 := Hp.le_trans hl35 hl6
    have hpos : 0 < (trim q).length := List.length_pos_iff.2 h0
    refine rDegree_call (hq.le hl36) (by omega) (by decide) fun h7 hl7 => ?_
    refine ifP_false (decide_eq_false (by omega)) ?_
    have hl37 := Hp.le_trans hl36 hl7
    refine rpDivMod_call (hp.le hl37) (hq.le hl37) (by omega) (by omega) (by decide) h0 (C := 3319) (fun k j hk => hC k j h0 hk) (by decide) fun y2 z2 h8 qs2 rs2 hl8 hy2 nq2 hz2 nr2 lq2 lr2 hc2 hv2 => ?_
    have hun := div_unique (q := co qs) (q' := co qs2) (b := co q) (r := co rs) (r' := co rs2) (d := (trim q).length - 1) (n := 1001) (lead_ne h0) (fun i hi => by rw [← co_trim, co_ge (by omega)]) (fun i hi => co_ge (by omega)) (fun i hi => co_ge (by omega)) hv hv2 fun i => by rw [hc, hc2]
    have e1 : trim qs = qs2 := nf_ext nf_trim nq2 fun i => by rw [co_trim, hun.1]
    have e2 : trim rs = rs2 := nf_ext nf_trim nr2 fun i => by rw [co_trim, hun.2]
    have hl68 := Hp.le_trans hl7 hl8
    have hl38 := Hp.le_trans hl37 hl8
    refine ifP_true rfl ?_
    have lt1 := tlen lqs
    have lt2 := tlen lrs
    refine good_eq (hy.le hl68) hy2 e1 (by omega) (by decide) (by decide) fun h9 hl9 => ifP_true rfl ?_
    refine good_eq ((hz.le hl68).le hl9) (hz2.le hl9) e2 (by omega) (by decide) (by decide) fun h10 hl10 => ifP_true rfl ?_
    have hl610 := Hp.le_trans hl68 (Hp.le_trans hl9 hl10)
    have hl310 := Hp.le_trans hl36 hl610
    refine own4_call (hq.le hl310) (by omega) fun r11 h11 hl11 hr11 => ?_
    have hl611 := Hp.le_trans hl610 hl11
    have lt1' : (trim qs).length ≤ 1000 := by rw [e1]; exact lq2
    refine pMul_call (hy.le hl611) hr11 lt1' (by omega) (by decide) (by decide) (C := 26625) (fun k n _ => BR.mono (part_BR (N := 8) (fun i => BR.co hy.bound (by decide) i) bq zq k n) (by decide)) (by decide) fun r12 h12 hr12 => ?_
    have hl612 := Hp.le_trans hl611 hr12.hle
    have lM := mul_len (p := trim qs) (q := q) (i := 1000) (j := 8) lt1' lq
    refine pAdd_call hr12.pl (hz.le hl612) (by omega) (by omega) (C := 29945) (by decide) (by decide) (fun i => BR.mono ((BR.co hr12.pl.bound (by decide) i).add (BR.co hz.bound (by decide) i)) (by decide)) (by decide) fun r13 h13 hr13 => ?_
    have hl613 := Hp.le_trans hl612 hr13.hle
    have hl313 := Hp.le_trans hl36 hl613
    refine rTrim_call (hp.le hl313) (by omega) (by decide) fun r14 h14 hr14 => ?_
    have e3 : trim (addL (trim (mulL (trim qs) q)) (trim rs)) = trim p := trim_eq fun i => by
      rw [co_addL, co_tmul, co_trim, conv_congr (g := co q) (fun _ => co_trim) (fun _ => rfl)]
      exact hc i
    refine good_eq (hr13.pl.le hr14.hle) hr14.pl e3 (by rw [e3]; omega) (by decide) (by decide) fun h15 hl15 => ifP_true rfl ?_
    have hl615 := Hp.le_trans hl613 (Hp.le_trans hr14.hle hl15)
    refine rDegree_call (hz.le hl615) (by omega) (by decide) fun h16 hl16 => ?_
    have hl316 := Hp.le_trans hl36 (Hp.le_trans hl615 hl16)
    refine rDegree_call (hq.le hl316) (by omega) (by decide) fun h17 hl17 => ?_
    have e4 : (trim (trim rs)).length ≤ (trim q).length - 1 := nf_len nf_trim fun i hi => by rw [co_trim, co_trim, hv i hi]
    have e5 : decide ((((trim (trim rs)).length : Int) - 1) < ((trim q).length : Int) - 1) = true := decide_eq_true (by omega)
    rw [e5]
    exact H _ (Hp.le_trans l03 (Hp.le_trans hl316 hl17))

theorem cmpQ_self {u : Rat} : (cmpQ u u == 0) = true := by
  have h1 : ¬ cmpQ u u < 0 := fun hh => absurd (cmpQ_lt.1 hh) (by grind)
  have h2 : ¬ cmpQ u u > 0 := fun hh => absurd (cmpQ_gt.1 hh) (by grind)
  have : cmpQ u u = 0 := by omega
  rw [this]; rfl
theorem law_PolyEval (ha : AQ h a) (hb : AQ h b) (hn : AR h x) (H : ∀ h', h.le h' → K true h') : F.law04_PolynomialEval a b x K h := by
  unfold F.law04_PolynomialEval
  refine awake4_call fun h1 hl1 => ifP_false rfl ?_
  refine joinP_inv (fun _ h' => h.le h' ∧ ∃ p q v, PL h' 4 a p ∧ p.length ≤ 5 ∧ PL h' 4 b q ∧ q.length ≤ 4 ∧ NR h' x v ∧ BR 4 v) ?_ ?_
  · rintro _ h2 ⟨l02, p, q, v, hp, lp, hq, lq, hv, bv⟩
    have bp := fun i => BR.co hp.bound (by decide) i
    have bq := fun i => BR.co hq.bound (by decide) i
    have zq : ∀ i, 4 ≤ i → co q i = 0 := fun i hi => co_ge (by omega)
    have bc : ∀ i j, BR 9890 (co (compL (p.drop i) q) j) := fun i j =>
      (comp_BR (A := 4) (B := 4) (by decide) hq.bound (by decide) (p := p.drop i) (fun w hw => hp.bound w (List.mem_of_mem_drop hw)) j).mono
        (Nat.le_trans (cB_mono (M := 4) lq (j := 5) (by rw [List.length_drop]; omega)) (by decide))
    refine own4_call hp (by omega) fun r4 h3 hl3 hr4 => own4_call (hq.le hl3) (by omega) fun r5 h4 hl4 hr5 => ?_
    refine pCompose_call (hr4.le hl4) hr5 (by omega) (by omega) (by decide) (by decide) (M := 39581) (fun i k n => BR.mono (part_BR (N := 4) (bc i) bq zq k n) (by decide)) (by decide) (C := 39581) (fun i j => BR.mono (bc i j) (by decide)) (by decide) fun r6 h5 hl5 hr6 => ?_
    have hl25 := Hp.le_trans hl3 (Hp.le_trans hl4 hl5)
    have hr6 := hr6.re (C := 9890) fun w hw => by
      obtain ⟨i, hi, rfl⟩ := List.mem_iff_getElem.1 hw
      have := bc 0 i
      rw [List.drop_zero, ← co_trim, co_lt hi] at this
      exact this
    refine own4_call (hq.le hl25) (by omega) fun r7 h6 hl6 hr7 => ?_
    refine pEval_call hr7 ((hv.le hl25).le hl6) bv (by omega) (by decide) (by decide) (C := 37) (fun i => (ev_drop_BR bv hq.bound i).mono (by have := Nat.mul_le_mul_right 9 lq; omega)) (by decide) fun r8 h7 hl7 hr8 => ?_
    have b8 : BR 37 (ev q v) := (ev_BR bv hq.bound).mono (by have := Nat.mul_le_mul_right 9 lq; omega)
    have hl57 := Hp.le_trans hl6 hl7
    have hl27 := Hp.le_trans hl25 hl57
    refine own4_call (hp.le hl27) (by omega) fun r9 h8 hl8 hr9 => ?_
    refine pEval_call hr9 (hr8.le hl8) b8 (by omega) (by decide) (by decide) (C := 211) (fun i => (ev_drop_BR b8 hp.bound i).mono (by have := Nat.mul_le_mul_right 42 lp; omega)) (by decide) fun r10 h9 hl9 hr10 => ?_
    have b10 : BR 211 (ev p (ev q v)) := (ev_BR b8 hp.bound).mono (by have := Nat.mul_le_mul_right 42 lp; omega)
    have hl79 := Hp.le_trans hl8 hl9
    have hl29 := Hp.le_trans hl27 hl79
    refine rCompose_call (hp.le hl29) (hq.le hl29) (by omega) (by omega) (by decide) (by decide) (M := 39581) (fun i k n => BR.mono (part_BR' (N := 4) bq (bc i) zq k n) (by decide)) (by decide) (C := 39581) (fun i j => BR.mono (bc i j) (by decide)) (by decide) fun r11 h10 hl10 hr11 => ?_
    have hl510 := Hp.le_trans hl57 (Hp.le_trans hl79 hl10)
    have lc : (trim (compL p q)).length ≤ 25 := tlen (by have := compL_len (p := p) (q := q); have := Nat.mul_le_mul lp (show q.length + 1 ≤ 5 by omega); omega)
    refine good_eq (hr6.le hl510) hr11 rfl (by omega) (by decide) (by decide) fun h11 hl11 => ifP_true rfl ?_
    have hl711 := Hp.le_trans hl79 (Hp.le_trans hl10 hl11)
    have h8' := hr8.le hl711
    have ln8 := h8'.lens b8
    refine rqValid_call h8'.ar (by omega) (by omega) (fun _ h12 hl12 _ => ifP_true rfl ?_) (fun _ _ hn => absurd ⟨_, h8'⟩ hn)
    have hl712 := Hp.le_trans hl711 hl12
    have hl212 := Hp.le_trans hl27 hl712
    refine rpEval_call (hq.le hl212) (hv.le hl212) bv (by omega) (by decide) (by decide) (C := 37) (fun i => (ev_drop_BR bv hq.bound i).mono (by have := Nat.mul_le_mul_right 9 lq; omega)) (by decide) fun r14 h13 hl13 hr14 => ?_
    refine rqCmp_call ((hr8.le hl712).le hl13) hr14 b8 b8 (by decide) (by decide) fun h14 hl14 => ifP_true cmpQ_self ?_
    have hl714 := Hp.le_trans hl712 (Hp.le_trans hl13 hl14)
    have hl914 : h9.le h14 := Hp.le_trans hl10 (Hp.le_trans hl11 (Hp.le_trans hl12 (Hp.le_trans hl13 hl14)))
    have h10' := hr10.le hl914
    have ln10 := h10'.lens b10
    refine rqValid_call h10'.ar (by omega) (by omega) (fun _ h15 hl15 _ => ifP_true rfl ?_) (fun _ _ hn => absurd ⟨_, h10'⟩ hn)
    have hl715 := Hp.le_trans hl714 hl15
    have hl215 := Hp.le_trans hl27 hl715
    refine rpEval_call (hp.le hl215) (hr8.le hl715) b8 (by omega) (by decide) (by decide) (C := 211) (fun i => (ev_drop_BR b8 hp.bound i).mono (by have := Nat.mul_le_mul_right 42 lp; omega)) (by decide) fun r17 h16 hl16 hr17 => ?_
    refine rqCmp_call ((h10'.le hl15).le hl16) hr17 b10 b10 (by decide) (by decide) fun h17 hl17 => ifP_true cmpQ_self ?_
    have hl1417 := Hp.le_trans hl15 (Hp.le_trans hl16 hl17)
    have hl717 := Hp.le_trans hl714 hl1417
    have hl517 := Hp.le_trans hl57 hl717
    have hl217 := Hp.le_trans hl25 hl517
    refine pEval_call (hr6.le hl517) (hv.le hl217) bv (by omega) (by decide) (by decide) (C := 198000) (fun i => (ev_drop_BR (A := 9890) bv (fun w hw => hr6.bound w hw) i).mono ?_) (by decide) fun r19 h18 hl18 hr19 => ?_
    · have l20 : (trim (compL p q)).length ≤ 20 := by
        refine nf_len nf_trim fun j hj => ?_
        rw [co_trim]
        have key : ∀ (t : List Rat) (j : Nat), 3 * t.length + 1 ≤ j → co (compL t q) j = 0 := by
          intro t
          induction t with
          | nil => intro j _; rfl
          | cons c t ih =>
            intro j hj
            simp only [List.length_cons] at hj
            simp only [compL]
            rw [co_addL, co_mulL, conv_zero_of (a := 3 * t.length + 1) (b := 4) (fun i hi => ih i hi) zq (by omega), co_ge (by simp; omega), Rat.add_zero]
        exact key p j (by omega)
      exact Nat.le_trans (Nat.add_le_add_right (Nat.mul_le_mul_right _ l20) 1) (by decide)
    have e1 : ev (trim (compL p q)) v = ev p (ev q v) := by rw [ev_trim, ev_compL]
    rw [e1] at hr19
    refine rqCmp_call hr19 ((h10'.le hl1417).le hl18) b10 b10 (by decide) (by decide) fun h19 hl19 => ?_
    rw [cmpQ_self]
    exact H _ (Hp.le_trans l02 (Hp.le_trans hl217 (Hp.le_trans hl18 hl19)))
  · refine rSmall_call (n := 5) (ha.le hl1) (by decide) (fun p h2 hl2 hp lp => ifP_false rfl ?_) (fun h2 hl2 => ifP_true rfl (H _ (Hp.le_trans hl1 hl2)))
    have l02 := Hp.le_trans hl1 hl2
    refine rSmall_call (n := 4) (hb.le l02) (by decide) (fun q h3 hl3 hq lq => ifP_false rfl ?_) (fun h3 hl3 => ifP_true rfl (H _ (Hp.le_trans l02 hl3)))
    have l03 := Hp.le_trans l02 hl3
    refine rShort_call (hn.le l03) (fun v h4 hl4 hv bv => ifP_false rfl ⟨Hp.le_trans l03 hl4, p, q, v, hp.le (Hp.le_trans hl2 (Hp.le_trans hl3 hl4)), lp, hq.le (Hp.le_trans hl3 hl4), lq, hv.le hl4, bv⟩) (fun h4 hl4 => ifP_true rfl (H _ (Hp.le_trans l03 hl4)))

theorem bndQ_BR (hp : ∀ i, BR A (co p i)) : BR (A + (1 + A) + 2) (bndQ p) := by
  unfold bndQ
  have b0 : BR (A + (1 + A)) (((0 : Int) : Rat)) := BR_zero.mono (by omega)
  split
  · exact b0.mono (by omega)
  · rename_i hlen
    have h0 : trim p ≠ [] := fun hh => by rw [monQ_len, hh] at hlen; simp at hlen
    have bl : BR (1 + A) ((((1 : Int) : Rat)) / lead p) := BR_one.div (hp _) (NR.num_ne (y := zT) (lead_ne h0))
    have bm : ∀ v ∈ monQ p, BR (A + (1 + A)) v := fun v hv => by
      obtain ⟨i, hi, rfl⟩ := List.mem_iff_getElem.1 hv
      rw [← co_lt hi, co_monQ]
      exact (bl.mul (hp i)).mono (by omega)
    have key : ∀ (L : List Rat) (m : Rat), BR (A + (1 + A)) m → (∀ v ∈ L, BR (A + (1 + A)) v) → BR (A + (1 + A)) (L.foldl mxS m) := by
      intro L
      induction L with
      | nil => intro m hm _; exact hm
      | cons a L ih => intro m hm hL; exact ih _ (mx_BR hm (hL a (by simp))) fun v hv => hL v (by simp [hv])
    exact ((key _ _ b0 fun v hv => bm v (List.mem_of_mem_take hv)).add BR_one).mono (by omega)
theorem law_PolyPrimitive (ha : AQ h a) (hn : AR h n) (H : ∀ h', h.le h' → K true h') : F.law04_PolynomialPrimitive a n K h := by
  unfold F.law04_PolynomialPrimitive
  refine awake4_call fun h1 hl1 => ifP_false rfl ?_
  refine joinP_inv (fun _ h' => h.le h' ∧ ∃ p v, PL h' 4 a p ∧ p.length ≤ 8 ∧ NR h' n v ∧ BR 4 v) ?_ ?_
  · rintro _ h2 ⟨l02, p, v, hp, lp, hv, bv⟩
    have bp := fun i => BR.co hp.bound (by decide) i
    have same_of : ∀ {us us' : List Int}, us.length = (trim p).length → us'.length = (trim p).length → (trim p ≠ [] → Prim us (trim p)) → (trim p ≠ [] → Prim us' (trim p)) → us = us' := fun {us us'} h1 h2 h3 h4 => by
      by_cases h0 : trim p = []
      · rw [h0, List.length_nil] at h1 h2
        rw [List.eq_nil_of_length_eq_zero h1, List.eq_nil_of_length_eq_zero h2]
      · exact prim_unique h0 (h3 h0) (h4 h0)
    refine own4_call hp (by omega) fun r4 h3 hl3 hr4 => ?_
    refine ppPrim_call hr4 (by omega) (by decide) fun r5 h4 us hl4 hu lu pu => ?_
    have hl24 := Hp.le_trans hl3 hl4
    refine rpPrim_call (hp.le hl24) (by omega) (by decide) fun r6 h5 us' hl5 hu' lu' pu' => ?_
    obtain rfl := same_of lu lu' pu pu'
    have hl25 := Hp.le_trans hl24 hl5
    have tl := tlen lp
    refine joinP_inv (fun _ h' => h5.le h') ?_ ?_
    · rintro _ h6 hl6
      have hl26 := Hp.le_trans hl25 hl6
      refine own4_call (hp.le hl26) (by omega) fun r9 h7 hl7 hr9 => ?_
      refine pBound_call hr9 (by omega) (by decide) fun r10 h8 hl8 hr10 => ?_
      have bb : BR 11 (bndQ p) := (bndQ_BR bp).mono (by decide)
      have ln := hr10.lens bb
      refine rqValid_call hr10.ar (by omega) (by omega) (fun _ h9 hl9 _ => ifP_true rfl ?_) (fun _ _ hn => absurd ⟨_, hr10⟩ hn)
      have hl29 := Hp.le_trans hl26 (Hp.le_trans hl7 (Hp.le_trans hl8 hl9))
      refine rBound_call (hp.le hl29) (by omega) (by decide) fun r12 h10 hl10 hr12 => ?_
      refine rqCmp_call ((hr10.le hl9).le hl10) hr12 bb bb (by decide) (by decide) fun h11 hl11 => ?_
      rw [cmpQ_self]
      exact H _ (Hp.le_trans l02 (Hp.le_trans hl29 (Hp.le_trans hl10 hl11)))
    · refine same4_call (hu.le hl5) hu' (by omega) fun h6 hl6 => ifP_false rfl ?_
      have hl26 := Hp.le_trans hl25 hl6
      refine rqSign_call (hv.le hl26) bv (by decide) ?_
      refine ifP_ne (fun h7 => ?_) (fun h7 => hl6)
      have hv0 : v ≠ 0 := fun hh => h7 (by rw [hh]; rfl)
      refine rScale_call (hp.le hl26) (hv.le hl26) bv (by omega) (by decide) (by decide) fun r16 h8 hr16 => ?_
      have em : trim (p.map (v * ·)) = (trim p).map (v * ·) := by
        rw [← trim_nf (nf_mapc hv0 (nf_trim (p := p)))]
        exact trim_eq fun i => by rw [co_mapc, co_mapc, co_trim]
      refine ppPrim_call hr16.pl (tlen (by simp; omega)) (by decide) fun r17 h9 us2 hl9 hu2 lu2 pu2 => ?_
      rw [trim_trim, em] at lu2 pu2
      rw [List.length_map] at lu2
      have e2 : us2 = us := by
        by_cases h0 : trim p = []
        · rw [h0, List.length_nil] at lu lu2
          rw [List.eq_nil_of_length_eq_zero lu, List.eq_nil_of_length_eq_zero lu2]
        · have hm : (trim p).map (v * ·) ≠ [] := fun hh => h0 (by simpa using hh)
          refine prim_unique hm (pu2 hm) ((pu h0).scale hv0 (by simp) fun i g1 g2 => by simp)
      subst e2
      refine same4_call hu2 (hu'.le (Hp.le_trans hl6 (Hp.le_trans hr16.hle hl9))) (by omega) fun h10 hl10 => ifP_false rfl ?_
      exact Hp.le_trans hl6 (Hp.le_trans hr16.hle (Hp.le_trans hl9 hl10))
  · refine few_lit [a] rfl rfl (by decide) (fun s hs => ?_) (fun h3 hl3 hall => ifP_false rfl ?_) (fun h3 hl3 => ifP_true rfl (H _ (Hp.le_trans hl1 hl3)))
    · simp only [List.mem_cons, List.not_mem_nil, or_false] at hs
      subst hs
      exact ha.le hl1
    obtain ⟨p, hp, lp⟩ := hall a (by simp)
    have l03 := Hp.le_trans hl1 hl3
    refine rShort_call (hn.le l03) (fun v h4 hl4 hv bv => ifP_false rfl ⟨Hp.le_trans l03 hl4, p, v, hp.le hl4, lp, hv.le hl4, bv⟩) (fun h4 hl4 => ifP_true rfl (H _ (Hp.le_trans l03 hl4)))
end
end Den
end
