/-
  Part 3 of the tools and contracts from which the statement is proved.
-/
import Derived.Test.YtlddjhibbccljaaGreatPartc2
import Derived.Lib.Bytealg
set_option linter.unusedVariables false
section
/- MADE BY fbuild.py: the bodies of the functions, in typed shallow form. No program in sight. -/
set_option linter.unusedVariables false
set_option maxRecDepth 10000
namespace Den
open Go
structure TInt where
  neg : Bool
  mag : Sl
def tyTInt : Ty TInt := Ty.agg [.bool, .sl] (fun x => (x.neg, x.mag, ())) (fun y => ⟨y.1, y.2.1⟩) (fun _ => rfl) (fun _ => rfl)
structure TRat where
  num : TInt
  den : TInt
def tyTRat : Ty TRat := Ty.agg [.bool, .sl, .bool, .sl] (fun x => (x.num.neg, x.num.mag, x.den.neg, x.den.mag, ())) (fun y => ⟨⟨y.1, y.2.1⟩, ⟨y.2.2.1, y.2.2.2.1⟩⟩) (fun _ => rfl) (fun _ => rfl)
structure TInterval where
  low : TRat
  high : TRat
def tyTInterval : Ty TInterval := Ty.agg [.bool, .sl, .bool, .sl, .bool, .sl, .bool, .sl] (fun x => (x.low.num.neg, x.low.num.mag, x.low.den.neg, x.low.den.mag, x.high.num.neg, x.high.num.mag, x.high.den.neg, x.high.den.mag, ())) (fun y => ⟨⟨⟨y.1, y.2.1⟩, ⟨y.2.2.1, y.2.2.2.1⟩⟩, ⟨⟨y.2.2.2.2.1, y.2.2.2.2.2.1⟩, ⟨y.2.2.2.2.2.2.1, y.2.2.2.2.2.2.2.1⟩⟩⟩) (fun _ => rfl) (fun _ => rfl)
structure A2_TRat where
  c0 : TRat
  c1 : TRat
def tyA2_TRat : Ty A2_TRat := Ty.agg [.bool, .sl, .bool, .sl, .bool, .sl, .bool, .sl] (fun x => (x.c0.num.neg, x.c0.num.mag, x.c0.den.neg, x.c0.den.mag, x.c1.num.neg, x.c1.num.mag, x.c1.den.neg, x.c1.den.mag, ())) (fun y => ⟨⟨⟨y.1, y.2.1⟩, ⟨y.2.2.1, y.2.2.2.1⟩⟩, ⟨⟨y.2.2.2.2.1, y.2.2.2.2.2.1⟩, ⟨y.2.2.2.2.2.2.1, y.2.2.2.2.2.2.2.1⟩⟩⟩) (fun _ => rfl) (fun _ => rfl)
def idxByte (s : ByteArray) (c : Int) : Int := Lib.indexByte s.data.toList c.toNat.toUInt8
namespace F
def integer_trim (m : Sl) (K : Sl → Hp → Prop) (h : Hp) : Prop :=
 (loopP (S := Sl × Unit) (fun s1 k2 h1 =>
 (joinP (S := Unit) (fun s3 h2 =>
 (slP s1.1 0 (IntKind.i64.wrap ((s1.1.len : Int) - 1)) 1 fun c5 =>
 (k2 (c5, ()) h2)))
 (fun k4 =>
 (ifP (decide ((s1.1.len : Int) > 0))
 (idxP s1.1 (IntKind.i64.wrap ((s1.1.len : Int) - 1)) 1 fun a6 =>
 (ldL (.int .u32) a6 (fun x7 =>
 (ifP (x7 == 0)
 (k4 () h1)
 (K s1.1 h1))) h1))
 (K s1.1 h1)))))
 (m, ()) h)
def integer_fromUint (n : Int) (K : Sl → Hp → Prop) (h : Hp) : Prop :=
 (0 ≤ (32 : Int) ∧
 (newP [.int .u32 (IntKind.u32.wrap (n)), .int .u32 (IntKind.u32.wrap ((n : Int).fdiv (2 ^ (min (32 : Int).toNat IntKind.u64.bits))))] (fun p1 h1 =>
 (callP (integer_trim (⟨some p1, 2, 2⟩ : Sl)) (fun r2 h2 =>
 (K r2 h2)) h1)) h))
def integer_signed (neg : Bool) (m : Sl) (K : TInt → Hp → Prop) (h : Hp) : Prop :=
 (callP (integer_trim m) (fun r1 h1 =>
 (ifP ((r1.len : Int) == 0)
 (K (⟨false, nilS⟩ : TInt) h1)
 (K (⟨neg, r1⟩ : TInt) h1))) h)
def integer_FromInt (n : Int) (K : TInt → Hp → Prop) (h : Hp) : Prop :=
 (joinP (S := Int × Unit) (fun s1 h1 =>
 (callP (integer_fromUint s1.1) (fun r3 h2 =>
 (callP (integer_signed (decide (n < 0)) r3) (fun r4 h3 =>
 (K r4 h3)) h2)) h1))
 (fun k2 =>
 (ifP (decide (n < 0))
 (k2 ((IntKind.u64.wrap (0 - (IntKind.u64.wrap (n)))), ()) h)
 (k2 ((IntKind.u64.wrap (n)), ()) h))))
def rational_one (K : TInt → Hp → Prop) (h : Hp) : Prop :=
 (callP (integer_FromInt 1) (fun r1 h1 =>
 (K r1 h1)) h)
def rational_FromInt (n : Int) (K : TRat → Hp → Prop) (h : Hp) : Prop :=
 (callP (integer_FromInt n) (fun r1 h1 =>
 (callP (rational_one) (fun r2 h2 =>
 (K (⟨r1, r2⟩ : TRat) h2)) h1)) h)
def integer_Sign (a : TInt) (K : Int → Hp → Prop) (h : Hp) : Prop :=
 (callP (integer_trim a.mag) (fun r1 h1 =>
 (ifP ((r1.len : Int) == 0)
 (K 0 h1)
 (ifP a.neg
 (K (-1) h1)
 (K 1 h1)))) h)
def rational_Sign (a : TRat) (K : Int → Hp → Prop) (h : Hp) : Prop :=
 (callP (integer_Sign a.num) (fun r1 h1 =>
 (K r1 h1)) h)
def integer_times (a : Sl) (b : Sl) (K : Sl → Hp → Prop) (h : Hp) : Prop :=
 (joinP (S := Unit) (fun s1 h1 =>
 (mkP (IntKind.i64.wrap ((a.len : Int) + (b.len : Int))) (IntKind.i64.wrap ((a.len : Int) + (b.len : Int))) 4 [.int .u32 0] (fun m3 h2 =>
 (loopP (S := Int × Unit) (fun s4 k5 h3 =>
 (ifP (decide (s4.1 < (a.len : Int)))
 (idxP a s4.1 1 fun a6 =>
 (ldL (.int .u32) a6 (fun x7 =>
 (loopP (S := Int × Int × Unit) (fun s8 k9 h4 =>
 (ifP (decide (s8.2.1 < (b.len : Int)))
 (idxP b s8.2.1 1 fun a10 =>
 (ldL (.int .u32) a10 (fun x11 =>
 (idxP m3 (IntKind.i64.wrap (s4.1 + s8.2.1)) 1 fun a12 =>
 (ldL (.int .u32) a12 (fun x13 =>
 (idxP m3 (IntKind.i64.wrap (s4.1 + s8.2.1)) 1 fun a14 =>
 (stP a14 [.int .u32 (IntKind.u32.wrap ((IntKind.u64.wrap (s8.1 + (IntKind.u64.wrap ((IntKind.u64.wrap ((IntKind.u64.wrap (x7)) * (IntKind.u64.wrap (x11)))) + (IntKind.u64.wrap (x13))))))))] (fun h5 =>
 (0 ≤ (32 : Int) ∧
 (k9 (((IntKind.u64.wrap (s8.1 + (IntKind.u64.wrap ((IntKind.u64.wrap ((IntKind.u64.wrap (x7)) * (IntKind.u64.wrap (x11)))) + (IntKind.u64.wrap (x13)))))) : Int).fdiv (2 ^ (min (32 : Int).toNat IntKind.u64.bits)), (IntKind.i64.wrap (s8.2.1 + 1)), ()) h5))) h4))) h4))) h4))
 (idxP m3 (IntKind.i64.wrap (s4.1 + (b.len : Int))) 1 fun a15 =>
 (stP a15 [.int .u32 (IntKind.u32.wrap (s8.1))] (fun h6 =>
 (k5 ((IntKind.i64.wrap (s4.1 + 1)), ()) h6)) h4))))
 (0, 0, ()) h3)) h3))
 (callP (integer_trim m3) (fun r16 h7 =>
 (K r16 h7)) h3)))
 (0, ()) h2)) h1))
 (fun k2 =>
 (ifP ((a.len : Int) == 0)
 (K nilS h)
 (ifP ((b.len : Int) == 0)
 (K nilS h)
 (k2 () h)))))
def integer_Mul (a : TInt) (b : TInt) (K : TInt → Hp → Prop) (h : Hp) : Prop :=
 (callP (integer_trim a.mag) (fun r1 h1 =>
 (callP (integer_trim b.mag) (fun r2 h2 =>
 (callP (integer_times r1 r2) (fun r3 h3 =>
 (callP (integer_signed (!(a.neg == b.neg)) r3) (fun r4 h4 =>
 (K r4 h4)) h3)) h2)) h1)) h)
def cmp_isNaN_int (x : Int) (K : Bool → Hp → Prop) (h : Hp) : Prop :=
 (K (x != x) h)
def cmp_Compare_int (x : Int) (y : Int) (K : Int → Hp → Prop) (h : Hp) : Prop :=
 (callP (cmp_isNaN_int x) (fun r1 h1 =>
 (callP (cmp_isNaN_int y) (fun r2 h2 =>
 (ifP r1
 (ifP r2
 (K 0 h2)
 (K (-1) h2))
 (ifP r2
 (K 1 h2)
 (ifP (decide (x < y))
 (K (-1) h2)
 (ifP (decide (x > y))
 (K 1 h2)
 (K 0 h2)))))) h1)) h)
def cmp_isNaN_uint32 (x : Int) (K : Bool → Hp → Prop) (h : Hp) : Prop :=
 (K (x != x) h)
def cmp_Compare_uint32 (x : Int) (y : Int) (K : Int → Hp → Prop) (h : Hp) : Prop :=
 (callP (cmp_isNaN_uint32 x) (fun r1 h1 =>
 (callP (cmp_isNaN_uint32 y) (fun r2 h2 =>
 (ifP r1
 (ifP r2
 (K 0 h2)
 (K (-1) h2))
 (ifP r2
 (K 1 h2)
 (ifP (decide (x < y))
 (K (-1) h2)
 (ifP (decide (x > y))
 (K 1 h2)
 (K 0 h2)))))) h1)) h)
def integer_compare (a : Sl) (b : Sl) (K : Int → Hp → Prop) (h : Hp) : Prop :=
 (ifP ((a.len : Int) != (b.len : Int))
 (callP (cmp_Compare_int (a.len : Int) (b.len : Int)) (fun r1 h1 =>
 (K r1 h1)) h)
 (loopP (S := Int × Unit) (fun s2 k3 h2 =>
 (ifP (decide (s2.1 ≥ 0))
 (idxP a s2.1 1 fun a4 =>
 (ldL (.int .u32) a4 (fun x5 =>
 (idxP b s2.1 1 fun a6 =>
 (ldL (.int .u32) a6 (fun x7 =>
 (ifP (x5 != x7)
 (idxP a s2.1 1 fun a8 =>
 (ldL (.int .u32) a8 (fun x9 =>
 (idxP b s2.1 1 fun a10 =>
 (ldL (.int .u32) a10 (fun x11 =>
 (callP (cmp_Compare_uint32 x9 x11) (fun r12 h3 =>
 (K r12 h3)) h2)) h2))) h2))
 (k3 ((IntKind.i64.wrap (s2.1 - 1)), ()) h2))) h2))) h2))
 (K 0 h2)))
 ((IntKind.i64.wrap ((a.len : Int) - 1)), ()) h))
def integer_Cmp (a : TInt) (b : TInt) (K : Int → Hp → Prop) (h : Hp) : Prop :=
 (callP (integer_Sign a) (fun r1 h1 =>
 (callP (integer_Sign b) (fun r2 h2 =>
 (ifP (r1 != r2)
 (callP (cmp_Compare_int r1 r2) (fun r3 h3 =>
 (K r3 h3)) h2)
 (callP (integer_trim a.mag) (fun r4 h4 =>
 (callP (integer_trim b.mag) (fun r5 h5 =>
 (callP (integer_compare r4 r5) (fun r6 h6 =>
 (K (IntKind.i64.wrap (r1 * r6)) h6)) h5)) h4)) h2))) h1)) h)
def rational_Cmp (a : TRat) (b : TRat) (K : Int → Hp → Prop) (h : Hp) : Prop :=
 (callP (rational_Sign a) (fun r1 h1 =>
 (callP (rational_Sign b) (fun r2 h2 =>
 (ifP (r1 != r2)
 (ifP (decide (r1 < r2))
 (K (-1) h2)
 (K 1 h2))
 (callP (integer_Mul a.num b.den) (fun r3 h3 =>
 (callP (integer_Mul b.num a.den) (fun r4 h4 =>
 (callP (integer_Cmp r3 r4) (fun r5 h5 =>
 (K r5 h5)) h4)) h3)) h2))) h1)) h)
def interval_Contains (a : TInterval) (x : TRat) (K : Bool → Hp → Prop) (h : Hp) : Prop :=
 (callP (rational_Cmp a.low x) (fun r1 h1 =>
 (ifP (decide (r1 ≤ 0))
 (callP (rational_Cmp x a.high) (fun r2 h2 =>
 (K (decide (r2 ≤ 0)) h2)) h1)
 (K false h1))) h)
def rational_isZero (a : TInt) (K : Bool → Hp → Prop) (h : Hp) : Prop :=
 (K ((a.mag.len : Int) == 0) h)
def slices_Clone_uint32_uint32 (s : Sl) (K : Sl → Hp → Prop) (h : Hp) : Prop :=
 (ifP s.a.isNone
 (K nilS h)
 (newP [] (fun p1 h1 =>
 (rdO s.a (s.len * 1) (fun vs2 =>
 (appP 1 4 [.int .u32 0] (⟨some p1, 0, 0⟩ : Sl) s.len vs2 (fun w3 h2 =>
 (K w3 h2)) h1)) h1)) h))
def slices_Backward_uint32_uint32 (s : Sl) (K : Addr → Hp → Prop) (h : Hp) : Prop :=
 (newP [.slice s.a s.len s.cap] (fun p1 h1 =>
 (K p1 h1)) h)
def integer_toUint (m : Sl) (K : Int → Hp → Prop) (h : Hp) : Prop :=
 (callP (slices_Backward_uint32_uint32 m) (fun r1 h1 =>
 (backP (S := (Int × Unit) × Unit) (.leaf (.int .u32)) r1 (fun i2 v3 s4 k5 h2 =>
 (0 ≤ (32 : Int) ∧
 (k5 ((ibits .or .u64 (IntKind.u64.wrap (s4.1.1 * 2 ^ (min (32 : Int).toNat IntKind.u64.bits))) (IntKind.u64.wrap (v3)), ()), ()) h2)))
 ((0, ()), ()) (fun s6 h3 =>
 (K s6.1.1 h3)) h1)) h)
def integer_divideWord (a : Sl) (b : Int) (K : (Sl × Sl) → Hp → Prop) (h : Hp) : Prop :=
 (mkP (a.len : Int) (a.len : Int) 4 [.int .u32 0] (fun m1 h1 =>
 (loopP (S := Int × Int × Unit) (fun s2 k3 h2 =>
 (ifP (decide (s2.2.1 ≥ 0))
 (0 ≤ (32 : Int) ∧
 (idxP a s2.2.1 1 fun a4 =>
 (ldL (.int .u32) a4 (fun x5 =>
 (((IntKind.u64.wrap (b)) : Int) ≠ 0 ∧
 (idxP m1 s2.2.1 1 fun a6 =>
 (stP a6 [.int .u32 (IntKind.u32.wrap ((IntKind.u64.wrap (((ibits .or .u64 (IntKind.u64.wrap (s2.1 * 2 ^ (min (32 : Int).toNat IntKind.u64.bits))) (IntKind.u64.wrap (x5))) : Int).tdiv (IntKind.u64.wrap (b))))))] (fun h3 =>
 (((IntKind.u64.wrap (b)) : Int) ≠ 0 ∧
 (k3 (((ibits .or .u64 (IntKind.u64.wrap (s2.1 * 2 ^ (min (32 : Int).toNat IntKind.u64.bits))) (IntKind.u64.wrap (x5))) : Int).tmod (IntKind.u64.wrap (b)), (IntKind.i64.wrap (s2.2.1 - 1)), ()) h3))) h2)))) h2)))
 (callP (integer_trim m1) (fun r7 h4 =>
 (callP (integer_fromUint s2.1) (fun r8 h5 =>
 (K (r7, r8) h5)) h4)) h2)))
 (0, (IntKind.i64.wrap ((a.len : Int) - 1)), ()) h1)) h)
def math_bits_Len32 (x : Int) (K : Int → Hp → Prop) (h : Hp) : Prop :=
 (joinP (S := Int × Int × Unit) (fun s1 h1 =>
 (joinP (S := Int × Int × Unit) (fun s3 h2 =>
 (strIdx ⟨#[0, 1, 2, 2, 3, 3, 3, 3, 4, 4, 4, 4, 4, 4, 4, 4, 5, 5, 5, 5, 5, 5, 5, 5, 5, 5, 5, 5, 5, 5, 5, 5, 6, 6, 6, 6, 6, 6, 6, 6, 6, 6, 6, 6, 6, 6, 6, 6, 6, 6, 6, 6, 6, 6, 6, 6, 6, 6, 6, 6, 6, 6, 6, 6, 7, 7, 7, 7, 7, 7, 7, 7, 7, 7, 7, 7, 7, 7, 7, 7, 7, 7, 7, 7, 7, 7, 7, 7, 7, 7, 7, 7, 7, 7, 7, 7, 7, 7, 7, 7, 7, 7, 7, 7, 7, 7, 7, 7, 7, 7, 7, 7, 7, 7, 7, 7, 7, 7, 7, 7, 7, 7, 7, 7, 7, 7, 7, 7, 8, 8, 8, 8, 8, 8, 8, 8, 8, 8, 8, 8, 8, 8, 8, 8, 8, 8, 8, 8, 8, 8, 8, 8, 8, 8, 8, 8, 8, 8, 8, 8, 8, 8, 8, 8, 8, 8, 8, 8, 8, 8, 8, 8, 8, 8, 8, 8, 8, 8, 8, 8, 8, 8, 8, 8, 8, 8, 8, 8, 8, 8, 8, 8, 8, 8, 8, 8, 8, 8, 8, 8, 8, 8, 8, 8, 8, 8, 8, 8, 8, 8, 8, 8, 8, 8, 8, 8, 8, 8, 8, 8, 8, 8, 8, 8, 8, 8, 8, 8, 8, 8, 8, 8, 8, 8, 8, 8, 8, 8, 8, 8, 8, 8, 8, 8, 8, 8, 8, 8, 8, 8, 8, 8, 8, 8, 8, 8]⟩ (IntKind.u8.wrap (s3.1)) fun c5 =>
 (K (IntKind.i64.wrap (s3.2.1 + (IntKind.i64.wrap (c5)))) h2)))
 (fun k4 =>
 (ifP (decide (s1.1 ≥ 256))
 (0 ≤ (8 : Int) ∧
 (k4 ((s1.1 : Int).fdiv (2 ^ (min (8 : Int).toNat IntKind.u32.bits)), (IntKind.i64.wrap (s1.2.1 + 8)), ()) h1))
 (k4 (s1.1, s1.2.1, ()) h1)))))
 (fun k2 =>
 (ifP (decide (x ≥ 65536))
 (0 ≤ (16 : Int) ∧
 (k2 ((x : Int).fdiv (2 ^ (min (16 : Int).toNat IntKind.u32.bits)), 16, ()) h))
 (k2 (x, 0, ()) h))))
def math_bits_LeadingZeros32 (x : Int) (K : Int → Hp → Prop) (h : Hp) : Prop :=
 (callP (math_bits_Len32 x) (fun r1 h1 =>
 (K (IntKind.i64.wrap (32 - r1)) h1)) h)
def integer_shiftLeft (a : Sl) (n : Int) (K : Sl → Hp → Prop) (h : Hp) : Prop :=
 (mkP (IntKind.i64.wrap ((a.len : Int) + 1)) (IntKind.i64.wrap ((a.len : Int) + 1)) 4 [.int .u32 0] (fun m1 h1 =>
 (loopP (S := Int × Unit) (fun s2 k3 h2 =>
 (ifP (decide (s2.1 < (a.len : Int)))
 (idxP a s2.1 1 fun a4 =>
 (ldL (.int .u32) a4 (fun x5 =>
 (0 ≤ (n : Int) ∧
 (idxP m1 s2.1 1 fun a6 =>
 (ldL (.int .u32) a6 (fun x7 =>
 (idxP m1 s2.1 1 fun a8 =>
 (stP a8 [.int .u32 (ibits .or .u32 x7 (IntKind.u32.wrap ((IntKind.u64.wrap ((IntKind.u64.wrap (x5)) * 2 ^ (min (n : Int).toNat IntKind.u64.bits))))))] (fun h3 =>
 (0 ≤ (32 : Int) ∧
 (idxP m1 (IntKind.i64.wrap (s2.1 + 1)) 1 fun a9 =>
 (stP a9 [.int .u32 (IntKind.u32.wrap (((IntKind.u64.wrap ((IntKind.u64.wrap (x5)) * 2 ^ (min (n : Int).toNat IntKind.u64.bits))) : Int).fdiv (2 ^ (min (32 : Int).toNat IntKind.u64.bits))))] (fun h4 =>
 (k3 ((IntKind.i64.wrap (s2.1 + 1)), ()) h4)) h3)))) h2))) h2)))) h2))
 (K m1 h2)))
 (0, ()) h1)) h)
def integer_subtract (u : Sl) (v : Sl) (digit : Int) (K : Bool → Hp → Prop) (h : Hp) : Prop :=
 (loopP (S := Int × Int × Unit) (fun s1 k2 h1 =>
 (ifP (decide (s1.2.1 < (v.len : Int)))
 (idxP v s1.2.1 1 fun a3 =>
 (ldL (.int .u32) a3 (fun x4 =>
 (idxP u s1.2.1 1 fun a5 =>
 (ldL (.int .u32) a5 (fun x6 =>
 (idxP u s1.2.1 1 fun a7 =>
 (stP a7 [.int .u32 (IntKind.u32.wrap ((IntKind.u64.wrap ((IntKind.u64.wrap (x6)) - (IntKind.u64.wrap ((IntKind.u32.wrap ((IntKind.u64.wrap ((IntKind.u64.wrap ((IntKind.u64.wrap (x4)) * digit)) + s1.1))))))))))] (fun h2 =>
 (0 ≤ (32 : Int) ∧
 (0 ≤ (63 : Int) ∧
 (k2 ((IntKind.u64.wrap ((((IntKind.u64.wrap ((IntKind.u64.wrap ((IntKind.u64.wrap (x4)) * digit)) + s1.1)) : Int).fdiv (2 ^ (min (32 : Int).toNat IntKind.u64.bits))) + (((IntKind.u64.wrap ((IntKind.u64.wrap (x6)) - (IntKind.u64.wrap ((IntKind.u32.wrap ((IntKind.u64.wrap ((IntKind.u64.wrap ((IntKind.u64.wrap (x4)) * digit)) + s1.1)))))))) : Int).fdiv (2 ^ (min (63 : Int).toNat IntKind.u64.bits))))), (IntKind.i64.wrap (s1.2.1 + 1)), ()) h2)))) h1))) h1))) h1))
 (idxP u (v.len : Int) 1 fun a8 =>
 (ldL (.int .u32) a8 (fun x9 =>
 (idxP u (v.len : Int) 1 fun a10 =>
 (stP a10 [.int .u32 (IntKind.u32.wrap ((IntKind.u64.wrap ((IntKind.u64.wrap (x9)) - s1.1))))] (fun h3 =>
 (0 ≤ (63 : Int) ∧
 (K ((((IntKind.u64.wrap ((IntKind.u64.wrap (x9)) - s1.1)) : Int).fdiv (2 ^ (min (63 : Int).toNat IntKind.u64.bits))) == 1) h3))) h1))) h1))))
 (0, 0, ()) h)
def integer_restore (u : Sl) (v : Sl) (K : Unit → Hp → Prop) (h : Hp) : Prop :=
 (loopP (S := Int × Int × Unit) (fun s1 k2 h1 =>
 (ifP (decide (s1.2.1 < (v.len : Int)))
 (idxP v s1.2.1 1 fun a3 =>
 (ldL (.int .u32) a3 (fun x4 =>
 (idxP u s1.2.1 1 fun a5 =>
 (ldL (.int .u32) a5 (fun x6 =>
 (idxP u s1.2.1 1 fun a7 =>
 (stP a7 [.int .u32 (IntKind.u32.wrap ((IntKind.u64.wrap (s1.1 + (IntKind.u64.wrap ((IntKind.u64.wrap (x6)) + (IntKind.u64.wrap (x4))))))))] (fun h2 =>
 (0 ≤ (32 : Int) ∧
 (k2 (((IntKind.u64.wrap (s1.1 + (IntKind.u64.wrap ((IntKind.u64.wrap (x6)) + (IntKind.u64.wrap (x4)))))) : Int).fdiv (2 ^ (min (32 : Int).toNat IntKind.u64.bits)), (IntKind.i64.wrap (s1.2.1 + 1)), ()) h2))) h1))) h1))) h1))
 (idxP u (v.len : Int) 1 fun a8 =>
 (ldL (.int .u32) a8 (fun x9 =>
 (idxP u (v.len : Int) 1 fun a10 =>
 (stP a10 [.int .u32 (IntKind.u32.wrap (x9 + (IntKind.u32.wrap (s1.1))))] (fun h3 =>
 (K () h3)) h1))) h1))))
 (0, 0, ()) h)
def integer_shiftRight (a : Sl) (n : Int) (K : Sl → Hp → Prop) (h : Hp) : Prop :=
 (mkP (a.len : Int) (a.len : Int) 4 [.int .u32 0] (fun m1 h1 =>
 (loopP (S := Int × Unit) (fun s2 k3 h2 =>
 (ifP (decide (s2.1 < (a.len : Int)))
 (joinP (S := Unit) (fun s4 h3 =>
 (k3 ((IntKind.i64.wrap (s2.1 + 1)), ()) h3))
 (fun k5 =>
 (idxP a s2.1 1 fun a6 =>
 (ldL (.int .u32) a6 (fun x7 =>
 (0 ≤ (n : Int) ∧
 (idxP m1 s2.1 1 fun a8 =>
 (stP a8 [.int .u32 ((x7 : Int).fdiv (2 ^ (min (n : Int).toNat IntKind.u32.bits)))] (fun h4 =>
 (ifP (decide ((IntKind.i64.wrap (s2.1 + 1)) < (a.len : Int)))
 (idxP m1 s2.1 1 fun a9 =>
 (ldL (.int .u32) a9 (fun x10 =>
 (idxP a (IntKind.i64.wrap (s2.1 + 1)) 1 fun a11 =>
 (ldL (.int .u32) a11 (fun x12 =>
 (0 ≤ ((IntKind.i64.wrap (32 - n)) : Int) ∧
 (idxP m1 s2.1 1 fun a13 =>
 (stP a13 [.int .u32 (ibits .or .u32 x10 (IntKind.u32.wrap ((IntKind.u64.wrap ((IntKind.u64.wrap (x12)) * 2 ^ (min ((IntKind.i64.wrap (32 - n)) : Int).toNat IntKind.u64.bits))))))] (fun h5 =>
 (k5 () h5)) h4)))) h4))) h4))
 (k5 () h4))) h2)))) h2))))
 (K m1 h2)))
 (0, ()) h1)) h)
def integer_divide (a : Sl) (b : Sl) (K : (Sl × Sl) → Hp → Prop) (h : Hp) : Prop :=
 (callP (integer_compare a b) (fun r1 h1 =>
 (ifP (decide (r1 < 0))
 (callP (slices_Clone_uint32_uint32 a) (fun r2 h2 =>
 (K (nilS, r2) h2)) h1)
 (ifP (decide ((a.len : Int) ≤ 2))
 (callP (integer_toUint a) (fun r3 h3 =>
 (callP (integer_toUint b) (fun r4 h4 =>
 ((r4 : Int) ≠ 0 ∧
 ((r4 : Int) ≠ 0 ∧
 (callP (integer_fromUint (IntKind.u64.wrap ((r3 : Int).tdiv r4))) (fun r5 h5 =>
 (callP (integer_fromUint ((r3 : Int).tmod r4)) (fun r6 h6 =>
 (K (r5, r6) h6)) h5)) h4)))) h3)) h1)
 (ifP ((b.len : Int) == 1)
 (idxP b 0 1 fun a7 =>
 (ldL (.int .u32) a7 (fun x8 =>
 (callP (integer_divideWord a x8) (fun r9 h7 =>
 (K (r9.1, r9.2) h7)) h1)) h1))
 (idxP b (IntKind.i64.wrap ((b.len : Int) - 1)) 1 fun a10 =>
 (ldL (.int .u32) a10 (fun x11 =>
 (callP (math_bits_LeadingZeros32 x11) (fun r12 h8 =>
 (callP (integer_shiftLeft a r12) (fun r13 h9 =>
 (callP (integer_shiftLeft b r12) (fun r14 h10 =>
 (callP (integer_trim r14) (fun r15 h11 =>
 (mkP (IntKind.i64.wrap ((r13.len : Int) - (r15.len : Int))) (IntKind.i64.wrap ((r13.len : Int) - (r15.len : Int))) 4 [.int .u32 0] (fun m16 h12 =>
 (idxP r15 (IntKind.i64.wrap ((r15.len : Int) - 1)) 1 fun a17 =>
 (ldL (.int .u32) a17 (fun x18 =>
 (idxP r15 (IntKind.i64.wrap ((r15.len : Int) - 2)) 1 fun a19 =>
 (ldL (.int .u32) a19 (fun x20 =>
 (loopP (S := Int × Unit) (fun s21 k22 h13 =>
 (ifP (decide (s21.1 ≥ 0))
 (idxP r13 (IntKind.i64.wrap (s21.1 + (r15.len : Int))) 1 fun a23 =>
 (ldL (.int .u32) a23 (fun x24 =>
 (0 ≤ (32 : Int) ∧
 (idxP r13 (IntKind.i64.wrap ((IntKind.i64.wrap (s21.1 + (r15.len : Int))) - 1)) 1 fun a25 =>
 (ldL (.int .u32) a25 (fun x26 =>
 (((IntKind.u64.wrap (x18)) : Int) ≠ 0 ∧
 (((IntKind.u64.wrap (x18)) : Int) ≠ 0 ∧
 (joinP (S := Int × Unit) (fun s27 h14 =>
 (joinP (S := Int × Unit) (fun s29 h15 =>
 (idxP m16 s21.1 1 fun a31 =>
 (stP a31 [.int .u32 (IntKind.u32.wrap (s29.1))] (fun h16 =>
 (k22 ((IntKind.i64.wrap (s21.1 - 1)), ()) h16)) h15)))
 (fun k30 =>
 (slP r13 s21.1 (IntKind.i64.wrap ((IntKind.i64.wrap (s21.1 + (r15.len : Int))) + 1)) 1 fun c32 =>
 (callM (integer_subtract c32 r15 s27.1) (fun r33 h17 =>
 (ifP r33
 (slP r13 s21.1 (IntKind.i64.wrap ((IntKind.i64.wrap (s21.1 + (r15.len : Int))) + 1)) 1 fun c34 =>
 (callM (integer_restore c34 r15) (fun r35 h18 =>
 (k30 ((IntKind.u64.wrap (s27.1 - 1)), ()) h18)) h17))
 (k30 (s27.1, ()) h17))) h14)))))
 (fun k28 =>
 (loopP (S := Int × Int × Unit) (fun s36 k37 h19 =>
 (joinP (S := Unit) (fun s38 h20 =>
 (ifP (decide ((IntKind.u64.wrap (s36.2.1 + (IntKind.u64.wrap (x18)))) ≥ 4294967296))
 (k28 ((IntKind.u64.wrap (s36.1 - 1)), ()) h20)
 (k37 ((IntKind.u64.wrap (s36.1 - 1)), (IntKind.u64.wrap (s36.2.1 + (IntKind.u64.wrap (x18)))), ()) h20)))
 (fun k39 =>
 (ifP (decide (s36.1 ≥ 4294967296))
 (k39 () h19)
 (0 ≤ (32 : Int) ∧
 (idxP r13 (IntKind.i64.wrap ((IntKind.i64.wrap (s21.1 + (r15.len : Int))) - 2)) 1 fun a40 =>
 (ldL (.int .u32) a40 (fun x41 =>
 (ifP (decide ((IntKind.u64.wrap (s36.1 * (IntKind.u64.wrap (x20)))) > (ibits .or .u64 (IntKind.u64.wrap (s36.2.1 * 2 ^ (min (32 : Int).toNat IntKind.u64.bits))) (IntKind.u64.wrap (x41)))))
 (k39 () h19)
 (k28 (s36.1, ()) h19))) h19)))))))
 ((IntKind.u64.wrap (((ibits .or .u64 (IntKind.u64.wrap ((IntKind.u64.wrap (x24)) * 2 ^ (min (32 : Int).toNat IntKind.u64.bits))) (IntKind.u64.wrap (x26))) : Int).tdiv (IntKind.u64.wrap (x18)))), ((ibits .or .u64 (IntKind.u64.wrap ((IntKind.u64.wrap (x24)) * 2 ^ (min (32 : Int).toNat IntKind.u64.bits))) (IntKind.u64.wrap (x26))) : Int).tmod (IntKind.u64.wrap (x18)), ()) h13)))))) h13)))) h13))
 (slP r13 0 (r15.len : Int) 1 fun c42 =>
 (callP (integer_trim m16) (fun r43 h21 =>
 (callP (integer_trim c42) (fun r44 h22 =>
 (callP (integer_shiftRight r44 r12) (fun r45 h23 =>
 (callP (integer_trim r45) (fun r46 h24 =>
 (K (r43, r46) h24)) h23)) h22)) h21)) h13))))
 ((IntKind.i64.wrap ((m16.len : Int) - 1)), ()) h12)) h12))) h12))) h11)) h10)) h9)) h8)) h1)) h1)))))) h)
def integer_GCD (a : TInt) (b : TInt) (K : TInt → Hp → Prop) (h : Hp) : Prop :=
 (callP (integer_trim a.mag) (fun r1 h1 =>
 (callP (integer_trim b.mag) (fun r2 h2 =>
 (joinP (S := Sl × Sl × Unit) (fun s3 h3 =>
 (ifP ((s3.2.1.len : Int) == 0)
 (callP (slices_Clone_uint32_uint32 s3.1) (fun r5 h4 =>
 (callP (integer_signed false r5) (fun r6 h5 =>
 (K r6 h5)) h4)) h3)
 (callP (integer_toUint s3.1) (fun r7 h6 =>
 (callP (integer_toUint s3.2.1) (fun r8 h7 =>
 (loopP (S := Int × Int × Unit) (fun s9 k10 h8 =>
 (ifP (s9.2.1 != 0)
 ((s9.2.1 : Int) ≠ 0 ∧
 (k10 (s9.2.1, (s9.1 : Int).tmod s9.2.1, ()) h8))
 (callP (integer_fromUint s9.1) (fun r11 h9 =>
 (callP (integer_signed false r11) (fun r12 h10 =>
 (K r12 h10)) h9)) h8)))
 (r7, r8, ()) h7)) h6)) h3)))
 (fun k4 =>
 (loopP (S := Sl × Sl × Unit) (fun s13 k14 h11 =>
 (joinP (S := Unit) (fun s15 h12 =>
 (callP (integer_divide s13.1 s13.2.1) (fun r17 h13 =>
 (k14 (s13.2.1, r17.2, ()) h13)) h12))
 (fun k16 =>
 (ifP (decide ((s13.2.1.len : Int) > 2))
 (k16 () h11)
 (ifP (decide ((s13.1.len : Int) > 2))
 (ifP (decide ((s13.2.1.len : Int) > 0))
 (k16 () h11)
 (k4 (s13.1, s13.2.1, ()) h11))
 (k4 (s13.1, s13.2.1, ()) h11))))))
 (r1, r2, ()) h2)))) h1)) h)
def rational_isOne (a : TInt) (K : Bool → Hp → Prop) (h : Hp) : Prop :=
 (ifP (!a.neg)
 (ifP ((a.mag.len : Int) == 1)
 (idxP a.mag 0 1 fun a1 =>
 (ldL (.int .u32) a1 (fun x2 =>
 (K (x2 == 1) h)) h))
 (K false h))
 (K false h))
def integer_plus (a : Sl) (b : Sl) (K : Sl → Hp → Prop) (h : Hp) : Prop :=
 (joinP (S := Sl × Sl × Unit) (fun s1 h1 =>
 (mkP 0 (IntKind.i64.wrap ((s1.1.len : Int) + 1)) 4 [.int .u32 0] (fun m3 h2 =>
 (loopP (S := Sl × Int × Int × Unit) (fun s4 k5 h3 =>
 (ifP (decide (s4.2.2.1 < (s1.1.len : Int)))
 (idxP s1.1 s4.2.2.1 1 fun a6 =>
 (ldL (.int .u32) a6 (fun x7 =>
 (joinP (S := Int × Unit) (fun s8 h4 =>
 (appP 1 4 [.int .u32 0] s4.1 1 [.int .u32 (IntKind.u32.wrap (s8.1))] (fun w10 h5 =>
 (0 ≤ (32 : Int) ∧
 (k5 (w10, (s8.1 : Int).fdiv (2 ^ (min (32 : Int).toNat IntKind.u64.bits)), (IntKind.i64.wrap (s4.2.2.1 + 1)), ()) h5))) h4))
 (fun k9 =>
 (ifP (decide (s4.2.2.1 < (s1.2.1.len : Int)))
 (idxP s1.2.1 s4.2.2.1 1 fun a11 =>
 (ldL (.int .u32) a11 (fun x12 =>
 (k9 ((IntKind.u64.wrap ((IntKind.u64.wrap (s4.2.1 + (IntKind.u64.wrap (x7)))) + (IntKind.u64.wrap (x12)))), ()) h3)) h3))
 (k9 ((IntKind.u64.wrap (s4.2.1 + (IntKind.u64.wrap (x7)))), ()) h3))))) h3))
 (ifP (decide (s4.2.1 > 0))
 (appP 1 4 [.int .u32 0] s4.1 1 [.int .u32 (IntKind.u32.wrap (s4.2.1))] (fun w13 h6 =>
 (K w13 h6)) h3)
 (K s4.1 h3))))
 (m3, 0, 0, ()) h2)) h1))
 (fun k2 =>
 (ifP (decide ((a.len : Int) < (b.len : Int)))
 (k2 (b, a, ()) h)
 (k2 (a, b, ()) h))))
def integer_minus (a : Sl) (b : Sl) (K : Sl → Hp → Prop) (h : Hp) : Prop :=
 (mkP (a.len : Int) (a.len : Int) 4 [.int .u32 0] (fun m1 h1 =>
 (loopP (S := Int × Int × Unit) (fun s2 k3 h2 =>
 (ifP (decide (s2.2.1 < (a.len : Int)))
 (idxP a s2.2.1 1 fun a4 =>
 (ldL (.int .u32) a4 (fun x5 =>
 (joinP (S := Int × Unit) (fun s6 h3 =>
 (idxP m1 s2.2.1 1 fun a8 =>
 (stP a8 [.int .u32 (IntKind.u32.wrap (s6.1))] (fun h4 =>
 (0 ≤ (63 : Int) ∧
 (k3 ((s6.1 : Int).fdiv (2 ^ (min (63 : Int).toNat IntKind.u64.bits)), (IntKind.i64.wrap (s2.2.1 + 1)), ()) h4))) h3)))
 (fun k7 =>
 (ifP (decide (s2.2.1 < (b.len : Int)))
 (idxP b s2.2.1 1 fun a9 =>
 (ldL (.int .u32) a9 (fun x10 =>
 (k7 ((IntKind.u64.wrap ((IntKind.u64.wrap ((IntKind.u64.wrap (x5)) - s2.1)) - (IntKind.u64.wrap (x10)))), ()) h2)) h2))
 (k7 ((IntKind.u64.wrap ((IntKind.u64.wrap (x5)) - s2.1)), ()) h2))))) h2))
 (callP (integer_trim m1) (fun r11 h5 =>
 (K r11 h5)) h2)))
 (0, 0, ()) h1)) h)
def integer_DivMod (a : TInt) (b : TInt) (K : (TInt × TInt × Int) → Hp → Prop) (h : Hp) : Prop :=
 (callP (integer_trim b.mag) (fun r1 h1 =>
 (ifP ((r1.len : Int) == 0)
 (K ((⟨false, nilS⟩ : TInt), (⟨false, nilS⟩ : TInt), 6) h1)
 (callP (integer_trim a.mag) (fun r2 h2 =>
 (callP (integer_divide r2 r1) (fun r3 h3 =>
 (joinP (S := Sl × Sl × Unit) (fun s4 h4 =>
 (callP (integer_signed (!(a.neg == b.neg)) s4.1) (fun r6 h5 =>
 (callP (integer_signed b.neg s4.2.1) (fun r7 h6 =>
 (K (r6, r7, 0) h6)) h5)) h4))
 (fun k5 =>
 (ifP (!(a.neg == b.neg))
 (ifP (decide ((r3.2.len : Int) > 0))
 (newP [.int .u32 1] (fun p8 h7 =>
 (callP (integer_plus r3.1 (⟨some p8, 1, 1⟩ : Sl)) (fun r9 h8 =>
 (callP (integer_minus r1 r3.2) (fun r10 h9 =>
 (k5 (r9, r10, ()) h9)) h8)) h7)) h3)
 (k5 (r3.1, r3.2, ()) h3))
 (k5 (r3.1, r3.2, ()) h3))))) h2)) h1))) h)
def rational_quo (a : TInt) (b : TInt) (K : TInt → Hp → Prop) (h : Hp) : Prop :=
 (callP (rational_isOne b) (fun r1 h1 =>
 (ifP r1
 (K a h1)
 (callP (integer_DivMod a b) (fun r2 h2 =>
 (K (⟨r2.1.neg, r2.1.mag⟩ : TInt) h2)) h1))) h)
def integer_Neg (a : TInt) (K : TInt → Hp → Prop) (h : Hp) : Prop :=
 (callP (integer_trim a.mag) (fun r1 h1 =>
 (callP (slices_Clone_uint32_uint32 r1) (fun r2 h2 =>
 (callP (integer_signed (!a.neg) r2) (fun r3 h3 =>
 (K r3 h3)) h2)) h1)) h)
def rational_lowest (num : TInt) (den : TInt) (K : TRat → Hp → Prop) (h : Hp) : Prop :=
 (callP (integer_GCD num den) (fun r1 h1 =>
 (joinP (S := (Bool × Sl × Unit) × Unit) (fun s2 h2 =>
 (callP (rational_quo num (⟨s2.1.1, s2.1.2.1⟩ : TInt)) (fun r4 h3 =>
 (callP (rational_quo den (⟨s2.1.1, s2.1.2.1⟩ : TInt)) (fun r5 h4 =>
 (K (⟨r4, r5⟩ : TRat) h4)) h3)) h2))
 (fun k3 =>
 (ifP den.neg
 (callP (integer_Neg r1) (fun r6 h5 =>
 (k3 ((r6.neg, r6.mag, ()), ()) h5)) h1)
 (k3 ((r1.neg, r1.mag, ()), ()) h1))))) h)
def rational_Div (a : TRat) (b : TRat) (K : (TRat × Int) → Hp → Prop) (h : Hp) : Prop :=
 (callP (rational_isZero b.num) (fun r1 h1 =>
 (ifP r1
 (K ((⟨(⟨false, nilS⟩ : TInt), (⟨false, nilS⟩ : TInt)⟩ : TRat), 6) h1)
 (callP (integer_Mul a.num b.den) (fun r2 h2 =>
 (callP (integer_Mul a.den b.num) (fun r3 h3 =>
 (callP (rational_lowest r2 r3) (fun r4 h4 =>
 (K (r4, 0) h4)) h3)) h2)) h1))) h)
def rational_Mul (a : TRat) (b : TRat) (K : TRat → Hp → Prop) (h : Hp) : Prop :=
 (joinP (S := (Bool × Sl × Bool × Sl × Unit) × Unit) (fun s1 h1 =>
 (callP (integer_Mul a.num b.num) (fun r3 h2 =>
 (callP (integer_Mul a.den b.den) (fun r4 h3 =>
 (callP (rational_lowest r3 r4) (fun r5 h4 =>
 (K r5 h4)) h3)) h2)) h1))
 (fun k2 =>
 (callP (rational_isOne a.den) (fun r6 h5 =>
 (ifP r6
 (callP (rational_isOne b.den) (fun r7 h6 =>
 (ifP r7
 (callP (integer_Mul a.num b.num) (fun r8 h7 =>
 (callP (rational_one) (fun r9 h8 =>
 (K (⟨r8, r9⟩ : TRat) h8)) h7)) h6)
 (k2 ((false, nilS, false, nilS, ()), ()) h6))) h5)
 (k2 ((false, nilS, false, nilS, ()), ()) h5))) h)))
def integer_Add (a : TInt) (b : TInt) (K : TInt → Hp → Prop) (h : Hp) : Prop :=
 (callP (integer_trim a.mag) (fun r1 h1 =>
 (callP (integer_trim b.mag) (fun r2 h2 =>
 (ifP (a.neg == b.neg)
 (callP (integer_plus r1 r2) (fun r3 h3 =>
 (callP (integer_signed a.neg r3) (fun r4 h4 =>
 (K r4 h4)) h3)) h2)
 (callP (integer_compare r1 r2) (fun r5 h5 =>
 (ifP (decide (r5 < 0))
 (callP (integer_minus r2 r1) (fun r6 h6 =>
 (callP (integer_signed b.neg r6) (fun r7 h7 =>
 (K r7 h7)) h6)) h5)
 (callP (integer_minus r1 r2) (fun r8 h8 =>
 (callP (integer_signed a.neg r8) (fun r9 h9 =>
 (K r9 h9)) h8)) h5))) h2))) h1)) h)
def rational_Add (a : TRat) (b : TRat) (K : TRat → Hp → Prop) (h : Hp) : Prop :=
 (joinP (S := (Bool × Sl × Bool × Sl × Unit) × Unit) (fun s1 h1 =>
 (callP (integer_Mul a.num b.den) (fun r3 h2 =>
 (callP (integer_Mul b.num a.den) (fun r4 h3 =>
 (callP (integer_Add r3 r4) (fun r5 h4 =>
 (callP (integer_Mul a.den b.den) (fun r6 h5 =>
 (callP (rational_lowest r5 r6) (fun r7 h6 =>
 (K r7 h6)) h5)) h4)) h3)) h2)) h1))
 (fun k2 =>
 (callP (rational_isOne a.den) (fun r8 h7 =>
 (ifP r8
 (callP (rational_isOne b.den) (fun r9 h8 =>
 (ifP r9
 (callP (integer_Add a.num b.num) (fun r10 h9 =>
 (callP (rational_one) (fun r11 h10 =>
 (K (⟨r10, r11⟩ : TRat) h10)) h9)) h8)
 (k2 ((false, nilS, false, nilS, ()), ()) h8))) h7)
 (k2 ((false, nilS, false, nilS, ()), ()) h7))) h)))
def interval_hull (l : Sl) (K : TInterval → Hp → Prop) (h : Hp) : Prop :=
 (idxP l 0 4 fun a1 =>
 (ldL (.bool) (a1.add 0) (fun x2_0 =>
 (ldL (.sl) (a1.add 1) (fun x2_1 =>
 (ldL (.bool) (a1.add 2) (fun x2_2 =>
 (ldL (.sl) (a1.add 3) (fun x2_3 =>
 (idxP l 0 4 fun a3 =>
 (ldL (.bool) (a3.add 0) (fun x4_0 =>
 (ldL (.sl) (a3.add 1) (fun x4_1 =>
 (ldL (.bool) (a3.add 2) (fun x4_2 =>
 (ldL (.sl) (a3.add 3) (fun x4_3 =>
 (slP l 1 (l.len : Int) 4 fun c5 =>
 (loopP (S := (Bool × Sl × Bool × Sl × Unit) × (Bool × Sl × Bool × Sl × Unit) × Int × Unit) (fun s6 k7 h1 =>
 (ifP (decide (s6.2.2.1 < (c5.len : Int)))
 (joinP (S := (Bool × Sl × Bool × Sl × Unit) × (Bool × Sl × Bool × Sl × Unit) × Unit) (fun s8 h2 =>
 (k7 ((s8.1.1, s8.1.2.1, s8.1.2.2.1, s8.1.2.2.2.1, ()), (s8.2.1.1, s8.2.1.2.1, s8.2.1.2.2.1, s8.2.1.2.2.2.1, ()), (IntKind.i64.wrap (s6.2.2.1 + 1)), ()) h2))
 (fun k9 =>
 (idxP c5 s6.2.2.1 4 fun a10 =>
 (ldL (.bool) (a10.add 0) (fun x11_0 =>
 (ldL (.sl) (a10.add 1) (fun x11_1 =>
 (ldL (.bool) (a10.add 2) (fun x11_2 =>
 (ldL (.sl) (a10.add 3) (fun x11_3 =>
 (joinP (S := (Bool × Sl × Bool × Sl × Unit) × Unit) (fun s12 h3 =>
 (callP (rational_Cmp (⟨(⟨x11_0, x11_1⟩ : TInt), (⟨x11_2, x11_3⟩ : TInt)⟩ : TRat) (⟨(⟨s6.2.1.1, s6.2.1.2.1⟩ : TInt), (⟨s6.2.1.2.2.1, s6.2.1.2.2.2.1⟩ : TInt)⟩ : TRat)) (fun r14 h4 =>
 (ifP (decide (r14 > 0))
 (k9 ((s12.1.1, s12.1.2.1, s12.1.2.2.1, s12.1.2.2.2.1, ()), (x11_0, x11_1, x11_2, x11_3, ()), ()) h4)
 (k9 ((s12.1.1, s12.1.2.1, s12.1.2.2.1, s12.1.2.2.2.1, ()), (s6.2.1.1, s6.2.1.2.1, s6.2.1.2.2.1, s6.2.1.2.2.2.1, ()), ()) h4))) h3))
 (fun k13 =>
 (callP (rational_Cmp (⟨(⟨x11_0, x11_1⟩ : TInt), (⟨x11_2, x11_3⟩ : TInt)⟩ : TRat) (⟨(⟨s6.1.1, s6.1.2.1⟩ : TInt), (⟨s6.1.2.2.1, s6.1.2.2.2.1⟩ : TInt)⟩ : TRat)) (fun r15 h5 =>
 (ifP (decide (r15 < 0))
 (k13 ((x11_0, x11_1, x11_2, x11_3, ()), ()) h5)
 (k13 ((s6.1.1, s6.1.2.1, s6.1.2.2.1, s6.1.2.2.2.1, ()), ()) h5))) h1)))) h1)) h1)) h1)) h1))))
 (callP (rational_FromInt 0) (fun r16 h6 =>
 (callP (rational_Add (⟨(⟨s6.1.1, s6.1.2.1⟩ : TInt), (⟨s6.1.2.2.1, s6.1.2.2.2.1⟩ : TInt)⟩ : TRat) r16) (fun r17 h7 =>
 (callP (rational_Add (⟨(⟨s6.2.1.1, s6.2.1.2.1⟩ : TInt), (⟨s6.2.1.2.2.1, s6.2.1.2.2.2.1⟩ : TInt)⟩ : TRat) r16) (fun r18 h8 =>
 (K (⟨r17, r18⟩ : TInterval) h8)) h7)) h6)) h1)))
 ((x2_0, x2_1, x2_2, x2_3, ()), (x4_0, x4_1, x4_2, x4_3, ()), 0, ()) h))) h)) h)) h)) h))) h)) h)) h)) h))
def interval_Mul (a : TInterval) (b : TInterval) (K : TInterval → Hp → Prop) (h : Hp) : Prop :=
 (callP (rational_Mul a.low b.low) (fun r1 h1 =>
 (callP (rational_Mul a.low b.high) (fun r2 h2 =>
 (callP (rational_Mul a.high b.low) (fun r3 h3 =>
 (callP (rational_Mul a.high b.high) (fun r4 h4 =>
 (newP [.bool r1.num.neg, .slice r1.num.mag.a r1.num.mag.len r1.num.mag.cap, .bool r1.den.neg, .slice r1.den.mag.a r1.den.mag.len r1.den.mag.cap, .bool r2.num.neg, .slice r2.num.mag.a r2.num.mag.len r2.num.mag.cap, .bool r2.den.neg, .slice r2.den.mag.a r2.den.mag.len r2.den.mag.cap, .bool r3.num.neg, .slice r3.num.mag.a r3.num.mag.len r3.num.mag.cap, .bool r3.den.neg, .slice r3.den.mag.a r3.den.mag.len r3.den.mag.cap, .bool r4.num.neg, .slice r4.num.mag.a r4.num.mag.len r4.num.mag.cap, .bool r4.den.neg, .slice r4.den.mag.a r4.den.mag.len r4.den.mag.cap] (fun p5 h5 =>
 (callP (interval_hull (⟨some p5, 4, 4⟩ : Sl)) (fun r6 h6 =>
 (K r6 h6)) h5)) h4)) h3)) h2)) h1)) h)
def interval_Div (a : TInterval) (b : TInterval) (K : (TInterval × Int) → Hp → Prop) (h : Hp) : Prop :=
 (callP (rational_FromInt 0) (fun r1 h1 =>
 (callP (interval_Contains b r1) (fun r2 h2 =>
 (ifP r2
 (K ((⟨(⟨(⟨false, nilS⟩ : TInt), (⟨false, nilS⟩ : TInt)⟩ : TRat), (⟨(⟨false, nilS⟩ : TInt), (⟨false, nilS⟩ : TInt)⟩ : TRat)⟩ : TInterval), 6) h2)
 (callP (rational_FromInt 1) (fun r3 h3 =>
 (callP (rational_Div r3 b.low) (fun r4 h4 =>
 (callP (rational_Div r3 b.high) (fun r5 h5 =>
 (callP (interval_Mul a (⟨(⟨(⟨r5.1.num.neg, r5.1.num.mag⟩ : TInt), (⟨r5.1.den.neg, r5.1.den.mag⟩ : TInt)⟩ : TRat), (⟨(⟨r4.1.num.neg, r4.1.num.mag⟩ : TInt), (⟨r4.1.den.neg, r4.1.den.mag⟩ : TInt)⟩ : TRat)⟩ : TInterval)) (fun r6 h6 =>
 (K (r6, 0) h6)) h5)) h4)) h3)) h2))) h1)) h)
def ref01_trim (m : Sl) (K : Sl → Hp → Prop) (h : Hp) : Prop :=
 (loopP (S := Sl × Unit) (fun s1 k2 h1 =>
 (joinP (S := Unit) (fun s3 h2 =>
 (slP s1.1 0 (IntKind.i64.wrap ((s1.1.len : Int) - 1)) 1 fun c5 =>
 (k2 (c5, ()) h2)))
 (fun k4 =>
 (ifP (decide ((s1.1.len : Int) > 0))
 (idxP s1.1 (IntKind.i64.wrap ((s1.1.len : Int) - 1)) 1 fun a6 =>
 (ldL (.int .u32) a6 (fun x7 =>
 (ifP (x7 == 0)
 (k4 () h1)
 (K s1.1 h1))) h1))
 (K s1.1 h1)))))
 (m, ()) h)
def ref01_signed (neg : Bool) (m : Sl) (K : TInt → Hp → Prop) (h : Hp) : Prop :=
 (callP (ref01_trim m) (fun r1 h1 =>
 (ifP neg
 (K (⟨decide ((r1.len : Int) > 0), r1⟩ : TInt) h1)
 (K (⟨false, r1⟩ : TInt) h1))) h)
def ref01_Neg (a : TInt) (K : TInt → Hp → Prop) (h : Hp) : Prop :=
 (callP (ref01_signed (!a.neg) a.mag) (fun r1 h1 =>
 (K r1 h1)) h)
def ref02_Inv (a : TRat) (K : TRat → Hp → Prop) (h : Hp) : Prop :=
 (ifP a.num.neg
 (callP (ref01_Neg a.den) (fun r1 h1 =>
 (callP (ref01_Neg a.num) (fun r2 h2 =>
 (K (⟨r1, r2⟩ : TRat) h2)) h1)) h)
 (K (⟨a.den, a.num⟩ : TRat) h))
def ref03_Point (a : TRat) (K : TInterval → Hp → Prop) (h : Hp) : Prop :=
 (K (⟨a, a⟩ : TInterval) h)
def ref01_Norm (a : TInt) (K : TInt → Hp → Prop) (h : Hp) : Prop :=
 (callP (ref01_signed a.neg a.mag) (fun r1 h1 =>
 (K r1 h1)) h)
def ref01_times (a : Sl) (b : Sl) (K : Sl → Hp → Prop) (h : Hp) : Prop :=
 (mkP (IntKind.i64.wrap ((a.len : Int) + (b.len : Int))) (IntKind.i64.wrap ((a.len : Int) + (b.len : Int))) 4 [.int .u32 0] (fun m1 h1 =>
 (loopP (S := Int × Unit) (fun s2 k3 h2 =>
 (ifP (decide (s2.1 < (a.len : Int)))
 (loopP (S := Int × Int × Unit) (fun s4 k5 h3 =>
 (ifP (decide (s4.2.1 < (b.len : Int)))
 (idxP m1 (IntKind.i64.wrap (s2.1 + s4.2.1)) 1 fun a6 =>
 (ldL (.int .u32) a6 (fun x7 =>
 (idxP a s2.1 1 fun a8 =>
 (ldL (.int .u32) a8 (fun x9 =>
 (idxP b s4.2.1 1 fun a10 =>
 (ldL (.int .u32) a10 (fun x11 =>
 (idxP m1 (IntKind.i64.wrap (s2.1 + s4.2.1)) 1 fun a12 =>
 (stP a12 [.int .u32 (IntKind.u32.wrap ((IntKind.u64.wrap ((IntKind.u64.wrap (s4.1 + (IntKind.u64.wrap (x7)))) + (IntKind.u64.wrap ((IntKind.u64.wrap (x9)) * (IntKind.u64.wrap (x11))))))))] (fun h4 =>
 (0 ≤ (32 : Int) ∧
 (k5 (((IntKind.u64.wrap ((IntKind.u64.wrap (s4.1 + (IntKind.u64.wrap (x7)))) + (IntKind.u64.wrap ((IntKind.u64.wrap (x9)) * (IntKind.u64.wrap (x11)))))) : Int).fdiv (2 ^ (min (32 : Int).toNat IntKind.u64.bits)), (IntKind.i64.wrap (s4.2.1 + 1)), ()) h4))) h3))) h3))) h3))) h3))
 (idxP m1 (IntKind.i64.wrap (s2.1 + (b.len : Int))) 1 fun a13 =>
 (stP a13 [.int .u32 (IntKind.u32.wrap (s4.1))] (fun h5 =>
 (k3 ((IntKind.i64.wrap (s2.1 + 1)), ()) h5)) h3))))
 (0, 0, ()) h2)
 (callP (ref01_trim m1) (fun r14 h6 =>
 (K r14 h6)) h2)))
 (0, ()) h1)) h)
def ref01_Mul (a : TInt) (b : TInt) (K : TInt → Hp → Prop) (h : Hp) : Prop :=
 (callP (ref01_Norm a) (fun r1 h1 =>
 (callP (ref01_Norm b) (fun r2 h2 =>
 (callP (ref01_times r1.mag r2.mag) (fun r3 h3 =>
 (callP (ref01_signed (!(r1.neg == r2.neg)) r3) (fun r4 h4 =>
 (K r4 h4)) h3)) h2)) h1)) h)
def ref01_plus (a : Sl) (b : Sl) (K : Sl → Hp → Prop) (h : Hp) : Prop :=
 (joinP (S := Sl × Sl × Unit) (fun s1 h1 =>
 (mkP (IntKind.i64.wrap ((s1.1.len : Int) + 1)) (IntKind.i64.wrap ((s1.1.len : Int) + 1)) 4 [.int .u32 0] (fun m3 h2 =>
 (loopP (S := Int × Int × Unit) (fun s4 k5 h3 =>
 (ifP (decide (s4.2.1 < (s1.1.len : Int)))
 (idxP s1.1 s4.2.1 1 fun a6 =>
 (ldL (.int .u32) a6 (fun x7 =>
 (joinP (S := Int × Unit) (fun s8 h4 =>
 (idxP m3 s4.2.1 1 fun a10 =>
 (stP a10 [.int .u32 (IntKind.u32.wrap (s8.1))] (fun h5 =>
 (0 ≤ (32 : Int) ∧
 (k5 ((s8.1 : Int).fdiv (2 ^ (min (32 : Int).toNat IntKind.u64.bits)), (IntKind.i64.wrap (s4.2.1 + 1)), ()) h5))) h4)))
 (fun k9 =>
 (ifP (decide (s4.2.1 < (s1.2.1.len : Int)))
 (idxP s1.2.1 s4.2.1 1 fun a11 =>
 (ldL (.int .u32) a11 (fun x12 =>
 (k9 ((IntKind.u64.wrap ((IntKind.u64.wrap (s4.1 + (IntKind.u64.wrap (x7)))) + (IntKind.u64.wrap (x12)))), ()) h3)) h3))
 (k9 ((IntKind.u64.wrap (s4.1 + (IntKind.u64.wrap (x7)))), ()) h3))))) h3))
 (idxP m3 (s1.1.len : Int) 1 fun a13 =>
 (stP a13 [.int .u32 (IntKind.u32.wrap (s4.1))] (fun h6 =>
 (callP (ref01_trim m3) (fun r14 h7 =>
 (K r14 h7)) h6)) h3))))
 (0, 0, ()) h2)) h1))
 (fun k2 =>
 (ifP (decide ((a.len : Int) < (b.len : Int)))
 (k2 (b, a, ()) h)
 (k2 (a, b, ()) h))))
def ref01_compare (a : Sl) (b : Sl) (K : Int → Hp → Prop) (h : Hp) : Prop :=
 (ifP ((a.len : Int) != (b.len : Int))
 (ifP (decide ((a.len : Int) < (b.len : Int)))
 (K (-1) h)
 (K 1 h))
 (loopP (S := Int × Unit) (fun s1 k2 h1 =>
 (ifP (decide (s1.1 ≥ 0))
 (idxP a s1.1 1 fun a3 =>
 (ldL (.int .u32) a3 (fun x4 =>
 (idxP b s1.1 1 fun a5 =>
 (ldL (.int .u32) a5 (fun x6 =>
 (ifP (decide (x4 < x6))
 (K (-1) h1)
 (idxP a s1.1 1 fun a7 =>
 (ldL (.int .u32) a7 (fun x8 =>
 (idxP b s1.1 1 fun a9 =>
 (ldL (.int .u32) a9 (fun x10 =>
 (ifP (decide (x8 > x10))
 (K 1 h1)
 (k2 ((IntKind.i64.wrap (s1.1 - 1)), ()) h1))) h1))) h1)))) h1))) h1))
 (K 0 h1)))
 ((IntKind.i64.wrap ((a.len : Int) - 1)), ()) h))
def ref01_minus (a : Sl) (b : Sl) (K : Sl → Hp → Prop) (h : Hp) : Prop :=
 (mkP (a.len : Int) (a.len : Int) 4 [.int .u32 0] (fun m1 h1 =>
 (loopP (S := Int × Int × Unit) (fun s2 k3 h2 =>
 (ifP (decide (s2.2.1 < (a.len : Int)))
 (joinP (S := Int × Unit) (fun s4 h3 =>
 (idxP a s2.2.1 1 fun a6 =>
 (ldL (.int .u32) a6 (fun x7 =>
 (idxP m1 s2.2.1 1 fun a8 =>
 (stP a8 [.int .u32 (IntKind.u32.wrap ((IntKind.u64.wrap ((IntKind.u64.wrap ((IntKind.u64.wrap ((IntKind.u64.wrap (x7)) + 4294967296)) - s4.1)) - s2.1))))] (fun h4 =>
 (0 ≤ (32 : Int) ∧
 (k3 ((IntKind.u64.wrap (1 - (((IntKind.u64.wrap ((IntKind.u64.wrap ((IntKind.u64.wrap ((IntKind.u64.wrap (x7)) + 4294967296)) - s4.1)) - s2.1)) : Int).fdiv (2 ^ (min (32 : Int).toNat IntKind.u64.bits))))), (IntKind.i64.wrap (s2.2.1 + 1)), ()) h4))) h3))) h3)))
 (fun k5 =>
 (ifP (decide (s2.2.1 < (b.len : Int)))
 (idxP b s2.2.1 1 fun a9 =>
 (ldL (.int .u32) a9 (fun x10 =>
 (k5 ((IntKind.u64.wrap (x10)), ()) h2)) h2))
 (k5 (0, ()) h2))))
 (callP (ref01_trim m1) (fun r11 h5 =>
 (K r11 h5)) h2)))
 (0, 0, ()) h1)) h)
def ref01_Add (a : TInt) (b : TInt) (K : TInt → Hp → Prop) (h : Hp) : Prop :=
 (callP (ref01_Norm a) (fun r1 h1 =>
 (callP (ref01_Norm b) (fun r2 h2 =>
 (ifP (r1.neg == r2.neg)
 (callP (ref01_plus r1.mag r2.mag) (fun r3 h3 =>
 (callP (ref01_signed r1.neg r3) (fun r4 h4 =>
 (K r4 h4)) h3)) h2)
 (callP (ref01_compare r1.mag r2.mag) (fun r5 h5 =>
 (ifP (decide (r5 ≥ 0))
 (callP (ref01_minus r1.mag r2.mag) (fun r6 h6 =>
 (callP (ref01_signed r1.neg r6) (fun r7 h7 =>
 (K r7 h7)) h6)) h5)
 (callP (ref01_minus r2.mag r1.mag) (fun r8 h8 =>
 (callP (ref01_signed r2.neg r8) (fun r9 h9 =>
 (K r9 h9)) h8)) h5))) h2))) h1)) h)
def ref01_Sub (a : TInt) (b : TInt) (K : TInt → Hp → Prop) (h : Hp) : Prop :=
 (callP (ref01_Neg b) (fun r1 h1 =>
 (callP (ref01_Add a r1) (fun r2 h2 =>
 (K r2 h2)) h1)) h)
def ref01_Sign (a : TInt) (K : Int → Hp → Prop) (h : Hp) : Prop :=
 (callP (ref01_Norm a) (fun r1 h1 =>
 (ifP ((r1.mag.len : Int) == 0)
 (K 0 h1)
 (ifP r1.neg
 (K (-1) h1)
 (K 1 h1)))) h)
def ref01_Cmp (a : TInt) (b : TInt) (K : Int → Hp → Prop) (h : Hp) : Prop :=
 (callP (ref01_Sub a b) (fun r1 h1 =>
 (callP (ref01_Sign r1) (fun r2 h2 =>
 (K r2 h2)) h1)) h)
def ref02_Cmp (a : TRat) (b : TRat) (K : Int → Hp → Prop) (h : Hp) : Prop :=
 (callP (ref01_Mul a.num b.den) (fun r1 h1 =>
 (callP (ref01_Mul b.num a.den) (fun r2 h2 =>
 (callP (ref01_Cmp r1 r2) (fun r3 h3 =>
 (K r3 h3)) h2)) h1)) h)
def ref03_Hull (l : Sl) (K : TInterval → Hp → Prop) (h : Hp) : Prop :=
 (idxP l 0 4 fun a1 =>
 (ldL (.bool) (a1.add 0) (fun x2_0 =>
 (ldL (.sl) (a1.add 1) (fun x2_1 =>
 (ldL (.bool) (a1.add 2) (fun x2_2 =>
 (ldL (.sl) (a1.add 3) (fun x2_3 =>
 (callP (ref03_Point (⟨(⟨x2_0, x2_1⟩ : TInt), (⟨x2_2, x2_3⟩ : TInt)⟩ : TRat)) (fun r3 h1 =>
 (loopP (S := (Bool × Sl × Bool × Sl × Bool × Sl × Bool × Sl × Unit) × Int × Unit) (fun s4 k5 h2 =>
 (ifP (decide (s4.2.1 < (l.len : Int)))
 (joinP (S := (Bool × Sl × Bool × Sl × Bool × Sl × Bool × Sl × Unit) × Unit) (fun s6 h3 =>
 (k5 ((s6.1.1, s6.1.2.1, s6.1.2.2.1, s6.1.2.2.2.1, s6.1.2.2.2.2.1, s6.1.2.2.2.2.2.1, s6.1.2.2.2.2.2.2.1, s6.1.2.2.2.2.2.2.2.1, ()), (IntKind.i64.wrap (s4.2.1 + 1)), ()) h3))
 (fun k7 =>
 (joinP (S := (Bool × Sl × Bool × Sl × Bool × Sl × Bool × Sl × Unit) × Unit) (fun s8 h4 =>
 (idxP l s4.2.1 4 fun a10 =>
 (ldL (.bool) (a10.add 0) (fun x11_0 =>
 (ldL (.sl) (a10.add 1) (fun x11_1 =>
 (ldL (.bool) (a10.add 2) (fun x11_2 =>
 (ldL (.sl) (a10.add 3) (fun x11_3 =>
 (callP (ref02_Cmp (⟨(⟨x11_0, x11_1⟩ : TInt), (⟨x11_2, x11_3⟩ : TInt)⟩ : TRat) (⟨(⟨s8.1.2.2.2.2.1, s8.1.2.2.2.2.2.1⟩ : TInt), (⟨s8.1.2.2.2.2.2.2.1, s8.1.2.2.2.2.2.2.2.1⟩ : TInt)⟩ : TRat)) (fun r12 h5 =>
 (ifP (decide (r12 > 0))
 (idxP l s4.2.1 4 fun a13 =>
 (ldL (.bool) (a13.add 0) (fun x14_0 =>
 (ldL (.sl) (a13.add 1) (fun x14_1 =>
 (ldL (.bool) (a13.add 2) (fun x14_2 =>
 (ldL (.sl) (a13.add 3) (fun x14_3 =>
 (k7 ((s8.1.1, s8.1.2.1, s8.1.2.2.1, s8.1.2.2.2.1, x14_0, x14_1, x14_2, x14_3, ()), ()) h5)) h5)) h5)) h5)) h5))
 (k7 ((s8.1.1, s8.1.2.1, s8.1.2.2.1, s8.1.2.2.2.1, s8.1.2.2.2.2.1, s8.1.2.2.2.2.2.1, s8.1.2.2.2.2.2.2.1, s8.1.2.2.2.2.2.2.2.1, ()), ()) h5))) h4)) h4)) h4)) h4)) h4)))
 (fun k9 =>
 (idxP l s4.2.1 4 fun a15 =>
 (ldL (.bool) (a15.add 0) (fun x16_0 =>
 (ldL (.sl) (a15.add 1) (fun x16_1 =>
 (ldL (.bool) (a15.add 2) (fun x16_2 =>
 (ldL (.sl) (a15.add 3) (fun x16_3 =>
 (callP (ref02_Cmp (⟨(⟨x16_0, x16_1⟩ : TInt), (⟨x16_2, x16_3⟩ : TInt)⟩ : TRat) (⟨(⟨s4.1.1, s4.1.2.1⟩ : TInt), (⟨s4.1.2.2.1, s4.1.2.2.2.1⟩ : TInt)⟩ : TRat)) (fun r17 h6 =>
 (ifP (decide (r17 < 0))
 (idxP l s4.2.1 4 fun a18 =>
 (ldL (.bool) (a18.add 0) (fun x19_0 =>
 (ldL (.sl) (a18.add 1) (fun x19_1 =>
 (ldL (.bool) (a18.add 2) (fun x19_2 =>
 (ldL (.sl) (a18.add 3) (fun x19_3 =>
 (k9 ((x19_0, x19_1, x19_2, x19_3, s4.1.2.2.2.2.1, s4.1.2.2.2.2.2.1, s4.1.2.2.2.2.2.2.1, s4.1.2.2.2.2.2.2.2.1, ()), ()) h6)) h6)) h6)) h6)) h6))
 (k9 ((s4.1.1, s4.1.2.1, s4.1.2.2.1, s4.1.2.2.2.1, s4.1.2.2.2.2.1, s4.1.2.2.2.2.2.1, s4.1.2.2.2.2.2.2.1, s4.1.2.2.2.2.2.2.2.1, ()), ()) h6))) h2)) h2)) h2)) h2)) h2))))))
 (K (⟨(⟨(⟨s4.1.1, s4.1.2.1⟩ : TInt), (⟨s4.1.2.2.1, s4.1.2.2.2.1⟩ : TInt)⟩ : TRat), (⟨(⟨s4.1.2.2.2.2.1, s4.1.2.2.2.2.2.1⟩ : TInt), (⟨s4.1.2.2.2.2.2.2.1, s4.1.2.2.2.2.2.2.2.1⟩ : TInt)⟩ : TRat)⟩ : TInterval) h2)))
 ((r3.low.num.neg, r3.low.num.mag, r3.low.den.neg, r3.low.den.mag, r3.high.num.neg, r3.high.num.mag, r3.high.den.neg, r3.high.den.mag, ()), 1, ()) h1)) h)) h)) h)) h)) h))
def ref01_short (m : Sl) (K : Int → Hp → Prop) (h : Hp) : Prop :=
 (loopP (S := Int × Int × Unit) (fun s1 k2 h1 =>
 (ifP (decide (s1.2.1 ≥ 0))
 (0 ≤ (32 : Int) ∧
 (idxP m s1.2.1 1 fun a3 =>
 (ldL (.int .u32) a3 (fun x4 =>
 (k2 (ibits .or .u64 (IntKind.u64.wrap (s1.1 * 2 ^ (min (32 : Int).toNat IntKind.u64.bits))) (IntKind.u64.wrap (x4)), (IntKind.i64.wrap (s1.2.1 - 1)), ()) h1)) h1)))
 (K s1.1 h1)))
 (0, (IntKind.i64.wrap ((m.len : Int) - 1)), ()) h)
def ref01_words (n : Int) (K : Sl → Hp → Prop) (h : Hp) : Prop :=
 (0 ≤ (32 : Int) ∧
 (newP [.int .u32 (IntKind.u32.wrap (n)), .int .u32 (IntKind.u32.wrap ((n : Int).fdiv (2 ^ (min (32 : Int).toNat IntKind.u64.bits))))] (fun p1 h1 =>
 (callP (ref01_trim (⟨some p1, 2, 2⟩ : Sl)) (fun r2 h2 =>
 (K r2 h2)) h1)) h))
def ref01_by (a : Sl) (n : Int) (K : (Sl × Int) → Hp → Prop) (h : Hp) : Prop :=
 (mkP (a.len : Int) (a.len : Int) 4 [.int .u32 0] (fun m1 h1 =>
 (loopP (S := Int × Int × Unit) (fun s2 k3 h2 =>
 (ifP (decide (s2.2.1 ≥ 0))
 (0 ≤ (32 : Int) ∧
 (idxP a s2.2.1 1 fun a4 =>
 (ldL (.int .u32) a4 (fun x5 =>
 (((IntKind.u64.wrap (n)) : Int) ≠ 0 ∧
 (idxP m1 s2.2.1 1 fun a6 =>
 (stP a6 [.int .u32 (IntKind.u32.wrap ((IntKind.u64.wrap (((ibits .or .u64 (IntKind.u64.wrap (s2.1 * 2 ^ (min (32 : Int).toNat IntKind.u64.bits))) (IntKind.u64.wrap (x5))) : Int).tdiv (IntKind.u64.wrap (n))))))] (fun h3 =>
 (((IntKind.u64.wrap (n)) : Int) ≠ 0 ∧
 (k3 (((ibits .or .u64 (IntKind.u64.wrap (s2.1 * 2 ^ (min (32 : Int).toNat IntKind.u64.bits))) (IntKind.u64.wrap (x5))) : Int).tmod (IntKind.u64.wrap (n)), (IntKind.i64.wrap (s2.2.1 - 1)), ()) h3))) h2)))) h2)))
 (callP (ref01_trim m1) (fun r7 h4 =>
 (K (r7, (IntKind.u32.wrap (s2.1))) h4)) h2)))
 (0, (IntKind.i64.wrap ((a.len : Int) - 1)), ()) h1)) h)
def ref01_length (a : Sl) (K : Int → Hp → Prop) (h : Hp) : Prop :=
 (ifP ((a.len : Int) == 0)
 (K 0 h)
 (idxP a (IntKind.i64.wrap ((a.len : Int) - 1)) 1 fun a1 =>
 (ldL (.int .u32) a1 (fun x2 =>
 (loopP (S := Int × Int × Unit) (fun s3 k4 h1 =>
 (ifP (decide (s3.2.1 > 0))
 ((2 : Int) ≠ 0 ∧
 (k4 ((IntKind.i64.wrap (s3.1 + 1)), (IntKind.u32.wrap ((s3.2.1 : Int).tdiv 2)), ()) h1))
 (K (IntKind.i64.wrap ((IntKind.i64.wrap (32 * (IntKind.i64.wrap ((a.len : Int) - 1)))) + s3.1)) h1)))
 (0, x2, ()) h)) h)))
def ref01_shifted (a : Sl) (s : Int) (K : Sl → Hp → Prop) (h : Hp) : Prop :=
 (mkP (IntKind.i64.wrap ((a.len : Int) + 1)) (IntKind.i64.wrap ((a.len : Int) + 1)) 4 [.int .u32 0] (fun m1 h1 =>
 (loopP (S := Int × Unit) (fun s2 k3 h2 =>
 (ifP (decide (s2.1 < (a.len : Int)))
 (idxP a s2.1 1 fun a4 =>
 (ldL (.int .u32) a4 (fun x5 =>
 (0 ≤ (s : Int) ∧
 (idxP m1 s2.1 1 fun a6 =>
 (ldL (.int .u32) a6 (fun x7 =>
 (idxP m1 s2.1 1 fun a8 =>
 (stP a8 [.int .u32 (ibits .or .u32 x7 (IntKind.u32.wrap ((IntKind.u64.wrap ((IntKind.u64.wrap (x5)) * 2 ^ (min (s : Int).toNat IntKind.u64.bits))))))] (fun h3 =>
 (0 ≤ (32 : Int) ∧
 (idxP m1 (IntKind.i64.wrap (s2.1 + 1)) 1 fun a9 =>
 (stP a9 [.int .u32 (IntKind.u32.wrap (((IntKind.u64.wrap ((IntKind.u64.wrap (x5)) * 2 ^ (min (s : Int).toNat IntKind.u64.bits))) : Int).fdiv (2 ^ (min (32 : Int).toNat IntKind.u64.bits))))] (fun h4 =>
 (k3 ((IntKind.i64.wrap (s2.1 + 1)), ()) h4)) h3)))) h2))) h2)))) h2))
 (K m1 h2)))
 (0, ()) h1)) h)
def ref01_digit (x : Sl) (y : Sl) (K : (Int × Sl) → Hp → Prop) (h : Hp) : Prop :=
 (idxP x (y.len : Int) 1 fun a1 =>
 (ldL (.int .u32) a1 (fun x2 =>
 (0 ≤ (32 : Int) ∧
 (idxP x (IntKind.i64.wrap ((y.len : Int) - 1)) 1 fun a3 =>
 (ldL (.int .u32) a3 (fun x4 =>
 (idxP y (IntKind.i64.wrap ((y.len : Int) - 1)) 1 fun a5 =>
 (ldL (.int .u32) a5 (fun x6 =>
 (((IntKind.u64.wrap (x6)) : Int) ≠ 0 ∧
 (joinP (S := Int × Unit) (fun s7 h1 =>
 (newP [.int .u32 (IntKind.u32.wrap (s7.1))] (fun p9 h2 =>
 (callP (ref01_times y (⟨some p9, 1, 1⟩ : Sl)) (fun r10 h3 =>
 (loopP (S := Int × Sl × Unit) (fun s11 k12 h4 =>
 (callP (ref01_trim x) (fun r13 h5 =>
 (callP (ref01_compare r13 s11.2.1) (fun r14 h6 =>
 (ifP (decide (r14 < 0))
 (callP (ref01_minus s11.2.1 y) (fun r15 h7 =>
 (k12 ((IntKind.u64.wrap (s11.1 - 1)), r15, ()) h7)) h6)
 (K ((IntKind.u32.wrap (s11.1)), s11.2.1) h6))) h5)) h4))
 (s7.1, r10, ()) h3)) h2)) h1))
 (fun k8 =>
 (ifP (decide ((IntKind.u64.wrap (((ibits .or .u64 (IntKind.u64.wrap ((IntKind.u64.wrap (x2)) * 2 ^ (min (32 : Int).toNat IntKind.u64.bits))) (IntKind.u64.wrap (x4))) : Int).tdiv (IntKind.u64.wrap (x6)))) > 4294967295))
 (k8 (4294967295, ()) h)
 (k8 ((IntKind.u64.wrap (((ibits .or .u64 (IntKind.u64.wrap ((IntKind.u64.wrap (x2)) * 2 ^ (min (32 : Int).toNat IntKind.u64.bits))) (IntKind.u64.wrap (x4))) : Int).tdiv (IntKind.u64.wrap (x6)))), ()) h)))))) h))) h)))) h))
def ref01_back (a : Sl) (s : Int) (K : Sl → Hp → Prop) (h : Hp) : Prop :=
 (mkP (a.len : Int) (a.len : Int) 4 [.int .u32 0] (fun m1 h1 =>
 (loopP (S := Int × Unit) (fun s2 k3 h2 =>
 (ifP (decide (s2.1 < (a.len : Int)))
 (idxP a s2.1 1 fun a4 =>
 (ldL (.int .u32) a4 (fun x5 =>
 (joinP (S := Int × Unit) (fun s6 h3 =>
 (0 ≤ (s : Int) ∧
 (idxP m1 s2.1 1 fun a8 =>
 (stP a8 [.int .u32 (IntKind.u32.wrap ((s6.1 : Int).fdiv (2 ^ (min (s : Int).toNat IntKind.u64.bits))))] (fun h4 =>
 (k3 ((IntKind.i64.wrap (s2.1 + 1)), ()) h4)) h3))))
 (fun k7 =>
 (ifP (decide ((IntKind.i64.wrap (s2.1 + 1)) < (a.len : Int)))
 (idxP a (IntKind.i64.wrap (s2.1 + 1)) 1 fun a9 =>
 (ldL (.int .u32) a9 (fun x10 =>
 (0 ≤ (32 : Int) ∧
 (k7 (ibits .or .u64 (IntKind.u64.wrap (x5)) (IntKind.u64.wrap ((IntKind.u64.wrap (x10)) * 2 ^ (min (32 : Int).toNat IntKind.u64.bits))), ()) h2))) h2))
 (k7 ((IntKind.u64.wrap (x5)), ()) h2))))) h2))
 (callP (ref01_trim m1) (fun r11 h5 =>
 (K r11 h5)) h2)))
 (0, ()) h1)) h)
def ref01_divide (a : Sl) (b : Sl) (K : (Sl × Sl) → Hp → Prop) (h : Hp) : Prop :=
 (callP (ref01_compare a b) (fun r1 h1 =>
 (ifP (decide (r1 < 0))
 (K (nilS, a) h1)
 (ifP (decide ((a.len : Int) ≤ 2))
 (callP (ref01_short a) (fun r2 h2 =>
 (callP (ref01_short b) (fun r3 h3 =>
 ((r3 : Int) ≠ 0 ∧
 ((r3 : Int) ≠ 0 ∧
 (callP (ref01_words (IntKind.u64.wrap ((r2 : Int).tdiv r3))) (fun r4 h4 =>
 (callP (ref01_words ((r2 : Int).tmod r3)) (fun r5 h5 =>
 (K (r4, r5) h5)) h4)) h3)))) h2)) h1)
 (ifP ((b.len : Int) == 1)
 (idxP b 0 1 fun a6 =>
 (ldL (.int .u32) a6 (fun x7 =>
 (callP (ref01_by a x7) (fun r8 h6 =>
 (callP (ref01_words (IntKind.u64.wrap (r8.2))) (fun r9 h7 =>
 (K (r8.1, r9) h7)) h6)) h1)) h1))
 (callP (ref01_length b) (fun r10 h8 =>
 (callP (ref01_shifted a (IntKind.i64.wrap ((IntKind.i64.wrap (32 * (b.len : Int))) - r10))) (fun r11 h9 =>
 (callP (ref01_shifted b (IntKind.i64.wrap ((IntKind.i64.wrap (32 * (b.len : Int))) - r10))) (fun r12 h10 =>
 (callP (ref01_trim r12) (fun r13 h11 =>
 (mkP (a.len : Int) (a.len : Int) 4 [.int .u32 0] (fun m14 h12 =>
 (loopP (S := Int × Unit) (fun s15 k16 h13 =>
 (ifP (decide (s15.1 ≥ 0))
 (slP r11 s15.1 (IntKind.i64.wrap ((IntKind.i64.wrap (s15.1 + (r13.len : Int))) + 1)) 1 fun c17 =>
 (callP (ref01_digit c17 r13) (fun r18 h14 =>
 (idxP m14 s15.1 1 fun a19 =>
 (stP a19 [.int .u32 r18.1] (fun h15 =>
 (callP (ref01_trim c17) (fun r20 h16 =>
 (callP (ref01_minus r20 r18.2) (fun r21 h17 =>
 (loopP (S := Int × Unit) (fun s22 k23 h18 =>
 (ifP (decide (s22.1 < (c17.len : Int)))
 (joinP (S := Unit) (fun s24 h19 =>
 (k23 ((IntKind.i64.wrap (s22.1 + 1)), ()) h19))
 (fun k25 =>
 (idxP c17 s22.1 1 fun a26 =>
 (stP a26 [.int .u32 0] (fun h20 =>
 (ifP (decide (s22.1 < (r21.len : Int)))
 (idxP r21 s22.1 1 fun a27 =>
 (ldL (.int .u32) a27 (fun x28 =>
 (idxP c17 s22.1 1 fun a29 =>
 (stP a29 [.int .u32 x28] (fun h21 =>
 (k25 () h21)) h20))) h20))
 (k25 () h20))) h18))))
 (k16 ((IntKind.i64.wrap (s15.1 - 1)), ()) h18)))
 (0, ()) h17)) h16)) h15)) h14))) h13))
 (callP (ref01_trim m14) (fun r30 h22 =>
 (callP (ref01_trim r11) (fun r31 h23 =>
 (callP (ref01_back r31 (IntKind.i64.wrap ((IntKind.i64.wrap (32 * (b.len : Int))) - r10))) (fun r32 h24 =>
 (K (r30, r32) h24)) h23)) h22)) h13)))
 ((IntKind.i64.wrap ((a.len : Int) - (r13.len : Int))), ()) h12)) h11)) h10)) h9)) h8)) h1))))) h)
def ref01_GCD (a : TInt) (b : TInt) (K : TInt → Hp → Prop) (h : Hp) : Prop :=
 (callP (ref01_trim a.mag) (fun r1 h1 =>
 (callP (ref01_trim b.mag) (fun r2 h2 =>
 (loopP (S := Sl × Sl × Unit) (fun s3 k4 h3 =>
 (ifP (decide ((s3.2.1.len : Int) > 0))
 (callP (ref01_divide s3.1 s3.2.1) (fun r5 h4 =>
 (k4 (s3.2.1, r5.2, ()) h4)) h3)
 (callP (ref01_signed false s3.1) (fun r6 h5 =>
 (K r6 h5)) h3)))
 (r1, r2, ()) h2)) h1)) h)
def ref02_one (a : TInt) (K : Bool → Hp → Prop) (h : Hp) : Prop :=
 (ifP ((a.mag.len : Int) == 1)
 (idxP a.mag 0 1 fun a1 =>
 (ldL (.int .u32) a1 (fun x2 =>
 (ifP (x2 == 1)
 (K (!a.neg) h)
 (K false h))) h))
 (K false h))
def ref01_FromInt (n : Int) (K : TInt → Hp → Prop) (h : Hp) : Prop :=
 (ifP (decide (n < 0))
 (callP (ref01_words (IntKind.u64.wrap (0 - (IntKind.u64.wrap (n))))) (fun r1 h1 =>
 (callP (ref01_signed true r1) (fun r2 h2 =>
 (K r2 h2)) h1)) h)
 (callP (ref01_words (IntKind.u64.wrap (n))) (fun r3 h3 =>
 (callP (ref01_signed false r3) (fun r4 h4 =>
 (K r4 h4)) h3)) h))
def ref01_DivMod (a : TInt) (b : TInt) (K : (TInt × TInt × Int) → Hp → Prop) (h : Hp) : Prop :=
 (callP (ref01_Norm a) (fun r1 h1 =>
 (callP (ref01_Norm b) (fun r2 h2 =>
 (ifP ((r2.mag.len : Int) == 0)
 (K ((⟨false, nilS⟩ : TInt), (⟨false, nilS⟩ : TInt), 6) h2)
 (callP (ref01_divide r1.mag r2.mag) (fun r3 h3 =>
 (callP (ref01_signed (!(r1.neg == r2.neg)) r3.1) (fun r4 h4 =>
 (callP (ref01_Mul r4 r2) (fun r5 h5 =>
 (callP (ref01_Sub r1 r5) (fun r6 h6 =>
 (joinP (S := (Bool × Sl × Unit) × (Bool × Sl × Unit) × Unit) (fun s7 h7 =>
 (K ((⟨s7.1.1, s7.1.2.1⟩ : TInt), (⟨s7.2.1.1, s7.2.1.2.1⟩ : TInt), 0) h7))
 (fun k8 =>
 (callP (ref01_Sign r6) (fun r9 h8 =>
 (callP (ref01_Sign r2) (fun r10 h9 =>
 (ifP (decide ((IntKind.i64.wrap (r9 * r10)) < 0))
 (callP (ref01_FromInt 1) (fun r11 h10 =>
 (callP (ref01_Sub r4 r11) (fun r12 h11 =>
 (callP (ref01_Add r6 r2) (fun r13 h12 =>
 (k8 ((r12.neg, r12.mag, ()), (r13.neg, r13.mag, ()), ()) h12)) h11)) h10)) h9)
 (k8 ((r4.neg, r4.mag, ()), (r6.neg, r6.mag, ()), ()) h9))) h8)) h6)))) h5)) h4)) h3)) h2))) h1)) h)
def ref02_quo (a : TInt) (b : TInt) (K : TInt → Hp → Prop) (h : Hp) : Prop :=
 (callP (ref01_DivMod a b) (fun r1 h1 =>
 (K (⟨r1.1.neg, r1.1.mag⟩ : TInt) h1)) h)
def ref02_Add (a : TRat) (b : TRat) (K : TRat → Hp → Prop) (h : Hp) : Prop :=
 (ifP ((a.num.mag.len : Int) == 0)
 (K b h)
 (ifP ((b.num.mag.len : Int) == 0)
 (K a h)
 (joinP (S := (Bool × Sl × Bool × Sl × Unit) × Unit) (fun s1 h1 =>
 (callP (ref01_GCD a.den b.den) (fun r3 h2 =>
 (callP (ref02_one r3) (fun r4 h3 =>
 (ifP r4
 (callP (ref01_Mul a.num b.den) (fun r5 h4 =>
 (callP (ref01_Mul b.num a.den) (fun r6 h5 =>
 (callP (ref01_Add r5 r6) (fun r7 h6 =>
 (callP (ref01_Mul a.den b.den) (fun r8 h7 =>
 (K (⟨r7, r8⟩ : TRat) h7)) h6)) h5)) h4)) h3)
 (callP (ref02_quo a.den r3) (fun r9 h8 =>
 (callP (ref02_quo b.den r3) (fun r10 h9 =>
 (callP (ref01_Mul a.num r10) (fun r11 h10 =>
 (callP (ref01_Mul b.num r9) (fun r12 h11 =>
 (callP (ref01_Add r11 r12) (fun r13 h12 =>
 (callP (ref01_GCD r13 r3) (fun r14 h13 =>
 (callP (ref02_quo r13 r14) (fun r15 h14 =>
 (callP (ref02_quo b.den r14) (fun r16 h15 =>
 (callP (ref01_Mul r9 r16) (fun r17 h16 =>
 (K (⟨r15, r17⟩ : TRat) h16)) h15)) h14)) h13)) h12)) h11)) h10)) h9)) h8)) h3))) h2)) h1))
 (fun k2 =>
 (callP (ref02_one a.den) (fun r18 h17 =>
 (ifP r18
 (callP (ref02_one b.den) (fun r19 h18 =>
 (ifP r19
 (callP (ref01_Add a.num b.num) (fun r20 h19 =>
 (K (⟨r20, a.den⟩ : TRat) h19)) h18)
 (k2 ((false, nilS, false, nilS, ()), ()) h18))) h17)
 (k2 ((false, nilS, false, nilS, ()), ()) h17))) h)))))
def ref02_Neg (a : TRat) (K : TRat → Hp → Prop) (h : Hp) : Prop :=
 (callP (ref01_Neg a.num) (fun r1 h1 =>
 (K (⟨r1, a.den⟩ : TRat) h1)) h)
def ref02_Sub (a : TRat) (b : TRat) (K : TRat → Hp → Prop) (h : Hp) : Prop :=
 (callP (ref02_Neg b) (fun r1 h1 =>
 (callP (ref02_Add a r1) (fun r2 h2 =>
 (K r2 h2)) h1)) h)
def ref02_FromInt (n : Int) (K : TRat → Hp → Prop) (h : Hp) : Prop :=
 (callP (ref01_FromInt n) (fun r1 h1 =>
 (callP (ref01_FromInt 1) (fun r2 h2 =>
 (K (⟨r1, r2⟩ : TRat) h2)) h1)) h)
def ref02_Mul (a : TRat) (b : TRat) (K : TRat → Hp → Prop) (h : Hp) : Prop :=
 (joinP (S := (Bool × Sl × Bool × Sl × Unit) × Unit) (fun s1 h1 =>
 (joinP (S := (Bool × Sl × Bool × Sl × Unit) × Unit) (fun s3 h2 =>
 (callP (ref01_GCD a.num b.den) (fun r5 h3 =>
 (callP (ref01_GCD b.num a.den) (fun r6 h4 =>
 (callP (ref02_quo a.num r5) (fun r7 h5 =>
 (callP (ref02_quo b.num r6) (fun r8 h6 =>
 (callP (ref01_Mul r7 r8) (fun r9 h7 =>
 (callP (ref02_quo a.den r6) (fun r10 h8 =>
 (callP (ref02_quo b.den r5) (fun r11 h9 =>
 (callP (ref01_Mul r10 r11) (fun r12 h10 =>
 (K (⟨r9, r12⟩ : TRat) h10)) h9)) h8)) h7)) h6)) h5)) h4)) h3)) h2))
 (fun k4 =>
 (callP (ref02_one a.den) (fun r13 h11 =>
 (ifP r13
 (callP (ref02_one b.den) (fun r14 h12 =>
 (ifP r14
 (callP (ref01_Mul a.num b.num) (fun r15 h13 =>
 (K (⟨r15, a.den⟩ : TRat) h13)) h12)
 (k4 ((s1.1.1, s1.1.2.1, s1.1.2.2.1, s1.1.2.2.2.1, ()), ()) h12))) h11)
 (k4 ((s1.1.1, s1.1.2.1, s1.1.2.2.1, s1.1.2.2.2.1, ()), ()) h11))) h1))))
 (fun k2 =>
 (ifP ((a.num.mag.len : Int) == 0)
 (callP (ref02_FromInt 0) (fun r16 h14 =>
 (K r16 h14)) h)
 (ifP ((b.num.mag.len : Int) == 0)
 (callP (ref02_FromInt 0) (fun r17 h15 =>
 (K r17 h15)) h)
 (k2 ((false, nilS, false, nilS, ()), ()) h)))))
def ref03_ends (a : TInterval) (b : TInterval) (op : Int) (K : Sl → Hp → Prop) (h : Hp) : Prop :=
 (newP [.bool a.low.num.neg, .slice a.low.num.mag.a a.low.num.mag.len a.low.num.mag.cap, .bool a.low.den.neg, .slice a.low.den.mag.a a.low.den.mag.len a.low.den.mag.cap, .bool a.high.num.neg, .slice a.high.num.mag.a a.high.num.mag.len a.high.num.mag.cap, .bool a.high.den.neg, .slice a.high.den.mag.a a.high.den.mag.len a.high.den.mag.cap] (fun p1 h1 =>
 (newP [.bool b.low.num.neg, .slice b.low.num.mag.a b.low.num.mag.len b.low.num.mag.cap, .bool b.low.den.neg, .slice b.low.den.mag.a b.low.den.mag.len b.low.den.mag.cap, .bool b.high.num.neg, .slice b.high.num.mag.a b.high.num.mag.len b.high.num.mag.cap, .bool b.high.den.neg, .slice b.high.den.mag.a b.high.den.mag.len b.high.den.mag.cap] (fun p2 h2 =>
 (loopP (S := Sl × Int × Unit) (fun s3 k4 h3 =>
 (ifP (decide (s3.2.1 < 2))
 (loopP (S := Sl × Int × Unit) (fun s5 k6 h4 =>
 (ifP (decide (s5.2.1 < 2))
 (joinP (S := Sl × Unit) (fun s7 h5 =>
 (k6 (s7.1, (IntKind.i64.wrap (s5.2.1 + 1)), ()) h5))
 (fun k8 =>
 (ifP (op == 0)
 (idxP (⟨some p1, 2, 2⟩ : Sl) s3.2.1 4 fun a9 =>
 (ldL (.bool) (a9.add 0) (fun x10_0 =>
 (ldL (.sl) (a9.add 1) (fun x10_1 =>
 (ldL (.bool) (a9.add 2) (fun x10_2 =>
 (ldL (.sl) (a9.add 3) (fun x10_3 =>
 (idxP (⟨some p2, 2, 2⟩ : Sl) s5.2.1 4 fun a11 =>
 (ldL (.bool) (a11.add 0) (fun x12_0 =>
 (ldL (.sl) (a11.add 1) (fun x12_1 =>
 (ldL (.bool) (a11.add 2) (fun x12_2 =>
 (ldL (.sl) (a11.add 3) (fun x12_3 =>
 (callP (ref02_Add (⟨(⟨x10_0, x10_1⟩ : TInt), (⟨x10_2, x10_3⟩ : TInt)⟩ : TRat) (⟨(⟨x12_0, x12_1⟩ : TInt), (⟨x12_2, x12_3⟩ : TInt)⟩ : TRat)) (fun r13 h6 =>
 (appP 4 64 [.bool false, .slice nilS.a nilS.len nilS.cap, .bool false, .slice nilS.a nilS.len nilS.cap] s5.1 1 [.bool r13.num.neg, .slice r13.num.mag.a r13.num.mag.len r13.num.mag.cap, .bool r13.den.neg, .slice r13.den.mag.a r13.den.mag.len r13.den.mag.cap] (fun w14 h7 =>
 (k8 (w14, ()) h7)) h6)) h4)) h4)) h4)) h4)) h4))) h4)) h4)) h4)) h4))
 (ifP (op == 1)
 (idxP (⟨some p1, 2, 2⟩ : Sl) s3.2.1 4 fun a15 =>
 (ldL (.bool) (a15.add 0) (fun x16_0 =>
 (ldL (.sl) (a15.add 1) (fun x16_1 =>
 (ldL (.bool) (a15.add 2) (fun x16_2 =>
 (ldL (.sl) (a15.add 3) (fun x16_3 =>
 (idxP (⟨some p2, 2, 2⟩ : Sl) s5.2.1 4 fun a17 =>
 (ldL (.bool) (a17.add 0) (fun x18_0 =>
 (ldL (.sl) (a17.add 1) (fun x18_1 =>
 (ldL (.bool) (a17.add 2) (fun x18_2 =>
 (ldL (.sl) (a17.add 3) (fun x18_3 =>
 (callP (ref02_Sub (⟨(⟨x16_0, x16_1⟩ : TInt), (⟨x16_2, x16_3⟩ : TInt)⟩ : TRat) (⟨(⟨x18_0, x18_1⟩ : TInt), (⟨x18_2, x18_3⟩ : TInt)⟩ : TRat)) (fun r19 h8 =>
 (appP 4 64 [.bool false, .slice nilS.a nilS.len nilS.cap, .bool false, .slice nilS.a nilS.len nilS.cap] s5.1 1 [.bool r19.num.neg, .slice r19.num.mag.a r19.num.mag.len r19.num.mag.cap, .bool r19.den.neg, .slice r19.den.mag.a r19.den.mag.len r19.den.mag.cap] (fun w20 h9 =>
 (k8 (w20, ()) h9)) h8)) h4)) h4)) h4)) h4)) h4))) h4)) h4)) h4)) h4))
 (idxP (⟨some p1, 2, 2⟩ : Sl) s3.2.1 4 fun a21 =>
 (ldL (.bool) (a21.add 0) (fun x22_0 =>
 (ldL (.sl) (a21.add 1) (fun x22_1 =>
 (ldL (.bool) (a21.add 2) (fun x22_2 =>
 (ldL (.sl) (a21.add 3) (fun x22_3 =>
 (idxP (⟨some p2, 2, 2⟩ : Sl) s5.2.1 4 fun a23 =>
 (ldL (.bool) (a23.add 0) (fun x24_0 =>
 (ldL (.sl) (a23.add 1) (fun x24_1 =>
 (ldL (.bool) (a23.add 2) (fun x24_2 =>
 (ldL (.sl) (a23.add 3) (fun x24_3 =>
 (callP (ref02_Mul (⟨(⟨x22_0, x22_1⟩ : TInt), (⟨x22_2, x22_3⟩ : TInt)⟩ : TRat) (⟨(⟨x24_0, x24_1⟩ : TInt), (⟨x24_2, x24_3⟩ : TInt)⟩ : TRat)) (fun r25 h10 =>
 (appP 4 64 [.bool false, .slice nilS.a nilS.len nilS.cap, .bool false, .slice nilS.a nilS.len nilS.cap] s5.1 1 [.bool r25.num.neg, .slice r25.num.mag.a r25.num.mag.len r25.num.mag.cap, .bool r25.den.neg, .slice r25.den.mag.a r25.den.mag.len r25.den.mag.cap] (fun w26 h11 =>
 (k8 (w26, ()) h11)) h10)) h4)) h4)) h4)) h4)) h4))) h4)) h4)) h4)) h4))))))
 (k4 (s5.1, (IntKind.i64.wrap (s3.2.1 + 1)), ()) h4)))
 (s3.1, 0, ()) h3)
 (K s3.1 h3)))
 (nilS, 0, ()) h2)) h1)) h)
def ref03_Mul (a : TInterval) (b : TInterval) (K : TInterval → Hp → Prop) (h : Hp) : Prop :=
 (callP (ref03_ends a b 2) (fun r1 h1 =>
 (callP (ref03_Hull r1) (fun r2 h2 =>
 (K r2 h2)) h1)) h)
def ref02_Sign (a : TRat) (K : Int → Hp → Prop) (h : Hp) : Prop :=
 (callP (ref01_Sign a.num) (fun r1 h1 =>
 (K r1 h1)) h)
def ref03_Div (a : TInterval) (b : TInterval) (K : (TInterval × Int) → Hp → Prop) (h : Hp) : Prop :=
 (joinP (S := (Bool × Sl × Bool × Sl × Bool × Sl × Bool × Sl × Unit) × Unit) (fun s1 h1 =>
 (callP (ref02_Inv b.low) (fun r3 h2 =>
 (callP (ref02_Inv b.high) (fun r4 h3 =>
 (newP [.bool r3.num.neg, .slice r3.num.mag.a r3.num.mag.len r3.num.mag.cap, .bool r3.den.neg, .slice r3.den.mag.a r3.den.mag.len r3.den.mag.cap, .bool r4.num.neg, .slice r4.num.mag.a r4.num.mag.len r4.num.mag.cap, .bool r4.den.neg, .slice r4.den.mag.a r4.den.mag.len r4.den.mag.cap] (fun p5 h4 =>
 (callP (ref03_Hull (⟨some p5, 2, 2⟩ : Sl)) (fun r6 h5 =>
 (callP (ref03_Mul a r6) (fun r7 h6 =>
 (K (r7, 0) h6)) h5)) h4)) h3)) h2)) h1))
 (fun k2 =>
 (callP (ref02_Sign b.low) (fun r8 h7 =>
 (ifP (decide (r8 ≤ 0))
 (callP (ref02_Sign b.high) (fun r9 h8 =>
 (ifP (decide (r9 ≥ 0))
 (K ((⟨(⟨(⟨false, nilS⟩ : TInt), (⟨false, nilS⟩ : TInt)⟩ : TRat), (⟨(⟨false, nilS⟩ : TInt), (⟨false, nilS⟩ : TInt)⟩ : TRat)⟩ : TInterval), 6) h8)
 (k2 ((false, nilS, false, nilS, false, nilS, false, nilS, ()), ()) h8))) h7)
 (k2 ((false, nilS, false, nilS, false, nilS, false, nilS, ()), ()) h7))) h)))
def ref02_SameInt (a : TInt) (b : TInt) (K : Bool → Hp → Prop) (h : Hp) : Prop :=
 (joinP (S := Unit) (fun s1 h1 =>
 (loopP (S := Int × Unit) (fun s3 k4 h2 =>
 (ifP (decide (s3.1 < (a.mag.len : Int)))
 (idxP a.mag s3.1 1 fun a5 =>
 (ldL (.int .u32) a5 (fun x6 =>
 (idxP b.mag s3.1 1 fun a7 =>
 (ldL (.int .u32) a7 (fun x8 =>
 (ifP (x6 != x8)
 (K false h2)
 (k4 ((IntKind.i64.wrap (s3.1 + 1)), ()) h2))) h2))) h2))
 (K true h2)))
 (0, ()) h1))
 (fun k2 =>
 (ifP (!(a.neg == b.neg))
 (K false h)
 (ifP ((a.mag.len : Int) != (b.mag.len : Int))
 (K false h)
 (k2 () h)))))
def ref02_Same (a : TRat) (b : TRat) (K : Bool → Hp → Prop) (h : Hp) : Prop :=
 (callP (ref02_SameInt a.num b.num) (fun r1 h1 =>
 (ifP r1
 (callP (ref02_SameInt a.den b.den) (fun r2 h2 =>
 (K r2 h2)) h1)
 (K false h1))) h)
def ref03_Same (a : TInterval) (b : TInterval) (K : Bool → Hp → Prop) (h : Hp) : Prop :=
 (callP (ref02_Same a.low b.low) (fun r1 h1 =>
 (ifP r1
 (callP (ref02_Same a.high b.high) (fun r2 h2 =>
 (K r2 h2)) h1)
 (K false h1))) h)
def ref03_Zero (a : TInterval) (K : Bool → Hp → Prop) (h : Hp) : Prop :=
 (ifP ((IntKind.i64.wrap ((IntKind.i64.wrap ((IntKind.i64.wrap ((a.low.num.mag.len : Int) + (a.low.den.mag.len : Int))) + (a.high.num.mag.len : Int))) + (a.high.den.mag.len : Int))) == 0)
 (ifP (!a.low.num.neg)
 (ifP (!a.low.den.neg)
 (ifP (!a.high.num.neg)
 (K (!a.high.den.neg) h)
 (K false h))
 (K false h))
 (K false h))
 (K false h))
def interval_Point (a : TRat) (K : TInterval → Hp → Prop) (h : Hp) : Prop :=
 (newP [.bool a.num.neg, .slice a.num.mag.a a.num.mag.len a.num.mag.cap, .bool a.den.neg, .slice a.den.mag.a a.den.mag.len a.den.mag.cap, .bool a.num.neg, .slice a.num.mag.a a.num.mag.len a.num.mag.cap, .bool a.den.neg, .slice a.den.mag.a a.den.mag.len a.den.mag.cap] (fun p1 h1 =>
 (callP (interval_hull (⟨some p1, 2, 2⟩ : Sl)) (fun r2 h2 =>
 (K r2 h2)) h1)) h)
def interval_power (n : Int) (K : TInt → Hp → Prop) (h : Hp) : Prop :=
 ((32 : Int) ≠ 0 ∧
 (mkP (IntKind.i64.wrap ((IntKind.i64.wrap ((n : Int).tdiv 32)) + 1)) (IntKind.i64.wrap ((IntKind.i64.wrap ((n : Int).tdiv 32)) + 1)) 4 [.int .u32 0] (fun m1 h1 =>
 ((32 : Int) ≠ 0 ∧
 ((32 : Int) ≠ 0 ∧
 (0 ≤ (((n : Int).tmod 32) : Int) ∧
 (idxP m1 (IntKind.i64.wrap ((n : Int).tdiv 32)) 1 fun a2 =>
 (stP a2 [.int .u32 (IntKind.u32.wrap (1 * 2 ^ (min (((n : Int).tmod 32) : Int).toNat IntKind.u32.bits)))] (fun h2 =>
 (K (⟨false, m1⟩ : TInt) h2)) h1)))))) h))
def interval_floor (a : TRat) (n : TInt) (K : TInt → Hp → Prop) (h : Hp) : Prop :=
 (callP (integer_Mul a.num n) (fun r1 h1 =>
 (callP (integer_DivMod r1 a.den) (fun r2 h2 =>
 (K (⟨r2.1.neg, r2.1.mag⟩ : TInt) h2)) h1)) h)
def integer_Bits (a : TInt) (K : Int → Hp → Prop) (h : Hp) : Prop :=
 (callP (integer_trim a.mag) (fun r1 h1 =>
 (ifP ((r1.len : Int) == 0)
 (K 0 h1)
 (idxP r1 (IntKind.i64.wrap ((r1.len : Int) - 1)) 1 fun a2 =>
 (ldL (.int .u32) a2 (fun x3 =>
 (callP (math_bits_Len32 x3) (fun r4 h2 =>
 (K (IntKind.i64.wrap ((IntKind.i64.wrap (32 * (IntKind.i64.wrap ((r1.len : Int) - 1)))) + r4)) h2)) h1)) h1)))) h)
def integer_shifted (n : Int) (K : Sl → Hp → Prop) (h : Hp) : Prop :=
 ((32 : Int) ≠ 0 ∧
 (mkP (IntKind.i64.wrap ((IntKind.i64.wrap ((n : Int).tdiv 32)) + 1)) (IntKind.i64.wrap ((IntKind.i64.wrap ((n : Int).tdiv 32)) + 1)) 4 [.int .u32 0] (fun m1 h1 =>
 ((32 : Int) ≠ 0 ∧
 ((32 : Int) ≠ 0 ∧
 (0 ≤ (((n : Int).tmod 32) : Int) ∧
 (idxP m1 (IntKind.i64.wrap ((n : Int).tdiv 32)) 1 fun a2 =>
 (stP a2 [.int .u32 (IntKind.u32.wrap (1 * 2 ^ (min (((n : Int).tmod 32) : Int).toNat IntKind.u32.bits)))] (fun h2 =>
 (K m1 h2)) h1)))))) h))
def integer_half (a : Sl) (K : Sl → Hp → Prop) (h : Hp) : Prop :=
 (callP (integer_shiftRight a 1) (fun r1 h1 =>
 (callP (integer_trim r1) (fun r2 h2 =>
 (K r2 h2)) h1)) h)
def integer_Sqrt (a : TInt) (K : (TInt × Int) → Hp → Prop) (h : Hp) : Prop :=
 (callP (integer_Sign a) (fun r1 h1 =>
 (ifP (r1 == (-1))
 (K ((⟨false, nilS⟩ : TInt), 7) h1)
 (ifP (r1 == 0)
 (K ((⟨false, nilS⟩ : TInt), 0) h1)
 (callP (integer_Bits a) (fun r2 h2 =>
 ((2 : Int) ≠ 0 ∧
 (callP (integer_shifted (IntKind.i64.wrap ((IntKind.i64.wrap ((r2 : Int).tdiv 2)) + 1))) (fun r3 h3 =>
 (loopP (S := (Bool × Sl × Unit) × Sl × Unit) (fun s4 k5 h4 =>
 (callP (integer_trim a.mag) (fun r6 h5 =>
 (callP (integer_divide r6 s4.2.1) (fun r7 h6 =>
 (callP (integer_plus s4.2.1 r7.1) (fun r8 h7 =>
 (callP (integer_half r8) (fun r9 h8 =>
 (callP (integer_compare r9 s4.2.1) (fun r10 h9 =>
 (ifP (decide (r10 ≥ 0))
 (callP (integer_signed false s4.2.1) (fun r11 h10 =>
 (K (r11, 0) h10)) h9)
 (k5 ((s4.1.1, s4.1.2.1, ()), r9, ()) h9))) h8)) h7)) h6)) h5)) h4))
 ((false, nilS, ()), r3, ()) h3)) h2))) h1)))) h)
def rational_Neg (a : TRat) (K : TRat → Hp → Prop) (h : Hp) : Prop :=
 (callP (integer_Neg a.num) (fun r1 h1 =>
 (K (⟨r1, a.den⟩ : TRat) h1)) h)
def interval_ceil (a : TRat) (n : TInt) (K : TInt → Hp → Prop) (h : Hp) : Prop :=
 (callP (rational_Neg a) (fun r1 h1 =>
 (callP (interval_floor r1 n) (fun r2 h2 =>
 (callP (integer_Neg r2) (fun r3 h3 =>
 (K r3 h3)) h2)) h1)) h)
def integer_Norm (a : TInt) (K : TInt → Hp → Prop) (h : Hp) : Prop :=
 (callP (integer_trim a.mag) (fun r1 h1 =>
 (callP (slices_Clone_uint32_uint32 r1) (fun r2 h2 =>
 (callP (integer_signed a.neg r2) (fun r3 h3 =>
 (K r3 h3)) h2)) h1)) h)
def rational_Make (num : TInt) (den : TInt) (K : (TRat × Int) → Hp → Prop) (h : Hp) : Prop :=
 (callP (integer_Norm num) (fun r1 h1 =>
 (callP (integer_Norm den) (fun r2 h2 =>
 (callP (rational_isZero r2) (fun r3 h3 =>
 (ifP r3
 (K ((⟨(⟨false, nilS⟩ : TInt), (⟨false, nilS⟩ : TInt)⟩ : TRat), 6) h3)
 (callP (rational_lowest r1 r2) (fun r4 h4 =>
 (K (r4, 0) h4)) h3))) h2)) h1)) h)
def interval_over (a : TInt) (b : TInt) (K : TRat → Hp → Prop) (h : Hp) : Prop :=
 (callP (rational_Make a b) (fun r1 h1 =>
 (K (⟨(⟨r1.1.num.neg, r1.1.num.mag⟩ : TInt), (⟨r1.1.den.neg, r1.1.den.mag⟩ : TInt)⟩ : TRat) h1)) h)
def interval_Sqrt (a : TInterval) (bits : Int) (K : (TInterval × Int) → Hp → Prop) (h : Hp) : Prop :=
 (joinP (S := (Bool × Sl × Bool × Sl × Bool × Sl × Bool × Sl × Unit) × Unit) (fun s1 h1 =>
 (callP (interval_power bits) (fun r3 h2 =>
 (callP (interval_power (IntKind.i64.wrap (2 * bits))) (fun r4 h3 =>
 (callP (interval_floor a.low r4) (fun r5 h4 =>
 (callP (integer_Sqrt r5) (fun r6 h5 =>
 (callP (interval_ceil a.high r4) (fun r7 h6 =>
 (callP (integer_Sqrt r7) (fun r8 h7 =>
 (joinP (S := (Bool × Sl × Unit) × Unit) (fun s9 h8 =>
 (callP (interval_over (⟨r6.1.neg, r6.1.mag⟩ : TInt) r3) (fun r11 h9 =>
 (callP (interval_over (⟨s9.1.1, s9.1.2.1⟩ : TInt) r3) (fun r12 h10 =>
 (K ((⟨r11, r12⟩ : TInterval), 0) h10)) h9)) h8))
 (fun k10 =>
 (callP (integer_Mul (⟨r8.1.neg, r8.1.mag⟩ : TInt) (⟨r8.1.neg, r8.1.mag⟩ : TInt)) (fun r13 h11 =>
 (callP (integer_Cmp r13 r7) (fun r14 h12 =>
 (ifP (decide (r14 < 0))
 (callP (integer_FromInt 1) (fun r15 h13 =>
 (callP (integer_Add (⟨r8.1.neg, r8.1.mag⟩ : TInt) r15) (fun r16 h14 =>
 (k10 ((r16.neg, r16.mag, ()), ()) h14)) h13)) h12)
 (k10 ((r8.1.neg, r8.1.mag, ()), ()) h12))) h11)) h7)))) h6)) h5)) h4)) h3)) h2)) h1))
 (fun k2 =>
 (ifP (decide (bits < 0))
 (K ((⟨(⟨(⟨false, nilS⟩ : TInt), (⟨false, nilS⟩ : TInt)⟩ : TRat), (⟨(⟨false, nilS⟩ : TInt), (⟨false, nilS⟩ : TInt)⟩ : TRat)⟩ : TInterval), 1) h)
 (ifP (decide (bits > 4096))
 (K ((⟨(⟨(⟨false, nilS⟩ : TInt), (⟨false, nilS⟩ : TInt)⟩ : TRat), (⟨(⟨false, nilS⟩ : TInt), (⟨false, nilS⟩ : TInt)⟩ : TRat)⟩ : TInterval), 1) h)
 (callP (rational_Sign a.low) (fun r17 h15 =>
 (ifP (decide (r17 < 0))
 (K ((⟨(⟨(⟨false, nilS⟩ : TInt), (⟨false, nilS⟩ : TInt)⟩ : TRat), (⟨(⟨false, nilS⟩ : TInt), (⟨false, nilS⟩ : TInt)⟩ : TRat)⟩ : TInterval), 7) h15)
 (k2 ((false, nilS, false, nilS, false, nilS, false, nilS, ()), ()) h15))) h)))))
def ref02_Make (num : TInt) (den : TInt) (K : TRat → Hp → Prop) (h : Hp) : Prop :=
 (callP (ref01_GCD num den) (fun r1 h1 =>
 (joinP (S := (Bool × Sl × Unit) × Unit) (fun s2 h2 =>
 (callP (ref02_quo num (⟨s2.1.1, s2.1.2.1⟩ : TInt)) (fun r4 h3 =>
 (callP (ref02_quo den (⟨s2.1.1, s2.1.2.1⟩ : TInt)) (fun r5 h4 =>
 (K (⟨r4, r5⟩ : TRat) h4)) h3)) h2))
 (fun k3 =>
 (callP (ref01_Sign den) (fun r6 h5 =>
 (ifP (decide (r6 < 0))
 (callP (ref01_Neg r1) (fun r7 h6 =>
 (k3 ((r7.neg, r7.mag, ()), ()) h6)) h5)
 (k3 ((r1.neg, r1.mag, ()), ()) h5))) h1)))) h)
def ref02_Frac (num : Int) (den : Int) (K : TRat → Hp → Prop) (h : Hp) : Prop :=
 (ifP (den == 0)
 (callP (ref02_FromInt 0) (fun r1 h1 =>
 (K r1 h1)) h)
 (callP (ref01_FromInt num) (fun r2 h2 =>
 (callP (ref01_FromInt den) (fun r3 h3 =>
 (callP (ref02_Make r2 r3) (fun r4 h4 =>
 (K r4 h4)) h3)) h2)) h))
def law03_span (a : Int) (b : Int) (c : Int) (d : Int) (K : TInterval → Hp → Prop) (h : Hp) : Prop :=
 (callP (ref02_Frac a b) (fun r1 h1 =>
 (callP (ref02_Frac c d) (fun r2 h2 =>
 (K (⟨r1, r2⟩ : TInterval) h2)) h1)) h)
def law03_awake (K : Bool → Hp → Prop) (h : Hp) : Prop :=
 (callP (ref02_FromInt 2) (fun r1 h1 =>
 (callP (interval_Point r1) (fun r2 h2 =>
 (callP (interval_Sqrt r2 1) (fun r3 h3 =>
 (callP (ref02_FromInt 2) (fun r4 h4 =>
 (callP (interval_Point r4) (fun r5 h5 =>
 (callP (interval_Sqrt r5 2) (fun r6 h6 =>
 (callP (law03_span 1 1 2 1) (fun r7 h7 =>
 (callP (law03_span 2 1 4 1) (fun r8 h8 =>
 (callP (interval_Div r7 r8) (fun r9 h9 =>
 (callP (law03_span (-2) 1 3 1) (fun r10 h10 =>
 (callP (law03_span (-1) 1 4 1) (fun r11 h11 =>
 (callP (interval_Mul r10 r11) (fun r12 h12 =>
 (callP (law03_span (-8) 1 12 1) (fun r13 h13 =>
 (callP (ref03_Same r12 r13) (fun r14 h14 =>
 (ifP r14
 (ifP (r3.2 == 0)
 (callP (law03_span 1 1 3 2) (fun r15 h15 =>
 (callP (ref03_Same (⟨(⟨(⟨r3.1.low.num.neg, r3.1.low.num.mag⟩ : TInt), (⟨r3.1.low.den.neg, r3.1.low.den.mag⟩ : TInt)⟩ : TRat), (⟨(⟨r3.1.high.num.neg, r3.1.high.num.mag⟩ : TInt), (⟨r3.1.high.den.neg, r3.1.high.den.mag⟩ : TInt)⟩ : TRat)⟩ : TInterval) r15) (fun r16 h16 =>
 (ifP r16
 (ifP (r6.2 == 0)
 (callP (law03_span 5 4 3 2) (fun r17 h17 =>
 (callP (ref03_Same (⟨(⟨(⟨r6.1.low.num.neg, r6.1.low.num.mag⟩ : TInt), (⟨r6.1.low.den.neg, r6.1.low.den.mag⟩ : TInt)⟩ : TRat), (⟨(⟨r6.1.high.num.neg, r6.1.high.num.mag⟩ : TInt), (⟨r6.1.high.den.neg, r6.1.high.den.mag⟩ : TInt)⟩ : TRat)⟩ : TInterval) r17) (fun r18 h18 =>
 (ifP r18
 (ifP (r9.2 == 0)
 (callP (law03_span 1 4 1 1) (fun r19 h19 =>
 (callP (ref03_Same (⟨(⟨(⟨r9.1.low.num.neg, r9.1.low.num.mag⟩ : TInt), (⟨r9.1.low.den.neg, r9.1.low.den.mag⟩ : TInt)⟩ : TRat), (⟨(⟨r9.1.high.num.neg, r9.1.high.num.mag⟩ : TInt), (⟨r9.1.high.den.neg, r9.1.high.den.mag⟩ : TInt)⟩ : TRat)⟩ : TInterval) r19) (fun r20 h20 =>
 (K r20 h20)) h19)) h18)
 (K false h18))
 (K false h18))) h17)) h16)
 (K false h16))
 (K false h16))) h15)) h14)
 (K false h14))
 (K false h14))) h13)) h12)) h11)) h10)) h9)) h8)) h7)) h6)) h5)) h4)) h3)) h2)) h1)) h)
def ref01_Valid (a : TInt) (K : Bool → Hp → Prop) (h : Hp) : Prop :=
 (callP (ref01_trim a.mag) (fun r1 h1 =>
 (ifP ((r1.len : Int) == (a.mag.len : Int))
 (ifP (!a.neg)
 (K true h1)
 (K (decide ((a.mag.len : Int) > 0)) h1))
 (K false h1))) h)
def ref02_Valid (a : TRat) (K : Bool → Hp → Prop) (h : Hp) : Prop :=
 (callP (ref01_Valid a.num) (fun r1 h1 =>
 (ifP r1
 (callP (ref01_Valid a.den) (fun r2 h2 =>
 (ifP r2
 (callP (ref01_Sign a.den) (fun r3 h3 =>
 (ifP (decide (r3 > 0))
 (callP (ref01_GCD a.num a.den) (fun r4 h4 =>
 (callP (ref02_one r4) (fun r5 h5 =>
 (K r5 h5)) h4)) h3)
 (K false h3))) h2)
 (K false h2))) h1)
 (K false h1))) h)
def ref02_Few (a : TRat) (limbs : Int) (K : Bool → Hp → Prop) (h : Hp) : Prop :=
 (ifP (decide ((a.num.mag.len : Int) ≤ limbs))
 (ifP (decide ((a.den.mag.len : Int) ≤ limbs))
 (callP (ref02_Valid a) (fun r1 h1 =>
 (K r1 h1)) h)
 (K false h))
 (K false h))
def ref03_Valid (a : TInterval) (K : Bool → Hp → Prop) (h : Hp) : Prop :=
 (callP (ref02_Valid a.low) (fun r1 h1 =>
 (ifP r1
 (callP (ref02_Valid a.high) (fun r2 h2 =>
 (ifP r2
 (callP (ref02_Cmp a.low a.high) (fun r3 h3 =>
 (K (decide (r3 ≤ 0)) h3)) h2)
 (K false h2))) h1)
 (K false h1))) h)
def ref03_Few (a : TInterval) (limbs : Int) (K : Bool → Hp → Prop) (h : Hp) : Prop :=
 (callP (ref02_Few a.low limbs) (fun r1 h1 =>
 (ifP r1
 (callP (ref02_Few a.high limbs) (fun r2 h2 =>
 (ifP r2
 (callP (ref03_Valid a) (fun r3 h3 =>
 (K r3 h3)) h2)
 (K false h2))) h1)
 (K false h1))) h)
def law03_few (l : Sl) (K : Bool → Hp → Prop) (h : Hp) : Prop :=
 (loopP (S := Int × Unit) (fun s1 k2 h1 =>
 (ifP (decide (s1.1 < (l.len : Int)))
 (idxP l s1.1 8 fun a3 =>
 (ldL (.bool) (a3.add 0) (fun x4_0 =>
 (ldL (.sl) (a3.add 1) (fun x4_1 =>
 (ldL (.bool) (a3.add 2) (fun x4_2 =>
 (ldL (.sl) (a3.add 3) (fun x4_3 =>
 (ldL (.bool) (a3.add 4) (fun x4_4 =>
 (ldL (.sl) (a3.add 5) (fun x4_5 =>
 (ldL (.bool) (a3.add 6) (fun x4_6 =>
 (ldL (.sl) (a3.add 7) (fun x4_7 =>
 (callP (ref03_Few (⟨(⟨(⟨x4_0, x4_1⟩ : TInt), (⟨x4_2, x4_3⟩ : TInt)⟩ : TRat), (⟨(⟨x4_4, x4_5⟩ : TInt), (⟨x4_6, x4_7⟩ : TInt)⟩ : TRat)⟩ : TInterval) 10) (fun r5 h2 =>
 (ifP (!r5)
 (K false h2)
 (k2 ((IntKind.i64.wrap (s1.1 + 1)), ()) h2))) h1)) h1)) h1)) h1)) h1)) h1)) h1)) h1)) h1))
 (K true h1)))
 (0, ()) h)
def law03_IntervalProducts (a : TInterval) (b : TInterval) (K : Bool → Hp → Prop) (h : Hp) : Prop :=
 (joinP (S := Unit) (fun s1 h1 =>
 (callP (interval_Div a b) (fun r3 h2 =>
 (callP (ref03_Div a b) (fun r4 h3 =>
 (callP (interval_Mul a b) (fun r5 h4 =>
 (callP (ref03_Mul a b) (fun r6 h5 =>
 (callP (ref03_Same r5 r6) (fun r7 h6 =>
 (ifP r7
 (ifP (r3.2 == r4.2)
 (ifP (r3.2 == 0)
 (callP (ref03_Same (⟨(⟨(⟨r3.1.low.num.neg, r3.1.low.num.mag⟩ : TInt), (⟨r3.1.low.den.neg, r3.1.low.den.mag⟩ : TInt)⟩ : TRat), (⟨(⟨r3.1.high.num.neg, r3.1.high.num.mag⟩ : TInt), (⟨r3.1.high.den.neg, r3.1.high.den.mag⟩ : TInt)⟩ : TRat)⟩ : TInterval) (⟨(⟨(⟨r4.1.low.num.neg, r4.1.low.num.mag⟩ : TInt), (⟨r4.1.low.den.neg, r4.1.low.den.mag⟩ : TInt)⟩ : TRat), (⟨(⟨r4.1.high.num.neg, r4.1.high.num.mag⟩ : TInt), (⟨r4.1.high.den.neg, r4.1.high.den.mag⟩ : TInt)⟩ : TRat)⟩ : TInterval)) (fun r8 h7 =>
 (ifP r8
 (K true h7)
 (ifP (r3.2 != 0)
 (callP (ref03_Zero (⟨(⟨(⟨r3.1.low.num.neg, r3.1.low.num.mag⟩ : TInt), (⟨r3.1.low.den.neg, r3.1.low.den.mag⟩ : TInt)⟩ : TRat), (⟨(⟨r3.1.high.num.neg, r3.1.high.num.mag⟩ : TInt), (⟨r3.1.high.den.neg, r3.1.high.den.mag⟩ : TInt)⟩ : TRat)⟩ : TInterval)) (fun r9 h8 =>
 (K r9 h8)) h7)
 (K false h7)))) h6)
 (ifP (r3.2 != 0)
 (callP (ref03_Zero (⟨(⟨(⟨r3.1.low.num.neg, r3.1.low.num.mag⟩ : TInt), (⟨r3.1.low.den.neg, r3.1.low.den.mag⟩ : TInt)⟩ : TRat), (⟨(⟨r3.1.high.num.neg, r3.1.high.num.mag⟩ : TInt), (⟨r3.1.high.den.neg, r3.1.high.den.mag⟩ : TInt)⟩ : TRat)⟩ : TInterval)) (fun r10 h9 =>
 (K r10 h9)) h6)
 (K false h6)))
 (K false h6))
 (K false h6))) h5)) h4)) h3)) h2)) h1))
 (fun k2 =>
 (callP (law03_awake) (fun r11 h10 =>
 (ifP (!r11)
 (callP (law03_awake) (fun r12 h11 =>
 (K r12 h11)) h10)
 (newP [.bool a.low.num.neg, .slice a.low.num.mag.a a.low.num.mag.len a.low.num.mag.cap, .bool a.low.den.neg, .slice a.low.den.mag.a a.low.den.mag.len a.low.den.mag.cap, .bool a.high.num.neg, .slice a.high.num.mag.a a.high.num.mag.len a.high.num.mag.cap, .bool a.high.den.neg, .slice a.high.den.mag.a a.high.den.mag.len a.high.den.mag.cap, .bool b.low.num.neg, .slice b.low.num.mag.a b.low.num.mag.len b.low.num.mag.cap, .bool b.low.den.neg, .slice b.low.den.mag.a b.low.den.mag.len b.low.den.mag.cap, .bool b.high.num.neg, .slice b.high.num.mag.a b.high.num.mag.len b.high.num.mag.cap, .bool b.high.den.neg, .slice b.high.den.mag.a b.high.den.mag.len b.high.den.mag.cap] (fun p13 h12 =>
 (callP (law03_few (⟨some p13, 2, 2⟩ : Sl)) (fun r14 h13 =>
 (ifP (!r14)
 (callP (law03_awake) (fun r15 h14 =>
 (K r15 h14)) h13)
 (k2 () h13))) h12)) h10))) h)))
def ref01_power_ : Nat → TInt → Int → (TInt → Hp → Prop) → Hp → Prop
 | 0, _, _, _, _ => False
 | fuel + 1, a, n, K, h =>
 (ifP (n == 0)
 (callP (ref01_FromInt 1) (fun r1 h1 =>
 (K r1 h1)) h)
 ((2 : Int) ≠ 0 ∧
 (callP ((ref01_power_ fuel) a (IntKind.i64.wrap ((n : Int).tdiv 2))) (fun r2 h2 =>
 (callP (ref01_Mul r2 r2) (fun r3 h3 =>
 (joinP (S := (Bool × Sl × Unit) × Unit) (fun s4 h4 =>
 (K (⟨s4.1.1, s4.1.2.1⟩ : TInt) h4))
 (fun k5 =>
 ((2 : Int) ≠ 0 ∧
 (ifP (((n : Int).tmod 2) == 1)
 (callP (ref01_Mul r3 a) (fun r6 h5 =>
 (k5 ((r6.neg, r6.mag, ()), ()) h5)) h3)
 (k5 ((r3.neg, r3.mag, ()), ()) h3)))))) h2)) h)))
def ref01_power (a : TInt) (n : Int) (K : TInt → Hp → Prop) (h : Hp) : Prop := ∃ fuel, ref01_power_ fuel a n K h
def ref01_Pow (a : TInt) (n : Int) (K : (TInt × Int) → Hp → Prop) (h : Hp) : Prop :=
 (joinP (S := (Bool × Sl × Unit) × Unit) (fun s1 h1 =>
 (callP (ref01_power a n) (fun r3 h2 =>
 (K (r3, 0) h2)) h1))
 (fun k2 =>
 (ifP (decide (n < 0))
 (K ((⟨false, nilS⟩ : TInt), 1) h)
 (ifP (decide (n > 4096))
 (K ((⟨false, nilS⟩ : TInt), 1) h)
 (k2 ((false, nilS, ()), ()) h)))))
def ref03_unit (bits : Int) (K : TRat → Hp → Prop) (h : Hp) : Prop :=
 (callP (ref01_FromInt 2) (fun r1 h1 =>
 (callP (ref01_Pow r1 bits) (fun r2 h2 =>
 (callP (ref01_FromInt 1) (fun r3 h3 =>
 (callP (ref02_Make (⟨r2.1.neg, r2.1.mag⟩ : TInt) r3) (fun r4 h4 =>
 (K r4 h4)) h3)) h2)) h1)) h)
def ref02_Floor (a : TRat) (K : TInt → Hp → Prop) (h : Hp) : Prop :=
 (callP (ref02_quo a.num a.den) (fun r1 h1 =>
 (K r1 h1)) h)
def ref01_Bits (a : TInt) (K : Int → Hp → Prop) (h : Hp) : Prop :=
 (callP (ref01_trim a.mag) (fun r1 h1 =>
 (callP (ref01_length r1) (fun r2 h2 =>
 (K r2 h2)) h1)) h)
def ref01_Sqrt (a : TInt) (K : (TInt × Int) → Hp → Prop) (h : Hp) : Prop :=
 (callP (ref01_Norm a) (fun r1 h1 =>
 (ifP r1.neg
 (K ((⟨false, nilS⟩ : TInt), 7) h1)
 (callP (ref01_Bits r1) (fun r2 h2 =>
 ((2 : Int) ≠ 0 ∧
 ((32 : Int) ≠ 0 ∧
 (mkP (IntKind.i64.wrap ((IntKind.i64.wrap (((IntKind.i64.wrap (((IntKind.i64.wrap (r2 + 1)) : Int).tdiv 2)) : Int).tdiv 32)) + 1)) (IntKind.i64.wrap ((IntKind.i64.wrap (((IntKind.i64.wrap (((IntKind.i64.wrap (r2 + 1)) : Int).tdiv 2)) : Int).tdiv 32)) + 1)) 4 [.int .u32 0] (fun m3 h3 =>
 (loopP (S := Int × Unit) (fun s4 k5 h4 =>
 (ifP (decide (s4.1 ≥ 0))
 (joinP (S := Unit) (fun s6 h5 =>
 (k5 ((IntKind.i64.wrap (s4.1 - 1)), ()) h5))
 (fun k7 =>
 ((32 : Int) ≠ 0 ∧
 ((32 : Int) ≠ 0 ∧
 (idxP m3 (IntKind.i64.wrap ((s4.1 : Int).tdiv 32)) 1 fun a8 =>
 (ldL (.int .u32) a8 (fun x9 =>
 ((32 : Int) ≠ 0 ∧
 (0 ≤ (((s4.1 : Int).tmod 32) : Int) ∧
 (idxP m3 (IntKind.i64.wrap ((s4.1 : Int).tdiv 32)) 1 fun a10 =>
 (stP a10 [.int .u32 (ibits .or .u32 x9 (IntKind.u32.wrap (1 * 2 ^ (min (((s4.1 : Int).tmod 32) : Int).toNat IntKind.u32.bits))))] (fun h6 =>
 (callP (ref01_trim m3) (fun r11 h7 =>
 (callP (ref01_trim m3) (fun r12 h8 =>
 (callP (ref01_times r11 r12) (fun r13 h9 =>
 (callP (ref01_compare r13 r1.mag) (fun r14 h10 =>
 (ifP (decide (r14 > 0))
 ((32 : Int) ≠ 0 ∧
 ((32 : Int) ≠ 0 ∧
 (idxP m3 (IntKind.i64.wrap ((s4.1 : Int).tdiv 32)) 1 fun a15 =>
 (ldL (.int .u32) a15 (fun x16 =>
 ((32 : Int) ≠ 0 ∧
 (0 ≤ (((s4.1 : Int).tmod 32) : Int) ∧
 (idxP m3 (IntKind.i64.wrap ((s4.1 : Int).tdiv 32)) 1 fun a17 =>
 (stP a17 [.int .u32 (ibits .andNot .u32 x16 (IntKind.u32.wrap (1 * 2 ^ (min (((s4.1 : Int).tmod 32) : Int).toNat IntKind.u32.bits))))] (fun h11 =>
 (k7 () h11)) h10))))) h10))))
 (k7 () h10))) h9)) h8)) h7)) h6)) h4))))) h4))))))
 (callP (ref01_signed false m3) (fun r18 h12 =>
 (K (r18, 0) h12)) h4)))
 ((IntKind.i64.wrap ((IntKind.i64.wrap (((IntKind.i64.wrap (r2 + 1)) : Int).tdiv 2)) - 1)), ()) h3)) h2)))) h1))) h)
def ref03_Sqrt (a : TInterval) (bits : Int) (K : (TInterval × Int) → Hp → Prop) (h : Hp) : Prop :=
 (joinP (S := (Bool × Sl × Bool × Sl × Bool × Sl × Bool × Sl × Unit) × Unit) (fun s1 h1 =>
 (callP (ref02_Sign a.low) (fun r3 h2 =>
 (ifP (decide (r3 < 0))
 (K ((⟨(⟨(⟨false, nilS⟩ : TInt), (⟨false, nilS⟩ : TInt)⟩ : TRat), (⟨(⟨false, nilS⟩ : TInt), (⟨false, nilS⟩ : TInt)⟩ : TRat)⟩ : TInterval), 7) h2)
 (callP (ref03_unit bits) (fun r4 h3 =>
 (callP (ref02_Mul r4 r4) (fun r5 h4 =>
 (callP (ref02_Mul a.low r5) (fun r6 h5 =>
 (callP (ref02_Floor r6) (fun r7 h6 =>
 (callP (ref01_Sqrt r7) (fun r8 h7 =>
 (callP (ref02_Mul a.high r5) (fun r9 h8 =>
 (callP (ref02_Floor r9) (fun r10 h9 =>
 (callP (ref01_Sqrt r10) (fun r11 h10 =>
 (joinP (S := (Bool × Sl × Unit) × Unit) (fun s12 h11 =>
 (callP (ref02_Make (⟨r8.1.neg, r8.1.mag⟩ : TInt) r4.num) (fun r14 h12 =>
 (callP (ref02_Make (⟨s12.1.1, s12.1.2.1⟩ : TInt) r4.num) (fun r15 h13 =>
 (K ((⟨r14, r15⟩ : TInterval), 0) h13)) h12)) h11))
 (fun k13 =>
 (callP (ref01_Mul (⟨r11.1.neg, r11.1.mag⟩ : TInt) (⟨r11.1.neg, r11.1.mag⟩ : TInt)) (fun r16 h14 =>
 (callP (ref01_FromInt 1) (fun r17 h15 =>
 (callP (ref02_Make r16 r17) (fun r18 h16 =>
 (callP (ref02_Cmp r18 r9) (fun r19 h17 =>
 (ifP (decide (r19 < 0))
 (callP (ref01_FromInt 1) (fun r20 h18 =>
 (callP (ref01_Add (⟨r11.1.neg, r11.1.mag⟩ : TInt) r20) (fun r21 h19 =>
 (k13 ((r21.neg, r21.mag, ()), ()) h19)) h18)) h17)
 (k13 ((r11.1.neg, r11.1.mag, ()), ()) h17))) h16)) h15)) h14)) h10)))) h9)) h8)) h7)) h6)) h5)) h4)) h3)) h2))) h1))
 (fun k2 =>
 (ifP (decide (bits < 0))
 (K ((⟨(⟨(⟨false, nilS⟩ : TInt), (⟨false, nilS⟩ : TInt)⟩ : TRat), (⟨(⟨false, nilS⟩ : TInt), (⟨false, nilS⟩ : TInt)⟩ : TRat)⟩ : TInterval), 1) h)
 (ifP (decide (bits > 4096))
 (K ((⟨(⟨(⟨false, nilS⟩ : TInt), (⟨false, nilS⟩ : TInt)⟩ : TRat), (⟨(⟨false, nilS⟩ : TInt), (⟨false, nilS⟩ : TInt)⟩ : TRat)⟩ : TInterval), 1) h)
 (k2 ((false, nilS, false, nilS, false, nilS, false, nilS, ()), ()) h)))))
def law03_IntervalSqrt (a : TInterval) (bits : Int) (K : Bool → Hp → Prop) (h : Hp) : Prop :=
 (joinP (S := Unit) (fun s1 h1 =>
 (callP (interval_Sqrt a bits) (fun r3 h2 =>
 (callP (ref03_Sqrt a bits) (fun r4 h3 =>
 (ifP (r3.2 == r4.2)
 (ifP (r3.2 == 0)
 (callP (ref03_Same (⟨(⟨(⟨r3.1.low.num.neg, r3.1.low.num.mag⟩ : TInt), (⟨r3.1.low.den.neg, r3.1.low.den.mag⟩ : TInt)⟩ : TRat), (⟨(⟨r3.1.high.num.neg, r3.1.high.num.mag⟩ : TInt), (⟨r3.1.high.den.neg, r3.1.high.den.mag⟩ : TInt)⟩ : TRat)⟩ : TInterval) (⟨(⟨(⟨r4.1.low.num.neg, r4.1.low.num.mag⟩ : TInt), (⟨r4.1.low.den.neg, r4.1.low.den.mag⟩ : TInt)⟩ : TRat), (⟨(⟨r4.1.high.num.neg, r4.1.high.num.mag⟩ : TInt), (⟨r4.1.high.den.neg, r4.1.high.den.mag⟩ : TInt)⟩ : TRat)⟩ : TInterval)) (fun r5 h4 =>
 (ifP r5
 (K true h4)
 (ifP (r3.2 != 0)
 (callP (ref03_Zero (⟨(⟨(⟨r3.1.low.num.neg, r3.1.low.num.mag⟩ : TInt), (⟨r3.1.low.den.neg, r3.1.low.den.mag⟩ : TInt)⟩ : TRat), (⟨(⟨r3.1.high.num.neg, r3.1.high.num.mag⟩ : TInt), (⟨r3.1.high.den.neg, r3.1.high.den.mag⟩ : TInt)⟩ : TRat)⟩ : TInterval)) (fun r6 h5 =>
 (K r6 h5)) h4)
 (K false h4)))) h3)
 (ifP (r3.2 != 0)
 (callP (ref03_Zero (⟨(⟨(⟨r3.1.low.num.neg, r3.1.low.num.mag⟩ : TInt), (⟨r3.1.low.den.neg, r3.1.low.den.mag⟩ : TInt)⟩ : TRat), (⟨(⟨r3.1.high.num.neg, r3.1.high.num.mag⟩ : TInt), (⟨r3.1.high.den.neg, r3.1.high.den.mag⟩ : TInt)⟩ : TRat)⟩ : TInterval)) (fun r7 h6 =>
 (K r7 h6)) h3)
 (K false h3)))
 (K false h3))) h2)) h1))
 (fun k2 =>
 (callP (law03_awake) (fun r8 h7 =>
 (ifP (!r8)
 (callP (law03_awake) (fun r9 h8 =>
 (K r9 h8)) h7)
 (newP [.bool a.low.num.neg, .slice a.low.num.mag.a a.low.num.mag.len a.low.num.mag.cap, .bool a.low.den.neg, .slice a.low.den.mag.a a.low.den.mag.len a.low.den.mag.cap, .bool a.high.num.neg, .slice a.high.num.mag.a a.high.num.mag.len a.high.num.mag.cap, .bool a.high.den.neg, .slice a.high.den.mag.a a.high.den.mag.len a.high.den.mag.cap] (fun p10 h9 =>
 (callP (law03_few (⟨some p10, 1, 1⟩ : Sl)) (fun r11 h10 =>
 (ifP (!r11)
 (callP (law03_awake) (fun r12 h11 =>
 (K r12 h11)) h10)
 (ifP (decide (bits > 200))
 (ifP (decide (bits ≤ 4096))
 (callP (law03_awake) (fun r13 h12 =>
 (K r13 h12)) h10)
 (k2 () h10))
 (k2 () h10)))) h9)) h7))) h)))
def ref03_Contains (a : TInterval) (x : TRat) (K : Bool → Hp → Prop) (h : Hp) : Prop :=
 (callP (ref02_Cmp a.low x) (fun r1 h1 =>
 (ifP (decide (r1 ≤ 0))
 (callP (ref02_Cmp x a.high) (fun r2 h2 =>
 (K (decide (r2 ≤ 0)) h2)) h1)
 (K false h1))) h)
def ref02_Div (a : TRat) (b : TRat) (K : (TRat × Int) → Hp → Prop) (h : Hp) : Prop :=
 (ifP ((b.num.mag.len : Int) == 0)
 (K ((⟨(⟨false, nilS⟩ : TInt), (⟨false, nilS⟩ : TInt)⟩ : TRat), 6) h)
 (callP (ref02_Inv b) (fun r1 h1 =>
 (callP (ref02_Mul a r1) (fun r2 h2 =>
 (K (r2, 0) h2)) h1)) h))
def interval_Add (a : TInterval) (b : TInterval) (K : TInterval → Hp → Prop) (h : Hp) : Prop :=
 (callP (rational_Add a.low b.low) (fun r1 h1 =>
 (callP (rational_Add a.high b.high) (fun r2 h2 =>
 (K (⟨r1, r2⟩ : TInterval) h2)) h1)) h)
def rational_Sub (a : TRat) (b : TRat) (K : TRat → Hp → Prop) (h : Hp) : Prop :=
 (callP (rational_Neg b) (fun r1 h1 =>
 (callP (rational_Add a r1) (fun r2 h2 =>
 (K r2 h2)) h1)) h)
def interval_Sub (a : TInterval) (b : TInterval) (K : TInterval → Hp → Prop) (h : Hp) : Prop :=
 (callP (rational_Sub a.low b.high) (fun r1 h1 =>
 (callP (rational_Sub a.high b.low) (fun r2 h2 =>
 (K (⟨r1, r2⟩ : TInterval) h2)) h1)) h)
def law03_IntervalEnclosure (a : TInterval) (b : TInterval) (l : A2_TRat) (K : Bool → Hp → Prop) (h : Hp) : Prop :=
 (joinP (S := Unit) (fun s1 h1 =>
 (joinP (S := Unit) (fun s3 h2 =>
 (joinP (S := Unit) (fun s5 h3 =>
 (callP (ref02_Mul l.c0 l.c0) (fun r7 h4 =>
 (callP (interval_Point r7) (fun r8 h5 =>
 (callP (interval_Sqrt r8 20) (fun r9 h6 =>
 (joinP (S := (Bool × Sl × Bool × Sl × Unit) × Unit) (fun s10 h7 =>
 (ifP (r9.2 == 0)
 (callP (ref03_Contains (⟨(⟨(⟨r9.1.low.num.neg, r9.1.low.num.mag⟩ : TInt), (⟨r9.1.low.den.neg, r9.1.low.den.mag⟩ : TInt)⟩ : TRat), (⟨(⟨r9.1.high.num.neg, r9.1.high.num.mag⟩ : TInt), (⟨r9.1.high.den.neg, r9.1.high.den.mag⟩ : TInt)⟩ : TRat)⟩ : TInterval) (⟨(⟨s10.1.1, s10.1.2.1⟩ : TInt), (⟨s10.1.2.2.1, s10.1.2.2.2.1⟩ : TInt)⟩ : TRat)) (fun r12 h8 =>
 (K r12 h8)) h7)
 (K false h7)))
 (fun k11 =>
 (callP (ref02_Sign l.c0) (fun r13 h9 =>
 (ifP (decide (r13 < 0))
 (callP (ref02_Neg l.c0) (fun r14 h10 =>
 (k11 ((r14.num.neg, r14.num.mag, r14.den.neg, r14.den.mag, ()), ()) h10)) h9)
 (k11 ((l.c0.num.neg, l.c0.num.mag, l.c0.den.neg, l.c0.den.mag, ()), ()) h9))) h6)))) h5)) h4)) h3))
 (fun k6 =>
 (callP (interval_Div a b) (fun r15 h11 =>
 (ifP (r15.2 == 0)
 (callP (ref02_Div l.c0 l.c1) (fun r16 h12 =>
 (ifP (r16.2 != 0)
 (K false h12)
 (callP (ref03_Contains (⟨(⟨(⟨r15.1.low.num.neg, r15.1.low.num.mag⟩ : TInt), (⟨r15.1.low.den.neg, r15.1.low.den.mag⟩ : TInt)⟩ : TRat), (⟨(⟨r15.1.high.num.neg, r15.1.high.num.mag⟩ : TInt), (⟨r15.1.high.den.neg, r15.1.high.den.mag⟩ : TInt)⟩ : TRat)⟩ : TInterval) (⟨(⟨r16.1.num.neg, r16.1.num.mag⟩ : TInt), (⟨r16.1.den.neg, r16.1.den.mag⟩ : TInt)⟩ : TRat)) (fun r17 h13 =>
 (ifP (!r17)
 (K false h13)
 (k6 () h13))) h12))) h11)
 (k6 () h11))) h2))))
 (fun k4 =>
 (callP (interval_Add a b) (fun r18 h14 =>
 (callP (ref02_Add l.c0 l.c1) (fun r19 h15 =>
 (callP (ref03_Contains r18 r19) (fun r20 h16 =>
 (ifP (!r20)
 (K false h16)
 (callP (interval_Sub a b) (fun r21 h17 =>
 (callP (ref02_Sub l.c0 l.c1) (fun r22 h18 =>
 (callP (ref03_Contains r21 r22) (fun r23 h19 =>
 (ifP (!r23)
 (K false h19)
 (callP (interval_Mul a b) (fun r24 h20 =>
 (callP (ref02_Mul l.c0 l.c1) (fun r25 h21 =>
 (callP (ref03_Contains r24 r25) (fun r26 h22 =>
 (ifP (!r26)
 (K false h22)
 (k4 () h22))) h21)) h20)) h19))) h18)) h17)) h16))) h15)) h14)) h1))))
 (fun k2 =>
 (callP (law03_awake) (fun r27 h23 =>
 (ifP (!r27)
 (callP (law03_awake) (fun r28 h24 =>
 (K r28 h24)) h23)
 (newP [.bool a.low.num.neg, .slice a.low.num.mag.a a.low.num.mag.len a.low.num.mag.cap, .bool a.low.den.neg, .slice a.low.den.mag.a a.low.den.mag.len a.low.den.mag.cap, .bool a.high.num.neg, .slice a.high.num.mag.a a.high.num.mag.len a.high.num.mag.cap, .bool a.high.den.neg, .slice a.high.den.mag.a a.high.den.mag.len a.high.den.mag.cap, .bool b.low.num.neg, .slice b.low.num.mag.a b.low.num.mag.len b.low.num.mag.cap, .bool b.low.den.neg, .slice b.low.den.mag.a b.low.den.mag.len b.low.den.mag.cap, .bool b.high.num.neg, .slice b.high.num.mag.a b.high.num.mag.len b.high.num.mag.cap, .bool b.high.den.neg, .slice b.high.den.mag.a b.high.den.mag.len b.high.den.mag.cap] (fun p29 h25 =>
 (callP (law03_few (⟨some p29, 2, 2⟩ : Sl)) (fun r30 h26 =>
 (ifP (!r30)
 (callP (law03_awake) (fun r31 h27 =>
 (K r31 h27)) h26)
 (callP (ref02_Few l.c0 10) (fun r32 h28 =>
 (ifP (!r32)
 (callP (law03_awake) (fun r33 h29 =>
 (K r33 h29)) h28)
 (callP (ref02_Few l.c1 10) (fun r34 h30 =>
 (ifP (!r34)
 (callP (law03_awake) (fun r35 h31 =>
 (K r35 h31)) h30)
 (callP (ref03_Contains a l.c0) (fun r36 h32 =>
 (ifP (!r36)
 (callP (law03_awake) (fun r37 h33 =>
 (K r37 h33)) h32)
 (callP (ref03_Contains b l.c1) (fun r38 h34 =>
 (ifP (!r38)
 (callP (law03_awake) (fun r39 h35 =>
 (K r39 h35)) h34)
 (k2 () h34))) h32))) h30))) h28))) h26))) h25)) h23))) h)))
def ref03_Add (a : TInterval) (b : TInterval) (K : TInterval → Hp → Prop) (h : Hp) : Prop :=
 (callP (ref03_ends a b 0) (fun r1 h1 =>
 (callP (ref03_Hull r1) (fun r2 h2 =>
 (K r2 h2)) h1)) h)
def ref03_Sub (a : TInterval) (b : TInterval) (K : TInterval → Hp → Prop) (h : Hp) : Prop :=
 (callP (ref03_ends a b 1) (fun r1 h1 =>
 (callP (ref03_Hull r1) (fun r2 h2 =>
 (K r2 h2)) h1)) h)
def interval_Width (a : TInterval) (K : TRat → Hp → Prop) (h : Hp) : Prop :=
 (callP (rational_Sub a.high a.low) (fun r1 h1 =>
 (K r1 h1)) h)
def law03_IntervalSums (a : TInterval) (b : TInterval) (K : Bool → Hp → Prop) (h : Hp) : Prop :=
 (joinP (S := Unit) (fun s1 h1 =>
 (callP (interval_Add a b) (fun r3 h2 =>
 (callP (ref03_Add a b) (fun r4 h3 =>
 (callP (ref03_Same r3 r4) (fun r5 h4 =>
 (ifP r5
 (callP (interval_Sub a b) (fun r6 h5 =>
 (callP (ref03_Sub a b) (fun r7 h6 =>
 (callP (ref03_Same r6 r7) (fun r8 h7 =>
 (ifP r8
 (callP (interval_Width a) (fun r9 h8 =>
 (callP (ref02_Sub a.high a.low) (fun r10 h9 =>
 (callP (ref02_Same r9 r10) (fun r11 h10 =>
 (K r11 h10)) h9)) h8)) h7)
 (K false h7))) h6)) h5)) h4)
 (K false h4))) h3)) h2)) h1))
 (fun k2 =>
 (callP (law03_awake) (fun r12 h11 =>
 (ifP (!r12)
 (callP (law03_awake) (fun r13 h12 =>
 (K r13 h12)) h11)
 (newP [.bool a.low.num.neg, .slice a.low.num.mag.a a.low.num.mag.len a.low.num.mag.cap, .bool a.low.den.neg, .slice a.low.den.mag.a a.low.den.mag.len a.low.den.mag.cap, .bool a.high.num.neg, .slice a.high.num.mag.a a.high.num.mag.len a.high.num.mag.cap, .bool a.high.den.neg, .slice a.high.den.mag.a a.high.den.mag.len a.high.den.mag.cap, .bool b.low.num.neg, .slice b.low.num.mag.a b.low.num.mag.len b.low.num.mag.cap, .bool b.low.den.neg, .slice b.low.den.mag.a b.low.den.mag.len b.low.den.mag.cap, .bool b.high.num.neg, .slice b.high.num.mag.a b.high.num.mag.len b.high.num.mag.cap, .bool b.high.den.neg, .slice b.high.den.mag.a b.high.den.mag.len b.high.den.mag.cap] (fun p14 h13 =>
 (callP (law03_few (⟨some p14, 2, 2⟩ : Sl)) (fun r15 h14 =>
 (ifP (!r15)
 (callP (law03_awake) (fun r16 h15 =>
 (K r16 h15)) h14)
 (k2 () h14))) h13)) h11))) h)))
def interval_Round (a : TInterval) (bits : Int) (K : TInterval → Hp → Prop) (h : Hp) : Prop :=
 (joinP (S := (Bool × Sl × Bool × Sl × Bool × Sl × Bool × Sl × Unit) × Unit) (fun s1 h1 =>
 (callP (interval_power bits) (fun r3 h2 =>
 (callP (interval_floor a.low r3) (fun r4 h3 =>
 (callP (interval_over r4 r3) (fun r5 h4 =>
 (callP (interval_ceil a.high r3) (fun r6 h5 =>
 (callP (interval_over r6 r3) (fun r7 h6 =>
 (K (⟨r5, r7⟩ : TInterval) h6)) h5)) h4)) h3)) h2)) h1))
 (fun k2 =>
 (ifP (decide (bits < 0))
 (K (⟨(⟨(⟨false, nilS⟩ : TInt), (⟨false, nilS⟩ : TInt)⟩ : TRat), (⟨(⟨false, nilS⟩ : TInt), (⟨false, nilS⟩ : TInt)⟩ : TRat)⟩ : TInterval) h)
 (ifP (decide (bits > 4096))
 (K (⟨(⟨(⟨false, nilS⟩ : TInt), (⟨false, nilS⟩ : TInt)⟩ : TRat), (⟨(⟨false, nilS⟩ : TInt), (⟨false, nilS⟩ : TInt)⟩ : TRat)⟩ : TInterval) h)
 (k2 ((false, nilS, false, nilS, false, nilS, false, nilS, ()), ()) h)))))
def ref03_down (a : TRat) (bits : Int) (K : TRat → Hp → Prop) (h : Hp) : Prop :=
 (callP (ref03_unit bits) (fun r1 h1 =>
 (callP (ref02_Mul a r1) (fun r2 h2 =>
 (callP (ref02_Floor r2) (fun r3 h3 =>
 (callP (ref02_Make r3 r1.num) (fun r4 h4 =>
 (K r4 h4)) h3)) h2)) h1)) h)
def ref03_up (a : TRat) (bits : Int) (K : TRat → Hp → Prop) (h : Hp) : Prop :=
 (callP (ref02_Neg a) (fun r1 h1 =>
 (callP (ref03_down r1 bits) (fun r2 h2 =>
 (callP (ref02_Neg r2) (fun r3 h3 =>
 (K r3 h3)) h2)) h1)) h)
def ref03_Round (a : TInterval) (bits : Int) (K : TInterval → Hp → Prop) (h : Hp) : Prop :=
 (joinP (S := (Bool × Sl × Bool × Sl × Bool × Sl × Bool × Sl × Unit) × Unit) (fun s1 h1 =>
 (callP (ref03_down a.low bits) (fun r3 h2 =>
 (callP (ref03_up a.high bits) (fun r4 h3 =>
 (K (⟨r3, r4⟩ : TInterval) h3)) h2)) h1))
 (fun k2 =>
 (ifP (decide (bits < 0))
 (K (⟨(⟨(⟨false, nilS⟩ : TInt), (⟨false, nilS⟩ : TInt)⟩ : TRat), (⟨(⟨false, nilS⟩ : TInt), (⟨false, nilS⟩ : TInt)⟩ : TRat)⟩ : TInterval) h)
 (ifP (decide (bits > 4096))
 (K (⟨(⟨(⟨false, nilS⟩ : TInt), (⟨false, nilS⟩ : TInt)⟩ : TRat), (⟨(⟨false, nilS⟩ : TInt), (⟨false, nilS⟩ : TInt)⟩ : TRat)⟩ : TInterval) h)
 (k2 ((false, nilS, false, nilS, false, nilS, false, nilS, ()), ()) h)))))
def interval_Within (a : TInterval) (b : TInterval) (K : Bool → Hp → Prop) (h : Hp) : Prop :=
 (callP (interval_Contains b a.low) (fun r1 h1 =>
 (ifP r1
 (callP (interval_Contains b a.high) (fun r2 h2 =>
 (K r2 h2)) h1)
 (K false h1))) h)
def law03_IntervalRound (a : TInterval) (bits : Int) (K : Bool → Hp → Prop) (h : Hp) : Prop :=
 (joinP (S := Unit) (fun s1 h1 =>
 (callP (interval_Round a bits) (fun r3 h2 =>
 (joinP (S := Unit) (fun s4 h3 =>
 (callP (ref03_Round a bits) (fun r6 h4 =>
 (callP (ref03_Same r3 r6) (fun r7 h5 =>
 (ifP r7
 (callP (interval_Within a r3) (fun r8 h6 =>
 (K r8 h6)) h5)
 (K false h5))) h4)) h3))
 (fun k5 =>
 (ifP (decide (bits < 0))
 (callP (ref03_Zero r3) (fun r9 h7 =>
 (K r9 h7)) h2)
 (ifP (decide (bits > 4096))
 (callP (ref03_Zero r3) (fun r10 h8 =>
 (K r10 h8)) h2)
 (k5 () h2)))))) h1))
 (fun k2 =>
 (callP (law03_awake) (fun r11 h9 =>
 (ifP (!r11)
 (callP (law03_awake) (fun r12 h10 =>
 (K r12 h10)) h9)
 (newP [.bool a.low.num.neg, .slice a.low.num.mag.a a.low.num.mag.len a.low.num.mag.cap, .bool a.low.den.neg, .slice a.low.den.mag.a a.low.den.mag.len a.low.den.mag.cap, .bool a.high.num.neg, .slice a.high.num.mag.a a.high.num.mag.len a.high.num.mag.cap, .bool a.high.den.neg, .slice a.high.den.mag.a a.high.den.mag.len a.high.den.mag.cap] (fun p13 h11 =>
 (callP (law03_few (⟨some p13, 1, 1⟩ : Sl)) (fun r14 h12 =>
 (ifP (!r14)
 (callP (law03_awake) (fun r15 h13 =>
 (K r15 h13)) h12)
 (ifP (decide (bits > 200))
 (ifP (decide (bits ≤ 4096))
 (callP (law03_awake) (fun r16 h14 =>
 (K r16 h14)) h12)
 (k2 () h12))
 (k2 () h12)))) h11)) h9))) h)))
def interval_Sign (a : TInterval) (K : (Int × Bool) → Hp → Prop) (h : Hp) : Prop :=
 (callP (rational_Sign a.low) (fun r1 h1 =>
 (callP (rational_Sign a.high) (fun r2 h2 =>
 (ifP (r1 == r2)
 (K (r1, true) h2)
 (K (0, false) h2))) h1)) h)
def ref03_Sign (a : TInterval) (K : (Int × Bool) → Hp → Prop) (h : Hp) : Prop :=
 (callP (ref02_Sign a.low) (fun r1 h1 =>
 (callP (ref02_Sign a.high) (fun r2 h2 =>
 (ifP (r1 != r2)
 (K (0, false) h2)
 (K (r1, true) h2))) h1)) h)
def law03_IntervalMembers (a : TInterval) (b : TInterval) (x : TRat) (K : Bool → Hp → Prop) (h : Hp) : Prop :=
 (joinP (S := Unit) (fun s1 h1 =>
 (callP (interval_Sign a) (fun r3 h2 =>
 (callP (ref03_Sign a) (fun r4 h3 =>
 (joinP (S := Bool × Unit) (fun s5 h4 =>
 (callP (interval_Contains a x) (fun r7 h5 =>
 (callP (ref03_Contains a x) (fun r8 h6 =>
 (ifP (r7 == r8)
 (callP (interval_Within a b) (fun r9 h7 =>
 (ifP (r9 == s5.1)
 (ifP (r3.1 == r4.1)
 (ifP (r3.2 == r4.2)
 (callP (interval_Point x) (fun r10 h8 =>
 (callP (ref03_Point x) (fun r11 h9 =>
 (callP (ref03_Same r10 r11) (fun r12 h10 =>
 (K r12 h10)) h9)) h8)) h7)
 (K false h7))
 (K false h7))
 (K false h7))) h6)
 (K false h6))) h5)) h4))
 (fun k6 =>
 (callP (ref03_Contains b a.low) (fun r13 h11 =>
 (ifP r13
 (callP (ref03_Contains b a.high) (fun r14 h12 =>
 (k6 (r14, ()) h12)) h11)
 (k6 (false, ()) h11))) h3)))) h2)) h1))
 (fun k2 =>
 (callP (law03_awake) (fun r15 h13 =>
 (ifP (!r15)
 (callP (law03_awake) (fun r16 h14 =>
 (K r16 h14)) h13)
 (newP [.bool a.low.num.neg, .slice a.low.num.mag.a a.low.num.mag.len a.low.num.mag.cap, .bool a.low.den.neg, .slice a.low.den.mag.a a.low.den.mag.len a.low.den.mag.cap, .bool a.high.num.neg, .slice a.high.num.mag.a a.high.num.mag.len a.high.num.mag.cap, .bool a.high.den.neg, .slice a.high.den.mag.a a.high.den.mag.len a.high.den.mag.cap, .bool b.low.num.neg, .slice b.low.num.mag.a b.low.num.mag.len b.low.num.mag.cap, .bool b.low.den.neg, .slice b.low.den.mag.a b.low.den.mag.len b.low.den.mag.cap, .bool b.high.num.neg, .slice b.high.num.mag.a b.high.num.mag.len b.high.num.mag.cap, .bool b.high.den.neg, .slice b.high.den.mag.a b.high.den.mag.len b.high.den.mag.cap] (fun p17 h15 =>
 (callP (law03_few (⟨some p17, 2, 2⟩ : Sl)) (fun r18 h16 =>
 (ifP (!r18)
 (callP (law03_awake) (fun r19 h17 =>
 (K r19 h17)) h16)
 (callP (ref02_Few x 10) (fun r20 h18 =>
 (ifP (!r20)
 (callP (law03_awake) (fun r21 h19 =>
 (K r21 h19)) h18)
 (k2 () h18))) h16))) h15)) h13))) h)))
def ref03_Meet (a : TInterval) (b : TInterval) (K : (TInterval × Bool) → Hp → Prop) (h : Hp) : Prop :=
 (joinP (S := (Bool × Sl × Bool × Sl × Bool × Sl × Bool × Sl × Unit) × Unit) (fun s1 h1 =>
 (joinP (S := (Bool × Sl × Bool × Sl × Bool × Sl × Bool × Sl × Unit) × Unit) (fun s3 h2 =>
 (callP (ref02_Cmp (⟨(⟨s3.1.1, s3.1.2.1⟩ : TInt), (⟨s3.1.2.2.1, s3.1.2.2.2.1⟩ : TInt)⟩ : TRat) (⟨(⟨s3.1.2.2.2.2.1, s3.1.2.2.2.2.2.1⟩ : TInt), (⟨s3.1.2.2.2.2.2.2.1, s3.1.2.2.2.2.2.2.2.1⟩ : TInt)⟩ : TRat)) (fun r5 h3 =>
 (ifP (decide (r5 > 0))
 (K ((⟨(⟨(⟨false, nilS⟩ : TInt), (⟨false, nilS⟩ : TInt)⟩ : TRat), (⟨(⟨false, nilS⟩ : TInt), (⟨false, nilS⟩ : TInt)⟩ : TRat)⟩ : TInterval), false) h3)
 (K ((⟨(⟨(⟨s3.1.1, s3.1.2.1⟩ : TInt), (⟨s3.1.2.2.1, s3.1.2.2.2.1⟩ : TInt)⟩ : TRat), (⟨(⟨s3.1.2.2.2.2.1, s3.1.2.2.2.2.2.1⟩ : TInt), (⟨s3.1.2.2.2.2.2.2.1, s3.1.2.2.2.2.2.2.2.1⟩ : TInt)⟩ : TRat)⟩ : TInterval), true) h3))) h2))
 (fun k4 =>
 (callP (ref02_Cmp b.high (⟨(⟨s1.1.2.2.2.2.1, s1.1.2.2.2.2.2.1⟩ : TInt), (⟨s1.1.2.2.2.2.2.2.1, s1.1.2.2.2.2.2.2.2.1⟩ : TInt)⟩ : TRat)) (fun r6 h4 =>
 (ifP (decide (r6 < 0))
 (k4 ((s1.1.1, s1.1.2.1, s1.1.2.2.1, s1.1.2.2.2.1, b.high.num.neg, b.high.num.mag, b.high.den.neg, b.high.den.mag, ()), ()) h4)
 (k4 ((s1.1.1, s1.1.2.1, s1.1.2.2.1, s1.1.2.2.2.1, s1.1.2.2.2.2.1, s1.1.2.2.2.2.2.1, s1.1.2.2.2.2.2.2.1, s1.1.2.2.2.2.2.2.2.1, ()), ()) h4))) h1))))
 (fun k2 =>
 (callP (ref02_Cmp b.low a.low) (fun r7 h5 =>
 (ifP (decide (r7 > 0))
 (k2 ((b.low.num.neg, b.low.num.mag, b.low.den.neg, b.low.den.mag, a.high.num.neg, a.high.num.mag, a.high.den.neg, a.high.den.mag, ()), ()) h5)
 (k2 ((a.low.num.neg, a.low.num.mag, a.low.den.neg, a.low.den.mag, a.high.num.neg, a.high.num.mag, a.high.den.neg, a.high.den.mag, ()), ()) h5))) h)))
def law03_IntervalMonotonic (a : TInterval) (b : TInterval) (c : TInterval) (K : Bool → Hp → Prop) (h : Hp) : Prop :=
 (joinP (S := Unit) (fun s1 h1 =>
 (callP (ref03_Meet a c) (fun r3 h2 =>
 (ifP (!r3.2)
 (K true h2)
 (joinP (S := Unit) (fun s4 h3 =>
 (callP (interval_Div b (⟨(⟨(⟨r3.1.low.num.neg, r3.1.low.num.mag⟩ : TInt), (⟨r3.1.low.den.neg, r3.1.low.den.mag⟩ : TInt)⟩ : TRat), (⟨(⟨r3.1.high.num.neg, r3.1.high.num.mag⟩ : TInt), (⟨r3.1.high.den.neg, r3.1.high.den.mag⟩ : TInt)⟩ : TRat)⟩ : TInterval)) (fun r6 h4 =>
 (callP (interval_Div b a) (fun r7 h5 =>
 (ifP (r7.2 != 0)
 (K true h5)
 (ifP (r6.2 == 0)
 (callP (interval_Within (⟨(⟨(⟨r6.1.low.num.neg, r6.1.low.num.mag⟩ : TInt), (⟨r6.1.low.den.neg, r6.1.low.den.mag⟩ : TInt)⟩ : TRat), (⟨(⟨r6.1.high.num.neg, r6.1.high.num.mag⟩ : TInt), (⟨r6.1.high.den.neg, r6.1.high.den.mag⟩ : TInt)⟩ : TRat)⟩ : TInterval) (⟨(⟨(⟨r7.1.low.num.neg, r7.1.low.num.mag⟩ : TInt), (⟨r7.1.low.den.neg, r7.1.low.den.mag⟩ : TInt)⟩ : TRat), (⟨(⟨r7.1.high.num.neg, r7.1.high.num.mag⟩ : TInt), (⟨r7.1.high.den.neg, r7.1.high.den.mag⟩ : TInt)⟩ : TRat)⟩ : TInterval)) (fun r8 h6 =>
 (K r8 h6)) h5)
 (K false h5)))) h4)) h3))
 (fun k5 =>
 (callP (interval_Add (⟨(⟨(⟨r3.1.low.num.neg, r3.1.low.num.mag⟩ : TInt), (⟨r3.1.low.den.neg, r3.1.low.den.mag⟩ : TInt)⟩ : TRat), (⟨(⟨r3.1.high.num.neg, r3.1.high.num.mag⟩ : TInt), (⟨r3.1.high.den.neg, r3.1.high.den.mag⟩ : TInt)⟩ : TRat)⟩ : TInterval) b) (fun r9 h7 =>
 (callP (interval_Add a b) (fun r10 h8 =>
 (callP (interval_Within r9 r10) (fun r11 h9 =>
 (ifP (!r11)
 (K false h9)
 (callP (interval_Mul (⟨(⟨(⟨r3.1.low.num.neg, r3.1.low.num.mag⟩ : TInt), (⟨r3.1.low.den.neg, r3.1.low.den.mag⟩ : TInt)⟩ : TRat), (⟨(⟨r3.1.high.num.neg, r3.1.high.num.mag⟩ : TInt), (⟨r3.1.high.den.neg, r3.1.high.den.mag⟩ : TInt)⟩ : TRat)⟩ : TInterval) b) (fun r12 h10 =>
 (callP (interval_Mul a b) (fun r13 h11 =>
 (callP (interval_Within r12 r13) (fun r14 h12 =>
 (ifP (!r14)
 (K false h12)
 (callP (interval_Sub b (⟨(⟨(⟨r3.1.low.num.neg, r3.1.low.num.mag⟩ : TInt), (⟨r3.1.low.den.neg, r3.1.low.den.mag⟩ : TInt)⟩ : TRat), (⟨(⟨r3.1.high.num.neg, r3.1.high.num.mag⟩ : TInt), (⟨r3.1.high.den.neg, r3.1.high.den.mag⟩ : TInt)⟩ : TRat)⟩ : TInterval)) (fun r15 h13 =>
 (callP (interval_Sub b a) (fun r16 h14 =>
 (callP (interval_Within r15 r16) (fun r17 h15 =>
 (ifP (!r17)
 (K false h15)
 (k5 () h15))) h14)) h13)) h12))) h11)) h10)) h9))) h8)) h7)) h2))))) h1))
 (fun k2 =>
 (callP (law03_awake) (fun r18 h16 =>
 (ifP (!r18)
 (callP (law03_awake) (fun r19 h17 =>
 (K r19 h17)) h16)
 (newP [.bool a.low.num.neg, .slice a.low.num.mag.a a.low.num.mag.len a.low.num.mag.cap, .bool a.low.den.neg, .slice a.low.den.mag.a a.low.den.mag.len a.low.den.mag.cap, .bool a.high.num.neg, .slice a.high.num.mag.a a.high.num.mag.len a.high.num.mag.cap, .bool a.high.den.neg, .slice a.high.den.mag.a a.high.den.mag.len a.high.den.mag.cap, .bool b.low.num.neg, .slice b.low.num.mag.a b.low.num.mag.len b.low.num.mag.cap, .bool b.low.den.neg, .slice b.low.den.mag.a b.low.den.mag.len b.low.den.mag.cap, .bool b.high.num.neg, .slice b.high.num.mag.a b.high.num.mag.len b.high.num.mag.cap, .bool b.high.den.neg, .slice b.high.den.mag.a b.high.den.mag.len b.high.den.mag.cap, .bool c.low.num.neg, .slice c.low.num.mag.a c.low.num.mag.len c.low.num.mag.cap, .bool c.low.den.neg, .slice c.low.den.mag.a c.low.den.mag.len c.low.den.mag.cap, .bool c.high.num.neg, .slice c.high.num.mag.a c.high.num.mag.len c.high.num.mag.cap, .bool c.high.den.neg, .slice c.high.den.mag.a c.high.den.mag.len c.high.den.mag.cap] (fun p20 h18 =>
 (callP (law03_few (⟨some p20, 3, 3⟩ : Sl)) (fun r21 h19 =>
 (ifP (!r21)
 (callP (law03_awake) (fun r22 h20 =>
 (K r22 h20)) h19)
 (k2 () h19))) h18)) h16))) h)))
def integer_Valid (a : TInt) (K : Bool → Hp → Prop) (h : Hp) : Prop :=
 (ifP ((a.mag.len : Int) == 0)
 (ifP (!a.neg)
 (K true h)
 (ifP (decide ((a.mag.len : Int) > 0))
 (idxP a.mag (IntKind.i64.wrap ((a.mag.len : Int) - 1)) 1 fun a1 =>
 (ldL (.int .u32) a1 (fun x2 =>
 (K (x2 != 0) h)) h))
 (K false h)))
 (ifP (decide ((a.mag.len : Int) > 0))
 (idxP a.mag (IntKind.i64.wrap ((a.mag.len : Int) - 1)) 1 fun a3 =>
 (ldL (.int .u32) a3 (fun x4 =>
 (K (x4 != 0) h)) h))
 (K false h)))
def rational_Valid (a : TRat) (K : Bool → Hp → Prop) (h : Hp) : Prop :=
 (callP (integer_Valid a.num) (fun r1 h1 =>
 (ifP r1
 (callP (integer_Valid a.den) (fun r2 h2 =>
 (ifP r2
 (callP (integer_Sign a.den) (fun r3 h3 =>
 (ifP (decide (r3 > 0))
 (callP (integer_GCD a.num a.den) (fun r4 h4 =>
 (callP (rational_isOne r4) (fun r5 h5 =>
 (K r5 h5)) h4)) h3)
 (K false h3))) h2)
 (K false h2))) h1)
 (K false h1))) h)
def interval_Valid (a : TInterval) (K : Bool → Hp → Prop) (h : Hp) : Prop :=
 (callP (rational_Valid a.low) (fun r1 h1 =>
 (ifP r1
 (callP (rational_Valid a.high) (fun r2 h2 =>
 (ifP r2
 (callP (rational_Cmp a.low a.high) (fun r3 h3 =>
 (K (decide (r3 ≤ 0)) h3)) h2)
 (K false h2))) h1)
 (K false h1))) h)
def law03_IntervalValid (a : TInterval) (K : Bool → Hp → Prop) (h : Hp) : Prop :=
 (joinP (S := Unit) (fun s1 h1 =>
 (callP (interval_Valid a) (fun r3 h2 =>
 (callP (ref03_Valid a) (fun r4 h3 =>
 (K (r3 == r4) h3)) h2)) h1))
 (fun k2 =>
 (callP (law03_awake) (fun r5 h4 =>
 (ifP (!r5)
 (callP (law03_awake) (fun r6 h5 =>
 (K r6 h5)) h4)
 (ifP (decide ((IntKind.i64.wrap ((IntKind.i64.wrap ((IntKind.i64.wrap ((a.low.num.mag.len : Int) + (a.low.den.mag.len : Int))) + (a.high.num.mag.len : Int))) + (a.high.den.mag.len : Int))) > 40))
 (callP (law03_awake) (fun r7 h6 =>
 (K r7 h6)) h4)
 (k2 () h4)))) h)))
def interval_Meet (a : TInterval) (b : TInterval) (K : (TInterval × Bool) → Hp → Prop) (h : Hp) : Prop :=
 (joinP (S := (Bool × Sl × Bool × Sl × Unit) × Unit) (fun s1 h1 =>
 (joinP (S := (Bool × Sl × Bool × Sl × Unit) × Unit) (fun s3 h2 =>
 (callP (rational_Cmp (⟨(⟨s1.1.1, s1.1.2.1⟩ : TInt), (⟨s1.1.2.2.1, s1.1.2.2.2.1⟩ : TInt)⟩ : TRat) (⟨(⟨s3.1.1, s3.1.2.1⟩ : TInt), (⟨s3.1.2.2.1, s3.1.2.2.2.1⟩ : TInt)⟩ : TRat)) (fun r5 h3 =>
 (ifP (decide (r5 > 0))
 (K ((⟨(⟨(⟨false, nilS⟩ : TInt), (⟨false, nilS⟩ : TInt)⟩ : TRat), (⟨(⟨false, nilS⟩ : TInt), (⟨false, nilS⟩ : TInt)⟩ : TRat)⟩ : TInterval), false) h3)
 (newP [.bool s1.1.1, .slice s1.1.2.1.a s1.1.2.1.len s1.1.2.1.cap, .bool s1.1.2.2.1, .slice s1.1.2.2.2.1.a s1.1.2.2.2.1.len s1.1.2.2.2.1.cap, .bool s3.1.1, .slice s3.1.2.1.a s3.1.2.1.len s3.1.2.1.cap, .bool s3.1.2.2.1, .slice s3.1.2.2.2.1.a s3.1.2.2.2.1.len s3.1.2.2.2.1.cap] (fun p6 h4 =>
 (callP (interval_hull (⟨some p6, 2, 2⟩ : Sl)) (fun r7 h5 =>
 (K (r7, true) h5)) h4)) h3))) h2))
 (fun k4 =>
 (callP (rational_Cmp b.high a.high) (fun r8 h6 =>
 (ifP (decide (r8 < 0))
 (k4 ((b.high.num.neg, b.high.num.mag, b.high.den.neg, b.high.den.mag, ()), ()) h6)
 (k4 ((a.high.num.neg, a.high.num.mag, a.high.den.neg, a.high.den.mag, ()), ()) h6))) h1))))
 (fun k2 =>
 (callP (rational_Cmp b.low a.low) (fun r9 h7 =>
 (ifP (decide (r9 > 0))
 (k2 ((b.low.num.neg, b.low.num.mag, b.low.den.neg, b.low.den.mag, ()), ()) h7)
 (k2 ((a.low.num.neg, a.low.num.mag, a.low.den.neg, a.low.den.mag, ()), ()) h7))) h)))
def law03_IntervalMeet (a : TInterval) (b : TInterval) (x : TRat) (K : Bool → Hp → Prop) (h : Hp) : Prop :=
 (joinP (S := Unit) (fun s1 h1 =>
 (callP (interval_Meet a b) (fun r3 h2 =>
 (callP (ref03_Meet a b) (fun r4 h3 =>
 (joinP (S := Unit) (fun s5 h4 =>
 (ifP r3.2
 (callP (interval_Contains (⟨(⟨(⟨r3.1.low.num.neg, r3.1.low.num.mag⟩ : TInt), (⟨r3.1.low.den.neg, r3.1.low.den.mag⟩ : TInt)⟩ : TRat), (⟨(⟨r3.1.high.num.neg, r3.1.high.num.mag⟩ : TInt), (⟨r3.1.high.den.neg, r3.1.high.den.mag⟩ : TInt)⟩ : TRat)⟩ : TInterval) x) (fun r7 h5 =>
 (callP (interval_Contains a x) (fun r8 h6 =>
 (ifP r8
 (callP (interval_Contains b x) (fun r9 h7 =>
 (K (r7 == r9) h7)) h6)
 (K (r7 == false) h6))) h5)) h4)
 (callP (interval_Contains a x) (fun r10 h8 =>
 (ifP r10
 (callP (interval_Contains b x) (fun r11 h9 =>
 (K (false == r11) h9)) h8)
 (K (false == false) h8))) h4)))
 (fun k6 =>
 (ifP (!(r3.2 == r4.2))
 (K false h3)
 (ifP r3.2
 (callP (ref03_Same (⟨(⟨(⟨r3.1.low.num.neg, r3.1.low.num.mag⟩ : TInt), (⟨r3.1.low.den.neg, r3.1.low.den.mag⟩ : TInt)⟩ : TRat), (⟨(⟨r3.1.high.num.neg, r3.1.high.num.mag⟩ : TInt), (⟨r3.1.high.den.neg, r3.1.high.den.mag⟩ : TInt)⟩ : TRat)⟩ : TInterval) (⟨(⟨(⟨r4.1.low.num.neg, r4.1.low.num.mag⟩ : TInt), (⟨r4.1.low.den.neg, r4.1.low.den.mag⟩ : TInt)⟩ : TRat), (⟨(⟨r4.1.high.num.neg, r4.1.high.num.mag⟩ : TInt), (⟨r4.1.high.den.neg, r4.1.high.den.mag⟩ : TInt)⟩ : TRat)⟩ : TInterval)) (fun r12 h10 =>
 (ifP (!r12)
 (K false h10)
 (ifP (!r3.2)
 (callP (ref03_Zero (⟨(⟨(⟨r3.1.low.num.neg, r3.1.low.num.mag⟩ : TInt), (⟨r3.1.low.den.neg, r3.1.low.den.mag⟩ : TInt)⟩ : TRat), (⟨(⟨r3.1.high.num.neg, r3.1.high.num.mag⟩ : TInt), (⟨r3.1.high.den.neg, r3.1.high.den.mag⟩ : TInt)⟩ : TRat)⟩ : TInterval)) (fun r13 h11 =>
 (ifP (!r13)
 (K false h11)
 (k6 () h11))) h10)
 (k6 () h10)))) h3)
 (ifP (!r3.2)
 (callP (ref03_Zero (⟨(⟨(⟨r3.1.low.num.neg, r3.1.low.num.mag⟩ : TInt), (⟨r3.1.low.den.neg, r3.1.low.den.mag⟩ : TInt)⟩ : TRat), (⟨(⟨r3.1.high.num.neg, r3.1.high.num.mag⟩ : TInt), (⟨r3.1.high.den.neg, r3.1.high.den.mag⟩ : TInt)⟩ : TRat)⟩ : TInterval)) (fun r14 h12 =>
 (ifP (!r14)
 (K false h12)
 (k6 () h12))) h3)
 (k6 () h3))))))) h2)) h1))
 (fun k2 =>
 (callP (law03_awake) (fun r15 h13 =>
 (ifP (!r15)
 (callP (law03_awake) (fun r16 h14 =>
 (K r16 h14)) h13)
 (newP [.bool a.low.num.neg, .slice a.low.num.mag.a a.low.num.mag.len a.low.num.mag.cap, .bool a.low.den.neg, .slice a.low.den.mag.a a.low.den.mag.len a.low.den.mag.cap, .bool a.high.num.neg, .slice a.high.num.mag.a a.high.num.mag.len a.high.num.mag.cap, .bool a.high.den.neg, .slice a.high.den.mag.a a.high.den.mag.len a.high.den.mag.cap, .bool b.low.num.neg, .slice b.low.num.mag.a b.low.num.mag.len b.low.num.mag.cap, .bool b.low.den.neg, .slice b.low.den.mag.a b.low.den.mag.len b.low.den.mag.cap, .bool b.high.num.neg, .slice b.high.num.mag.a b.high.num.mag.len b.high.num.mag.cap, .bool b.high.den.neg, .slice b.high.den.mag.a b.high.den.mag.len b.high.den.mag.cap] (fun p17 h15 =>
 (callP (law03_few (⟨some p17, 2, 2⟩ : Sl)) (fun r18 h16 =>
 (ifP (!r18)
 (callP (law03_awake) (fun r19 h17 =>
 (K r19 h17)) h16)
 (callP (ref02_Few x 10) (fun r20 h18 =>
 (ifP (!r20)
 (callP (law03_awake) (fun r21 h19 =>
 (K r21 h19)) h18)
 (k2 () h18))) h16))) h15)) h13))) h)))
end F
end Den
end

section
/-
  The program's functions on lists of words: trimming, sums, differences, products, comparing.
-/
set_option linter.unusedVariables false
namespace Den
open Go Iv

section
variable {h : Hp} {x y : Sl} {l m : List Nat} {Ks : Sl → Hp → Prop} {Ki : Int → Hp → Prop} {Kb : Bool → Hp → Prop}

/-- y lies in x's memory. -/
def InM (y x : Sl) : Prop := ∀ a, y.a = some a → ∃ a', x.a = some a' ∧ a.block = a'.block
theorem InM.rfl {x : Sl} : InM x x := fun a ha => ⟨a, ha, Eq.refl _⟩
theorem InM.trans {x y z : Sl} (h1 : InM x y) (h2 : InM y z) : InM x z := fun a ha => by
  obtain ⟨a', h3, h4⟩ := h1 a ha
  obtain ⟨a2, h5, h6⟩ := h2 a' h3
  exact ⟨a2, h5, h4.trans h6⟩
theorem InM.cut {x : Sl} {lo hi n : Nat} : InM (x.cut lo hi n) x := fun a ha => by
  have ha' : (if x.cap = lo then x.a else x.a.map (·.add (lo * n))) = some a := ha
  split at ha'
  · exact ⟨a, ha', Eq.refl _⟩
  · cases hx : x.a with
    | none => rw [hx] at ha'; cases ha'
    | some a' =>
      rw [hx] at ha'
      simp only [Option.map_some, Option.some.injEq] at ha'
      subst ha'
      exact ⟨a', Eq.refl _, add_block _ _⟩
theorem trim_loop {Kf : Sl → Hp → Prop} (hr : RdW h x l) (hl : l.length < 4611686018427387904) (H : ∀ y, RdW h y (trimL l) → InM y x → Kf y h) :
    loopP (S := Sl × Unit) (fun s1 k2 h1 =>
      (joinP (S := Unit) (fun s3 h2 => (slP s1.1 0 (IntKind.i64.wrap ((s1.1.len : Int) - 1)) 1 fun c5 => (k2 (c5, ()) h2)))
      (fun k4 => (ifP (decide ((s1.1.len : Int) > 0)) (idxP s1.1 (IntKind.i64.wrap ((s1.1.len : Int) - 1)) 1 fun a6 => (ldL (.int .u32) a6 (fun x7 => (ifP (x7 == 0) (k4 () h1) (Kf s1.1 h1))) h1)) (Kf s1.1 h1)))))
      (x, ()) h := by
  refine loopP_of (fun st h' => h' = h ∧ ∃ (y : Sl) (k : Nat), st = (y, ()) ∧ k ≤ l.length ∧ RdW h y (l.take k) ∧ trimL (l.take k) = trimL l ∧ InM y x) (fun st => st.1.len)
    ⟨rfl, x, l.length, rfl, Nat.le_refl _, by rw [List.take_of_length_le (Nat.le_refl _)]; exact hr, by rw [List.take_of_length_le (Nat.le_refl _)], InM.rfl⟩ ?_
  rintro st h' ⟨rfl, y, k, rfl, hk, hy, ht, hsub⟩
  have hyl := hy.len
  rw [List.length_take, Nat.min_eq_left hk] at hyl
  refine joinP_inv (fun _ h1 => h1 = h' ∧ ∃ j, k = j + 1 ∧ ∃ hj : j < l.length, l[j] = 0) ?_ ?_
  · rintro _ h1 ⟨rfl, j, rfl, hj, h0⟩
    refine sl_word 0 j hy rfl (by simp only; rw [hyl, w64 (by omega)]; omega) (Nat.zero_le _) (by rw [List.length_take]; omega) fun hc => ?_
    have e : ((l.take (j + 1)).drop 0).take (j - 0) = l.take j := by
      rw [List.drop_zero, Nat.sub_zero, List.take_take]; congr 1; omega
    rw [e] at hc
    refine ⟨⟨rfl, _, j, rfl, by omega, hc, ?_, InM.cut.trans hsub⟩, ?_⟩
    · rw [← ht, List.take_succ_eq_append_getElem hj, h0, trim_snoc_zero]
    · show j - 0 < y.len; omega
  · refine ifP_dec (fun h1 => ?_) (fun h1 => ?_)
    · simp only at h1
      obtain ⟨j, rfl⟩ : ∃ j, k = j + 1 := ⟨k - 1, by omega⟩
      have hj : j < l.length := by omega
      refine rd_word j hy (by simp only; rw [hyl, w64 (by omega)]; omega) (by rw [List.length_take]; omega) fun a ha => ⟨_, ha, ?_⟩
      have e : (l.take (j + 1))[j]'(by rw [List.length_take]; omega) = l[j] := by simp
      rw [e]
      refine ifP_eq (fun h2 => ⟨rfl, j, rfl, hj, by omega⟩) (fun h2 => ?_)
      have h3 : l[j] ≠ 0 := by omega
      have : trimL (l.take (j + 1)) = l.take (j + 1) := by
        rw [List.take_succ_eq_append_getElem hj, trim_snoc_pos _ h3]
      rw [← ht, this] at H
      exact H y hy hsub
    · simp only at h1
      have : k = 0 := by omega
      subst this
      rw [← ht] at H
      exact H y hy hsub

theorem trim_of (hr : RdW h x l) (hl : l.length < 4611686018427387904) (H : ∀ y, RdW h y (trimL l) → Ks y h) : F.integer_trim x Ks h := trim_loop hr hl fun y hy _ => H y hy
theorem rtrim_of (hr : RdW h x l) (hl : l.length < 4611686018427387904) (H : ∀ y, RdW h y (trimL l) → Ks y h) : F.ref01_trim x Ks h := trim_loop hr hl fun y hy _ => H y hy
theorem trimX_call (hr : RdW h x l) (hl : l.length < 4611686018427387904) (H : ∀ y, RdW h y (trimL l) → InM y x → Ks y h) : callP (F.integer_trim x) Ks h :=
  callP_of (fun y h' => h' = h ∧ RdW h y (trimL l) ∧ InM y x) (fun K' hk => trim_loop hr hl fun y hy hs => hk y h (Hp.le_refl _) ⟨rfl, hy, hs⟩) fun y h' _ ⟨e, hy, hs⟩ => by subst e; exact H y hy hs
theorem rtrimX_call (hr : RdW h x l) (hl : l.length < 4611686018427387904) (H : ∀ y, RdW h y (trimL l) → InM y x → Ks y h) : callP (F.ref01_trim x) Ks h := trimX_call hr hl H
theorem trim_call (hr : RdW h x l) (hl : l.length < 4611686018427387904) (H : ∀ y, RdW h y (trimL l) → Ks y h) : callP (F.integer_trim x) Ks h :=
  callP_of (fun y h' => h' = h ∧ RdW h y (trimL l)) (fun K' hk => trim_of hr hl fun y hy => hk y h (Hp.le_refl _) ⟨rfl, hy⟩) fun y h' _ ⟨e, hy⟩ => by subst e; exact H y hy
theorem rtrim_call (hr : RdW h x l) (hl : l.length < 4611686018427387904) (H : ∀ y, RdW h y (trimL l) → Ks y h) : callP (F.ref01_trim x) Ks h :=
  callP_of (fun y h' => h' = h ∧ RdW h y (trimL l)) (fun K' hk => rtrim_of hr hl fun y hy => hk y h (Hp.le_refl _) ⟨rfl, hy⟩) fun y h' _ ⟨e, hy⟩ => by subst e; exact H y hy

/-- The products, row by row. -/
theorem times_loop {Kf : Sl → Hp → Prop} {h0 : Hp} {a b : Sl} {la lb : List Nat} (ha : RdW h0 a la) (hb : RdW h0 b lb) (oa : okW la) (ob : okW lb) (hl : la.length + lb.length ≤ 35184372088800)
    (ho : OwnW h0 h x (List.replicate (la.length + lb.length) 0)) (H : ∀ h' l, OwnW h0 h' x l → okW l → l.length = la.length + lb.length → vl l = vl la * vl lb → Kf x h') :
    loopP (S := Int × Unit) (fun s4 k5 h3 =>
      (ifP (decide (s4.1 < (a.len : Int)))
      (idxP a s4.1 1 fun a6 =>
      (ldL (.int .u32) a6 (fun x7 =>
      (loopP (S := Int × Int × Unit) (fun s8 k9 h4 =>
      (ifP (decide (s8.2.1 < (b.len : Int)))
      (idxP b s8.2.1 1 fun a10 =>
      (ldL (.int .u32) a10 (fun x11 =>
      (idxP x (IntKind.i64.wrap (s4.1 + s8.2.1)) 1 fun a12 =>
      (ldL (.int .u32) a12 (fun x13 =>
      (idxP x (IntKind.i64.wrap (s4.1 + s8.2.1)) 1 fun a14 =>
      (stP a14 [.int .u32 (IntKind.u32.wrap ((IntKind.u64.wrap (s8.1 + (IntKind.u64.wrap ((IntKind.u64.wrap ((IntKind.u64.wrap (x7)) * (IntKind.u64.wrap (x11)))) + (IntKind.u64.wrap (x13))))))))] (fun h5 =>
      (0 ≤ (32 : Int) ∧
      (k9 (((IntKind.u64.wrap (s8.1 + (IntKind.u64.wrap ((IntKind.u64.wrap ((IntKind.u64.wrap (x7)) * (IntKind.u64.wrap (x11)))) + (IntKind.u64.wrap (x13)))))) : Int).fdiv (2 ^ (min (32 : Int).toNat IntKind.u64.bits)), (IntKind.i64.wrap (s8.2.1 + 1)), ()) h5))) h4))) h4))) h4))
      (idxP x (IntKind.i64.wrap (s4.1 + (b.len : Int))) 1 fun a15 =>
      (stP a15 [.int .u32 (IntKind.u32.wrap (s8.1))] (fun h6 =>
      (k5 ((IntKind.i64.wrap (s4.1 + 1)), ()) h6)) h4))))
      (0, 0, ()) h3)) h3))
      (Kf x h3)))
      (0, ()) h := by
  have hal := ha.len
  have hbl := hb.len
  refine loopP_of (fun st h' => ∃ (i : Nat) (l : List Nat), st = ((i : Int), ()) ∧ i ≤ la.length ∧ OwnW h0 h' x l ∧ okW l ∧ l.length = la.length + lb.length ∧ vl l = vl (la.take i) * vl lb ∧ ∀ j (hj : j < l.length), i + lb.length ≤ j → l[j] = 0)
    (fun st => ((la.length : Int) - st.1).toNat) ⟨0, _, rfl, Nat.zero_le _, ho, ok_rep _, by simp, by rw [vl_rep]; simp [vl], fun j hj _ => by simp⟩ ?_
  rintro st h1 ⟨i, l, rfl, hi, ho1, okl, hll, hv, hz⟩
  refine ifP_dec (fun h2 => ?_) (fun h2 => ?_)
  · simp only at h2
    have hi' : i < la.length := by omega
    have hxi := ok_get oa hi'
    refine rd_word i (ha.le ho1.1) rfl hi' fun aa haa => ⟨_, haa, ?_⟩
    refine loopP_of (fun st h' => ∃ (k c : Nat) (l' : List Nat), st = ((c : Int), (k : Int), ()) ∧ k ≤ lb.length ∧ c < W ∧ OwnW h0 h' x l' ∧ okW l' ∧ l'.length = la.length + lb.length ∧
        vl l' + W ^ (i + k) * c = vl l + W ^ i * (la[i] * vl (lb.take k)) ∧ ∀ j (hj : j < l'.length), i + lb.length ≤ j → l'[j] = 0)
      (fun st => ((lb.length : Int) - st.2.1).toNat) ⟨0, 0, l, rfl, Nat.zero_le _, by decide, ho1, okl, hll, by simp [vl], hz⟩ ?_
    rintro st h3 ⟨k, c, l', rfl, hk, hc, ho3, okl', hll', hv', hz'⟩
    refine ifP_dec (fun h4 => ?_) (fun h4 => ?_)
    · simp only at h4
      have hk' : k < lb.length := by omega
      have hyk := ok_get ob hk'
      have hik : i + k < l'.length := by omega
      have hzk := ok_get okl' hik
      have wik : IntKind.i64.wrap ((i : Int) + (k : Int)) = ((i + k : Nat) : Int) := by rw [w64 (by omega)]; omega
      refine rd_word k (hb.le ho3.1) rfl hk' fun a1 ha1 => ⟨_, ha1, ?_⟩
      simp only
      rw [wik]
      refine rd_word (i + k) ho3.rdW rfl hik fun a2 ha2 => ⟨_, ha2, ?_⟩
      simp only
      rw [mac hc hxi hyk hzk]
      refine st_word (i + k) _ ho3 rfl hik (u32n _) fun h5 b5 _ _ _ ho5 => ⟨by decide, ?_⟩
      rw [shr32]
      refine ⟨⟨k + 1, _, _, by rw [w64 (by omega)]; rfl, by omega, mac_lt hc hxi hyk hzk, ho5, ok_set okl' (Nat.mod_lt _ W_pos), by simp [hll'], ?_, ?_⟩, by rw [w64 (by omega)]; omega⟩
      · have e1 := vl_set (l := l') (k := i + k) (v := (c + (la[i] * lb[k] + l'[i + k])) % W) hik
        have e2 := Nat.mod_add_div (c + (la[i] * lb[k] + l'[i + k])) W
        have e3 := vl_take_succ hk'
        rw [e3]
        generalize vl (l'.set (i + k) ((c + (la[i] * lb[k] + l'[i + k])) % W)) = V at e1 ⊢
        generalize hr : (c + (la[i] * lb[k] + l'[i + k])) % W = r at *
        generalize hq : (c + (la[i] * lb[k] + l'[i + k])) / W = q at *
        generalize vl l' = V' at *
        generalize vl l = V0 at *
        generalize l'[i + k] = z at *
        generalize la[i] = xx at *
        generalize lb[k] = yy at *
        generalize vl (lb.take k) = T at *
        have p1 : W ^ (i + (k + 1)) = W ^ (i + k) * W := by rw [← Nat.add_assoc, Nat.pow_succ]
        have p2 : W ^ (i + k) = W ^ i * W ^ k := Nat.pow_add ..
        rw [p1]
        generalize W ^ (i + k) = P at *
        subst p2
        generalize W ^ i = Pi at *
        generalize W ^ k = Pk at *
        grind
      · intro j hj hjl
        rw [List.length_set] at hj
        rw [List.getElem_set_ne (by omega)]
        exact hz' j hj hjl
    · simp only at h4
      have hk' : k = lb.length := by omega
      subst hk'
      have hil : i + lb.length < l'.length := by omega
      have w1 : IntKind.i64.wrap ((i : Int) + (b.len : Int)) = ((i + lb.length : Nat) : Int) := by rw [hbl, w64 (by omega)]; omega
      simp only
      rw [w1]
      refine st_word (i + lb.length) c ho3 rfl hil (by rw [u32n, Nat.mod_eq_of_lt hc]) fun h5 b5 _ _ _ ho5 => ?_
      refine ⟨⟨i + 1, _, by rw [w64 (by omega)]; rfl, by omega, ho5, ok_set okl' hc, by simp [hll'], ?_, ?_⟩, by rw [w64 (by omega)]; omega⟩
      · have e1 := vl_set (l := l') (k := i + lb.length) (v := c) hil
        rw [hz' _ hil (Nat.le_refl _)] at e1
        rw [List.take_of_length_le (Nat.le_refl _)] at hv'
        rw [vl_take_succ hi', Nat.add_mul]
        rw [Nat.mul_assoc]
        omega
      · intro j hj hjl
        rw [List.length_set] at hj
        rw [List.getElem_set_ne (by omega)]
        exact hz' j hj (by omega)
  · simp only at h2
    have : i = la.length := by omega
    subst this
    rw [List.take_of_length_le (Nat.le_refl _)] at hv
    exact H h1 l ho1 okl hll hv
end
end Den
end

section
/-
  The functions on lists of words: signs, copies, small numbers, comparing (the program's and the reference's).
-/
set_option linter.unusedVariables false
namespace Den
open Go Iv

theorem callP_rel {α : Type} {G : (α → Hp → Prop) → Hp → Prop} {K : α → Hp → Prop} {h : Hp} (R : α → Prop) (H : ∀ K' : α → Hp → Prop, (∀ v, R v → K' v h) → G K' h) (k : ∀ v, R v → K v h) : callP G K h :=
  callP_of (fun v h' => h' = h ∧ R v) (fun K' hk => H K' fun v hv => hk v h (Hp.le_refl _) ⟨rfl, hv⟩) fun v h' _ ⟨e, hv⟩ => by subst e; exact k v hv

def cmpN (m n : Nat) : Int := if m < n then -1 else if n < m then 1 else 0
/-- The number of a sign and words. -/
def sg (neg : Bool) (n : Nat) : Int := if neg = true then -(n : Int) else n
/-- x is the integer n in normal form. -/
def NI (h : Hp) (x : TInt) (n : Int) : Prop := RdW h x.mag (dg n.natAbs) ∧ x.neg = decide (n < 0)
theorem NI.le {h h' : Hp} {x : TInt} {n : Int} (hx : NI h x n) (hl : h.le h') : NI h' x n := ⟨hx.1.le hl, hx.2⟩
theorem NI.zero {h : Hp} : NI h ⟨false, nilS⟩ 0 := ⟨by rw [show (0 : Int).natAbs = 0 from rfl, dg_zero]; exact RdW.nil, by simp⟩

theorem vl_cmp : ∀ {a b : List Nat} (i : Nat), okW a → okW b → a.length = b.length → (hi : i < a.length) → (hi' : i < b.length) → a.drop (i + 1) = b.drop (i + 1) → a[i] < b[i] → vl a < vl b
  | [], _, i, _, _, _, hi, _, _, _ => by simp at hi
  | x :: r, [], i, _, _, hl, _, _, _, _ => by simp at hl
  | x :: r, y :: t, 0, ha, hb, hl, hi, hi', hd, hlt => by
    simp only [Nat.zero_add, List.drop_succ_cons, List.drop_zero] at hd
    subst hd
    simp only [List.getElem_cons_zero] at hlt
    simp only [vl]; omega
  | x :: r, y :: t, i + 1, ha, hb, hl, hi, hi', hd, hlt => by
    obtain ⟨hx, hr⟩ := ok_cons ha
    obtain ⟨hy, ht⟩ := ok_cons hb
    have := vl_cmp (a := r) (b := t) i hr ht (by simpa using hl) (by simpa using hi) (by simpa using hi') (by simpa using hd) (by simpa using hlt)
    simp only [vl]
    have h2 : W * (vl r + 1) ≤ W * vl t := Nat.mul_le_mul_left _ this
    rw [Nat.mul_add] at h2; omega
theorem dg_len_lt {m n : Nat} (h : (dg m).length < (dg n).length) : m < n := by
  rcases Nat.lt_or_ge m n with h1 | h1
  · exact h1
  · exfalso
    have h2 := dg_len.1 (Nat.le_refl (dg m).length)
    have h3 : (dg n).length ≤ (dg m).length := dg_len.2 (Nat.lt_of_le_of_lt h1 h2)
    omega

section
variable {h : Hp} {x y : Sl} {l m : List Nat} {Ks : Sl → Hp → Prop} {Ki : Int → Hp → Prop} {Kb : Bool → Hp → Prop} {KI : TInt → Hp → Prop}

theorem sg_abs (neg : Bool) (n : Nat) : (sg neg n).natAbs = n := by unfold sg; split <;> simp
theorem signed_of {neg : Bool} (hr : RdW h x l) (ok : okW l) (hl : l.length < 4611686018427387904) (H : ∀ y, NI h y (sg neg (vl l)) → KI y h) : F.integer_signed neg x KI h := by
  unfold F.integer_signed
  refine trim_call hr hl fun y hy => ?_
  rw [trim_eq ok] at hy
  have hyl := hy.len
  refine ifP_eq (fun h1 => ?_) (fun h1 => ?_)
  · have h0 : vl l = 0 := dg_nil.1 (List.length_eq_zero_iff.1 (by omega))
    refine H _ ?_
    rw [h0]
    have : sg neg 0 = 0 := by unfold sg; split <;> rfl
    rw [this]; exact NI.zero
  · refine H _ ⟨by rw [sg_abs]; exact hy, ?_⟩
    have hpos : vl l ≠ 0 := fun h0 => by rw [h0, dg_zero] at hyl; exact h1 (by rw [hyl]; rfl)
    unfold sg
    cases neg
    · simp
    · simp; omega
theorem rsigned_of {neg : Bool} (hr : RdW h x l) (ok : okW l) (hl : l.length < 4611686018427387904) (H : ∀ y, NI h y (sg neg (vl l)) → KI y h) : F.ref01_signed neg x KI h := by
  unfold F.ref01_signed
  refine rtrim_call hr hl fun y hy => ?_
  rw [trim_eq ok] at hy
  have hyl := hy.len
  have hz : (vl l = 0) ↔ (dg (vl l)).length = 0 := by rw [List.length_eq_zero_iff, dg_nil]
  refine ifP_intro (fun h1 => ?_) (fun h1 => ?_)
  · refine H _ ⟨by rw [sg_abs]; exact hy, ?_⟩
    rw [h1]
    unfold sg
    simp only [if_true]
    congr 1
    apply propext
    omega
  · refine H _ ⟨by rw [sg_abs]; exact hy, ?_⟩
    rw [h1]
    unfold sg
    simp
theorem signed_call {neg : Bool} (hr : RdW h x l) (ok : okW l) (hl : l.length < 4611686018427387904) (H : ∀ y, NI h y (sg neg (vl l)) → KI y h) : callP (F.integer_signed neg x) KI h :=
  callP_rel _ (fun K' => signed_of hr ok hl) H
theorem rsigned_call {neg : Bool} (hr : RdW h x l) (ok : okW l) (hl : l.length < 4611686018427387904) (H : ∀ y, NI h y (sg neg (vl l)) → KI y h) : callP (F.ref01_signed neg x) KI h :=
  callP_rel _ (fun K' => rsigned_of hr ok hl) H

theorem clone_call (hr : RdW h x l) (hl : l.length ≤ 35184372088800) (H : ∀ y h', h.le h' → RdW h' y l → Ks y h') : callP (F.slices_Clone_uint32_uint32 x) Ks h := by
  refine callP_of (fun y h' => RdW h' y l) (fun K' hk => ?_) H
  unfold F.slices_Clone_uint32_uint32
  have hlen := hr.len
  refine ifP_intro (fun h1 => ?_) (fun h1 => ?_)
  · have hn : x.a = none := by cases hx : x.a with | none => rfl | some a => rw [hx] at h1; cases h1
    have : l = [] := by
      have h2 := hr.1.2
      rw [hn] at h2
      simp only [cellsAtO] at h2
      split at h2
      · rename_i h3; rw [wc_len] at h3; exact List.length_eq_zero_iff.1 h3
      · cases h2
    subst this
    exact hk _ _ (Hp.le_refl _) RdW.nil
  · refine new_own (n := 0) (size := 1) rfl fun b h1 hb ho => ?_
    have hr1 := hr.le ho.1
    refine ⟨wc l, ?_, ?_⟩
    · have := hr1.1.2
      rw [wc_len] at this
      rw [hlen, Nat.mul_one]; exact this
    · refine app_own ho (n := x.len) (by rw [wc_len]; omega) rfl ?_ (by simp only; omega) (by simp only; omega) fun y h2 hy _ => hk _ _ hy.1 ⟨hy.rd, hy.2.2.1⟩
      simp [wc, Value.leaf]

theorem fromUint_of {n : Nat} (hn : n < 18446744073709551616) (H : ∀ y h', h.le h' → RdW h' y (dg n) → Ks y h') : F.integer_fromUint n Ks h := by
  unfold F.integer_fromUint
  refine ⟨by decide, ?_⟩
  rw [u32n, shr32, u32n]
  have hq : n / W < W := by unfold W; omega
  rw [Nat.mod_eq_of_lt hq]
  refine new_own (n := 2) (size := 1) rfl fun b h1 hb ho => ?_
  have ho' : OwnW h h1 ⟨some ⟨b, 0, none⟩, 2, 2⟩ [n % W, n / W] := ho
  have ok : okW [n % W, n / W] := fun d hd => by
    simp only [List.mem_cons, List.not_mem_nil, or_false] at hd
    rcases hd with rfl | rfl
    · exact Nat.mod_lt _ W_pos
    · exact hq
  refine trim_call ho'.rdW (by simp) fun y hy => ?_
  rw [trim_eq ok] at hy
  have : vl [n % W, n / W] = n := by simp only [vl, Nat.mul_zero, Nat.add_zero]; exact Nat.mod_add_div n W
  rw [this] at hy
  exact H _ _ ho.1 hy
theorem fromUint_call {n : Nat} {i : Int} (hi : i = n) (hn : n < 18446744073709551616) (H : ∀ y h', h.le h' → RdW h' y (dg n) → Ks y h') : callP (F.integer_fromUint i) Ks h := by
  subst hi
  exact callP_of _ (fun K' => fromUint_of hn) H
theorem words_of {n : Nat} (hn : n < 18446744073709551616) (H : ∀ y h', h.le h' → RdW h' y (dg n) → Ks y h') : F.ref01_words n Ks h := by
  unfold F.ref01_words
  refine ⟨by decide, ?_⟩
  rw [u32n, shr32, u32n]
  have hq : n / W < W := by unfold W; omega
  rw [Nat.mod_eq_of_lt hq]
  refine new_own (n := 2) (size := 1) rfl fun b h1 hb ho => ?_
  have ho' : OwnW h h1 ⟨some ⟨b, 0, none⟩, 2, 2⟩ [n % W, n / W] := ho
  have ok : okW [n % W, n / W] := fun d hd => by
    simp only [List.mem_cons, List.not_mem_nil, or_false] at hd
    rcases hd with rfl | rfl
    · exact Nat.mod_lt _ W_pos
    · exact hq
  refine rtrim_call ho'.rdW (by simp) fun y hy => ?_
  rw [trim_eq ok] at hy
  have : vl [n % W, n / W] = n := by simp only [vl, Nat.mul_zero, Nat.add_zero]; exact Nat.mod_add_div n W
  rw [this] at hy
  exact H _ _ ho.1 hy
theorem words_call {n : Nat} {i : Int} (hi : i = n) (hn : n < 18446744073709551616) (H : ∀ y h', h.le h' → RdW h' y (dg n) → Ks y h') : callP (F.ref01_words i) Ks h := by
  subst hi
  exact callP_of _ (fun K' => words_of hn) H

/-- Two words in one: 'n<<32 | w'. -/
theorem or32 {a b : Nat} (ha : a < W) (hb : b < W) : ibits .or .u64 (IntKind.u64.wrap ((a : Int) * 2 ^ (min (32 : Int).toNat IntKind.u64.bits))) (IntKind.u64.wrap (b : Int)) = ((a * W + b : Nat) : Int) := by
  have e1 : ((a : Int) * 2 ^ (min (32 : Int).toNat IntKind.u64.bits)) = ((a * W : Nat) : Int) := by
    have : (2 : Int) ^ (min (32 : Int).toNat IntKind.u64.bits) = ((W : Nat) : Int) := by decide
    rw [this]; simp
  unfold W at *
  rw [e1, u64n (n := a * 4294967296) (by omega), u64n (n := b) (by omega)]
  unfold ibits
  simp only [IntKind.bits]
  have h1 : (BitVec.ofInt 64 ((a * 4294967296 : Nat) : Int) ||| BitVec.ofInt 64 (b : Int)).toNat = a * 4294967296 + b := by
    rw [BitVec.ofInt_natCast, BitVec.ofInt_natCast, BitVec.toNat_or, BitVec.toNat_ofNat, BitVec.toNat_ofNat, Nat.mod_eq_of_lt (by omega), Nat.mod_eq_of_lt (by omega)]
    have := Nat.two_pow_add_eq_or_of_lt (i := 32) (b := b) (by omega) a
    rw [Nat.mul_comm (2 ^ 32) a] at this
    exact this.symm
  exact (congrArg (fun z : Nat => IntKind.u64.wrap (z : Int)) h1).trans (u64n (by omega))

theorem toUint_of (hr : RdW h x l) (ok : okW l) (hl : l.length ≤ 2) (H : ∀ h', h.le h' → Ki (vl l : Int) h') : F.integer_toUint x Ki h := by
  unfold F.integer_toUint
  refine callP_of (fun (a : Addr) h' => h'.cell a = some (.slice x.a x.len x.cap)) (fun K' hk => ?_) fun a h1 l1 ha => ?_
  · unfold F.slices_Backward_uint32_uint32
    intro b e hb
    refine hk _ _ (Hp.le_ins hb) ?_
    unfold Hp.cell
    simp [Hp.ins_same]
  · have hlen := hr.len
    refine ⟨x, fun k s h' => h1.le h' ∧ k ≤ l.length ∧ s = ((((vl (l.drop k) : Nat) : Int), ()), ()), by omega, ⟨Hp.le_refl _, by omega, ?_⟩, fun i s h' hI => ?_, fun i s h' hi hI => ?_, fun s h' hI => ?_⟩
    · rw [hlen, List.drop_eq_nil_of_le (Nat.le_refl _)]; rfl
    · exact Hp.cell_le hI.1 ha
    · obtain ⟨hl', hk, rfl⟩ := hI
      have hi' : i < l.length := by omega
      have hr' := (hr.le l1).le hl'
      have h2 := hr'.1.2
      cases hxa : x.a with
      | none =>
        rw [hxa] at h2
        simp only [cellsAtO] at h2
        split at h2
        · rename_i h3; rw [wc_len] at h3; omega
        · cases h2
      | some ad =>
        rw [hxa] at h2
        simp only [cellsAtO] at h2
        have hxi := ok_get ok hi'
        refine ⟨ad, (l[i] : Int), rfl, fun j u hj => ?_, by decide, hl', by omega, ?_⟩
        · have hj0 : j = 0 := by
            rcases Nat.eq_zero_or_pos j with h3 | h3
            · exact h3
            · exfalso
              have : ((STy.leaf (.int .u32)).cells (l[i] : Int))[j]? = none := by
                apply List.getElem?_eq_none
                simp only [STy.cells, List.length_singleton]; omega
              rw [this] at hj; cases hj
          subst hj0
          simp only [STy.cells, List.getElem?_cons_zero, Option.some.injEq] at hj
          subst hj
          refine cellsAt_get h2 _ _ ?_
          simp [wc, STy.size, hi', Lf.up]
        · have hd : l.drop i = l[i] :: l.drop (i + 1) := List.drop_eq_getElem_cons hi'
          rw [hd]
          simp only [vl]
          have hsm : vl (l.drop (i + 1)) < W := by
            have := vl_lt (ok_drop ok (i + 1))
            rw [List.length_drop] at this
            refine Nat.lt_of_lt_of_le this ?_
            have h3 : l.length - (i + 1) ≤ 1 := by omega
            exact Nat.le_trans (Nat.pow_le_pow_right W_pos h3) (by simp)
          rw [or32 hsm hxi]
          congr 2
          congr 1
          rw [Nat.mul_comm]; omega
    · obtain ⟨hl', hk, rfl⟩ := hI
      exact H _ (Hp.le_trans l1 hl')
theorem toUint_call (hr : RdW h x l) (ok : okW l) (hl : l.length ≤ 2) (H : ∀ h', h.le h' → Ki (vl l : Int) h') : callP (F.integer_toUint x) Ki h :=
  callP_of (fun v _ => v = (vl l : Int)) (fun K' hk => toUint_of hr ok hl fun h' hl' => hk _ _ hl' rfl) fun v h' hl' hv => by subst hv; exact H h' hl'
theorem short_of (hr : RdW h x l) (ok : okW l) (hl : l.length ≤ 2) (H : Ki (vl l : Int) h) : F.ref01_short x Ki h := by
  unfold F.ref01_short
  have hlen := hr.len
  refine loopP_of (fun st h' => h' = h ∧ ∃ k : Nat, k ≤ l.length ∧ st = (((vl (l.drop k) : Nat) : Int), (k : Int) - 1, ())) (fun st => (st.2.1 + 1).toNat)
    ⟨rfl, l.length, Nat.le_refl _, by rw [List.drop_eq_nil_of_le (Nat.le_refl _), hlen, w64 (by omega)]; rfl⟩ ?_
  rintro st h' ⟨rfl, k, hk, rfl⟩
  refine ifP_dec (fun h1 => ?_) (fun h1 => ?_)
  · simp only at h1
    obtain ⟨i, rfl⟩ : ∃ i, k = i + 1 := ⟨k - 1, by omega⟩
    have hi' : i < l.length := by omega
    have hxi := ok_get ok hi'
    refine ⟨by decide, rd_word i hr (by simp only; omega) hi' fun a ha => ⟨_, ha, ?_⟩⟩
    have hsm : vl (l.drop (i + 1)) < W := by
      have := vl_lt (ok_drop ok (i + 1))
      rw [List.length_drop] at this
      refine Nat.lt_of_lt_of_le this ?_
      have h3 : l.length - (i + 1) ≤ 1 := by omega
      exact Nat.le_trans (Nat.pow_le_pow_right W_pos h3) (by simp)
    simp only
    rw [or32 hsm hxi]
    refine ⟨⟨by trivial, i, by omega, ?_⟩, by rw [w64 (by omega)]; omega⟩
    rw [List.drop_eq_getElem_cons hi', w64 (by omega)]
    simp only [vl]
    congr 1
    · congr 1; rw [Nat.mul_comm]; omega
    · congr 1; omega
  · simp only at h1
    obtain rfl : k = 0 := by omega
    exact H
theorem short_call (hr : RdW h x l) (ok : okW l) (hl : l.length ≤ 2) (H : Ki (vl l : Int) h) : callP (F.ref01_short x) Ki h := callP_same _ (fun K' => short_of hr ok hl) H

theorem cmpInt_call {a b : Int} (H : Ki (if a < b then -1 else if b < a then 1 else 0) h) : callP (F.cmp_Compare_int a b) Ki h := by
  refine callP_same _ (fun K' hk => ?_) H
  unfold F.cmp_Compare_int
  have e : ∀ z : Int, (z != z) = false := fun z => by simp
  refine callP_same false (fun K' hk => by unfold F.cmp_isNaN_int; rw [e]; exact hk) (callP_same false (fun K' hk => by unfold F.cmp_isNaN_int; rw [e]; exact hk) ?_)
  refine ifP_false rfl (ifP_false rfl (ifP_dec (fun h1 => ?_) (fun h1 => ifP_dec (fun h2 => ?_) (fun h2 => ?_))))
  · rw [if_pos h1] at hk; exact hk
  · rw [if_neg h1, if_pos h2] at hk; exact hk
  · rw [if_neg h1, if_neg h2] at hk; exact hk
theorem cmpU32_call {a b : Int} (H : Ki (if a < b then -1 else if b < a then 1 else 0) h) : callP (F.cmp_Compare_uint32 a b) Ki h := by
  refine callP_same _ (fun K' hk => ?_) H
  unfold F.cmp_Compare_uint32
  have e : ∀ z : Int, (z != z) = false := fun z => by simp
  refine callP_same false (fun K' hk => by unfold F.cmp_isNaN_uint32; rw [e]; exact hk) (callP_same false (fun K' hk => by unfold F.cmp_isNaN_uint32; rw [e]; exact hk) ?_)
  refine ifP_false rfl (ifP_false rfl (ifP_dec (fun h1 => ?_) (fun h1 => ifP_dec (fun h2 => ?_) (fun h2 => ?_))))
  · rw [if_pos h1] at hk; exact hk
  · rw [if_neg h1, if_pos h2] at hk; exact hk
  · rw [if_neg h1, if_neg h2] at hk; exact hk

theorem compare_of {m n : Nat} (hx : RdW h x (dg m)) (hy : RdW h y (dg n)) (hl : (dg m).length < 4611686018427387904) (hl2 : (dg n).length < 4611686018427387904) (H : Ki (cmpN m n) h) : F.integer_compare x y Ki h := by
  unfold F.integer_compare
  have lx := hx.len
  have ly := hy.len
  refine ifP_ne (fun h1 => ?_) (fun h1 => ?_)
  · refine cmpInt_call ?_
    unfold cmpN at H
    by_cases h2 : (dg m).length < (dg n).length
    · rw [if_pos (dg_len_lt h2)] at H
      rw [if_pos (by omega)]; exact H
    · have h3 : (dg n).length < (dg m).length := by omega
      have h4 := dg_len_lt h3
      rw [if_neg (by omega), if_pos h4] at H
      rw [if_neg (by omega), if_pos (by omega)]; exact H
  · have hll : (dg m).length = (dg n).length := by omega
    refine loopP_of (fun st h' => h' = h ∧ ∃ k : Nat, st = ((k : Int) - 1, ()) ∧ k ≤ (dg m).length ∧ (dg m).drop k = (dg n).drop k) (fun st => (st.1 + 1).toNat)
      ⟨rfl, (dg m).length, by rw [lx, w64 (by omega)], Nat.le_refl _, by rw [List.drop_eq_nil_of_le (Nat.le_refl _), List.drop_eq_nil_of_le (by omega)]⟩ ?_
    rintro st h' ⟨rfl, k, rfl, hk, hd⟩
    refine ifP_dec (fun h2 => ?_) (fun h2 => ?_)
    · simp only at h2
      obtain ⟨i, rfl⟩ : ∃ i, k = i + 1 := ⟨k - 1, by omega⟩
      have hi : i < (dg m).length := by omega
      have hi' : i < (dg n).length := by omega
      refine rd_word i hx (by simp only; omega) hi fun a ha => ⟨_, ha, ?_⟩
      refine rd_word i hy (by simp only; omega) hi' fun a ha => ⟨_, ha, ?_⟩
      refine ifP_ne (fun h3 => ?_) (fun h3 => ?_)
      · refine rd_word i hx (by simp only; omega) hi fun a ha => ⟨_, ha, ?_⟩
        refine rd_word i hy (by simp only; omega) hi' fun a ha => ⟨_, ha, ?_⟩
        refine cmpU32_call ?_
        unfold cmpN at H
        by_cases h4 : (dg m)[i] < (dg n)[i]
        · have := vl_cmp i (ok_dg m) (ok_dg n) hll hi hi' hd h4
          rw [vl_dg, vl_dg] at this
          rw [if_pos this] at H
          rw [if_pos (by omega)]; exact H
        · have h5 : (dg n)[i] < (dg m)[i] := by omega
          have := vl_cmp i (ok_dg n) (ok_dg m) hll.symm hi' hi hd.symm h5
          rw [vl_dg, vl_dg] at this
          rw [if_neg (by omega), if_pos this] at H
          rw [if_neg (by omega), if_pos (by omega)]; exact H
      · refine ⟨⟨rfl, i, by simp only; rw [w64 (by omega)]; congr 1; omega, by omega, ?_⟩, by simp only; rw [w64 (by omega)]; omega⟩
        rw [List.drop_eq_getElem_cons hi, List.drop_eq_getElem_cons hi', hd]
        congr 1; omega
    · simp only at h2
      obtain rfl : k = 0 := by omega
      simp only [List.drop_zero] at hd
      have : m = n := by rw [← vl_dg m, ← vl_dg n, hd]
      subst this
      unfold cmpN at H
      rw [if_neg (Nat.lt_irrefl _), if_neg (Nat.lt_irrefl _)] at H
      exact H
theorem compare_call {m n : Nat} (hx : RdW h x (dg m)) (hy : RdW h y (dg n)) (hl : (dg m).length < 4611686018427387904) (hl2 : (dg n).length < 4611686018427387904) (H : Ki (cmpN m n) h) : callP (F.integer_compare x y) Ki h :=
  callP_same _ (fun K' => compare_of hx hy hl hl2) H

theorem rcompare_of {m n : Nat} (hx : RdW h x (dg m)) (hy : RdW h y (dg n)) (hl : (dg m).length < 4611686018427387904) (hl2 : (dg n).length < 4611686018427387904) (H : Ki (cmpN m n) h) : F.ref01_compare x y Ki h := by
  unfold F.ref01_compare
  have lx := hx.len
  have ly := hy.len
  refine ifP_ne (fun h1 => ?_) (fun h1 => ?_)
  · unfold cmpN at H
    refine ifP_dec (fun h2 => ?_) (fun h2 => ?_)
    · have h2' := Int.ofNat_lt.1 h2
      rw [if_pos (dg_len_lt (by omega))] at H; exact H
    · have h2' : ¬ x.len < y.len := fun hh => h2 (Int.ofNat_lt.2 hh)
      have h3 : (dg n).length < (dg m).length := by omega
      have h4 := dg_len_lt h3
      rw [if_neg (by omega), if_pos h4] at H; exact H
  · have hll : (dg m).length = (dg n).length := by omega
    refine loopP_of (fun st h' => h' = h ∧ ∃ k : Nat, st = ((k : Int) - 1, ()) ∧ k ≤ (dg m).length ∧ (dg m).drop k = (dg n).drop k) (fun st => (st.1 + 1).toNat)
      ⟨rfl, (dg m).length, by rw [lx, w64 (by omega)], Nat.le_refl _, by rw [List.drop_eq_nil_of_le (Nat.le_refl _), List.drop_eq_nil_of_le (by omega)]⟩ ?_
    rintro st h' ⟨rfl, k, rfl, hk, hd⟩
    refine ifP_dec (fun h2 => ?_) (fun h2 => ?_)
    · simp only at h2
      obtain ⟨i, rfl⟩ : ∃ i, k = i + 1 := ⟨k - 1, by omega⟩
      have hi : i < (dg m).length := by omega
      have hi' : i < (dg n).length := by omega
      refine rd_word i hx (by simp only; omega) hi fun a ha => ⟨_, ha, ?_⟩
      refine rd_word i hy (by simp only; omega) hi' fun a ha => ⟨_, ha, ?_⟩
      unfold cmpN at H
      refine ifP_dec (fun h3 => ?_) (fun h3 => ?_)
      · have := vl_cmp i (ok_dg m) (ok_dg n) hll hi hi' hd (Int.ofNat_lt.1 h3)
        rw [vl_dg, vl_dg] at this
        rw [if_pos this] at H; exact H
      · refine rd_word i hx (by simp only; omega) hi fun a ha => ⟨_, ha, ?_⟩
        refine rd_word i hy (by simp only; omega) hi' fun a ha => ⟨_, ha, ?_⟩
        refine ifP_dec (fun h4 => ?_) (fun h4 => ?_)
        · have := vl_cmp i (ok_dg n) (ok_dg m) hll.symm hi' hi hd.symm (Int.ofNat_lt.1 h4)
          rw [vl_dg, vl_dg] at this
          rw [if_neg (by omega), if_pos this] at H; exact H
        · have h3' : ¬ (dg m)[i] < (dg n)[i] := fun hh => h3 (Int.ofNat_lt.2 hh)
          have h4' : ¬ (dg n)[i] < (dg m)[i] := fun hh => h4 (Int.ofNat_lt.2 hh)
          refine ⟨⟨rfl, i, by simp only; rw [w64 (by omega)]; congr 1; omega, by omega, ?_⟩, by simp only; rw [w64 (by omega)]; omega⟩
          rw [List.drop_eq_getElem_cons hi, List.drop_eq_getElem_cons hi', hd]
          congr 1; omega
    · simp only at h2
      obtain rfl : k = 0 := by omega
      simp only [List.drop_zero] at hd
      have : m = n := by rw [← vl_dg m, ← vl_dg n, hd]
      subst this
      unfold cmpN at H
      rw [if_neg (Nat.lt_irrefl _), if_neg (Nat.lt_irrefl _)] at H
      exact H
theorem rcompare_call {m n : Nat} (hx : RdW h x (dg m)) (hy : RdW h y (dg n)) (hl : (dg m).length < 4611686018427387904) (hl2 : (dg n).length < 4611686018427387904) (H : Ki (cmpN m n) h) : callP (F.ref01_compare x y) Ki h :=
  callP_same _ (fun K' => rcompare_of hx hy hl hl2) H
end
end Den
end

section
/-
  Sums, differences and products of lists of words (the program's and the reference's).
-/
set_option linter.unusedVariables false
namespace Den
open Go Iv

theorem wu64e (n : Int) : IntKind.u64.wrap n = n % 18446744073709551616 := by simp [IntKind.wrap, IntKind.signed, IntKind.bits]
theorem wu32e (n : Int) : IntKind.u32.wrap n = n % 4294967296 := by simp [IntKind.wrap, IntKind.signed, IntKind.bits]
theorem fd63 (n : Int) : n.fdiv (2 ^ (min (63 : Int).toNat IntKind.u64.bits)) = n / 9223372036854775808 := by
  have e : (2 : Int) ^ (min (63 : Int).toNat IntKind.u64.bits) = 9223372036854775808 := by decide
  rw [e, Int.fdiv_eq_ediv_of_nonneg _ (by decide)]
theorem fd32 (n : Int) : n.fdiv (2 ^ (min (32 : Int).toNat IntKind.u64.bits)) = n / 4294967296 := by
  have e : (2 : Int) ^ (min (32 : Int).toNat IntKind.u64.bits) = 4294967296 := by decide
  rw [e, Int.fdiv_eq_ediv_of_nonneg _ (by decide)]

/-- A word minus a carry minus a word. -/
theorem sub64 {x c y : Nat} (hx : x < W) (hc : c ≤ 1) (hy : y < W) : ∃ r b : Nat, r < W ∧ b ≤ 1 ∧ x + W * b = r + c + y ∧
    IntKind.u32.wrap (IntKind.u64.wrap (IntKind.u64.wrap (IntKind.u64.wrap (x : Int) - (c : Int)) - IntKind.u64.wrap (y : Int))) = (r : Int) ∧
    (IntKind.u64.wrap (IntKind.u64.wrap (IntKind.u64.wrap (x : Int) - (c : Int)) - IntKind.u64.wrap (y : Int))).fdiv (2 ^ (min (63 : Int).toNat IntKind.u64.bits)) = (b : Int) := by
  unfold W at *
  rw [fd63]
  simp only [wu64e, wu32e]
  by_cases h : c + y ≤ x
  · exact ⟨x - c - y, 0, by omega, by omega, by omega, by omega, by omega⟩
  · exact ⟨x + 4294967296 - c - y, 1, by omega, by omega, by omega, by omega, by omega⟩
theorem sub64' {x c : Nat} (hx : x < W) (hc : c ≤ 1) : ∃ r b : Nat, r < W ∧ b ≤ 1 ∧ x + W * b = r + c + 0 ∧
    IntKind.u32.wrap (IntKind.u64.wrap (IntKind.u64.wrap (x : Int) - (c : Int))) = (r : Int) ∧
    (IntKind.u64.wrap (IntKind.u64.wrap (x : Int) - (c : Int))).fdiv (2 ^ (min (63 : Int).toNat IntKind.u64.bits)) = (b : Int) := by
  unfold W at *
  rw [fd63]
  simp only [wu64e, wu32e]
  by_cases h : c ≤ x
  · exact ⟨x - c, 0, by omega, by omega, by omega, by omega, by omega⟩
  · exact ⟨x + 4294967296 - c, 1, by omega, by omega, by omega, by omega, by omega⟩
theorem sub32 {x c y : Nat} (hx : x < W) (hc : c ≤ 1) (hy : y < W) : ∃ r b : Nat, r < W ∧ b ≤ 1 ∧ x + W * b = r + c + y ∧
    IntKind.u32.wrap (IntKind.u64.wrap (IntKind.u64.wrap (IntKind.u64.wrap (IntKind.u64.wrap (x : Int) + 4294967296) - (y : Int)) - (c : Int))) = (r : Int) ∧
    IntKind.u64.wrap (1 - (IntKind.u64.wrap (IntKind.u64.wrap (IntKind.u64.wrap (IntKind.u64.wrap (x : Int) + 4294967296) - (y : Int)) - (c : Int))).fdiv (2 ^ (min (32 : Int).toNat IntKind.u64.bits))) = (b : Int) := by
  unfold W at *
  rw [fd32]
  simp only [wu64e, wu32e]
  by_cases h : c + y ≤ x
  · exact ⟨x - c - y, 0, by omega, by omega, by omega, by omega, by omega⟩
  · exact ⟨x + 4294967296 - c - y, 1, by omega, by omega, by omega, by omega, by omega⟩

/-- z lies in new memory. -/
def Fresh (h : Hp) (z : Sl) : Prop := ∀ a, z.a = some a → h a.block = none
theorem Fresh.of {h h' : Hp} {w z : Sl} {cs : List Value} (ho : Own h h' 1 w cs) (hs : InM z w) : Fresh h z := fun a ha => by
  obtain ⟨a', h1, h2⟩ := hs a ha
  have h4 := ho.2.2.2
  rw [h1] at h4
  rw [h2]; exact h4.2.2.1
theorem Hp.none_of_le {h h' : Hp} {b : Nat} (hl : h.le h') (hb : h' b = none) : h b = none := by
  cases hk : h b with
  | none => rfl
  | some B => rw [hl _ _ hk] at hb; cases hb
theorem Fresh.le {h h' : Hp} {z : Sl} (hf : Fresh h' z) (hl : h.le h') : Fresh h z := fun a ha => Hp.none_of_le hl (hf a ha)
theorem Fresh.ne {h : Hp} {z : Sl} {b : Nat} (hf : Fresh h z) (hb : h b ≠ none) : ∀ a, z.a = some a → a.block ≠ b := fun a ha hh => hb (by rw [← hh]; exact hf a ha)
theorem getD_lt {l : List Nat} (hl : okW l) (i : Nat) : l.getD i 0 < W := by
  rw [List.getD_eq_getElem?_getD]
  rcases Nat.lt_or_ge i l.length with h | h
  · rw [List.getElem?_eq_getElem h]; exact ok_get hl h
  · rw [List.getElem?_eq_none h]; exact W_pos
theorem getD_get {l : List Nat} {i : Nat} (hi : i < l.length) : l.getD i 0 = l[i] := by
  rw [List.getD_eq_getElem?_getD, List.getElem?_eq_getElem hi]; rfl
theorem getD_none {l : List Nat} {i : Nat} (hi : l.length ≤ i) : l.getD i 0 = 0 := by
  rw [List.getD_eq_getElem?_getD, List.getElem?_eq_none hi]; rfl
theorem vl_takeD (l : List Nat) (i : Nat) : vl (l.take (i + 1)) = vl (l.take i) + W ^ i * l.getD i 0 := by
  rcases Nat.lt_or_ge i l.length with h | h
  · rw [vl_take_succ h, getD_get h]
  · rw [getD_none h, List.take_of_length_le (by omega), List.take_of_length_le h]; simp
theorem vl_set_take {r : List Nat} {k v : Nat} (hk : k < r.length) : vl ((r.set k v).take (k + 1)) = vl (r.take k) + W ^ k * v := by
  rw [vl_take_succ (by simpa using hk), List.getElem_set_self]
  congr 2
  apply List.ext_getElem
  · simp
  · intro i h1 h2
    simp only [List.length_take] at h1 h2
    simp only [List.getElem_take]
    rw [List.getElem_set_ne (by omega)]

section
variable {h : Hp} {x y : Sl} {l m : List Nat} {Ks : Sl → Hp → Prop} {Ki : Int → Hp → Prop} {Kb : Bool → Hp → Prop} {KI : TInt → Hp → Prop}

theorem plus_of (hx : RdW h x l) (hy : RdW h y m) (ol : okW l) (om : okW m) (hl : l.length ≤ 1099511627776) (hm : m.length ≤ 1099511627776)
    (H : ∀ z h' r, h.le h' → RdW h' z r → okW r → vl r = vl l + vl m → r.length ≤ l.length + m.length + 1 → Ks z h') : F.integer_plus x y Ks h := by
  unfold F.integer_plus
  have lx := hx.len
  have ly := hy.len
  refine joinP_inv (fun st h' => h' = h ∧ ∃ p q, RdW h st.1 p ∧ RdW h st.2.1 q ∧ okW p ∧ okW q ∧ q.length ≤ p.length ∧ p.length + q.length = l.length + m.length ∧ vl p + vl q = vl l + vl m) ?_ ?_
  · rintro ⟨sx, sy, _⟩ h0 ⟨rfl, p, q, hp, hq, op, oq, hqp, hlen, hv⟩
    simp only at hp hq ⊢
    have lp := hp.len
    have lq := hq.len
    refine mk_word 0 (p.length + 1) rfl (by rw [lp, w64 (by omega)]; omega) (by omega) (by omega) fun w h1 hw hw2 => ?_
    refine loopP_of (fun st h' => ∃ (w : Sl) (c i : Nat) (r : List Nat), st = (w, (c : Int), (i : Int), ()) ∧ i ≤ p.length ∧ c ≤ 1 ∧ OwnW h0 h' w r ∧ okW r ∧ r.length = i ∧ vl r + W ^ i * c = vl (p.take i) + vl (q.take i))
      (fun st => ((p.length : Int) - st.2.2.1).toNat) ⟨w, 0, 0, [], rfl, Nat.zero_le _, by omega, hw2, ok_nil, rfl, by simp [vl]⟩ ?_
    rintro st h2 ⟨w, c, i, r, rfl, hi, hc, ho, okr, hrl, hv2⟩
    refine ifP_dec (fun h3 => ?_) (fun h3 => ?_)
    · have hi' : i < p.length := by have : (i : Int) < (sx.len : Int) := h3; omega
      have hpx := ok_get op hi'
      have hqx := getD_lt oq i
      refine rd_word i (hp.le ho.1) rfl hi' fun a ha => ⟨_, ha, ?_⟩
      refine joinP_inv (fun s h4 => h4 = h2 ∧ s = (((c + p[i] + q.getD i 0 : Nat) : Int), ())) ?_ ?_
      · rintro _ h4 ⟨rfl, rfl⟩
        simp only
        refine app_word _ ho (u32n _) (by omega) fun w5 h5 ho5 => ⟨by decide, ?_⟩
        rw [shr32]
        refine ⟨⟨w5, _, i + 1, _, by rw [w64 (by omega)]; rfl, by omega, ?_, ho5, ok_append okr (fun d hd => ?_), by simp [hrl], ?_⟩, by rw [w64 (by omega)]; omega⟩
        · unfold W at *; omega
        · rw [List.mem_singleton.1 hd]; exact Nat.mod_lt _ W_pos
        · rw [vl_append, vl_take_succ hi', vl_takeD, hrl]
          have e2 := Nat.mod_add_div (c + p[i] + q.getD i 0) W
          simp only [vl, Nat.mul_zero, Nat.add_zero, Nat.pow_succ]
          generalize (c + p[i] + q.getD i 0) % W = rr at *
          generalize (c + p[i] + q.getD i 0) / W = qq at *
          generalize W ^ i = P at *
          generalize p[i] = pp at *
          generalize q.getD i 0 = q0 at *
          generalize vl (p.take i) = A at *
          generalize vl (q.take i) = B at *
          generalize vl r = R at *
          clear H
          grind
      · refine ifP_dec (fun h4 => ?_) (fun h4 => ?_)
        · have hi2 : i < q.length := by have : (i : Int) < (sy.len : Int) := h4; omega
          refine rd_word i (hq.le ho.1) rfl hi2 fun a2 ha2 => ⟨_, ha2, ?_⟩
          refine ⟨rfl, ?_⟩
          rw [getD_get hi2] at hqx ⊢
          simp only
          unfold W at *
          congr 1
          simp only [wu64e]; omega
        · have hi2 : q.length ≤ i := by have : ¬ (i : Int) < (sy.len : Int) := h4; omega
          refine ⟨rfl, ?_⟩
          rw [getD_none hi2]
          simp only
          unfold W at *
          congr 1
          simp only [wu64e]; omega
    · have hi' : i = p.length := by have : ¬ (i : Int) < (sx.len : Int) := h3; omega
      rw [List.take_of_length_le (by omega), List.take_of_length_le (by omega)] at hv2
      refine ifP_dec (fun h4 => ?_) (fun h4 => ?_)
      · have hc1 : c = 1 := by have : (c : Int) > 0 := h4; omega
        subst hc1
        refine app_word 1 ho (by simp only; decide) (by omega) fun w5 h5 ho5 => ?_
        refine H _ _ _ ho5.1 ho5.rdW (ok_append okr (fun d hd => by rw [List.mem_singleton.1 hd]; decide)) ?_ (by simp; omega)
        rw [vl_append, hrl]
        simp only [vl, Nat.mul_zero, Nat.add_zero]
        omega
      · have hc0 : c = 0 := by have : ¬ (c : Int) > 0 := h4; omega
        subst hc0
        exact H _ _ _ ho.1 ho.rdW okr (by omega) (by omega)
  · refine ifP_dec (fun h1 => ?_) (fun h1 => ?_)
    · exact ⟨rfl, m, l, hy, hx, om, ol, by omega, by omega, by omega⟩
    · exact ⟨rfl, l, m, hx, hy, ol, om, by omega, by omega, by omega⟩
theorem plus_call (hx : RdW h x l) (hy : RdW h y m) (ol : okW l) (om : okW m) (hl : l.length ≤ 1099511627776) (hm : m.length ≤ 1099511627776)
    (H : ∀ z h' r, h.le h' → RdW h' z r → okW r → vl r = vl l + vl m → r.length ≤ l.length + m.length + 1 → Ks z h') : callP (F.integer_plus x y) Ks h :=
  callP_of (fun z h' => ∃ r, RdW h' z r ∧ okW r ∧ vl r = vl l + vl m ∧ r.length ≤ l.length + m.length + 1)
    (fun K' hk => plus_of hx hy ol om hl hm fun z h' r h1 h2 h3 h4 h5 => hk _ _ h1 ⟨r, h2, h3, h4, h5⟩) fun z h' h1 ⟨r, h2, h3, h4, h5⟩ => H z h' r h1 h2 h3 h4 h5

theorem rplus_of (hx : RdW h x l) (hy : RdW h y m) (ol : okW l) (om : okW m) (hl : l.length ≤ 1099511627776) (hm : m.length ≤ 1099511627776)
    (H : ∀ z h', h.le h' → RdW h' z (dg (vl l + vl m)) → Ks z h') : F.ref01_plus x y Ks h := by
  unfold F.ref01_plus
  have lx := hx.len
  have ly := hy.len
  refine joinP_inv (fun st h' => h' = h ∧ ∃ p q, RdW h st.1 p ∧ RdW h st.2.1 q ∧ okW p ∧ okW q ∧ q.length ≤ p.length ∧ p.length + q.length = l.length + m.length ∧ vl p + vl q = vl l + vl m) ?_ ?_
  · rintro ⟨sx, sy, _⟩ h0 ⟨rfl, p, q, hp, hq, op, oq, hqp, hlen, hv⟩
    simp only at hp hq ⊢
    have lp := hp.len
    have lq := hq.len
    refine mk_word (p.length + 1) (p.length + 1) (by rw [lp, w64 (by omega)]; omega) (by rw [lp, w64 (by omega)]; omega) (by omega) (by omega) fun w h1 hw hw2 => ?_
    refine loopP_of (fun st h' => ∃ (c i : Nat) (r : List Nat), st = ((c : Int), (i : Int), ()) ∧ i ≤ p.length ∧ c ≤ 1 ∧ OwnW h0 h' w r ∧ okW r ∧ r.length = p.length + 1 ∧ vl (r.take i) + W ^ i * c = vl (p.take i) + vl (q.take i))
      (fun st => ((p.length : Int) - st.2.1).toNat) ⟨0, 0, _, rfl, Nat.zero_le _, by omega, hw2, ok_rep _, by simp, by simp [vl]⟩ ?_
    rintro st h2 ⟨c, i, r, rfl, hi, hc, ho, okr, hrl, hv2⟩
    refine ifP_dec (fun h3 => ?_) (fun h3 => ?_)
    · have hi' : i < p.length := by have : (i : Int) < (sx.len : Int) := h3; omega
      have hpx := ok_get op hi'
      have hqx := getD_lt oq i
      refine rd_word i (hp.le ho.1) rfl hi' fun a ha => ⟨_, ha, ?_⟩
      refine joinP_inv (fun s h4 => h4 = h2 ∧ s = (((c + p[i] + q.getD i 0 : Nat) : Int), ())) ?_ ?_
      · rintro _ h4 ⟨rfl, rfl⟩
        simp only
        refine st_word i _ ho rfl (by omega) (u32n _) fun h5 b5 _ _ _ ho5 => ⟨by decide, ?_⟩
        rw [shr32]
        refine ⟨⟨_, i + 1, _, by rw [w64 (by omega)]; rfl, by omega, ?_, ho5, ok_set okr (Nat.mod_lt _ W_pos), by simp [hrl], ?_⟩, by rw [w64 (by omega)]; omega⟩
        · unfold W at *; omega
        · rw [vl_set_take (by omega), vl_take_succ hi', vl_takeD]
          have e2 := Nat.mod_add_div (c + p[i] + q.getD i 0) W
          simp only [Nat.pow_succ]
          generalize (c + p[i] + q.getD i 0) % W = rr at *
          generalize (c + p[i] + q.getD i 0) / W = qq at *
          generalize W ^ i = P at *
          generalize p[i] = pp at *
          generalize q.getD i 0 = q0 at *
          generalize vl (p.take i) = A at *
          generalize vl (q.take i) = B at *
          generalize vl (r.take i) = R at *
          clear H
          grind
      · refine ifP_dec (fun h4 => ?_) (fun h4 => ?_)
        · have hi2 : i < q.length := by have : (i : Int) < (sy.len : Int) := h4; omega
          refine rd_word i (hq.le ho.1) rfl hi2 fun a2 ha2 => ⟨_, ha2, ?_⟩
          refine ⟨rfl, ?_⟩
          rw [getD_get hi2] at hqx ⊢
          simp only
          unfold W at *
          congr 1
          simp only [wu64e]; omega
        · have hi2 : q.length ≤ i := by have : ¬ (i : Int) < (sy.len : Int) := h4; omega
          refine ⟨rfl, ?_⟩
          rw [getD_none hi2]
          simp only
          unfold W at *
          congr 1
          simp only [wu64e]; omega
    · have hi' : i = p.length := by have : ¬ (i : Int) < (sx.len : Int) := h3; omega
      subst hi'
      rw [List.take_of_length_le (l := p) (by omega), List.take_of_length_le (l := q) (by omega)] at hv2
      refine st_word p.length c ho (by rw [lp]) (by omega) (by rw [u32n, Nat.mod_eq_of_lt (by unfold W; omega)]) fun h5 b5 _ _ _ ho5 => ?_
      have okr5 : okW (r.set p.length c) := ok_set okr (by unfold W; omega)
      refine rtrim_call ho5.rdW (by simp; omega) fun z hz => ?_
      rw [trim_eq okr5] at hz
      have e1 := vl_set_take (r := r) (k := p.length) (v := c) (by omega)
      rw [List.take_of_length_le (by simp; omega)] at e1
      rw [e1, hv2, hv] at hz
      exact H _ _ ho5.1 hz
  · refine ifP_dec (fun h1 => ?_) (fun h1 => ?_)
    · exact ⟨rfl, m, l, hy, hx, om, ol, by omega, by omega, by omega⟩
    · exact ⟨rfl, l, m, hx, hy, ol, om, by omega, by omega, by omega⟩
theorem rplus_call (hx : RdW h x l) (hy : RdW h y m) (ol : okW l) (om : okW m) (hl : l.length ≤ 1099511627776) (hm : m.length ≤ 1099511627776)
    (H : ∀ z h', h.le h' → RdW h' z (dg (vl l + vl m)) → Ks z h') : callP (F.ref01_plus x y) Ks h :=
  callP_of _ (fun K' => rplus_of hx hy ol om hl hm) H

theorem minus_end {r : List Nat} {b : Nat} (hrl : r.length = l.length) (okr : okW r) (hml : m.length ≤ l.length) (hle : vl m ≤ vl l) (hb : b ≤ 1)
    (hv : vl (r.take l.length) + vl (m.take l.length) = vl (l.take l.length) + W ^ l.length * b) : vl r = vl l - vl m := by
  rw [List.take_of_length_le (l := r) (by omega), List.take_of_length_le hml, List.take_of_length_le (Nat.le_refl _)] at hv
  have h1 := vl_lt okr
  rw [hrl] at h1
  have : b = 0 := by
    rcases Nat.eq_zero_or_pos b with h2 | h2
    · exact h2
    · obtain rfl : b = 1 := by omega
      omega
  subst this
  omega
theorem minus_of (hx : RdW h x l) (hy : RdW h y m) (ol : okW l) (om : okW m) (hl : l.length ≤ 35184372088800) (hml : m.length ≤ l.length) (hle : vl m ≤ vl l)
    (H : ∀ z h', h.le h' → RdW h' z (dg (vl l - vl m)) → Ks z h') : F.integer_minus x y Ks h := by
  unfold F.integer_minus
  have lx := hx.len
  have ly := hy.len
  refine mk_word l.length l.length (by omega) (by omega) (by omega) (by omega) fun w h1 hw hw2 => ?_
  refine loopP_of (fun st h' => ∃ (c i : Nat) (r : List Nat), st = ((c : Int), (i : Int), ()) ∧ i ≤ l.length ∧ c ≤ 1 ∧ OwnW h h' w r ∧ okW r ∧ r.length = l.length ∧ vl (r.take i) + vl (m.take i) = vl (l.take i) + W ^ i * c)
    (fun st => ((l.length : Int) - st.2.1).toNat) ⟨0, 0, _, rfl, Nat.zero_le _, by omega, hw2, ok_rep _, by simp, by simp [vl]⟩ ?_
  rintro st h2 ⟨c, i, r, rfl, hi, hc, ho, okr, hrl, hv2⟩
  refine ifP_dec (fun h3 => ?_) (fun h3 => ?_)
  · have hi' : i < l.length := by have : (i : Int) < (x.len : Int) := h3; omega
    have hlx := ok_get ol hi'
    have hmx := getD_lt om i
    refine rd_word i (hx.le ho.1) rfl hi' fun a ha => ⟨_, ha, ?_⟩
    refine joinP_inv (fun s h4 => h4 = h2 ∧ ∃ rr b : Nat, rr < W ∧ b ≤ 1 ∧ l[i] + W * b = rr + c + m.getD i 0 ∧ IntKind.u32.wrap s.1 = (rr : Int) ∧ s.1.fdiv (2 ^ (min (63 : Int).toNat IntKind.u64.bits)) = (b : Int)) ?_ ?_
    · rintro s h4 ⟨rfl, rr, b, hrr, hb, he, h5, h6⟩
      refine st_word i rr ho rfl (by omega) h5 fun h5 b5 _ _ _ ho5 => ⟨by decide, ?_⟩
      rw [h6]
      refine ⟨⟨b, i + 1, _, by rw [w64 (by simp only; omega)]; rfl, by omega, hb, ho5, ok_set okr hrr, by simp [hrl], ?_⟩, by simp only; rw [w64 (by omega)]; omega⟩
      rw [vl_set_take (by omega), vl_take_succ hi', vl_takeD, Nat.pow_succ]
      generalize W ^ i = P at *
      generalize l[i] = pp at *
      generalize m.getD i 0 = q0 at *
      generalize vl (l.take i) = A at *
      generalize vl (m.take i) = B at *
      generalize vl (r.take i) = R at *
      have e := congrArg (P * ·) he
      simp only [Nat.mul_add] at e
      rw [Nat.mul_assoc]
      omega
    · refine ifP_dec (fun h4 => ?_) (fun h4 => ?_)
      · have hi2 : i < m.length := by have : (i : Int) < (y.len : Int) := h4; omega
        refine rd_word i (hy.le ho.1) rfl hi2 fun a2 ha2 => ⟨_, ha2, ?_⟩
        rw [getD_get hi2] at hmx ⊢
        exact ⟨rfl, sub64 hlx hc hmx⟩
      · have hi2 : m.length ≤ i := by have : ¬ (i : Int) < (y.len : Int) := h4; omega
        rw [getD_none hi2]
        exact ⟨rfl, sub64' hlx hc⟩
  · have hi' : i = l.length := by have : ¬ (i : Int) < (x.len : Int) := h3; omega
    subst hi'
    refine trim_call ho.rdW (by omega) fun z hz => ?_
    rw [trim_eq okr, minus_end hrl okr hml hle hc hv2] at hz
    exact H _ _ ho.1 hz
theorem minus_call (hx : RdW h x l) (hy : RdW h y m) (ol : okW l) (om : okW m) (hl : l.length ≤ 35184372088800) (hml : m.length ≤ l.length) (hle : vl m ≤ vl l)
    (H : ∀ z h', h.le h' → RdW h' z (dg (vl l - vl m)) → Ks z h') : callP (F.integer_minus x y) Ks h :=
  callP_of _ (fun K' => minus_of hx hy ol om hl hml hle) H
theorem rminusX_of (hx : RdW h x l) (hy : RdW h y m) (ol : okW l) (om : okW m) (hl : l.length ≤ 35184372088800) (hml : m.length ≤ l.length) (hle : vl m ≤ vl l)
    (H : ∀ z h', h.le h' → RdW h' z (dg (vl l - vl m)) → Fresh h z → Ks z h') : F.ref01_minus x y Ks h := by
  unfold F.ref01_minus
  have lx := hx.len
  have ly := hy.len
  refine mk_word l.length l.length (by omega) (by omega) (by omega) (by omega) fun w h1 hw hw2 => ?_
  refine loopP_of (fun st h' => ∃ (c i : Nat) (r : List Nat), st = ((c : Int), (i : Int), ()) ∧ i ≤ l.length ∧ c ≤ 1 ∧ OwnW h h' w r ∧ okW r ∧ r.length = l.length ∧ vl (r.take i) + vl (m.take i) = vl (l.take i) + W ^ i * c)
    (fun st => ((l.length : Int) - st.2.1).toNat) ⟨0, 0, _, rfl, Nat.zero_le _, by omega, hw2, ok_rep _, by simp, by simp [vl]⟩ ?_
  rintro st h2 ⟨c, i, r, rfl, hi, hc, ho, okr, hrl, hv2⟩
  refine ifP_dec (fun h3 => ?_) (fun h3 => ?_)
  · have hi' : i < l.length := by have : (i : Int) < (x.len : Int) := h3; omega
    have hlx := ok_get ol hi'
    have hmx := getD_lt om i
    refine joinP_inv (fun s h4 => h4 = h2 ∧ s = (((m.getD i 0 : Nat) : Int), ())) ?_ ?_
    · rintro _ h4 ⟨rfl, rfl⟩
      refine rd_word i (hx.le ho.1) rfl hi' fun a ha => ⟨_, ha, ?_⟩
      simp only
      obtain ⟨rr, b, hrr, hb, he, h5, h6⟩ := sub32 hlx hc hmx
      refine st_word i rr ho rfl (by omega) h5 fun h5 b5 _ _ _ ho5 => ⟨by decide, ?_⟩
      rw [h6]
      refine ⟨⟨b, i + 1, _, by rw [w64 (by omega)]; rfl, by omega, hb, ho5, ok_set okr hrr, by simp [hrl], ?_⟩, by rw [w64 (by omega)]; omega⟩
      rw [vl_set_take (by omega), vl_take_succ hi', vl_takeD, Nat.pow_succ]
      generalize W ^ i = P at *
      generalize l[i] = pp at *
      generalize m.getD i 0 = q0 at *
      generalize vl (l.take i) = A at *
      generalize vl (m.take i) = B at *
      generalize vl (r.take i) = R at *
      have e := congrArg (P * ·) he
      simp only [Nat.mul_add] at e
      rw [Nat.mul_assoc]
      omega
    · refine ifP_dec (fun h4 => ?_) (fun h4 => ?_)
      · have hi2 : i < m.length := by have : (i : Int) < (y.len : Int) := h4; omega
        refine rd_word i (hy.le ho.1) rfl hi2 fun a2 ha2 => ⟨_, ha2, ?_⟩
        rw [getD_get hi2] at hmx ⊢
        exact ⟨rfl, by rw [u64n (by unfold W at *; omega)]⟩
      · have hi2 : m.length ≤ i := by have : ¬ (i : Int) < (y.len : Int) := h4; omega
        rw [getD_none hi2]
        exact ⟨rfl, rfl⟩
  · have hi' : i = l.length := by have : ¬ (i : Int) < (x.len : Int) := h3; omega
    subst hi'
    refine rtrimX_call ho.rdW (by omega) fun z hz hs => ?_
    rw [trim_eq okr, minus_end hrl okr hml hle hc hv2] at hz
    exact H _ _ ho.1 hz (Fresh.of ho hs)
theorem rminusX_call (hx : RdW h x l) (hy : RdW h y m) (ol : okW l) (om : okW m) (hl : l.length ≤ 35184372088800) (hml : m.length ≤ l.length) (hle : vl m ≤ vl l)
    (H : ∀ z h', h.le h' → RdW h' z (dg (vl l - vl m)) → Fresh h z → Ks z h') : callP (F.ref01_minus x y) Ks h :=
  callP_of (fun z h' => RdW h' z (dg (vl l - vl m)) ∧ Fresh h z) (fun K' hk => rminusX_of hx hy ol om hl hml hle fun z h' h1 h2 h3 => hk z h' h1 ⟨h2, h3⟩) fun z h' h1 ⟨h2, h3⟩ => H z h' h1 h2 h3
theorem rminus_call (hx : RdW h x l) (hy : RdW h y m) (ol : okW l) (om : okW m) (hl : l.length ≤ 35184372088800) (hml : m.length ≤ l.length) (hle : vl m ≤ vl l)
    (H : ∀ z h', h.le h' → RdW h' z (dg (vl l - vl m)) → Ks z h') : callP (F.ref01_minus x y) Ks h :=
  rminusX_call hx hy ol om hl hml hle fun z h' h1 h2 _ => H z h' h1 h2

theorem times_of (hx : RdW h x l) (hy : RdW h y m) (ol : okW l) (om : okW m) (hl : l.length + m.length ≤ 35184372088800)
    (H : ∀ z h', h.le h' → RdW h' z (dg (vl l * vl m)) → Ks z h') : F.integer_times x y Ks h := by
  unfold F.integer_times
  have lx := hx.len
  have ly := hy.len
  refine joinP_inv (fun _ h' => h' = h) ?_ ?_
  · rintro _ h' rfl
    refine mk_word (l.length + m.length) (l.length + m.length) (by rw [w64 (by omega)]; omega) (by rw [w64 (by omega)]; omega) (by omega) (by omega) fun w h1 hw hw2 => ?_
    refine times_loop (Kf := fun w h3 => callP (F.integer_trim w) (fun r h7 => Ks r h7) h3) (hx) (hy) ol om hl hw2 fun h3 r ho okr hrl hv => ?_
    refine trim_call ho.rdW (by omega) fun z hz => ?_
    rw [trim_eq okr, hv] at hz
    exact H _ _ ho.1 hz
  · refine ifP_eq (fun h1 => ?_) (fun h1 => ifP_eq (fun h2 => ?_) (fun h2 => rfl))
    · have : l = [] := List.length_eq_zero_iff.1 (by omega)
      subst this
      refine H _ _ (Hp.le_refl _) ?_
      simp only [vl, Nat.zero_mul, dg_zero]
      exact RdW.nil
    · have : m = [] := List.length_eq_zero_iff.1 (by omega)
      subst this
      refine H _ _ (Hp.le_refl _) ?_
      simp only [vl, Nat.mul_zero, dg_zero]
      exact RdW.nil
theorem times_call (hx : RdW h x l) (hy : RdW h y m) (ol : okW l) (om : okW m) (hl : l.length + m.length ≤ 35184372088800)
    (H : ∀ z h', h.le h' → RdW h' z (dg (vl l * vl m)) → Ks z h') : callP (F.integer_times x y) Ks h :=
  callP_of _ (fun K' => times_of hx hy ol om hl) H

theorem rmac {c x y z : Nat} (hc : c < W) (hx : x < W) (hy : y < W) (hz : z < W) :
    IntKind.u64.wrap (IntKind.u64.wrap ((c : Int) + IntKind.u64.wrap (z : Int)) + IntKind.u64.wrap (IntKind.u64.wrap (x : Int) * IntKind.u64.wrap (y : Int))) = ((c + (x * y + z) : Nat) : Int) := by
  unfold W at *
  have hxy : x * y ≤ 4294967295 * 4294967295 := Nat.mul_le_mul (by omega) (by omega)
  rw [u64n (n := x) (by omega), u64n (n := y) (by omega), u64n (n := z) (by omega)]
  rw [show ((x : Int) * (y : Int)) = ((x * y : Nat) : Int) by simp, u64n (n := x * y) (by omega)]
  rw [show ((c : Int) + (z : Int)) = ((c + z : Nat) : Int) by simp, u64n (n := c + z) (by omega)]
  rw [show (((c + z : Nat) : Int) + ((x * y : Nat) : Int)) = ((c + (x * y + z) : Nat) : Int) by omega, u64n (by omega)]

theorem rtimesX_of {a b : Sl} {la lb : List Nat} (ha : RdW h a la) (hb : RdW h b lb) (oa : okW la) (ob : okW lb) (hl : la.length + lb.length ≤ 35184372088800)
    (H : ∀ z h', h.le h' → RdW h' z (dg (vl la * vl lb)) → Fresh h z → Ks z h') : F.ref01_times a b Ks h := by
  unfold F.ref01_times
  have hal := ha.len
  have hbl := hb.len
  refine mk_word (la.length + lb.length) (la.length + lb.length) (by rw [w64 (by omega)]; omega) (by rw [w64 (by omega)]; omega) (by omega) (by omega) fun x h1 hw ho => ?_
  refine loopP_of (fun st h' => ∃ (i : Nat) (l : List Nat), st = ((i : Int), ()) ∧ i ≤ la.length ∧ OwnW h h' x l ∧ okW l ∧ l.length = la.length + lb.length ∧ vl l = vl (la.take i) * vl lb ∧ ∀ j (hj : j < l.length), i + lb.length ≤ j → l[j] = 0)
    (fun st => ((la.length : Int) - st.1).toNat) ⟨0, _, rfl, Nat.zero_le _, ho, ok_rep _, by simp, by rw [vl_rep]; simp [vl], fun j hj _ => by simp⟩ ?_
  rintro st h1 ⟨i, l, rfl, hi, ho1, okl, hll, hv, hz⟩
  refine ifP_dec (fun h2 => ?_) (fun h2 => ?_)
  · simp only at h2
    have hi' : i < la.length := by omega
    have hxi := ok_get oa hi'
    refine loopP_of (fun st h' => ∃ (k c : Nat) (l' : List Nat), st = ((c : Int), (k : Int), ()) ∧ k ≤ lb.length ∧ c < W ∧ OwnW h h' x l' ∧ okW l' ∧ l'.length = la.length + lb.length ∧
        vl l' + W ^ (i + k) * c = vl l + W ^ i * (la[i] * vl (lb.take k)) ∧ ∀ j (hj : j < l'.length), i + lb.length ≤ j → l'[j] = 0)
      (fun st => ((lb.length : Int) - st.2.1).toNat) ⟨0, 0, l, rfl, Nat.zero_le _, by decide, ho1, okl, hll, by simp [vl], hz⟩ ?_
    rintro st h3 ⟨k, c, l', rfl, hk, hc, ho3, okl', hll', hv', hz'⟩
    refine ifP_dec (fun h4 => ?_) (fun h4 => ?_)
    · simp only at h4
      have hk' : k < lb.length := by omega
      have hyk := ok_get ob hk'
      have hik : i + k < l'.length := by omega
      have hzk := ok_get okl' hik
      have wik : IntKind.i64.wrap ((i : Int) + (k : Int)) = ((i + k : Nat) : Int) := by rw [w64 (by omega)]; omega
      simp only
      rw [wik]
      refine rd_word (i + k) ho3.rdW rfl hik fun a2 ha2 => ⟨_, ha2, ?_⟩
      refine rd_word i (ha.le ho3.1) rfl hi' fun aa haa => ⟨_, haa, ?_⟩
      refine rd_word k (hb.le ho3.1) rfl hk' fun a1 ha1 => ⟨_, ha1, ?_⟩
      simp only
      rw [rmac hc hxi hyk hzk]
      refine st_word (i + k) _ ho3 rfl hik (u32n _) fun h5 b5 _ _ _ ho5 => ⟨by decide, ?_⟩
      rw [shr32]
      refine ⟨⟨k + 1, _, _, by rw [w64 (by omega)]; rfl, by omega, mac_lt hc hxi hyk hzk, ho5, ok_set okl' (Nat.mod_lt _ W_pos), by simp [hll'], ?_, ?_⟩, by rw [w64 (by omega)]; omega⟩
      · have e1 := vl_set (l := l') (k := i + k) (v := (c + (la[i] * lb[k] + l'[i + k])) % W) hik
        have e2 := Nat.mod_add_div (c + (la[i] * lb[k] + l'[i + k])) W
        have e3 := vl_take_succ hk'
        rw [e3]
        generalize vl (l'.set (i + k) ((c + (la[i] * lb[k] + l'[i + k])) % W)) = V at e1 ⊢
        generalize hr : (c + (la[i] * lb[k] + l'[i + k])) % W = r at *
        generalize hq : (c + (la[i] * lb[k] + l'[i + k])) / W = q at *
        generalize vl l' = V' at *
        generalize vl l = V0 at *
        generalize l'[i + k] = z at *
        generalize la[i] = xx at *
        generalize lb[k] = yy at *
        generalize vl (lb.take k) = T at *
        have p1 : W ^ (i + (k + 1)) = W ^ (i + k) * W := by rw [← Nat.add_assoc, Nat.pow_succ]
        have p2 : W ^ (i + k) = W ^ i * W ^ k := Nat.pow_add ..
        rw [p1]
        generalize W ^ (i + k) = P at *
        subst p2
        generalize W ^ i = Pi at *
        generalize W ^ k = Pk at *
        clear H
        grind
      · intro j hj hjl
        rw [List.length_set] at hj
        rw [List.getElem_set_ne (by omega)]
        exact hz' j hj hjl
    · simp only at h4
      have hk' : k = lb.length := by omega
      subst hk'
      have hil : i + lb.length < l'.length := by omega
      have w1 : IntKind.i64.wrap ((i : Int) + (b.len : Int)) = ((i + lb.length : Nat) : Int) := by rw [hbl, w64 (by omega)]; omega
      simp only
      rw [w1]
      refine st_word (i + lb.length) c ho3 rfl hil (by rw [u32n, Nat.mod_eq_of_lt hc]) fun h5 b5 _ _ _ ho5 => ?_
      refine ⟨⟨i + 1, _, by rw [w64 (by omega)]; rfl, by omega, ho5, ok_set okl' hc, by simp [hll'], ?_, ?_⟩, by rw [w64 (by omega)]; omega⟩
      · have e1 := vl_set (l := l') (k := i + lb.length) (v := c) hil
        rw [hz' _ hil (Nat.le_refl _)] at e1
        rw [List.take_of_length_le (Nat.le_refl _)] at hv'
        rw [vl_take_succ hi', Nat.add_mul]
        rw [Nat.mul_assoc]
        omega
      · intro j hj hjl
        rw [List.length_set] at hj
        rw [List.getElem_set_ne (by omega)]
        exact hz' j hj (by omega)
  · simp only at h2
    have : i = la.length := by omega
    subst this
    rw [List.take_of_length_le (Nat.le_refl _)] at hv
    refine rtrimX_call ho1.rdW (by omega) fun z hz2 hs => ?_
    rw [trim_eq okl, hv] at hz2
    exact H _ _ ho1.1 hz2 (Fresh.of ho1 hs)
theorem rtimesX_call (hx : RdW h x l) (hy : RdW h y m) (ol : okW l) (om : okW m) (hl : l.length + m.length ≤ 35184372088800)
    (H : ∀ z h', h.le h' → RdW h' z (dg (vl l * vl m)) → Fresh h z → Ks z h') : callP (F.ref01_times x y) Ks h :=
  callP_of (fun z h' => RdW h' z (dg (vl l * vl m)) ∧ Fresh h z) (fun K' hk => rtimesX_of hx hy ol om hl fun z h' h1 h2 h3 => hk z h' h1 ⟨h2, h3⟩) fun z h' h1 ⟨h2, h3⟩ => H z h' h1 h2 h3
theorem rtimes_call (hx : RdW h x l) (hy : RdW h y m) (ol : okW l) (om : okW m) (hl : l.length + m.length ≤ 35184372088800)
    (H : ∀ z h', h.le h' → RdW h' z (dg (vl l * vl m)) → Ks z h') : callP (F.ref01_times x y) Ks h :=
  rtimesX_call hx hy ol om hl fun z h' h1 h2 _ => H z h' h1 h2
end
end Den
end

section
/-
  Integers: signs, sums, products (the program's and the reference's).
-/
set_option linter.unusedVariables false
namespace Den
open Go Iv

/-- Small enough for every step. -/
def Ok (n : Int) : Prop := (dg n.natAbs).length ≤ 268435456
/-- Less than the k-th power of W. -/
def Lt (k : Nat) (n : Int) : Prop := n.natAbs < W ^ k
theorem Lt.ok {k : Nat} {n : Int} (h : Lt k n) (hk : k ≤ 268435456) : Ok n := Nat.le_trans (dg_len.2 h) hk
theorem Lt.mono {k j : Nat} {n : Int} (h : Lt k n) (hk : k ≤ j) : Lt j n := Nat.lt_of_lt_of_le h (Nat.pow_le_pow_right W_pos hk)
theorem Lt.mul {k j : Nat} {m n : Int} (h : Lt k m) (h2 : Lt j n) : Lt (k + j) (m * n) := by
  unfold Lt at *
  rw [Int.natAbs_mul, Nat.pow_add]
  exact Nat.mul_lt_mul'' h h2
theorem Lt.neg {k : Nat} {n : Int} (h : Lt k n) : Lt k (-n) := by unfold Lt at *; rw [Int.natAbs_neg]; exact h
theorem Lt.add {k j : Nat} {m n : Int} (h : Lt k m) (h2 : Lt j n) : Lt (k + j + 1) (m + n) := by
  unfold Lt at *
  have h3 := Int.natAbs_add_le m n
  have e1 : W ^ k ≤ W ^ (k + j) := Nat.pow_le_pow_right W_pos (by omega)
  have e2 : W ^ j ≤ W ^ (k + j) := Nat.pow_le_pow_right W_pos (by omega)
  rw [Nat.pow_succ]
  have : W ^ (k + j) * 2 ≤ W ^ (k + j) * W := Nat.mul_le_mul_left _ (by decide)
  omega
theorem Lt.sub {k j : Nat} {m n : Int} (h : Lt k m) (h2 : Lt j n) : Lt (k + j + 1) (m - n) := by
  rw [Int.sub_eq_add_neg]; exact h.add h2.neg
theorem Lt.le {k : Nat} {m n : Int} (h : Lt k m) (h2 : n.natAbs ≤ m.natAbs) : Lt k n := Nat.lt_of_le_of_lt h2 h
theorem Lt.of64 {n : Int} (h1 : -18446744073709551616 < n) (h2 : n < 18446744073709551616) : Lt 2 n := by
  unfold Lt
  have : W ^ 2 = 18446744073709551616 := by decide
  rw [this]; omega

theorem NI.len {h : Hp} {x : TInt} {n : Int} (hx : NI h x n) : x.mag.len = (dg n.natAbs).length := hx.1.len
theorem NI.len0 {h : Hp} {x : TInt} {n : Int} (hx : NI h x n) : ((x.mag.len : Int) == 0) = decide (n = 0) := by
  rw [hx.len]
  by_cases h0 : n = 0
  · subst h0; simp [dg_zero]
  · have : (dg n.natAbs).length ≠ 0 := fun hh => h0 (by have := dg_nil.1 (List.length_eq_zero_iff.1 hh); omega)
    rw [decide_eq_false h0]
    have h2 : ((dg n.natAbs).length : Int) ≠ 0 := by omega
    simpa using fun hh => h0 (by have := dg_nil.1 hh; omega)
theorem len_zero {n : Int} : (dg n.natAbs).length = 0 ↔ n = 0 := by
  rw [List.length_eq_zero_iff, dg_nil]; omega

section
variable {h : Hp} {x y : Sl} {l : List Nat} {m n : Int} {a b : TInt} {Ks : Sl → Hp → Prop} {Ki : Int → Hp → Prop} {Kb : Bool → Hp → Prop} {KI : TInt → Hp → Prop} {KP : (TInt × TInt × Int) → Hp → Prop}

theorem trim_dg (n : Nat) : trimL (dg n) = dg n := by rw [trim_eq (ok_dg n), vl_dg]
theorem trimd_call {n : Nat} (hr : RdW h x (dg n)) (hl : (dg n).length ≤ 35184372088800) (H : ∀ y, RdW h y (dg n) → Ks y h) : callP (F.integer_trim x) Ks h :=
  trim_call hr (by omega) fun y hy => H y (by rw [trim_dg] at hy; exact hy)
theorem rtrimd_call {n : Nat} (hr : RdW h x (dg n)) (hl : (dg n).length ≤ 35184372088800) (H : ∀ y, RdW h y (dg n) → Ks y h) : callP (F.ref01_trim x) Ks h :=
  rtrim_call hr (by omega) fun y hy => H y (by rw [trim_dg] at hy; exact hy)
theorem trimN_callX (ha : NI h a m) (om : (dg m.natAbs).length ≤ 35184372087808) (H : ∀ y, RdW h y (dg m.natAbs) → Ks y h) : callP (F.integer_trim a.mag) Ks h :=
  trimd_call ha.1 (Nat.le_trans om (by decide)) H
theorem rtrimN_callX (ha : NI h a m) (om : (dg m.natAbs).length ≤ 35184372087808) (H : ∀ y, RdW h y (dg m.natAbs) → Ks y h) : callP (F.ref01_trim a.mag) Ks h :=
  rtrimd_call ha.1 (Nat.le_trans om (by decide)) H
theorem trimN_call (ha : NI h a m) (om : Ok m) (H : ∀ y, RdW h y (dg m.natAbs) → Ks y h) : callP (F.integer_trim a.mag) Ks h :=
  trimd_call ha.1 (Nat.le_trans om (by decide)) H
theorem rtrimN_call (ha : NI h a m) (om : Ok m) (H : ∀ y, RdW h y (dg m.natAbs) → Ks y h) : callP (F.ref01_trim a.mag) Ks h :=
  rtrimd_call ha.1 (Nat.le_trans om (by decide)) H

theorem signedN_call {neg : Bool} {k : Nat} (hr : RdW h x (dg k)) (hl : (dg k).length ≤ 35184372088800) (H : ∀ y, NI h y (sg neg k) → KI y h) : callP (F.integer_signed neg x) KI h :=
  signed_call hr (ok_dg k) (by omega) fun y hy => H y (by rw [vl_dg] at hy; exact hy)
theorem rsignedN_call {neg : Bool} {k : Nat} (hr : RdW h x (dg k)) (hl : (dg k).length ≤ 35184372088800) (H : ∀ y, NI h y (sg neg k) → KI y h) : callP (F.ref01_signed neg x) KI h :=
  rsigned_call hr (ok_dg k) (by omega) fun y hy => H y (by rw [vl_dg] at hy; exact hy)

theorem sg_of (n : Int) : sg (decide (n < 0)) n.natAbs = n := by
  unfold sg
  by_cases h : n < 0
  · rw [if_pos (by simpa using h)]; omega
  · rw [if_neg (by simpa using h)]; omega
theorem sg_not (n : Int) : sg (!decide (n < 0)) n.natAbs = -n := by
  unfold sg
  by_cases h : n < 0
  · rw [if_neg (by simpa using h)]; omega
  · rw [if_pos (by simpa using h)]; omega

theorem u64neg {n : Int} (h : n < 0) (h2 : -9223372036854775808 ≤ n) : IntKind.u64.wrap (0 - IntKind.u64.wrap n) = ((n.natAbs : Nat) : Int) := by
  simp only [wu64e]; omega
theorem u64pos {n : Int} (h : ¬ n < 0) (h2 : n ≤ 9223372036854775807) : IntKind.u64.wrap n = ((n.natAbs : Nat) : Int) := by
  simp only [wu64e]; omega
theorem dg2 {n : Nat} (h : n < 18446744073709551616) : (dg n).length ≤ 2 := by
  have h2 : W ^ 2 = 18446744073709551616 := by decide
  exact dg_len.2 (by rw [h2]; exact h)
theorem FromInt_call (h1 : -9223372036854775808 ≤ n) (h2 : n ≤ 9223372036854775807) (H : ∀ y h', h.le h' → NI h' y n → KI y h') : callP (F.integer_FromInt n) KI h := by
  refine callP_of _ (fun K' hk => ?_) H
  unfold F.integer_FromInt
  refine joinP_inv (fun s h' => h' = h ∧ s = (((n.natAbs : Nat) : Int), ())) ?_ ?_
  · rintro _ h' ⟨rfl, rfl⟩
    refine fromUint_call rfl (by omega) fun y h1 hl hy => ?_
    have := dg2 (n := n.natAbs) (by omega)
    refine signedN_call hy (by omega) fun z hz => hk _ _ hl ?_
    rw [sg_of] at hz; exact hz
  · refine ifP_dec (fun h3 => ⟨rfl, ?_⟩) (fun h3 => ⟨rfl, ?_⟩)
    · rw [u64neg h3 h1]
    · rw [u64pos h3 h2]
theorem rFromInt_call (h1 : -9223372036854775808 ≤ n) (h2 : n ≤ 9223372036854775807) (H : ∀ y h', h.le h' → NI h' y n → KI y h') : callP (F.ref01_FromInt n) KI h := by
  refine callP_of _ (fun K' hk => ?_) H
  unfold F.ref01_FromInt
  have h5 := dg2 (n := n.natAbs) (by omega)
  refine ifP_dec (fun h3 => ?_) (fun h3 => ?_)
  · rw [u64neg h3 h1]
    refine words_call rfl (by omega) fun y h1 hl hy => ?_
    refine rsignedN_call hy (by omega) fun z hz => hk _ _ hl ?_
    have : sg true n.natAbs = n := by unfold sg; simp; omega
    rw [this] at hz; exact hz
  · rw [u64pos h3 h2]
    refine words_call rfl (by omega) fun y h1 hl hy => ?_
    refine rsignedN_call hy (by omega) fun z hz => hk _ _ hl ?_
    have : sg false n.natAbs = n := by unfold sg; simp; omega
    rw [this] at hz; exact hz

theorem Sign_callX (ha : NI h a m) (om : (dg m.natAbs).length ≤ 35184372087808) (H : Ki m.sign h) : callP (F.integer_Sign a) Ki h := by
  refine callP_same _ (fun K' hk => ?_) H
  unfold F.integer_Sign
  refine trimN_callX ha om fun y hy => ?_
  have hl := hy.len
  refine ifP_eq (fun h1 => ?_) (fun h1 => ?_)
  · have : m = 0 := len_zero.1 (by omega)
    subst this; exact hk
  · have : m ≠ 0 := fun h0 => h1 (by subst h0; rw [hl]; simp [dg_zero])
    rw [ha.2]
    refine ifP_dec (fun h2 => ?_) (fun h2 => ?_)
    · rw [Int.sign_eq_neg_one_of_neg h2] at hk; exact hk
    · rw [Int.sign_eq_one_of_pos (by omega)] at hk; exact hk
theorem rNorm_callX (ha : NI h a m) (om : (dg m.natAbs).length ≤ 35184372087808) (H : ∀ y, NI h y m → KI y h) : callP (F.ref01_Norm a) KI h := by
  refine callP_rel _ (fun K' hk => ?_) H
  unfold F.ref01_Norm
  refine rsignedN_call ha.1 (Nat.le_trans om (by decide)) fun y hy => hk y ?_
  rw [ha.2, sg_of] at hy; exact hy
theorem rSign_callX (ha : NI h a m) (om : (dg m.natAbs).length ≤ 35184372087808) (H : Ki m.sign h) : callP (F.ref01_Sign a) Ki h := by
  refine callP_same _ (fun K' hk => ?_) H
  unfold F.ref01_Sign
  refine rNorm_callX ha om fun y hy => ?_
  have hl := hy.len
  refine ifP_eq (fun h1 => ?_) (fun h1 => ?_)
  · have : m = 0 := len_zero.1 (by omega)
    subst this; exact hk
  · have : m ≠ 0 := fun h0 => h1 (by subst h0; rw [hl]; simp [dg_zero])
    rw [hy.2]
    refine ifP_dec (fun h2 => ?_) (fun h2 => ?_)
    · rw [Int.sign_eq_neg_one_of_neg h2] at hk; exact hk
    · rw [Int.sign_eq_one_of_pos (by omega)] at hk; exact hk
theorem Sign_call (ha : NI h a m) (om : Ok m) (H : Ki m.sign h) : callP (F.integer_Sign a) Ki h := Sign_callX ha (Nat.le_trans om (by decide)) H
theorem rNorm_call (ha : NI h a m) (om : Ok m) (H : ∀ y, NI h y m → KI y h) : callP (F.ref01_Norm a) KI h := rNorm_callX ha (Nat.le_trans om (by decide)) H
theorem rSign_call (ha : NI h a m) (om : Ok m) (H : Ki m.sign h) : callP (F.ref01_Sign a) Ki h := rSign_callX ha (Nat.le_trans om (by decide)) H

theorem Neg_call (ha : NI h a m) (om : Ok m) (H : ∀ y h', h.le h' → NI h' y (-m) → KI y h') : callP (F.integer_Neg a) KI h := by
  refine callP_of _ (fun K' hk => ?_) H
  unfold F.integer_Neg
  refine trimN_call ha om fun y hy => clone_call hy (Nat.le_trans om (by decide)) fun z h1 hl hz => signedN_call hz (Nat.le_trans om (by decide)) fun w hw => hk _ _ hl ?_
  rw [ha.2, sg_not] at hw; exact hw
theorem Norm_call (ha : NI h a m) (om : Ok m) (H : ∀ y h', h.le h' → NI h' y m → KI y h') : callP (F.integer_Norm a) KI h := by
  refine callP_of _ (fun K' hk => ?_) H
  unfold F.integer_Norm
  refine trimN_call ha om fun y hy => clone_call hy (Nat.le_trans om (by decide)) fun z h1 hl hz => signedN_call hz (Nat.le_trans om (by decide)) fun w hw => hk _ _ hl ?_
  rw [ha.2, sg_of] at hw; exact hw
theorem rNeg_call (ha : NI h a m) (om : Ok m) (H : ∀ y, NI h y (-m) → KI y h) : callP (F.ref01_Neg a) KI h := by
  refine callP_rel _ (fun K' hk => ?_) H
  unfold F.ref01_Neg
  refine rsignedN_call ha.1 (Nat.le_trans om (by decide)) fun y hy => hk y ?_
  rw [ha.2, sg_not] at hy; exact hy

theorem sg_mul (m n : Int) : sg (!(decide (m < 0) == decide (n < 0))) (m.natAbs * n.natAbs) = m * n := by
  unfold sg
  rw [← Int.natAbs_mul]
  by_cases h1 : m < 0 <;> by_cases h2 : n < 0 <;> simp [h1, h2]
  · have := Int.mul_pos_of_neg_of_neg h1 h2
    omega
  · have := Int.mul_nonpos_of_nonpos_of_nonneg (a := m) (b := n) (by omega) (by omega)
    omega
  · have := Int.mul_nonpos_of_nonneg_of_nonpos (a := m) (b := n) (by omega) (by omega)
    omega
  · have := Int.mul_nonneg (a := m) (b := n) (by omega) (by omega)
    omega
theorem mul_dgk {m n k : Nat} (om : (dg m).length ≤ k) (on : (dg n).length ≤ k) : (dg (m * n)).length ≤ k + k := by
  refine dg_len.2 ?_
  rw [Nat.pow_add]
  exact Nat.mul_lt_mul'' (dg_len.1 om) (dg_len.1 on)
theorem mul_dg {m n : Int} (om : Ok m) (on : Ok n) : (dg (m.natAbs * n.natAbs)).length ≤ 35184372088800 :=
  Nat.le_trans (mul_dgk om on) (by decide)
theorem Mul_call (ha : NI h a m) (hb : NI h b n) (om : Ok m) (on : Ok n) (H : ∀ y h', h.le h' → NI h' y (m * n) → KI y h') : callP (F.integer_Mul a b) KI h := by
  refine callP_of _ (fun K' hk => ?_) H
  unfold F.integer_Mul
  have om' : (dg m.natAbs).length ≤ 268435456 := om
  have on' : (dg n.natAbs).length ≤ 268435456 := on
  refine trimN_call ha om fun y hy => trimN_call hb on fun z hz => times_call hy hz (ok_dg _) (ok_dg _) (by omega) fun w h1 hl hw => ?_
  rw [vl_dg, vl_dg] at hw
  refine signedN_call hw (mul_dg om on) fun w2 hw2 => hk _ _ hl ?_
  rw [ha.2, hb.2, sg_mul] at hw2; exact hw2
theorem rMul_call (ha : NI h a m) (hb : NI h b n) (om : Ok m) (on : Ok n) (H : ∀ y h', h.le h' → NI h' y (m * n) → KI y h') : callP (F.ref01_Mul a b) KI h := by
  refine callP_of _ (fun K' hk => ?_) H
  unfold F.ref01_Mul
  have om' : (dg m.natAbs).length ≤ 268435456 := om
  have on' : (dg n.natAbs).length ≤ 268435456 := on
  refine rNorm_call ha om fun y hy => rNorm_call hb on fun z hz => rtimes_call hy.1 hz.1 (ok_dg _) (ok_dg _) (by omega) fun w h1 hl hw => ?_
  rw [vl_dg, vl_dg] at hw
  refine rsignedN_call hw (mul_dg om on) fun w2 hw2 => hk _ _ hl ?_
  rw [hy.2, hz.2, sg_mul] at hw2; exact hw2

theorem dg_mono {m n : Nat} (h : m ≤ n) : (dg m).length ≤ (dg n).length := dg_len.2 (Nat.lt_of_le_of_lt h (dg_len.1 (Nat.le_refl _)))
theorem add_dgk {m n k : Nat} (om : (dg m).length ≤ k) (on : (dg n).length ≤ k) : (dg (m + n)).length ≤ k + 1 := by
  refine dg_len.2 ?_
  have h1 := dg_len.1 om
  have h2 := dg_len.1 on
  rw [Nat.pow_succ]
  have : W ^ k * 2 ≤ W ^ k * W := Nat.mul_le_mul_left _ (by decide)
  omega
theorem add_dg {m n : Nat} (om : (dg m).length ≤ 268435456) (on : (dg n).length ≤ 268435456) : (dg (m + n)).length ≤ 35184372088800 :=
  Nat.le_trans (add_dgk om on) (by decide)
theorem sg_same {m n : Int} (h : decide (m < 0) = decide (n < 0)) : sg (decide (m < 0)) (m.natAbs + n.natAbs) = m + n := by
  unfold sg
  by_cases h1 : m < 0 <;> by_cases h2 : n < 0 <;> simp [h1, h2] at h ⊢ <;> omega
theorem sg_diff {m n : Int} (h : decide (m < 0) ≠ decide (n < 0)) (hle : n.natAbs ≤ m.natAbs) : sg (decide (m < 0)) (m.natAbs - n.natAbs) = m + n := by
  unfold sg
  by_cases h1 : m < 0 <;> by_cases h2 : n < 0 <;> simp [h1, h2] at h ⊢ <;> omega
theorem sub_dg {m n : Nat} (om : (dg m).length ≤ 268435456) : (dg (m - n)).length ≤ 35184372088800 := by
  have := dg_mono (Nat.sub_le m n); omega
theorem Add_call (ha : NI h a m) (hb : NI h b n) (om : Ok m) (on : Ok n) (H : ∀ y h', h.le h' → NI h' y (m + n) → KI y h') : callP (F.integer_Add a b) KI h := by
  refine callP_of _ (fun K' hk => ?_) H
  unfold F.integer_Add
  have om' : (dg m.natAbs).length ≤ 268435456 := om
  have on' : (dg n.natAbs).length ≤ 268435456 := on
  refine trimN_call ha om fun y hy => trimN_call hb on fun z hz => ?_
  rw [ha.2, hb.2]
  refine ifP_intro (fun h1 => ?_) (fun h1 => ?_)
  · have h1' : decide (m < 0) = decide (n < 0) := by simpa using h1
    refine plus_call hy hz (ok_dg _) (ok_dg _) (by omega) (by omega) fun w h1 r hl hw ok hv hlen => ?_
    rw [vl_dg, vl_dg] at hv
    refine signed_call hw ok (by omega) fun w2 hw2 => hk _ _ hl ?_
    rw [hv, sg_same h1'] at hw2; exact hw2
  · have h1' : decide (m < 0) ≠ decide (n < 0) := by simpa using h1
    refine compare_call hy hz (by omega) (by omega) ?_
    unfold cmpN
    by_cases h2 : m.natAbs < n.natAbs
    · rw [if_pos h2]
      refine ifP_true rfl ?_
      refine minus_call hz hy (ok_dg _) (ok_dg _) (by omega) (dg_mono (by omega)) (by rw [vl_dg, vl_dg]; omega) fun w h1 hl hw => ?_
      rw [vl_dg, vl_dg] at hw
      refine signedN_call hw (sub_dg on') fun w2 hw2 => hk _ _ hl ?_
      rw [sg_diff (fun e => h1' e.symm) (by omega), Int.add_comm] at hw2; exact hw2
    · rw [if_neg h2]
      refine ifP_false (by split <;> rfl) ?_
      refine minus_call hy hz (ok_dg _) (ok_dg _) (by omega) (dg_mono (by omega)) (by rw [vl_dg, vl_dg]; omega) fun w h1 hl hw => ?_
      rw [vl_dg, vl_dg] at hw
      refine signedN_call hw (sub_dg om') fun w2 hw2 => hk _ _ hl ?_
      rw [sg_diff h1' (by omega)] at hw2; exact hw2
theorem rAdd_call (ha : NI h a m) (hb : NI h b n) (om : Ok m) (on : Ok n) (H : ∀ y h', h.le h' → NI h' y (m + n) → KI y h') : callP (F.ref01_Add a b) KI h := by
  refine callP_of _ (fun K' hk => ?_) H
  unfold F.ref01_Add
  have om' : (dg m.natAbs).length ≤ 268435456 := om
  have on' : (dg n.natAbs).length ≤ 268435456 := on
  refine rNorm_call ha om fun y hy => rNorm_call hb on fun z hz => ?_
  rw [hy.2, hz.2]
  refine ifP_intro (fun h1 => ?_) (fun h1 => ?_)
  · have h1' : decide (m < 0) = decide (n < 0) := by simpa using h1
    refine rplus_call hy.1 hz.1 (ok_dg _) (ok_dg _) (by omega) (by omega) fun w h1 hl hw => ?_
    rw [vl_dg, vl_dg] at hw
    refine rsignedN_call hw (add_dg om' on') fun w2 hw2 => hk _ _ hl ?_
    rw [sg_same h1'] at hw2; exact hw2
  · have h1' : decide (m < 0) ≠ decide (n < 0) := by simpa using h1
    refine rcompare_call hy.1 hz.1 (by omega) (by omega) ?_
    unfold cmpN
    by_cases h2 : m.natAbs < n.natAbs
    · rw [if_pos h2]
      refine ifP_false rfl ?_
      refine rminus_call hz.1 hy.1 (ok_dg _) (ok_dg _) (by omega) (dg_mono (by omega)) (by rw [vl_dg, vl_dg]; omega) fun w h1 hl hw => ?_
      rw [vl_dg, vl_dg] at hw
      refine rsignedN_call hw (sub_dg on') fun w2 hw2 => hk _ _ hl ?_
      rw [sg_diff (fun e => h1' e.symm) (by omega), Int.add_comm] at hw2; exact hw2
    · rw [if_neg h2]
      refine ifP_true (by split <;> rfl) ?_
      refine rminus_call hy.1 hz.1 (ok_dg _) (ok_dg _) (by omega) (dg_mono (by omega)) (by rw [vl_dg, vl_dg]; omega) fun w h1 hl hw => ?_
      rw [vl_dg, vl_dg] at hw
      refine rsignedN_call hw (sub_dg om') fun w2 hw2 => hk _ _ hl ?_
      rw [sg_diff h1' (by omega)] at hw2; exact hw2
theorem Ok.neg {n : Int} (h : Ok n) : Ok (-n) := by unfold Ok at *; rw [Int.natAbs_neg]; exact h
theorem rSub_call (ha : NI h a m) (hb : NI h b n) (om : Ok m) (on : Ok n) (H : ∀ y h', h.le h' → NI h' y (m - n) → KI y h') : callP (F.ref01_Sub a b) KI h := by
  refine callP_of _ (fun K' hk => ?_) H
  unfold F.ref01_Sub
  refine rNeg_call hb on fun y hy => rAdd_call ha hy om on.neg fun z h1 hl hz => hk _ _ hl ?_
  rw [← Int.sub_eq_add_neg] at hz; exact hz
theorem rCmp_call (ha : NI h a m) (hb : NI h b n) (om : Ok m) (on : Ok n) (os : Ok (m - n)) (H : ∀ h', h.le h' → Ki (m - n).sign h') : callP (F.ref01_Cmp a b) Ki h := by
  refine callP_of (fun v _ => v = (m - n).sign) (fun K' hk => ?_) fun v h' hl hv => by subst hv; exact H h' hl
  unfold F.ref01_Cmp
  exact rSub_call ha hb om on fun z h1 hl hz => rSign_call hz os (hk _ _ hl rfl)
theorem sign_cmp {m n : Int} (h : m.sign = n.sign) : m.sign * cmpN m.natAbs n.natAbs = (m - n).sign := by
  unfold cmpN
  rcases Int.lt_trichotomy m 0 with h1 | h1 | h1
  · have h2 : n < 0 := Int.sign_eq_neg_one_iff_neg.1 (by rw [← h]; exact Int.sign_eq_neg_one_of_neg h1)
    rw [Int.sign_eq_neg_one_of_neg h1]
    split
    · rw [Int.sign_eq_one_of_pos (by omega)]; rfl
    · split
      · rw [Int.sign_eq_neg_one_of_neg (by omega)]; rfl
      · have : m = n := by omega
        subst this; simp
  · subst h1
    have h2 : n = 0 := by rw [Int.sign_zero] at h; exact Int.sign_eq_zero_iff_zero.1 h.symm
    subst h2; rfl
  · have h2 : 0 < n := Int.sign_eq_one_iff_pos.1 (by rw [← h]; exact Int.sign_eq_one_of_pos h1)
    rw [Int.sign_eq_one_of_pos h1]
    split
    · rw [Int.sign_eq_neg_one_of_neg (by omega)]; rfl
    · split
      · rw [Int.sign_eq_one_of_pos (by omega)]; rfl
      · have : m = n := by omega
        subst this; simp
theorem sign_range (n : Int) : n.sign = -1 ∧ n < 0 ∨ n.sign = 0 ∧ n = 0 ∨ n.sign = 1 ∧ 0 < n := by
  rcases Int.lt_trichotomy n 0 with h1 | h1 | h1
  · exact .inl ⟨Int.sign_eq_neg_one_of_neg h1, h1⟩
  · subst h1; exact .inr (.inl ⟨rfl, rfl⟩)
  · exact .inr (.inr ⟨Int.sign_eq_one_of_pos h1, h1⟩)
theorem sign_ne {m n : Int} (h : m.sign ≠ n.sign) : (if m.sign < n.sign then (-1 : Int) else if n.sign < m.sign then 1 else 0) = (m - n).sign := by
  have hm := sign_range m
  have hn := sign_range n
  have hd := sign_range (m - n)
  split
  · omega
  · split <;> omega
theorem Cmp_call (ha : NI h a m) (hb : NI h b n) (om : Ok m) (on : Ok n) (H : Ki (m - n).sign h) : callP (F.integer_Cmp a b) Ki h := by
  refine callP_same _ (fun K' hk => ?_) H
  unfold F.integer_Cmp
  have om' : (dg m.natAbs).length ≤ 268435456 := om
  have on' : (dg n.natAbs).length ≤ 268435456 := on
  refine Sign_call ha om (Sign_call hb on ?_)
  refine ifP_ne (fun h1 => ?_) (fun h1 => ?_)
  · refine cmpInt_call ?_
    rw [sign_ne h1]; exact hk
  · refine trimN_call ha om fun y hy => trimN_call hb on fun z hz => compare_call hy hz (by omega) (by omega) ?_
    rw [sign_cmp h1]
    have := sign_range (m - n)
    rw [w64 (by omega)]; exact hk
end
end Den
end

section
/-
  Division by a word, shifts and lengths (the program's and the reference's).
-/
set_option linter.unusedVariables false
namespace Den
open Go Iv

theorem tdivn (a b : Nat) : ((a : Int)).tdiv (b : Int) = ((a / b : Nat) : Int) := (Int.ofNat_tdiv a b).symm
theorem tmodn (a b : Nat) : ((a : Int)).tmod (b : Int) = ((a % b : Nat) : Int) := (Int.ofNat_tmod a b).symm
theorem u32lt {n : Nat} (h : n < W) : IntKind.u32.wrap (n : Int) = (n : Int) := by rw [u32n, Nat.mod_eq_of_lt h]
theorem u64W {n : Nat} (h : n < W) : IntKind.u64.wrap (n : Int) = (n : Int) := u64n (by unfold W at h; omega)

theorem or32k {x y : Nat} (hx : x < W) (hy : y < W) : ibits .or .u32 (x : Int) (y : Int) = ((x ||| y : Nat) : Int) := by
  unfold ibits
  simp only [IntKind.bits]
  have h1 : (BitVec.ofInt 32 (x : Int) ||| BitVec.ofInt 32 (y : Int)).toNat = x ||| y := by
    unfold W at *
    rw [BitVec.ofInt_natCast, BitVec.ofInt_natCast, BitVec.toNat_or, BitVec.toNat_ofNat, BitVec.toNat_ofNat, Nat.mod_eq_of_lt (by omega), Nat.mod_eq_of_lt (by omega)]
  have h2 : x ||| y < W := Nat.or_lt_two_pow (n := 32) hx hy
  exact (congrArg (fun z : Nat => IntKind.u32.wrap (z : Int)) h1).trans (u32lt h2)
theorem or64k {x y : Nat} (hx : x < 18446744073709551616) (hy : y < 18446744073709551616) : ibits .or .u64 (x : Int) (y : Int) = ((x ||| y : Nat) : Int) := by
  unfold ibits
  simp only [IntKind.bits]
  have h1 : (BitVec.ofInt 64 (x : Int) ||| BitVec.ofInt 64 (y : Int)).toNat = x ||| y := by
    rw [BitVec.ofInt_natCast, BitVec.ofInt_natCast, BitVec.toNat_or, BitVec.toNat_ofNat, BitVec.toNat_ofNat, Nat.mod_eq_of_lt (by omega), Nat.mod_eq_of_lt (by omega)]
  have h2 : x ||| y < 18446744073709551616 := Nat.or_lt_two_pow (n := 64) hx hy
  exact (congrArg (fun z : Nat => IntKind.u64.wrap (z : Int)) h1).trans (u64n h2)

/-- The length of a number in bits. -/
def bl (n : Nat) : Nat := if n = 0 then 0 else n.log2 + 1
theorem bl_lt (n : Nat) : n < 2 ^ bl n := by
  unfold bl
  split
  · rename_i h; subst h; decide
  · exact Nat.lt_log2_self
theorem bl_le {n : Nat} (h : n ≠ 0) : 2 ^ (bl n - 1) ≤ n := by
  unfold bl
  rw [if_neg h]
  exact Nat.log2_self_le h
theorem bl_pos {n : Nat} (h : n ≠ 0) : 0 < bl n := by unfold bl; rw [if_neg h]; omega
theorem bl_uniq {n b : Nat} (h1 : 2 ^ b ≤ n) (h2 : n < 2 ^ (b + 1)) : bl n = b + 1 := by
  have h0 : n ≠ 0 := by have := Nat.two_pow_pos b; omega
  unfold bl
  rw [if_neg h0]
  have h3 := (Nat.le_log2 h0 (k := b)).2 h1
  have h4 := (Nat.log2_lt h0 (k := b + 1)).2 h2
  omega
theorem bl_zero : bl 0 = 0 := rfl
theorem bl_le_of {n k : Nat} (h : n < 2 ^ k) : bl n ≤ k := by
  unfold bl
  split
  · omega
  · rename_i h0
    have := (Nat.log2_lt h0 (k := k)).2 h
    omega
/-- The length without the last k bits. -/
theorem bl_shift {n k : Nat} (h : 2 ^ k ≤ n) : bl n = bl (n / 2 ^ k) + k := by
  have h0 : n / 2 ^ k ≠ 0 := by
    have := Nat.div_pos h (Nat.two_pow_pos k); omega
  have h1 := bl_le h0
  have h2 := bl_lt (n / 2 ^ k)
  have h3 := bl_pos h0
  obtain ⟨b, hb⟩ : ∃ b, bl (n / 2 ^ k) = b + 1 := ⟨bl (n / 2 ^ k) - 1, by omega⟩
  rw [hb] at h1 h2 ⊢
  simp only [Nat.add_sub_cancel] at h1
  rw [Nat.le_div_iff_mul_le (Nat.two_pow_pos k), ← Nat.pow_add] at h1
  rw [Nat.div_lt_iff_lt_mul (Nat.two_pow_pos k), ← Nat.pow_add] at h2
  rw [bl_uniq (b := b + k) h1 (by rw [show b + k + 1 = b + 1 + k by omega]; exact h2)]
  omega
theorem bl_half {n : Nat} (h : n ≠ 0) : bl n = bl (n / 2) + 1 := by
  by_cases h1 : n = 1
  · subst h1; decide
  · have := bl_shift (n := n) (k := 1) (by simp; omega)
    simpa using this

section
variable {h : Hp} {x y : Sl} {l m : List Nat} {b : Nat} {Ks : Sl → Hp → Prop} {Ki : Int → Hp → Prop} {Kb : Bool → Hp → Prop} {KI : TInt → Hp → Prop} {Kp : (Sl × Sl) → Hp → Prop} {Kq : (Sl × Int) → Hp → Prop}

/-- One step of the division by a word. -/
theorem word_step {r l : List Nat} {b rem j : Nat} (hj : j < l.length) (hrl : r.length = l.length) (hv : vl (l.drop (j + 1)) = b * vl (r.drop (j + 1)) + rem) :
    vl (l.drop j) = b * vl ((r.set j ((rem * W + l[j]) / b)).drop j) + (rem * W + l[j]) % b := by
  rw [List.drop_eq_getElem_cons (l := l) hj, List.drop_eq_getElem_cons (l := r.set j ((rem * W + l[j]) / b)) (by simpa [hrl] using hj), List.getElem_set_self]
  simp only [vl]
  rw [List.drop_set_of_lt (by omega), hv]
  have e := Nat.div_add_mod (rem * W + l[j]) b
  rw [Nat.mul_add, Nat.mul_add, Nat.mul_comm rem W] at *
  have : W * (b * vl (r.drop (j + 1))) = b * (W * vl (r.drop (j + 1))) := by rw [← Nat.mul_assoc, Nat.mul_comm W b, Nat.mul_assoc]
  omega
theorem word_lt {b rem w : Nat} (hr : rem < b) (hw : w < W) : (rem * W + w) / b < W := by
  rw [Nat.div_lt_iff_lt_mul (by omega)]
  have : (rem + 1) * W ≤ b * W := Nat.mul_le_mul_right _ hr
  rw [Nat.add_mul] at this
  rw [Nat.mul_comm W b]; omega
theorem word_cell {b rem w : Nat} (hr : rem < b) (hb : b < W) (hw : w < W) :
    IntKind.u32.wrap (IntKind.u64.wrap ((ibits .or .u64 (IntKind.u64.wrap ((rem : Int) * 2 ^ (min (32 : Int).toNat IntKind.u64.bits))) (IntKind.u64.wrap (w : Int))).tdiv (IntKind.u64.wrap (b : Int)))) = (((rem * W + w) / b : Nat) : Int) := by
  have h1 := word_lt hr hw
  rw [or32 (by omega) hw, u64W hb, tdivn, u64W h1, u32lt h1]

theorem by_loop {x : Sl} {l : List Nat} {b : Nat} {m1 : Sl} {h h1 : Hp} {Kf : Int → Hp → Prop} (hx : RdW h x l) (ol : okW l) (hb : 0 < b) (hbW : b < W) (hl : l.length ≤ 35184372088800)
    (ho : OwnW h h1 m1 (List.replicate l.length 0)) (H : ∀ h' r, OwnW h h' m1 r → okW r → r.length = l.length → vl r = vl l / b → Kf ((vl l % b : Nat) : Int) h') :
    (loopP (S := Int × Int × Unit) (fun s2 k3 h2 =>
      (ifP (decide (s2.2.1 ≥ 0))
      (0 ≤ (32 : Int) ∧
      (idxP x s2.2.1 1 fun a4 =>
      (ldL (.int .u32) a4 (fun x5 =>
      (((IntKind.u64.wrap ((b : Nat) : Int)) : Int) ≠ 0 ∧
      (idxP m1 s2.2.1 1 fun a6 =>
      (stP a6 [.int .u32 (IntKind.u32.wrap ((IntKind.u64.wrap (((ibits .or .u64 (IntKind.u64.wrap (s2.1 * 2 ^ (min (32 : Int).toNat IntKind.u64.bits))) (IntKind.u64.wrap (x5))) : Int).tdiv (IntKind.u64.wrap ((b : Nat) : Int))))))] (fun h3 =>
      (((IntKind.u64.wrap ((b : Nat) : Int)) : Int) ≠ 0 ∧
      (k3 (((ibits .or .u64 (IntKind.u64.wrap (s2.1 * 2 ^ (min (32 : Int).toNat IntKind.u64.bits))) (IntKind.u64.wrap (x5))) : Int).tmod (IntKind.u64.wrap ((b : Nat) : Int)), (IntKind.i64.wrap (s2.2.1 - 1)), ()) h3))) h2)))) h2)))
      (Kf s2.1 h2)))
      (0, (IntKind.i64.wrap ((x.len : Int) - 1)), ()) h1) := by
  have lx := hx.len
  refine loopP_of (fun st h' => ∃ (k rem : Nat) (r : List Nat), st = ((rem : Int), (k : Int) - 1, ()) ∧ k ≤ l.length ∧ rem < b ∧ OwnW h h' m1 r ∧ okW r ∧ r.length = l.length ∧ vl (l.drop k) = b * vl (r.drop k) + rem)
    (fun st => (st.2.1 + 1).toNat) ⟨l.length, 0, _, by rw [lx, w64 (by omega)]; rfl, Nat.le_refl _, hb, ho, ok_rep _, by simp, by rw [List.drop_eq_nil_of_le (Nat.le_refl _), List.drop_eq_nil_of_le (by simp)]; rfl⟩ ?_
  rintro st h2 ⟨k, rem, r, rfl, hk, hrem, ho2, okr, hrl, hv⟩
  refine ifP_dec (fun h3 => ?_) (fun h3 => ?_)
  · obtain ⟨j, rfl⟩ : ∃ j, k = j + 1 := ⟨k - 1, by have : (k : Int) - 1 ≥ 0 := h3; omega⟩
    have hj : j < l.length := by omega
    have hw := ok_get ol hj
    have hne : IntKind.u64.wrap (b : Int) ≠ 0 := by rw [u64W hbW]; omega
    have hji : ((j + 1 : Nat) : Int) - 1 = (j : Int) := by omega
    simp only [hji]
    refine ⟨by decide, rd_word j (hx.le ho2.1) rfl hj fun a ha => ⟨_, ha, hne, ?_⟩⟩
    refine st_word j _ ho2 rfl (by omega) (word_cell hrem hbW hw) fun h5 b5 _ _ _ ho5 => ⟨hne, ?_⟩
    rw [or32 (by omega) hw, u64W hbW, tmodn]
    refine ⟨⟨j, _, _, by rw [w64 (by omega)], by omega, Nat.mod_lt _ hb, ho5, ok_set okr (word_lt hrem hw), by simp [hrl], word_step hj hrl hv⟩, by rw [w64 (by omega)]; omega⟩
  · obtain rfl : k = 0 := by have : ¬ (k : Int) - 1 ≥ 0 := h3; omega
    simp only [List.drop_zero] at hv
    have e1 : vl l / b = vl r := by rw [hv, Nat.mul_add_div hb, Nat.div_eq_of_lt hrem]; omega
    have e2 : vl l % b = rem := by rw [hv, Nat.mul_add_mod, Nat.mod_eq_of_lt hrem]
    have := H h2 r ho2 okr hrl e1.symm
    rw [e2] at this
    exact this
theorem divideWord_call (hx : RdW h x l) (ol : okW l) (hb : 0 < b) (hbW : b < W) (hl : l.length ≤ 35184372088800)
    (H : ∀ z w h', h.le h' → RdW h' z (dg (vl l / b)) → RdW h' w (dg (vl l % b)) → Kp (z, w) h') : callP (F.integer_divideWord x b) Kp h := by
  refine callP_of (fun v h' => RdW h' v.1 (dg (vl l / b)) ∧ RdW h' v.2 (dg (vl l % b))) (fun K' hk => ?_) fun ⟨z, w⟩ h' hl hz => H z w h' hl hz.1 hz.2
  unfold F.integer_divideWord
  have lx := hx.len
  refine mk_word l.length l.length (by omega) (by omega) (by omega) (by omega) fun m1 h1 hw hw2 => ?_
  refine by_loop (Kf := fun (s : Int) h2 => callP (F.integer_trim m1) (fun r7 h4 => callP (F.integer_fromUint s) (fun r8 h5 => K' (r7, r8) h5) h4) h2) hx ol hb hbW hl hw2 fun h3 r ho okr hrl hv => ?_
  refine trim_call ho.rdW (by omega) fun z hz => ?_
  rw [trim_eq okr, hv] at hz
  have := Nat.mod_lt (vl l) hb
  refine fromUint_call rfl (by unfold W at hbW; omega) fun w h4 hl4 hw4 => hk _ _ (Hp.le_trans ho.1 hl4) ⟨hz.le hl4, hw4⟩
theorem by_call (hx : RdW h x l) (ol : okW l) (hb : 0 < b) (hbW : b < W) (hl : l.length ≤ 35184372088800)
    (H : ∀ z h', h.le h' → RdW h' z (dg (vl l / b)) → Kq (z, ((vl l % b : Nat) : Int)) h') : callP (F.ref01_by x b) Kq h := by
  refine callP_of (fun v h' => RdW h' v.1 (dg (vl l / b)) ∧ v.2 = ((vl l % b : Nat) : Int)) (fun K' hk => ?_) fun ⟨z, w⟩ h' hl hz => by
    obtain ⟨h1, h2⟩ := hz
    simp only at h1 h2
    subst h2
    exact H z h' hl h1
  unfold F.ref01_by
  have lx := hx.len
  refine mk_word l.length l.length (by omega) (by omega) (by omega) (by omega) fun m1 h1 hw hw2 => ?_
  refine by_loop (Kf := fun (s : Int) h2 => callP (F.ref01_trim m1) (fun r7 h4 => K' (r7, IntKind.u32.wrap s) h4) h2) hx ol hb hbW hl hw2 fun h3 r ho okr hrl hv => ?_
  refine rtrim_call ho.rdW (by omega) fun z hz => ?_
  rw [trim_eq okr, hv] at hz
  have := Nat.mod_lt (vl l) hb
  exact hk _ _ ho.1 ⟨hz, u32lt (by omega)⟩

/-! ### Shifts -/

theorem minpow {s : Nat} (hs : s ≤ 32) : (2 : Int) ^ (min ((s : Int)).toNat IntKind.u64.bits) = ((2 ^ s : Nat) : Int) := by
  have : min ((s : Int)).toNat IntKind.u64.bits = s := by show min s 64 = s; omega
  rw [this]; simp
theorem minpow32 {s : Nat} (hs : s ≤ 32) : (2 : Int) ^ (min ((s : Int)).toNat IntKind.u32.bits) = ((2 ^ s : Nat) : Int) := by
  have : min ((s : Int)).toNat IntKind.u32.bits = s := by show min s 32 = s; omega
  rw [this]; simp
theorem pow_le_W {s : Nat} (hs : s ≤ 32) : 2 ^ s ≤ W := by
  show 2 ^ s ≤ 2 ^ 32
  exact Nat.pow_le_pow_right (by decide) hs
theorem pow_split {s : Nat} (hs : s ≤ 32) : 2 ^ s * 2 ^ (32 - s) = W := by
  rw [← Nat.pow_add, show s + (32 - s) = 32 by omega]; rfl
theorem shl_val {s w : Nat} (hs : s ≤ 32) (hw : w < W) : IntKind.u64.wrap (IntKind.u64.wrap (w : Int) * 2 ^ (min ((s : Int)).toNat IntKind.u64.bits)) = ((w * 2 ^ s : Nat) : Int) := by
  rw [minpow hs, u64W hw, show ((w : Int) * ((2 ^ s : Nat) : Int)) = ((w * 2 ^ s : Nat) : Int) by simp]
  refine u64n ?_
  have h1 := pow_le_W hs
  have : w * 2 ^ s < W * W := Nat.mul_lt_mul_of_lt_of_le hw h1 W_pos
  unfold W at this; omega
/-- The low word of a shifted word ends in zeros. -/
theorem shl_low {s w : Nat} (hs : s ≤ 32) : w * 2 ^ s % W = 2 ^ s * (w % 2 ^ (32 - s)) := by
  rw [← pow_split hs, Nat.mul_comm w, Nat.mul_mod_mul_left]
theorem shl_high {s w : Nat} (hs : s ≤ 32) (hw : w < W) : w * 2 ^ s / W < 2 ^ s := by
  rw [Nat.div_lt_iff_lt_mul W_pos, Nat.mul_comm]
  exact Nat.mul_lt_mul_of_pos_left hw (Nat.two_pow_pos s)
theorem or_low {s c w : Nat} (hs : s ≤ 32) (hc : c < 2 ^ s) : c ||| (w * 2 ^ s % W) = c + w * 2 ^ s % W := by
  rw [shl_low hs, Nat.or_comm, ← Nat.two_pow_add_eq_or_of_lt hc, Nat.add_comm]
theorem or_lt {s c w : Nat} (hs : s ≤ 32) (hc : c < 2 ^ s) : c + w * 2 ^ s % W < W := by
  rw [← or_low hs hc]
  exact Nat.or_lt_two_pow (n := 32) (Nat.lt_of_lt_of_le hc (pow_le_W hs)) (Nat.mod_lt _ W_pos)

theorem shl_of {s : Nat} (hx : RdW h x l) (ol : okW l) (hs : s ≤ 31) (hl : l.length ≤ 35184372088800)
    (H : ∀ z h' r, OwnW h h' z r → okW r → r.length = l.length + 1 → vl r = vl l * 2 ^ s → Ks z h') : F.integer_shiftLeft x (s : Int) Ks h := by
  unfold F.integer_shiftLeft
  have lx := hx.len
  refine mk_word (l.length + 1) (l.length + 1) (by rw [w64 (by omega)]; omega) (by rw [w64 (by omega)]; omega) (by omega) (by omega) fun m1 h1 hw hw2 => ?_
  refine loopP_of (fun st h' => ∃ (i : Nat) (r : List Nat), st = ((i : Int), ()) ∧ i ≤ l.length ∧ OwnW h h' m1 r ∧ okW r ∧ r.length = l.length + 1 ∧ (∃ hi : i < r.length, r[i] < 2 ^ s) ∧ vl (r.take (i + 1)) = vl (l.take i) * 2 ^ s)
    (fun st => ((l.length : Int) - st.1).toNat) ⟨0, _, rfl, Nat.zero_le _, hw2, ok_rep _, by simp, ⟨by simp, by simpa using Nat.two_pow_pos s⟩, by rw [vl_take_succ (by simp)]; simp [vl]⟩ ?_
  rintro st h2 ⟨i, r, rfl, hi, ho, okr, hrl, ⟨hi1, hc⟩, hv⟩
  refine ifP_dec (fun h3 => ?_) (fun h3 => ?_)
  · have hi' : i < l.length := by have : (i : Int) < (x.len : Int) := h3; omega
    have hw := ok_get ol hi'
    refine rd_word i (hx.le ho.1) rfl hi' fun a ha => ⟨_, ha, by omega, ?_⟩
    refine rd_word i ho.rdW rfl hi1 fun a2 ha2 => ⟨_, ha2, ?_⟩
    rw [shl_val (by omega) hw, u32n]
    have e1 := or_low (w := l[i]) (by omega) hc
    have e2 := or_lt (w := l[i]) (by omega) hc
    refine st_word i (r[i] + l[i] * 2 ^ s % W) ho rfl hi1 ?_ fun h5 b5 _ _ _ ho5 => ⟨by decide, ?_⟩
    · rw [or32k (ok_get okr hi1) (Nat.mod_lt _ W_pos), e1]
    · rw [shr32]
      have e3 := shl_high (s := s) (by omega) hw
      have e4 : l[i] * 2 ^ s / W < W := Nat.lt_of_lt_of_le e3 (pow_le_W (by omega))
      refine st_word (i + 1) (l[i] * 2 ^ s / W) ho5 (by rw [w64 (by omega)]; rfl) (by simp; omega) (u32lt e4) fun h6 b6 _ _ _ ho6 => ?_
      have hlen : i + 1 < ((r.set i (r[i] + l[i] * 2 ^ s % W)).set (i + 1) (l[i] * 2 ^ s / W)).length := by simp; omega
      refine ⟨⟨i + 1, _, by rw [w64 (by omega)]; rfl, by omega, ho6, ok_set (ok_set okr e2) e4, by simp [hrl], ⟨hlen, by rw [List.getElem_set_self]; exact e3⟩, ?_⟩, by rw [w64 (by omega)]; omega⟩
      rw [vl_set_take (by simp; omega), vl_set_take hi1, vl_take_succ hi', Nat.add_mul, ← hv, vl_take_succ hi1, Nat.pow_succ, Nat.mul_add]
      have e := Nat.mod_add_div (l[i] * 2 ^ s) W
      have e5 := congrArg (W ^ i * ·) e
      simp only [Nat.mul_add] at e5
      rw [Nat.mul_assoc, Nat.mul_assoc]
      omega
  · have hi' : i = l.length := by have : ¬ (i : Int) < (x.len : Int) := h3; omega
    subst hi'
    rw [List.take_of_length_le (l := l) (Nat.le_refl _), List.take_of_length_le (by omega)] at hv
    exact H _ _ r ho okr hrl hv
theorem shl_call {s : Nat} (hx : RdW h x l) (ol : okW l) (hs : s ≤ 31) (hl : l.length ≤ 35184372088800)
    (H : ∀ z h' r, OwnW h h' z r → okW r → r.length = l.length + 1 → vl r = vl l * 2 ^ s → Ks z h') : callP (F.integer_shiftLeft x (s : Int)) Ks h :=
  callP_of (fun z h' => ∃ r, OwnW h h' z r ∧ okW r ∧ r.length = l.length + 1 ∧ vl r = vl l * 2 ^ s) (fun K' hk => shl_of hx ol hs hl fun z h' r h1 h2 h3 h4 => hk z h' h1.1 ⟨r, h1, h2, h3, h4⟩) fun z h' _ ⟨r, h1, h2, h3, h4⟩ => H z h' r h1 h2 h3 h4
theorem rshl_call {s : Nat} (hx : RdW h x l) (ol : okW l) (hs : s ≤ 31) (hl : l.length ≤ 35184372088800)
    (H : ∀ z h' r, OwnW h h' z r → okW r → r.length = l.length + 1 → vl r = vl l * 2 ^ s → Ks z h') : callP (F.ref01_shifted x (s : Int)) Ks h :=
  shl_call hx ol hs hl H

/-- The word of a number that was shifted to the right. -/
theorem shr_word {s u v : Nat} (hs : s ≤ 32) (hu : u < W) : (u / 2 ^ s) ||| (v * 2 ^ (32 - s) % W) = u / 2 ^ s + 2 ^ (32 - s) * (v % 2 ^ s) := by
  have h1 : u / 2 ^ s < 2 ^ (32 - s) := by
    rw [Nat.div_lt_iff_lt_mul (Nat.two_pow_pos s), Nat.mul_comm, pow_split hs]; exact hu
  rw [or_low (by omega) h1, shl_low (by omega), show 32 - (32 - s) = s by omega]
theorem shr_lt {s u v : Nat} (hs : s ≤ 32) (hu : u < W) : u / 2 ^ s + 2 ^ (32 - s) * (v % 2 ^ s) < W := by
  rw [← shr_word hs hu]
  exact Nat.or_lt_two_pow (n := 32) (Nat.lt_of_le_of_lt (Nat.div_le_self _ _) hu) (Nat.mod_lt _ W_pos)
/-- One step of a shift to the right. -/
theorem shr_step {r l : List Nat} {s i z0 : Nat} (hs : s ≤ 32) (hi : i < l.length) (hrl : r.length = l.length)
    (hv : 2 ^ s * vl (r.take i) + z0 = vl (l.take i) + W ^ i * (l.getD i 0 % 2 ^ s)) :
    2 ^ s * vl ((r.set i (l[i] / 2 ^ s + 2 ^ (32 - s) * (l.getD (i + 1) 0 % 2 ^ s))).take (i + 1)) + z0 = vl (l.take (i + 1)) + W ^ (i + 1) * (l.getD (i + 1) 0 % 2 ^ s) := by
  rw [vl_set_take (by omega), vl_take_succ hi]
  rw [getD_get hi] at hv
  have e := Nat.div_add_mod l[i] (2 ^ s)
  have p := pow_split hs
  rw [Nat.pow_succ]
  generalize l.getD (i + 1) 0 % 2 ^ s = A at *
  generalize 2 ^ (32 - s) = Q at *
  generalize 2 ^ s = S at *
  generalize W ^ i = P at *
  generalize l[i] % S = B at *
  generalize l[i] / S = C at *
  generalize l[i] = D at *
  generalize vl (r.take i) = R at *
  generalize vl (l.take i) = L at *
  rw [← p, ← e]
  clear hrl hi hs e p
  grind
theorem shr_end {r l : List Nat} {s : Nat} (hrl : r.length = l.length) (hv : 2 ^ s * vl (r.take l.length) + l.getD 0 0 % 2 ^ s = vl (l.take l.length) + W ^ l.length * (l.getD l.length 0 % 2 ^ s)) : vl r = vl l / 2 ^ s := by
  rw [List.take_of_length_le (l := r) (by omega), List.take_of_length_le (Nat.le_refl _), getD_none (Nat.le_refl _), Nat.zero_mod, Nat.mul_zero, Nat.add_zero] at hv
  rw [← hv, Nat.mul_add_div (Nat.two_pow_pos s), Nat.div_eq_of_lt (Nat.mod_lt _ (Nat.two_pow_pos s)), Nat.add_zero]

theorem shr_val {s w : Nat} (hs : s ≤ 32) : ((w : Int)).fdiv (2 ^ (min ((s : Int)).toNat IntKind.u32.bits)) = ((w / 2 ^ s : Nat) : Int) := by
  rw [minpow32 hs]
  exact (Int.ofNat_fdiv w (2 ^ s)).symm
theorem shr_val64 {s w : Nat} (hs : s ≤ 32) : ((w : Int)).fdiv (2 ^ (min ((s : Int)).toNat IntKind.u64.bits)) = ((w / 2 ^ s : Nat) : Int) := by
  rw [minpow hs]
  exact (Int.ofNat_fdiv w (2 ^ s)).symm

theorem shr_call {s : Nat} (hx : RdW h x l) (ol : okW l) (hs : s ≤ 31) (hl : l.length ≤ 35184372088800)
    (H : ∀ z h' r, h.le h' → RdW h' z r → okW r → r.length = l.length → vl r = vl l / 2 ^ s → Ks z h') : callP (F.integer_shiftRight x (s : Int)) Ks h := by
  refine callP_of (fun z h' => ∃ r, RdW h' z r ∧ okW r ∧ r.length = l.length ∧ vl r = vl l / 2 ^ s) (fun K' hk => ?_) fun z h' hl ⟨r, h1, h2, h3, h4⟩ => H z h' r hl h1 h2 h3 h4
  unfold F.integer_shiftRight
  have lx := hx.len
  refine mk_word l.length l.length (by omega) (by omega) (by omega) (by omega) fun m1 h1 hw hw2 => ?_
  refine loopP_of (fun st h' => ∃ (i : Nat) (r : List Nat), st = ((i : Int), ()) ∧ i ≤ l.length ∧ OwnW h h' m1 r ∧ okW r ∧ r.length = l.length ∧ 2 ^ s * vl (r.take i) + l.getD 0 0 % 2 ^ s = vl (l.take i) + W ^ i * (l.getD i 0 % 2 ^ s))
    (fun st => ((l.length : Int) - st.1).toNat) ⟨0, _, rfl, Nat.zero_le _, hw2, ok_rep _, by simp, by simp [vl]⟩ ?_
  rintro st h2 ⟨i, r, rfl, hi, ho, okr, hrl, hv⟩
  refine ifP_dec (fun h3 => ?_) (fun h3 => ?_)
  · have hi' : i < l.length := by have : (i : Int) < (x.len : Int) := h3; omega
    have hw := ok_get ol hi'
    have e2 := shr_lt (s := s) (v := l.getD (i + 1) 0) (by omega) hw
    have e3 := shr_step (by omega) hi' hrl hv
    refine joinP_inv (fun _ h' => ∃ r', OwnW h h' m1 r' ∧ r' = r.set i (l[i] / 2 ^ s + 2 ^ (32 - s) * (l.getD (i + 1) 0 % 2 ^ s))) ?_ ?_
    · rintro _ h4 ⟨r', ho4, rfl⟩
      exact ⟨⟨i + 1, _, by rw [w64 (by simp only; omega)]; rfl, by omega, ho4, ok_set okr e2, by simp [hrl], e3⟩, by simp only; rw [w64 (by omega)]; omega⟩
    · refine rd_word i (hx.le ho.1) rfl hi' fun a ha => ⟨_, ha, by omega, ?_⟩
      refine st_word i (l[i] / 2 ^ s) ho rfl (by omega) (shr_val (by omega)) fun h5 b5 _ _ _ ho5 => ?_
      have wi : IntKind.i64.wrap ((i : Int) + 1) = ((i + 1 : Nat) : Int) := by rw [w64 (by omega)]; rfl
      have ws : IntKind.i64.wrap (32 - (s : Int)) = ((32 - s : Nat) : Int) := by rw [w64 (by omega)]; omega
      simp only [wi, ws]
      refine ifP_dec (fun h6 => ?_) (fun h6 => ?_)
      · have hi2 : i + 1 < l.length := by omega
        have hw2 := ok_get ol hi2
        refine rd_word i ho5.rdW rfl (by simp; omega) fun a2 ha2 => ⟨_, ha2, ?_⟩
        refine rd_word (i + 1) (hx.le ho5.1) rfl hi2 fun a3 ha3 => ⟨_, ha3, by omega, ?_⟩
        rw [shl_val (by omega) hw2, u32n, List.getElem_set_self, or32k (Nat.lt_of_le_of_lt (Nat.div_le_self _ _) hw) (Nat.mod_lt _ W_pos), shr_word (by omega) hw]
        refine st_word i _ ho5 rfl (by simp; omega) rfl fun h7 b7 _ _ _ ho7 => ⟨_, ho7, ?_⟩
        rw [List.set_set, getD_get hi2]
      · have hi2 : l.length ≤ i + 1 := by omega
        refine ⟨_, ho5, ?_⟩
        rw [getD_none hi2]
        simp
  · have hi' : i = l.length := by have : ¬ (i : Int) < (x.len : Int) := h3; omega
    subst hi'
    exact hk _ _ ho.1 ⟨r, ho.rdW, okr, hrl, shr_end hrl hv⟩

theorem back_val {s u v : Nat} (hs : s ≤ 31) (hu : u < W) (hv : v < W) : IntKind.u32.wrap ((((v * W + u : Nat) : Int)).fdiv (2 ^ (min ((s : Int)).toNat IntKind.u64.bits))) = ((u / 2 ^ s + 2 ^ (32 - s) * (v % 2 ^ s) : Nat) : Int) := by
  rw [shr_val64 (by omega), u32n]
  have e : (v * W + u) / 2 ^ s = u / 2 ^ s + v * 2 ^ (32 - s) := by
    rw [← pow_split (s := s) (by omega)]
    rw [show v * (2 ^ s * 2 ^ (32 - s)) = 2 ^ s * (v * 2 ^ (32 - s)) by rw [← Nat.mul_assoc, Nat.mul_comm v, Nat.mul_assoc]]
    rw [Nat.mul_add_div (Nat.two_pow_pos s), Nat.add_comm]
  rw [e, Nat.add_mod, shl_low (by omega), show 32 - (32 - s) = s by omega]
  have h1 := shr_lt (s := s) (v := v) (by omega) hu
  rw [Nat.mod_eq_of_lt (a := u / 2 ^ s) (Nat.lt_of_le_of_lt (Nat.div_le_self _ _) hu), Nat.mod_eq_of_lt h1]
theorem back_call {s : Nat} (hx : RdW h x l) (ol : okW l) (hs : s ≤ 31) (hl : l.length ≤ 35184372088800)
    (H : ∀ z h', h.le h' → RdW h' z (dg (vl l / 2 ^ s)) → Ks z h') : callP (F.ref01_back x (s : Int)) Ks h := by
  refine callP_of _ (fun K' hk => ?_) H
  unfold F.ref01_back
  have lx := hx.len
  refine mk_word l.length l.length (by omega) (by omega) (by omega) (by omega) fun m1 h1 hw hw2 => ?_
  refine loopP_of (fun st h' => ∃ (i : Nat) (r : List Nat), st = ((i : Int), ()) ∧ i ≤ l.length ∧ OwnW h h' m1 r ∧ okW r ∧ r.length = l.length ∧ 2 ^ s * vl (r.take i) + l.getD 0 0 % 2 ^ s = vl (l.take i) + W ^ i * (l.getD i 0 % 2 ^ s))
    (fun st => ((l.length : Int) - st.1).toNat) ⟨0, _, rfl, Nat.zero_le _, hw2, ok_rep _, by simp, by simp [vl]⟩ ?_
  rintro st h2 ⟨i, r, rfl, hi, ho, okr, hrl, hv⟩
  refine ifP_dec (fun h3 => ?_) (fun h3 => ?_)
  · have hi' : i < l.length := by have : (i : Int) < (x.len : Int) := h3; omega
    have hw := ok_get ol hi'
    have hw1 := getD_lt ol (i + 1)
    have e2 := shr_lt (s := s) (v := l.getD (i + 1) 0) (by omega) hw
    have e3 := shr_step (by omega) hi' hrl hv
    have wi : IntKind.i64.wrap ((i : Int) + 1) = ((i + 1 : Nat) : Int) := by rw [w64 (by omega)]; rfl
    refine rd_word i (hx.le ho.1) rfl hi' fun a ha => ⟨_, ha, ?_⟩
    refine joinP_inv (fun s h' => h' = h2 ∧ s = (((l.getD (i + 1) 0 * W + l[i] : Nat) : Int), ())) ?_ ?_
    · rintro _ h4 ⟨rfl, rfl⟩
      refine ⟨by omega, ?_⟩
      simp only
      rw [back_val hs hw hw1]
      refine st_word i _ ho rfl (by omega) rfl fun h5 b5 _ _ _ ho5 => ?_
      exact ⟨⟨i + 1, _, by rw [wi], by omega, ho5, ok_set okr e2, by simp [hrl], e3⟩, by rw [wi]; omega⟩
    · simp only [wi]
      refine ifP_dec (fun h6 => ?_) (fun h6 => ?_)
      · have hi2 : i + 1 < l.length := by omega
        refine rd_word (i + 1) (hx.le ho.1) rfl hi2 fun a3 ha3 => ⟨_, ha3, by omega, by trivial, ?_⟩
        rw [getD_get hi2] at hw1 ⊢
        congr 1
        rw [u64W hw, show (IntKind.u64.wrap (l[i + 1] : Int)) = (l[i + 1] : Int) from u64W hw1]
        have e5 : IntKind.u64.wrap ((l[i + 1] : Int) * 2 ^ (min (32 : Int).toNat IntKind.u64.bits)) = ((l[i + 1] * 2 ^ 32 : Nat) : Int) := by
          have := shl_val (s := 32) (by omega) hw1
          rw [u64W hw1] at this
          exact this
        rw [e5, or64k (by unfold W at *; omega) (by unfold W at *; omega), Nat.or_comm, Nat.mul_comm, ← Nat.two_pow_add_eq_or_of_lt hw]
        unfold W
        congr 1
        omega
      · have hi2 : l.length ≤ i + 1 := by omega
        refine ⟨by trivial, ?_⟩
        rw [getD_none hi2, u64W hw]
        simp
  · have hi' : i = l.length := by have : ¬ (i : Int) < (x.len : Int) := h3; omega
    subst hi'
    refine rtrim_call ho.rdW (by omega) fun z hz => ?_
    rw [trim_eq okr, shr_end hrl hv] at hz
    exact hk _ _ ho.1 hz
end
end Den
end
