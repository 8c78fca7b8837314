/- MADE BY fbuild.py: the bodies of the functions, in typed shallow form. No program in sight. -/
import Derived.Test.YtnahjnlkpmbhlaaFl
import Derived.Lib.Bytealg
set_option linter.unusedVariables false
set_option maxRecDepth 10000
namespace Den
open Go
def idxByte (s : ByteArray) (c : Int) : Int := Lib.indexByte s.data.toList c.toNat.toUInt8
namespace F
def lexer_isLetter (c : Int) (K : Bool → Hp → Prop) (h : Hp) : Prop :=
(ifP (decide (c ≥ 97))
(ifP (decide (c ≤ 122))
(K true h)
(ifP (decide (c ≥ 65))
(K (decide (c ≤ 90)) h)
(K false h)))
(ifP (decide (c ≥ 65))
(K (decide (c ≤ 90)) h)
(K false h)))
def lexer_isDigit (c : Int) (K : Bool → Hp → Prop) (h : Hp) : Prop :=
(ifP (decide (c ≥ 48))
(K (decide (c ≤ 57)) h)
(K false h))
def lexer_isWord (c : Int) (K : Bool → Hp → Prop) (h : Hp) : Prop :=
(callP (lexer_isLetter c) (fun r1 h1 =>
(ifP r1
(K true h1)
(callP (lexer_isDigit c) (fun r2 h2 =>
(ifP r2
(K true h2)
(K (c == 95) h2))) h1))) h)
def lexer_span_lexer_isWord (s : ByteArray) (K : Int → Hp → Prop) (h : Hp) : Prop :=
(loopP (S := Int × Unit) (fun s1 k2 h1 =>
(joinP (S := Unit) (fun s3 h2 =>
(k2 ((IntKind.i64.wrap (s1.1 + 1)), ()) h2))
(fun k4 =>
(ifP (decide (s1.1 < ((s : ByteArray).size : Int)))
(strIdx s s1.1 fun c5 =>
(callP (lexer_isWord c5) (fun r6 h3 =>
(ifP r6
(k4 () h3)
(K s1.1 h3))) h1))
(K s1.1 h1)))))
(0, ()) h)
def lexer_span_lexer_isDigit (s : ByteArray) (K : Int → Hp → Prop) (h : Hp) : Prop :=
(loopP (S := Int × Unit) (fun s1 k2 h1 =>
(joinP (S := Unit) (fun s3 h2 =>
(k2 ((IntKind.i64.wrap (s1.1 + 1)), ()) h2))
(fun k4 =>
(ifP (decide (s1.1 < ((s : ByteArray).size : Int)))
(strIdx s s1.1 fun c5 =>
(callP (lexer_isDigit c5) (fun r6 h3 =>
(ifP r6
(k4 () h3)
(K s1.1 h3))) h1))
(K s1.1 h1)))))
(0, ()) h)
def lexer_number (s : ByteArray) (K : Int → Hp → Prop) (h : Hp) : Prop :=
(callP (lexer_span_lexer_isDigit s) (fun r1 h1 =>
(ifP (decide (r1 < ((s : ByteArray).size : Int)))
(strIdx s r1 fun c2 =>
(ifP (c2 == 46)
(strCut s (IntKind.i64.wrap (r1 + 1)) ((s : ByteArray).size : Int) fun c3 =>
(callP (lexer_span_lexer_isDigit c3) (fun r4 h2 =>
(ifP (decide (r4 > 0))
(K (IntKind.i64.wrap ((IntKind.i64.wrap (r1 + 1)) + r4)) h2)
(K r1 h2))) h1))
(K r1 h1)))
(K r1 h1))) h)
def internal_stringslite_IndexByte (s : ByteArray) (c : Int) (K : Int → Hp → Prop) (h : Hp) : Prop := K (idxByte s c) h
def strings_IndexByte (s : ByteArray) (c : Int) (K : Int → Hp → Prop) (h : Hp) : Prop :=
(callP (internal_stringslite_IndexByte s c) (fun r1 h1 =>
(K r1 h1)) h)
def lexer_quoted (s : ByteArray) (K : Int → Hp → Prop) (h : Hp) : Prop :=
(loopP (S := Int × Unit) (fun s1 k2 h1 =>
(ifP (decide (s1.1 < ((s : ByteArray).size : Int)))
(joinP (S := Int × Unit) (fun s3 h2 =>
(k2 ((IntKind.i64.wrap (s3.1 + 1)), ()) h2))
(fun k4 =>
(strIdx s s1.1 fun c5 =>
(ifP (c5 == 34)
(K (IntKind.i64.wrap (s1.1 + 1)) h1)
(strIdx s s1.1 fun c6 =>
(ifP (decide (c6 < 32))
(K 0 h1)
(strIdx s s1.1 fun c7 =>
(ifP (c7 == 92)
(ifP ((IntKind.i64.wrap (s1.1 + 1)) == ((s : ByteArray).size : Int))
(K 0 h1)
(strIdx s (IntKind.i64.wrap (s1.1 + 1)) fun c8 =>
(callP (strings_IndexByte ⟨#[34, 92, 110]⟩ c8) (fun r9 h3 =>
(ifP (decide (r9 < 0))
(K 0 h3)
(k4 ((IntKind.i64.wrap (s1.1 + 1)), ()) h3))) h1)))
(k4 (s1.1, ()) h1)))))))))
(K 0 h1)))
(1, ()) h)
def lexer_next (s : ByteArray) (K : (Int × Int) → Hp → Prop) (h : Hp) : Prop :=
(strIdx s 0 fun c1 =>
(callP (lexer_isLetter c1) (fun r2 h1 =>
(ifP r2
(callP (lexer_span_lexer_isWord s) (fun r3 h2 =>
(K (1, r3) h2)) h1)
(callP (lexer_isDigit c1) (fun r4 h3 =>
(ifP r4
(callP (lexer_number s) (fun r5 h4 =>
(K (2, r5) h4)) h3)
(ifP (c1 == 34)
(callP (lexer_quoted s) (fun r6 h5 =>
(K (3, r6) h5)) h3)
(ifP (c1 == 10)
(K (5, 1) h3)
(callP (strings_IndexByte ⟨#[43, 45, 42, 47, 40, 41, 91, 93, 123, 125, 44, 58, 59, 61, 46, 60, 62, 64, 35]⟩ c1) (fun r7 h6 =>
(ifP (decide (r7 ≥ 0))
(K (4, 1) h6)
(K (0, 0) h6))) h3))))) h1))) h))
def lexer_Tokens (s : ByteArray) (K : (Sl × Int × Int) → Hp → Prop) (h : Hp) : Prop :=
(ifP (decide (((s : ByteArray).size : Int) > 65536))
(K (nilS, 0, 3) h)
(loopP (S := Sl × Int × Unit) (fun s1 k2 h1 =>
(ifP (decide (s1.2.1 < ((s : ByteArray).size : Int)))
(joinP (S := Int × Unit) (fun s3 h2 =>
(strCut s s3.1 ((s : ByteArray).size : Int) fun c5 =>
(callP (lexer_next c5) (fun r6 h3 =>
(joinP (S := Unit) (fun s7 h4 =>
(strCut s s3.1 (IntKind.i64.wrap (s3.1 + r6.2)) fun c9 =>
(appP 3 32 [.int .i64 0, .string emptyS, .int .i64 0] s1.1 1 [.int .i64 r6.1, .string c9, .int .i64 s3.1] (fun w10 h5 =>
(k2 (w10, (IntKind.i64.wrap (s3.1 + r6.2)), ()) h5)) h4)))
(fun k8 =>
(ifP (r6.2 == 0)
(K (nilS, s3.1, 2) h3)
(ifP (r6.1 == 1)
(ifP (decide (r6.2 > 24))
(K (nilS, s3.1, 3) h3)
(k8 () h3))
(k8 () h3)))))) h2)))
(fun k4 =>
(strIdx s s1.2.1 fun c11 =>
(ifP (c11 == 32)
(k2 (s1.1, (IntKind.i64.wrap (s1.2.1 + 1)), ()) h1)
(strIdx s s1.2.1 fun c12 =>
(ifP (c12 == 9)
(k2 (s1.1, (IntKind.i64.wrap (s1.2.1 + 1)), ()) h1)
(k4 (s1.2.1, ()) h1)))))))
(appP 3 32 [.int .i64 0, .string emptyS, .int .i64 0] s1.1 1 [.int .i64 0, .string emptyS, .int .i64 ((s : ByteArray).size : Int)] (fun w13 h6 =>
(K (w13, 0, 0) h6)) h1)))
(nilS, 0, ()) h))
def ref21_letter (c : Int) (K : Bool → Hp → Prop) (h : Hp) : Prop :=
(ifP (decide (c ≥ 97))
(ifP (decide (c ≤ 122))
(K true h)
(ifP (decide (c ≥ 65))
(K (decide (c ≤ 90)) h)
(K false h)))
(ifP (decide (c ≥ 65))
(K (decide (c ≤ 90)) h)
(K false h)))
def ref21_digit (c : Int) (K : Bool → Hp → Prop) (h : Hp) : Prop :=
(ifP (decide (c ≥ 48))
(K (decide (c ≤ 57)) h)
(K false h))
def ref21_word (s : ByteArray) (at_ : Int) (K : Int → Hp → Prop) (h : Hp) : Prop :=
(joinP (S := Unit) (fun s1 h1 =>
(loopP (S := Int × Unit) (fun s3 k4 h2 =>
(joinP (S := Unit) (fun s5 h3 =>
(k4 ((IntKind.i64.wrap (s3.1 + 1)), ()) h3))
(fun k6 =>
(ifP (decide (s3.1 < ((s : ByteArray).size : Int)))
(strIdx s s3.1 fun c7 =>
(callP (ref21_letter c7) (fun r8 h4 =>
(ifP r8
(k6 () h4)
(strIdx s s3.1 fun c9 =>
(callP (ref21_digit c9) (fun r10 h5 =>
(ifP r10
(k6 () h5)
(strIdx s s3.1 fun c11 =>
(ifP (c11 == 95)
(k6 () h5)
(K s3.1 h5))))) h4)))) h2))
(K s3.1 h2)))))
(at_, ()) h1))
(fun k2 =>
(ifP (at_ == ((s : ByteArray).size : Int))
(K at_ h)
(strIdx s at_ fun c12 =>
(callP (ref21_letter c12) (fun r13 h6 =>
(ifP (!r13)
(K at_ h6)
(k2 () h6))) h)))))
def ref21_symbol (c : Int) (K : Bool → Hp → Prop) (h : Hp) : Prop :=
(loopP (S := Int × Unit) (fun s1 k2 h1 =>
(ifP (decide (s1.1 < 19))
(strIdx ⟨#[43, 45, 42, 47, 40, 41, 91, 93, 123, 125, 44, 58, 59, 61, 46, 60, 62, 64, 35]⟩ s1.1 fun c3 =>
(ifP (c3 == c)
(K true h1)
(k2 ((IntKind.i64.wrap (s1.1 + 1)), ()) h1)))
(K false h1)))
(0, ()) h)
def ref21_quoted (s : ByteArray) (at_ : Int) (K : (Int × ByteArray) → Hp → Prop) (h : Hp) : Prop :=
(newP [] (fun p1 h1 =>
(joinP (S := Unit) (fun s2 h2 =>
(loopP (S := Sl × Int × Unit) (fun s4 k5 h3 =>
(ifP (decide (s4.2.1 < ((s : ByteArray).size : Int)))
(strIdx s s4.2.1 fun c6 =>
(ifP (decide (c6 < 32))
(K (at_, emptyS) h3)
(ifP (c6 == 34)
(toStr s4.1 (fun t7 =>
(K ((IntKind.i64.wrap (s4.2.1 + 1)), t7) h3)) h3)
(joinP (S := Int × Int × Unit) (fun s8 h4 =>
(appP 1 1 [.int .u8 0] s4.1 1 [.int .u8 s8.2.1] (fun w10 h5 =>
(k5 (w10, (IntKind.i64.wrap (s8.1 + 1)), ()) h5)) h4))
(fun k9 =>
(ifP (c6 == 92)
(joinP (S := Unit) (fun s11 h6 =>
(strIdx s (IntKind.i64.wrap (s4.2.1 + 1)) fun c13 =>
(ifP (c13 == 110)
(k9 ((IntKind.i64.wrap (s4.2.1 + 1)), 10, ()) h6)
(k9 ((IntKind.i64.wrap (s4.2.1 + 1)), c13, ()) h6))))
(fun k12 =>
(ifP ((IntKind.i64.wrap (s4.2.1 + 1)) == ((s : ByteArray).size : Int))
(K (at_, emptyS) h3)
(strIdx s (IntKind.i64.wrap (s4.2.1 + 1)) fun c14 =>
(ifP (c14 != 34)
(strIdx s (IntKind.i64.wrap (s4.2.1 + 1)) fun c15 =>
(ifP (c15 != 92)
(strIdx s (IntKind.i64.wrap (s4.2.1 + 1)) fun c16 =>
(ifP (c16 != 110)
(K (at_, emptyS) h3)
(k12 () h3)))
(k12 () h3)))
(k12 () h3))))))
(k9 (s4.2.1, c6, ()) h3)))))))
(K (at_, emptyS) h3)))
((⟨some p1, 0, 0⟩ : Sl), (IntKind.i64.wrap (at_ + 1)), ()) h2))
(fun k3 =>
(ifP (at_ == ((s : ByteArray).size : Int))
(K (at_, emptyS) h1)
(strIdx s at_ fun c17 =>
(ifP (c17 != 34)
(K (at_, emptyS) h1)
(k3 () h1))))))) h)
def ref21_digits (s : ByteArray) (at_ : Int) (K : Int → Hp → Prop) (h : Hp) : Prop :=
(loopP (S := Int × Unit) (fun s1 k2 h1 =>
(joinP (S := Unit) (fun s3 h2 =>
(k2 ((IntKind.i64.wrap (s1.1 + 1)), ()) h2))
(fun k4 =>
(ifP (decide (s1.1 < ((s : ByteArray).size : Int)))
(strIdx s s1.1 fun c5 =>
(callP (ref21_digit c5) (fun r6 h3 =>
(ifP r6
(k4 () h3)
(K s1.1 h3))) h1))
(K s1.1 h1)))))
(at_, ()) h)
def ref21_number (s : ByteArray) (at_ : Int) (K : Int → Hp → Prop) (h : Hp) : Prop :=
(callP (ref21_digits s at_) (fun r1 h1 =>
(ifP (decide (r1 > at_))
(ifP (decide (r1 < ((s : ByteArray).size : Int)))
(strIdx s r1 fun c2 =>
(ifP (c2 == 46)
(callP (ref21_digits s (IntKind.i64.wrap (r1 + 1))) (fun r3 h2 =>
(ifP (decide (r3 > (IntKind.i64.wrap (r1 + 1))))
(callP (ref21_digits s (IntKind.i64.wrap (r1 + 1))) (fun r4 h3 =>
(K r4 h3)) h2)
(K r1 h2))) h1)
(K r1 h1)))
(K r1 h1))
(K r1 h1))) h)
def ref21_Tokens (s : ByteArray) (K : (Sl × Int × Int) → Hp → Prop) (h : Hp) : Prop :=
(ifP (decide (((s : ByteArray).size : Int) > 65536))
(K (nilS, 0, 3) h)
(loopP (S := Sl × Int × Unit) (fun s1 k2 h1 =>
(ifP (decide (s1.2.1 < ((s : ByteArray).size : Int)))
(joinP (S := Int × Unit) (fun s3 h2 =>
(callP (ref21_word s s3.1) (fun r5 h3 =>
(ifP (decide ((IntKind.i64.wrap (r5 - s3.1)) > 24))
(K (nilS, s3.1, 3) h3)
(joinP (S := Int × Int × Unit) (fun s6 h4 =>
(joinP (S := Int × Int × Unit) (fun s8 h5 =>
(joinP (S := Int × Int × Unit) (fun s10 h6 =>
(joinP (S := Int × Int × Unit) (fun s12 h7 =>
(ifP (s12.2.1 == s3.1)
(K (nilS, s3.1, 2) h7)
(strCut s s3.1 s12.2.1 fun c14 =>
(appP 3 32 [.int .i64 0, .string emptyS, .int .i64 0] s1.1 1 [.int .i64 s12.1, .string c14, .int .i64 s3.1] (fun w15 h8 =>
(k2 (w15, s12.2.1, ()) h8)) h7))))
(fun k13 =>
(ifP (s10.2.1 == s3.1)
(strIdx s s3.1 fun c16 =>
(ifP (c16 == 10)
(k13 (5, (IntKind.i64.wrap (s3.1 + 1)), ()) h6)
(k13 (s10.1, s10.2.1, ()) h6)))
(k13 (s10.1, s10.2.1, ()) h6)))))
(fun k11 =>
(ifP (s8.2.1 == s3.1)
(strIdx s s3.1 fun c17 =>
(callP (ref21_symbol c17) (fun r18 h9 =>
(ifP r18
(k11 (4, (IntKind.i64.wrap (s3.1 + 1)), ()) h9)
(k11 (s8.1, s8.2.1, ()) h9))) h5))
(k11 (s8.1, s8.2.1, ()) h5)))))
(fun k9 =>
(ifP (s6.2.1 == s3.1)
(callP (ref21_quoted s s3.1) (fun r19 h10 =>
(k9 (3, r19.1, ()) h10)) h4)
(k9 (s6.1, s6.2.1, ()) h4)))))
(fun k7 =>
(ifP (r5 == s3.1)
(callP (ref21_number s s3.1) (fun r20 h11 =>
(k7 (2, r20, ()) h11)) h3)
(k7 (1, r5, ()) h3)))))) h2))
(fun k4 =>
(strIdx s s1.2.1 fun c21 =>
(ifP (c21 == 32)
(k2 (s1.1, (IntKind.i64.wrap (s1.2.1 + 1)), ()) h1)
(strIdx s s1.2.1 fun c22 =>
(ifP (c22 == 9)
(k2 (s1.1, (IntKind.i64.wrap (s1.2.1 + 1)), ()) h1)
(k4 (s1.2.1, ()) h1)))))))
(appP 3 32 [.int .i64 0, .string emptyS, .int .i64 0] s1.1 1 [.int .i64 0, .string emptyS, .int .i64 ((s : ByteArray).size : Int)] (fun w23 h12 =>
(K (w23, 0, 0) h12)) h1)))
(nilS, 0, ()) h))
def law21_same (a : Sl) (b : Sl) (K : Bool → Hp → Prop) (h : Hp) : Prop :=
(ifP ((a.len : Int) != (b.len : Int))
(K false h)
(loopP (S := Int × Unit) (fun s1 k2 h1 =>
(ifP (decide (s1.1 < (a.len : Int)))
(joinP (S := Unit) (fun s3 h2 =>
(k2 ((IntKind.i64.wrap (s1.1 + 1)), ()) h2))
(fun k4 =>
(idxP a s1.1 3 fun a5 =>
(ldL (.int .i64) (a5.add 0) (fun x6_0 =>
(ldL (.str) (a5.add 1) (fun x6_1 =>
(ldL (.int .i64) (a5.add 2) (fun x6_2 =>
(idxP b s1.1 3 fun a7 =>
(ldL (.int .i64) (a7.add 0) (fun x8 =>
(ifP (x6_0 != x8)
(K false h1)
(idxP b s1.1 3 fun a9 =>
(ldL (.str) (a9.add 1) (fun x10 =>
(ifP (!((x6_1 : ByteArray).toList == (x10 : ByteArray).toList))
(K false h1)
(idxP b s1.1 3 fun a11 =>
(ldL (.int .i64) (a11.add 2) (fun x12 =>
(ifP (x6_2 != x12)
(K false h1)
(k4 () h1))) h1)))) h1)))) h1))) h1)) h1)) h1))))
(K true h1)))
(0, ()) h))
def law21_awake (K : Bool → Hp → Prop) (h : Hp) : Prop :=
(callP (lexer_Tokens ⟨#[97, 49, 32, 61, 32, 50, 46, 53, 48, 42, 40, 98, 41]⟩) (fun r1 h1 =>
(callP (lexer_Tokens ⟨#[49, 46, 120]⟩) (fun r2 h2 =>
(callP (lexer_Tokens ⟨#[92]⟩) (fun r3 h3 =>
(newP [.int .i64 1, .string ⟨#[97, 49]⟩, .int .i64 0, .int .i64 4, .string ⟨#[61]⟩, .int .i64 3, .int .i64 2, .string ⟨#[50, 46, 53, 48]⟩, .int .i64 5, .int .i64 4, .string ⟨#[42]⟩, .int .i64 9, .int .i64 4, .string ⟨#[40]⟩, .int .i64 10, .int .i64 1, .string ⟨#[98]⟩, .int .i64 11, .int .i64 4, .string ⟨#[41]⟩, .int .i64 12, .int .i64 0, .string emptyS, .int .i64 13] (fun p4 h4 =>
(callP (law21_same r1.1 (⟨some p4, 8, 8⟩ : Sl)) (fun r5 h5 =>
(ifP r5
(ifP (r1.2.1 == 0)
(ifP (r1.2.2 == 0)
(ifP ((r2.1.len : Int) == 4)
(ifP (r2.2.2 == 0)
(ifP (r3.2.1 == 0)
(K (r3.2.2 == 2) h5)
(K false h5))
(K false h5))
(K false h5))
(K false h5))
(K false h5))
(K false h5))) h4)) h3)) h2)) h1)) h)
def law21_LexerTokens (s : ByteArray) (K : Bool → Hp → Prop) (h : Hp) : Prop :=
(joinP (S := Unit) (fun s1 h1 =>
(callP (lexer_Tokens s) (fun r3 h2 =>
(callP (ref21_Tokens s) (fun r4 h3 =>
(callP (law21_same r3.1 r4.1) (fun r5 h4 =>
(ifP r5
(ifP (r3.2.1 == r4.2.1)
(K (r3.2.2 == r4.2.2) h4)
(K false h4))
(K false h4))) h3)) h2)) h1))
(fun k2 =>
(callP (law21_awake) (fun r6 h5 =>
(ifP (!r6)
(callP (law21_awake) (fun r7 h6 =>
(K r7 h6)) h5)
(ifP (decide (((s : ByteArray).size : Int) > 2000))
(callP (law21_awake) (fun r8 h7 =>
(K r8 h7)) h5)
(k2 () h5)))) h)))
def law21_LexerPositions (s : ByteArray) (K : Bool → Hp → Prop) (h : Hp) : Prop :=
(joinP (S := Unit) (fun s1 h1 =>
(callP (lexer_Tokens s) (fun r3 h2 =>
(ifP (r3.2.2 != 0)
(K ((r3.1.len : Int) == 0) h2)
(loopP (S := Int × Int × Unit) (fun s4 k5 h3 =>
(ifP (decide (s4.2.1 < (r3.1.len : Int)))
(idxP r3.1 s4.2.1 3 fun a6 =>
(ldL (.int .i64) (a6.add 0) (fun x7_0 =>
(ldL (.str) (a6.add 1) (fun x7_1 =>
(ldL (.int .i64) (a6.add 2) (fun x7_2 =>
(joinP (S := Unit) (fun s8 h4 =>
(strCut s s4.1 x7_2 fun c10 =>
(bytesP c10 (fun b11 h5 =>
(loopP (S := Int × Unit) (fun s12 k13 h6 =>
(ifP (decide (s12.1 < (b11.len : Int)))
(joinP (S := Unit) (fun s14 h7 =>
(k13 ((IntKind.i64.wrap (s12.1 + 1)), ()) h7))
(fun k15 =>
(idxP b11 s12.1 1 fun a16 =>
(ldL (.int .u8) a16 (fun x17 =>
(ifP (x17 != 32)
(ifP (x17 != 9)
(K false h6)
(k15 () h6))
(k15 () h6))) h6))))
(k5 ((IntKind.i64.wrap (x7_2 + ((x7_1 : ByteArray).size : Int))), (IntKind.i64.wrap (s4.2.1 + 1)), ()) h6)))
(0, ()) h5)) h4)))
(fun k9 =>
(ifP (decide (x7_2 < s4.1))
(K false h3)
(ifP (decide ((IntKind.i64.wrap (x7_2 + ((x7_1 : ByteArray).size : Int))) > ((s : ByteArray).size : Int)))
(K false h3)
(strCut s x7_2 (IntKind.i64.wrap (x7_2 + ((x7_1 : ByteArray).size : Int))) fun c18 =>
(ifP (!((c18 : ByteArray).toList == (x7_1 : ByteArray).toList))
(K false h3)
(k9 () h3)))))))) h3)) h3)) h3))
(ifP (s4.1 == ((s : ByteArray).size : Int))
(ifP (decide ((r3.1.len : Int) > 0))
(idxP r3.1 (IntKind.i64.wrap ((r3.1.len : Int) - 1)) 3 fun a19 =>
(ldL (.int .i64) (a19.add 0) (fun x20 =>
(K (x20 == 0) h3)) h3))
(K false h3))
(K false h3))))
(0, 0, ()) h2))) h1))
(fun k2 =>
(callP (law21_awake) (fun r21 h8 =>
(ifP (!r21)
(callP (law21_awake) (fun r22 h9 =>
(K r22 h9)) h8)
(ifP (decide (((s : ByteArray).size : Int) > 2000))
(callP (law21_awake) (fun r23 h10 =>
(K r23 h10)) h8)
(k2 () h8)))) h)))
def law21_LexerSpaced (s : ByteArray) (K : Bool → Hp → Prop) (h : Hp) : Prop :=
(joinP (S := Unit) (fun s1 h1 =>
(callP (lexer_Tokens s) (fun r3 h2 =>
(ifP (r3.2.2 != 0)
(K true h2)
(loopP (S := ByteArray × Int × Unit) (fun s4 k5 h3 =>
(ifP (decide (s4.2.1 < (r3.1.len : Int)))
(idxP r3.1 s4.2.1 3 fun a6 =>
(ldL (.int .i64) (a6.add 0) (fun x7_0 =>
(ldL (.str) (a6.add 1) (fun x7_1 =>
(ldL (.int .i64) (a6.add 2) (fun x7_2 =>
((((x7_1 : ByteArray).size + (⟨#[32]⟩ : ByteArray).size : Nat) : Int) ≤ 9223372036854775807 ∧
((((s4.1 : ByteArray).size + (((x7_1 : ByteArray) ++ (⟨#[32]⟩ : ByteArray)) : ByteArray).size : Nat) : Int) ≤ 9223372036854775807 ∧
(k5 (((s4.1 : ByteArray) ++ (((x7_1 : ByteArray) ++ (⟨#[32]⟩ : ByteArray)) : ByteArray)), (IntKind.i64.wrap (s4.2.1 + 1)), ()) h3)))) h3)) h3)) h3))
(callP (lexer_Tokens s4.1) (fun r8 h4 =>
(joinP (S := Unit) (fun s9 h5 =>
(loopP (S := Int × Unit) (fun s11 k12 h6 =>
(ifP (decide (s11.1 < (r3.1.len : Int)))
(joinP (S := Unit) (fun s13 h7 =>
(k12 ((IntKind.i64.wrap (s11.1 + 1)), ()) h7))
(fun k14 =>
(idxP r3.1 s11.1 3 fun a15 =>
(ldL (.int .i64) (a15.add 0) (fun x16 =>
(idxP r8.1 s11.1 3 fun a17 =>
(ldL (.int .i64) (a17.add 0) (fun x18 =>
(ifP (x16 != x18)
(K false h6)
(idxP r3.1 s11.1 3 fun a19 =>
(ldL (.str) (a19.add 1) (fun x20 =>
(idxP r8.1 s11.1 3 fun a21 =>
(ldL (.str) (a21.add 1) (fun x22 =>
(ifP (!((x20 : ByteArray).toList == (x22 : ByteArray).toList))
(K false h6)
(k14 () h6))) h6))) h6)))) h6))) h6))))
(K true h6)))
(0, ()) h5))
(fun k10 =>
(ifP (r8.2.2 != 0)
(K false h4)
(ifP ((r8.1.len : Int) != (r3.1.len : Int))
(K false h4)
(k10 () h4)))))) h3)))
(emptyS, 0, ()) h2))) h1))
(fun k2 =>
(callP (law21_awake) (fun r23 h8 =>
(ifP (!r23)
(callP (law21_awake) (fun r24 h9 =>
(K r24 h9)) h8)
(ifP (decide (((s : ByteArray).size : Int) > 2000))
(callP (law21_awake) (fun r25 h10 =>
(K r25 h10)) h8)
(k2 () h8)))) h)))
def law21_LexerLimits (more : Int) (name : Int) (K : Bool → Hp → Prop) (h : Hp) : Prop :=
(callP (law21_awake) (fun r1 h1 =>
(ifP (!r1)
(K false h1)
(mkP (IntKind.i64.wrap (65436 + (IntKind.i64.wrap (more)))) (IntKind.i64.wrap (65436 + (IntKind.i64.wrap (more)))) 1 [.int .u8 0] (fun m2 h2 =>
(loopP (S := Int × Unit) (fun s3 k4 h3 =>
(ifP (decide (s3.1 < (m2.len : Int)))
(idxP m2 s3.1 1 fun a5 =>
(stP a5 [.int .u8 32] (fun h4 =>
(k4 ((IntKind.i64.wrap (s3.1 + 1)), ()) h4)) h3))
((40 : Int) ≠ 0 ∧
(loopP (S := Int × Unit) (fun s6 k7 h5 =>
(ifP (decide (s6.1 < (((IntKind.i64.wrap (name)) : Int).tmod 40)))
(idxP m2 (IntKind.i64.wrap (s6.1 + 20)) 1 fun a8 =>
(stP a8 [.int .u8 97] (fun h6 =>
(k7 ((IntKind.i64.wrap (s6.1 + 1)), ()) h6)) h5))
(toStr m2 (fun t9 =>
(callP (lexer_Tokens t9) (fun r10 h7 =>
(ifP (decide ((m2.len : Int) > 65536))
(ifP ((r10.1.len : Int) == 0)
(ifP (r10.2.1 == 0)
(K (r10.2.2 == 3) h7)
(K false h7))
(K false h7))
((40 : Int) ≠ 0 ∧
(ifP (decide ((((IntKind.i64.wrap (name)) : Int).tmod 40) > 24))
(ifP ((r10.1.len : Int) == 0)
(ifP (r10.2.1 == 20)
(K (r10.2.2 == 3) h7)
(K false h7))
(K false h7))
((40 : Int) ≠ 0 ∧
(ifP (((name : Int).tmod 40) == 0)
(ifP ((r10.1.len : Int) == 1)
(K (r10.2.2 == 0) h7)
(K false h7))
(ifP ((r10.1.len : Int) == 2)
(idxP r10.1 1 3 fun a11 =>
(ldL (.int .i64) (a11.add 2) (fun x12 =>
(ifP (x12 == (m2.len : Int))
(K (r10.2.2 == 0) h7)
(K false h7))) h7))
(K false h7)))))))) h5)) h5)))
(0, ()) h3))))
(0, ()) h2)) h1))) h)
def lexer_IsName (s : ByteArray) (K : Bool → Hp → Prop) (h : Hp) : Prop :=
(ifP (!((s : ByteArray).toList == (emptyS : ByteArray).toList))
(ifP (decide (((s : ByteArray).size : Int) ≤ 24))
(strIdx s 0 fun c1 =>
(callP (lexer_isLetter c1) (fun r2 h1 =>
(ifP r2
(callP (lexer_span_lexer_isWord s) (fun r3 h2 =>
(K (r3 == ((s : ByteArray).size : Int)) h2)) h1)
(K false h1))) h))
(K false h))
(K false h))
def ref21_IsName (s : ByteArray) (K : Bool → Hp → Prop) (h : Hp) : Prop :=
(ifP (!((s : ByteArray).toList == (emptyS : ByteArray).toList))
(ifP (decide (((s : ByteArray).size : Int) ≤ 24))
(callP (ref21_word s 0) (fun r1 h1 =>
(K (r1 == ((s : ByteArray).size : Int)) h1)) h)
(K false h))
(K false h))
def law21_LexerNames (s : ByteArray) (K : Bool → Hp → Prop) (h : Hp) : Prop :=
(joinP (S := Unit) (fun s1 h1 =>
(callP (lexer_IsName s) (fun r3 h2 =>
(callP (ref21_IsName s) (fun r4 h3 =>
(K (r3 == r4) h3)) h2)) h1))
(fun k2 =>
(callP (law21_awake) (fun r5 h4 =>
(ifP (!r5)
(callP (law21_awake) (fun r6 h5 =>
(K r6 h5)) h4)
(ifP (decide (((s : ByteArray).size : Int) > 2000))
(callP (law21_awake) (fun r7 h6 =>
(K r7 h6)) h4)
(k2 () h4)))) h)))
def ref21_Unquote (s : ByteArray) (K : (ByteArray × Int) → Hp → Prop) (h : Hp) : Prop :=
(callP (ref21_quoted s 0) (fun r1 h1 =>
(joinP (S := Unit) (fun s2 h2 =>
(K (r1.2, 0) h2))
(fun k3 =>
(ifP (r1.1 == 0)
(K (emptyS, 2) h1)
(ifP (decide (r1.1 < ((s : ByteArray).size : Int)))
(K (emptyS, 2) h1)
(k3 () h1)))))) h)
def ref21_Quote (s : ByteArray) (K : ByteArray → Hp → Prop) (h : Hp) : Prop :=
(newP [.int .u8 34] (fun p1 h1 =>
(loopP (S := Sl × Int × Unit) (fun s2 k3 h2 =>
(ifP (decide (s2.2.1 < ((s : ByteArray).size : Int)))
(joinP (S := Sl × Unit) (fun s4 h3 =>
(k3 (s4.1, (IntKind.i64.wrap (s2.2.1 + 1)), ()) h3))
(fun k5 =>
(strIdx s s2.2.1 fun c6 =>
(ifP (c6 == 10)
(appP 1 1 [.int .u8 0] s2.1 2 [.int .u8 92, .int .u8 110] (fun w7 h4 =>
(k5 (w7, ()) h4)) h2)
(ifP (decide (c6 < 32))
(K emptyS h2)
(joinP (S := Sl × Unit) (fun s8 h5 =>
(appP 1 1 [.int .u8 0] s8.1 1 [.int .u8 c6] (fun w10 h6 =>
(k5 (w10, ()) h6)) h5))
(fun k9 =>
(ifP (c6 == 34)
(appP 1 1 [.int .u8 0] s2.1 1 [.int .u8 92] (fun w11 h7 =>
(k9 (w11, ()) h7)) h2)
(ifP (c6 == 92)
(appP 1 1 [.int .u8 0] s2.1 1 [.int .u8 92] (fun w12 h8 =>
(k9 (w12, ()) h8)) h2)
(k9 (s2.1, ()) h2))))))))))
(appP 1 1 [.int .u8 0] s2.1 1 [.int .u8 34] (fun w13 h9 =>
(toStr w13 (fun t14 =>
(K t14 h9)) h9)) h2)))
((⟨some p1, 1, 1⟩ : Sl), 0, ()) h1)) h)
end F
end Den
