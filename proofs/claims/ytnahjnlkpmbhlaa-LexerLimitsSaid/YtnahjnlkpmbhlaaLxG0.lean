/- MADE BY fbuild.py: the entries of the functions. -/
import Derived.Test.YtnahjnlkpmbhlaaLxF
import Derived.Test.YtnahjnlkpmbhlaaProg
import Derived.Laws.Externs
set_option maxRecDepth 100000
set_option linter.unusedVariables false
namespace Den
open Go
noncomputable def A_lexer_isLetter : ArgT (Int × Unit) := (ArgT.cons (Ty.leaf (.int .u8)) ArgT.nil)
noncomputable def R_lexer_isLetter : Ty Bool := (Ty.leaf .bool)
noncomputable def e_lexer_isLetter : FSem := mkE A_lexer_isLetter R_lexer_isLetter (fun a => F.lexer_isLetter a.1)
noncomputable def c_lexer_isLetter : Cfg := { P := Go.Proofs.Try.prog, n := 17, tab := [], mutL := [], rtL := [], locL := [] }
noncomputable def b_lexer_isLetter : Code := match Go.Proofs.Try.f25.body with | some c => c | none => .skip
noncomputable def a_lexer_isLetter : An := (.seq .leaf (.seq .leaf .leaf))
theorem t_lexer_isLetter : Entry Go.Proofs.Try.prog 25 e_lexer_isLetter false :=
  entry_of (C := c_lexer_isLetter) (fn := Go.Proofs.Try.f25) (c := b_lexer_isLetter) (an := a_lexer_isLetter) trivial Go.Proofs.Try.func25 rfl rfl (by decide) (fun _ => rfl) (by intro a K D; kernel_rfl)
noncomputable def A_lexer_isDigit : ArgT (Int × Unit) := (ArgT.cons (Ty.leaf (.int .u8)) ArgT.nil)
noncomputable def R_lexer_isDigit : Ty Bool := (Ty.leaf .bool)
noncomputable def e_lexer_isDigit : FSem := mkE A_lexer_isDigit R_lexer_isDigit (fun a => F.lexer_isDigit a.1)
noncomputable def c_lexer_isDigit : Cfg := { P := Go.Proofs.Try.prog, n := 9, tab := [], mutL := [], rtL := [], locL := [] }
noncomputable def b_lexer_isDigit : Code := match Go.Proofs.Try.f32.body with | some c => c | none => .skip
noncomputable def a_lexer_isDigit : An := (.seq .leaf (.seq .leaf .leaf))
theorem t_lexer_isDigit : Entry Go.Proofs.Try.prog 32 e_lexer_isDigit false :=
  entry_of (C := c_lexer_isDigit) (fn := Go.Proofs.Try.f32) (c := b_lexer_isDigit) (an := a_lexer_isDigit) trivial Go.Proofs.Try.func32 rfl rfl (by decide) (fun _ => rfl) (by intro a K D; kernel_rfl)
noncomputable def A_lexer_isWord : ArgT (Int × Unit) := (ArgT.cons (Ty.leaf (.int .u8)) ArgT.nil)
noncomputable def R_lexer_isWord : Ty Bool := (Ty.leaf .bool)
noncomputable def e_lexer_isWord : FSem := mkE A_lexer_isWord R_lexer_isWord (fun a => F.lexer_isWord a.1)
noncomputable def c_lexer_isWord : Cfg := { P := Go.Proofs.Try.prog, n := 13, tab := [(25, e_lexer_isLetter), (32, e_lexer_isDigit)], mutL := [], rtL := [], locL := [] }
noncomputable def b_lexer_isWord : Code := match Go.Proofs.Try.f27.body with | some c => c | none => .skip
noncomputable def a_lexer_isWord : An := (.seq .leaf (.seq .leaf .leaf))
theorem t_lexer_isWord : Entry Go.Proofs.Try.prog 27 e_lexer_isWord false :=
  entry_of (C := c_lexer_isWord) (fn := Go.Proofs.Try.f27) (c := b_lexer_isWord) (an := a_lexer_isWord) ⟨t_lexer_isLetter, t_lexer_isDigit, trivial⟩ Go.Proofs.Try.func27 rfl rfl (by decide) (fun _ => rfl) (by intro a K D; kernel_rfl)
noncomputable def A_lexer_span_lexer_isWord : ArgT (ByteArray × Unit) := (ArgT.cons (Ty.leaf .str) (ArgT.fn 27 ArgT.nil))
noncomputable def R_lexer_span_lexer_isWord : Ty Int := (Ty.leaf (.int .i64))
noncomputable def e_lexer_span_lexer_isWord : FSem := mkE A_lexer_span_lexer_isWord R_lexer_span_lexer_isWord (fun a => F.lexer_span_lexer_isWord a.1)
noncomputable def c_lexer_span_lexer_isWord : Cfg := { P := Go.Proofs.Try.prog, n := 20, tab := [(27, e_lexer_isWord)], mutL := [], rtL := [], locL := [] }
noncomputable def b_lexer_span_lexer_isWord : Code := match Go.Proofs.Try.f26.body with | some c => c | none => .skip
noncomputable def a_lexer_span_lexer_isWord : An := (.seq .leaf (.seq .leaf (.seq (.block (.loop [(5, .leaf (.int .i64))] (.join [] (.seq .leaf (.cond .leaf .leaf)) (.block .leaf)))) (.seq .leaf .leaf))))
theorem t_lexer_span_lexer_isWord : Entry Go.Proofs.Try.prog 26 e_lexer_span_lexer_isWord false :=
  entry_of (C := c_lexer_span_lexer_isWord) (fn := Go.Proofs.Try.f26) (c := b_lexer_span_lexer_isWord) (an := a_lexer_span_lexer_isWord) ⟨t_lexer_isWord, trivial⟩ Go.Proofs.Try.func26 rfl rfl (by decide) (fun _ => rfl) (by intro a K D; kernel_rfl)
noncomputable def A_lexer_span_lexer_isDigit : ArgT (ByteArray × Unit) := (ArgT.cons (Ty.leaf .str) (ArgT.fn 32 ArgT.nil))
noncomputable def R_lexer_span_lexer_isDigit : Ty Int := (Ty.leaf (.int .i64))
noncomputable def e_lexer_span_lexer_isDigit : FSem := mkE A_lexer_span_lexer_isDigit R_lexer_span_lexer_isDigit (fun a => F.lexer_span_lexer_isDigit a.1)
noncomputable def c_lexer_span_lexer_isDigit : Cfg := { P := Go.Proofs.Try.prog, n := 20, tab := [(32, e_lexer_isDigit)], mutL := [], rtL := [], locL := [] }
noncomputable def b_lexer_span_lexer_isDigit : Code := match Go.Proofs.Try.f26.body with | some c => c | none => .skip
noncomputable def a_lexer_span_lexer_isDigit : An := (.seq .leaf (.seq .leaf (.seq (.block (.loop [(5, .leaf (.int .i64))] (.join [] (.seq .leaf (.cond .leaf .leaf)) (.block .leaf)))) (.seq .leaf .leaf))))
theorem t_lexer_span_lexer_isDigit : Entry Go.Proofs.Try.prog 26 e_lexer_span_lexer_isDigit false :=
  entry_of (C := c_lexer_span_lexer_isDigit) (fn := Go.Proofs.Try.f26) (c := b_lexer_span_lexer_isDigit) (an := a_lexer_span_lexer_isDigit) ⟨t_lexer_isDigit, trivial⟩ Go.Proofs.Try.func26 rfl rfl (by decide) (fun _ => rfl) (by intro a K D; kernel_rfl)
noncomputable def A_lexer_number : ArgT (ByteArray × Unit) := (ArgT.cons (Ty.leaf .str) ArgT.nil)
noncomputable def R_lexer_number : Ty Int := (Ty.leaf (.int .i64))
noncomputable def e_lexer_number : FSem := mkE A_lexer_number R_lexer_number (fun a => F.lexer_number a.1)
noncomputable def c_lexer_number : Cfg := { P := Go.Proofs.Try.prog, n := 29, tab := [(26, e_lexer_span_lexer_isDigit)], mutL := [], rtL := [], locL := [] }
noncomputable def b_lexer_number : Code := match Go.Proofs.Try.f33.body with | some c => c | none => .skip
noncomputable def a_lexer_number : An := (.seq .leaf (.seq .leaf (.seq (.seq .leaf (.cond (.seq .leaf (.seq .leaf (.cond (.seq .leaf .leaf) .leaf))) .leaf)) (.seq .leaf .leaf))))
theorem t_lexer_number : Entry Go.Proofs.Try.prog 33 e_lexer_number false :=
  entry_of (C := c_lexer_number) (fn := Go.Proofs.Try.f33) (c := b_lexer_number) (an := a_lexer_number) ⟨t_lexer_span_lexer_isDigit, trivial⟩ Go.Proofs.Try.func33 rfl rfl (by decide) (fun _ => rfl) (by intro a K D; kernel_rfl)
noncomputable def A_internal_stringslite_IndexByte : ArgT (ByteArray × Int × Unit) := (ArgT.cons (Ty.leaf .str) (ArgT.cons (Ty.leaf (.int .u8)) ArgT.nil))
noncomputable def R_internal_stringslite_IndexByte : Ty Int := (Ty.leaf (.int .i64))
noncomputable def e_internal_stringslite_IndexByte : FSem := mkE A_internal_stringslite_IndexByte R_internal_stringslite_IndexByte (fun a => F.internal_stringslite_IndexByte a.1 a.2.1)
set_option maxHeartbeats 1000000 in
theorem q_internal_stringslite_IndexByte (s : ByteArray) (c : Int) (w : World) :
    Calls Go.Proofs.Try.prog 39 #[.string s, .int .u8 c] w fun e w' => e = .returned (.int .i64 (Lib.indexByte s.data.toList c.toNat.toUInt8)) ∧ w' = w := by
  go_enter Go.Proofs.Try.func39, Go.Proofs.Try.ntmps39
  go_wp2
  rw [run_callFunc_extern Go.Proofs.Try.func41 (by kernel_rfl) (by kernel_rfl) (by kernel_rfl) (e := Extern.BytealgIndexByte.indexByte) (by kernel_rfl), Lib.run_indexByteString]
  simp only [Result.andThen]
  rw [Oper.upon_value]
  go_wp2
  go_ret
  exact ⟨rfl, rfl⟩
theorem t_internal_stringslite_IndexByte : Entry Go.Proofs.Try.prog 39 e_internal_stringslite_IndexByte false :=
  mkE_entry ⟨_, Go.Proofs.Try.func39, rfl, by decide⟩ (fun a K D w hs hk => by
    refine (q_internal_stringslite_IndexByte a.1 a.2.1 w).mono ?_
    rintro e w' ⟨rfl, rfl⟩
    exact ⟨_, D, rfl, (R_internal_stringslite_IndexByte.cmp _ _).2 hk, hs, Fr.refl _ _, fun k h1 h2 => absurd h2 h1⟩)
noncomputable def A_strings_IndexByte : ArgT (ByteArray × Int × Unit) := (ArgT.cons (Ty.leaf .str) (ArgT.cons (Ty.leaf (.int .u8)) ArgT.nil))
noncomputable def R_strings_IndexByte : Ty Int := (Ty.leaf (.int .i64))
noncomputable def e_strings_IndexByte : FSem := mkE A_strings_IndexByte R_strings_IndexByte (fun a => F.strings_IndexByte a.1 a.2.1)
noncomputable def c_strings_IndexByte : Cfg := { P := Go.Proofs.Try.prog, n := 8, tab := [(39, e_internal_stringslite_IndexByte)], mutL := [], rtL := [], locL := [] }
noncomputable def b_strings_IndexByte : Code := match Go.Proofs.Try.f34.body with | some c => c | none => .skip
noncomputable def a_strings_IndexByte : An := (.seq .leaf (.seq .leaf .leaf))
theorem t_strings_IndexByte : Entry Go.Proofs.Try.prog 34 e_strings_IndexByte false :=
  entry_of (C := c_strings_IndexByte) (fn := Go.Proofs.Try.f34) (c := b_strings_IndexByte) (an := a_strings_IndexByte) ⟨t_internal_stringslite_IndexByte, trivial⟩ Go.Proofs.Try.func34 rfl rfl (by decide) (fun _ => rfl) (by intro a K D; kernel_rfl)
noncomputable def A_lexer_quoted : ArgT (ByteArray × Unit) := (ArgT.cons (Ty.leaf .str) ArgT.nil)
noncomputable def R_lexer_quoted : Ty Int := (Ty.leaf (.int .i64))
noncomputable def e_lexer_quoted : FSem := mkE A_lexer_quoted R_lexer_quoted (fun a => F.lexer_quoted a.1)
noncomputable def c_lexer_quoted : Cfg := { P := Go.Proofs.Try.prog, n := 40, tab := [(34, e_strings_IndexByte)], mutL := [], rtL := [], locL := [] }
noncomputable def b_lexer_quoted : Code := match Go.Proofs.Try.f28.body with | some c => c | none => .skip
noncomputable def a_lexer_quoted : An := (.seq .leaf (.seq (.seq .leaf (.block (.loop [(3, .leaf (.int .i64))] (.seq (.seq .leaf (.cond .leaf .leaf)) (.join [(3, .leaf (.int .i64))] (.block (.block (.seq .leaf (.cond (.seq .leaf .leaf) (.seq .leaf (.cond (.seq .leaf .leaf) (.seq .leaf (.cond (.seq .leaf (.seq .leaf (.cond (.seq .leaf .leaf) .leaf))) .leaf)))))))) .leaf))))) (.seq .leaf .leaf)))
theorem t_lexer_quoted : Entry Go.Proofs.Try.prog 28 e_lexer_quoted false :=
  entry_of (C := c_lexer_quoted) (fn := Go.Proofs.Try.f28) (c := b_lexer_quoted) (an := a_lexer_quoted) ⟨t_strings_IndexByte, trivial⟩ Go.Proofs.Try.func28 rfl rfl (by decide) (fun _ => rfl) (by intro a K D; kernel_rfl)
noncomputable def A_lexer_next : ArgT (ByteArray × Unit) := (ArgT.cons (Ty.leaf .str) ArgT.nil)
noncomputable def R_lexer_next : Ty (Int × Int) := (Ty.tup (.cons (Ty.leaf (.int .i64)) (.cons (Ty.leaf (.int .i64)) .nil)) (fun x => (x.1, x.2, ())) (fun y => (y.1, y.2.1)) (fun _ => rfl) (fun _ => rfl))
noncomputable def e_lexer_next : FSem := mkE A_lexer_next R_lexer_next (fun a => F.lexer_next a.1)
noncomputable def c_lexer_next : Cfg := { P := Go.Proofs.Try.prog, n := 29, tab := [(25, e_lexer_isLetter), (26, e_lexer_span_lexer_isWord), (32, e_lexer_isDigit), (33, e_lexer_number), (28, e_lexer_quoted), (34, e_strings_IndexByte)], mutL := [], rtL := [], locL := [] }
noncomputable def b_lexer_next : Code := match Go.Proofs.Try.f20.body with | some c => c | none => .skip
noncomputable def a_lexer_next : An := (.seq .leaf (.seq (.seq .leaf (.block (.seq .leaf (.cond (.seq .leaf .leaf) (.seq .leaf (.cond (.seq .leaf .leaf) (.seq .leaf (.cond (.seq .leaf .leaf) (.seq .leaf (.cond (.seq .leaf .leaf) (.seq .leaf (.cond (.seq .leaf .leaf) .leaf)))))))))))) (.seq .leaf .leaf)))
theorem t_lexer_next : Entry Go.Proofs.Try.prog 20 e_lexer_next false :=
  entry_of (C := c_lexer_next) (fn := Go.Proofs.Try.f20) (c := b_lexer_next) (an := a_lexer_next) ⟨t_lexer_isLetter, t_lexer_span_lexer_isWord, t_lexer_isDigit, t_lexer_number, t_lexer_quoted, t_strings_IndexByte, trivial⟩ Go.Proofs.Try.func20 rfl rfl (by decide) (fun _ => rfl) (by intro a K D; kernel_rfl)
noncomputable def A_lexer_Tokens : ArgT (ByteArray × Unit) := (ArgT.cons (Ty.leaf .str) ArgT.nil)
noncomputable def R_lexer_Tokens : Ty (Sl × Int × Int) := (Ty.tup (.cons (Ty.leaf .sl) (.cons (Ty.leaf (.int .i64)) (.cons (Ty.leaf (.int .i64)) .nil))) (fun x => (x.1, x.2.1, x.2.2, ())) (fun y => (y.1, y.2.1, y.2.2.1)) (fun _ => rfl) (fun _ => rfl))
noncomputable def e_lexer_Tokens : FSem := mkE A_lexer_Tokens R_lexer_Tokens (fun a => F.lexer_Tokens a.1)
noncomputable def c_lexer_Tokens : Cfg := { P := Go.Proofs.Try.prog, n := 68, tab := [(20, e_lexer_next)], mutL := [], rtL := [], locL := [57, 66] }
noncomputable def b_lexer_Tokens : Code := match Go.Proofs.Try.f11.body with | some c => c | none => .skip
noncomputable def a_lexer_Tokens : An := (.seq .leaf (.seq (.seq .leaf (.cond (.seq .leaf .leaf) .leaf)) (.seq .leaf (.seq (.seq .leaf (.block (.loop [(5, .leaf (.sl)), (6, .leaf (.int .i64))] (.seq (.seq .leaf (.cond .leaf .leaf)) (.block (.join [(6, .leaf (.int .i64))] (.seq .leaf (.cond (.seq .leaf .leaf) .leaf)) (.seq .leaf (.join [] (.block (.seq .leaf (.cond (.seq .leaf .leaf) (.seq .leaf (.cond (.seq .leaf .leaf) .leaf))))) (.seq .leaf .leaf))))))))) (.seq .leaf .leaf)))))
theorem t_lexer_Tokens : Entry Go.Proofs.Try.prog 11 e_lexer_Tokens false :=
  entry_of (C := c_lexer_Tokens) (fn := Go.Proofs.Try.f11) (c := b_lexer_Tokens) (an := a_lexer_Tokens) ⟨t_lexer_next, trivial⟩ Go.Proofs.Try.func11 rfl rfl (by decide) (fun _ => rfl) (by intro a K D; kernel_rfl)
noncomputable def A_ref21_letter : ArgT (Int × Unit) := (ArgT.cons (Ty.leaf (.int .u8)) ArgT.nil)
noncomputable def R_ref21_letter : Ty Bool := (Ty.leaf .bool)
noncomputable def e_ref21_letter : FSem := mkE A_ref21_letter R_ref21_letter (fun a => F.ref21_letter a.1)
noncomputable def c_ref21_letter : Cfg := { P := Go.Proofs.Try.prog, n := 17, tab := [], mutL := [], rtL := [], locL := [] }
noncomputable def b_ref21_letter : Code := match Go.Proofs.Try.f35.body with | some c => c | none => .skip
noncomputable def a_ref21_letter : An := (.seq .leaf (.seq .leaf .leaf))
theorem t_ref21_letter : Entry Go.Proofs.Try.prog 35 e_ref21_letter false :=
  entry_of (C := c_ref21_letter) (fn := Go.Proofs.Try.f35) (c := b_ref21_letter) (an := a_ref21_letter) trivial Go.Proofs.Try.func35 rfl rfl (by decide) (fun _ => rfl) (by intro a K D; kernel_rfl)
noncomputable def A_ref21_digit : ArgT (Int × Unit) := (ArgT.cons (Ty.leaf (.int .u8)) ArgT.nil)
noncomputable def R_ref21_digit : Ty Bool := (Ty.leaf .bool)
noncomputable def e_ref21_digit : FSem := mkE A_ref21_digit R_ref21_digit (fun a => F.ref21_digit a.1)
noncomputable def c_ref21_digit : Cfg := { P := Go.Proofs.Try.prog, n := 9, tab := [], mutL := [], rtL := [], locL := [] }
noncomputable def b_ref21_digit : Code := match Go.Proofs.Try.f36.body with | some c => c | none => .skip
noncomputable def a_ref21_digit : An := (.seq .leaf (.seq .leaf .leaf))
theorem t_ref21_digit : Entry Go.Proofs.Try.prog 36 e_ref21_digit false :=
  entry_of (C := c_ref21_digit) (fn := Go.Proofs.Try.f36) (c := b_ref21_digit) (an := a_ref21_digit) trivial Go.Proofs.Try.func36 rfl rfl (by decide) (fun _ => rfl) (by intro a K D; kernel_rfl)
noncomputable def A_ref21_word : ArgT (ByteArray × Int × Unit) := (ArgT.cons (Ty.leaf .str) (ArgT.cons (Ty.leaf (.int .i64)) ArgT.nil))
noncomputable def R_ref21_word : Ty Int := (Ty.leaf (.int .i64))
noncomputable def e_ref21_word : FSem := mkE A_ref21_word R_ref21_word (fun a => F.ref21_word a.1 a.2.1)
noncomputable def c_ref21_word : Cfg := { P := Go.Proofs.Try.prog, n := 42, tab := [(35, e_ref21_letter), (36, e_ref21_digit)], mutL := [], rtL := [], locL := [] }
noncomputable def b_ref21_word : Code := match Go.Proofs.Try.f21.body with | some c => c | none => .skip
noncomputable def a_ref21_word : An := (.seq .leaf (.join [] (.seq .leaf (.cond (.seq .leaf .leaf) .leaf)) (.seq (.block (.loop [(1, .leaf (.int .i64))] (.join [] (.seq .leaf (.cond .leaf .leaf)) (.block .leaf)))) (.seq .leaf .leaf))))
theorem t_ref21_word : Entry Go.Proofs.Try.prog 21 e_ref21_word false :=
  entry_of (C := c_ref21_word) (fn := Go.Proofs.Try.f21) (c := b_ref21_word) (an := a_ref21_word) ⟨t_ref21_letter, t_ref21_digit, trivial⟩ Go.Proofs.Try.func21 rfl rfl (by decide) (fun _ => rfl) (by intro a K D; kernel_rfl)
noncomputable def A_ref21_symbol : ArgT (Int × Unit) := (ArgT.cons (Ty.leaf (.int .u8)) ArgT.nil)
noncomputable def R_ref21_symbol : Ty Bool := (Ty.leaf .bool)
noncomputable def e_ref21_symbol : FSem := mkE A_ref21_symbol R_ref21_symbol (fun a => F.ref21_symbol a.1)
noncomputable def c_ref21_symbol : Cfg := { P := Go.Proofs.Try.prog, n := 12, tab := [], mutL := [], rtL := [], locL := [] }
noncomputable def b_ref21_symbol : Code := match Go.Proofs.Try.f24.body with | some c => c | none => .skip
noncomputable def a_ref21_symbol : An := (.seq .leaf (.seq (.seq .leaf (.block (.loop [(3, .leaf (.int .i64))] (.seq (.seq .leaf (.cond .leaf .leaf)) (.seq (.block (.seq .leaf (.cond (.seq .leaf .leaf) .leaf))) .leaf))))) (.seq .leaf .leaf)))
theorem t_ref21_symbol : Entry Go.Proofs.Try.prog 24 e_ref21_symbol false :=
  entry_of (C := c_ref21_symbol) (fn := Go.Proofs.Try.f24) (c := b_ref21_symbol) (an := a_ref21_symbol) trivial Go.Proofs.Try.func24 rfl rfl (by decide) (fun _ => rfl) (by intro a K D; kernel_rfl)
noncomputable def A_ref21_quoted : ArgT (ByteArray × Int × Unit) := (ArgT.cons (Ty.leaf .str) (ArgT.cons (Ty.leaf (.int .i64)) ArgT.nil))
noncomputable def R_ref21_quoted : Ty (Int × ByteArray) := (Ty.tup (.cons (Ty.leaf (.int .i64)) (.cons (Ty.leaf .str) .nil)) (fun x => (x.1, x.2, ())) (fun y => (y.1, y.2.1)) (fun _ => rfl) (fun _ => rfl))
noncomputable def e_ref21_quoted : FSem := mkE A_ref21_quoted R_ref21_quoted (fun a => F.ref21_quoted a.1 a.2.1)
noncomputable def c_ref21_quoted : Cfg := { P := Go.Proofs.Try.prog, n := 78, tab := [], mutL := [], rtL := [], locL := [75] }
noncomputable def b_ref21_quoted : Code := match Go.Proofs.Try.f23.body with | some c => c | none => .skip
noncomputable def a_ref21_quoted : An := (.seq .leaf (.seq .leaf (.join [] (.seq .leaf (.cond (.seq .leaf .leaf) .leaf)) (.seq (.seq .leaf (.block (.loop [(6, .leaf (.sl)), (7, .leaf (.int .i64))] (.seq (.seq .leaf (.cond .leaf .leaf)) (.seq (.block (.seq .leaf (.seq (.seq .leaf (.cond (.seq .leaf .leaf) .leaf)) (.seq (.seq .leaf (.cond (.seq (.draw [0, 1, 2, 4, 3, 5]) .leaf) .leaf)) (.join [(7, .leaf (.int .i64)), (8, .leaf (.int .u8))] (.seq .leaf (.cond (.seq .leaf (.join [] (.seq .leaf (.cond (.seq .leaf .leaf) .leaf)) (.seq .leaf (.seq .leaf (.cond .leaf .leaf))))) .leaf)) .leaf))))) .leaf))))) (.seq .leaf .leaf)))))
theorem t_ref21_quoted : Entry Go.Proofs.Try.prog 23 e_ref21_quoted false :=
  entry_of (C := c_ref21_quoted) (fn := Go.Proofs.Try.f23) (c := b_ref21_quoted) (an := a_ref21_quoted) trivial Go.Proofs.Try.func23 rfl rfl (by decide) (fun _ => rfl) (by intro a K D; kernel_rfl)
noncomputable def A_ref21_digits : ArgT (ByteArray × Int × Unit) := (ArgT.cons (Ty.leaf .str) (ArgT.cons (Ty.leaf (.int .i64)) ArgT.nil))
noncomputable def R_ref21_digits : Ty Int := (Ty.leaf (.int .i64))
noncomputable def e_ref21_digits : FSem := mkE A_ref21_digits R_ref21_digits (fun a => F.ref21_digits a.1 a.2.1)
noncomputable def c_ref21_digits : Cfg := { P := Go.Proofs.Try.prog, n := 18, tab := [(36, e_ref21_digit)], mutL := [], rtL := [], locL := [] }
noncomputable def b_ref21_digits : Code := match Go.Proofs.Try.f37.body with | some c => c | none => .skip
noncomputable def a_ref21_digits : An := (.seq .leaf (.seq (.block (.loop [(1, .leaf (.int .i64))] (.join [] (.seq .leaf (.cond .leaf .leaf)) (.block .leaf)))) (.seq .leaf .leaf)))
theorem t_ref21_digits : Entry Go.Proofs.Try.prog 37 e_ref21_digits false :=
  entry_of (C := c_ref21_digits) (fn := Go.Proofs.Try.f37) (c := b_ref21_digits) (an := a_ref21_digits) ⟨t_ref21_digit, trivial⟩ Go.Proofs.Try.func37 rfl rfl (by decide) (fun _ => rfl) (by intro a K D; kernel_rfl)
noncomputable def A_ref21_number : ArgT (ByteArray × Int × Unit) := (ArgT.cons (Ty.leaf .str) (ArgT.cons (Ty.leaf (.int .i64)) ArgT.nil))
noncomputable def R_ref21_number : Ty Int := (Ty.leaf (.int .i64))
noncomputable def e_ref21_number : FSem := mkE A_ref21_number R_ref21_number (fun a => F.ref21_number a.1 a.2.1)
noncomputable def c_ref21_number : Cfg := { P := Go.Proofs.Try.prog, n := 38, tab := [(37, e_ref21_digits)], mutL := [], rtL := [], locL := [] }
noncomputable def b_ref21_number : Code := match Go.Proofs.Try.f22.body with | some c => c | none => .skip
noncomputable def a_ref21_number : An := (.seq .leaf (.seq .leaf (.seq (.seq .leaf (.cond (.seq .leaf .leaf) .leaf)) (.seq .leaf .leaf))))
theorem t_ref21_number : Entry Go.Proofs.Try.prog 22 e_ref21_number false :=
  entry_of (C := c_ref21_number) (fn := Go.Proofs.Try.f22) (c := b_ref21_number) (an := a_ref21_number) ⟨t_ref21_digits, trivial⟩ Go.Proofs.Try.func22 rfl rfl (by decide) (fun _ => rfl) (by intro a K D; kernel_rfl)
noncomputable def A_ref21_Tokens : ArgT (ByteArray × Unit) := (ArgT.cons (Ty.leaf .str) ArgT.nil)
noncomputable def R_ref21_Tokens : Ty (Sl × Int × Int) := (Ty.tup (.cons (Ty.leaf .sl) (.cons (Ty.leaf (.int .i64)) (.cons (Ty.leaf (.int .i64)) .nil))) (fun x => (x.1, x.2.1, x.2.2, ())) (fun y => (y.1, y.2.1, y.2.2.1)) (fun _ => rfl) (fun _ => rfl))
noncomputable def e_ref21_Tokens : FSem := mkE A_ref21_Tokens R_ref21_Tokens (fun a => F.ref21_Tokens a.1)
noncomputable def c_ref21_Tokens : Cfg := { P := Go.Proofs.Try.prog, n := 94, tab := [(21, e_ref21_word), (24, e_ref21_symbol), (23, e_ref21_quoted), (22, e_ref21_number)], mutL := [], rtL := [], locL := [85, 92] }
noncomputable def b_ref21_Tokens : Code := match Go.Proofs.Try.f12.body with | some c => c | none => .skip
noncomputable def a_ref21_Tokens : An := (.seq .leaf (.seq (.seq .leaf (.cond (.seq .leaf .leaf) .leaf)) (.seq .leaf (.seq .leaf (.seq (.block (.loop [(5, .leaf (.sl)), (6, .leaf (.int .i64))] (.seq (.seq .leaf (.cond .leaf .leaf)) (.block (.join [(6, .leaf (.int .i64))] (.seq .leaf (.cond (.seq .leaf .leaf) .leaf)) (.seq .leaf (.seq (.seq .leaf (.cond (.seq .leaf .leaf) .leaf)) (.join [(7, .leaf (.int .i64)), (8, .leaf (.int .i64))] (.seq .leaf (.cond .leaf .leaf)) (.join [(7, .leaf (.int .i64)), (8, .leaf (.int .i64))] (.seq .leaf (.cond (.seq .leaf .leaf) .leaf)) (.join [(7, .leaf (.int .i64)), (8, .leaf (.int .i64))] (.seq .leaf (.cond .leaf .leaf)) (.join [(7, .leaf (.int .i64)), (8, .leaf (.int .i64))] (.seq .leaf (.cond .leaf .leaf)) (.seq (.seq .leaf (.cond (.seq .leaf .leaf) .leaf)) (.seq .leaf .leaf))))))))))))) (.seq .leaf .leaf))))))
theorem t_ref21_Tokens : Entry Go.Proofs.Try.prog 12 e_ref21_Tokens false :=
  entry_of (C := c_ref21_Tokens) (fn := Go.Proofs.Try.f12) (c := b_ref21_Tokens) (an := a_ref21_Tokens) ⟨t_ref21_word, t_ref21_symbol, t_ref21_quoted, t_ref21_number, trivial⟩ Go.Proofs.Try.func12 rfl rfl (by decide) (fun _ => rfl) (by intro a K D; kernel_rfl)
noncomputable def A_law21_same : ArgT (Sl × Sl × Unit) := (ArgT.cons (Ty.leaf .sl) (ArgT.cons (Ty.leaf .sl) ArgT.nil))
noncomputable def R_law21_same : Ty Bool := (Ty.leaf .bool)
noncomputable def e_law21_same : FSem := mkE A_law21_same R_law21_same (fun a => F.law21_same a.1 a.2.1)
noncomputable def c_law21_same : Cfg := { P := Go.Proofs.Try.prog, n := 48, tab := [], mutL := [], rtL := [(19, 6), (28, 6), (38, 6)], locL := [6] }
noncomputable def b_law21_same : Code := match Go.Proofs.Try.f13.body with | some c => c | none => .skip
noncomputable def a_law21_same : An := (.seq .leaf (.seq (.seq .leaf (.cond (.seq .leaf .leaf) .leaf)) (.seq (.seq .leaf (.block (.loop [(14, .leaf (.int .i64))] (.seq .leaf (.seq (.cond .leaf .leaf) (.join [] (.block (.seq .leaf (.seq (.draw [0, 1, 2, 3, 4, 5, 6, 7, 8, 9, 10, 11, 12, 13, 14, 15, 16, 17, 18, 19, 20, 21, 22, 23, 24, 25, 26, 27]) (.cond (.seq .leaf .leaf) .leaf)))) .leaf)))))) (.seq .leaf .leaf))))
theorem t_law21_same : Entry Go.Proofs.Try.prog 13 e_law21_same false :=
  entry_of (C := c_law21_same) (fn := Go.Proofs.Try.f13) (c := b_law21_same) (an := a_law21_same) trivial Go.Proofs.Try.func13 rfl rfl (by decide) (fun _ => rfl) (by intro a K D; kernel_rfl)
noncomputable def A_law21_awake : ArgT (Unit) := ArgT.nil
noncomputable def R_law21_awake : Ty Bool := (Ty.leaf .bool)
noncomputable def e_law21_awake : FSem := mkE A_law21_awake R_law21_awake (fun a => F.law21_awake )
noncomputable def c_law21_awake : Cfg := { P := Go.Proofs.Try.prog, n := 61, tab := [(11, e_lexer_Tokens), (13, e_law21_same)], mutL := [], rtL := [], locL := [] }
noncomputable def b_law21_awake : Code := match Go.Proofs.Try.f10.body with | some c => c | none => .skip
noncomputable def a_law21_awake : An := (.seq .leaf (.seq .leaf (.seq .leaf (.seq .leaf (.seq .leaf .leaf)))))
theorem t_law21_awake : Entry Go.Proofs.Try.prog 10 e_law21_awake false :=
  entry_of (C := c_law21_awake) (fn := Go.Proofs.Try.f10) (c := b_law21_awake) (an := a_law21_awake) ⟨t_lexer_Tokens, t_law21_same, trivial⟩ Go.Proofs.Try.func10 rfl rfl (by decide) (fun _ => rfl) (by intro a K D; kernel_rfl)
noncomputable def A_law21_LexerTokens : ArgT (ByteArray × Unit) := (ArgT.cons (Ty.leaf .str) ArgT.nil)
noncomputable def R_law21_LexerTokens : Ty Bool := (Ty.leaf .bool)
noncomputable def e_law21_LexerTokens : FSem := mkE A_law21_LexerTokens R_law21_LexerTokens (fun a => F.law21_LexerTokens a.1)
noncomputable def c_law21_LexerTokens : Cfg := { P := Go.Proofs.Try.prog, n := 42, tab := [(11, e_lexer_Tokens), (12, e_ref21_Tokens), (13, e_law21_same), (10, e_law21_awake)], mutL := [], rtL := [], locL := [] }
noncomputable def b_law21_LexerTokens : Code := match Go.Proofs.Try.f3.body with | some c => c | none => .skip
noncomputable def a_law21_LexerTokens : An := (.seq .leaf (.join [] (.seq .leaf (.cond (.seq .leaf .leaf) .leaf)) (.seq .leaf (.seq .leaf (.seq .leaf .leaf)))))
theorem t_law21_LexerTokens : Entry Go.Proofs.Try.prog 3 e_law21_LexerTokens false :=
  entry_of (C := c_law21_LexerTokens) (fn := Go.Proofs.Try.f3) (c := b_law21_LexerTokens) (an := a_law21_LexerTokens) ⟨t_lexer_Tokens, t_ref21_Tokens, t_law21_same, t_law21_awake, trivial⟩ Go.Proofs.Try.func3 rfl rfl (by decide) (fun _ => rfl) (by intro a K D; kernel_rfl)
noncomputable def A_law21_LexerPositions : ArgT (ByteArray × Unit) := (ArgT.cons (Ty.leaf .str) ArgT.nil)
noncomputable def R_law21_LexerPositions : Ty Bool := (Ty.leaf .bool)
noncomputable def e_law21_LexerPositions : FSem := mkE A_law21_LexerPositions R_law21_LexerPositions (fun a => F.law21_LexerPositions a.1)
noncomputable def c_law21_LexerPositions : Cfg := { P := Go.Proofs.Try.prog, n := 110, tab := [(11, e_lexer_Tokens), (10, e_law21_awake)], mutL := [], rtL := [(36, 8), (41, 8), (43, 8), (53, 8), (55, 8), (57, 8), (62, 8), (68, 8), (84, 8), (86, 8)], locL := [8] }
noncomputable def b_law21_LexerPositions : Code := match Go.Proofs.Try.f4.body with | some c => c | none => .skip
noncomputable def a_law21_LexerPositions : An := (.seq .leaf (.join [] (.seq .leaf (.cond (.seq .leaf .leaf) .leaf)) (.seq .leaf (.seq (.seq .leaf (.cond (.seq .leaf .leaf) .leaf)) (.seq .leaf (.seq (.seq .leaf (.block (.loop [(6, .leaf (.int .i64)), (32, .leaf (.int .i64))] (.seq .leaf (.seq (.cond .leaf .leaf) (.seq (.block (.seq .leaf (.join [] (.seq (.draw [0, 1, 2, 3, 4, 5, 6, 7, 8, 9, 10, 11, 12, 13, 14, 15, 16, 17, 18, 19, 20, 21, 22, 23, 24, 25, 26, 27, 28, 29]) (.cond (.seq .leaf .leaf) .leaf)) (.seq (.seq .leaf (.block (.loop [(73, .leaf (.int .i64))] (.seq .leaf (.seq (.cond .leaf .leaf) (.join [] (.block (.seq .leaf (.seq .leaf (.cond (.seq .leaf .leaf) .leaf)))) .leaf)))))) .leaf)))) .leaf)))))) (.seq .leaf .leaf)))))))
theorem t_law21_LexerPositions : Entry Go.Proofs.Try.prog 4 e_law21_LexerPositions false :=
  entry_of (C := c_law21_LexerPositions) (fn := Go.Proofs.Try.f4) (c := b_law21_LexerPositions) (an := a_law21_LexerPositions) ⟨t_lexer_Tokens, t_law21_awake, trivial⟩ Go.Proofs.Try.func4 rfl rfl (by decide) (fun _ => rfl) (by intro a K D; kernel_rfl)
noncomputable def A_law21_LexerSpaced : ArgT (ByteArray × Unit) := (ArgT.cons (Ty.leaf .str) ArgT.nil)
noncomputable def R_law21_LexerSpaced : Ty Bool := (Ty.leaf .bool)
noncomputable def e_law21_LexerSpaced : FSem := mkE A_law21_LexerSpaced R_law21_LexerSpaced (fun a => F.law21_LexerSpaced a.1)
noncomputable def c_law21_LexerSpaced : Cfg := { P := Go.Proofs.Try.prog, n := 86, tab := [(11, e_lexer_Tokens), (10, e_law21_awake)], mutL := [], rtL := [(36, 8)], locL := [8] }
noncomputable def b_law21_LexerSpaced : Code := match Go.Proofs.Try.f5.body with | some c => c | none => .skip
noncomputable def a_law21_LexerSpaced : An := (.seq .leaf (.join [] (.seq .leaf (.cond (.seq .leaf .leaf) .leaf)) (.seq .leaf (.seq (.seq .leaf (.cond (.seq .leaf .leaf) .leaf)) (.seq .leaf (.seq (.seq .leaf (.block (.loop [(6, .leaf (.str)), (31, .leaf (.int .i64))] (.seq .leaf (.seq (.cond .leaf .leaf) (.seq (.block (.seq .leaf .leaf)) .leaf)))))) (.seq .leaf (.join [] (.seq .leaf (.cond (.seq .leaf .leaf) .leaf)) (.seq (.seq .leaf (.block (.loop [(58, .leaf (.int .i64))] (.seq .leaf (.seq (.cond .leaf .leaf) (.join [] (.block (.seq .leaf (.seq (.draw [0, 1, 2, 3, 4, 5, 6, 7, 8, 9, 10, 11, 12, 13, 14, 15, 16, 17, 18, 19, 20, 21, 22, 23]) (.cond (.seq .leaf .leaf) .leaf)))) .leaf)))))) (.seq .leaf .leaf))))))))))
theorem t_law21_LexerSpaced : Entry Go.Proofs.Try.prog 5 e_law21_LexerSpaced false :=
  entry_of (C := c_law21_LexerSpaced) (fn := Go.Proofs.Try.f5) (c := b_law21_LexerSpaced) (an := a_law21_LexerSpaced) ⟨t_lexer_Tokens, t_law21_awake, trivial⟩ Go.Proofs.Try.func5 rfl rfl (by decide) (fun _ => rfl) (by intro a K D; kernel_rfl)
noncomputable def A_law21_LexerLimits : ArgT (Int × Int × Unit) := (ArgT.cons (Ty.leaf (.int .u8)) (ArgT.cons (Ty.leaf (.int .u8)) ArgT.nil))
noncomputable def R_law21_LexerLimits : Ty Bool := (Ty.leaf .bool)
noncomputable def e_law21_LexerLimits : FSem := mkE A_law21_LexerLimits R_law21_LexerLimits (fun a => F.law21_LexerLimits a.1 a.2.1)
noncomputable def c_law21_LexerLimits : Cfg := { P := Go.Proofs.Try.prog, n := 102, tab := [(10, e_law21_awake), (11, e_lexer_Tokens)], mutL := [], rtL := [], locL := [] }
noncomputable def b_law21_LexerLimits : Code := match Go.Proofs.Try.f6.body with | some c => c | none => .skip
noncomputable def a_law21_LexerLimits : An := (.seq .leaf (.seq (.seq .leaf (.cond (.seq .leaf .leaf) .leaf)) (.seq .leaf (.seq (.seq .leaf (.block (.loop [(19, .leaf (.int .i64))] (.seq .leaf (.seq (.cond .leaf .leaf) (.seq (.block (.seq .leaf .leaf)) .leaf)))))) (.seq (.seq .leaf (.block (.loop [(29, .leaf (.int .i64))] (.seq .leaf (.seq (.cond .leaf .leaf) (.seq (.block (.seq .leaf .leaf)) .leaf)))))) (.seq .leaf (.seq (.block (.seq .leaf (.cond (.seq .leaf .leaf) (.seq .leaf (.cond (.seq .leaf .leaf) (.seq .leaf (.cond (.seq .leaf .leaf) .leaf))))))) (.seq .leaf .leaf))))))))
theorem t_law21_LexerLimits : Entry Go.Proofs.Try.prog 6 e_law21_LexerLimits false :=
  entry_of (C := c_law21_LexerLimits) (fn := Go.Proofs.Try.f6) (c := b_law21_LexerLimits) (an := a_law21_LexerLimits) ⟨t_law21_awake, t_lexer_Tokens, trivial⟩ Go.Proofs.Try.func6 rfl rfl (by decide) (fun _ => rfl) (by intro a K D; kernel_rfl)
noncomputable def A_lexer_IsName : ArgT (ByteArray × Unit) := (ArgT.cons (Ty.leaf .str) ArgT.nil)
noncomputable def R_lexer_IsName : Ty Bool := (Ty.leaf .bool)
noncomputable def e_lexer_IsName : FSem := mkE A_lexer_IsName R_lexer_IsName (fun a => F.lexer_IsName a.1)
noncomputable def c_lexer_IsName : Cfg := { P := Go.Proofs.Try.prog, n := 22, tab := [(25, e_lexer_isLetter), (26, e_lexer_span_lexer_isWord)], mutL := [], rtL := [], locL := [] }
noncomputable def b_lexer_IsName : Code := match Go.Proofs.Try.f14.body with | some c => c | none => .skip
noncomputable def a_lexer_IsName : An := (.seq .leaf (.seq .leaf .leaf))
theorem t_lexer_IsName : Entry Go.Proofs.Try.prog 14 e_lexer_IsName false :=
  entry_of (C := c_lexer_IsName) (fn := Go.Proofs.Try.f14) (c := b_lexer_IsName) (an := a_lexer_IsName) ⟨t_lexer_isLetter, t_lexer_span_lexer_isWord, trivial⟩ Go.Proofs.Try.func14 rfl rfl (by decide) (fun _ => rfl) (by intro a K D; kernel_rfl)
noncomputable def A_ref21_IsName : ArgT (ByteArray × Unit) := (ArgT.cons (Ty.leaf .str) ArgT.nil)
noncomputable def R_ref21_IsName : Ty Bool := (Ty.leaf .bool)
noncomputable def e_ref21_IsName : FSem := mkE A_ref21_IsName R_ref21_IsName (fun a => F.ref21_IsName a.1)
noncomputable def c_ref21_IsName : Cfg := { P := Go.Proofs.Try.prog, n := 17, tab := [(21, e_ref21_word)], mutL := [], rtL := [], locL := [] }
noncomputable def b_ref21_IsName : Code := match Go.Proofs.Try.f15.body with | some c => c | none => .skip
noncomputable def a_ref21_IsName : An := (.seq .leaf (.seq .leaf .leaf))
theorem t_ref21_IsName : Entry Go.Proofs.Try.prog 15 e_ref21_IsName false :=
  entry_of (C := c_ref21_IsName) (fn := Go.Proofs.Try.f15) (c := b_ref21_IsName) (an := a_ref21_IsName) ⟨t_ref21_word, trivial⟩ Go.Proofs.Try.func15 rfl rfl (by decide) (fun _ => rfl) (by intro a K D; kernel_rfl)
noncomputable def A_law21_LexerNames : ArgT (ByteArray × Unit) := (ArgT.cons (Ty.leaf .str) ArgT.nil)
noncomputable def R_law21_LexerNames : Ty Bool := (Ty.leaf .bool)
noncomputable def e_law21_LexerNames : FSem := mkE A_law21_LexerNames R_law21_LexerNames (fun a => F.law21_LexerNames a.1)
noncomputable def c_law21_LexerNames : Cfg := { P := Go.Proofs.Try.prog, n := 16, tab := [(14, e_lexer_IsName), (15, e_ref21_IsName), (10, e_law21_awake)], mutL := [], rtL := [], locL := [] }
noncomputable def b_law21_LexerNames : Code := match Go.Proofs.Try.f7.body with | some c => c | none => .skip
noncomputable def a_law21_LexerNames : An := (.seq .leaf (.join [] (.seq .leaf (.cond (.seq .leaf .leaf) .leaf)) (.seq .leaf .leaf)))
theorem t_law21_LexerNames : Entry Go.Proofs.Try.prog 7 e_law21_LexerNames false :=
  entry_of (C := c_law21_LexerNames) (fn := Go.Proofs.Try.f7) (c := b_law21_LexerNames) (an := a_law21_LexerNames) ⟨t_lexer_IsName, t_ref21_IsName, t_law21_awake, trivial⟩ Go.Proofs.Try.func7 rfl rfl (by decide) (fun _ => rfl) (by intro a K D; kernel_rfl)
noncomputable def A_ref21_Unquote : ArgT (ByteArray × Unit) := (ArgT.cons (Ty.leaf .str) ArgT.nil)
noncomputable def R_ref21_Unquote : Ty (ByteArray × Int) := (Ty.tup (.cons (Ty.leaf .str) (.cons (Ty.leaf (.int .i64)) .nil)) (fun x => (x.1, x.2, ())) (fun y => (y.1, y.2.1)) (fun _ => rfl) (fun _ => rfl))
noncomputable def e_ref21_Unquote : FSem := mkE A_ref21_Unquote R_ref21_Unquote (fun a => F.ref21_Unquote a.1)
noncomputable def c_ref21_Unquote : Cfg := { P := Go.Proofs.Try.prog, n := 20, tab := [(23, e_ref21_quoted)], mutL := [], rtL := [], locL := [] }
noncomputable def b_ref21_Unquote : Code := match Go.Proofs.Try.f17.body with | some c => c | none => .skip
noncomputable def a_ref21_Unquote : An := (.seq .leaf (.seq .leaf (.join [] (.seq .leaf (.cond (.seq .leaf .leaf) .leaf)) (.seq .leaf .leaf))))
theorem t_ref21_Unquote : Entry Go.Proofs.Try.prog 17 e_ref21_Unquote false :=
  entry_of (C := c_ref21_Unquote) (fn := Go.Proofs.Try.f17) (c := b_ref21_Unquote) (an := a_ref21_Unquote) ⟨t_ref21_quoted, trivial⟩ Go.Proofs.Try.func17 rfl rfl (by decide) (fun _ => rfl) (by intro a K D; kernel_rfl)
noncomputable def A_ref21_Quote : ArgT (ByteArray × Unit) := (ArgT.cons (Ty.leaf .str) ArgT.nil)
noncomputable def R_ref21_Quote : Ty ByteArray := (Ty.leaf .str)
noncomputable def e_ref21_Quote : FSem := mkE A_ref21_Quote R_ref21_Quote (fun a => F.ref21_Quote a.1)
noncomputable def c_ref21_Quote : Cfg := { P := Go.Proofs.Try.prog, n := 40, tab := [], mutL := [], rtL := [], locL := [19, 30, 34, 37] }
noncomputable def b_ref21_Quote : Code := match Go.Proofs.Try.f19.body with | some c => c | none => .skip
noncomputable def a_ref21_Quote : An := (.seq .leaf (.seq .leaf (.seq (.seq .leaf (.block (.loop [(3, .leaf (.sl)), (4, .leaf (.int .i64))] (.seq (.seq .leaf (.cond .leaf .leaf)) (.join [(3, .leaf (.sl))] (.block (.seq .leaf (.seq (.seq .leaf (.cond (.seq .leaf .leaf) .leaf)) (.seq (.seq .leaf (.cond (.seq .leaf .leaf) .leaf)) (.join [(3, .leaf (.sl))] (.seq .leaf (.cond .leaf .leaf)) .leaf))))) .leaf))))) (.seq .leaf .leaf))))
theorem t_ref21_Quote : Entry Go.Proofs.Try.prog 19 e_ref21_Quote false :=
  entry_of (C := c_ref21_Quote) (fn := Go.Proofs.Try.f19) (c := b_ref21_Quote) (an := a_ref21_Quote) trivial Go.Proofs.Try.func19 rfl rfl (by decide) (fun _ => rfl) (by intro a K D; kernel_rfl)
end Den
