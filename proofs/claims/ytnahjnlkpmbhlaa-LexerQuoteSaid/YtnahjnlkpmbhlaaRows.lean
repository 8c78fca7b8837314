/-
  No cell of these rows narrows 'for every input' (looked for: loops, veiled, ifaces, maps, wideKeys, modest, calm, conditions, laid).
  DERIVED. THE GIVEN ROWS OF THIS SEAT. 7 by the template 'for every input the law returns true; each argument reads behind the call as it read before'; 0 by the template 'total and deterministic' (their statements: YtnahjnlkpmbhlaaTotals.lean).
  GIVEN WITH THE SEED: the statements are not yours to turn. If you find one false, say at which input.
  Laid BY PROGRAM, IN A SANDBOX (cutbox-rows.mjs): the forced cells as the released guide's own fill.sh prints them over the translation 01691c9b65e95624… (all of the seat's roots in one cut). By AI agents, Wed Nov 11 2026. No macro, syntax, notation, axiom, sorry.
-/
import Derived.Test.YtnahjnlkpmbhlaaChecked
import GoSem.Claim
import GoSem.ClaimJoined
import GoSem.ClaimMapViews
import Derived.JoinedTies
import Derived.KernelRfl
namespace Go.Proofs.Ytnahjnlkpmbhlaa
/- THE CELL 'sum', in the pinned program and in every row, IS THE sha256 OF THE DUMP (.gsa) THAT YtnahjnlkpmbhlaaProg.lean LOADS. Nothing in Lean hashes anything: it is a label: what it is worth is what the hold of that sum in a sandbox is worth. -/
noncomputable def Try.pinned : Pinned := { name := "ytnahjnlkpmbhlaa", sum := "01691c9b65e956246e4348d9347fb3d2054ab32a9e250e9bc7a3de671c947713", checked := Try.checked }
namespace Rows
def none {H : Type} : Left H := { results := [], args := [] }

/-- 'setsquarelaw21.LexerTokens': WHATEVER THE INPUT: true; the input reads as it did. -/
def lexerTokensSpec : ChangeSpec := { name := "lexerTokens", fn := fun _ => fun
  | [d] => { results := [.lit (.bool true)], args := [d] }
  | _ => none }
def lexerTokensRow : OpenClaim := { program := "ytnahjnlkpmbhlaa", sum := "01691c9b65e956246e4348d9347fb3d2054ab32a9e250e9bc7a3de671c947713", func := "setsquare/setsquarelaw21.LexerTokens", spec := "lexerTokens", inPlace := ["internal/bytealg.IndexByteString"], unfollowed := true, recurses := true, apart := false }
def LexerTokensSaid : Prop := lexerTokensRow.holds Try.pinned (OpenSpec.ofChange lexerTokensSpec)

/-- ITS FALSE NEIGHBOUR: 'it returns false'. Refute it at one input. -/
def lexerTokensWrong : ChangeSpec := { name := "lexerTokens", fn := fun _ => fun
  | [d] => { results := [.lit (.bool false)], args := [d] }
  | _ => none }
def LexerTokensWrongFalsely : Prop := lexerTokensRow.holds Try.pinned (OpenSpec.ofChange lexerTokensWrong)

/-- 'setsquarelaw21.LexerPositions': WHATEVER THE INPUT: true; the input reads as it did. -/
def lexerPositionsSpec : ChangeSpec := { name := "lexerPositions", fn := fun _ => fun
  | [d] => { results := [.lit (.bool true)], args := [d] }
  | _ => none }
def lexerPositionsRow : OpenClaim := { program := "ytnahjnlkpmbhlaa", sum := "01691c9b65e956246e4348d9347fb3d2054ab32a9e250e9bc7a3de671c947713", func := "setsquare/setsquarelaw21.LexerPositions", spec := "lexerPositions", inPlace := ["internal/bytealg.IndexByteString"], unfollowed := true, recurses := true, apart := false }
def LexerPositionsSaid : Prop := lexerPositionsRow.holds Try.pinned (OpenSpec.ofChange lexerPositionsSpec)

/-- ITS FALSE NEIGHBOUR: 'it returns false'. Refute it at one input. -/
def lexerPositionsWrong : ChangeSpec := { name := "lexerPositions", fn := fun _ => fun
  | [d] => { results := [.lit (.bool false)], args := [d] }
  | _ => none }
def LexerPositionsWrongFalsely : Prop := lexerPositionsRow.holds Try.pinned (OpenSpec.ofChange lexerPositionsWrong)

/-- 'setsquarelaw21.LexerSpaced': WHATEVER THE INPUT: true; the input reads as it did. -/
def lexerSpacedSpec : ChangeSpec := { name := "lexerSpaced", fn := fun _ => fun
  | [d] => { results := [.lit (.bool true)], args := [d] }
  | _ => none }
def lexerSpacedRow : OpenClaim := { program := "ytnahjnlkpmbhlaa", sum := "01691c9b65e956246e4348d9347fb3d2054ab32a9e250e9bc7a3de671c947713", func := "setsquare/setsquarelaw21.LexerSpaced", spec := "lexerSpaced", inPlace := ["internal/bytealg.IndexByteString"], unfollowed := true, recurses := true, apart := false }
def LexerSpacedSaid : Prop := lexerSpacedRow.holds Try.pinned (OpenSpec.ofChange lexerSpacedSpec)

/-- ITS FALSE NEIGHBOUR: 'it returns false'. Refute it at one input. -/
def lexerSpacedWrong : ChangeSpec := { name := "lexerSpaced", fn := fun _ => fun
  | [d] => { results := [.lit (.bool false)], args := [d] }
  | _ => none }
def LexerSpacedWrongFalsely : Prop := lexerSpacedRow.holds Try.pinned (OpenSpec.ofChange lexerSpacedWrong)

/-- 'setsquarelaw21.LexerLimits': WHATEVER THE INPUT: true; the input reads as it did. -/
def lexerLimitsSpec : ChangeSpec := { name := "lexerLimits", fn := fun _ => fun
  | [d1, d2] => { results := [.lit (.bool true)], args := [d1, d2] }
  | _ => none }
def lexerLimitsRow : OpenClaim := { program := "ytnahjnlkpmbhlaa", sum := "01691c9b65e956246e4348d9347fb3d2054ab32a9e250e9bc7a3de671c947713", func := "setsquare/setsquarelaw21.LexerLimits", spec := "lexerLimits", inPlace := ["internal/bytealg.IndexByteString"], unfollowed := true, recurses := true, apart := false }
def LexerLimitsSaid : Prop := lexerLimitsRow.holds Try.pinned (OpenSpec.ofChange lexerLimitsSpec)

/-- ITS FALSE NEIGHBOUR: 'it returns false'. Refute it at one input. -/
def lexerLimitsWrong : ChangeSpec := { name := "lexerLimits", fn := fun _ => fun
  | [d1, d2] => { results := [.lit (.bool false)], args := [d1, d2] }
  | _ => none }
def LexerLimitsWrongFalsely : Prop := lexerLimitsRow.holds Try.pinned (OpenSpec.ofChange lexerLimitsWrong)

/-- 'setsquarelaw21.LexerNames': WHATEVER THE INPUT: true; the input reads as it did. -/
def lexerNamesSpec : ChangeSpec := { name := "lexerNames", fn := fun _ => fun
  | [d] => { results := [.lit (.bool true)], args := [d] }
  | _ => none }
def lexerNamesRow : OpenClaim := { program := "ytnahjnlkpmbhlaa", sum := "01691c9b65e956246e4348d9347fb3d2054ab32a9e250e9bc7a3de671c947713", func := "setsquare/setsquarelaw21.LexerNames", spec := "lexerNames", inPlace := ["internal/bytealg.IndexByteString"], unfollowed := true, recurses := true, apart := false }
def LexerNamesSaid : Prop := lexerNamesRow.holds Try.pinned (OpenSpec.ofChange lexerNamesSpec)

/-- ITS FALSE NEIGHBOUR: 'it returns false'. Refute it at one input. -/
def lexerNamesWrong : ChangeSpec := { name := "lexerNames", fn := fun _ => fun
  | [d] => { results := [.lit (.bool false)], args := [d] }
  | _ => none }
def LexerNamesWrongFalsely : Prop := lexerNamesRow.holds Try.pinned (OpenSpec.ofChange lexerNamesWrong)

/-- 'setsquarelaw21.LexerUnquote': WHATEVER THE INPUT: true; the input reads as it did. -/
def lexerUnquoteSpec : ChangeSpec := { name := "lexerUnquote", fn := fun _ => fun
  | [d] => { results := [.lit (.bool true)], args := [d] }
  | _ => none }
def lexerUnquoteRow : OpenClaim := { program := "ytnahjnlkpmbhlaa", sum := "01691c9b65e956246e4348d9347fb3d2054ab32a9e250e9bc7a3de671c947713", func := "setsquare/setsquarelaw21.LexerUnquote", spec := "lexerUnquote", inPlace := ["internal/bytealg.IndexByteString", "internal/abi.NoEscape"], unfollowed := true, recurses := true, apart := false }
def LexerUnquoteSaid : Prop := lexerUnquoteRow.holds Try.pinned (OpenSpec.ofChange lexerUnquoteSpec)

/-- ITS FALSE NEIGHBOUR: 'it returns false'. Refute it at one input. -/
def lexerUnquoteWrong : ChangeSpec := { name := "lexerUnquote", fn := fun _ => fun
  | [d] => { results := [.lit (.bool false)], args := [d] }
  | _ => none }
def LexerUnquoteWrongFalsely : Prop := lexerUnquoteRow.holds Try.pinned (OpenSpec.ofChange lexerUnquoteWrong)

/-- 'setsquarelaw21.LexerQuote': WHATEVER THE INPUT: true; the input reads as it did. -/
def lexerQuoteSpec : ChangeSpec := { name := "lexerQuote", fn := fun _ => fun
  | [d] => { results := [.lit (.bool true)], args := [d] }
  | _ => none }
def lexerQuoteRow : OpenClaim := { program := "ytnahjnlkpmbhlaa", sum := "01691c9b65e956246e4348d9347fb3d2054ab32a9e250e9bc7a3de671c947713", func := "setsquare/setsquarelaw21.LexerQuote", spec := "lexerQuote", inPlace := ["internal/bytealg.IndexByteString", "internal/abi.NoEscape"], unfollowed := true, recurses := true, apart := false }
def LexerQuoteSaid : Prop := lexerQuoteRow.holds Try.pinned (OpenSpec.ofChange lexerQuoteSpec)

/-- ITS FALSE NEIGHBOUR: 'it returns false'. Refute it at one input. -/
def lexerQuoteWrong : ChangeSpec := { name := "lexerQuote", fn := fun _ => fun
  | [d] => { results := [.lit (.bool false)], args := [d] }
  | _ => none }
def LexerQuoteWrongFalsely : Prop := lexerQuoteRow.holds Try.pinned (OpenSpec.ofChange lexerQuoteWrong)

/- THE SECOND FORM. 'bulk': how many values and letters a reading holds, each counted each time it is reached (what is shared counts as often as it is met; a slice's spare places count too). A statement '..UptoSaid' is the law's where the arguments, and the package variables that the reading takes, are together of bulk at most 1048576: NARROWER than '..Said'. Prove '..Said' where nothing that the law and all that it calls make is longer than what came in: it says more and counts as full. Else prove '..UptoSaid'. A law counts once. -/
mutual
def uptoBulk {H : Type} : DataW H → Nat
  | .lit (.string bytes) => bytes.length + 1
  | .lit _ => 1
  | .nil => 1
  | .ptr d => uptoBulk d + 1
  | .slice elems spare => uptoBulkAll elems + uptoBulkAll spare + 1
  | .agg parts => uptoBulkAll parts + 1
  | .iface _ d => uptoBulk d + 1
  | .map entries => uptoBulkEntries entries + 1
  | .held _ => 1
def uptoBulkAll {H : Type} : List (DataW H) → Nat
  | [] => 0
  | d :: r => uptoBulk d + uptoBulkAll r
def uptoBulkEntries {H : Type} : List (Lit × DataW H) → Nat
  | [] => 0
  | x :: r => uptoBulkEntry x + uptoBulkEntries r
def uptoBulkEntry {H : Type} : Lit × DataW H → Nat
  | (.string bytes, d) => bytes.length + uptoBulk d + 1
  | (_, d) => uptoBulk d + 1
 end
def uptoSmall : (H : Type) → List (DataW H) → Bool := fun _ ds => decide (uptoBulkAll ds ≤ 1048576)
def OpenSpec.upto (s : _root_.Go.ChangeSpec) : _root_.Go.OpenSpec := { _root_.Go.OpenSpec.ofChange s with cond := some uptoSmall }

/-- 'setsquarelaw21.LexerTokens', WHERE WHAT IT READS IS OF BULK AT MOST 1048576: true; the input reads as it did. -/
def lexerTokensUptoRow : OpenClaim := { program := "ytnahjnlkpmbhlaa", sum := "01691c9b65e956246e4348d9347fb3d2054ab32a9e250e9bc7a3de671c947713", func := "setsquare/setsquarelaw21.LexerTokens", spec := "lexerTokens", inPlace := ["internal/bytealg.IndexByteString"], unfollowed := true, recurses := true, apart := false, narrowed := true }
def LexerTokensUptoSaid : Prop := lexerTokensUptoRow.holds Try.pinned (OpenSpec.upto lexerTokensSpec)

/-- 'setsquarelaw21.LexerPositions', WHERE WHAT IT READS IS OF BULK AT MOST 1048576: true; the input reads as it did. -/
def lexerPositionsUptoRow : OpenClaim := { program := "ytnahjnlkpmbhlaa", sum := "01691c9b65e956246e4348d9347fb3d2054ab32a9e250e9bc7a3de671c947713", func := "setsquare/setsquarelaw21.LexerPositions", spec := "lexerPositions", inPlace := ["internal/bytealg.IndexByteString"], unfollowed := true, recurses := true, apart := false, narrowed := true }
def LexerPositionsUptoSaid : Prop := lexerPositionsUptoRow.holds Try.pinned (OpenSpec.upto lexerPositionsSpec)

/-- 'setsquarelaw21.LexerSpaced', WHERE WHAT IT READS IS OF BULK AT MOST 1048576: true; the input reads as it did. -/
def lexerSpacedUptoRow : OpenClaim := { program := "ytnahjnlkpmbhlaa", sum := "01691c9b65e956246e4348d9347fb3d2054ab32a9e250e9bc7a3de671c947713", func := "setsquare/setsquarelaw21.LexerSpaced", spec := "lexerSpaced", inPlace := ["internal/bytealg.IndexByteString"], unfollowed := true, recurses := true, apart := false, narrowed := true }
def LexerSpacedUptoSaid : Prop := lexerSpacedUptoRow.holds Try.pinned (OpenSpec.upto lexerSpacedSpec)

/-- 'setsquarelaw21.LexerLimits', WHERE WHAT IT READS IS OF BULK AT MOST 1048576: true; the input reads as it did. -/
def lexerLimitsUptoRow : OpenClaim := { program := "ytnahjnlkpmbhlaa", sum := "01691c9b65e956246e4348d9347fb3d2054ab32a9e250e9bc7a3de671c947713", func := "setsquare/setsquarelaw21.LexerLimits", spec := "lexerLimits", inPlace := ["internal/bytealg.IndexByteString"], unfollowed := true, recurses := true, apart := false, narrowed := true }
def LexerLimitsUptoSaid : Prop := lexerLimitsUptoRow.holds Try.pinned (OpenSpec.upto lexerLimitsSpec)

/-- 'setsquarelaw21.LexerNames', WHERE WHAT IT READS IS OF BULK AT MOST 1048576: true; the input reads as it did. -/
def lexerNamesUptoRow : OpenClaim := { program := "ytnahjnlkpmbhlaa", sum := "01691c9b65e956246e4348d9347fb3d2054ab32a9e250e9bc7a3de671c947713", func := "setsquare/setsquarelaw21.LexerNames", spec := "lexerNames", inPlace := ["internal/bytealg.IndexByteString"], unfollowed := true, recurses := true, apart := false, narrowed := true }
def LexerNamesUptoSaid : Prop := lexerNamesUptoRow.holds Try.pinned (OpenSpec.upto lexerNamesSpec)

/-- 'setsquarelaw21.LexerUnquote', WHERE WHAT IT READS IS OF BULK AT MOST 1048576: true; the input reads as it did. -/
def lexerUnquoteUptoRow : OpenClaim := { program := "ytnahjnlkpmbhlaa", sum := "01691c9b65e956246e4348d9347fb3d2054ab32a9e250e9bc7a3de671c947713", func := "setsquare/setsquarelaw21.LexerUnquote", spec := "lexerUnquote", inPlace := ["internal/bytealg.IndexByteString", "internal/abi.NoEscape"], unfollowed := true, recurses := true, apart := false, narrowed := true }
def LexerUnquoteUptoSaid : Prop := lexerUnquoteUptoRow.holds Try.pinned (OpenSpec.upto lexerUnquoteSpec)

/-- 'setsquarelaw21.LexerQuote', WHERE WHAT IT READS IS OF BULK AT MOST 1048576: true; the input reads as it did. -/
def lexerQuoteUptoRow : OpenClaim := { program := "ytnahjnlkpmbhlaa", sum := "01691c9b65e956246e4348d9347fb3d2054ab32a9e250e9bc7a3de671c947713", func := "setsquare/setsquarelaw21.LexerQuote", spec := "lexerQuote", inPlace := ["internal/bytealg.IndexByteString", "internal/abi.NoEscape"], unfollowed := true, recurses := true, apart := false, narrowed := true }
def LexerQuoteUptoSaid : Prop := lexerQuoteUptoRow.holds Try.pinned (OpenSpec.upto lexerQuoteSpec)

end Rows
end Go.Proofs.Ytnahjnlkpmbhlaa
