/-
  No cell of these rows narrows 'for every input' (looked for: loops, veiled, ifaces, maps, wideKeys, modest, calm, conditions, laid).
  DERIVED. THE GIVEN ROWS OF THIS SEAT. 9 by the template 'for every input the law returns true; each argument reads behind the call as it read before'; 0 by the template 'total and deterministic' (their statements: YtnobfpkmhbmgbaaGreatTotals.lean).
  GIVEN WITH THE SEED: the statements are not yours to turn. If you find one false, say at which input.
  Laid BY PROGRAM, IN A SANDBOX (cutbox-rows.mjs): the forced cells as the released guide's own fill.sh prints them over the translation c783b13156b4c9c4… (all of the seat's roots in one cut). By AI agents, Wed Nov 11 2026. No macro, syntax, notation, axiom, sorry.
-/
import Derived.Test.YtnobfpkmhbmgbaaGreatChecked
import GoSem.Claim
import GoSem.ClaimJoined
import GoSem.ClaimMapViews
import Derived.JoinedTies
import Derived.KernelRfl
namespace Go.Proofs.YtnobfpkmhbmgbaaGreat
/- THE CELL 'sum', in the pinned program and in every row, IS THE sha256 OF THE DUMP (.gsa) THAT YtnobfpkmhbmgbaaGreatProg.lean LOADS. Nothing in Lean hashes anything: it is a label: what it is worth is what the hold of that sum in a sandbox is worth. -/
noncomputable def Tryz.pinned : Pinned := { name := "ytnobfpkmhbmgbaagreat", sum := "c783b13156b4c9c4554903b9581de72c50f19bdd7da3a005bcb5d1d4e9c21cc6", checked := Tryz.checked }
namespace Rows
def none {H : Type} : Left H := { results := [], args := [] }

/-- 'setsquarelaw03.IntervalProducts': WHATEVER THE INPUT: true; the input reads as it did. -/
def intervalProductsSpec : ChangeSpec := { name := "intervalProducts", fn := fun _ => fun
  | [d1, d2] => { results := [.lit (.bool true)], args := [d1, d2] }
  | _ => none }
def intervalProductsRow : OpenClaim := { program := "ytnobfpkmhbmgbaagreat", sum := "c783b13156b4c9c4554903b9581de72c50f19bdd7da3a005bcb5d1d4e9c21cc6", func := "setsquare/setsquarelaw03.IntervalProducts", spec := "intervalProducts", unfollowed := true, recurses := true, apart := false }
def IntervalProductsSaid : Prop := intervalProductsRow.holds Tryz.pinned (OpenSpec.ofChange intervalProductsSpec)

/-- ITS FALSE NEIGHBOUR: 'it returns false'. Refute it at one input. -/
def intervalProductsWrong : ChangeSpec := { name := "intervalProducts", fn := fun _ => fun
  | [d1, d2] => { results := [.lit (.bool false)], args := [d1, d2] }
  | _ => none }
def IntervalProductsWrongFalsely : Prop := intervalProductsRow.holds Tryz.pinned (OpenSpec.ofChange intervalProductsWrong)

/-- 'setsquarelaw03.IntervalSqrt': WHATEVER THE INPUT: true; the input reads as it did. -/
def intervalSqrtSpec : ChangeSpec := { name := "intervalSqrt", fn := fun _ => fun
  | [d1, d2] => { results := [.lit (.bool true)], args := [d1, d2] }
  | _ => none }
def intervalSqrtRow : OpenClaim := { program := "ytnobfpkmhbmgbaagreat", sum := "c783b13156b4c9c4554903b9581de72c50f19bdd7da3a005bcb5d1d4e9c21cc6", func := "setsquare/setsquarelaw03.IntervalSqrt", spec := "intervalSqrt", unfollowed := true, recurses := true, apart := false }
def IntervalSqrtSaid : Prop := intervalSqrtRow.holds Tryz.pinned (OpenSpec.ofChange intervalSqrtSpec)

/-- ITS FALSE NEIGHBOUR: 'it returns false'. Refute it at one input. -/
def intervalSqrtWrong : ChangeSpec := { name := "intervalSqrt", fn := fun _ => fun
  | [d1, d2] => { results := [.lit (.bool false)], args := [d1, d2] }
  | _ => none }
def IntervalSqrtWrongFalsely : Prop := intervalSqrtRow.holds Tryz.pinned (OpenSpec.ofChange intervalSqrtWrong)

/-- 'setsquarelaw03.IntervalEnclosure': WHATEVER THE INPUT: true; the input reads as it did. -/
def intervalEnclosureSpec : ChangeSpec := { name := "intervalEnclosure", fn := fun _ => fun
  | [d1, d2, d3] => { results := [.lit (.bool true)], args := [d1, d2, d3] }
  | _ => none }
def intervalEnclosureRow : OpenClaim := { program := "ytnobfpkmhbmgbaagreat", sum := "c783b13156b4c9c4554903b9581de72c50f19bdd7da3a005bcb5d1d4e9c21cc6", func := "setsquare/setsquarelaw03.IntervalEnclosure", spec := "intervalEnclosure", unfollowed := true, recurses := true, apart := false }
def IntervalEnclosureSaid : Prop := intervalEnclosureRow.holds Tryz.pinned (OpenSpec.ofChange intervalEnclosureSpec)

/-- ITS FALSE NEIGHBOUR: 'it returns false'. Refute it at one input. -/
def intervalEnclosureWrong : ChangeSpec := { name := "intervalEnclosure", fn := fun _ => fun
  | [d1, d2, d3] => { results := [.lit (.bool false)], args := [d1, d2, d3] }
  | _ => none }
def IntervalEnclosureWrongFalsely : Prop := intervalEnclosureRow.holds Tryz.pinned (OpenSpec.ofChange intervalEnclosureWrong)

/-- 'setsquarelaw03.IntervalSums': WHATEVER THE INPUT: true; the input reads as it did. -/
def intervalSumsSpec : ChangeSpec := { name := "intervalSums", fn := fun _ => fun
  | [d1, d2] => { results := [.lit (.bool true)], args := [d1, d2] }
  | _ => none }
def intervalSumsRow : OpenClaim := { program := "ytnobfpkmhbmgbaagreat", sum := "c783b13156b4c9c4554903b9581de72c50f19bdd7da3a005bcb5d1d4e9c21cc6", func := "setsquare/setsquarelaw03.IntervalSums", spec := "intervalSums", unfollowed := true, recurses := true, apart := false }
def IntervalSumsSaid : Prop := intervalSumsRow.holds Tryz.pinned (OpenSpec.ofChange intervalSumsSpec)

/-- ITS FALSE NEIGHBOUR: 'it returns false'. Refute it at one input. -/
def intervalSumsWrong : ChangeSpec := { name := "intervalSums", fn := fun _ => fun
  | [d1, d2] => { results := [.lit (.bool false)], args := [d1, d2] }
  | _ => none }
def IntervalSumsWrongFalsely : Prop := intervalSumsRow.holds Tryz.pinned (OpenSpec.ofChange intervalSumsWrong)

/-- 'setsquarelaw03.IntervalRound': WHATEVER THE INPUT: true; the input reads as it did. -/
def intervalRoundSpec : ChangeSpec := { name := "intervalRound", fn := fun _ => fun
  | [d1, d2] => { results := [.lit (.bool true)], args := [d1, d2] }
  | _ => none }
def intervalRoundRow : OpenClaim := { program := "ytnobfpkmhbmgbaagreat", sum := "c783b13156b4c9c4554903b9581de72c50f19bdd7da3a005bcb5d1d4e9c21cc6", func := "setsquare/setsquarelaw03.IntervalRound", spec := "intervalRound", unfollowed := true, recurses := true, apart := false }
def IntervalRoundSaid : Prop := intervalRoundRow.holds Tryz.pinned (OpenSpec.ofChange intervalRoundSpec)

/-- ITS FALSE NEIGHBOUR: 'it returns false'. Refute it at one input. -/
def intervalRoundWrong : ChangeSpec := { name := "intervalRound", fn := fun _ => fun
  | [d1, d2] => { results := [.lit (.bool false)], args := [d1, d2] }
  | _ => none }
def IntervalRoundWrongFalsely : Prop := intervalRoundRow.holds Tryz.pinned (OpenSpec.ofChange intervalRoundWrong)

/-- 'setsquarelaw03.IntervalMembers': WHATEVER THE INPUT: true; the input reads as it did. -/
def intervalMembersSpec : ChangeSpec := { name := "intervalMembers", fn := fun _ => fun
  | [d1, d2, d3] => { results := [.lit (.bool true)], args := [d1, d2, d3] }
  | _ => none }
def intervalMembersRow : OpenClaim := { program := "ytnobfpkmhbmgbaagreat", sum := "c783b13156b4c9c4554903b9581de72c50f19bdd7da3a005bcb5d1d4e9c21cc6", func := "setsquare/setsquarelaw03.IntervalMembers", spec := "intervalMembers", unfollowed := true, recurses := true, apart := false }
def IntervalMembersSaid : Prop := intervalMembersRow.holds Tryz.pinned (OpenSpec.ofChange intervalMembersSpec)

/-- ITS FALSE NEIGHBOUR: 'it returns false'. Refute it at one input. -/
def intervalMembersWrong : ChangeSpec := { name := "intervalMembers", fn := fun _ => fun
  | [d1, d2, d3] => { results := [.lit (.bool false)], args := [d1, d2, d3] }
  | _ => none }
def IntervalMembersWrongFalsely : Prop := intervalMembersRow.holds Tryz.pinned (OpenSpec.ofChange intervalMembersWrong)

/-- 'setsquarelaw03.IntervalMonotonic': WHATEVER THE INPUT: true; the input reads as it did. -/
def intervalMonotonicSpec : ChangeSpec := { name := "intervalMonotonic", fn := fun _ => fun
  | [d1, d2, d3] => { results := [.lit (.bool true)], args := [d1, d2, d3] }
  | _ => none }
def intervalMonotonicRow : OpenClaim := { program := "ytnobfpkmhbmgbaagreat", sum := "c783b13156b4c9c4554903b9581de72c50f19bdd7da3a005bcb5d1d4e9c21cc6", func := "setsquare/setsquarelaw03.IntervalMonotonic", spec := "intervalMonotonic", unfollowed := true, recurses := true, apart := false }
def IntervalMonotonicSaid : Prop := intervalMonotonicRow.holds Tryz.pinned (OpenSpec.ofChange intervalMonotonicSpec)

/-- ITS FALSE NEIGHBOUR: 'it returns false'. Refute it at one input. -/
def intervalMonotonicWrong : ChangeSpec := { name := "intervalMonotonic", fn := fun _ => fun
  | [d1, d2, d3] => { results := [.lit (.bool false)], args := [d1, d2, d3] }
  | _ => none }
def IntervalMonotonicWrongFalsely : Prop := intervalMonotonicRow.holds Tryz.pinned (OpenSpec.ofChange intervalMonotonicWrong)

/-- 'setsquarelaw03.IntervalValid': WHATEVER THE INPUT: true; the input reads as it did. -/
def intervalValidSpec : ChangeSpec := { name := "intervalValid", fn := fun _ => fun
  | [d] => { results := [.lit (.bool true)], args := [d] }
  | _ => none }
def intervalValidRow : OpenClaim := { program := "ytnobfpkmhbmgbaagreat", sum := "c783b13156b4c9c4554903b9581de72c50f19bdd7da3a005bcb5d1d4e9c21cc6", func := "setsquare/setsquarelaw03.IntervalValid", spec := "intervalValid", unfollowed := true, recurses := true, apart := false }
def IntervalValidSaid : Prop := intervalValidRow.holds Tryz.pinned (OpenSpec.ofChange intervalValidSpec)

/-- ITS FALSE NEIGHBOUR: 'it returns false'. Refute it at one input. -/
def intervalValidWrong : ChangeSpec := { name := "intervalValid", fn := fun _ => fun
  | [d] => { results := [.lit (.bool false)], args := [d] }
  | _ => none }
def IntervalValidWrongFalsely : Prop := intervalValidRow.holds Tryz.pinned (OpenSpec.ofChange intervalValidWrong)

/-- 'setsquarelaw03.IntervalMeet': WHATEVER THE INPUT: true; the input reads as it did. -/
def intervalMeetSpec : ChangeSpec := { name := "intervalMeet", fn := fun _ => fun
  | [d1, d2, d3] => { results := [.lit (.bool true)], args := [d1, d2, d3] }
  | _ => none }
def intervalMeetRow : OpenClaim := { program := "ytnobfpkmhbmgbaagreat", sum := "c783b13156b4c9c4554903b9581de72c50f19bdd7da3a005bcb5d1d4e9c21cc6", func := "setsquare/setsquarelaw03.IntervalMeet", spec := "intervalMeet", unfollowed := true, recurses := true, apart := false }
def IntervalMeetSaid : Prop := intervalMeetRow.holds Tryz.pinned (OpenSpec.ofChange intervalMeetSpec)

/-- ITS FALSE NEIGHBOUR: 'it returns false'. Refute it at one input. -/
def intervalMeetWrong : ChangeSpec := { name := "intervalMeet", fn := fun _ => fun
  | [d1, d2, d3] => { results := [.lit (.bool false)], args := [d1, d2, d3] }
  | _ => none }
def IntervalMeetWrongFalsely : Prop := intervalMeetRow.holds Tryz.pinned (OpenSpec.ofChange intervalMeetWrong)

/- THE SECOND FORM. 'bulk': how many values and letters a reading holds, each counted each time it is reached (what is shared counts as often as it is met; a slice's spare places count too). A statement '..UptoSaid' is the law's where the arguments, and the package variables that the reading takes, are together of bulk at most 1048576: NARROWER than '..Said'. Prove '..Said' where nothing that the law and all that it calls make is longer than what came in: it says more and counts as full. Else prove '..UptoSaid'. A law counts once. -/
mutual
def uptoBulk {H : Type} : DataW H → Nat
  | .lit (.string bytes) => bytes.length + 1
  | .lit _ => 1
  | .nil => 1
  | .ptr d => uptoBulk d + 1
  | .slice elems spare => uptoBulkAll elems + uptoBulkAll spare + 1
  | .agg parts => uptoBulkAll parts + 1
  | .iface _ d => uptoBulk d + 1
  | .map entries => uptoBulkEntries entries + 1
  | .held _ => 1
def uptoBulkAll {H : Type} : List (DataW H) → Nat
  | [] => 0
  | d :: r => uptoBulk d + uptoBulkAll r
def uptoBulkEntries {H : Type} : List (Lit × DataW H) → Nat
  | [] => 0
  | x :: r => uptoBulkEntry x + uptoBulkEntries r
def uptoBulkEntry {H : Type} : Lit × DataW H → Nat
  | (.string bytes, d) => bytes.length + uptoBulk d + 1
  | (_, d) => uptoBulk d + 1
 end
def uptoSmall : (H : Type) → List (DataW H) → Bool := fun _ ds => decide (uptoBulkAll ds ≤ 1048576)
def OpenSpec.upto (s : _root_.Go.ChangeSpec) : _root_.Go.OpenSpec := { _root_.Go.OpenSpec.ofChange s with cond := some uptoSmall }

/-- 'setsquarelaw03.IntervalProducts', WHERE WHAT IT READS IS OF BULK AT MOST 1048576: true; the input reads as it did. -/
def intervalProductsUptoRow : OpenClaim := { program := "ytnobfpkmhbmgbaagreat", sum := "c783b13156b4c9c4554903b9581de72c50f19bdd7da3a005bcb5d1d4e9c21cc6", func := "setsquare/setsquarelaw03.IntervalProducts", spec := "intervalProducts", unfollowed := true, recurses := true, apart := false, narrowed := true }
def IntervalProductsUptoSaid : Prop := intervalProductsUptoRow.holds Tryz.pinned (OpenSpec.upto intervalProductsSpec)

/-- 'setsquarelaw03.IntervalSqrt', WHERE WHAT IT READS IS OF BULK AT MOST 1048576: true; the input reads as it did. -/
def intervalSqrtUptoRow : OpenClaim := { program := "ytnobfpkmhbmgbaagreat", sum := "c783b13156b4c9c4554903b9581de72c50f19bdd7da3a005bcb5d1d4e9c21cc6", func := "setsquare/setsquarelaw03.IntervalSqrt", spec := "intervalSqrt", unfollowed := true, recurses := true, apart := false, narrowed := true }
def IntervalSqrtUptoSaid : Prop := intervalSqrtUptoRow.holds Tryz.pinned (OpenSpec.upto intervalSqrtSpec)

/-- 'setsquarelaw03.IntervalEnclosure', WHERE WHAT IT READS IS OF BULK AT MOST 1048576: true; the input reads as it did. -/
def intervalEnclosureUptoRow : OpenClaim := { program := "ytnobfpkmhbmgbaagreat", sum := "c783b13156b4c9c4554903b9581de72c50f19bdd7da3a005bcb5d1d4e9c21cc6", func := "setsquare/setsquarelaw03.IntervalEnclosure", spec := "intervalEnclosure", unfollowed := true, recurses := true, apart := false, narrowed := true }
def IntervalEnclosureUptoSaid : Prop := intervalEnclosureUptoRow.holds Tryz.pinned (OpenSpec.upto intervalEnclosureSpec)

/-- 'setsquarelaw03.IntervalSums', WHERE WHAT IT READS IS OF BULK AT MOST 1048576: true; the input reads as it did. -/
def intervalSumsUptoRow : OpenClaim := { program := "ytnobfpkmhbmgbaagreat", sum := "c783b13156b4c9c4554903b9581de72c50f19bdd7da3a005bcb5d1d4e9c21cc6", func := "setsquare/setsquarelaw03.IntervalSums", spec := "intervalSums", unfollowed := true, recurses := true, apart := false, narrowed := true }
def IntervalSumsUptoSaid : Prop := intervalSumsUptoRow.holds Tryz.pinned (OpenSpec.upto intervalSumsSpec)

/-- 'setsquarelaw03.IntervalRound', WHERE WHAT IT READS IS OF BULK AT MOST 1048576: true; the input reads as it did. -/
def intervalRoundUptoRow : OpenClaim := { program := "ytnobfpkmhbmgbaagreat", sum := "c783b13156b4c9c4554903b9581de72c50f19bdd7da3a005bcb5d1d4e9c21cc6", func := "setsquare/setsquarelaw03.IntervalRound", spec := "intervalRound", unfollowed := true, recurses := true, apart := false, narrowed := true }
def IntervalRoundUptoSaid : Prop := intervalRoundUptoRow.holds Tryz.pinned (OpenSpec.upto intervalRoundSpec)

/-- 'setsquarelaw03.IntervalMembers', WHERE WHAT IT READS IS OF BULK AT MOST 1048576: true; the input reads as it did. -/
def intervalMembersUptoRow : OpenClaim := { program := "ytnobfpkmhbmgbaagreat", sum := "c783b13156b4c9c4554903b9581de72c50f19bdd7da3a005bcb5d1d4e9c21cc6", func := "setsquare/setsquarelaw03.IntervalMembers", spec := "intervalMembers", unfollowed := true, recurses := true, apart := false, narrowed := true }
def IntervalMembersUptoSaid : Prop := intervalMembersUptoRow.holds Tryz.pinned (OpenSpec.upto intervalMembersSpec)

/-- 'setsquarelaw03.IntervalMonotonic', WHERE WHAT IT READS IS OF BULK AT MOST 1048576: true; the input reads as it did. -/
def intervalMonotonicUptoRow : OpenClaim := { program := "ytnobfpkmhbmgbaagreat", sum := "c783b13156b4c9c4554903b9581de72c50f19bdd7da3a005bcb5d1d4e9c21cc6", func := "setsquare/setsquarelaw03.IntervalMonotonic", spec := "intervalMonotonic", unfollowed := true, recurses := true, apart := false, narrowed := true }
def IntervalMonotonicUptoSaid : Prop := intervalMonotonicUptoRow.holds Tryz.pinned (OpenSpec.upto intervalMonotonicSpec)

/-- 'setsquarelaw03.IntervalValid', WHERE WHAT IT READS IS OF BULK AT MOST 1048576: true; the input reads as it did. -/
def intervalValidUptoRow : OpenClaim := { program := "ytnobfpkmhbmgbaagreat", sum := "c783b13156b4c9c4554903b9581de72c50f19bdd7da3a005bcb5d1d4e9c21cc6", func := "setsquare/setsquarelaw03.IntervalValid", spec := "intervalValid", unfollowed := true, recurses := true, apart := false, narrowed := true }
def IntervalValidUptoSaid : Prop := intervalValidUptoRow.holds Tryz.pinned (OpenSpec.upto intervalValidSpec)

/-- 'setsquarelaw03.IntervalMeet', WHERE WHAT IT READS IS OF BULK AT MOST 1048576: true; the input reads as it did. -/
def intervalMeetUptoRow : OpenClaim := { program := "ytnobfpkmhbmgbaagreat", sum := "c783b13156b4c9c4554903b9581de72c50f19bdd7da3a005bcb5d1d4e9c21cc6", func := "setsquare/setsquarelaw03.IntervalMeet", spec := "intervalMeet", unfollowed := true, recurses := true, apart := false, narrowed := true }
def IntervalMeetUptoSaid : Prop := intervalMeetUptoRow.holds Tryz.pinned (OpenSpec.upto intervalMeetSpec)

end Rows
end Go.Proofs.YtnobfpkmhbmgbaaGreat
