/-
  DERIVED. GIVEN WITH THE SEED: THE CARDS: each row of YtmmloncoopohfaaGreatDoorRows.lean that lists a variable, with what it lists TIED to the program's text (the seventh form; the later family's looks); each row that meets fmt, with fmt's text TOLD by the authors' own Lean function (tested against real Go, not proved from fmt's source: count such statements apart). THE CARD IS WHAT COUNTS. Prove the row's statement (the work); the ties are given (YtmmloncoopohfaaGreatDoorTie.lean); close each card by the builder's one call (the guide's Derived/Test/ToyasCard.lean, 'card_holds'). Laid BY PROGRAM, IN A SANDBOX (cutbox-door.mjs). By AI agents, Wed Nov 11 2026. No macro, syntax, notation, axiom, sorry.
-/
import Derived.Test.YtmmloncoopohfaaGreatDoorRows
import GoSem.ClaimSeven
namespace Go.Proofs.YtmmloncoopohfaaGreatDoor
namespace Rows

/-- THE TIED CARD OF 'setsquaretop.TopMotions'. -/
def topMotionsCard : Claim7 := { stood := { row := topMotionsRow, standIns := [], harness := (true, "bdf56367cdb91e519bc776d4f50a6d3623c0317e7fc007e623eddfd6e25bbc83"), looks := false }, kinds := [], alts := [], laidByText := true, laidKinds := [.data, .data, .data], laidTests := true, laidLooks := .later }
def TopMotionsCardSaid : Prop := Claim7.holds Tryz.pinned (.plain (OpenSpec.ofChange topMotionsSpec)) topMotionsCard

/-- THE SECOND FORM's CARD OF 'setsquaretop.TopMotions'. -/
def topMotionsUptoCard : Claim7 := { stood := { row := topMotionsUptoRow, standIns := [], harness := (true, "bdf56367cdb91e519bc776d4f50a6d3623c0317e7fc007e623eddfd6e25bbc83"), looks := false }, kinds := [], alts := [], laidByText := true, laidKinds := [.data, .data, .data], laidTests := true, laidLooks := .later }
def TopMotionsUptoCardSaid : Prop := Claim7.holds Tryz.pinned (.plain (OpenSpec.upto topMotionsSpec)) topMotionsUptoCard
end Rows
end Go.Proofs.YtmmloncoopohfaaGreatDoor
