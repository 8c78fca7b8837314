/-
  DERIVED. GIVEN WITH THE SEED: THE CARDS: each row of YtijmjfcnjfnpgaaGreatDoorRows.lean that lists a variable, with what it lists TIED to the program's text (the seventh form; the later family's looks); each row that meets fmt, with fmt's text TOLD by the authors' own Lean function (tested against real Go, not proved from fmt's source: count such statements apart). THE CARD IS WHAT COUNTS. Prove the row's statement (the work); the ties are given (YtijmjfcnjfnpgaaGreatDoorTie.lean); close each card by the builder's one call (the guide's Derived/Test/ToyasCard.lean, 'card_holds'). Laid BY PROGRAM, IN A SANDBOX (cutbox-door.mjs). By AI agents, Wed Nov 11 2026. No macro, syntax, notation, axiom, sorry.
-/
import Derived.Test.YtijmjfcnjfnpgaaGreatDoorRows
import GoSem.ClaimSeven
namespace Go.Proofs.YtijmjfcnjfnpgaaGreatDoor
namespace Rows

/-- THE TIED CARD OF 'setsquaretop.TopCore'. -/
def topCoreCard : Claim7 := { stood := { row := topCoreRow, standIns := [], harness := (true, "31bb5797d145e240cb22ce666bc087c13d1e405c4f8fdf3986cda5be49256ff6"), looks := false }, kinds := [], alts := [], laidByText := true, laidKinds := [.data, .data, .data, .data, .data], laidTests := true, laidLooks := .later }
def TopCoreCardSaid : Prop := Claim7.holds Tryz.pinned (.plain (OpenSpec.ofChange topCoreSpec)) topCoreCard

/-- THE TIED CARD OF 'setsquaretop.TopComposed'. -/
def topComposedCard : Claim7 := { stood := { row := topComposedRow, standIns := [], harness := (true, "31bb5797d145e240cb22ce666bc087c13d1e405c4f8fdf3986cda5be49256ff6"), looks := false }, kinds := [], alts := [], laidByText := true, laidKinds := [.data, .data, .data, .data, .data], laidTests := true, laidLooks := .later }
def TopComposedCardSaid : Prop := Claim7.holds Tryz.pinned (.plain (OpenSpec.ofChange topComposedSpec)) topComposedCard

/-- THE TIED CARD OF 'setsquaretop.TopHenneberg'. -/
def topHennebergCard : Claim7 := { stood := { row := topHennebergRow, standIns := [], harness := (true, "31bb5797d145e240cb22ce666bc087c13d1e405c4f8fdf3986cda5be49256ff6"), looks := false }, kinds := [], alts := [], laidByText := true, laidKinds := [.data, .data, .data, .data, .data], laidTests := true, laidLooks := .later }
def TopHennebergCardSaid : Prop := Claim7.holds Tryz.pinned (.plain (OpenSpec.ofChange topHennebergSpec)) topHennebergCard

/-- THE SECOND FORM's CARD OF 'setsquaretop.TopCore'. -/
def topCoreUptoCard : Claim7 := { stood := { row := topCoreUptoRow, standIns := [], harness := (true, "31bb5797d145e240cb22ce666bc087c13d1e405c4f8fdf3986cda5be49256ff6"), looks := false }, kinds := [], alts := [], laidByText := true, laidKinds := [.data, .data, .data, .data, .data], laidTests := true, laidLooks := .later }
def TopCoreUptoCardSaid : Prop := Claim7.holds Tryz.pinned (.plain (OpenSpec.upto topCoreSpec)) topCoreUptoCard

/-- THE SECOND FORM's CARD OF 'setsquaretop.TopComposed'. -/
def topComposedUptoCard : Claim7 := { stood := { row := topComposedUptoRow, standIns := [], harness := (true, "31bb5797d145e240cb22ce666bc087c13d1e405c4f8fdf3986cda5be49256ff6"), looks := false }, kinds := [], alts := [], laidByText := true, laidKinds := [.data, .data, .data, .data, .data], laidTests := true, laidLooks := .later }
def TopComposedUptoCardSaid : Prop := Claim7.holds Tryz.pinned (.plain (OpenSpec.upto topComposedSpec)) topComposedUptoCard

/-- THE SECOND FORM's CARD OF 'setsquaretop.TopHenneberg'. -/
def topHennebergUptoCard : Claim7 := { stood := { row := topHennebergUptoRow, standIns := [], harness := (true, "31bb5797d145e240cb22ce666bc087c13d1e405c4f8fdf3986cda5be49256ff6"), looks := false }, kinds := [], alts := [], laidByText := true, laidKinds := [.data, .data, .data, .data, .data], laidTests := true, laidLooks := .later }
def TopHennebergUptoCardSaid : Prop := Claim7.holds Tryz.pinned (.plain (OpenSpec.upto topHennebergSpec)) topHennebergUptoCard
end Rows
end Go.Proofs.YtijmjfcnjfnpgaaGreatDoor
