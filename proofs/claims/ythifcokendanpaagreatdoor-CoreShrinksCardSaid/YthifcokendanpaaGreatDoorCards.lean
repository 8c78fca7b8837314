/-
  DERIVED. GIVEN WITH THE SEED: THE CARDS: each row of YthifcokendanpaaGreatDoorRows.lean that lists a variable, with what it lists TIED to the program's text (the seventh form; the later family's looks); each row that meets fmt, with fmt's text TOLD by the authors' own Lean function (tested against real Go, not proved from fmt's source: count such statements apart). THE CARD IS WHAT COUNTS. Prove the row's statement (the work); the ties are given (YthifcokendanpaaGreatDoorTie.lean); close each card by the builder's one call (the guide's Derived/Test/ToyasCard.lean, 'card_holds'). Laid BY PROGRAM, IN A SANDBOX (cutbox-door.mjs). By AI agents, Wed Nov 11 2026. No macro, syntax, notation, axiom, sorry.
-/
import Derived.Test.YthifcokendanpaaGreatDoorRows
import GoSem.ClaimSeven
namespace Go.Proofs.YthifcokendanpaaGreatDoor
namespace Rows

/-- THE TIED CARD OF 'setsquarelaw39.HennebergPeel'. -/
def hennebergPeelCard : Claim7 := { stood := { row := hennebergPeelRow, standIns := [], harness := (true, "8bc31ae81d3908aff1720e0055e60b3039da4103ed3f37688495b1bfd5315874"), looks := false }, kinds := [], alts := [], laidByText := true, laidKinds := [.data, .data, .data, .data, .data], laidTests := true, laidLooks := .later }
def HennebergPeelCardSaid : Prop := Claim7.holds Tryz.pinned (.plain (OpenSpec.ofChange hennebergPeelSpec)) hennebergPeelCard

/-- THE TIED CARD OF 'setsquarelaw39.HennebergPlan'. -/
def hennebergPlanCard : Claim7 := { stood := { row := hennebergPlanRow, standIns := [], harness := (true, "8bc31ae81d3908aff1720e0055e60b3039da4103ed3f37688495b1bfd5315874"), looks := false }, kinds := [], alts := [], laidByText := true, laidKinds := [.data, .data, .data, .data, .data], laidTests := true, laidLooks := .later }
def HennebergPlanCardSaid : Prop := Claim7.holds Tryz.pinned (.plain (OpenSpec.ofChange hennebergPlanSpec)) hennebergPlanCard

/-- THE TIED CARD OF 'setsquarelaw39.HennebergOrder'. -/
def hennebergOrderCard : Claim7 := { stood := { row := hennebergOrderRow, standIns := [], harness := (true, "8bc31ae81d3908aff1720e0055e60b3039da4103ed3f37688495b1bfd5315874"), looks := false }, kinds := [], alts := [], laidByText := true, laidKinds := [.data, .data, .data, .data, .data], laidTests := true, laidLooks := .later }
def HennebergOrderCardSaid : Prop := Claim7.holds Tryz.pinned (.plain (OpenSpec.ofChange hennebergOrderSpec)) hennebergOrderCard

/-- THE TIED CARD OF 'setsquarelaw39.HennebergRemovable'. -/
def hennebergRemovableCard : Claim7 := { stood := { row := hennebergRemovableRow, standIns := [], harness := (true, "8bc31ae81d3908aff1720e0055e60b3039da4103ed3f37688495b1bfd5315874"), looks := false }, kinds := [], alts := [], laidByText := true, laidKinds := [.data, .data, .data, .data, .data], laidTests := true, laidLooks := .later }
def HennebergRemovableCardSaid : Prop := Claim7.holds Tryz.pinned (.plain (OpenSpec.ofChange hennebergRemovableSpec)) hennebergRemovableCard

/-- THE TIED CARD OF 'setsquarelaw39.HennebergMonotonic'. -/
def hennebergMonotonicCard : Claim7 := { stood := { row := hennebergMonotonicRow, standIns := [], harness := (true, "8bc31ae81d3908aff1720e0055e60b3039da4103ed3f37688495b1bfd5315874"), looks := false }, kinds := [], alts := [], laidByText := true, laidKinds := [.data, .data, .data, .data, .data], laidTests := true, laidLooks := .later }
def HennebergMonotonicCardSaid : Prop := Claim7.holds Tryz.pinned (.plain (OpenSpec.ofChange hennebergMonotonicSpec)) hennebergMonotonicCard

/-- THE TIED CARD OF 'setsquarelaw39.HennebergWeight'. -/
def hennebergWeightCard : Claim7 := { stood := { row := hennebergWeightRow, standIns := [], harness := (true, "8bc31ae81d3908aff1720e0055e60b3039da4103ed3f37688495b1bfd5315874"), looks := false }, kinds := [], alts := [], laidByText := true, laidKinds := [.data, .data, .data, .data, .data], laidTests := true, laidLooks := .later }
def HennebergWeightCardSaid : Prop := Claim7.holds Tryz.pinned (.plain (OpenSpec.ofChange hennebergWeightSpec)) hennebergWeightCard

/-- THE TIED CARD OF 'setsquarelaw41.CoreItems'. -/
def coreItemsCard : Claim7 := { stood := { row := coreItemsRow, standIns := [], harness := (true, "8bc31ae81d3908aff1720e0055e60b3039da4103ed3f37688495b1bfd5315874"), looks := false }, kinds := [], alts := [], laidByText := true, laidKinds := [.data, .data, .data, .data, .data], laidTests := true, laidLooks := .later }
def CoreItemsCardSaid : Prop := Claim7.holds Tryz.pinned (.plain (OpenSpec.ofChange coreItemsSpec)) coreItemsCard

/-- THE TIED CARD OF 'setsquarelaw41.CoreShrinks'. -/
def coreShrinksCard : Claim7 := { stood := { row := coreShrinksRow, standIns := [], harness := (true, "8bc31ae81d3908aff1720e0055e60b3039da4103ed3f37688495b1bfd5315874"), looks := false }, kinds := [], alts := [], laidByText := true, laidKinds := [.data, .data, .data, .data, .data], laidTests := true, laidLooks := .later }
def CoreShrinksCardSaid : Prop := Claim7.holds Tryz.pinned (.plain (OpenSpec.ofChange coreShrinksSpec)) coreShrinksCard

/-- THE TIED CARD OF 'setsquarelaw41.CoreGraph'. -/
def coreGraphCard : Claim7 := { stood := { row := coreGraphRow, standIns := [], harness := (true, "8bc31ae81d3908aff1720e0055e60b3039da4103ed3f37688495b1bfd5315874"), looks := false }, kinds := [], alts := [], laidByText := true, laidKinds := [.data, .data, .data, .data, .data], laidTests := true, laidLooks := .later }
def CoreGraphCardSaid : Prop := Claim7.holds Tryz.pinned (.plain (OpenSpec.ofChange coreGraphSpec)) coreGraphCard

/-- THE TIED CARD OF 'setsquarelaw41.CoreBars'. -/
def coreBarsCard : Claim7 := { stood := { row := coreBarsRow, standIns := [], harness := (true, "8bc31ae81d3908aff1720e0055e60b3039da4103ed3f37688495b1bfd5315874"), looks := false }, kinds := [], alts := [], laidByText := true, laidKinds := [.data, .data, .data, .data, .data], laidTests := true, laidLooks := .later }
def CoreBarsCardSaid : Prop := Claim7.holds Tryz.pinned (.plain (OpenSpec.ofChange coreBarsSpec)) coreBarsCard

/-- THE TIED CARD OF 'setsquarelaw39.HennebergUses'. -/
def hennebergUsesCard : Claim7 := { stood := { row := hennebergUsesRow, standIns := [], harness := (true, "8bc31ae81d3908aff1720e0055e60b3039da4103ed3f37688495b1bfd5315874"), looks := false }, kinds := [], alts := [], laidByText := true, laidKinds := [.data, .data, .data, .data, .data, .data], laidTests := true, laidLooks := .later }
def HennebergUsesCardSaid : Prop := Claim7.holds Tryz.pinned (.plain (OpenSpec.ofChange hennebergUsesSpec)) hennebergUsesCard

/-- THE TIED CARD OF 'setsquarelaw41.CoreValid'. -/
def coreValidCard : Claim7 := { stood := { row := coreValidRow, standIns := [], harness := (true, "8bc31ae81d3908aff1720e0055e60b3039da4103ed3f37688495b1bfd5315874"), looks := false }, kinds := [], alts := [], laidByText := true, laidKinds := [.data, .data, .data, .data, .data], laidTests := true, laidLooks := .later }
def CoreValidCardSaid : Prop := Claim7.holds Tryz.pinned (.plain (OpenSpec.ofChange coreValidSpec)) coreValidCard

/-- THE TIED CARD OF 'setsquarelaw41.CoreGreatest'. -/
def coreGreatestCard : Claim7 := { stood := { row := coreGreatestRow, standIns := [], harness := (true, "8bc31ae81d3908aff1720e0055e60b3039da4103ed3f37688495b1bfd5315874"), looks := false }, kinds := [], alts := [], laidByText := true, laidKinds := [.data, .data, .data, .data, .data], laidTests := true, laidLooks := .later }
def CoreGreatestCardSaid : Prop := Claim7.holds Tryz.pinned (.plain (OpenSpec.ofChange coreGreatestSpec)) coreGreatestCard

/-- THE TIED CARD OF 'setsquarelaw41.CoreFrozen'. -/
def coreFrozenCard : Claim7 := { stood := { row := coreFrozenRow, standIns := [], harness := (true, "8bc31ae81d3908aff1720e0055e60b3039da4103ed3f37688495b1bfd5315874"), looks := false }, kinds := [], alts := [], laidByText := true, laidKinds := [.data, .data, .data, .data, .data], laidTests := true, laidLooks := .later }
def CoreFrozenCardSaid : Prop := Claim7.holds Tryz.pinned (.plain (OpenSpec.ofChange coreFrozenSpec)) coreFrozenCard

/-- THE SECOND FORM's CARD OF 'setsquarelaw39.HennebergPeel'. -/
def hennebergPeelUptoCard : Claim7 := { stood := { row := hennebergPeelUptoRow, standIns := [], harness := (true, "8bc31ae81d3908aff1720e0055e60b3039da4103ed3f37688495b1bfd5315874"), looks := false }, kinds := [], alts := [], laidByText := true, laidKinds := [.data, .data, .data, .data, .data], laidTests := true, laidLooks := .later }
def HennebergPeelUptoCardSaid : Prop := Claim7.holds Tryz.pinned (.plain (OpenSpec.upto hennebergPeelSpec)) hennebergPeelUptoCard

/-- THE SECOND FORM's CARD OF 'setsquarelaw39.HennebergPlan'. -/
def hennebergPlanUptoCard : Claim7 := { stood := { row := hennebergPlanUptoRow, standIns := [], harness := (true, "8bc31ae81d3908aff1720e0055e60b3039da4103ed3f37688495b1bfd5315874"), looks := false }, kinds := [], alts := [], laidByText := true, laidKinds := [.data, .data, .data, .data, .data], laidTests := true, laidLooks := .later }
def HennebergPlanUptoCardSaid : Prop := Claim7.holds Tryz.pinned (.plain (OpenSpec.upto hennebergPlanSpec)) hennebergPlanUptoCard

/-- THE SECOND FORM's CARD OF 'setsquarelaw39.HennebergOrder'. -/
def hennebergOrderUptoCard : Claim7 := { stood := { row := hennebergOrderUptoRow, standIns := [], harness := (true, "8bc31ae81d3908aff1720e0055e60b3039da4103ed3f37688495b1bfd5315874"), looks := false }, kinds := [], alts := [], laidByText := true, laidKinds := [.data, .data, .data, .data, .data], laidTests := true, laidLooks := .later }
def HennebergOrderUptoCardSaid : Prop := Claim7.holds Tryz.pinned (.plain (OpenSpec.upto hennebergOrderSpec)) hennebergOrderUptoCard

/-- THE SECOND FORM's CARD OF 'setsquarelaw39.HennebergRemovable'. -/
def hennebergRemovableUptoCard : Claim7 := { stood := { row := hennebergRemovableUptoRow, standIns := [], harness := (true, "8bc31ae81d3908aff1720e0055e60b3039da4103ed3f37688495b1bfd5315874"), looks := false }, kinds := [], alts := [], laidByText := true, laidKinds := [.data, .data, .data, .data, .data], laidTests := true, laidLooks := .later }
def HennebergRemovableUptoCardSaid : Prop := Claim7.holds Tryz.pinned (.plain (OpenSpec.upto hennebergRemovableSpec)) hennebergRemovableUptoCard

/-- THE SECOND FORM's CARD OF 'setsquarelaw39.HennebergMonotonic'. -/
def hennebergMonotonicUptoCard : Claim7 := { stood := { row := hennebergMonotonicUptoRow, standIns := [], harness := (true, "8bc31ae81d3908aff1720e0055e60b3039da4103ed3f37688495b1bfd5315874"), looks := false }, kinds := [], alts := [], laidByText := true, laidKinds := [.data, .data, .data, .data, .data], laidTests := true, laidLooks := .later }
def HennebergMonotonicUptoCardSaid : Prop := Claim7.holds Tryz.pinned (.plain (OpenSpec.upto hennebergMonotonicSpec)) hennebergMonotonicUptoCard

/-- THE SECOND FORM's CARD OF 'setsquarelaw39.HennebergWeight'. -/
def hennebergWeightUptoCard : Claim7 := { stood := { row := hennebergWeightUptoRow, standIns := [], harness := (true, "8bc31ae81d3908aff1720e0055e60b3039da4103ed3f37688495b1bfd5315874"), looks := false }, kinds := [], alts := [], laidByText := true, laidKinds := [.data, .data, .data, .data, .data], laidTests := true, laidLooks := .later }
def HennebergWeightUptoCardSaid : Prop := Claim7.holds Tryz.pinned (.plain (OpenSpec.upto hennebergWeightSpec)) hennebergWeightUptoCard

/-- THE SECOND FORM's CARD OF 'setsquarelaw41.CoreItems'. -/
def coreItemsUptoCard : Claim7 := { stood := { row := coreItemsUptoRow, standIns := [], harness := (true, "8bc31ae81d3908aff1720e0055e60b3039da4103ed3f37688495b1bfd5315874"), looks := false }, kinds := [], alts := [], laidByText := true, laidKinds := [.data, .data, .data, .data, .data], laidTests := true, laidLooks := .later }
def CoreItemsUptoCardSaid : Prop := Claim7.holds Tryz.pinned (.plain (OpenSpec.upto coreItemsSpec)) coreItemsUptoCard

/-- THE SECOND FORM's CARD OF 'setsquarelaw41.CoreShrinks'. -/
def coreShrinksUptoCard : Claim7 := { stood := { row := coreShrinksUptoRow, standIns := [], harness := (true, "8bc31ae81d3908aff1720e0055e60b3039da4103ed3f37688495b1bfd5315874"), looks := false }, kinds := [], alts := [], laidByText := true, laidKinds := [.data, .data, .data, .data, .data], laidTests := true, laidLooks := .later }
def CoreShrinksUptoCardSaid : Prop := Claim7.holds Tryz.pinned (.plain (OpenSpec.upto coreShrinksSpec)) coreShrinksUptoCard

/-- THE SECOND FORM's CARD OF 'setsquarelaw41.CoreGraph'. -/
def coreGraphUptoCard : Claim7 := { stood := { row := coreGraphUptoRow, standIns := [], harness := (true, "8bc31ae81d3908aff1720e0055e60b3039da4103ed3f37688495b1bfd5315874"), looks := false }, kinds := [], alts := [], laidByText := true, laidKinds := [.data, .data, .data, .data, .data], laidTests := true, laidLooks := .later }
def CoreGraphUptoCardSaid : Prop := Claim7.holds Tryz.pinned (.plain (OpenSpec.upto coreGraphSpec)) coreGraphUptoCard

/-- THE SECOND FORM's CARD OF 'setsquarelaw41.CoreBars'. -/
def coreBarsUptoCard : Claim7 := { stood := { row := coreBarsUptoRow, standIns := [], harness := (true, "8bc31ae81d3908aff1720e0055e60b3039da4103ed3f37688495b1bfd5315874"), looks := false }, kinds := [], alts := [], laidByText := true, laidKinds := [.data, .data, .data, .data, .data], laidTests := true, laidLooks := .later }
def CoreBarsUptoCardSaid : Prop := Claim7.holds Tryz.pinned (.plain (OpenSpec.upto coreBarsSpec)) coreBarsUptoCard

/-- THE SECOND FORM's CARD OF 'setsquarelaw39.HennebergUses'. -/
def hennebergUsesUptoCard : Claim7 := { stood := { row := hennebergUsesUptoRow, standIns := [], harness := (true, "8bc31ae81d3908aff1720e0055e60b3039da4103ed3f37688495b1bfd5315874"), looks := false }, kinds := [], alts := [], laidByText := true, laidKinds := [.data, .data, .data, .data, .data, .data], laidTests := true, laidLooks := .later }
def HennebergUsesUptoCardSaid : Prop := Claim7.holds Tryz.pinned (.plain (OpenSpec.upto hennebergUsesSpec)) hennebergUsesUptoCard

/-- THE SECOND FORM's CARD OF 'setsquarelaw41.CoreValid'. -/
def coreValidUptoCard : Claim7 := { stood := { row := coreValidUptoRow, standIns := [], harness := (true, "8bc31ae81d3908aff1720e0055e60b3039da4103ed3f37688495b1bfd5315874"), looks := false }, kinds := [], alts := [], laidByText := true, laidKinds := [.data, .data, .data, .data, .data], laidTests := true, laidLooks := .later }
def CoreValidUptoCardSaid : Prop := Claim7.holds Tryz.pinned (.plain (OpenSpec.upto coreValidSpec)) coreValidUptoCard

/-- THE SECOND FORM's CARD OF 'setsquarelaw41.CoreGreatest'. -/
def coreGreatestUptoCard : Claim7 := { stood := { row := coreGreatestUptoRow, standIns := [], harness := (true, "8bc31ae81d3908aff1720e0055e60b3039da4103ed3f37688495b1bfd5315874"), looks := false }, kinds := [], alts := [], laidByText := true, laidKinds := [.data, .data, .data, .data, .data], laidTests := true, laidLooks := .later }
def CoreGreatestUptoCardSaid : Prop := Claim7.holds Tryz.pinned (.plain (OpenSpec.upto coreGreatestSpec)) coreGreatestUptoCard

/-- THE SECOND FORM's CARD OF 'setsquarelaw41.CoreFrozen'. -/
def coreFrozenUptoCard : Claim7 := { stood := { row := coreFrozenUptoRow, standIns := [], harness := (true, "8bc31ae81d3908aff1720e0055e60b3039da4103ed3f37688495b1bfd5315874"), looks := false }, kinds := [], alts := [], laidByText := true, laidKinds := [.data, .data, .data, .data, .data], laidTests := true, laidLooks := .later }
def CoreFrozenUptoCardSaid : Prop := Claim7.holds Tryz.pinned (.plain (OpenSpec.upto coreFrozenSpec)) coreFrozenUptoCard
end Rows
end Go.Proofs.YthifcokendanpaaGreatDoor
