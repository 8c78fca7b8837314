/-
  Closed facts of the program, each proved once.
-/
import Derived.Test.YthifcokendanpaaGreatDoorRows
import Derived.Test.YthifcokendanpaaGreatDoorCards
import Derived.Test.YthifcokendanpaaGreatDoorChecked
import Derived.JoinedOf
import Derived.ProofKit
import Derived.SevenTiedAt
set_option linter.all false
namespace Den
open Go Go.Proofs Go.Proofs.YthifcokendanpaaGreatDoor
theorem andI {a b : Bool} (h1 : a = true) (h2 : b = true) : (a && b) = true := by rw [h1, h2]; rfl
theorem kf2 : laidOutB Tryz.prog = true := by kernel_rfl
theorem kf3 : mapsRowed Tryz.prog = true := by kernel_rfl
theorem kf7 : (Tryz.prog.stops == []) = true := by kernel_rfl
theorem kf9 : (Tryz.prog.stopKnobs == []) = true := by kernel_rfl
theorem kf23 : (Rows.hennebergPeelRow.plainKeys == Tryz.prog.plainKeys) = true := by kernel_rfl
theorem kf25 : Tryz.prog.stopsHeard = true := by kernel_rfl
theorem kf26 : Tryz.prog.mayEnter = true := by kernel_rfl
theorem kf27 : (Rows.hennebergPeelRow.lifted == Tryz.prog.liftsFinal) = true := by kernel_rfl
theorem kf28 : (Tryz.prog.make == some Rows.hennebergPeelRow.make) = true := by kernel_rfl
theorem kfMain : Tryz.pinned.checked.prog.mainIs = some (Rows.hennebergPeelCard.stood.harness.1, Rows.hennebergPeelCard.stood.harness.2.toList) := by kernel_rfl
theorem kfLooks : false = Tryz.pinned.checked.prog.looks [] := by kernel_rfl
theorem kfOwn : ownKnob Tryz.prog.godebug = none := by kernel_rfl
end Den
