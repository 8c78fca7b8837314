/-
  Which functions run before TopMotions (a closed fact).
-/
import Derived.Test.YtmmloncoopohfaaGreatDoorRows
import Derived.Test.YtmmloncoopohfaaGreatDoorCards
import Derived.Test.YtmmloncoopohfaaGreatDoorChecked
import Derived.JoinedOf
import Derived.ProofKit
import Derived.SevenTiedAt
set_option linter.unusedVariables false
namespace Den
open Go Go.Proofs Go.Proofs.YtmmloncoopohfaaGreatDoor
theorem kGoesMotions : false = Rows.topMotionsRow.goesBy Tryz.pinned.checked.prog := by kernel_rfl
end Den
