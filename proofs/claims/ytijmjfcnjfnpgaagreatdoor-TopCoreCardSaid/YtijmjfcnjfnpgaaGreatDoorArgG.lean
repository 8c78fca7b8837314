/-
  Which functions run before TopCore (a closed fact).
-/
import Derived.Test.YtijmjfcnjfnpgaaGreatDoorRows
import Derived.Test.YtijmjfcnjfnpgaaGreatDoorCards
import Derived.Test.YtijmjfcnjfnpgaaGreatDoorChecked
import Derived.JoinedOf
import Derived.ProofKit
import Derived.SevenTiedAt
set_option linter.all false
namespace Den
open Go Go.Proofs Go.Proofs.YtijmjfcnjfnpgaaGreatDoor
theorem kGoesCore : false = Rows.topCoreRow.goesBy Tryz.pinned.checked.prog := by kernel_rfl
end Den
