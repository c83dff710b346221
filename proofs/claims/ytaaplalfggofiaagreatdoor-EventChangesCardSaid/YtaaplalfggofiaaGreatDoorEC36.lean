/-
  Several texts in one: FactsChangesC. Each says at its head what it holds.
-/
import Derived.Test.YtaaplalfggofiaaGreatDoorRows
import Derived.Test.YtaaplalfggofiaaGreatDoorCards
import Derived.Test.YtaaplalfggofiaaGreatDoorProg
import Derived.SevenTiedAt
import Derived.WalkKit

/-
  The closed facts on the card of wavestorelaw53.EventChanges, each by the kernel.
-/
namespace Go.Proofs.YtaaplalfggofiaaGreatDoor

theorem eventChanges_words : OpenClaim.wfByText (OpenSpec.ofChange Rows.eventChangesSpec) Rows.eventChangesRow = true := by kernel_rfl
theorem eventChanges_looks : false = Program.looks Tryz.prog [] := by kernel_rfl
theorem eventChanges_goes : false = Rows.eventChangesRow.goesBy Tryz.prog := by kernel_rfl

end Go.Proofs.YtaaplalfggofiaaGreatDoor
