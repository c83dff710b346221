/-
  Several texts in one: FactsPathsC. Each says at its head what it holds.
-/
import Derived.Test.YtgobkbjkndfliaaGreatDoorRows
import Derived.Test.YtgobkbjkndfliaaGreatDoorCards
import Derived.Test.YtgobkbjkndfliaaGreatDoorProg
import Derived.SevenTiedAt
import Derived.WalkKit

/-
  The closed facts on the card of wavestorelaw54.AutomatonPaths, each by the kernel.
-/
namespace Go.Proofs.YtgobkbjkndfliaaGreatDoor

theorem automatonPaths_words : OpenClaim.wfByText (OpenSpec.ofChange Rows.automatonPathsSpec) Rows.automatonPathsRow = true := by kernel_rfl
theorem automatonPaths_looks : false = Program.looks Tryz.prog [] := by kernel_rfl
theorem automatonPaths_goes : false = Rows.automatonPathsRow.goesBy Tryz.prog := by kernel_rfl

end Go.Proofs.YtgobkbjkndfliaaGreatDoor
