/-
  Several texts in one: FactsValidC. Each says at its head what it holds.
-/
import Derived.Test.YtgobkbjkndfliaaGreatDoorRows
import Derived.Test.YtgobkbjkndfliaaGreatDoorCards
import Derived.Test.YtgobkbjkndfliaaGreatDoorProg
import Derived.SevenTiedAt
import Derived.WalkKit

/-
  The closed facts on the card of wavestorelaw54.AutomatonValid, each by the kernel.
-/
namespace Go.Proofs.YtgobkbjkndfliaaGreatDoor

theorem automatonValid_words : OpenClaim.wfByText (OpenSpec.ofChange Rows.automatonValidSpec) Rows.automatonValidRow = true := by kernel_rfl
theorem automatonValid_looks : false = Program.looks Tryz.prog [] := by kernel_rfl
theorem automatonValid_goes : false = Rows.automatonValidRow.goesBy Tryz.prog := by kernel_rfl

end Go.Proofs.YtgobkbjkndfliaaGreatDoor
