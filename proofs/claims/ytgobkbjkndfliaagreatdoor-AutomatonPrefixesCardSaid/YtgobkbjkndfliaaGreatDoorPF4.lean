/-
  Several texts in one: FactsPrefC. Each says at its head what it holds.
-/
import Derived.Test.YtgobkbjkndfliaaGreatDoorRows
import Derived.Test.YtgobkbjkndfliaaGreatDoorCards
import Derived.Test.YtgobkbjkndfliaaGreatDoorProg
import Derived.SevenTiedAt
import Derived.WalkKit

/-
  The closed facts on the card of wavestorelaw54.AutomatonPrefixes, each by the kernel.
-/
namespace Go.Proofs.YtgobkbjkndfliaaGreatDoor

theorem automatonPrefixes_words : OpenClaim.wfByText (OpenSpec.ofChange Rows.automatonPrefixesSpec) Rows.automatonPrefixesRow = true := by kernel_rfl
theorem automatonPrefixes_looks : false = Program.looks Tryz.prog [] := by kernel_rfl
theorem automatonPrefixes_goes : false = Rows.automatonPrefixesRow.goesBy Tryz.prog := by kernel_rfl

end Go.Proofs.YtgobkbjkndfliaaGreatDoor
