/-
  Several texts in one: FactsMonoC. Each says at its head what it holds.
-/
import Derived.Test.YtdlebcijgdkfjaaGreatDoorRows
import Derived.Test.YtdlebcijgdkfjaaGreatDoorCards
import Derived.Test.YtdlebcijgdkfjaaGreatDoorProg
import Derived.SevenTiedAt
import Derived.WalkKit

/-
  The closed facts on the card of wavestorelaw51.ConditionMonotone, each by the kernel.
-/
namespace Go.Proofs.YtdlebcijgdkfjaaGreatDoor

theorem conditionMonotone_words : OpenClaim.wfByText (OpenSpec.ofChange Rows.conditionMonotoneSpec) Rows.conditionMonotoneRow = true := by kernel_rfl
theorem conditionMonotone_looks : false = Program.looks Tryz.prog [] := by kernel_rfl
theorem conditionMonotone_goes : false = Rows.conditionMonotoneRow.goesBy Tryz.prog := by kernel_rfl

end Go.Proofs.YtdlebcijgdkfjaaGreatDoor
