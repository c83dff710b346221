/-
  Several texts in one: FactsValuesC. Each says at its head what it holds.
-/
import Derived.Test.YtdlebcijgdkfjaaGreatDoorRows
import Derived.Test.YtdlebcijgdkfjaaGreatDoorCards
import Derived.Test.YtdlebcijgdkfjaaGreatDoorProg
import Derived.SevenTiedAt
import Derived.WalkKit

/-
  The closed facts on the card of wavestorelaw51.ConditionValues, each by the kernel.
-/
namespace Go.Proofs.YtdlebcijgdkfjaaGreatDoor

theorem conditionValues_words : OpenClaim.wfByText (OpenSpec.ofChange Rows.conditionValuesSpec) Rows.conditionValuesRow = true := by kernel_rfl
theorem conditionValues_looks : false = Program.looks Tryz.prog [] := by kernel_rfl
theorem conditionValues_goes : false = Rows.conditionValuesRow.goesBy Tryz.prog := by kernel_rfl

end Go.Proofs.YtdlebcijgdkfjaaGreatDoor
