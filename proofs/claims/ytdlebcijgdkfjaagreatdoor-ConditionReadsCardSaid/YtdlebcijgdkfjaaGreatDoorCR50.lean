/-
  Several texts in one: FactsReadsC. Each says at its head what it holds.
-/
import Derived.Test.YtdlebcijgdkfjaaGreatDoorRows
import Derived.Test.YtdlebcijgdkfjaaGreatDoorCards
import Derived.Test.YtdlebcijgdkfjaaGreatDoorProg
import Derived.SevenTiedAt
import Derived.WalkKit

/-
  The closed facts on the card of wavestorelaw51.ConditionReads, each by the kernel.
-/
namespace Go.Proofs.YtdlebcijgdkfjaaGreatDoor

theorem conditionReads_words : OpenClaim.wfByText (OpenSpec.ofChange Rows.conditionReadsSpec) Rows.conditionReadsRow = true := by kernel_rfl
theorem conditionReads_looks : false = Program.looks Tryz.prog [] := by kernel_rfl
theorem conditionReads_goes : false = Rows.conditionReadsRow.goesBy Tryz.prog := by kernel_rfl

end Go.Proofs.YtdlebcijgdkfjaaGreatDoor
