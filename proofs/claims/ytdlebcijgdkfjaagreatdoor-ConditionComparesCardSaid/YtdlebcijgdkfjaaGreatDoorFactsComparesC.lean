/-
  The closed facts on the card of wavestorelaw51.ConditionCompares, each by the kernel.
-/
import Derived.Test.YtdlebcijgdkfjaaGreatDoorRows
import Derived.Test.YtdlebcijgdkfjaaGreatDoorCards
import Derived.Test.YtdlebcijgdkfjaaGreatDoorProg
import Derived.SevenTiedAt
import Derived.WalkKit
namespace Go.Proofs.YtdlebcijgdkfjaaGreatDoor

theorem conditionCompares_words : OpenClaim.wfByText (OpenSpec.ofChange Rows.conditionComparesSpec) Rows.conditionComparesRow = true := by kernel_rfl
theorem conditionCompares_looks : false = Program.looks Tryz.prog [] := by kernel_rfl
theorem conditionCompares_goes : false = Rows.conditionComparesRow.goesBy Tryz.prog := by kernel_rfl

end Go.Proofs.YtdlebcijgdkfjaaGreatDoor
