/-
  Several texts in one: FactsKindsC. Each says at its head what it holds.
-/
import Derived.Test.YtbhcmnfeeogdhaaGreatDoorRows
import Derived.Test.YtbhcmnfeeogdhaaGreatDoorCards
import Derived.Test.YtbhcmnfeeogdhaaGreatDoorProg
import Derived.SevenTiedAt
import Derived.WalkKit

/-
  The closed facts on the card of wavestorelaw53.EventKinds, each by the kernel.
-/
namespace Go.Proofs.YtbhcmnfeeogdhaaGreatDoor

theorem eventKinds_words : OpenClaim.wfByText (OpenSpec.ofChange Rows.eventKindsSpec) Rows.eventKindsRow = true := by kernel_rfl
theorem eventKinds_looks : false = Program.looks Tryz.prog [] := by kernel_rfl
theorem eventKinds_goes : false = Rows.eventKindsRow.goesBy Tryz.prog := by kernel_rfl

end Go.Proofs.YtbhcmnfeeogdhaaGreatDoor
