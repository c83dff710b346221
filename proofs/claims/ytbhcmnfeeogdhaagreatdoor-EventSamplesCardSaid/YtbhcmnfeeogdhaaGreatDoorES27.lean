/-
  Several texts in one: FactsSamplesC. Each says at its head what it holds.
-/
import Derived.Test.YtbhcmnfeeogdhaaGreatDoorRows
import Derived.Test.YtbhcmnfeeogdhaaGreatDoorCards
import Derived.Test.YtbhcmnfeeogdhaaGreatDoorProg
import Derived.SevenTiedAt
import Derived.WalkKit

/-
  The closed facts on the card of wavestorelaw53.EventSamples, each by the kernel.
-/
namespace Go.Proofs.YtbhcmnfeeogdhaaGreatDoor

theorem eventSamples_words : OpenClaim.wfByText (OpenSpec.ofChange Rows.eventSamplesSpec) Rows.eventSamplesRow = true := by kernel_rfl
theorem eventSamples_looks : false = Program.looks Tryz.prog [] := by kernel_rfl
theorem eventSamples_goes : false = Rows.eventSamplesRow.goesBy Tryz.prog := by kernel_rfl

end Go.Proofs.YtbhcmnfeeogdhaaGreatDoor
