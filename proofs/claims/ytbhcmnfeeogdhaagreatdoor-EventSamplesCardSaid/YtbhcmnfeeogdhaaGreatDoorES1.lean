/-
  Several texts in one: FactsSamples. Each says at its head what it holds.
-/
import Derived.Test.YtbhcmnfeeogdhaaGreatDoorRows
import Derived.Test.YtbhcmnfeeogdhaaGreatDoorProg
import Derived.JoinedOf
import Derived.WalkKit

/-
  The closed facts on the row of wavestorelaw53.EventSamples, each by the kernel.
-/
namespace Go.Proofs.YtbhcmnfeeogdhaaGreatDoor

set_option maxHeartbeats 100000000 in
theorem eventSamples_facts : joinedFacts Tryz.prog 6 Tryz.f6 Rows.eventSamplesSpec Rows.eventSamplesRow = true := by
  unfold joinedFacts
  simp only [Bool.and_eq_true]
  repeat' apply And.intro
  all_goals as_aux_lemma => kernel_rfl

end Go.Proofs.YtbhcmnfeeogdhaaGreatDoor
