/-
  Several texts in one: FactsKinds. Each says at its head what it holds.
-/
import Derived.Test.YtbhcmnfeeogdhaaGreatDoorRows
import Derived.Test.YtbhcmnfeeogdhaaGreatDoorProg
import Derived.JoinedOf
import Derived.WalkKit

/-
  The closed facts on the row of wavestorelaw53.EventKinds, each by the kernel.
-/
namespace Go.Proofs.YtbhcmnfeeogdhaaGreatDoor

set_option maxHeartbeats 100000000 in
theorem eventKinds_facts : joinedFacts Tryz.prog 3 Tryz.f3 Rows.eventKindsSpec Rows.eventKindsRow = true := by
  unfold joinedFacts
  simp only [Bool.and_eq_true]
  repeat' apply And.intro
  all_goals as_aux_lemma => kernel_rfl

end Go.Proofs.YtbhcmnfeeogdhaaGreatDoor
