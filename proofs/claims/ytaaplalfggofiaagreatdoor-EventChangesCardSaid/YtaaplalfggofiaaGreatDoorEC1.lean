/-
  Several texts in one: FactsChanges. Each says at its head what it holds.
-/
import Derived.Test.YtaaplalfggofiaaGreatDoorRows
import Derived.Test.YtaaplalfggofiaaGreatDoorProg
import Derived.JoinedOf
import Derived.WalkKit

/-
  The closed facts on the row of wavestorelaw53.EventChanges, each by the kernel.
-/
namespace Go.Proofs.YtaaplalfggofiaaGreatDoor

set_option maxHeartbeats 100000000 in
theorem eventChanges_facts : joinedFacts Tryz.prog 8 Tryz.f8 Rows.eventChangesSpec Rows.eventChangesRow = true := by
  unfold joinedFacts
  simp only [Bool.and_eq_true]
  repeat' apply And.intro
  all_goals as_aux_lemma => kernel_rfl

end Go.Proofs.YtaaplalfggofiaaGreatDoor
