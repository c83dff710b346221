/-
  The closed facts on the row of wavestorelaw51.ConditionCompares, each by the kernel.
-/
import Derived.Test.YtdlebcijgdkfjaaGreatDoorRows
import Derived.Test.YtdlebcijgdkfjaaGreatDoorProg
import Derived.JoinedOf
import Derived.WalkKit
namespace Go.Proofs.YtdlebcijgdkfjaaGreatDoor

set_option maxHeartbeats 100000000 in
theorem conditionCompares_facts : joinedFacts Tryz.prog 3 Tryz.f3 Rows.conditionComparesSpec Rows.conditionComparesRow = true := by
  unfold joinedFacts
  simp only [Bool.and_eq_true]
  repeat' apply And.intro
  all_goals as_aux_lemma => kernel_rfl

end Go.Proofs.YtdlebcijgdkfjaaGreatDoor
