/-
  Several texts in one: FactsReads. Each says at its head what it holds.
-/
import Derived.Test.YtdlebcijgdkfjaaGreatDoorRows
import Derived.Test.YtdlebcijgdkfjaaGreatDoorProg
import Derived.JoinedOf
import Derived.WalkKit

/-
  The closed facts on the row of wavestorelaw51.ConditionReads, each by the kernel.
-/
namespace Go.Proofs.YtdlebcijgdkfjaaGreatDoor

set_option maxHeartbeats 100000000 in
theorem conditionReads_facts : joinedFacts Tryz.prog 5 Tryz.f5 Rows.conditionReadsSpec Rows.conditionReadsRow = true := by
  unfold joinedFacts
  simp only [Bool.and_eq_true]
  repeat' apply And.intro
  all_goals as_aux_lemma => kernel_rfl

end Go.Proofs.YtdlebcijgdkfjaaGreatDoor
