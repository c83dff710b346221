/-
  Several texts in one: FactsValues. Each says at its head what it holds.
-/
import Derived.Test.YtdlebcijgdkfjaaGreatDoorRows
import Derived.Test.YtdlebcijgdkfjaaGreatDoorProg
import Derived.JoinedOf
import Derived.WalkKit

/-
  The closed facts on the row of wavestorelaw51.ConditionValues, each by the kernel.
-/
namespace Go.Proofs.YtdlebcijgdkfjaaGreatDoor

set_option maxHeartbeats 100000000 in
theorem conditionValues_facts : joinedFacts Tryz.prog 4 Tryz.f4 Rows.conditionValuesSpec Rows.conditionValuesRow = true := by
  unfold joinedFacts
  simp only [Bool.and_eq_true]
  repeat' apply And.intro
  all_goals as_aux_lemma => kernel_rfl

end Go.Proofs.YtdlebcijgdkfjaaGreatDoor
