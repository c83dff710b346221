/-
  Several texts in one: FactsValid. Each says at its head what it holds.
-/
import Derived.Test.YtgobkbjkndfliaaGreatDoorRows
import Derived.Test.YtgobkbjkndfliaaGreatDoorProg
import Derived.JoinedOf
import Derived.WalkKit

/-
  The closed facts on the row of wavestorelaw54.AutomatonValid, each by the kernel.
-/
namespace Go.Proofs.YtgobkbjkndfliaaGreatDoor

set_option maxHeartbeats 100000000 in
theorem automatonValid_facts : joinedFacts Tryz.prog 5 Tryz.f5 Rows.automatonValidSpec Rows.automatonValidRow = true := by
  unfold joinedFacts
  simp only [Bool.and_eq_true]
  repeat' apply And.intro
  all_goals as_aux_lemma => kernel_rfl

end Go.Proofs.YtgobkbjkndfliaaGreatDoor
