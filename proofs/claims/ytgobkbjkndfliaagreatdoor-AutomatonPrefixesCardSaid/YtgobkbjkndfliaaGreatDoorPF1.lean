/-
  Several texts in one: FactsPref. Each says at its head what it holds.
-/
import Derived.Test.YtgobkbjkndfliaaGreatDoorRows
import Derived.Test.YtgobkbjkndfliaaGreatDoorProg
import Derived.JoinedOf
import Derived.WalkKit

/-
  The closed facts on the row of wavestorelaw54.AutomatonPrefixes, each by the kernel.
-/
namespace Go.Proofs.YtgobkbjkndfliaaGreatDoor

set_option maxHeartbeats 100000000 in
theorem automatonPrefixes_facts : joinedFacts Tryz.prog 8 Tryz.f8 Rows.automatonPrefixesSpec Rows.automatonPrefixesRow = true := by
  unfold joinedFacts
  simp only [Bool.and_eq_true]
  repeat' apply And.intro
  all_goals as_aux_lemma => kernel_rfl

end Go.Proofs.YtgobkbjkndfliaaGreatDoor
