/-
  Several texts in one: LiftChanges. Each says at its head what it holds.
-/
import Derived.Test.YtaaplalfggofiaaGreatDoorEC20
import Derived.Test.YtaaplalfggofiaaGreatDoorEC34
import Derived.Test.YtaaplalfggofiaaGreatDoorEC33

/-
  The walk of EventChanges, in the order in which the lift hands on what it has read.
-/
namespace Go.Proofs.YtaaplalfggofiaaGreatDoor
open Go.ChangeShapes Go.WideShapes Go.ChangeAt Go.RowKit Go.Deep

theorem changes_walk (v : Wv) (n : Nd) (f t : Int) (W : World) (g : WaveIn W v) (h : TreeIn W n) (_ : I64 f) (_ : I64 t) :
    Calls Tryz.prog 8 #[.agg (cWv v).toArray, .agg (cNd n).toArray, .int .i64 f, .int .i64 t] W (fun e w' => e = .returned (.bool true) ∧ Below W.heap.size W w') := by
  obtain ⟨h1, h2, gs, h3, h4⟩ := g
  exact changes_all awake53 v gs n f t W h1 h4 h3 h2 h.1 h.2

end Go.Proofs.YtaaplalfggofiaaGreatDoor
