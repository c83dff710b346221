/-
  Several texts in one: Lift54. Each says at its head what it holds.
-/
import Derived.Test.YtgobkbjkndfliaaGreatDoorAV6
import Derived.Test.YtgobkbjkndfliaaGreatDoorAV19
import Derived.Test.YtgobkbjkndfliaaGreatDoorAV37

/-
  The walk of AutomatonValid, in the order in which the lift hands on what it has read.
-/
namespace Go.Proofs.YtgobkbjkndfliaaGreatDoor
open Go.ChangeShapes Go.WideShapes Go.ChangeAt Go.RowKit Go.Deep

def AutIn (W : World) (a : Aut) : Prop := AutAt W (Lo W.heap.size) a ∧ (∃ evs cds, AutTrees W a evs cds) ∧ AutLe a
section
variable {H : Type} {enc : TypeId × Value → H} {W : World} {base : Nat} {spare : Nat → Bool} {held : Bool}
theorem rd_auto {fuel : Nat} {cs : List Value} {y : DataW H × List MemPlace} (h : DataW.trod enc Tryz.prog W base spare held fuel 30 cs = some y) (hf : Fit Tryz.prog 30 y.1) : ∃ a : Aut, cs = encA a ∧ AutIn W a := by
  obtain ⟨a, evs, cds, e, h1, h2, h3⟩ := rd_aut h hf
  exact ⟨a, e, h1, ⟨evs, cds, h2⟩, h3⟩
theorem rd_ints {fuel : Nat} {cs : List Value} {y : DataW H × List MemPlace} (h : DataW.trod enc Tryz.prog W base spare held fuel 43 cs = some y) (hf : Fit Tryz.prog 43 y.1) :
    ∃ A c xs, cs = [.slice A (List.length xs) c] ∧ IntsAt W W.heap.size A xs ∧ xs.length ≤ 140737488355328 ∧ True := by
  obtain ⟨A, c, rs, rfl, hr, hw⟩ := rd_slice 1 8 (fun z : Int => [.int .i64 z]) (fun _ => True) Tryz.underlying43 cellsInt5 (by decide) (by kernel_rfl)
    (fun n cs y h _ => by obtain ⟨z, rfl, _⟩ := rd_int Tryz.underlying3 h; exact ⟨z, rfl, trivial⟩) h hf
  refine ⟨A, c, rs, rfl, fun hne => ?_, by have : reachBytes < 2 ^ 47 := reachBytes_lt; omega, trivial⟩
  obtain ⟨b, off, rfl, hb, hc⟩ := hr hne
  refine ⟨b, off, rfl, hb, fun i r hi => ?_⟩
  have c0 := (hc i r hi).1 0 (by decide)
  simpa using c0
end
theorem valid_walk (a : Aut) (A1 : Option Addr) (c1 : Nat) (path : List Int) (W : World) (g : AutIn W a) (e1 : IntsAt W W.heap.size A1 path) (e2 : path.length ≤ 140737488355328) (_ : True) :
    Calls Tryz.prog 5 #[.agg (encA a).toArray, .slice A1 path.length c1] W (fun e w' => e = .returned (.bool true) ∧ Below W.heap.size W w') := by
  obtain ⟨h1, ⟨evs, cds, h2⟩, h3⟩ := g
  exact lawValid awake54 a evs cds A1 c1 path W h1 h2 h3 e1 e2

end Go.Proofs.YtgobkbjkndfliaaGreatDoor
