/-
  slices.BinarySearch of a sorted list of ints, also of an empty one.
-/
import Derived.Test.YtkbiefklilelmaaShelf2
import Derived.Test.YtkbiefklilelmaaInts
namespace Go.Proofs.Ytkbiefklilelmaa
open Go.RowKit

set_option maxRecDepth 100000 in
set_option maxHeartbeats 1000000 in
theorem bin_nil (A : Option Addr) (c : Nat) (x : Int) (w : World) :
    Calls Try.prog 84 #[.slice A 0 c, .int .i64 x] w fun e w' => e = .returned (.tuple #[.int .i64 0, .bool false]) ∧ ∃ q, w' = w.drewN q := by
  go_enter Try.func84, Try.ntmps84
  go_wp2
  refine wp_loop_rounds 1 ?_
  rw [rounds_succ]
  go_wp2
  go_ret2
  exact ⟨rfl, 0, rfl⟩

def BinPost (l : List Int) (x : Int) (w : World) (e : Ending) (w' : World) : Prop := e = .returned (.tuple #[.int .i64 (l.countP (· < x) : Nat), .bool (l.contains x)]) ∧ ∃ q, w' = w.drewN q
theorem bin_any (A : Option Addr) (c : Nat) (l : List Int) (x : Int) (w : World) (h : IntsAt w w.heap.size A l) (hl : l.length ≤ 1000000) (hs : l.Pairwise (· < ·)) :
    Calls Try.prog 84 #[.slice A l.length c, .int .i64 x] w (BinPost l x w) := by
  by_cases hne : l = []
  · subst hne
    exact (bin_nil A c x w).mono fun e w' h => ⟨h.1, h.2⟩
  · obtain ⟨b, off, rfl, hb, hc⟩ := h hne
    refine (Try.slices_BinarySearch_int b off l.length c l x w (Nat.le_refl _) (by omega) (fun j hj => ?_) ?_).mono fun e w' h => ?_
    · rw [hc j l[j] (List.getElem?_eq_getElem hj)]
      simp [List.getD_eq_getElem?_getD, hj]
    · rw [List.take_length]
      exact hs.imp fun h => Int.le_of_lt h
    · rw [List.take_length] at h
      exact h

end Go.Proofs.Ytkbiefklilelmaa
