/-
  wavestorelaw46.same: whether two lists are equal.
-/
import Derived.Test.YthgglblbjghamaaSame
namespace Go.Proofs.Ythgglblbjghamaa
open Go.RowKit Go.Joins

theorem lawsame_any (A B : Option Addr) (c d : Nat) (xs ys : List Iv) (w : World) (hx : IvsAt w w.heap.size A xs) (hy : IvsAt w w.heap.size B ys) (hl : xs.length ≤ 4398046511104) (hl2 : ys.length ≤ 4398046511104) :
    Calls Try.prog 13 #[.slice A xs.length c, .slice B ys.length d] w fun e w' => e = .returned (.bool (decide (xs = ys))) ∧ ∃ q, w' = w.drewN q := by
  go_enter Try.func13, Try.ntmps13
  go_wp2_with fail
  refine (same_any A B c d xs ys _ hx hy hl hl2).mono ?_
  rintro e w1 ⟨rfl, q, rfl⟩
  go_wp2_with fail
  go_ret
  exact ⟨rfl, q, rfl⟩

/-- two results that are the normal lists of one set -/
theorem same_true (A B : Option Addr) (c d : Nat) (xs ys : List Iv) (w : World) (hx : IvsAt w w.heap.size A xs) (hy : IvsAt w w.heap.size B ys) (nx : Norm xs) (ny : Norm ys) (h : ∀ t, Mem xs t ↔ Mem ys t) :
    Calls Try.prog 13 #[.slice A xs.length c, .slice B ys.length d] w fun e w' => e = .returned (.bool true) ∧ Below w.heap.size w w' :=
  (lawsame_any A B c d xs ys w hx hy (by have := norm_len nx; omega) (by have := norm_len ny; omega)).mono fun _ _ ⟨he, q, hw⟩ => ⟨by rw [he, decide_eq_true (norm_ext nx ny h)], by rw [hw]; exact below_drewN (Below.refl _ _) q⟩

end Go.Proofs.Ythgglblbjghamaa
