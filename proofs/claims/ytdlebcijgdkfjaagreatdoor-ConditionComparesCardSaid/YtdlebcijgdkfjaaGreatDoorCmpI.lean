/-
  cmp.Compare at ints.
-/
import Derived.Test.YtdlebcijgdkfjaaGreatDoorDecN
namespace Go.Proofs.YtdlebcijgdkfjaaGreatDoor
open Go.RowKit

set_option maxRecDepth 100000 in
theorem isNaN_int (a : Int) (w : World) : Calls Tryz.prog 196 #[.int .i64 a] w fun r w' => r = .returned (.bool false) ∧ w = w' := by
  have t : (a != a) = false := by simp
  go_enter Tryz.func196, Tryz.ntmps196
  go_wp2_with fail
  go_ret
  exact ⟨by simp, rfl⟩
set_option maxRecDepth 100000 in
theorem cmpInt_any (a b : Int) (w : World) : Calls Tryz.prog 135 #[.int .i64 a, .int .i64 b] w fun r w' => r = .returned (.int .i64 (cmpI a b)) ∧ w = w' := by
  by_cases h1 : a < b
  · have HC := hide (show cmpI a b = -1 by unfold cmpI; rw [if_pos h1])
    go_enter Tryz.func135, Tryz.ntmps135
    go_wp2_with fail
    refine (isNaN_int _ _).mono ?_
    rintro e w1 ⟨rfl, rfl⟩
    go_wp2_with fail
    refine (isNaN_int _ _).mono ?_
    rintro e w1 ⟨rfl, rfl⟩
    go_wp2_with fail
    go_ret
    exact ⟨by rw [HC.out]; rfl, rfl⟩
  · by_cases h2 : b < a
    · have HC := hide (show cmpI a b = 1 by unfold cmpI; rw [if_neg h1, if_pos h2])
      go_enter Tryz.func135, Tryz.ntmps135
      go_wp2_with fail
      refine (isNaN_int _ _).mono ?_
      rintro e w1 ⟨rfl, rfl⟩
      go_wp2_with fail
      refine (isNaN_int _ _).mono ?_
      rintro e w1 ⟨rfl, rfl⟩
      go_wp2_with fail
      go_ret
      exact ⟨by rw [HC.out]; rfl, rfl⟩
    · have HC := hide (show cmpI a b = 0 by unfold cmpI; rw [if_neg h1, if_neg h2])
      go_enter Tryz.func135, Tryz.ntmps135
      go_wp2_with fail
      refine (isNaN_int _ _).mono ?_
      rintro e w1 ⟨rfl, rfl⟩
      go_wp2_with fail
      refine (isNaN_int _ _).mono ?_
      rintro e w1 ⟨rfl, rfl⟩
      go_wp2_with fail
      go_ret
      exact ⟨by rw [HC.out]; rfl, rfl⟩

end Go.Proofs.YtdlebcijgdkfjaaGreatDoor
