/-
  decimal.number.first, sign; magnitude, compare.
-/
import Derived.Test.YtdlebcijgdkfjaaGreatDoorDecM
namespace Go.Proofs.YtdlebcijgdkfjaaGreatDoor
open Go.RowKit

set_option maxRecDepth 100000 in
theorem cfirst_any (neg : Bool) (A : Option Addr) (n c : Nat) (e : Int) (w : World) (hn : n ≤ 1000) (h0 : -3000000 ≤ e) (h1 : e ≤ 3000000) : Calls Tryz.prog 194 #[nv neg A n c e] w fun r w' => r = .returned (.int .i64 (e + n - 1)) ∧ Below w.heap.size w w' := by
  unfold nv
  go_enter Tryz.func194, Tryz.ntmps194
  go_wp2_with fail
  go_ret
  exact ⟨rfl, (Below.refl _ _).alloc (Nat.le_refl _) _⟩

def sgnB (neg : Bool) (n : Nat) : Int := if n = 0 then 0 else if neg then -1 else 1
set_option maxRecDepth 100000 in
theorem csign_any (neg : Bool) (A : Option Addr) (n c : Nat) (e : Int) (w : World) (hn : n ≤ 1000) : Calls Tryz.prog 136 #[nv neg A n c e] w fun r w' => r = .returned (.int .i64 (sgnB neg n)) ∧ Below w.heap.size w w' := by
  unfold nv
  by_cases h : n = 0
  · subst h
    go_enter Tryz.func136, Tryz.ntmps136
    go_wp2_with fail
    go_ret
    exact ⟨rfl, (Below.refl _ _).alloc (Nat.le_refl _) _⟩
  · have t1 : ((n : Int) == 0) = false := beq_eq_false_iff_ne.2 (by omega)
    have HS := hide (show sgnB neg n = if neg then -1 else 1 by unfold sgnB; rw [if_neg h])
    clear h
    cases neg
    all_goals
      go_enter Tryz.func136, Tryz.ntmps136
      go_wp2_with fail
      go_ret
      exact ⟨by rw [HS.out]; rfl, (Below.refl _ _).alloc (Nat.le_refl _) _⟩

end Go.Proofs.YtdlebcijgdkfjaaGreatDoor
