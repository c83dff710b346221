/-
  wavestoreref51.inverted, bit, sum.
-/
import Derived.Test.YtmlcdcemnhiijaaGreatDoorRef51
namespace Go.Proofs.YtmlcdcemnhiijaaGreatDoor
open Go.RowKit

theorem known1 {c : UInt8} {v : Bool} (h : Hid (knC c = v)) (w : World) : Calls Tryz.prog 33 #[.string ⟨#[c]⟩] w fun e w' => e = .returned (.bool v) ∧ w = w' :=
  (rknown_any ⟨#[c]⟩ w (by show 1 ≤ 1000; omega)).mono fun e w' ⟨h1, h2⟩ => ⟨by rw [h1, ← h.out]; simp [knownB], h2⟩

set_option maxRecDepth 100000 in
set_option maxHeartbeats 4000000 in
theorem bit_any (k : Int) (hk : k = 9 ∨ k = 10 ∨ k = 11) (a b : UInt8) (w : World) :
    Calls Tryz.prog 25 #[.int .i64 k, bv a, bv b] w fun e w' => e = .returned (bv (opC k a b)) ∧ Below w.heap.size w w' := by
  have kc := conv_one
  have kc2 : ∀ (w : World) (d c : UInt8), (convert 53 9 (.slice (some ⟨w.heap.size + 1, 0, none⟩) 1 1)).run Tryz.prog ((w.alloc (.cells #[bv d] 5)).alloc (.cells #[bv c] 5)) = .ok (.string ⟨#[c]⟩) ((w.alloc (.cells #[bv d] 5)).alloc (.cells #[bv c] 5)) := fun w d c => by
    have h := conv_one (w.alloc (.cells #[bv d] 5)) c
    rw [World.size_alloc] at h
    exact h
  have HOP := hide (op_tab k hk a b).1
  rcases code_cases a with ⟨rfl, h1, h2⟩ | ⟨rfl, h1, h2⟩ | ⟨p0, p1, p0', p1', h1, h2⟩
  all_goals
    have HA := hide h1
    have HKA := hide h2
    clear h1 h2
    rcases code_cases b with ⟨rfl, h1, h2⟩ | ⟨rfl, h1, h2⟩ | ⟨q0, q1, q0', q1', h1, h2⟩
    all_goals
      have HB := hide h1
      have HKB := hide h2
      clear h1 h2
      first | rw [HA.out, HB.out] at HOP | rw [HA.out] at HOP
      rcases hk with rfl | rfl | rfl
      all_goals
        go_enter Tryz.func25, Tryz.ntmps25
        go_wp2_with (first | (go_at_call 33; ((with_reducible refine (known1 HKA _).mono ?_); rintro e w1 ⟨rfl, rfl⟩)) | (go_at_call 33; ((with_reducible refine (known1 HKB _).mono ?_); rintro e w1 ⟨rfl, rfl⟩)))
        go_ret
        exact ⟨by rw [HOP.out]; rfl, by first | exact Below.refl _ _ | exact ((Below.refl _ _).alloc (Nat.le_refl _) _) | exact ((Below.refl _ _).alloc (Nat.le_refl _) _).alloc (by simp) _⟩

end Go.Proofs.YtmlcdcemnhiijaaGreatDoor
