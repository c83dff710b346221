/-
  wavestorelaw46.contains: membership by definition.
-/
import Derived.Test.YthgglblbjghamaaRefAdd
namespace Go.Proofs.Ythgglblbjghamaa
open Go.RowKit

def ContRel (w : World) (xs : List Iv) (t : Int) (i : Value) (wr : World) : Prop := ∃ k : Nat, k ≤ xs.length ∧ i = .int .i64 k ∧ (memB (xs.take k) t && decide (0 ≤ t ∧ t ≤ 1099511627776)) = false ∧ Below w.heap.size w wr

set_option maxHeartbeats 1000000 in
theorem contains_any (A : Option Addr) (c : Nat) (xs : List Iv) (t : Int) (w : World) (h : IvsAt w w.heap.size A xs) (hl : xs.length ≤ 4398046511104) :
    Calls Try.prog 28 #[.slice A xs.length c, .int .i64 t] w fun e w' => e = .returned (.bool (memT xs t)) ∧ Below w.heap.size w w' := by
  go_enter Try.func28, Try.ntmps28
  go_wp2
  go_loopw [9] (fun i wr => ContRel w xs t i wr) (fun i _ => xs.length - (intOf i).toNat)
  case atStart => exact ⟨0, Nat.zero_le _, rfl, rfl, Below.refl _ _⟩
  case round =>
    obtain ⟨k, hk, rfl, hm, hb⟩ := hrel
    have HM := hide hm
    clear hm
    by_cases hlt : k < xs.length
    · obtain ⟨b, off, rfl, hbb, hc1, hc2⟩ := (h.below hb).at_ hlt
      have HS := hide (memB_take_succ xs k t hlt)
      by_cases hin : xs[k].1 ≤ t ∧ t ≤ xs[k].2 ∧ 0 ≤ t ∧ t ≤ 1099511627776
      · obtain ⟨h1, h2, h3, h4⟩ := hin
        go_wp2
        go_ret
        exact ⟨by rw [memT_in ⟨h3, h4⟩, memB_true hlt ⟨h1, h2⟩]; rfl, hb.alloc hb.size _⟩
      · go_wp2
        all_goals
          go_roundw
          case rel =>
            refine ⟨k + 1, by omega, by go_num, ?_, hb.alloc hb.size _⟩
            have h1 := HM.out
            rw [HS.out]
            rw [Bool.and_eq_false_iff] at h1 ⊢
            by_cases h5 : 0 ≤ t ∧ t ≤ 1099511627776
            · rcases h1 with h1 | h1
              · left; rw [h1, decide_eq_false (by omega)]; rfl
              · rw [decide_eq_true h5] at h1; cases h1
            · right; exact decide_eq_false h5
          case measure => simp [intOf]; omega
    · go_wp2
      go_ret
      refine ⟨?_, hb⟩
      have h1 := HM.out
      rw [List.take_of_length_le (by omega)] at h1
      have h2 : memT xs t = false := by unfold memT; rw [Bool.and_comm]; exact h1
      rw [h2]
      rfl

/-- the same with the result written out -/
theorem contains_is (v : Bool) (A : Option Addr) (c : Nat) (xs : List Iv) (t : Int) (w : World) (h : IvsAt w w.heap.size A xs) (hl : xs.length ≤ 4398046511104) (hv : memT xs t = v) :
    Calls Try.prog 28 #[.slice A xs.length c, .int .i64 t] w fun e w' => e = .returned (.bool v) ∧ Below w.heap.size w w' := by
  subst hv; exact contains_any A c xs t w h hl

end Go.Proofs.Ythgglblbjghamaa
