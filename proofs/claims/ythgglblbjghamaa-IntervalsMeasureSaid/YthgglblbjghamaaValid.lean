/-
  intervals.Valid: whether a list is normal.
-/
import Derived.Test.YthgglblbjghamaaBase
namespace Go.Proofs.Ythgglblbjghamaa
open Go.RowKit

def badB (last : Int) (x : Iv) : Bool := decide (x.2 < x.1 ∨ 1099511627776 < x.2 ∨ x.1 < last + 2 ∨ x.1 < 0)
def validFrom : Int → List Iv → Bool
  | _, [] => true
  | last, x :: r => !badB last x && validFrom x.2 r
def validB (xs : List Iv) : Bool := validFrom (-2) xs

theorem validFrom_iff {last : Int} {xs : List Iv} : validFrom last xs = true ↔ Norm xs ∧ ∀ x ∈ xs, last + 2 ≤ x.1 := by
  induction xs generalizing last with
  | nil => simp [validFrom, Norm.nil]
  | cons x r ih =>
    unfold validFrom badB
    rw [Bool.and_eq_true, ih, Bool.not_eq_true', decide_eq_false_iff_not, norm_cons]
    unfold Okv
    constructor
    · rintro ⟨h1, h2, h3⟩
      refine ⟨⟨by omega, h3, h2⟩, fun y hy => ?_⟩
      rcases List.mem_cons.1 hy with rfl | hy
      · omega
      · have := h3 y hy; omega
    · rintro ⟨⟨h1, h2, h3⟩, h4⟩
      exact ⟨by have := h4 x (by simp); omega, h3, h2⟩
theorem validB_iff {xs : List Iv} : validB xs = true ↔ Norm xs := by
  unfold validB
  rw [validFrom_iff]
  exact ⟨fun h => h.1, fun h => ⟨h, fun x hx => by have := (h.1 x hx).1; omega⟩⟩

def ValidRel (w : World) (xs : List Iv) (vl i : Value) (wr : World) : Prop :=
  ∃ (k : Nat) (last : Int), k ≤ xs.length ∧ i = .int .i64 k ∧ vl = .int .i64 last ∧ -2 ≤ last ∧ last ≤ 1099511627776 ∧ validB xs = validFrom last (xs.drop k) ∧ Below w.heap.size w wr

set_option maxHeartbeats 1000000 in
theorem valid_any (A : Option Addr) (c : Nat) (xs : List Iv) (w : World) (h : IvsAt w w.heap.size A xs) (hl : xs.length ≤ 4398046511104) :
    Calls Try.prog 29 #[.slice A xs.length c] w fun e w' => e = .returned (.bool (validB xs)) ∧ Below w.heap.size w w' := by
  go_enter Try.func29, Try.ntmps29
  go_wp2
  go_loopw [3, 8] (fun l i wr => ValidRel w xs l i wr) (fun _ i _ => xs.length - (intOf i).toNat)
  case atStart => exact ⟨0, -2, Nat.zero_le _, rfl, rfl, by omega, by omega, rfl, Below.refl _ _⟩
  case round =>
    obtain ⟨k, last, hk, rfl, rfl, l1, l2, hv, hb⟩ := hrel
    have HV := hide hv
    clear hv
    by_cases hlt : k < xs.length
    · obtain ⟨b, off, rfl, hbb, hc1, hc2⟩ := (h.below hb).at_ hlt
      have HD := hide (List.drop_eq_getElem_cons hlt)
      by_cases hbad : xs[k].2 < xs[k].1 ∨ 1099511627776 < xs[k].2 ∨ xs[k].1 < last + 2 ∨ xs[k].1 < 0
      · have HF : Hid (validB xs = false) := by
          show validB xs = false
          rw [HV.out, HD.out]; unfold validFrom badB; rw [decide_eq_true hbad]; rfl
        go_wp2
        all_goals first | (go_ret; exact ⟨by rw [HF.out]; rfl, hb.alloc hb.size _⟩) | (exfalso; omega)
      · have HF : Hid (validB xs = validFrom xs[k].2 (xs.drop (k + 1))) := by
          show validB xs = validFrom xs[k].2 (xs.drop (k + 1))
          rw [HV.out, HD.out]; rw [validFrom, badB, decide_eq_false hbad]; rfl
        have g1 : ¬ xs[k].2 < xs[k].1 := fun h => hbad (.inl h)
        have g2 : ¬ 1099511627776 < xs[k].2 := fun h => hbad (.inr (.inl h))
        have g3 : ¬ xs[k].1 < last + 2 := fun h => hbad (.inr (.inr (.inl h)))
        have g4 : ¬ xs[k].1 < 0 := fun h => hbad (.inr (.inr (.inr h)))
        clear hbad
        go_wp2
        go_roundw
        case rel => exact ⟨k + 1, xs[k].2, by omega, by go_num, rfl, by omega, by omega, HF.out, hb.alloc hb.size _⟩
        case measure => simp [intOf]; omega
    · go_wp2
      go_ret
      refine ⟨?_, hb⟩
      have h1 := HV.out
      rw [List.drop_eq_nil_of_le (by omega)] at h1
      rw [h1]
      rfl

/-- a normal list is valid -/
theorem valid_true (A : Option Addr) (c : Nat) (xs : List Iv) (w : World) (h : IvsAt w w.heap.size A xs) (hn : Norm xs) :
    Calls Try.prog 29 #[.slice A xs.length c] w fun e w' => e = .returned (.bool true) ∧ Below w.heap.size w w' :=
  (valid_any A c xs w h (by have := norm_len hn; omega)).mono fun _ _ ⟨he, hb⟩ => ⟨by rw [he, validB_iff.2 hn], hb⟩

end Go.Proofs.Ythgglblbjghamaa
