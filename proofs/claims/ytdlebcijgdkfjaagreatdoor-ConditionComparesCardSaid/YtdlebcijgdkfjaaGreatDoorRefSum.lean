/-
  wavestoreref03.places, fixed, zeros, pad, add, subtract, negative, sign.
-/
import Derived.Test.YtdlebcijgdkfjaaGreatDoorRefTxt
namespace Go.Proofs.YtdlebcijgdkfjaaGreatDoor
open Go.RowKit

theorem bs_ne {l : List UInt8} (h : l ≠ []) : (bs l).toList.isEmpty = false := by
  rw [ByteArray.toList_eq]
  simpa [bs] using h
def pvD (d : Dec) : Value := pv d.neg d.ds d.fst

set_option maxRecDepth 100000 in
theorem rplaces_any (a b : Dec) (w : World) (ha : DecOk a) (hb : DecOk b) : Calls Tryz.prog 140 #[pvD a, pvD b] w fun e w' => e = .returned (.int .i64 (placesD a b)) ∧ Below w.heap.size w w' := by
  have la := ha.len
  have lb := hb.len
  have fa0 := ha.f0
  have fa1 := ha.f1
  have fb0 := hb.f0
  have fb1 := hb.f1
  have za : (bs a.ds).size = a.ds.length := bs_size _
  have zb : (bs b.ds).size = b.ds.length := bs_size _
  unfold pvD pv
  go_enter Tryz.func140, Tryz.ntmps140
  go_wp2_with fail
  all_goals
    go_ret
    exact ⟨congrArg (fun i => Ending.returned (Value.int .i64 i)) (by unfold placesD; omega), ((Below.refl _ _).alloc (Nat.le_refl _) _).alloc (by simp) _⟩

theorem rneg_end {w : World} {W : World} {b : Bool} {ds : List UInt8} {f : Int} (h : PB w (w.heap.size + 1) b ds f W) (a : Dec) (h1 : b = (negD a).neg) (h2 : ds = a.ds) (h3 : f = a.fst) : PB w (w.heap.size + 1) (negD a).neg (negD a).ds (negD a).fst W := by
  subst h1 h2 h3; exact h

set_option maxRecDepth 100000 in
theorem rneg_any (a : Dec) (w : World) : Calls Tryz.prog 91 #[pvD a] w fun e w' => e = .returned (pvD (negD a)) ∧ Below w.heap.size w w' := by
  unfold pvD pv
  cases hn : a.neg
  all_goals
    by_cases hd : a.ds = []
    case' pos => have hE : (bs a.ds).toList.isEmpty = true := by rw [hd]; exact bs_nil_empty
    case' neg => have hE : (bs a.ds).toList.isEmpty = false := bs_ne hd
  all_goals
    have HN := hide (show (negD a).neg = (!a.neg && !a.ds.isEmpty) from rfl)
    rw [hn] at HN
    first
      | rw [show a.ds.isEmpty = true by rw [hd]; rfl] at HN
      | rw [show a.ds.isEmpty = false by rw [List.isEmpty_eq_false_iff]; exact hd] at HN
    clear hn hd
    go_enter Tryz.func91, Tryz.ntmps91
    go_wp2_with fail
    refine bodyPost_ret (by simp [results, Tryz.results91, go_sem]; rfl) rfl ⟨?_, ((Below.refl _ _).alloc (Nat.le_refl _) _).alloc (by simp) _⟩
    rw [HN.out]
    rfl

set_option maxRecDepth 100000 in
theorem rsign_any (a : Dec) (w : World) : Calls Tryz.prog 88 #[pvD a] w fun e w' => e = .returned (.int .i64 (sgnD a)) ∧ Below w.heap.size w w' := by
  unfold pvD pv
  by_cases hd : a.ds = []
  · have hE : (bs a.ds).toList.isEmpty = true := by rw [hd]; exact bs_nil_empty
    have HS := hide (show sgnD a = 0 by unfold sgnD; rw [if_pos hd])
    clear hd
    go_enter Tryz.func88, Tryz.ntmps88
    go_wp2_with fail
    go_ret
    exact ⟨by rw [HS.out]; rfl, (Below.refl _ _).alloc (Nat.le_refl _) _⟩
  · have hE : (bs a.ds).toList.isEmpty = false := bs_ne hd
    cases hn : a.neg
    all_goals
      have HS := hide (show sgnD a = if a.neg then -1 else 1 by unfold sgnD; rw [if_neg hd])
      rw [hn] at HS
    all_goals
      clear hd hn
      go_enter Tryz.func88, Tryz.ntmps88
      go_wp2_with fail
      go_ret
      exact ⟨by rw [HS.out]; rfl, (Below.refl _ _).alloc (Nat.le_refl _) _⟩

def FxRel (ds : List UInt8) (f : Int) (m : Nat) (sv nv : Value) : Prop := ∃ k : Nat, k ≤ m ∧ sv = .string (bs (ds ++ List.replicate k 48)) ∧ nv = .int .i64 (f + k)
theorem rep_snoc (ds : List UInt8) (k : Nat) : bs (ds ++ List.replicate k 48) ++ bs [48] = bs (ds ++ List.replicate (k + 1) 48) := by
  rw [bs_app, List.append_assoc, ← List.replicate_succ']
set_option maxRecDepth 100000 in
theorem rfixed_any (a : Dec) (n : Int) (w : World) (ha : DecOk a) (h0 : 0 ≤ n) (h1 : n ≤ 500) : Calls Tryz.prog 141 #[pvD a, .int .i64 n] w fun e w' => e = .returned (.string (bs (fixD a n))) ∧ Below w.heap.size w w' := by
  have la := ha.len
  have fa0 := ha.f0
  have fa1 := ha.f1
  have za : (bs a.ds).size = a.ds.length := bs_size _
  obtain ⟨m, hm⟩ : ∃ m : Nat, m = (n - ((a.ds.length : Int) - 1 - a.fst)).toNat := ⟨_, rfl⟩
  have HF := hide (show fixD a n = a.ds ++ List.replicate m 48 by unfold fixD; rw [← hm])
  unfold pvD pv
  have hbm : m ≤ 1000 := by omega
  have hm1 : n ≤ (a.ds.length : Int) - 1 - a.fst + m := by omega
  have hm2 : m = 0 ∨ (a.ds.length : Int) - 1 - a.fst + m = n := by omega
  have HM := hide hm2
  clear hm hm2
  go_enter Tryz.func141, Tryz.ntmps141
  go_wp2_with fail
  go_loop [5, 6] (fun sv nv => FxRel a.ds ((a.ds.length : Int) - 1 - a.fst) m sv nv) (fun _ nv => (n - intOf nv).toNat)
  case atStart => exact ⟨0, Nat.zero_le _, by rw [List.replicate_zero, List.append_nil], by go_num⟩
  case round =>
    obtain ⟨k, hk, rfl, rfl⟩ := hrel
    have hzk : (bs (a.ds ++ List.replicate k 48)).size ≤ 2000 := by rw [bs_size]; simp; omega
    have hm2 := HM.out
    have RS := hide (rep_snoc a.ds k)
    by_cases hlt : (a.ds.length : Int) - 1 - a.fst + k < n
    · have hlt' := hlt
      have hkm : k < m := by omega
      clear hm2
      go_wp2_with fail
      refine ⟨⟨k + 1, by omega, congrArg Value.string RS.out, by go_num⟩, by simp [intOf]; omega⟩
    · have hkm : k = m := by omega
      subst hkm
      clear hm2
      go_wp2_with fail
      go_ret
      exact ⟨by rw [HF.out]; rfl, (Below.refl _ _).alloc (Nat.le_refl _) _⟩

end Go.Proofs.YtdlebcijgdkfjaaGreatDoor
