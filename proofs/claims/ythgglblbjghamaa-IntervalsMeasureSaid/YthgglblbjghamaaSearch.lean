/-
  intervals.Next and Points, the reference's Next, Previous and Points: what they answer.
-/
import Derived.Test.YthgglblbjghamaaNormalOps
namespace Go.Proofs.Ythgglblbjghamaa
open Go.RowKit Go.Joins

/-- a number and a truth of which P holds -/
def RetNB (w : World) (P : Int → Bool → Prop) (e : Ending) (w' : World) : Prop := ∃ u ok, P u ok ∧ e = .returned (.tuple #[.int .i64 u, .bool ok]) ∧ Below w.heap.size w w'
def NextRel (w1 : World) (ys : List Iv) (t : Int) (i : Value) (wr : World) : Prop := ∃ k : Nat, k ≤ ys.length ∧ i = .int .i64 k ∧ Hid (∀ j (hj : j < ys.length), j < k → ys[j].2 < t) ∧ Below w1.heap.size w1 wr

set_option maxHeartbeats 1000000 in
theorem next_any (A : Option Addr) (c : Nat) (xs : List Iv) (t : Int) (w : World) (h : IvsAt w w.heap.size A xs) (hl : xs.length ≤ 1000000000000) :
    Calls Try.prog 39 #[.slice A xs.length c, .int .i64 t] w (RetNB w (NextIs (Mem xs) t)) := by
  go_enter Try.func39, Try.ntmps39
  go_wp2_with fail
  refine (normal_any A c xs _ h (by omega)).mono ?_
  rintro e w1 ⟨A1, c1, ys, rfl, hown1, hb1, ny, my⟩
  have hly := norm_len ny
  have ry := hown1.ats
  have HMY := hide my
  clear my hown1 h
  go_wp2_with fail
  go_loopw [11] (fun i wr => NextRel w1 ys t i wr) (fun i _ => ys.length - (intOf i).toNat)
  case atStart => exact ⟨0, Nat.zero_le _, rfl, fun j hj h => absurd h (Nat.not_lt_zero j), Below.refl _ _⟩
  case round =>
    obtain ⟨k, hk, rfl, hpre, hb⟩ := hrel
    by_cases hlt : k < ys.length
    · obtain ⟨b, off, rfl, hbb, hc1, hc2⟩ := (ry.below hb).at_ hlt
      by_cases ht : t ≤ ys[k].2
      · have HD := hide (next_hit ny hlt hpre.out ht)
        go_wp2
        go_ret2
        exact ⟨_, _, HD.out.congr HMY.out, rfl, bstep hb1 (hb.alloc hb.size _)⟩
      · have HD := hide (show ∀ j (hj : j < ys.length), j < k + 1 → ys[j].2 < t from fun j hj h => by
          rcases Nat.lt_or_ge j k with h' | h'
          · exact hpre.out j hj h'
          · obtain rfl : j = k := by omega
            omega)
        go_wp2
        go_roundw
        case rel => exact ⟨k + 1, by omega, by go_num, HD, hb.alloc hb.size _⟩
        case measure => simp [intOf]; omega
    · have HD := hide (next_none (ys := ys) (t := t) fun j hj => hpre.out j hj (by omega))
      go_wp2
      go_ret2
      exact ⟨_, _, HD.out.congr HMY.out, rfl, bstep hb1 hb⟩

theorem refNext_any (A : Option Addr) (c : Nat) (xs : List Iv) (t : Int) (w : World) (h : IvsAt w w.heap.size A xs) (hl : xs.length ≤ 1000000000000) :
    Calls Try.prog 40 #[.slice A xs.length c, .int .i64 t] w (RetNB w (NextIs (Mem xs) t)) := by
  go_enter Try.func40, Try.ntmps40
  go_wp2_with fail
  refine (refClip_any A c xs t 1099511627776 _ h hl).mono ?_
  rintro e w1 ⟨A1, c1, ys, rfl, hown1, hb1, ny, my⟩
  have hly := norm_len ny
  have ry := hown1.ats
  have HMY := hide my
  clear my hown1 h
  by_cases h0 : 0 < ys.length
  · obtain ⟨b, off, rfl, hbb, hc1, hc2⟩ := ry.at_ h0
    have d0 : ((ys.length : Int) == 0) = false := beq_false_of_ne (by omega)
    have HD := hide (next_clip (S := Mem xs) ny (fun v hv => (mem_bounds hv).2) HMY.out h0)
    simp only [Nat.zero_mul, Nat.add_zero] at hc1 hc2
    go_wp2
    go_ret2
    exact ⟨_, _, HD.out, rfl, hb1⟩
  · obtain rfl : ys = [] := List.eq_nil_of_length_eq_zero (by omega)
    have HD := hide (next_clip_none (S := Mem xs) (fun v hv => (mem_bounds hv).2) HMY.out rfl)
    go_wp2
    go_ret2
    exact ⟨_, _, HD.out, rfl, hb1⟩

theorem refPrevious_any (A : Option Addr) (c : Nat) (xs : List Iv) (t : Int) (w : World) (h : IvsAt w w.heap.size A xs) (hl : xs.length ≤ 1000000000000) :
    Calls Try.prog 42 #[.slice A xs.length c, .int .i64 t] w (RetNB w (PrevIs (Mem xs) t)) := by
  go_enter Try.func42, Try.ntmps42
  go_wp2_with fail
  refine (refClip_any A c xs 0 t _ h hl).mono ?_
  rintro e w1 ⟨A1, c1, ys, rfl, hown1, hb1, ny, my⟩
  have hly := norm_len ny
  have ry := hown1.ats
  have HMY := hide my
  clear my hown1 h
  by_cases h0 : 0 < ys.length
  · obtain ⟨k, hk⟩ : ∃ k, ys.length = k + 1 := ⟨ys.length - 1, by omega⟩
    have hk' : k < ys.length := by omega
    obtain ⟨b, off, rfl, hbb, hc1, hc2⟩ := ry.at_ hk'
    have HD := hide (prev_clip (S := Mem xs) ny (fun v hv => (mem_bounds hv).1) HMY.out k hk' hk)
    have d0 : ((k : Int) + 1 == 0) = false := beq_false_of_ne (by omega)
    have hkb : k ≤ 549755813889 := by omega
    generalize ys[k].2 = y2 at *
    generalize ys[k].1 = y1 at *
    rw [hk]
    clear hk' h0 HMY ry ny hly hk
    go_wp2
    go_ret2
    exact ⟨_, _, HD.out, rfl, hb1⟩
  · obtain rfl : ys = [] := List.eq_nil_of_length_eq_zero (by omega)
    have HD := hide (prev_clip_none (S := Mem xs) (fun v hv => (mem_bounds hv).1) HMY.out rfl)
    go_wp2
    go_ret2
    exact ⟨_, _, HD.out, rfl, hb1⟩

def RetPts (w : World) (xs : List Iv) (most : Int) (e : Ending) (w' : World) : Prop :=
  ∃ (ys : List Iv) (A : Option Addr) (c : Nat) (zs : List Int) (er : Int), Norm ys ∧ (∀ t, Mem ys t ↔ Mem xs t) ∧ PtsIs ys most zs er ∧ e = .returned (.tuple #[.slice A zs.length c, .int .i64 er]) ∧ OwnInt w' w.heap.size A c zs ∧ Below w.heap.size w w'

/-- at the head of the outer loop, k intervals being done -/
def PtsRel (w1 : World) (base : Nat) (ys : List Iv) (out i : Value) (wr : World) : Prop :=
  ∃ (k : Nat) (A : Option Addr) (c : Nat), k ≤ ys.length ∧ i = .int .i64 k ∧ out = .slice A (pts (ys.take k)).length c ∧ OwnInt wr base A c (pts (ys.take k)) ∧ Below w1.heap.size w1 wr
/-- at the head of the inner loop, n times of the k-th interval being done -/
def PtsIn (w1 : World) (base : Nat) (ys : List Iv) (k : Nat) (p q : Int) (N : Nat) (out t : Value) (wr : World) : Prop :=
  ∃ (n : Nat) (A : Option Addr) (c : Nat), (n : Int) ≤ q - p + 1 ∧ t = .int .i64 (p + n) ∧ out = .slice A (pts (ys.take k) ++ runL p n).length c ∧ OwnInt wr base A c (pts (ys.take k) ++ runL p n) ∧ Below w1.heap.size w1 wr ∧ wr.heap[N]? = some (.cells #[.int .i64 p, .int .i64 q] 52 (0, 0))

end Go.Proofs.Ythgglblbjghamaa
