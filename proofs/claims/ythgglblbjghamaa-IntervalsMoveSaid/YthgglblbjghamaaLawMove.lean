/-
  wavestorelaw46.IntervalsMove returns true.
-/
import Derived.Test.YthgglblbjghamaaAwake
import Derived.Test.YthgglblbjghamaaRefMove
namespace Go.Proofs.Ythgglblbjghamaa
open Go.RowKit Go.Joins

set_option maxRecDepth 100000 in
set_option maxHeartbeats 2000000 in
theorem move_walk (A : Option Addr) (c : Nat) (xs : List Iv) (a b d lo hi : Int) (w : World) (hx : IvsAt w w.heap.size A xs) (_ : I64 a) (_ : I64 b) (_ : I64 d) (_ : I64 lo) (_ : I64 hi) :
    Calls Try.prog 5 #[.slice A xs.length c, .int .i64 a, .int .i64 b, .int .i64 d, .int .i64 lo, .int .i64 hi] w fun e w' => e = .returned (.bool true) ∧ Below w.heap.size w w' := by
  by_cases hfew : xs.length ≤ 24
  · have hd0 : fewB xs.length 0 = true := fewB_iff.2 ⟨hfew, by omega⟩
    go_enter Try.func5, Try.ntmps5
    go_wp2_with fail
    refine (few_any _ _ _ _ _ _ _).mono ?_
    rintro e w' ⟨rfl, rfl⟩
    rw [hd0]
    clear hd0
    go_wp2_with fail
    refine (shift_any A c xs d lo hi _ hx (by omega)).mono ?_
    rintro e1 w1 ⟨A1, c1, y1, rfl, o1, b1, n1, m1⟩
    have M1 := hide m1
    clear m1
    have hx1 := hx.step b1
    go_wp2_with fail
    refine (refShift_any A c xs d lo hi _ hx1 (by omega)).mono ?_
    rintro e2 w2 ⟨A2, c2, y2, rfl, o2, b2, n2, m2⟩
    have M2 := hide m2
    clear m2
    go_wp2_with fail
    refine (same_true A1 A2 c1 c2 y1 y2 _ (o1.ats.step b2) o2.ats n1 n2 (fun t => (M1.out t).trans (M2.out t).symm)).mono ?_
    rintro e3 v1 ⟨rfl, b3⟩
    have hx10 := (hx1.step b2).step b3
    have hb10 := bstep (bstep b1 b2) b3
    clear M1 M2 o1 o2 b1 b2 b3 n1 n2 hx1 hx
    go_wp2_with fail
    refine (grow_any A c xs a b lo hi _ hx10 (by omega)).mono ?_
    rintro e1 w1 ⟨A1, c1, y1, rfl, o1, b1, n1, m1⟩
    have M1 := hide m1
    clear m1
    have hx1 := hx10.step b1
    go_wp2_with fail
    refine (refGrow_any A c xs a b lo hi _ hx1 (by omega)).mono ?_
    rintro e2 w2 ⟨A2, c2, y2, rfl, o2, b2, n2, m2⟩
    have M2 := hide m2
    clear m2
    go_wp2_with fail
    refine (same_true A1 A2 c1 c2 y1 y2 _ (o1.ats.step b2) o2.ats n1 n2 (fun t => (M1.out t).trans (M2.out t).symm)).mono ?_
    rintro e3 v2 ⟨rfl, b3⟩
    have hx20 := (hx1.step b2).step b3
    have hb20 := bstep (bstep (bstep hb10 b1) b2) b3
    clear M1 M2 o1 o2 b1 b2 b3 n1 n2 hx1 hx10 hb10
    go_wp2_with fail
    refine (shrink_any A c xs a b lo hi _ hx20 (by omega)).mono ?_
    rintro e1 w1 ⟨A1, c1, y1, rfl, o1, b1, n1, m1⟩
    have M1 := hide m1
    clear m1
    have hx1 := hx20.step b1
    go_wp2_with fail
    refine (refShrink_any A c xs a b lo hi _ hx1 (by omega)).mono ?_
    rintro e2 w2 ⟨A2, c2, y2, rfl, o2, b2, n2, m2⟩
    have M2 := hide m2
    clear m2
    go_wp2_with fail
    refine (same_true A1 A2 c1 c2 y1 y2 _ (o1.ats.step b2) o2.ats n1 n2 (fun t => (M1.out t).trans (M2.out t).symm)).mono ?_
    rintro e3 v3 ⟨rfl, b3⟩
    have hx30 := (hx1.step b2).step b3
    have hb30 := bstep (bstep (bstep hb20 b1) b2) b3
    clear M1 M2 o1 o2 b1 b2 b3 n1 n2 hx1 hx20 hb20
    go_wp2_with fail
    refine (awake_any _).mono ?_
    rintro e6 w8 ⟨rfl, b8⟩
    go_wp2_with fail
    go_ret
    exact ⟨rfl, bstep hb30 b8⟩
  · have hd0 : fewB xs.length 0 = false := fewB_no (fun h => hfew h.1)
    go_enter Try.func5, Try.ntmps5
    go_wp2_with fail
    refine (few_any _ _ _ _ _ _ _).mono ?_
    rintro e w' ⟨rfl, rfl⟩
    rw [hd0]
    clear hd0
    go_wp2_with fail
    refine (awake_any _).mono ?_
    rintro e6 w6 ⟨rfl, b6⟩
    go_wp2_with fail
    go_ret
    exact ⟨rfl, b6⟩
end Go.Proofs.Ythgglblbjghamaa
