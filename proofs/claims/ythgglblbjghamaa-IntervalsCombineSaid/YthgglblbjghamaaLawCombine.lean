/-
  wavestorelaw46.IntervalsCombine returns true.
-/
import Derived.Test.YthgglblbjghamaaAwake
import Derived.Test.YthgglblbjghamaaRefOps
namespace Go.Proofs.Ythgglblbjghamaa
open Go.RowKit Go.Joins

set_option maxRecDepth 100000 in
set_option maxHeartbeats 2000000 in
theorem combine_walk (A : Option Addr) (c : Nat) (xs : List Iv) (B : Option Addr) (d : Nat) (ys : List Iv) (lo hi : Int) (w : World) (hx : IvsAt w w.heap.size A xs) (hy : IvsAt w w.heap.size B ys) (_ : I64 lo) (_ : I64 hi) :
    Calls Try.prog 4 #[.slice A xs.length c, .slice B ys.length d, .int .i64 lo, .int .i64 hi] w fun e w' => e = .returned (.bool true) ∧ Below w.heap.size w w' := by
  by_cases hfew : xs.length ≤ 24 ∧ ys.length ≤ 24
  · have hd0 : fewB xs.length ys.length = true := fewB_iff.2 hfew
    obtain ⟨f1, f2⟩ := hfew
    go_enter Try.func4, Try.ntmps4
    go_wp2_with fail
    refine (few_any _ _ _ _ _ _ _).mono ?_
    rintro e w' ⟨rfl, rfl⟩
    rw [hd0]
    clear hd0
    go_wp2_with fail
    refine (union_any A B c d xs ys _ hx hy (by omega) (by omega)).mono ?_
    rintro e1 w1 ⟨A1, c1, y1, rfl, o1, b1, n1, m1⟩
    have M1 := hide m1
    clear m1
    have hx1 := hx.step b1
    have hy1 := hy.step b1
    go_wp2_with fail
    refine (refEither_any A B c d xs ys _ hx1 hy1 (by omega) (by omega)).mono ?_
    rintro e2 w2 ⟨A2, c2, y2, rfl, o2, b2, n2, m2⟩
    have M2 := hide m2
    clear m2
    go_wp2_with fail
    refine (same_true A1 A2 c1 c2 y1 y2 _ (o1.ats.step b2) o2.ats n1 n2 (fun t => (M1.out t).trans (M2.out t).symm)).mono ?_
    rintro e3 w3 ⟨rfl, b3⟩
    have hx3 := (hx1.step b2).step b3
    have hy3 := (hy1.step b2).step b3
    have hb3 := bstep (bstep b1 b2) b3
    clear M1 M2 o1 o2 b1 b2 b3 n1 n2 hx hy hx1 hy1
    go_wp2_with fail
    refine (intersect_any A B c d xs ys _ hx3 hy3 (by omega) (by omega)).mono ?_
    rintro e1 w1 ⟨A1, c1, y1, rfl, o1, b1, n1, m1⟩
    have M1 := hide m1
    clear m1
    have hx1 := hx3.step b1
    have hy1 := hy3.step b1
    go_wp2_with fail
    refine (refBoth_any A B c d xs ys _ hx1 hy1 (by omega) (by omega)).mono ?_
    rintro e2 w2 ⟨A2, c2, y2, rfl, o2, b2, n2, m2⟩
    have M2 := hide m2
    clear m2
    go_wp2_with fail
    refine (same_true A1 A2 c1 c2 y1 y2 _ (o1.ats.step b2) o2.ats n1 n2 (fun t => (M1.out t).trans (M2.out t).symm)).mono ?_
    rintro e3 w4 ⟨rfl, b3⟩
    have hx4 := (hx1.step b2).step b3
    have hy4 := (hy1.step b2).step b3
    have hb4 := bstep (bstep (bstep hb3 b1) b2) b3
    clear M1 M2 o1 o2 b1 b2 b3 n1 n2 hx3 hy3 hx1 hy1 hb3
    go_wp2_with fail
    refine (without_any A B c d xs ys _ hx4 hy4 (by omega) (by omega)).mono ?_
    rintro e1 w1 ⟨A1, c1, y1, rfl, o1, b1, n1, m1⟩
    have M1 := hide m1
    clear m1
    have hx1 := hx4.step b1
    have hy1 := hy4.step b1
    go_wp2_with fail
    refine (refFirst_any A B c d xs ys _ hx1 hy1 (by omega) (by omega)).mono ?_
    rintro e2 w2 ⟨A2, c2, y2, rfl, o2, b2, n2, m2⟩
    have M2 := hide m2
    clear m2
    go_wp2_with fail
    refine (same_true A1 A2 c1 c2 y1 y2 _ (o1.ats.step b2) o2.ats n1 n2 (fun t => (M1.out t).trans (M2.out t).symm)).mono ?_
    rintro e3 w5 ⟨rfl, b3⟩
    have hx5 := (hx1.step b2).step b3
    have hb5 := bstep (bstep (bstep hb4 b1) b2) b3
    clear M1 M2 o1 o2 b1 b2 b3 n1 n2 hx4 hy4 hx1 hy1 hb4
    go_wp2_with fail
    refine (clip_any A c xs lo hi _ hx5 (by omega)).mono ?_
    rintro e1 w1 ⟨A1, c1, y1, rfl, o1, b1, n1, m1⟩
    have M1 := hide m1
    clear m1
    have hx1 := hx5.step b1
    go_wp2_with fail
    refine (refClip_any A c xs lo hi _ hx1 (by omega)).mono ?_
    rintro e2 w2 ⟨A2, c2, y2, rfl, o2, b2, n2, m2⟩
    have M2 := hide m2
    clear m2
    go_wp2_with fail
    refine (same_true A1 A2 c1 c2 y1 y2 _ (o1.ats.step b2) o2.ats n1 n2 (fun t => (M1.out t).trans (M2.out t).symm)).mono ?_
    rintro e3 w6 ⟨rfl, b3⟩
    have hx6 := (hx1.step b2).step b3
    have hb6 := bstep (bstep (bstep hb5 b1) b2) b3
    clear M1 M2 o1 o2 b1 b2 b3 n1 n2 hx5 hx1 hb5
    go_wp2_with fail
    refine (complement_any A c xs lo hi _ hx6 (by omega)).mono ?_
    rintro e1 w1 ⟨A1, c1, y1, rfl, o1, b1, n1, m1⟩
    have M1 := hide m1
    clear m1
    have hx1 := hx6.step b1
    go_wp2_with fail
    refine (refComplement_any A c xs lo hi _ hx1 (by omega)).mono ?_
    rintro e2 w2 ⟨A2, c2, y2, rfl, o2, b2, n2, m2⟩
    have M2 := hide m2
    clear m2
    go_wp2_with fail
    refine (same_true A1 A2 c1 c2 y1 y2 _ (o1.ats.step b2) o2.ats n1 n2 (fun t => (M1.out t).trans (M2.out t).symm)).mono ?_
    rintro e3 w7 ⟨rfl, b3⟩
    have hb7 := bstep (bstep (bstep hb6 b1) b2) b3
    clear M1 M2 o1 o2 b1 b2 b3 n1 n2 hx6 hx1 hb6
    go_wp2_with fail
    refine (awake_any _).mono ?_
    rintro e6 w8 ⟨rfl, b8⟩
    go_wp2_with fail
    go_ret
    exact ⟨rfl, bstep hb7 b8⟩
  · have hd0 : fewB xs.length ys.length = false := fewB_no hfew
    go_enter Try.func4, Try.ntmps4
    go_wp2_with fail
    refine (few_any _ _ _ _ _ _ _).mono ?_
    rintro e w' ⟨rfl, rfl⟩
    rw [hd0]
    clear hd0
    go_wp2_with fail
    refine (awake_any _).mono ?_
    rintro e6 w6 ⟨rfl, b6⟩
    go_wp2_with fail
    go_ret
    exact ⟨rfl, b6⟩
end Go.Proofs.Ythgglblbjghamaa
