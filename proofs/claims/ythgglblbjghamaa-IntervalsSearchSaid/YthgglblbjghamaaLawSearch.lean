/-
  wavestorelaw46.IntervalsSearch returns true.
-/
import Derived.Test.YthgglblbjghamaaAwake
import Derived.Test.YthgglblbjghamaaPoints
import Derived.Test.YthgglblbjghamaaPrevious
namespace Go.Proofs.Ythgglblbjghamaa
open Go.RowKit Go.Joins

theorem pts_le {ys : List Iv} {most : Int} {zs : List Int} {er : Int} (h : PtsIs ys most zs er) (hn : Norm ys) : zs.length ≤ 4096 := by
  rcases h with ⟨_, rfl, _⟩ | ⟨_, _, rfl, _⟩ | ⟨h1, h2, rfl, _⟩
  · simp
  · simp
  · have := pts_len hn; omega

set_option maxRecDepth 100000 in
set_option maxHeartbeats 4000000 in
theorem search_walk (A : Option Addr) (c : Nat) (xs : List Iv) (t most : Int) (w : World) (hx : IvsAt w w.heap.size A xs) (_ : I64 t) (_ : I64 most) :
    Calls Try.prog 9 #[.slice A xs.length c, .int .i64 t, .int .i64 most] w fun e w' => e = .returned (.bool true) ∧ Below w.heap.size w w' := by
  by_cases hfew : xs.length ≤ 24
  · have hd0 : fewB xs.length 0 = true := fewB_iff.2 ⟨hfew, by omega⟩
    go_enter Try.func9, Try.ntmps9
    go_wp2_with fail
    refine (few_any _ _ _ _ _ _ _).mono ?_
    rintro e w' ⟨rfl, rfl⟩
    rw [hd0]
    clear hd0
    have hb := Below.refl w.heap.size w
    go_wp2_with fail
    refine (next_any A c xs t _ hx (by omega)).mono ?_
    rintro e1 w1 ⟨u1, k1, s1, rfl, b1⟩
    have S1 := hide s1
    clear s1
    replace hx := hx.step b1
    replace hb := bstep hb b1
    clear b1
    go_wp2_with fail
    refine (refNext_any A c xs t _ hx (by omega)).mono ?_
    rintro e2 w2 ⟨u2, k2, s2, rfl, b2⟩
    obtain ⟨rfl, rfl⟩ := s2.unique S1.out
    clear s2 S1
    replace hx := hx.step b2
    replace hb := bstep hb b2
    clear b2
    go_wp2_with fail
    refine (previous_any A c xs t _ hx (by omega)).mono ?_
    rintro e3 w3 ⟨u3, k3, s3, rfl, b3⟩
    have S3 := hide s3
    clear s3
    replace hx := hx.step b3
    replace hb := bstep hb b3
    clear b3
    go_wp2_with fail
    refine (refPrevious_any A c xs t _ hx (by omega)).mono ?_
    rintro e4 w4 ⟨u4, k4, s4, rfl, b4⟩
    obtain ⟨rfl, rfl⟩ := s4.unique S3.out
    clear s4 S3
    replace hx := hx.step b4
    replace hb := bstep hb b4
    clear b4
    go_wp2_with fail
    refine (points_any A c xs most _ hx (by omega)).mono ?_
    rintro e5 w5 ⟨y5, A5, c5, z5, r5, n5, m5, s5, rfl, o5, b5⟩
    have S5 := hide s5
    have M5 := hide m5
    have l5 := pts_le s5 n5
    clear s5 m5
    replace hx := hx.step b5
    replace hb := bstep hb b5
    clear b5
    have q5 := o5.ats
    clear o5
    go_wp2_with fail
    refine (refPoints_any A c xs most _ hx (by omega)).mono ?_
    rintro e6 w6 ⟨y6, A6, c6, z6, r6, n6, m6, s6, rfl, o6, b6⟩
    have E6 := norm_ext n6 n5 fun t => (m6 t).trans (M5.out t).symm
    subst E6
    obtain ⟨rfl, rfl⟩ := s6.unique S5.out
    clear s6 S5 M5 m6
    replace hx := hx.step b6
    replace hb := bstep hb b6
    replace q5 := q5.step b6
    clear b6
    have q6 := o6.ats
    clear o6
    have hb1 : (u2 == u2) = true := by simp
    have hb2 : (k2 == k2) = true := by simp
    have hb3 : (u4 == u4) = true := by simp
    have hb4 : (k4 == k4) = true := by simp
    have hb5 : (r6 == r6) = true := by simp
    go_wp2_with fail
    refine (ints_same A5 A6 c5 c6 z6 _ q5 q6 (by omega)).mono ?_
    rintro e7 w7 ⟨rfl, b7⟩
    replace hb := bstep hb b7
    go_wp2_with fail
    refine (awake_any _).mono ?_
    rintro e10 w10 ⟨rfl, b10⟩
    replace hb := bstep hb b10
    clear b10
    go_wp2_with fail
    go_ret
    exact ⟨rfl, hb⟩
  · have hd0 : fewB xs.length 0 = false := fewB_no (fun h => hfew h.1)
    go_enter Try.func9, Try.ntmps9
    go_wp2_with fail
    refine (few_any _ _ _ _ _ _ _).mono ?_
    rintro e w' ⟨rfl, rfl⟩
    rw [hd0]
    clear hd0
    go_wp2_with fail
    refine (awake_any _).mono ?_
    rintro e w1 ⟨rfl, hb1⟩
    go_wp2_with fail
    go_ret
    exact ⟨rfl, hb1⟩
end Go.Proofs.Ythgglblbjghamaa
