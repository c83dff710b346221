/-
  wavestorelaw46.IntervalsNormal returns true.
-/
import Derived.Test.YthgglblbjghamaaAwake
import Derived.Test.YthgglblbjghamaaNormalOps
namespace Go.Proofs.Ythgglblbjghamaa
open Go.RowKit Go.Joins

set_option maxRecDepth 100000 in
set_option maxHeartbeats 4000000 in
theorem normal_walk (A : Option Addr) (c : Nat) (xs : List Iv) (B : Option Addr) (d : Nat) (zs : List Int) (t : Int) (w : World) (hx : IvsAt w w.heap.size A xs) (hz : IntsAt w w.heap.size B zs) (_ : I64 t) :
    Calls Try.prog 8 #[.slice A xs.length c, .slice B zs.length d, .int .i64 t] w fun e w' => e = .returned (.bool true) ∧ Below w.heap.size w w' := by
  by_cases hall : xs.length ≤ 24 ∧ zs.length ≤ 40
  · obtain ⟨f1, f2⟩ := hall
    have hd0 : fewB xs.length 0 = true := fewB_iff.2 ⟨f1, by omega⟩
    have hd1 : decide ((40 : Int) < (zs.length : Int)) = false := decide_eq_false (by omega)
    go_enter Try.func8, Try.ntmps8
    go_wp2_with fail
    refine (few_any _ _ _ _ _ _ _).mono ?_
    rintro e w' ⟨rfl, rfl⟩
    rw [hd0]
    clear hd0
    have hb := Below.refl w.heap.size w
    generalize hvb : validB xs = vb
    have HVB := hide hvb
    clear hvb
    go_wp2_with fail
    refine (valid_is vb A c xs _ hx (by omega) HVB.out).mono ?_
    rintro e1 w1 ⟨rfl, b1⟩
    replace hx := hx.step b1
    replace hz := hz.step b1
    replace hb := bstep hb b1
    clear b1
    go_wp2_with fail
    refine (refValid_is vb A c xs _ hx (by omega) HVB.out).mono ?_
    rintro e2 w2 ⟨rfl, b2⟩
    replace hx := hx.step b2
    replace hz := hz.step b2
    replace hb := bstep hb b2
    clear b2
    have hbb : (vb == vb) = true := by simp
    go_wp2_with fail
    refine (normal_any A c xs _ hx (by omega)).mono ?_
    rintro e3 w3 ⟨A3, c3, y3, rfl, o3, b3, n3, m3⟩
    have M3 := hide m3
    clear m3
    replace hx := hx.step b3
    replace hz := hz.step b3
    replace hb := bstep hb b3
    clear b3
    have r3 := o3.ats
    have l3 := norm_len n3
    clear o3
    go_wp2_with fail
    refine (refNormal_any A c xs _ hx (by omega)).mono ?_
    rintro e4 w4 ⟨A4, c4, y4, rfl, o4, b4, n4, m4⟩
    have M4 := hide m4
    clear m4
    replace hx := hx.step b4
    replace hz := hz.step b4
    replace r3 := r3.step b4
    replace hb := bstep hb b4
    clear b4
    have r4 := o4.ats
    have l4 := norm_len n4
    clear o4
    go_wp2_with fail
    refine (same_true A3 A4 c3 c4 y3 y4 _ r3 r4 n3 n4 (fun t => (M3.out t).trans (M4.out t).symm)).mono ?_
    rintro e5 w5 ⟨rfl, b5⟩
    replace hx := hx.step b5
    replace hz := hz.step b5
    replace r3 := r3.step b5
    replace r4 := r4.step b5
    replace hb := bstep hb b5
    clear b5
    clear r3 M3 l3 n3
    clear r4 M4 l4 n4
    go_wp2_with fail
    refine (of_any B d zs _ hz (by omega)).mono ?_
    rintro e6 w6 ⟨A6, c6, y6, rfl, o6, b6, n6, m6⟩
    have M6 := hide m6
    clear m6
    replace hx := hx.step b6
    replace hz := hz.step b6
    replace hb := bstep hb b6
    clear b6
    have r6 := o6.ats
    have l6 := norm_len n6
    clear o6
    go_wp2_with fail
    refine (refOf_any B d zs _ hz (by omega)).mono ?_
    rintro e7 w7 ⟨A7, c7, y7, rfl, o7, b7, n7, m7⟩
    have M7 := hide m7
    clear m7
    replace hx := hx.step b7
    replace hz := hz.step b7
    replace r6 := r6.step b7
    replace hb := bstep hb b7
    clear b7
    have r7 := o7.ats
    have l7 := norm_len n7
    clear o7
    go_wp2_with fail
    refine (same_true A6 A7 c6 c7 y6 y7 _ r6 r7 n6 n7 (fun t => (M6.out t).trans (M7.out t).symm)).mono ?_
    rintro e8 w8 ⟨rfl, b8⟩
    replace hx := hx.step b8
    replace hz := hz.step b8
    replace r6 := r6.step b8
    replace r7 := r7.step b8
    replace hb := bstep hb b8
    clear b8
    clear r6 M6 l6 n6
    clear r7 M7 l7 n7
    clear hbb
    generalize hmt : memT xs t = mt
    have HMT := hide hmt
    clear hmt
    have hbm : (mt == mt) = true := by simp
    go_wp2_with fail
    refine (in_is mt A c xs t _ hx (by omega) HMT.out).mono ?_
    rintro e9 w9 ⟨rfl, b9⟩
    replace hx := hx.step b9
    replace hz := hz.step b9
    replace hb := bstep hb b9
    clear b9
    go_wp2_with fail
    refine (refIn_any A c xs t _ _ hx (by omega)).mono ?_
    rintro e w20 ⟨rfl, rfl⟩
    rw [HMT.out]
    go_wp2_with fail
    refine (count_any A c xs _ hx (by omega)).mono ?_
    rintro e21 w21 ⟨y21, n21, m21, rfl, b21⟩
    have M21 := hide m21
    clear m21
    replace hx := hx.step b21
    replace hz := hz.step b21
    replace hb := bstep hb b21
    clear b21
    go_wp2_with fail
    refine (refCount_any A c xs _ hx (by omega)).mono ?_
    rintro e22 w22 ⟨y22, n22, m22, rfl, b22⟩
    have E22 := norm_ext n21 n22 fun t => (M21.out t).trans (m22 t).symm
    subst E22
    clear m22 M21
    replace hx := hx.step b22
    replace hz := hz.step b22
    replace hb := bstep hb b22
    clear b22
    have hbc : (cnt y21 == cnt y21) = true := by simp
    go_wp2_with fail
    refine (awake_any _).mono ?_
    rintro e10 w10 ⟨rfl, b10⟩
    replace hx := hx.step b10
    replace hz := hz.step b10
    replace hb := bstep hb b10
    clear b10
    go_wp2_with fail
    go_ret
    exact ⟨rfl, hb⟩
  · by_cases hfew : xs.length ≤ 24
    · have hd0 : fewB xs.length 0 = true := fewB_iff.2 ⟨hfew, by omega⟩
      have hd1 : decide ((40 : Int) < (zs.length : Int)) = true := decide_eq_true (by have : ¬ zs.length ≤ 40 := fun h => hall ⟨hfew, h⟩; omega)
      go_enter Try.func8, Try.ntmps8
      go_wp2_with fail
      refine (few_any _ _ _ _ _ _ _).mono ?_
      rintro e w' ⟨rfl, rfl⟩
      rw [hd0]
      clear hd0
      go_wp2_with fail
      refine (awake_any _).mono ?_
      rintro e w1 ⟨rfl, hb1⟩
      go_wp2_with fail
      go_ret
      exact ⟨rfl, hb1⟩
    · have hd0 : fewB xs.length 0 = false := fewB_no (fun h => hfew h.1)
      go_enter Try.func8, Try.ntmps8
      go_wp2_with fail
      refine (few_any _ _ _ _ _ _ _).mono ?_
      rintro e w' ⟨rfl, rfl⟩
      rw [hd0]
      clear hd0
      go_wp2_with fail
      refine (awake_any _).mono ?_
      rintro e w1 ⟨rfl, hb1⟩
      go_wp2_with fail
      go_ret
      exact ⟨rfl, hb1⟩
end Go.Proofs.Ythgglblbjghamaa
