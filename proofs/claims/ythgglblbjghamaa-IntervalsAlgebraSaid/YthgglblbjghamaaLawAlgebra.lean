/-
  wavestorelaw46.IntervalsAlgebra returns true.
-/
import Derived.Test.YthgglblbjghamaaAwake
import Derived.Test.YthgglblbjghamaaValid
namespace Go.Proofs.Ythgglblbjghamaa
open Go.RowKit Go.Joins

theorem compl_compl (S : Int → Prop) (hS : ∀ t, S t → Time t) (lo hi t : Int) : complS (complS S lo hi) lo hi t ↔ lo ≤ t ∧ t ≤ hi ∧ S t := by
  unfold complS
  constructor
  · rintro ⟨h1, h2, h3, h4⟩
    refine ⟨h1, h2, ?_⟩
    by_cases h : S t
    · exact h
    · exact absurd ⟨h1, h2, h3, h⟩ h4
  · rintro ⟨h1, h2, h3⟩
    exact ⟨h1, h2, hS t h3, fun h => h.2.2.2 h3⟩

set_option maxRecDepth 100000 in
set_option maxHeartbeats 4000000 in
theorem algebra_walk (A : Option Addr) (c : Nat) (xs : List Iv) (B : Option Addr) (d : Nat) (ys : List Iv) (C : Option Addr) (f : Nat) (zs : List Iv) (lo hi : Int) (w : World) (hx : IvsAt w w.heap.size A xs) (hy : IvsAt w w.heap.size B ys) (hz : IvsAt w w.heap.size C zs) (_ : I64 lo) (_ : I64 hi) :
    Calls Try.prog 7 #[.slice A xs.length c, .slice B ys.length d, .slice C zs.length f, .int .i64 lo, .int .i64 hi] w fun e w' => e = .returned (.bool true) ∧ Below w.heap.size w w' := by
  by_cases hall : (xs.length ≤ 24 ∧ ys.length ≤ 24) ∧ zs.length ≤ 24
  · obtain ⟨hfew, f3⟩ := hall
    have hd0 : fewB xs.length ys.length = true := fewB_iff.2 hfew
    obtain ⟨f1, f2⟩ := hfew
    have hd1 : decide ((24 : Int) < (zs.length : Int)) = false := decide_eq_false (by omega)
    go_enter Try.func7, Try.ntmps7
    go_wp2_with fail
    refine (few_any _ _ _ _ _ _ _).mono ?_
    rintro e w' ⟨rfl, rfl⟩
    rw [hd0]
    clear hd0
    have hb := Below.refl w.heap.size w
    go_wp2_with fail
    refine (union_any A B c d xs ys _ hx hy (by omega) (by omega)).mono ?_
    rintro e1 w1 ⟨A1, c1, y1, rfl, o1, b1, n1, m1⟩
    have M1 := hide m1
    clear m1
    replace hx := hx.step b1
    replace hy := hy.step b1
    replace hz := hz.step b1
    replace hb := bstep hb b1
    clear b1
    have r1 := o1.ats
    have l1 := norm_len n1
    clear o1
    go_wp2_with fail
    refine (union_any B A d c ys xs _ hy hx (by omega) (by omega)).mono ?_
    rintro e2 w2 ⟨A2, c2, y2, rfl, o2, b2, n2, m2⟩
    have M2 := hide m2
    clear m2
    replace hx := hx.step b2
    replace hy := hy.step b2
    replace hz := hz.step b2
    replace r1 := r1.step b2
    replace hb := bstep hb b2
    clear b2
    have r2 := o2.ats
    have l2 := norm_len n2
    clear o2
    go_wp2_with fail
    refine (same_true A1 A2 c1 c2 y1 y2 _ r1 r2 n1 n2 (fun t => by rw [M1.out, M2.out]; exact Or.comm)).mono ?_
    rintro e3 w3 ⟨rfl, b3⟩
    replace hx := hx.step b3
    replace hy := hy.step b3
    replace hz := hz.step b3
    replace r1 := r1.step b3
    replace r2 := r2.step b3
    replace hb := bstep hb b3
    clear b3
    clear r2 M2 l2 n2
    go_wp2_with fail
    refine (intersect_any A B c d xs ys _ hx hy (by omega) (by omega)).mono ?_
    rintro e4 w4 ⟨A4, c4, y4, rfl, o4, b4, n4, m4⟩
    have M4 := hide m4
    clear m4
    replace hx := hx.step b4
    replace hy := hy.step b4
    replace hz := hz.step b4
    replace r1 := r1.step b4
    replace hb := bstep hb b4
    clear b4
    have r4 := o4.ats
    have l4 := norm_len n4
    clear o4
    go_wp2_with fail
    refine (intersect_any B A d c ys xs _ hy hx (by omega) (by omega)).mono ?_
    rintro e5 w5 ⟨A5, c5, y5, rfl, o5, b5, n5, m5⟩
    have M5 := hide m5
    clear m5
    replace hx := hx.step b5
    replace hy := hy.step b5
    replace hz := hz.step b5
    replace r1 := r1.step b5
    replace r4 := r4.step b5
    replace hb := bstep hb b5
    clear b5
    have r5 := o5.ats
    have l5 := norm_len n5
    clear o5
    go_wp2_with fail
    refine (same_true A4 A5 c4 c5 y4 y5 _ r4 r5 n4 n5 (fun t => by rw [M4.out, M5.out]; exact And.comm)).mono ?_
    rintro e6 w6 ⟨rfl, b6⟩
    replace hx := hx.step b6
    replace hy := hy.step b6
    replace hz := hz.step b6
    replace r1 := r1.step b6
    replace r4 := r4.step b6
    replace r5 := r5.step b6
    replace hb := bstep hb b6
    clear b6
    clear r4 M4 l4 n4
    clear r5 M5 l5 n5
    go_wp2_with fail
    refine (valid_true A1 c1 y1 _ r1 n1).mono ?_
    rintro e7 w7 ⟨rfl, b7⟩
    replace hx := hx.step b7
    replace hy := hy.step b7
    replace hz := hz.step b7
    replace r1 := r1.step b7
    replace hb := bstep hb b7
    clear b7
    go_wp2_with fail
    refine (without_any A B c d xs ys _ hx hy (by omega) (by omega)).mono ?_
    rintro e8 w8 ⟨A8, c8, y8, rfl, o8, b8, n8, m8⟩
    have M8 := hide m8
    clear m8
    replace hx := hx.step b8
    replace hy := hy.step b8
    replace hz := hz.step b8
    replace r1 := r1.step b8
    replace hb := bstep hb b8
    clear b8
    have r8 := o8.ats
    have l8 := norm_len n8
    clear o8
    go_wp2_with fail
    refine (valid_true A8 c8 y8 _ r8 n8).mono ?_
    rintro e9 w9 ⟨rfl, b9⟩
    replace hx := hx.step b9
    replace hy := hy.step b9
    replace hz := hz.step b9
    replace r1 := r1.step b9
    replace r8 := r8.step b9
    replace hb := bstep hb b9
    clear b9
    clear r8 M8 l8 n8
    go_wp2_with fail
    refine (union_any A1 C c1 f y1 zs _ r1 hz (by omega) (by omega)).mono ?_
    rintro e10 w10 ⟨A10, c10, y10, rfl, o10, b10, n10, m10⟩
    have M10 := hide m10
    clear m10
    replace hx := hx.step b10
    replace hy := hy.step b10
    replace hz := hz.step b10
    replace r1 := r1.step b10
    replace hb := bstep hb b10
    clear b10
    have r10 := o10.ats
    have l10 := norm_len n10
    clear o10
    go_wp2_with fail
    refine (union_any B C d f ys zs _ hy hz (by omega) (by omega)).mono ?_
    rintro e11 w11 ⟨A11, c11, y11, rfl, o11, b11, n11, m11⟩
    have M11 := hide m11
    clear m11
    replace hx := hx.step b11
    replace hy := hy.step b11
    replace hz := hz.step b11
    replace r1 := r1.step b11
    replace r10 := r10.step b11
    replace hb := bstep hb b11
    clear b11
    have r11 := o11.ats
    have l11 := norm_len n11
    clear o11
    go_wp2_with fail
    refine (union_any A A11 c c11 xs y11 _ hx r11 (by omega) (by omega)).mono ?_
    rintro e12 w12 ⟨A12, c12, y12, rfl, o12, b12, n12, m12⟩
    have M12 := hide m12
    clear m12
    replace hx := hx.step b12
    replace hy := hy.step b12
    replace hz := hz.step b12
    replace r1 := r1.step b12
    replace r10 := r10.step b12
    replace r11 := r11.step b12
    replace hb := bstep hb b12
    clear b12
    have r12 := o12.ats
    have l12 := norm_len n12
    clear o12
    go_wp2_with fail
    refine (same_true A10 A12 c10 c12 y10 y12 _ r10 r12 n10 n12 (fun t => by rw [M10.out, M12.out, M1.out, M11.out]; exact or_assoc)).mono ?_
    rintro e13 w13 ⟨rfl, b13⟩
    replace hx := hx.step b13
    replace hy := hy.step b13
    replace hz := hz.step b13
    replace r1 := r1.step b13
    replace r10 := r10.step b13
    replace r11 := r11.step b13
    replace r12 := r12.step b13
    replace hb := bstep hb b13
    clear b13
    clear r10 M10 l10 n10
    clear r11 M11 l11 n11
    clear r12 M12 l12 n12
    go_wp2_with fail
    refine (union_any B C d f ys zs _ hy hz (by omega) (by omega)).mono ?_
    rintro e14 w14 ⟨A14, c14, y14, rfl, o14, b14, n14, m14⟩
    have M14 := hide m14
    clear m14
    replace hx := hx.step b14
    replace hy := hy.step b14
    replace hz := hz.step b14
    replace r1 := r1.step b14
    replace hb := bstep hb b14
    clear b14
    have r14 := o14.ats
    have l14 := norm_len n14
    clear o14
    go_wp2_with fail
    refine (intersect_any A A14 c c14 xs y14 _ hx r14 (by omega) (by omega)).mono ?_
    rintro e15 w15 ⟨A15, c15, y15, rfl, o15, b15, n15, m15⟩
    have M15 := hide m15
    clear m15
    replace hx := hx.step b15
    replace hy := hy.step b15
    replace hz := hz.step b15
    replace r1 := r1.step b15
    replace r14 := r14.step b15
    replace hb := bstep hb b15
    clear b15
    have r15 := o15.ats
    have l15 := norm_len n15
    clear o15
    go_wp2_with fail
    refine (intersect_any A B c d xs ys _ hx hy (by omega) (by omega)).mono ?_
    rintro e16 w16 ⟨A16, c16, y16, rfl, o16, b16, n16, m16⟩
    have M16 := hide m16
    clear m16
    replace hx := hx.step b16
    replace hy := hy.step b16
    replace hz := hz.step b16
    replace r1 := r1.step b16
    replace r14 := r14.step b16
    replace r15 := r15.step b16
    replace hb := bstep hb b16
    clear b16
    have r16 := o16.ats
    have l16 := norm_len n16
    clear o16
    go_wp2_with fail
    refine (intersect_any A C c f xs zs _ hx hz (by omega) (by omega)).mono ?_
    rintro e17 w17 ⟨A17, c17, y17, rfl, o17, b17, n17, m17⟩
    have M17 := hide m17
    clear m17
    replace hx := hx.step b17
    replace hy := hy.step b17
    replace hz := hz.step b17
    replace r1 := r1.step b17
    replace r14 := r14.step b17
    replace r15 := r15.step b17
    replace r16 := r16.step b17
    replace hb := bstep hb b17
    clear b17
    have r17 := o17.ats
    have l17 := norm_len n17
    clear o17
    go_wp2_with fail
    refine (union_any A16 A17 c16 c17 y16 y17 _ r16 r17 (by omega) (by omega)).mono ?_
    rintro e18 w18 ⟨A18, c18, y18, rfl, o18, b18, n18, m18⟩
    have M18 := hide m18
    clear m18
    replace hx := hx.step b18
    replace hy := hy.step b18
    replace hz := hz.step b18
    replace r1 := r1.step b18
    replace r14 := r14.step b18
    replace r15 := r15.step b18
    replace r16 := r16.step b18
    replace r17 := r17.step b18
    replace hb := bstep hb b18
    clear b18
    have r18 := o18.ats
    have l18 := norm_len n18
    clear o18
    go_wp2_with fail
    refine (same_true A15 A18 c15 c18 y15 y18 _ r15 r18 n15 n18 (fun t => by rw [M15.out, M18.out, M14.out, M16.out, M17.out]; exact and_or_left)).mono ?_
    rintro e19 w19 ⟨rfl, b19⟩
    replace hx := hx.step b19
    replace hy := hy.step b19
    replace hz := hz.step b19
    replace r1 := r1.step b19
    replace r14 := r14.step b19
    replace r15 := r15.step b19
    replace r16 := r16.step b19
    replace r17 := r17.step b19
    replace r18 := r18.step b19
    replace hb := bstep hb b19
    clear b19
    clear r14 M14 l14 n14
    clear r15 M15 l15 n15
    clear r16 M16 l16 n16
    clear r17 M17 l17 n17
    clear r18 M18 l18 n18
    go_wp2_with fail
    refine (complement_any A1 c1 y1 lo hi _ r1 (by omega)).mono ?_
    rintro e20 w20 ⟨A20, c20, y20, rfl, o20, b20, n20, m20⟩
    have M20 := hide m20
    clear m20
    replace hx := hx.step b20
    replace hy := hy.step b20
    replace hz := hz.step b20
    replace r1 := r1.step b20
    replace hb := bstep hb b20
    clear b20
    have r20 := o20.ats
    have l20 := norm_len n20
    clear o20
    go_wp2_with fail
    refine (complement_any A c xs lo hi _ hx (by omega)).mono ?_
    rintro e21 w21 ⟨A21, c21, y21, rfl, o21, b21, n21, m21⟩
    have M21 := hide m21
    clear m21
    replace hx := hx.step b21
    replace hy := hy.step b21
    replace hz := hz.step b21
    replace r1 := r1.step b21
    replace r20 := r20.step b21
    replace hb := bstep hb b21
    clear b21
    have r21 := o21.ats
    have l21 := norm_len n21
    clear o21
    go_wp2_with fail
    refine (complement_any B d ys lo hi _ hy (by omega)).mono ?_
    rintro e22 w22 ⟨A22, c22, y22, rfl, o22, b22, n22, m22⟩
    have M22 := hide m22
    clear m22
    replace hx := hx.step b22
    replace hy := hy.step b22
    replace hz := hz.step b22
    replace r1 := r1.step b22
    replace r20 := r20.step b22
    replace r21 := r21.step b22
    replace hb := bstep hb b22
    clear b22
    have r22 := o22.ats
    have l22 := norm_len n22
    clear o22
    go_wp2_with fail
    refine (intersect_any A21 A22 c21 c22 y21 y22 _ r21 r22 (by omega) (by omega)).mono ?_
    rintro e23 w23 ⟨A23, c23, y23, rfl, o23, b23, n23, m23⟩
    have M23 := hide m23
    clear m23
    replace hx := hx.step b23
    replace hy := hy.step b23
    replace hz := hz.step b23
    replace r1 := r1.step b23
    replace r20 := r20.step b23
    replace r21 := r21.step b23
    replace r22 := r22.step b23
    replace hb := bstep hb b23
    clear b23
    have r23 := o23.ats
    have l23 := norm_len n23
    clear o23
    go_wp2_with fail
    refine (same_true A20 A23 c20 c23 y20 y23 _ r20 r23 n20 n23 (fun t => by
      rw [M20.out, M23.out, M21.out, M22.out, complS_congr M1.out]
      unfold complS
      constructor
      · rintro ⟨h1, h2, h3, h4⟩; exact ⟨⟨h1, h2, h3, fun h => h4 (.inl h)⟩, ⟨h1, h2, h3, fun h => h4 (.inr h)⟩⟩
      · rintro ⟨⟨h1, h2, h3, h4⟩, ⟨_, _, _, h5⟩⟩; exact ⟨h1, h2, h3, fun h => h.elim h4 h5⟩)).mono ?_
    rintro e24 w24 ⟨rfl, b24⟩
    replace hx := hx.step b24
    replace hy := hy.step b24
    replace hz := hz.step b24
    replace r1 := r1.step b24
    replace r20 := r20.step b24
    replace r21 := r21.step b24
    replace r22 := r22.step b24
    replace r23 := r23.step b24
    replace hb := bstep hb b24
    clear b24
    clear r21 M21 l21 n21
    clear r22 M22 l22 n22
    clear r23 M23 l23 n23
    clear r1 M1 l1 n1
    go_wp2_with fail
    refine (complement_any A c xs lo hi _ hx (by omega)).mono ?_
    rintro e25 w25 ⟨A25, c25, y25, rfl, o25, b25, n25, m25⟩
    have M25 := hide m25
    clear m25
    replace hx := hx.step b25
    replace hy := hy.step b25
    replace hz := hz.step b25
    replace r20 := r20.step b25
    replace hb := bstep hb b25
    clear b25
    have r25 := o25.ats
    have l25 := norm_len n25
    clear o25
    go_wp2_with fail
    refine (complement_any A25 c25 y25 lo hi _ r25 (by omega)).mono ?_
    rintro e26 w26 ⟨A26, c26, y26, rfl, o26, b26, n26, m26⟩
    have M26 := hide m26
    clear m26
    replace hx := hx.step b26
    replace hy := hy.step b26
    replace hz := hz.step b26
    replace r20 := r20.step b26
    replace r25 := r25.step b26
    replace hb := bstep hb b26
    clear b26
    have r26 := o26.ats
    have l26 := norm_len n26
    clear o26
    go_wp2_with fail
    refine (clip_any A c xs lo hi _ hx (by omega)).mono ?_
    rintro e27 w27 ⟨A27, c27, y27, rfl, o27, b27, n27, m27⟩
    have M27 := hide m27
    clear m27
    replace hx := hx.step b27
    replace hy := hy.step b27
    replace hz := hz.step b27
    replace r20 := r20.step b27
    replace r25 := r25.step b27
    replace r26 := r26.step b27
    replace hb := bstep hb b27
    clear b27
    have r27 := o27.ats
    have l27 := norm_len n27
    clear o27
    go_wp2_with fail
    refine (same_true A26 A27 c26 c27 y26 y27 _ r26 r27 n26 n27 (fun t => by rw [M26.out, M27.out, complS_congr M25.out, compl_compl _ (fun t h => mem_bounds h)])).mono ?_
    rintro e28 w28 ⟨rfl, b28⟩
    replace hx := hx.step b28
    replace hy := hy.step b28
    replace hz := hz.step b28
    replace r20 := r20.step b28
    replace r25 := r25.step b28
    replace r26 := r26.step b28
    replace r27 := r27.step b28
    replace hb := bstep hb b28
    clear b28
    clear r25 M25 l25 n25
    clear r26 M26 l26 n26
    clear r27 M27 l27 n27
    go_wp2_with fail
    refine (valid_true A20 c20 y20 _ r20 n20).mono ?_
    rintro e29 w29 ⟨rfl, b29⟩
    replace hx := hx.step b29
    replace hy := hy.step b29
    replace hz := hz.step b29
    replace r20 := r20.step b29
    replace hb := bstep hb b29
    clear b29
    go_wp2_with fail
    refine (awake_any _).mono ?_
    rintro e30 w30 ⟨rfl, b30⟩
    replace hx := hx.step b30
    replace hy := hy.step b30
    replace hz := hz.step b30
    replace r20 := r20.step b30
    replace hb := bstep hb b30
    clear b30
    go_wp2_with fail
    go_ret
    exact ⟨rfl, hb⟩
  · by_cases hfew : xs.length ≤ 24 ∧ ys.length ≤ 24
    · have hd0 : fewB xs.length ys.length = true := fewB_iff.2 hfew
      have hd1 : decide ((24 : Int) < (zs.length : Int)) = true := decide_eq_true (by have : ¬ zs.length ≤ 24 := fun h => hall ⟨hfew, h⟩; omega)
      go_enter Try.func7, Try.ntmps7
      go_wp2_with fail
      refine (few_any _ _ _ _ _ _ _).mono ?_
      rintro e w' ⟨rfl, rfl⟩
      rw [hd0]
      clear hd0
      go_wp2_with fail
      refine (awake_any _).mono ?_
      rintro e w1 ⟨rfl, hb1⟩
      go_wp2_with fail
      go_ret
      exact ⟨rfl, hb1⟩
    · have hd0 : fewB xs.length ys.length = false := fewB_no hfew
      go_enter Try.func7, Try.ntmps7
      go_wp2_with fail
      refine (few_any _ _ _ _ _ _ _).mono ?_
      rintro e w' ⟨rfl, rfl⟩
      rw [hd0]
      clear hd0
      go_wp2_with fail
      refine (awake_any _).mono ?_
      rintro e w1 ⟨rfl, hb1⟩
      go_wp2_with fail
      go_ret
      exact ⟨rfl, hb1⟩
end Go.Proofs.Ythgglblbjghamaa
