/-
  wavestorelaw46.IntervalsDual returns true.
-/
import Derived.Test.YthgglblbjghamaaAwake
namespace Go.Proofs.Ythgglblbjghamaa
open Go.RowKit Go.Joins

theorem grow_grow (S : Int → Prop) (hS : ∀ u, S u → 1000 ≤ u ∧ u ≤ 3000) (a b c d : Int) (h1 : -100 ≤ a) (h2 : a ≤ b) (h3 : b ≤ 100) (h4 : -100 ≤ c) (h5 : c ≤ d) (h6 : d ≤ 100) (t : Int) :
    growS (growS S a b 0 5000) c d 0 5000 t ↔ growS S (a + c) (b + d) 0 5000 t := by
  unfold growS Time
  simp only [dlyB_iff]
  constructor
  · rintro ⟨_, h8, h9, h10, u, h11, h12, _, h13, h14, h15, v, h16, h17, h18⟩
    exact ⟨by omega, h8, h9, h10, v, by omega, by omega, h18⟩
  · rintro ⟨_, h8, h9, h10, v, h11, h12, h13⟩
    have := hS v h13
    exact ⟨by omega, h8, h9, h10, max (v - b) (t + c), by omega, by omega, by omega, by omega, by omega, by omega, v, by omega, by omega, h13⟩

set_option maxRecDepth 100000 in
set_option maxHeartbeats 2000000 in
theorem dual_walk (A : Option Addr) (c : Nat) (xs : List Iv) (a b e f lo hi : Int) (w : World) (h : IvsAt w w.heap.size A xs) (_ : I64 a) (_ : I64 b) (_ : I64 e) (_ : I64 f) (_ : I64 lo) (_ : I64 hi) :
    Calls Try.prog 3 #[.slice A xs.length c, .int .i64 a, .int .i64 b, .int .i64 e, .int .i64 f, .int .i64 lo, .int .i64 hi] w fun e w' => e = .returned (.bool true) ∧ Below w.heap.size w w' := by
  by_cases hfew : xs.length ≤ 24
  · have hd0 : fewB xs.length 0 = true := fewB_iff.2 ⟨hfew, by omega⟩
    go_enter Try.func3, Try.ntmps3
    go_upto_region 3 with (go_at_call 11; refine (few_any _ _ _ _ _ _ _).mono ?_; rintro e w' ⟨rfl, rfl⟩)
    go_cut [52] (fun s wx => s = .bool false ∧ Below w.heap.size w wx)
    case first =>
      by_cases h1 : a ≤ b
      · by_cases h2 : -1099511627776 ≤ a
        · by_cases h3 : b ≤ 1099511627776
          · go_wp2_with fail
            refine (shrink_any A c xs a b lo hi _ h (by omega)).mono ?_
            rintro e1 w1 ⟨A1, c1, y1, rfl, o1, b1, n1, m1⟩
            have M1 := hide m1
            clear m1
            go_wp2_with fail
            refine (complement_any A c xs lo hi _ (h.step b1) (by omega)).mono ?_
            rintro e2 w2 ⟨A2, c2, y2, rfl, o2, b2, n2, m2⟩
            have M2 := hide m2
            clear m2
            go_wp2_with fail
            refine (grow_any A2 c2 y2 a b lo hi _ o2.ats (by have := norm_len n2; omega)).mono ?_
            rintro e3 w3 ⟨A3, c3, y3, rfl, o3, b3, n3, m3⟩
            have M3 := hide m3
            clear m3
            go_wp2_with fail
            refine (complement_any A3 c3 y3 lo hi _ o3.ats (by have := norm_len n3; omega)).mono ?_
            rintro e4 w4 ⟨A4, c4, y4, rfl, o4, b4, n4, m4⟩
            have M4 := hide m4
            clear m4
            go_wp2_with fail
            refine (same_true A1 A4 c1 c4 y1 y4 _ (((o1.ats.step b2).step b3).step b4) o4.ats n1 n4 (fun t => ?_)).mono ?_
            · rw [M1.out, M4.out, complS_congr (fun t => (M3.out t).trans (growS_congr M2.out a b lo hi t))]
              unfold shrinkS
              rw [dlyB_iff]
              simp [h1, h2, h3]
            rintro e5 w5 ⟨rfl, b5⟩
            go_wp2_with fail
            go_meet
            exact ⟨rfl, bstep (bstep (bstep (bstep b1 b2) b3) b4) b5⟩
          · go_wp2_with fail
            go_meet
            exact ⟨rfl, Below.refl _ _⟩
        · go_wp2_with fail
          go_meet
          exact ⟨rfl, Below.refl _ _⟩
      · go_wp2_with fail
        go_meet
        exact ⟨rfl, Below.refl _ _⟩
    case rest =>
      obtain ⟨rfl, hbc⟩ := hcut
      have hc := h.step hbc
      clear h
      by_cases hall : (-100 ≤ a ∧ a ≤ b ∧ b ≤ 100 ∧ -100 ≤ e ∧ e ≤ f ∧ f ≤ 100)
      · obtain ⟨g1, g2, g3, g4, g5, g6⟩ := hall
        go_wp2_with fail
        refine (clip_any A c xs 1000 3000 _ hc (by omega)).mono ?_
        rintro e1 w1 ⟨A1, c1, y1, rfl, o1, b1, n1, m1⟩
        have M1 := hide m1
        clear m1
        have l1 := norm_len n1
        go_wp2_with fail
        refine (grow_any A1 c1 y1 a b 0 5000 _ o1.ats (by omega)).mono ?_
        rintro e2 w2 ⟨A2, c2, y2, rfl, o2, b2, n2, m2⟩
        have M2 := hide m2
        clear m2
        have l2 := norm_len n2
        go_wp2_with fail
        refine (grow_any A2 c2 y2 e f 0 5000 _ o2.ats (by omega)).mono ?_
        rintro e3 w3 ⟨A3, c3, y3, rfl, o3, b3, n3, m3⟩
        have M3 := hide m3
        clear m3
        go_wp2_with fail
        refine (grow_any A1 c1 y1 (a + e) (b + f) 0 5000 _ ((o1.ats.step b2).step b3) (by omega)).mono ?_
        rintro e4 w4 ⟨A4, c4, y4, rfl, o4, b4, n4, m4⟩
        have M4 := hide m4
        clear m4
        go_wp2_with fail
        refine (same_true A3 A4 c3 c4 y3 y4 _ (o3.ats.step b4) o4.ats n3 n4 (fun t => ?_)).mono ?_
        · rw [M3.out, M4.out, growS_congr M2.out, grow_grow (Mem y1) (fun u hu => by rw [M1.out] at hu; omega) a b e f g1 g2 g3 g4 g5 g6]
        rintro e5 w5 ⟨rfl, b5⟩
        go_wp2_with fail
        refine (awake_any _).mono ?_
        rintro e6 w6 ⟨rfl, b6⟩
        go_wp2_with fail
        go_ret
        exact ⟨rfl, bstep (bstep (bstep (bstep (bstep (bstep hbc b1) b2) b3) b4) b5) b6⟩
      · go_wp2_with (go_at_call 12; refine (awake_any _).mono ?_; rintro e6 w6 ⟨rfl, b6⟩)
        all_goals (go_ret; exact ⟨rfl, bstep hbc b6⟩)
  · have hd0 : fewB xs.length 0 = false := fewB_no (fun h => hfew h.1)
    go_enter Try.func3, Try.ntmps3
    go_wp2_with (first | (go_at_call 11; refine (few_any _ _ _ _ _ _ _).mono ?_; rintro e w' ⟨rfl, rfl⟩) | (go_at_call 12; refine (awake_any _).mono ?_; rintro e w1 ⟨rfl, hb1⟩))
    go_ret
    exact ⟨rfl, hb1⟩
end Go.Proofs.Ythgglblbjghamaa
