/-
  The reference's delays, Grow, Shrink and Shift: the sets of their results.
-/
import Derived.Test.YthgglblbjghamaaRefOps
namespace Go.Proofs.Ythgglblbjghamaa
open Go.RowKit Go.Joins

theorem refDelays_any (a b : Int) (w : World) : Calls Try.prog 57 #[.int .i64 a, .int .i64 b] w fun e w' => e = .returned (.bool (dlyB a b)) ∧ w = w' := by
  have hd : dlyB a b = decide (-1099511627776 ≤ a ∧ b ≤ 1099511627776 ∧ a ≤ b) := rfl
  by_cases h1 : -1099511627776 ≤ a
  · by_cases h3 : a ≤ b
    · by_cases h2 : b ≤ 1099511627776
      · have HD := hide (hd.trans (decide_eq_true ⟨h1, h2, h3⟩))
        clear hd
        go_enter Try.func57, Try.ntmps57
        go_wp2
        go_ret
        exact ⟨by rw [HD.out]; rfl, rfl⟩
      · have HD := hide (hd.trans (decide_eq_false (fun h => h2 h.2.1)))
        clear hd
        go_enter Try.func57, Try.ntmps57
        go_wp2
        go_ret
        exact ⟨by rw [HD.out]; rfl, rfl⟩
    · have HD := hide (hd.trans (decide_eq_false (fun h => h3 h.2.2)))
      clear hd
      go_enter Try.func57, Try.ntmps57
      go_wp2
      go_ret
      exact ⟨by rw [HD.out]; rfl, rfl⟩
  · have HD := hide (hd.trans (decide_eq_false (fun h => h1 h.1)))
    clear hd
    go_enter Try.func57, Try.ntmps57
    go_wp2
    go_ret
    exact ⟨by rw [HD.out]; rfl, rfl⟩

theorem movedL_sub_succ (f l : Int) (ys : List Iv) (k : Nat) (hk : k < ys.length) : movedL (-f) (-l) (ys.take (k + 1)) = movedL (-f) (-l) (ys.take k) ++ [(ys[k].1 - f, ys[k].2 - l)] := by
  rw [movedL_take_succ _ _ _ _ hk]; simp only [Int.sub_eq_add_neg]

set_option maxHeartbeats 2000000 in
theorem refGrow_any (A : Option Addr) (c : Nat) (xs : List Iv) (a b lo hi : Int) (w : World) (h : IvsAt w w.heap.size A xs) (hl : xs.length ≤ 1000000000000) :
    Calls Try.prog 26 #[.slice A xs.length c, .int .i64 a, .int .i64 b, .int .i64 lo, .int .i64 hi] w (RetIvs w (growS (Mem xs) a b lo hi)) := by
  go_enter Try.func26, Try.ntmps26
  go_wp2_with fail
  refine (refDelays_any a b _).mono ?_
  rintro e w1 ⟨rfl, rfl⟩
  cases hd : dlyB a b
  · have HD := hide hd
    clear hd
    go_wp2_with fail
    go_ret
    exact ⟨none, 0, [], rfl, OwnIv.nil _ _, Below.refl _ _, Norm.nil, fun t => by unfold growS; rw [HD.out]; simp [mem_nil]⟩
  · have HD := hide hd
    obtain ⟨v1, v2, v3⟩ := dlyB_iff.1 hd
    clear hd
    go_wp2_with fail
    refine (refNormal_any A c xs _ h hl).mono ?_
    rintro e w1 ⟨A1, c1, ys, rfl, hown1, hb1, ny, my⟩
    have hly := norm_len ny
    have ry := hown1.ats
    have HMY := hide my
    clear my hown1 h
    go_wp2_with fail
    have hb1' : Below w1.heap.size w1 (w1.alloc (.cells #[] 52)) := (Below.refl _ _).alloc (Nat.le_refl _) _
    go_loopw [12, 13] (fun out i wr => MovedRel w1 (-b) (-a) ys out i wr) (fun _ i _ => ys.length - (intOf i).toNat)
    case atStart => exact ⟨0, some ⟨w1.heap.size, 0, none⟩, 0, Nat.zero_le _, rfl, rfl, OwnIv.empty _ _ (Nat.le_refl _), hb1'⟩
    case round =>
      obtain ⟨k, A2, c2, hk, rfl, rfl, hown, hb⟩ := hrel
      have hll : (movedL (-b) (-a) (ys.take k)).length ≤ 1000000000000 := by
        unfold movedL; rw [List.length_map]; have := List.length_take_le k ys; omega
      by_cases hlt : k < ys.length
      · obtain ⟨bb, off, rfl, hbb, hc1, hc2⟩ := (ry.below hb).at_ hlt
        have HS := hide (movedL_sub_succ b a ys k hlt)
        have hoy := ny.1 ys[k] (List.getElem_mem _)
        unfold Okv at hoy
        generalize movedL (-b) (-a) (ys.take k) = ms at *
        generalize ys[k] = y at *
        have hk2 : decide (k < ys.length) = true := decide_eq_true hlt
        have hd1 : decide ((k : Int) < (ys.length : Int)) = true := decide_eq_true (by omega)
        go_wp2_with fail
        have q1 : IntKind.i64.wrap (y.1 - b) = y.1 - b := IntWalk.i64_in _ (by omega)
        have q2 : IntKind.i64.wrap (y.2 - a) = y.2 - a := IntWalk.i64_in _ (by omega)
        go_region_law (refine step_append_iv rfl _ _ rfl w1.heap.size A2 c2 ms _ rfl rfl (y.1 - b) (y.2 - a) _ rfl _ rfl (by simp) (by exact hown) (by omega) (by exact hb.size) ?_; intro g' c' w3 row hown3 hg' hgrow hrow)
        all_goals
          clear q1 q2
          go_wp2_with fail
          go_roundw
          case rel =>
            refine ⟨k + 1, some ⟨g', 0, none⟩, c', by omega, by go_num, by rw [HS.out]; simp, by rw [HS.out]; exact hown3, ?_⟩
            exact (hb.drew.alloc (by exact hb.size) _).grown hgrow (by have := hb.size; simp; omega) hrow
          case measure => simp [intOf]; omega
      · have hke : k = ys.length := by omega
        subst hke
        rw [List.take_length] at hown hll ⊢
        go_wp2_with fail
        refine (refClip_any A2 c2 (movedL (-b) (-a) ys) lo hi _ hown.ats hll).mono ?_
        rintro e w3 ⟨A3, c3, zs, rfl, hown3, hb3, n3, m3⟩
        go_wp2_with fail
        go_ret
        refine ⟨A3, c3, zs, rfl, hown3.lower (Nat.le_trans hb1.size hb.size), bstep (bstep hb1 hb) hb3, n3, fun t => ?_⟩
        rw [m3, movedL_mem (-b) (-a) (by omega) ny]
        simp only [HMY.out]
        unfold growS
        constructor
        · rintro ⟨h1, h2, h3, u, h4, h5, h6⟩
          exact ⟨HD.out, h1, h2, h3, u, by omega, by omega, h6⟩
        · rintro ⟨_, h1, h2, h3, u, h4, h5, h6⟩
          exact ⟨h1, h2, h3, u, by omega, by omega, h6⟩

theorem refShrink_any (A : Option Addr) (c : Nat) (xs : List Iv) (a b lo hi : Int) (w : World) (h : IvsAt w w.heap.size A xs) (hl : xs.length ≤ 1000000000000) :
    Calls Try.prog 27 #[.slice A xs.length c, .int .i64 a, .int .i64 b, .int .i64 lo, .int .i64 hi] w (RetIvs w (shrinkS (Mem xs) a b lo hi)) := by
  go_enter Try.func27, Try.ntmps27
  go_wp2_with fail
  refine (refDelays_any a b _).mono ?_
  rintro e w1 ⟨rfl, rfl⟩
  cases hd : dlyB a b
  · have HD := hide hd
    clear hd
    go_wp2_with fail
    go_ret
    exact ⟨none, 0, [], rfl, OwnIv.nil _ _, Below.refl _ _, Norm.nil, fun t => by unfold shrinkS; rw [HD.out]; simp [mem_nil]⟩
  · have HD := hide hd
    clear hd
    go_wp2_with fail
    refine (refComplement_any A c xs lo hi _ h hl).mono ?_
    rintro e w1 ⟨A1, c1, ys, rfl, hown, hb, hn, hm⟩
    have HM := hide hm
    clear hm
    have hly := norm_len hn
    go_wp2_with fail
    refine (refGrow_any A1 c1 ys a b lo hi _ hown.ats (by omega)).mono ?_
    rintro e w2 ⟨A2, c2, zs, rfl, hown2, hb2, hn2, hm2⟩
    have HM2 := hide hm2
    clear hm2
    have hlz := norm_len hn2
    go_wp2_with fail
    refine (refComplement_any A2 c2 zs lo hi _ hown2.ats (by omega)).mono ?_
    rintro e w3 ⟨A3, c3, us, rfl, hown3, hb3, hn3, hm3⟩
    have HM3 := hide hm3
    clear hm3
    go_wp2_with fail
    go_ret
    refine ⟨A3, c3, us, rfl, hown3.lower (Nat.le_trans hb.size hb2.size), bstep (bstep hb hb2) hb3, hn3, fun t => ?_⟩
    rw [HM3.out, complS_congr (fun t => (HM2.out t).trans (growS_congr HM.out a b lo hi t))]
    unfold shrinkS
    rw [HD.out]
    simp

theorem growS_neg (S : Int → Prop) (d lo hi t : Int) (hd : -1099511627776 ≤ d ∧ d ≤ 1099511627776) : growS S (-d) (-d) lo hi t ↔ shiftS S d lo hi t := by
  unfold growS shiftS
  rw [dlyB_iff, dlyB_iff]
  constructor
  · rintro ⟨_, h1, h2, h3, u, h4, h5, h6⟩
    have : u = t - d := by omega
    subst this
    exact ⟨by omega, h1, h2, h3, h6⟩
  · rintro ⟨_, h1, h2, h3, h6⟩
    exact ⟨by omega, h1, h2, h3, t - d, by omega, by omega, h6⟩

theorem refShift_any (A : Option Addr) (c : Nat) (xs : List Iv) (d lo hi : Int) (w : World) (h : IvsAt w w.heap.size A xs) (hl : xs.length ≤ 1000000000000) :
    Calls Try.prog 25 #[.slice A xs.length c, .int .i64 d, .int .i64 lo, .int .i64 hi] w (RetIvs w (shiftS (Mem xs) d lo hi)) := by
  by_cases hd : -1099511627776 ≤ d ∧ d ≤ 1099511627776
  · have HD := hide hd
    obtain ⟨d1, d2⟩ := hd
    go_enter Try.func25, Try.ntmps25
    go_wp2_with fail
    refine (refGrow_any A c xs (-d) (-d) lo hi _ h hl).mono ?_
    rintro e w1 ⟨A1, c1, ys, rfl, hown, hb, hn, hm⟩
    go_wp2_with fail
    go_ret
    exact ⟨A1, c1, ys, rfl, hown, hb, hn, fun t => (hm t).trans (growS_neg _ d lo hi t HD.out)⟩
  · have HD : Hid (∀ t, ¬ shiftS (Mem xs) d lo hi t) := fun t ht => by
      have := dlyB_iff.1 ht.1
      exact hd ⟨this.1, this.2.1⟩
    by_cases h1 : d < -1099511627776
    · go_enter Try.func25, Try.ntmps25
      go_wp2_with fail
      go_ret
      exact ⟨none, 0, [], rfl, OwnIv.nil _ _, Below.refl _ _, Norm.nil, fun t => ⟨fun h => absurd h (mem_nil t), fun h => absurd h (HD.out t)⟩⟩
    · have h2 : 1099511627776 < d := by omega
      go_enter Try.func25, Try.ntmps25
      go_wp2_with fail
      go_ret
      exact ⟨none, 0, [], rfl, OwnIv.nil _ _, Below.refl _ _, Norm.nil, fun t => ⟨fun h => absurd h (mem_nil t), fun h => absurd h (HD.out t)⟩⟩

end Go.Proofs.Ythgglblbjghamaa
