/-
  wavestorelaw52.TemporalUntils returns true.
-/
import Derived.Test.YtkbiefklilelmaaPairTwo
import Derived.Test.YtkbiefklilelmaaRefUntil
import Derived.Test.YtkbiefklilelmaaLawSome
namespace Go.Proofs.Ytkbiefklilelmaa
open Go.RowKit Go.Joins

theorem unl_len {x y p : List Int} {a b : Int} (h : p = untilL x y a b x.length) (hl : x.length ≤ 65) : p.length ≤ 65 := by rw [h, untilL_len]; exact hl
theorem sin_len {x y p : List Int} {a b : Int} (h : p = (untilL x.reverse y.reverse a b x.length).reverse) (hl : x.length ≤ 65) : p.length ≤ 65 := by rw [h, List.length_reverse, untilL_len]; exact hl
theorem un_same {xs zs : List Iv} {lo a b : Int} {n : Nat} {x y x' y' p q : List Int} (h1 : x = listOf xs zs false lo n) (h2 : x' = listOf xs zs true lo n) (h3 : p = untilL x y a b x.length) (h4 : q = untilL x' y' a b x'.length) : q.length = p.length := by rw [h4, h3, untilL_len, untilL_len, h1, h2, listOf_len, listOf_len]
theorem si_same {xs zs : List Iv} {lo a b : Int} {n : Nat} {x y x' y' p q : List Int} (h1 : x = listOf xs zs false lo n) (h2 : x' = listOf xs zs true lo n) (h3 : p = (untilL x.reverse y.reverse a b x.length).reverse) (h4 : q = (untilL x'.reverse y'.reverse a b x'.length).reverse) : q.length = p.length := by rw [h4, h3, List.length_reverse, List.length_reverse, untilL_len, untilL_len, h1, h2, listOf_len, listOf_len]
theorem lists_same {xs zs xs' zs' : List Iv} {l l' : Bool} {lo : Int} {n : Nat} {p q : List Int} (h1 : p = listOf xs zs l lo n) (h2 : q = listOf xs' zs' l' lo n) : q.length = p.length := by rw [h1, h2, listOf_len, listOf_len]

set_option maxRecDepth 100000 in
set_option maxHeartbeats 16000000 in
theorem untils_pair (A B A' B' : Option Addr) (c d c' d' : Nat) (xs zs xs' zs' : List Iv) (a b lo hi : Int) (w : World) (hx : IvsAt w w.heap.size A xs) (hz : IvsAt w w.heap.size B zs) (hx2 : IvsAt w w.heap.size A' xs') (hz2 : IvsAt w w.heap.size B' zs') (lx : xs.length ≤ 24) (lz : zs.length ≤ 24) (lx2 : xs'.length ≤ 24) (lz2 : zs'.length ≤ 24) (hgo : hi ≤ 64 ∨ 1099511627776 < hi) :
    Calls Try.prog 6 #[.agg #[.slice A xs.length c, .slice B zs.length d], .agg #[.slice A' xs'.length c', .slice B' zs'.length d'], .int .i64 a, .int .i64 b, .int .i64 lo, .int .i64 hi] w fun e w' => e = .returned (.bool true) ∧ Below w.heap.size w w' := by
  have s0 := two_src (w := w) (A := A) (B := B) (A' := A') (B' := B') (c := c) (d := d) (c' := c') (d' := d') (xs := xs) (zs := zs) (xs' := xs') (zs' := zs')
  have f1 : fewT xs.length zs.length = true := fewT_iff.2 ⟨lx, lz⟩
  have f2 : fewT xs'.length zs'.length = true := fewT_iff.2 ⟨lx2, lz2⟩
  go_enter Try.func6, Try.ntmps6
  go_upto_region 1 with fail
  go_cut [34] (fun v wx => v = .bool false ∧ Src2 w A c xs B d zs A' c' xs' B' d' zs' wx)
  case first =>
    by_cases h64 : hi ≤ 64
    · go_wp2_with (first | (go_at_call_of 12 xs; refine (tfew_any A B c d xs.length zs.length _).mono ?_; rintro e w1 ⟨rfl, b1⟩; have s1 := s0.call b1; obtain ⟨i1, i2, i3, i4, _⟩ := src2_of s1) | (go_at_call_of 12 xs'; refine (tfew_any A' B' c' d' xs'.length zs'.length _).mono ?_; rintro e w2 ⟨rfl, b2⟩; have s2 := s1.call b2))
      go_meet
      exact ⟨rfl, s2⟩
    · have h65 : 1099511627776 < hi := by omega
      have hd65 : decide (hi ≤ 1099511627776) = false := decide_eq_false (by omega)
      go_wp2_with (first | (go_at_call_of 12 xs; refine (tfew_any A B c d xs.length zs.length _).mono ?_; rintro e w1 ⟨rfl, b1⟩; have s1 := s0.call b1; obtain ⟨i1, i2, i3, i4, _⟩ := src2_of s1) | (go_at_call_of 12 xs'; refine (tfew_any A' B' c' d' xs'.length zs'.length _).mono ?_; rintro e w2 ⟨rfl, b2⟩; have s2 := s1.call b2))
      go_meet
      exact ⟨rfl, s2⟩
  case rest =>
    obtain ⟨rfl, hsrc⟩ := hcut
    clear s0 f1 f2
    go_upto_region 3 with fail
    obtain ⟨w1, rfl⟩ : ∃ w1, w1 = wc := ⟨_, rfl⟩
    go_cut [13, 14] (fun v1 v2 wx => PairEnd w wx v1 v2 (linkS (Mem xs) (Mem xs') a b lo hi false) (unlinkS (Mem zs) (Mem zs') a b lo hi false) (linkS (Mem xs) (Mem xs') a b lo hi true) (unlinkS (Mem zs) (Mem zs') a b lo hi true) ∧ Src2 w A c xs B d zs A' c' xs' B' d' zs' wx)
    case first =>
      have hS1 := src2_of hsrc
      have hS0 := src2_drew hS1
      have lt0 : w.heap.size + 1 < w1.heap.size := box_lt hsrc.2.1
      clear hsrc
      go_region_held3 (fun wx => wx.cell? ⟨w.heap.size, 0, none⟩ = some (.slice A xs.length c) ∧ wx.cell? ⟨w.heap.size, 1, none⟩ = some (.slice B zs.length d) ∧ wx.cell? ⟨w.heap.size + 1, 0, none⟩ = some (.slice A' xs'.length c') ∧ wx.cell? ⟨w.heap.size + 1, 1, none⟩ = some (.slice B' zs'.length d') ∧ Src2 w A c xs B d zs A' c' xs' B' d' zs' wx)
        (repeat' (first | (with_reducible assumption) | (with_reducible refine src2_alloc _ ?_) | (with_reducible refine src2_drew ?_) | ((with_reducible refine src2_set _ _ ?_ ?_); omega)))
        (first
          | (go_at_call 21; refine (until_src hx hz hx2 hz2 lx lz lx2 lz2 a b lo hi (by assumption)).mono ?_; rintro e w2 ⟨A2, c2, x2, B2, d2, z2, rfl, ox2, oz2, b2, nx2, nz2, mx2, mz2⟩; have MX2 := hide mx2; have MZ2 := hide mz2; clear mx2 mz2; replace ox2 := own_zero ox2; replace oz2 := own_zero oz2; have S2 := src2_call (by assumption) b2; (try have k1 := box_below b2 (heap_alloc_new _ _)); (try simp only [World.size_alloc] at k1); (try have k2 := box_below b2 (box_alloc (heap_alloc_new _ _))); (try (have k1l := box_lt k1; have k1n := Nat.ne_of_lt k1l; have k1m := Nat.ne_of_gt k1l; obtain ⟨k1a, k1b⟩ := box2 k1; obtain ⟨k1c, k1d⟩ := box2_frozen k1)); (try (have k2l := box_lt k2; have k2n := Nat.ne_of_lt k2l; have k2m := Nat.ne_of_gt k2l; obtain ⟨k2a, k2b⟩ := box2 k2; obtain ⟨k2c, k2d⟩ := box2_frozen k2)); have hs2 := b2.size; (try simp at hs2))
          | (go_at_call 22; refine (since_src hx hz hx2 hz2 lx lz lx2 lz2 a b lo hi (by assumption)).mono ?_; rintro e w3 ⟨A3, c3, x3, B3, d3, z3, rfl, ox3, oz3, b3, nx3, nz3, mx3, mz3⟩; have MX3 := hide mx3; have MZ3 := hide mz3; clear mx3 mz3; replace ox3 := own_zero ox3; replace oz3 := own_zero oz3; have S3 := src2_call (by assumption) b3; (try have k3 := box_below b3 (heap_alloc_new _ _)); (try simp only [World.size_alloc] at k3); (try have k4 := box_below b3 (box_alloc (heap_alloc_new _ _))); (try have k5 := box_below b3 k1); (try have k5 := box_below b3 (box_alloc k1)); (try have k6 := box_below b3 k2); (try (have k3l := box_lt k3; have k3n := Nat.ne_of_lt k3l; have k3m := Nat.ne_of_gt k3l; obtain ⟨k3a, k3b⟩ := box2 k3; obtain ⟨k3c, k3d⟩ := box2_frozen k3)); (try (have k4l := box_lt k4; have k4n := Nat.ne_of_lt k4l; have k4m := Nat.ne_of_gt k4l; obtain ⟨k4a, k4b⟩ := box2 k4; obtain ⟨k4c, k4d⟩ := box2_frozen k4)); (try (have k5l := box_lt k5; have k5n := Nat.ne_of_lt k5l; have k5m := Nat.ne_of_gt k5l; obtain ⟨k5a, k5b⟩ := box2 k5; obtain ⟨k5c, k5d⟩ := box2_frozen k5)); (try (have k6l := box_lt k6; have k6n := Nat.ne_of_lt k6l; have k6m := Nat.ne_of_gt k6l; obtain ⟨k6a, k6b⟩ := box2 k6; obtain ⟨k6c, k6d⟩ := box2_frozen k6)); have hs3 := b3.size; (try simp at hs3)))
      all_goals (go_wp2_with fail; go_meet)
      all_goals
        refine pair2_end (A1 := A2) (B1 := B2) (A2 := A3) (B2 := B3) (x1 := x2) (z1 := z2) (x2 := x3) (z2 := z3) (c1 := c2) (d1 := d2) (c2 := c3) (d2 := d3) ?_ ?_ (by omega) (by omega) ?_ ?_ ?_ ?_ nx2 nz2 nx3 nz3 MX2 MZ2 MX3 MZ3 ?_
        all_goals repeat' (first | (with_reducible assumption) | ((with_reducible refine heap_new' ?_); (simp; done)) | (with_reducible exact box2_set (by with_reducible assumption)) | (with_reducible exact box2_set (box_alloc (by with_reducible assumption))) | (with_reducible exact box2_set (set2_other (by with_reducible assumption) (by omega))) | (with_reducible exact box2_set (set2_other (box_alloc (by with_reducible assumption)) (by omega))) | (with_reducible refine box_alloc ?_) | (with_reducible refine set2_other ?_ (by omega)) | (with_reducible refine OwnIv.alloc ?_ _) | (with_reducible refine own_below (by with_reducible assumption) ?_) | (with_reducible refine set2_own (by with_reducible assumption) ?_) | (with_reducible refine set2_own (box_alloc (by with_reducible assumption)) ?_) | (with_reducible refine set2_own (set2_other (by with_reducible assumption) (by omega)) ?_) | (with_reducible refine src2_alloc _ ?_) | (with_reducible refine src2_set _ _ (by omega) ?_))
    case rest =>
      obtain ⟨⟨N1, N2, A2, c2, x2, B2, d2, z2, A3, c3, x3, B3, d3, z3, rfl, rfl, t1, t2, _, hN1, hN2⟩, hsrc2⟩ := hcut
      have HS := hide hsrc2
      have T1 := hide t1
      have T2 := hide t2
      have g2 := t2.box
      have g1 := t1.box
      have hb' := hsrc2.2.2
      have q1 := (box2 g1).1
      have q2 := (box2 g1).2
      have q3 := (box2 g2).1
      have q4 := (box2 g2).2
      clear t1 t2 hsrc hsrc2
      have hx1 := (hx.below hb').more hb'.size
      have hz1 := (hz.below hb').more hb'.size
      have hx3 := (hx2.below hb').more hb'.size
      have hz3 := (hz2.below hb').more hb'.size
      clear hx hz hx2 hz2
      go_wp2_with fail
      refine (dl64_any a b lo hi _).mono ?_
      rintro e w' ⟨rfl, rfl⟩
      by_cases hno : dl64 a b lo hi = true ∧ 0 ≤ a
      · obtain ⟨hd, ha0⟩ := hno
        obtain ⟨e1, e2, e3, g4, g5, g6⟩ := dl64_iff.1 hd
        have HAL := hide (show alwB 0 a b lo hi = true from alwB_iff.2 (by omega))
        have HDL := hide hd
        rw [hd]
        clear hd q1 q2 q3 q4
        have kS := src2_of HS.out
        have kS' := src2_drew kS
        have hxd : IvsAt wc.drew wc.drew.heap.size A xs := hx1
        have hzd : IvsAt wc.drew wc.drew.heap.size B zs := hz1
        clear kS
        go_wp2_with fail
        go_region_held3 (fun wx => wx.cell? ⟨w.heap.size, 0, none⟩ = some (.slice A xs.length c) ∧ wx.cell? ⟨w.heap.size, 1, none⟩ = some (.slice B zs.length d) ∧ wx.cell? ⟨w.heap.size + 1, 0, none⟩ = some (.slice A' xs'.length c') ∧ wx.cell? ⟨w.heap.size + 1, 1, none⟩ = some (.slice B' zs'.length d') ∧ Src2 w A c xs B d zs A' c' xs' B' d' zs' wx)
          (first | (with_reducible assumption) | exact kS')
          (first
            | (go_at_call_of 23 xs; go_at_call_of 23 (Value.bool false); refine (list_any A B c d xs zs lo hi false wc.drew hxd hzd lx lz (by omega) (by omega) (by omega)).mono ?_; rintro e w4 ⟨A4, c4, p4, rfl, o4, b4, e4⟩; have h4 := bstep (w0 := wc) (w := wc.drew) (below_drew (Below.refl _ _)) b4; have l4 := lst_len e4 g5 g6; have E4 := hide e4; clear e4; have kk4 := src2_of (HS.out.call h4))
            | (go_at_call_of 23 xs; refine (list_any A B c d xs zs lo hi true w4 (hx1.step h4) (hz1.step h4) lx lz (by omega) (by omega) (by omega)).mono ?_; rintro e w5 ⟨A5, c5, p5, rfl, o5, b5, e5⟩; have h5 := bstep h4 b5; have l5 := lst_len e5 g5 g6; have E5 := hide e5; clear e5; have kk5 := src2_of (HS.out.call h5))
            | (go_at_call_of 23 xs'; go_at_call_of 23 (Value.bool false); refine (list_any A' B' c' d' xs' zs' lo hi false w5 (hx3.step h5) (hz3.step h5) lx2 lz2 (by omega) (by omega) (by omega)).mono ?_; rintro e w6 ⟨A6, c6, p6, rfl, o6, b6, e6⟩; have h6 := bstep h5 b6; have l6 := lst_len e6 g5 g6; have E6 := hide e6; clear e6; have kk6 := src2_of (HS.out.call h6))
            | (go_at_call_of 23 xs'; refine (list_any A' B' c' d' xs' zs' lo hi true w6 (hx3.step h6) (hz3.step h6) lx2 lz2 (by omega) (by omega) (by omega)).mono ?_; rintro e w7 ⟨A7, c7, p7, rfl, o7, b7, e7⟩; have h7 := bstep h6 b7; have l7 := lst_len e7 g5 g6; have E7 := hide e7; clear e7; have kk7 := src2_of (HS.out.call h7)))
        clear kS' kk4 kk5 kk6 kk7
        have v4 := ((o4.ats.step b5).step b6).step b7
        have v5 := (o5.ats.step b6).step b7
        have v6 := o6.ats.step b7
        have v7 := o7.ats
        have u4 : IntsAt w7.drew w7.drew.heap.size A4 p4 := v4
        have u6 : IntsAt w7.drew w7.drew.heap.size A6 p6 := v6
        have L46 := hide (lists_same E4.out E6.out)
        have L57 := hide (lists_same E5.out E7.out)
        have g17 := box_below h7 g1
        have g27 := box_below h7 g2
        have kT := keep2 (v := w7.drew) g17 g27 (below_drew (Below.refl _ _))
        have HN := hide (show (((hi - lo + 1).toNat : Nat) : Int) = hi - lo + 1 by omega)
        have T17 := hide (T1.out.step h7)
        have T27 := hide (T2.out.step h7)
        clear o4 o5 o6 o7 b4 b5 b6 b7 h4 h5 h6 T1 T2
        go_wp2_with fail
        go_region_held3 (fun wx => wx.cell? ⟨N1, 0, none⟩ = some (.slice A2 x2.length c2) ∧ wx.cell? ⟨N1, 1, none⟩ = some (.slice B2 z2.length d2) ∧ wx.cell? ⟨N2, 0, none⟩ = some (.slice A3 x3.length c3) ∧ wx.cell? ⟨N2, 1, none⟩ = some (.slice B3 z3.length d3) ∧ Below w7.heap.size w7 wx)
          (first | (with_reducible assumption) | exact kT)
          (first
            | (go_at_call_of 25 p4; refine (runtil_any A4 A6 c4 c6 p4 p6 a b w7.drew u4 u6 l4 L46.out (by omega) (by omega) (by omega)).mono ?_; rintro e w8 ⟨A8, c8, p8, rfl, o8, b8, e8⟩; have h8 := bstep (w0 := w7) (w := w7.drew) (below_drew (Below.refl _ _)) b8; have l8 := unl_len e8 l4; have E8 := hide e8; clear e8; have s8 := keep2 g17 g27 h8)
            | (go_at_call_of 25 p5; refine (runtil_any A5 A7 c5 c7 p5 p7 a b w8 (v5.step h8) (v7.step h8) l5 L57.out (by omega) (by omega) (by omega)).mono ?_; rintro e w9 ⟨A9, c9, p9, rfl, o9, b9, e9⟩; have h9 := bstep h8 b9; have E9 := hide e9; clear e9; have s9 := keep2 g17 g27 h9; have L89 := hide (un_same E4.out E5.out E8.out E9.out))
            | (go_at_call_of 24 p8; refine (sets_any A8 A9 c8 c9 p8 p9 lo w9 (o8.ats.step b9) o9.ats L89.out l8 (by omega) (by omega)).mono ?_; rintro e w10 ⟨A10, c10, x10, B10, d10, z10, rfl, ox10, oz10, b10, nx10, nz10, mx10, mz10⟩; have MX10 := hide mx10; have MZ10 := hide mz10; clear mx10 mz10; have h10 := bstep h9 b10; have s10 := keep2 g17 g27 h10)
            | (go_at_call_of 17 x2; refine (tsame_true A2 B2 A10 B10 c2 d2 c10 d10 x2 z2 x10 z10 w10 (T17.out.step h10).ox.ats (T17.out.step h10).oz.ats ox10.ats oz10.ats T17.out.nx T17.out.nz nx10 nz10 ?_ ?_).mono ?_; intro t; rw [T17.out.mx, MX10.out, E8.out, E4.out, E6.out, untilL_len, listOf_len, until_true HAL.out t _ HN.out]; intro t; rw [T17.out.mz, MZ10.out, E9.out, E5.out, E7.out, untilL_len, listOf_len, until_false HAL.out t _ HN.out]; rintro e w11 ⟨rfl, b11⟩; have h11 := bstep h10 b11; have s11 := keep2 g17 g27 h11)
            | (go_at_call_of 26 p4; refine (rsince_any A4 A6 c4 c6 p4 p6 a b w11 (v4.step h11) (v6.step h11) l4 L46.out (by omega) (by omega) (by omega)).mono ?_; rintro e w12 ⟨A12, c12, p12, rfl, o12, b12, e12⟩; have h12 := bstep h11 b12; have l12 := sin_len e12 l4; have E12 := hide e12; clear e12; have s12 := keep2 g17 g27 h12)
            | (go_at_call_of 26 p5; refine (rsince_any A5 A7 c5 c7 p5 p7 a b w12 (v5.step h12) (v7.step h12) l5 L57.out (by omega) (by omega) (by omega)).mono ?_; rintro e w13 ⟨A13, c13, p13, rfl, o13, b13, e13⟩; have h13 := bstep h12 b13; have E13 := hide e13; clear e13; have s13 := keep2 g17 g27 h13; have L1213 := hide (si_same E4.out E5.out E12.out E13.out))
            | (go_at_call_of 24 p12; refine (sets_any A12 A13 c12 c13 p12 p13 lo w13 (o12.ats.step b13) o13.ats L1213.out l12 (by omega) (by omega)).mono ?_; rintro e w14 ⟨A14, c14, x14, B14, d14, z14, rfl, ox14, oz14, b14, nx14, nz14, mx14, mz14⟩; have MX14 := hide mx14; have MZ14 := hide mz14; clear mx14 mz14; have h14 := bstep h13 b14; have s14 := keep2 g17 g27 h14)
            | (go_at_call_of 17 x3; refine (tsame_true A3 B3 A14 B14 c3 d3 c14 d14 x3 z3 x14 z14 w14 (T27.out.step h14).ox.ats (T27.out.step h14).oz.ats ox14.ats oz14.ats T27.out.nx T27.out.nz nx14 nz14 ?_ ?_).mono ?_; intro t; rw [T27.out.mx, MX14.out, E12.out, E4.out, E6.out, List.length_reverse, untilL_len, listOf_len, since_true HAL.out t _ HN.out]; intro t; rw [T27.out.mz, MZ14.out, E13.out, E5.out, E7.out, List.length_reverse, untilL_len, listOf_len, since_false HAL.out t _ HN.out]; rintro e w15 ⟨rfl, b15⟩; have h15 := bstep h14 b15; have s15 := keep2 g17 g27 h15)
            | (go_at_call 13; refine (tawake_any w15).mono ?_; rintro e w16 ⟨rfl, b16⟩; have h16 := bstep h15 b16; have s16 := keep2 g17 g27 h16))
        go_wp2_with fail
        go_ret
        exact ⟨rfl, bstep hb' (bstep h7 h16)⟩
      · have HN := hide (show ¬ alwB 0 a b lo hi = true from fun h => hno (by have := alwB_iff.1 h; exact ⟨dl64_iff.2 (by omega), by omega⟩))
        have hor : dl64 a b lo hi = false ∨ (dl64 a b lo hi = true ∧ a < 0) := by
          cases hd : dl64 a b lo hi
          · exact .inl rfl
          · exact .inr ⟨rfl, by have : ¬ 0 ≤ a := fun h => hno ⟨hd, h⟩; omega⟩
        clear hno
        rcases hor with hd | ⟨hd, ha⟩
        all_goals
          rw [hd]
          clear hd
          go_wp2_with fail
          refine (tsame_true A2 B2 none none c2 d2 0 0 x2 z2 [] [] _ T1.out.ox.ats T1.out.oz.ats IvsAt.nil IvsAt.nil T1.out.nx T1.out.nz Norm.nil Norm.nil (fun t => by rw [T1.out.mx, linkS_none HN.out]) (fun t => by rw [T1.out.mz, unlinkS_none HN.out])).mono ?_
          rintro e5 w5 ⟨rfl, b5⟩
          have r2 := T2.out.step b5
          obtain ⟨p3, p4⟩ := box2 r2.box
          have v3 := r2.ox.ats
          have v4 := r2.oz.ats
          clear r2
          go_wp2_with fail
          refine (tsame_true A3 B3 none none c3 d3 0 0 x3 z3 [] [] _ v3 v4 IvsAt.nil IvsAt.nil T2.out.nx T2.out.nz Norm.nil Norm.nil (fun t => by rw [T2.out.mx, linkS_none HN.out]) (fun t => by rw [T2.out.mz, unlinkS_none HN.out])).mono ?_
          rintro e6 w6 ⟨rfl, b6⟩
          go_wp2_with fail
          refine (tawake_any _).mono ?_
          rintro e7 w7 ⟨rfl, b7⟩
          go_wp2_with fail
          go_ret
          exact ⟨rfl, bstep hb' (bstep (bstep b5 b6) b7)⟩
set_option maxRecDepth 100000 in
theorem untils_walk (A B A' B' : Option Addr) (c d c' d' : Nat) (xs zs xs' zs' : List Iv) (a b lo hi : Int) (w : World) (hx : IvsAt w w.heap.size A xs) (hz : IvsAt w w.heap.size B zs) (hx2 : IvsAt w w.heap.size A' xs') (hz2 : IvsAt w w.heap.size B' zs') (_ : I64 a) (_ : I64 b) (_ : I64 lo) (_ : I64 hi) :
    Calls Try.prog 6 #[.agg #[.slice A xs.length c, .slice B zs.length d], .agg #[.slice A' xs'.length c', .slice B' zs'.length d'], .int .i64 a, .int .i64 b, .int .i64 lo, .int .i64 hi] w fun e w' => e = .returned (.bool true) ∧ Below w.heap.size w w' := by
  have s0 := two_src (w := w) (A := A) (B := B) (A' := A') (B' := B') (c := c) (d := d) (c' := c') (d' := d') (xs := xs) (zs := zs) (xs' := xs') (zs' := zs')
  by_cases hgood : (fewT xs.length zs.length = true ∧ fewT xs'.length zs'.length = true) ∧ (hi ≤ 64 ∨ 1099511627776 < hi)
  · obtain ⟨⟨h1, h2⟩, h3⟩ := hgood
    exact untils_pair A B A' B' c d c' d' xs zs xs' zs' a b lo hi w hx hz hx2 hz2 (fewT_iff.1 h1).1 (fewT_iff.1 h1).2 (fewT_iff.1 h2).1 (fewT_iff.1 h2).2 h3
  · have hbad : fewT xs.length zs.length = false ∨ (fewT xs.length zs.length = true ∧ fewT xs'.length zs'.length = false) ∨ (fewT xs.length zs.length = true ∧ fewT xs'.length zs'.length = true ∧ 64 < hi ∧ hi ≤ 1099511627776) := by
      cases h1 : fewT xs.length zs.length
      · exact .inl rfl
      · cases h2 : fewT xs'.length zs'.length
        · exact .inr (.inl ⟨rfl, rfl⟩)
        · exact .inr (.inr ⟨rfl, rfl, by have : ¬ (hi ≤ 64 ∨ 1099511627776 < hi) := fun h => hgood ⟨⟨h1, h2⟩, h⟩; omega⟩)
    clear hgood
    rcases hbad with hf | ⟨hf, hf2⟩ | ⟨hf, hf2, h64, hmx⟩
    all_goals
      go_enter Try.func6, Try.ntmps6
      go_wp2_with (first | (go_at_call_of 12 xs; refine (tfew_any A B c d xs.length zs.length _).mono ?_; rintro e w1 ⟨rfl, b1⟩; rw [hf]; have s1 := s0.call b1; clear s0 b1; obtain ⟨i1, i2, i3, i4, _⟩ := src2_of s1) | (go_at_call_of 12 xs'; refine (tfew_any A' B' c' d' xs'.length zs'.length _).mono ?_; rintro e w2 ⟨rfl, b2⟩; rw [hf2]; have s2 := s1.call b2; clear s1 b2) | (go_at_call 13; refine (tawake_any _).mono ?_; rintro e w3 ⟨rfl, b3⟩))
      go_ret
      first | exact ⟨rfl, (s2.call b3).2.2⟩ | exact ⟨rfl, (s1.call b3).2.2⟩

end Go.Proofs.Ytkbiefklilelmaa
