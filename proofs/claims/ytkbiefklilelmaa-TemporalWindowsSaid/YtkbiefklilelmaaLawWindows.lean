/-
  wavestorelaw52.TemporalWindows returns true.
-/
import Derived.Test.YtkbiefklilelmaaTDual
import Derived.Test.YtkbiefklilelmaaLawSome
namespace Go.Proofs.Ytkbiefklilelmaa
open Go.RowKit Go.Joins

theorem someS_none {S : Int → Prop} {a b lo hi : Int} (h : ¬ alwB (-1099511627776) a b lo hi = true) (t : Int) : Mem [] t ↔ someS S a b lo hi t := ⟨fun h => absurd h (mem_nil t), fun h' => absurd h'.1 h⟩
theorem allS_none {S : Int → Prop} {a b lo hi : Int} (h : ¬ alwB (-1099511627776) a b lo hi = true) (t : Int) : Mem [] t ↔ allS S a b lo hi t := ⟨fun h => absurd h (mem_nil t), fun h' => absurd h'.1 h⟩
theorem keepw {w W v : World} {N1 N2 : Nat} {a b a1 b1 a2 b2 : Value} {t t1 t2 : TypeId} (g : W.heap[w.heap.size]? = some (.cells #[a, b] t (0, 0))) (g1 : W.heap[N1]? = some (.cells #[a1, b1] t1 (0, 0))) (g2 : W.heap[N2]? = some (.cells #[a2, b2] t2 (0, 0))) (h : Below W.heap.size W v) :
    v.cell? ⟨w.heap.size, 0, none⟩ = some a ∧ v.cell? ⟨w.heap.size, 1, none⟩ = some b ∧ v.cell? ⟨N1, 0, none⟩ = some a1 ∧ v.cell? ⟨N1, 1, none⟩ = some b1 ∧ v.cell? ⟨N2, 0, none⟩ = some a2 ∧ v.cell? ⟨N2, 1, none⟩ = some b2 ∧ Below W.heap.size W v :=
  ⟨(box2 (box_below h g)).1, (box2 (box_below h g)).2, (box2 (box_below h g1)).1, (box2 (box_below h g1)).2, (box2 (box_below h g2)).1, (box2 (box_below h g2)).2, h⟩

set_option maxRecDepth 100000 in
set_option maxHeartbeats 16000000 in
theorem windows_go (A B : Option Addr) (c d : Nat) (xs zs : List Iv) (a b lo hi : Int) (w : World) (hx : IvsAt w w.heap.size A xs) (hz : IvsAt w w.heap.size B zs) (hf : fewT xs.length zs.length = true) (hgo : hi ≤ 64 ∨ 1099511627776 < hi) :
    Calls Try.prog 3 #[.agg #[.slice A xs.length c, .slice B zs.length d], .int .i64 a, .int .i64 b, .int .i64 lo, .int .i64 hi] w fun e w' => e = .returned (.bool true) ∧ Below w.heap.size w w' := by
  have hbb : Below w.heap.size w (w.alloc (.cells #[.slice A xs.length c, .slice B zs.length d] 24)) := (Below.refl _ _).alloc (Nat.le_refl _) _
  have hfew := fewT_iff.1 hf
  obtain ⟨lx, lz⟩ := hfew
  by_cases h64 : hi ≤ 64
  · skip
    go_enter Try.func3, Try.ntmps3
    go_upto_region 3 with (go_at_call 12; refine (tfew_any _ _ _ _ _ _ _).mono ?_; rintro e w1 ⟨rfl, b1⟩; have gx := below_box b1 (box_lt (heap_alloc_new w _)) (heap_alloc_new w _); have hb := bstep hbb b1)
    clear b1
    go_cut [11, 12] (fun v1 v2 wx => PairEnd w wx v1 v2 (someS (Mem xs) a b lo hi) (allS (Mem zs) a b lo hi) (allS (Mem xs) a b lo hi) (someS (Mem zs) a b lo hi) ∧ SrcAt w A c xs B d zs wx)
    case first =>
      have hS0 : w1.drew.cell? ⟨w.heap.size, 0, none⟩ = some (.slice A xs.length c) ∧ w1.drew.cell? ⟨w.heap.size, 1, none⟩ = some (.slice B zs.length d) ∧ SrcAt w A c xs B d zs w1.drew := ⟨(box2 gx).1, (box2 gx).2, gx, below_drew hb⟩
      have hS1 : w1.cell? ⟨w.heap.size, 0, none⟩ = some (.slice A xs.length c) ∧ w1.cell? ⟨w.heap.size, 1, none⟩ = some (.slice B zs.length d) ∧ SrcAt w A c xs B d zs w1 := ⟨(box2 gx).1, (box2 gx).2, gx, hb⟩
      have lt0 : w.heap.size < w1.heap.size := box_lt gx
      clear gx hb
      go_region_held3 (fun wx => wx.cell? ⟨w.heap.size, 0, none⟩ = some (.slice A xs.length c) ∧ wx.cell? ⟨w.heap.size, 1, none⟩ = some (.slice B zs.length d) ∧ SrcAt w A c xs B d zs wx)
        (repeat' (first | (with_reducible assumption) | (with_reducible refine src_alloc _ ?_) | (with_reducible refine src_drew ?_) | ((with_reducible refine src_set _ _ ?_ ?_); omega)))
        (first
          | (go_at_call 14; refine (some_src hx hz lx lz a b lo hi (by assumption)).mono ?_; rintro e w2 ⟨A2, c2, x2, B2, d2, z2, rfl, ox2, oz2, b2, nx2, nz2, mx2, mz2⟩; have MX2 := hide mx2; have MZ2 := hide mz2; clear mx2 mz2; replace ox2 := own_zero ox2; replace oz2 := own_zero oz2; have S2 := src_call (by assumption) b2; (try have k1 := box_below b2 (heap_alloc_new _ _)); (try simp only [World.size_alloc] at k1); (try have k2 := box_below b2 (box_alloc (heap_alloc_new _ _))); (try (have k1l := box_lt k1; have k1n := Nat.ne_of_lt k1l; have k1m := Nat.ne_of_gt k1l; obtain ⟨k1a, k1b⟩ := box2 k1; obtain ⟨k1c, k1d⟩ := box2_frozen k1)); (try (have k2l := box_lt k2; have k2n := Nat.ne_of_lt k2l; have k2m := Nat.ne_of_gt k2l; obtain ⟨k2a, k2b⟩ := box2 k2; obtain ⟨k2c, k2d⟩ := box2_frozen k2)); have hs2 := b2.size; (try simp at hs2))
          | (go_at_call 15; refine (all_src hx hz lx lz a b lo hi (by assumption)).mono ?_; rintro e w3 ⟨A3, c3, x3, B3, d3, z3, rfl, ox3, oz3, b3, nx3, nz3, mx3, mz3⟩; have MX3 := hide mx3; have MZ3 := hide mz3; clear mx3 mz3; replace ox3 := own_zero ox3; replace oz3 := own_zero oz3; have S3 := src_call (by assumption) b3; (try have k3 := box_below b3 (heap_alloc_new _ _)); (try simp only [World.size_alloc] at k3); (try have k4 := box_below b3 (box_alloc (heap_alloc_new _ _))); (try have k5 := box_below b3 k1); (try have k5 := box_below b3 (box_alloc k1)); (try have k6 := box_below b3 k2); (try (have k3l := box_lt k3; have k3n := Nat.ne_of_lt k3l; have k3m := Nat.ne_of_gt k3l; obtain ⟨k3a, k3b⟩ := box2 k3; obtain ⟨k3c, k3d⟩ := box2_frozen k3)); (try (have k4l := box_lt k4; have k4n := Nat.ne_of_lt k4l; have k4m := Nat.ne_of_gt k4l; obtain ⟨k4a, k4b⟩ := box2 k4; obtain ⟨k4c, k4d⟩ := box2_frozen k4)); (try (have k5l := box_lt k5; have k5n := Nat.ne_of_lt k5l; have k5m := Nat.ne_of_gt k5l; obtain ⟨k5a, k5b⟩ := box2 k5; obtain ⟨k5c, k5d⟩ := box2_frozen k5)); (try (have k6l := box_lt k6; have k6n := Nat.ne_of_lt k6l; have k6m := Nat.ne_of_gt k6l; obtain ⟨k6a, k6b⟩ := box2 k6; obtain ⟨k6c, k6d⟩ := box2_frozen k6)); have hs3 := b3.size; (try simp at hs3)))
      all_goals (go_wp2_with fail; go_meet)
      all_goals
        refine pair_end2 (A := A2) (B := B2) (A' := A3) (B' := B3) (xs := x2) (zs := z2) (xs' := x3) (zs' := z3) (c := c2) (d := d2) (c' := c3) (d' := d3) ?_ ?_ (by omega) (by omega) ?_ ?_ ?_ ?_ nx2 nz2 nx3 nz3 MX2 MZ2 MX3 MZ3 ?_
        all_goals repeat' (first | (with_reducible assumption) | ((with_reducible refine heap_new' ?_); (simp; done)) | (with_reducible exact box2_set (by with_reducible assumption)) | (with_reducible exact box2_set (box_alloc (by with_reducible assumption))) | (with_reducible exact box2_set (set2_other (by with_reducible assumption) (by omega))) | (with_reducible exact box2_set (set2_other (box_alloc (by with_reducible assumption)) (by omega))) | (with_reducible refine box_alloc ?_) | (with_reducible refine set2_other ?_ (by omega)) | (with_reducible refine OwnIv.alloc ?_ _) | (with_reducible refine own_below (by with_reducible assumption) ?_) | (with_reducible refine set2_own (by with_reducible assumption) ?_) | (with_reducible refine set2_own (box_alloc (by with_reducible assumption)) ?_) | (with_reducible refine set2_own (set2_other (by with_reducible assumption) (by omega)) ?_) | (with_reducible refine src_alloc _ ?_) | (with_reducible refine src_set _ _ (by omega) ?_))
        all_goals trace_state
    case rest =>
      obtain ⟨⟨N1, N2, A2, c2, x2, B2, d2, z2, A3, c3, x3, B3, d3, z3, rfl, rfl, t1, t2, _, hN1, hN2⟩, hsrc⟩ := hcut
      obtain ⟨gx', hb'⟩ := hsrc
      have T1 := hide t1
      have T2 := hide t2
      have g2 := t2.box
      have g1 := t1.box
      clear t1 t2 gx hb hbb
      have q1 := (box2 g1).1
      have q2 := (box2 g1).2
      have q3 := (box2 g2).1
      have q4 := (box2 g2).2
      have l1 := norm_len T1.out.nx
      have l2 := norm_len T1.out.nz
      have l3 := norm_len T2.out.nx
      have l4 := norm_len T2.out.nz
      have hx' := (hx.below hb').more hb'.size
      have hz' := (hz.below hb').more hb'.size
      clear hx hz
      have hxd : IvsAt wc.drew wc.drew.heap.size A xs := hx'
      have hzd : IvsAt wc.drew wc.drew.heap.size B zs := hz'
      go_wp2_with fail
      refine (dl64_any a b lo hi _).mono ?_
      rintro e w' ⟨rfl, rfl⟩
      cases hd : dl64 a b lo hi
      · have HN := hide (show ¬ alwB (-1099511627776) a b lo hi = true from fun h => by have := alwB_iff.1 h; have : dl64 a b lo hi = true := dl64_iff.2 (by omega); rw [hd] at this; cases this)
        clear hd
        go_wp2_with fail
        refine (tsame_true A2 B2 none none c2 d2 0 0 x2 z2 [] [] _ T1.out.ox.ats T1.out.oz.ats IvsAt.nil IvsAt.nil T1.out.nx T1.out.nz Norm.nil Norm.nil (fun t => by rw [T1.out.mx, someS_none HN.out]) (fun t => by rw [T1.out.mz, allS_none HN.out])).mono ?_
        rintro e5 w5 ⟨rfl, b5⟩
        have r2 := T2.out.step b5
        obtain ⟨p3, p4⟩ := box2 r2.box
        have v3 := r2.ox.ats
        have v4 := r2.oz.ats
        clear r2
        go_wp2_with fail
        refine (tsame_true A3 B3 none none c3 d3 0 0 x3 z3 [] [] _ v3 v4 IvsAt.nil IvsAt.nil T2.out.nx T2.out.nz Norm.nil Norm.nil (fun t => by rw [T2.out.mx, allS_none HN.out]) (fun t => by rw [T2.out.mz, someS_none HN.out])).mono ?_
        rintro e6 w6 ⟨rfl, b6⟩
        go_wp2_with fail
        refine (tawake_any _).mono ?_
        rintro e7 w7 ⟨rfl, b7⟩
        go_wp2_with fail
        go_ret
        exact ⟨rfl, bstep hb' (bstep (bstep b5 b6) b7)⟩
      · have HD := hide hd
        clear hd q1 q2 q3 q4
        have kS := keepw (v := wc.drew) gx' g1 g2 (below_drew (Below.refl _ _))
        go_wp2_with fail
        go_region_held3 (fun wx => wx.cell? ⟨w.heap.size, 0, none⟩ = some (.slice A xs.length c) ∧ wx.cell? ⟨w.heap.size, 1, none⟩ = some (.slice B zs.length d) ∧ wx.cell? ⟨N1, 0, none⟩ = some (.slice A2 x2.length c2) ∧ wx.cell? ⟨N1, 1, none⟩ = some (.slice B2 z2.length d2) ∧ wx.cell? ⟨N2, 0, none⟩ = some (.slice A3 x3.length c3) ∧ wx.cell? ⟨N2, 1, none⟩ = some (.slice B3 z3.length d3) ∧ Below wc.heap.size wc wx)
          (first | (with_reducible assumption) | exact kS)
          (first
            | (go_at_call_of 18 (Value.bool false); refine (lsome_false A B c d xs zs a b lo hi wc.drew hxd hzd lx lz HD.out).mono ?_; rintro e w4 ⟨A4, c4, x4, B4, d4, z4, rfl, ox4, oz4, b4, nx4, nz4, mx4, mz4⟩; have MX4 := hide mx4; have MZ4 := hide mz4; clear mx4 mz4; have h4 := bstep (w0 := wc) (w := wc.drew) (below_drew (Below.refl _ _)) b4; have s4 := keepw gx' g1 g2 h4)
            | (go_at_call_of 17 x2; refine (tsame_true A2 B2 A4 B4 c2 d2 c4 d4 x2 z2 x4 z4 w4 (T1.out.step h4).ox.ats (T1.out.step h4).oz.ats ox4.ats oz4.ats T1.out.nx T1.out.nz nx4 nz4 ?_ ?_).mono ?_; intro t; rw [T1.out.mx, MX4.out]; intro t; rw [T1.out.mz, MZ4.out]; rintro e w5 ⟨rfl, b5⟩; have h5 := bstep h4 b5; have s5 := keepw gx' g1 g2 h5)
            | (go_at_call_of 18 (Value.bool true); refine (lsome_true A B c d xs zs a b lo hi w5 (hx'.step h5) (hz'.step h5) lx lz HD.out).mono ?_; rintro e w6 ⟨A6, c6, x6, B6, d6, z6, rfl, ox6, oz6, b6, nx6, nz6, mx6, mz6⟩; have MX6 := hide mx6; have MZ6 := hide mz6; clear mx6 mz6; have h6 := bstep h5 b6; have s6 := keepw gx' g1 g2 h6)
            | (go_at_call_of 17 x3; refine (tsame_true A3 B3 A6 B6 c3 d3 c6 d6 x3 z3 x6 z6 w6 (T2.out.step h6).ox.ats (T2.out.step h6).oz.ats ox6.ats oz6.ats T2.out.nx T2.out.nz nx6 nz6 ?_ ?_).mono ?_; intro t; rw [T2.out.mx, MX6.out]; intro t; rw [T2.out.mz, MZ6.out]; rintro e w7 ⟨rfl, b7⟩; have h7 := bstep h6 b7; have s7 := keepw gx' g1 g2 h7)
            | (go_at_call 13; refine (tawake_any w7).mono ?_; rintro e w8 ⟨rfl, b8⟩; have h8 := bstep h7 b8; have s8 := keepw gx' g1 g2 h8))
        go_wp2_with fail
        go_ret
        exact ⟨rfl, bstep hb' h8⟩
  · have h65 : 1099511627776 < hi := by omega
    go_enter Try.func3, Try.ntmps3
    go_upto_region 3 with (go_at_call 12; refine (tfew_any _ _ _ _ _ _ _).mono ?_; rintro e w1 ⟨rfl, b1⟩; have gx := below_box b1 (box_lt (heap_alloc_new w _)) (heap_alloc_new w _); have hb := bstep hbb b1)
    clear b1
    go_cut [11, 12] (fun v1 v2 wx => PairEnd w wx v1 v2 (someS (Mem xs) a b lo hi) (allS (Mem zs) a b lo hi) (allS (Mem xs) a b lo hi) (someS (Mem zs) a b lo hi) ∧ SrcAt w A c xs B d zs wx)
    case first =>
      have hS0 : w1.drew.cell? ⟨w.heap.size, 0, none⟩ = some (.slice A xs.length c) ∧ w1.drew.cell? ⟨w.heap.size, 1, none⟩ = some (.slice B zs.length d) ∧ SrcAt w A c xs B d zs w1.drew := ⟨(box2 gx).1, (box2 gx).2, gx, below_drew hb⟩
      have hS1 : w1.cell? ⟨w.heap.size, 0, none⟩ = some (.slice A xs.length c) ∧ w1.cell? ⟨w.heap.size, 1, none⟩ = some (.slice B zs.length d) ∧ SrcAt w A c xs B d zs w1 := ⟨(box2 gx).1, (box2 gx).2, gx, hb⟩
      have lt0 : w.heap.size < w1.heap.size := box_lt gx
      clear gx hb
      go_region_held3 (fun wx => wx.cell? ⟨w.heap.size, 0, none⟩ = some (.slice A xs.length c) ∧ wx.cell? ⟨w.heap.size, 1, none⟩ = some (.slice B zs.length d) ∧ SrcAt w A c xs B d zs wx)
        (repeat' (first | (with_reducible assumption) | (with_reducible refine src_alloc _ ?_) | (with_reducible refine src_drew ?_) | ((with_reducible refine src_set _ _ ?_ ?_); omega)))
        (first
          | (go_at_call 14; refine (some_src hx hz lx lz a b lo hi (by assumption)).mono ?_; rintro e w2 ⟨A2, c2, x2, B2, d2, z2, rfl, ox2, oz2, b2, nx2, nz2, mx2, mz2⟩; have MX2 := hide mx2; have MZ2 := hide mz2; clear mx2 mz2; replace ox2 := own_zero ox2; replace oz2 := own_zero oz2; have S2 := src_call (by assumption) b2; (try have k1 := box_below b2 (heap_alloc_new _ _)); (try simp only [World.size_alloc] at k1); (try have k2 := box_below b2 (box_alloc (heap_alloc_new _ _))); (try (have k1l := box_lt k1; have k1n := Nat.ne_of_lt k1l; have k1m := Nat.ne_of_gt k1l; obtain ⟨k1a, k1b⟩ := box2 k1; obtain ⟨k1c, k1d⟩ := box2_frozen k1)); (try (have k2l := box_lt k2; have k2n := Nat.ne_of_lt k2l; have k2m := Nat.ne_of_gt k2l; obtain ⟨k2a, k2b⟩ := box2 k2; obtain ⟨k2c, k2d⟩ := box2_frozen k2)); have hs2 := b2.size; (try simp at hs2))
          | (go_at_call 15; refine (all_src hx hz lx lz a b lo hi (by assumption)).mono ?_; rintro e w3 ⟨A3, c3, x3, B3, d3, z3, rfl, ox3, oz3, b3, nx3, nz3, mx3, mz3⟩; have MX3 := hide mx3; have MZ3 := hide mz3; clear mx3 mz3; replace ox3 := own_zero ox3; replace oz3 := own_zero oz3; have S3 := src_call (by assumption) b3; (try have k3 := box_below b3 (heap_alloc_new _ _)); (try simp only [World.size_alloc] at k3); (try have k4 := box_below b3 (box_alloc (heap_alloc_new _ _))); (try have k5 := box_below b3 k1); (try have k5 := box_below b3 (box_alloc k1)); (try have k6 := box_below b3 k2); (try (have k3l := box_lt k3; have k3n := Nat.ne_of_lt k3l; have k3m := Nat.ne_of_gt k3l; obtain ⟨k3a, k3b⟩ := box2 k3; obtain ⟨k3c, k3d⟩ := box2_frozen k3)); (try (have k4l := box_lt k4; have k4n := Nat.ne_of_lt k4l; have k4m := Nat.ne_of_gt k4l; obtain ⟨k4a, k4b⟩ := box2 k4; obtain ⟨k4c, k4d⟩ := box2_frozen k4)); (try (have k5l := box_lt k5; have k5n := Nat.ne_of_lt k5l; have k5m := Nat.ne_of_gt k5l; obtain ⟨k5a, k5b⟩ := box2 k5; obtain ⟨k5c, k5d⟩ := box2_frozen k5)); (try (have k6l := box_lt k6; have k6n := Nat.ne_of_lt k6l; have k6m := Nat.ne_of_gt k6l; obtain ⟨k6a, k6b⟩ := box2 k6; obtain ⟨k6c, k6d⟩ := box2_frozen k6)); have hs3 := b3.size; (try simp at hs3)))
      all_goals (go_wp2_with fail; go_meet)
      all_goals
        refine pair_end2 (A := A2) (B := B2) (A' := A3) (B' := B3) (xs := x2) (zs := z2) (xs' := x3) (zs' := z3) (c := c2) (d := d2) (c' := c3) (d' := d3) ?_ ?_ (by omega) (by omega) ?_ ?_ ?_ ?_ nx2 nz2 nx3 nz3 MX2 MZ2 MX3 MZ3 ?_
        all_goals repeat' (first | (with_reducible assumption) | ((with_reducible refine heap_new' ?_); (simp; done)) | (with_reducible exact box2_set (by with_reducible assumption)) | (with_reducible exact box2_set (box_alloc (by with_reducible assumption))) | (with_reducible exact box2_set (set2_other (by with_reducible assumption) (by omega))) | (with_reducible exact box2_set (set2_other (box_alloc (by with_reducible assumption)) (by omega))) | (with_reducible refine box_alloc ?_) | (with_reducible refine set2_other ?_ (by omega)) | (with_reducible refine OwnIv.alloc ?_ _) | (with_reducible refine own_below (by with_reducible assumption) ?_) | (with_reducible refine set2_own (by with_reducible assumption) ?_) | (with_reducible refine set2_own (box_alloc (by with_reducible assumption)) ?_) | (with_reducible refine set2_own (set2_other (by with_reducible assumption) (by omega)) ?_) | (with_reducible refine src_alloc _ ?_) | (with_reducible refine src_set _ _ (by omega) ?_))
        all_goals trace_state
    case rest =>
      obtain ⟨⟨N1, N2, A2, c2, x2, B2, d2, z2, A3, c3, x3, B3, d3, z3, rfl, rfl, t1, t2, _, hN1, hN2⟩, hsrc⟩ := hcut
      obtain ⟨gx', hb'⟩ := hsrc
      have T1 := hide t1
      have T2 := hide t2
      have g2 := t2.box
      have g1 := t1.box
      clear t1 t2 gx hb hbb
      have q1 := (box2 g1).1
      have q2 := (box2 g1).2
      have q3 := (box2 g2).1
      have q4 := (box2 g2).2
      have l1 := norm_len T1.out.nx
      have l2 := norm_len T1.out.nz
      have l3 := norm_len T2.out.nx
      have l4 := norm_len T2.out.nz
      have hx' := (hx.below hb').more hb'.size
      have hz' := (hz.below hb').more hb'.size
      clear hx hz
      have hxd : IvsAt wc.drew wc.drew.heap.size A xs := hx'
      have hzd : IvsAt wc.drew wc.drew.heap.size B zs := hz'
      go_wp2_with fail
      refine (dl64_any a b lo hi _).mono ?_
      rintro e w' ⟨rfl, rfl⟩
      cases hd : dl64 a b lo hi
      · have HN := hide (show ¬ alwB (-1099511627776) a b lo hi = true from fun h => by have := alwB_iff.1 h; have : dl64 a b lo hi = true := dl64_iff.2 (by omega); rw [hd] at this; cases this)
        clear hd
        go_wp2_with fail
        refine (tsame_true A2 B2 none none c2 d2 0 0 x2 z2 [] [] _ T1.out.ox.ats T1.out.oz.ats IvsAt.nil IvsAt.nil T1.out.nx T1.out.nz Norm.nil Norm.nil (fun t => by rw [T1.out.mx, someS_none HN.out]) (fun t => by rw [T1.out.mz, allS_none HN.out])).mono ?_
        rintro e5 w5 ⟨rfl, b5⟩
        have r2 := T2.out.step b5
        obtain ⟨p3, p4⟩ := box2 r2.box
        have v3 := r2.ox.ats
        have v4 := r2.oz.ats
        clear r2
        go_wp2_with fail
        refine (tsame_true A3 B3 none none c3 d3 0 0 x3 z3 [] [] _ v3 v4 IvsAt.nil IvsAt.nil T2.out.nx T2.out.nz Norm.nil Norm.nil (fun t => by rw [T2.out.mx, allS_none HN.out]) (fun t => by rw [T2.out.mz, someS_none HN.out])).mono ?_
        rintro e6 w6 ⟨rfl, b6⟩
        go_wp2_with fail
        refine (tawake_any _).mono ?_
        rintro e7 w7 ⟨rfl, b7⟩
        go_wp2_with fail
        go_ret
        exact ⟨rfl, bstep hb' (bstep (bstep b5 b6) b7)⟩
      · have HD := hide hd
        clear hd q1 q2 q3 q4
        have kS := keepw (v := wc.drew) gx' g1 g2 (below_drew (Below.refl _ _))
        go_wp2_with fail
        go_region_held3 (fun wx => wx.cell? ⟨w.heap.size, 0, none⟩ = some (.slice A xs.length c) ∧ wx.cell? ⟨w.heap.size, 1, none⟩ = some (.slice B zs.length d) ∧ wx.cell? ⟨N1, 0, none⟩ = some (.slice A2 x2.length c2) ∧ wx.cell? ⟨N1, 1, none⟩ = some (.slice B2 z2.length d2) ∧ wx.cell? ⟨N2, 0, none⟩ = some (.slice A3 x3.length c3) ∧ wx.cell? ⟨N2, 1, none⟩ = some (.slice B3 z3.length d3) ∧ Below wc.heap.size wc wx)
          (first | (with_reducible assumption) | exact kS)
          (first
            | (go_at_call_of 18 (Value.bool false); refine (lsome_false A B c d xs zs a b lo hi wc.drew hxd hzd lx lz HD.out).mono ?_; rintro e w4 ⟨A4, c4, x4, B4, d4, z4, rfl, ox4, oz4, b4, nx4, nz4, mx4, mz4⟩; have MX4 := hide mx4; have MZ4 := hide mz4; clear mx4 mz4; have h4 := bstep (w0 := wc) (w := wc.drew) (below_drew (Below.refl _ _)) b4; have s4 := keepw gx' g1 g2 h4)
            | (go_at_call_of 17 x2; refine (tsame_true A2 B2 A4 B4 c2 d2 c4 d4 x2 z2 x4 z4 w4 (T1.out.step h4).ox.ats (T1.out.step h4).oz.ats ox4.ats oz4.ats T1.out.nx T1.out.nz nx4 nz4 ?_ ?_).mono ?_; intro t; rw [T1.out.mx, MX4.out]; intro t; rw [T1.out.mz, MZ4.out]; rintro e w5 ⟨rfl, b5⟩; have h5 := bstep h4 b5; have s5 := keepw gx' g1 g2 h5)
            | (go_at_call_of 18 (Value.bool true); refine (lsome_true A B c d xs zs a b lo hi w5 (hx'.step h5) (hz'.step h5) lx lz HD.out).mono ?_; rintro e w6 ⟨A6, c6, x6, B6, d6, z6, rfl, ox6, oz6, b6, nx6, nz6, mx6, mz6⟩; have MX6 := hide mx6; have MZ6 := hide mz6; clear mx6 mz6; have h6 := bstep h5 b6; have s6 := keepw gx' g1 g2 h6)
            | (go_at_call_of 17 x3; refine (tsame_true A3 B3 A6 B6 c3 d3 c6 d6 x3 z3 x6 z6 w6 (T2.out.step h6).ox.ats (T2.out.step h6).oz.ats ox6.ats oz6.ats T2.out.nx T2.out.nz nx6 nz6 ?_ ?_).mono ?_; intro t; rw [T2.out.mx, MX6.out]; intro t; rw [T2.out.mz, MZ6.out]; rintro e w7 ⟨rfl, b7⟩; have h7 := bstep h6 b7; have s7 := keepw gx' g1 g2 h7)
            | (go_at_call 13; refine (tawake_any w7).mono ?_; rintro e w8 ⟨rfl, b8⟩; have h8 := bstep h7 b8; have s8 := keepw gx' g1 g2 h8))
        go_wp2_with fail
        go_ret
        exact ⟨rfl, bstep hb' h8⟩

set_option maxRecDepth 100000 in
theorem windows_walk (A B : Option Addr) (c d : Nat) (xs zs : List Iv) (a b lo hi : Int) (w : World) (hx : IvsAt w w.heap.size A xs) (hz : IvsAt w w.heap.size B zs) (_ : I64 a) (_ : I64 b) (_ : I64 lo) (_ : I64 hi) :
    Calls Try.prog 3 #[.agg #[.slice A xs.length c, .slice B zs.length d], .int .i64 a, .int .i64 b, .int .i64 lo, .int .i64 hi] w fun e w' => e = .returned (.bool true) ∧ Below w.heap.size w w' := by
  have hbb : Below w.heap.size w (w.alloc (.cells #[.slice A xs.length c, .slice B zs.length d] 24)) := (Below.refl _ _).alloc (Nat.le_refl _) _
  cases hf : fewT xs.length zs.length
  · go_enter Try.func3, Try.ntmps3
    go_wp2_with (first | (go_at_call 12; refine (tfew_any _ _ _ _ _ _ _).mono ?_; rintro e w1 ⟨rfl, b1⟩) | (go_at_call 13; refine (tawake_any _).mono ?_; rintro e w2 ⟨rfl, b2⟩))
    go_ret
    exact ⟨rfl, bstep (bstep hbb b1) b2⟩
  · by_cases hgo : hi ≤ 64 ∨ 1099511627776 < hi
    · exact windows_go A B c d xs zs a b lo hi w hx hz hf hgo
    · have k1 : ¬ hi ≤ 64 := fun h => hgo (.inl h)
      have k2 : hi ≤ 1099511627776 := by omega
      clear hgo
      go_enter Try.func3, Try.ntmps3
      go_wp2_with (first | (go_at_call 12; refine (tfew_any _ _ _ _ _ _ _).mono ?_; rintro e w1 ⟨rfl, b1⟩) | (go_at_call 13; refine (tawake_any _).mono ?_; rintro e w2 ⟨rfl, b2⟩))
      go_ret
      exact ⟨rfl, bstep (bstep hbb b1) b2⟩

end Go.Proofs.Ytkbiefklilelmaa
