/-
  wavestorelaw52.TemporalCompose returns true. Printed by gencompose.py.
-/
import Derived.Test.YtkbiefklilelmaaAwake52
import Derived.IntWalk
namespace Go.Proofs.Ytkbiefklilelmaa
open Go.RowKit Go.Joins

theorem keep3 {w W v : World} {N1 N2 : Nat} {a0 b0 a1 b1 a2 b2 : Value} {t : TypeId} (g0 : W.heap[w.heap.size]? = some (.cells #[a0, b0] t (0, 0))) (g1 : W.heap[N1]? = some (.cells #[a1, b1] t (0, 0))) (g2 : W.heap[N2]? = some (.cells #[a2, b2] t (0, 0)))
    (hb : Below w.heap.size w W) (b : Below W.heap.size W v) : v.heap[w.heap.size]? = some (.cells #[a0, b0] t (0, 0)) ∧ v.heap[N1]? = some (.cells #[a1, b1] t (0, 0)) ∧ v.heap[N2]? = some (.cells #[a2, b2] t (0, 0)) ∧ Below w.heap.size w v ∧
      (v.cell? ⟨w.heap.size, 0, none⟩ = some a0 ∧ v.cell? ⟨w.heap.size, 1, none⟩ = some b0 ∧ v.cell? ⟨N1, 0, none⟩ = some a1 ∧ v.cell? ⟨N1, 1, none⟩ = some b1 ∧ v.cell? ⟨N2, 0, none⟩ = some a2 ∧ v.cell? ⟨N2, 1, none⟩ = some b2 ∧ Below w.heap.size w v) := by
  have h0 := below_box b (box_lt g0) g0
  have h1 := below_box b (box_lt g1) g1
  have h2 := below_box b (box_lt g2) g2
  exact ⟨h0, h1, h2, bstep hb b, (box2 h0).1, (box2 h0).2, (box2 h1).1, (box2 h1).2, (box2 h2).1, (box2 h2).2, bstep hb b⟩

set_option maxRecDepth 100000 in
set_option maxHeartbeats 2000000 in
theorem compose_walk (A B : Option Addr) (c d : Nat) (xs zs : List Iv) (a b e f lo hi : Int) (back : Bool) (w : World) (hx : IvsAt w w.heap.size A xs) (hz : IvsAt w w.heap.size B zs) (_ : I64 a) (_ : I64 b) (_ : I64 e) (_ : I64 f) (_ : I64 lo) (_ : I64 hi) :
    Calls Try.prog 4 #[.agg #[.slice A xs.length c, .slice B zs.length d], .int .i64 a, .int .i64 b, .int .i64 e, .int .i64 f, .int .i64 lo, .int .i64 hi, .bool back] w fun e w' => e = .returned (.bool true) ∧ Below w.heap.size w w' := by
  have hbb : Below w.heap.size w (w.alloc (.cells #[.slice A xs.length c, .slice B zs.length d] 24)) := (Below.refl _ _).alloc (Nat.le_refl _) _
  cases hf : fewT xs.length zs.length
  · go_enter Try.func4, Try.ntmps4
    go_wp2_with (first | (go_at_call 12; refine (tfew_any _ _ _ _ _ _ _).mono ?_; rintro e w1 ⟨rfl, b1⟩) | (go_at_call 13; refine (tawake_any _).mono ?_; rintro e w2 ⟨rfl, b2⟩))
    go_ret
    exact ⟨rfl, bstep (bstep hbb b1) b2⟩
  · have hfew := fewT_iff.1 hf
    by_cases hall : (0 ≤ a ∧ a ≤ b ∧ b ≤ 1000 ∧ 0 ≤ e ∧ e ≤ f ∧ f ≤ 1000)
    · obtain ⟨g1, g2, g3, g4, g5, g6⟩ := hall
      cases back
      · skip
        go_enter Try.func4, Try.ntmps4
        go_upto_region 3 with (go_at_call 12; refine (tfew_any _ _ _ _ _ _ _).mono ?_; rintro e w1 ⟨rfl, b1⟩; have gx := below_box b1 (box_lt (heap_alloc_new w _)) (heap_alloc_new w _); have hb := bstep hbb b1; have qx0 := (box2 gx).1; have qx1 := (box2 gx).2)
        clear b1
        go_wp2_with fail
        refine (some_any A B c d xs zs a b lo hi _ ((hx.below hb).more hb.size) ((hz.below hb).more hb.size) (by omega) (by omega)).mono ?_
        rintro e2 v2 ⟨A2, c2, x2, B2, d2, z2, rfl, ox2, oz2, bb2, nx2, nz2, mx2, mz2⟩
        have MX2 := hide mx2
        have MZ2 := hide mz2
        clear mx2 mz2
        have lx2 := norm_len nx2
        have lz2 := norm_len nz2
        have rx2 := ox2.ats
        have rz2 := oz2.ats
        clear ox2 oz2
        replace gx := below_box bb2 (box_lt gx) gx
        replace hb := bstep hb bb2
        have qx20 := (box2 gx).1
        have qx21 := (box2 gx).2
        go_wp2_with fail
        refine (some_any A2 B2 c2 d2 x2 z2 e f lo hi _ rx2 rz2 (by omega) (by omega)).mono ?_
        rintro e3 v3 ⟨A3, c3, x3, B3, d3, z3, rfl, ox3, oz3, bb3, nx3, nz3, mx3, mz3⟩
        have MX3 := hide mx3
        have MZ3 := hide mz3
        clear mx3 mz3
        have lx3 := norm_len nx3
        have lz3 := norm_len nz3
        have rx3 := ox3.ats
        have rz3 := oz3.ats
        clear ox3 oz3
        replace gx := below_box bb3 (box_lt gx) gx
        replace hb := bstep hb bb3
        have qx30 := (box2 gx).1
        have qx31 := (box2 gx).2
        clear rx2 rz2
        have gy := heap_alloc_new v3 (.cells #[.slice A3 x3.length c3, .slice B3 z3.length d3] 24)
        replace gx := box_alloc (o' := .cells #[.slice A3 x3.length c3, .slice B3 z3.length d3] 24) gx
        have qy0 := (box2 gx).1
        have qy1 := (box2 gx).2
        replace hb := hb.alloc hb.size (.cells #[.slice A3 x3.length c3, .slice B3 z3.length d3] 24)
        replace rx3 := rx3.alloc (.cells #[.slice A3 x3.length c3, .slice B3 z3.length d3] 24)
        replace rz3 := rz3.alloc (.cells #[.slice A3 x3.length c3, .slice B3 z3.length d3] 24)
        go_wp2_with fail
        refine (all_any A B c d xs zs a b lo hi _ ((hx.below hb).more hb.size) ((hz.below hb).more hb.size) (by omega) (by omega)).mono ?_
        rintro e4 v4 ⟨A4, c4, x4, B4, d4, z4, rfl, ox4, oz4, bb4, nx4, nz4, mx4, mz4⟩
        have MX4 := hide mx4
        have MZ4 := hide mz4
        clear mx4 mz4
        have lx4 := norm_len nx4
        have lz4 := norm_len nz4
        have rx4 := ox4.ats
        have rz4 := oz4.ats
        clear ox4 oz4
        replace gx := below_box bb4 (box_lt gx) gx
        replace hb := bstep hb bb4
        have qx40 := (box2 gx).1
        have qx41 := (box2 gx).2
        replace gy := below_box bb4 (box_lt gy) gy
        replace rx3 := rx3.step bb4
        replace rz3 := rz3.step bb4
        go_wp2_with fail
        refine (all_any A4 B4 c4 d4 x4 z4 e f lo hi _ rx4 rz4 (by omega) (by omega)).mono ?_
        rintro e5 v5 ⟨A5, c5, x5, B5, d5, z5, rfl, ox5, oz5, bb5, nx5, nz5, mx5, mz5⟩
        have MX5 := hide mx5
        have MZ5 := hide mz5
        clear mx5 mz5
        have lx5 := norm_len nx5
        have lz5 := norm_len nz5
        have rx5 := ox5.ats
        have rz5 := oz5.ats
        clear ox5 oz5
        replace gx := below_box bb5 (box_lt gx) gx
        replace hb := bstep hb bb5
        have qx50 := (box2 gx).1
        have qx51 := (box2 gx).2
        replace gy := below_box bb5 (box_lt gy) gy
        replace rx3 := rx3.step bb5
        replace rz3 := rz3.step bb5
        clear rx4 rz4
        have gz := heap_alloc_new v5 (.cells #[.slice A5 x5.length c5, .slice B5 z5.length d5] 24)
        replace gx := box_alloc (o' := (.cells #[.slice A5 x5.length c5, .slice B5 z5.length d5] 24)) gx
        replace gy := box_alloc (o' := (.cells #[.slice A5 x5.length c5, .slice B5 z5.length d5] 24)) gy
        replace hb := hb.alloc hb.size (.cells #[.slice A5 x5.length c5, .slice B5 z5.length d5] 24)
        replace rx3 := rx3.alloc (.cells #[.slice A5 x5.length c5, .slice B5 z5.length d5] 24)
        replace rz3 := rz3.alloc (.cells #[.slice A5 x5.length c5, .slice B5 z5.length d5] 24)
        replace rx5 := rx5.alloc (.cells #[.slice A5 x5.length c5, .slice B5 z5.length d5] 24)
        replace rz5 := rz5.alloc (.cells #[.slice A5 x5.length c5, .slice B5 z5.length d5] 24)
        have qa : IntKind.i64.wrap (a + e) = a + e := IntWalk.i64_in _ (by omega)
        have qb : IntKind.i64.wrap (b + f) = b + f := IntWalk.i64_in _ (by omega)
        go_wp2_with fail
        generalize (v5.alloc (.cells #[.slice A5 x5.length c5, .slice B5 z5.length d5] 24)) = W7 at *
        have hS0 := (keep3 (v := W7.drew) gx gy gz hb (below_drew (Below.refl _ _))).2.2.2.2
        go_region_held3 (fun wx => wx.cell? ⟨w.heap.size, 0, none⟩ = some (.slice A xs.length c) ∧ wx.cell? ⟨w.heap.size, 1, none⟩ = some (.slice B zs.length d) ∧ wx.cell? ⟨v3.heap.size, 0, none⟩ = some (.slice A3 x3.length c3) ∧ wx.cell? ⟨v3.heap.size, 1, none⟩ = some (.slice B3 z3.length d3) ∧ wx.cell? ⟨v5.heap.size, 0, none⟩ = some (.slice A5 x5.length c5) ∧ wx.cell? ⟨v5.heap.size, 1, none⟩ = some (.slice B5 z5.length d5) ∧ Below w.heap.size w wx)
          (first | assumption)
          (first
            | (go_at_call_of 14 xs; refine (some_any A B c d xs zs (a + e) (b + f) lo hi W7.drew ((hx.below (below_drew hb)).more (below_drew hb).size) ((hz.below (below_drew hb)).more (below_drew hb).size) (by omega) (by omega)).mono ?_; rintro e w8 ⟨A8, c8, x8, B8, d8, z8, rfl, ox8, oz8, u8, nx8, nz8, mx8, mz8⟩; have MX8 := hide mx8; have MZ8 := hide mz8; clear mx8 mz8; obtain ⟨gx8, gy8, gz8, hb8, hS8⟩ := keep3 (W := W7.drew) gx gy gz (below_drew hb) u8)
            | (go_at_call_of 17 x3; refine (tsame_true A3 B3 A8 B8 c3 d3 c8 d8 x3 z3 x8 z8 w8 (IvsAt.step (w := W7.drew) rx3 u8) (IvsAt.step (w := W7.drew) rz3 u8) ox8.ats oz8.ats nx3 nz3 nx8 nz8 ?_ ?_).mono ?_; intro t; rw [MX3.out, MX8.out, someS_congr MX2.out]; exact some_some (Or.inl ⟨by omega, by omega⟩) (by omega) (by omega) (by omega) (by omega) (by omega) (by omega) t; intro t; rw [MZ3.out, MZ8.out, allS_congr MZ2.out]; exact all_all (Or.inl ⟨by omega, by omega⟩) (by omega) (by omega) (by omega) (by omega) (by omega) (by omega) t; rintro e w9 ⟨rfl, u9⟩; obtain ⟨gx9, gy9, gz9, hb9, hS9⟩ := keep3 gx8 gy8 gz8 hb8 u9)
            | (go_at_call_of 15 xs; refine (all_any A B c d xs zs (a + e) (b + f) lo hi w9 ((hx.below hb9).more hb9.size) ((hz.below hb9).more hb9.size) (by omega) (by omega)).mono ?_; rintro e w10 ⟨A10, c10, x10, B10, d10, z10, rfl, ox10, oz10, u10, nx10, nz10, mx10, mz10⟩; have MX10 := hide mx10; have MZ10 := hide mz10; clear mx10 mz10; obtain ⟨gx10, gy10, gz10, hb10, hS10⟩ := keep3 gx9 gy9 gz9 hb9 u10)
            | (go_at_call_of 17 x5; refine (tsame_true A5 B5 A10 B10 c5 d5 c10 d10 x5 z5 x10 z10 w10 ((IvsAt.step (w := W7.drew) rx5 u8).step u9 |>.step u10) ((IvsAt.step (w := W7.drew) rz5 u8).step u9 |>.step u10) ox10.ats oz10.ats nx5 nz5 nx10 nz10 ?_ ?_).mono ?_; intro t; rw [MX5.out, MX10.out, allS_congr MX4.out]; exact all_all (Or.inl ⟨by omega, by omega⟩) (by omega) (by omega) (by omega) (by omega) (by omega) (by omega) t; intro t; rw [MZ5.out, MZ10.out, someS_congr MZ4.out]; exact some_some (Or.inl ⟨by omega, by omega⟩) (by omega) (by omega) (by omega) (by omega) (by omega) (by omega) t; rintro e w11 ⟨rfl, u11⟩; obtain ⟨gx11, gy11, gz11, hb11, hS11⟩ := keep3 gx10 gy10 gz10 hb10 u11)
            | (go_at_call 13; refine (tawake_any w11).mono ?_; rintro e w12 ⟨rfl, u12⟩; obtain ⟨gx12, gy12, gz12, hb12, hS12⟩ := keep3 gx11 gy11 gz11 hb11 u12))
        go_wp2_with fail
        go_ret
        exact ⟨rfl, hb12⟩
      · skip
        go_enter Try.func4, Try.ntmps4
        go_upto_region 3 with (go_at_call 12; refine (tfew_any _ _ _ _ _ _ _).mono ?_; rintro e w1 ⟨rfl, b1⟩; have gx := below_box b1 (box_lt (heap_alloc_new w _)) (heap_alloc_new w _); have hb := bstep hbb b1; have qx0 := (box2 gx).1; have qx1 := (box2 gx).2)
        clear b1
        go_wp2_with fail
        refine (some_any A B c d xs zs (-b) (-a) lo hi _ ((hx.below hb).more hb.size) ((hz.below hb).more hb.size) (by omega) (by omega)).mono ?_
        rintro e2 v2 ⟨A2, c2, x2, B2, d2, z2, rfl, ox2, oz2, bb2, nx2, nz2, mx2, mz2⟩
        have MX2 := hide mx2
        have MZ2 := hide mz2
        clear mx2 mz2
        have lx2 := norm_len nx2
        have lz2 := norm_len nz2
        have rx2 := ox2.ats
        have rz2 := oz2.ats
        clear ox2 oz2
        replace gx := below_box bb2 (box_lt gx) gx
        replace hb := bstep hb bb2
        have qx20 := (box2 gx).1
        have qx21 := (box2 gx).2
        go_wp2_with fail
        refine (some_any A2 B2 c2 d2 x2 z2 (-f) (-e) lo hi _ rx2 rz2 (by omega) (by omega)).mono ?_
        rintro e3 v3 ⟨A3, c3, x3, B3, d3, z3, rfl, ox3, oz3, bb3, nx3, nz3, mx3, mz3⟩
        have MX3 := hide mx3
        have MZ3 := hide mz3
        clear mx3 mz3
        have lx3 := norm_len nx3
        have lz3 := norm_len nz3
        have rx3 := ox3.ats
        have rz3 := oz3.ats
        clear ox3 oz3
        replace gx := below_box bb3 (box_lt gx) gx
        replace hb := bstep hb bb3
        have qx30 := (box2 gx).1
        have qx31 := (box2 gx).2
        clear rx2 rz2
        have gy := heap_alloc_new v3 (.cells #[.slice A3 x3.length c3, .slice B3 z3.length d3] 24)
        replace gx := box_alloc (o' := .cells #[.slice A3 x3.length c3, .slice B3 z3.length d3] 24) gx
        have qy0 := (box2 gx).1
        have qy1 := (box2 gx).2
        replace hb := hb.alloc hb.size (.cells #[.slice A3 x3.length c3, .slice B3 z3.length d3] 24)
        replace rx3 := rx3.alloc (.cells #[.slice A3 x3.length c3, .slice B3 z3.length d3] 24)
        replace rz3 := rz3.alloc (.cells #[.slice A3 x3.length c3, .slice B3 z3.length d3] 24)
        go_wp2_with fail
        refine (all_any A B c d xs zs (-b) (-a) lo hi _ ((hx.below hb).more hb.size) ((hz.below hb).more hb.size) (by omega) (by omega)).mono ?_
        rintro e4 v4 ⟨A4, c4, x4, B4, d4, z4, rfl, ox4, oz4, bb4, nx4, nz4, mx4, mz4⟩
        have MX4 := hide mx4
        have MZ4 := hide mz4
        clear mx4 mz4
        have lx4 := norm_len nx4
        have lz4 := norm_len nz4
        have rx4 := ox4.ats
        have rz4 := oz4.ats
        clear ox4 oz4
        replace gx := below_box bb4 (box_lt gx) gx
        replace hb := bstep hb bb4
        have qx40 := (box2 gx).1
        have qx41 := (box2 gx).2
        replace gy := below_box bb4 (box_lt gy) gy
        replace rx3 := rx3.step bb4
        replace rz3 := rz3.step bb4
        go_wp2_with fail
        refine (all_any A4 B4 c4 d4 x4 z4 (-f) (-e) lo hi _ rx4 rz4 (by omega) (by omega)).mono ?_
        rintro e5 v5 ⟨A5, c5, x5, B5, d5, z5, rfl, ox5, oz5, bb5, nx5, nz5, mx5, mz5⟩
        have MX5 := hide mx5
        have MZ5 := hide mz5
        clear mx5 mz5
        have lx5 := norm_len nx5
        have lz5 := norm_len nz5
        have rx5 := ox5.ats
        have rz5 := oz5.ats
        clear ox5 oz5
        replace gx := below_box bb5 (box_lt gx) gx
        replace hb := bstep hb bb5
        have qx50 := (box2 gx).1
        have qx51 := (box2 gx).2
        replace gy := below_box bb5 (box_lt gy) gy
        replace rx3 := rx3.step bb5
        replace rz3 := rz3.step bb5
        clear rx4 rz4
        have gz := heap_alloc_new v5 (.cells #[.slice A5 x5.length c5, .slice B5 z5.length d5] 24)
        replace gx := box_alloc (o' := (.cells #[.slice A5 x5.length c5, .slice B5 z5.length d5] 24)) gx
        replace gy := box_alloc (o' := (.cells #[.slice A5 x5.length c5, .slice B5 z5.length d5] 24)) gy
        replace hb := hb.alloc hb.size (.cells #[.slice A5 x5.length c5, .slice B5 z5.length d5] 24)
        replace rx3 := rx3.alloc (.cells #[.slice A5 x5.length c5, .slice B5 z5.length d5] 24)
        replace rz3 := rz3.alloc (.cells #[.slice A5 x5.length c5, .slice B5 z5.length d5] 24)
        replace rx5 := rx5.alloc (.cells #[.slice A5 x5.length c5, .slice B5 z5.length d5] 24)
        replace rz5 := rz5.alloc (.cells #[.slice A5 x5.length c5, .slice B5 z5.length d5] 24)
        have qa : IntKind.i64.wrap ((-b) + (-f)) = (-b) + (-f) := IntWalk.i64_in _ (by omega)
        have qb : IntKind.i64.wrap ((-a) + (-e)) = (-a) + (-e) := IntWalk.i64_in _ (by omega)
        go_wp2_with fail
        generalize (v5.alloc (.cells #[.slice A5 x5.length c5, .slice B5 z5.length d5] 24)) = W7 at *
        have hS0 := (keep3 (v := W7.drew) gx gy gz hb (below_drew (Below.refl _ _))).2.2.2.2
        go_region_held3 (fun wx => wx.cell? ⟨w.heap.size, 0, none⟩ = some (.slice A xs.length c) ∧ wx.cell? ⟨w.heap.size, 1, none⟩ = some (.slice B zs.length d) ∧ wx.cell? ⟨v3.heap.size, 0, none⟩ = some (.slice A3 x3.length c3) ∧ wx.cell? ⟨v3.heap.size, 1, none⟩ = some (.slice B3 z3.length d3) ∧ wx.cell? ⟨v5.heap.size, 0, none⟩ = some (.slice A5 x5.length c5) ∧ wx.cell? ⟨v5.heap.size, 1, none⟩ = some (.slice B5 z5.length d5) ∧ Below w.heap.size w wx)
          (first | assumption)
          (first
            | (go_at_call_of 14 xs; refine (some_any A B c d xs zs ((-b) + (-f)) ((-a) + (-e)) lo hi W7.drew ((hx.below (below_drew hb)).more (below_drew hb).size) ((hz.below (below_drew hb)).more (below_drew hb).size) (by omega) (by omega)).mono ?_; rintro e w8 ⟨A8, c8, x8, B8, d8, z8, rfl, ox8, oz8, u8, nx8, nz8, mx8, mz8⟩; have MX8 := hide mx8; have MZ8 := hide mz8; clear mx8 mz8; obtain ⟨gx8, gy8, gz8, hb8, hS8⟩ := keep3 (W := W7.drew) gx gy gz (below_drew hb) u8)
            | (go_at_call_of 17 x3; refine (tsame_true A3 B3 A8 B8 c3 d3 c8 d8 x3 z3 x8 z8 w8 (IvsAt.step (w := W7.drew) rx3 u8) (IvsAt.step (w := W7.drew) rz3 u8) ox8.ats oz8.ats nx3 nz3 nx8 nz8 ?_ ?_).mono ?_; intro t; rw [MX3.out, MX8.out, someS_congr MX2.out]; exact some_some (Or.inr ⟨by omega, by omega⟩) (by omega) (by omega) (by omega) (by omega) (by omega) (by omega) t; intro t; rw [MZ3.out, MZ8.out, allS_congr MZ2.out]; exact all_all (Or.inr ⟨by omega, by omega⟩) (by omega) (by omega) (by omega) (by omega) (by omega) (by omega) t; rintro e w9 ⟨rfl, u9⟩; obtain ⟨gx9, gy9, gz9, hb9, hS9⟩ := keep3 gx8 gy8 gz8 hb8 u9)
            | (go_at_call_of 15 xs; refine (all_any A B c d xs zs ((-b) + (-f)) ((-a) + (-e)) lo hi w9 ((hx.below hb9).more hb9.size) ((hz.below hb9).more hb9.size) (by omega) (by omega)).mono ?_; rintro e w10 ⟨A10, c10, x10, B10, d10, z10, rfl, ox10, oz10, u10, nx10, nz10, mx10, mz10⟩; have MX10 := hide mx10; have MZ10 := hide mz10; clear mx10 mz10; obtain ⟨gx10, gy10, gz10, hb10, hS10⟩ := keep3 gx9 gy9 gz9 hb9 u10)
            | (go_at_call_of 17 x5; refine (tsame_true A5 B5 A10 B10 c5 d5 c10 d10 x5 z5 x10 z10 w10 ((IvsAt.step (w := W7.drew) rx5 u8).step u9 |>.step u10) ((IvsAt.step (w := W7.drew) rz5 u8).step u9 |>.step u10) ox10.ats oz10.ats nx5 nz5 nx10 nz10 ?_ ?_).mono ?_; intro t; rw [MX5.out, MX10.out, allS_congr MX4.out]; exact all_all (Or.inr ⟨by omega, by omega⟩) (by omega) (by omega) (by omega) (by omega) (by omega) (by omega) t; intro t; rw [MZ5.out, MZ10.out, someS_congr MZ4.out]; exact some_some (Or.inr ⟨by omega, by omega⟩) (by omega) (by omega) (by omega) (by omega) (by omega) (by omega) t; rintro e w11 ⟨rfl, u11⟩; obtain ⟨gx11, gy11, gz11, hb11, hS11⟩ := keep3 gx10 gy10 gz10 hb10 u11)
            | (go_at_call 13; refine (tawake_any w11).mono ?_; rintro e w12 ⟨rfl, u12⟩; obtain ⟨gx12, gy12, gz12, hb12, hS12⟩ := keep3 gx11 gy11 gz11 hb11 u12))
        go_wp2_with fail
        go_ret
        exact ⟨rfl, hb12⟩
    · go_enter Try.func4, Try.ntmps4
      go_wp2_with (first | (go_at_call 12; refine (tfew_any _ _ _ _ _ _ _).mono ?_; rintro e w1 ⟨rfl, b1⟩) | (go_at_call 13; refine (tawake_any _).mono ?_; rintro e w2 ⟨rfl, b2⟩))
      all_goals first | (go_ret; exact ⟨rfl, bstep (bstep hbb (by assumption)) (by assumption)⟩) | (exfalso; omega)

end Go.Proofs.Ytkbiefklilelmaa
