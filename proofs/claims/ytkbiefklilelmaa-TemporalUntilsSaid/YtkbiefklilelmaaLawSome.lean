/-
  wavestorelaw52.some: the condition that the reference gives for Some and All.
-/
import Derived.Test.YtkbiefklilelmaaRefSetsW
import Derived.Test.YtkbiefklilelmaaWinLaw
namespace Go.Proofs.Ytkbiefklilelmaa
open Go.RowKit Go.Joins

theorem lst_len {xs zs : List Iv} {low : Bool} {lo hi : Int} {p : List Int} (h : p = listOf xs zs low lo (hi - lo + 1).toNat) (_ : lo ≤ hi) (h2 : hi ≤ 64) (h0 : 0 ≤ lo := by omega) : p.length ≤ 65 := by
  rw [h, listOf_len]; omega
theorem sml_len {all : Bool} {x p : List Int} {a b : Int} (h : p = someL all x a b x.length) (hl : x.length ≤ 65) : p.length ≤ 65 := by rw [h, someL_len]; exact hl
theorem sml_same {all : Bool} {xs zs : List Iv} {lo a b : Int} {n : Nat} {p1 p2 p3 p4 : List Int} (h1 : p1 = listOf xs zs false lo n) (h2 : p2 = someL all p1 a b p1.length) (h3 : p3 = listOf xs zs true lo n) (h4 : p4 = someL all p3 a b p3.length) : p4.length = p2.length := by
  rw [h4, h2, someL_len, someL_len, h1, h3, listOf_len, listOf_len]

set_option maxRecDepth 100000 in
set_option maxHeartbeats 4000000 in
theorem lsome_false (A B : Option Addr) (c d : Nat) (xs zs : List Iv) (a b lo hi : Int) (w : World) (hx : IvsAt w w.heap.size A xs) (hz : IvsAt w w.heap.size B zs) (lx : xs.length ≤ 24) (lz : zs.length ≤ 24) (hd : dl64 a b lo hi = true) :
    Calls Try.prog 18 #[.agg #[.slice A xs.length c, .slice B zs.length d], .int .i64 a, .int .i64 b, .int .i64 lo, .int .i64 hi, .bool false] w (RetTr w (someS (Mem xs) a b lo hi) (allS (Mem zs) a b lo hi)) := by
  have HD := hide hd
  obtain ⟨g1, g2, g3, g4, g5, g6⟩ := dl64_iff.1 hd
  clear hd
  have HAL := hide (show alwB (-1099511627776) a b lo hi = true from alwB_iff.2 (by omega))
  go_enter Try.func18, Try.ntmps18
  go_wp2_with fail
  obtain ⟨W0, hW0⟩ : ∃ W0 : World, ((w.alloc (.cells #[.slice A xs.length c, .slice B zs.length d] 24)).alloc (.cells #[.slice none 0 0, .slice none 0 0] 24)) = W0 := ⟨_, rfl⟩
  obtain ⟨hb0, hz0, bx, br⟩ := two_boxes hW0
  rw [hW0]
  clear hW0
  have k0 : W0.drew.cell? ⟨w.heap.size, 0, none⟩ = some (.slice A xs.length c) ∧ W0.drew.cell? ⟨w.heap.size, 1, none⟩ = some (.slice B zs.length d) ∧ Below w.heap.size w W0.drew := ⟨(box2 bx).1, (box2 bx).2, below_drew hb0⟩
  go_region_held3 (fun wx => wx.cell? ⟨w.heap.size, 0, none⟩ = some (.slice A xs.length c) ∧ wx.cell? ⟨w.heap.size, 1, none⟩ = some (.slice B zs.length d) ∧ Below w.heap.size w wx)
    (first | (with_reducible assumption) | exact k0 | exact clip_k3 hb5 bx5)
    (first
      | (go_at_call_of 23 (Value.bool false); refine (list_any A B c d xs zs lo hi false W0.drew ((hx.below (below_drew hb0)).more (below_drew hb0).size) ((hz.below (below_drew hb0)).more (below_drew hb0).size) lx lz (by omega) (by omega) (by omega)).mono ?_; rintro e w1 ⟨A1, c1, p1, rfl, o1, b1, e1⟩; obtain ⟨hz1, hb1, bx1, br1, k1⟩ := clip_k1 hz0 hb0 bx br b1; have l1 := lst_len e1 g5 g6; have E1 := hide e1; clear e1)
      | (go_at_call_of 44 p1; refine (rsome_false A1 c1 p1 a b w1 o1.ats l1 (by omega) (by omega) (by omega)).mono ?_; rintro e w2 ⟨A2, c2, p2, rfl, o2, b2, e2⟩; obtain ⟨hz2, hb2, bx2, br2, k2⟩ := clip_k2 hz1 hb1 bx1 br1 b2; have l2 := sml_len e2 l1; have E2 := hide e2; clear e2)
      | (go_at_call_of 23 (Value.bool true); refine (list_any A B c d xs zs lo hi true w2 ((hx.below hb2).more hb2.size) ((hz.below hb2).more hb2.size) lx lz (by omega) (by omega) (by omega)).mono ?_; rintro e w3 ⟨A3, c3, p3, rfl, o3, b3, e3⟩; obtain ⟨hz3, hb3, bx3, br3, k3⟩ := clip_k2 hz2 hb2 bx2 br2 b3; have l3 := lst_len e3 g5 g6; have E3 := hide e3; clear e3)
      | (go_at_call_of 44 p3; refine (rsome_false A3 c3 p3 a b w3 o3.ats l3 (by omega) (by omega) (by omega)).mono ?_; rintro e w4 ⟨A4, c4, p4, rfl, o4, b4, e4⟩; obtain ⟨hz4, hb4, bx4, br4, k4⟩ := clip_k2 hz3 hb3 bx3 br3 b4; have E4 := hide e4; clear e4; have HLL := hide (sml_same E1.out E2.out E3.out E4.out))
      | (go_at_call 24; refine (sets_any A2 A4 c2 c4 p2 p4 lo w4 ((o2.ats.step b3).step b4) o4.ats HLL.out l2 (by omega) (by omega)).mono ?_; rintro e w5 ⟨A5, c5, x5, B5, d5, z5, rfl, ox5, oz5, b5, nx5, nz5, mx5, mz5⟩; obtain ⟨hz5, hb5, bx5, br5, k5⟩ := clip_k2 hz4 hb4 bx4 br4 b5; have MX5 := hide mx5; have MZ5 := hide mz5; clear mx5 mz5; have q1 := (box2 br5).1; have q2 := (box2 br5).2; have q3 := (box2_frozen br5).1; have q4 := (box2_frozen br5).2))
  obtain ⟨W3, hW3⟩ : ∃ W3 : World, (w5.setCell ⟨w.heap.size + 1, 0, none⟩ (.slice A5 x5.length c5)).setCell ⟨w.heap.size + 1, 1, none⟩ (.slice B5 z5.length d5) = W3 := ⟨_, rfl⟩
  obtain ⟨f1, f2, hb6, r1, r2⟩ := tr_end hb5 br5 ox5 hz4 (Below.refl _ _) oz5 hz4 hW3
  rw [hW3]
  clear hW3
  go_wp2_with fail
  have hn : (((hi - lo + 1).toNat : Nat) : Int) = hi - lo + 1 := by omega
  exact bodyPost_ret (v := .agg #[.slice A5 x5.length c5, .slice B5 z5.length d5]) (by simp [results, Try.results18, go_sem, f1, f2]) rfl ⟨A5, c5, x5, B5, d5, z5, rfl, r1, r2, hb6, nx5, nz5, fun t => by rw [MX5.out, E2.out, E1.out, someL_len, listOf_len, win_true HAL.out t _ hn], fun t => by rw [MZ5.out, E4.out, E3.out, someL_len, listOf_len, win_false HAL.out t _ hn]⟩

set_option maxRecDepth 100000 in
set_option maxHeartbeats 4000000 in
theorem lsome_true (A B : Option Addr) (c d : Nat) (xs zs : List Iv) (a b lo hi : Int) (w : World) (hx : IvsAt w w.heap.size A xs) (hz : IvsAt w w.heap.size B zs) (lx : xs.length ≤ 24) (lz : zs.length ≤ 24) (hd : dl64 a b lo hi = true) :
    Calls Try.prog 18 #[.agg #[.slice A xs.length c, .slice B zs.length d], .int .i64 a, .int .i64 b, .int .i64 lo, .int .i64 hi, .bool true] w (RetTr w (allS (Mem xs) a b lo hi) (someS (Mem zs) a b lo hi)) := by
  have HD := hide hd
  obtain ⟨g1, g2, g3, g4, g5, g6⟩ := dl64_iff.1 hd
  clear hd
  have HAL := hide (show alwB (-1099511627776) a b lo hi = true from alwB_iff.2 (by omega))
  go_enter Try.func18, Try.ntmps18
  go_wp2_with fail
  obtain ⟨W0, hW0⟩ : ∃ W0 : World, ((w.alloc (.cells #[.slice A xs.length c, .slice B zs.length d] 24)).alloc (.cells #[.slice none 0 0, .slice none 0 0] 24)) = W0 := ⟨_, rfl⟩
  obtain ⟨hb0, hz0, bx, br⟩ := two_boxes hW0
  rw [hW0]
  clear hW0
  have k0 : W0.drew.cell? ⟨w.heap.size, 0, none⟩ = some (.slice A xs.length c) ∧ W0.drew.cell? ⟨w.heap.size, 1, none⟩ = some (.slice B zs.length d) ∧ Below w.heap.size w W0.drew := ⟨(box2 bx).1, (box2 bx).2, below_drew hb0⟩
  go_region_held3 (fun wx => wx.cell? ⟨w.heap.size, 0, none⟩ = some (.slice A xs.length c) ∧ wx.cell? ⟨w.heap.size, 1, none⟩ = some (.slice B zs.length d) ∧ Below w.heap.size w wx)
    (first | (with_reducible assumption) | exact k0 | exact clip_k3 hb5 bx5)
    (first
      | (go_at_call_of 23 (Value.bool false); refine (list_any A B c d xs zs lo hi false W0.drew ((hx.below (below_drew hb0)).more (below_drew hb0).size) ((hz.below (below_drew hb0)).more (below_drew hb0).size) lx lz (by omega) (by omega) (by omega)).mono ?_; rintro e w1 ⟨A1, c1, p1, rfl, o1, b1, e1⟩; obtain ⟨hz1, hb1, bx1, br1, k1⟩ := clip_k1 hz0 hb0 bx br b1; have l1 := lst_len e1 g5 g6; have E1 := hide e1; clear e1)
      | (go_at_call_of 44 p1; refine (rsome_true A1 c1 p1 a b w1 o1.ats l1 (by omega) (by omega) (by omega)).mono ?_; rintro e w2 ⟨A2, c2, p2, rfl, o2, b2, e2⟩; obtain ⟨hz2, hb2, bx2, br2, k2⟩ := clip_k2 hz1 hb1 bx1 br1 b2; have l2 := sml_len e2 l1; have E2 := hide e2; clear e2)
      | (go_at_call_of 23 (Value.bool true); refine (list_any A B c d xs zs lo hi true w2 ((hx.below hb2).more hb2.size) ((hz.below hb2).more hb2.size) lx lz (by omega) (by omega) (by omega)).mono ?_; rintro e w3 ⟨A3, c3, p3, rfl, o3, b3, e3⟩; obtain ⟨hz3, hb3, bx3, br3, k3⟩ := clip_k2 hz2 hb2 bx2 br2 b3; have l3 := lst_len e3 g5 g6; have E3 := hide e3; clear e3)
      | (go_at_call_of 44 p3; refine (rsome_true A3 c3 p3 a b w3 o3.ats l3 (by omega) (by omega) (by omega)).mono ?_; rintro e w4 ⟨A4, c4, p4, rfl, o4, b4, e4⟩; obtain ⟨hz4, hb4, bx4, br4, k4⟩ := clip_k2 hz3 hb3 bx3 br3 b4; have E4 := hide e4; clear e4; have HLL := hide (sml_same E1.out E2.out E3.out E4.out))
      | (go_at_call 24; refine (sets_any A2 A4 c2 c4 p2 p4 lo w4 ((o2.ats.step b3).step b4) o4.ats HLL.out l2 (by omega) (by omega)).mono ?_; rintro e w5 ⟨A5, c5, x5, B5, d5, z5, rfl, ox5, oz5, b5, nx5, nz5, mx5, mz5⟩; obtain ⟨hz5, hb5, bx5, br5, k5⟩ := clip_k2 hz4 hb4 bx4 br4 b5; have MX5 := hide mx5; have MZ5 := hide mz5; clear mx5 mz5; have q1 := (box2 br5).1; have q2 := (box2 br5).2; have q3 := (box2_frozen br5).1; have q4 := (box2_frozen br5).2))
  obtain ⟨W3, hW3⟩ : ∃ W3 : World, (w5.setCell ⟨w.heap.size + 1, 0, none⟩ (.slice A5 x5.length c5)).setCell ⟨w.heap.size + 1, 1, none⟩ (.slice B5 z5.length d5) = W3 := ⟨_, rfl⟩
  obtain ⟨f1, f2, hb6, r1, r2⟩ := tr_end hb5 br5 ox5 hz4 (Below.refl _ _) oz5 hz4 hW3
  rw [hW3]
  clear hW3
  go_wp2_with fail
  have hn : (((hi - lo + 1).toNat : Nat) : Int) = hi - lo + 1 := by omega
  exact bodyPost_ret (v := .agg #[.slice A5 x5.length c5, .slice B5 z5.length d5]) (by simp [results, Try.results18, go_sem, f1, f2]) rfl ⟨A5, c5, x5, B5, d5, z5, rfl, r1, r2, hb6, nx5, nz5, fun t => by rw [MX5.out, E2.out, E1.out, someL_len, listOf_len, win_all_true HAL.out t _ hn], fun t => by rw [MZ5.out, E4.out, E3.out, someL_len, listOf_len, win_all_false HAL.out t _ hn]⟩

end Go.Proofs.Ytkbiefklilelmaa
