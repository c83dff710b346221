/-
  temporal.Some and All.
-/
import Derived.Test.YtkbiefklilelmaaTruth
namespace Go.Proofs.Ytkbiefklilelmaa
open Go.RowKit Go.Joins

theorem shrinkS_congr {S S' : Int → Prop} (h : ∀ t, S t ↔ S' t) (a b lo hi t : Int) : shrinkS S a b lo hi t ↔ shrinkS S' a b lo hi t := by
  unfold shrinkS complS growS; simp only [h]
theorem clip_k1' {w W0 w1 : World} {t : TypeId} {a b a' b' : Value} (hz0 : w.heap.size + 2 ≤ W0.heap.size) (hb0 : Below w.heap.size w W0) (bx : W0.heap[w.heap.size]? = some (.cells #[a, b] t (0, 0))) (br : W0.heap[w.heap.size + 1]? = some (.cells #[a', b'] t (0, 0)))
    (b1 : Below W0.drew.heap.size W0.drew w1) : w.heap.size + 2 ≤ w1.heap.size ∧ Below w.heap.size w w1 ∧ w1.heap[w.heap.size]? = some (.cells #[a, b] t (0, 0)) ∧ w1.heap[w.heap.size + 1]? = some (.cells #[a', b'] t (0, 0)) ∧
      (w1.cell? ⟨w.heap.size, 0, none⟩ = some a ∧ w1.cell? ⟨w.heap.size, 1, none⟩ = some b ∧ Below w.heap.size w w1) :=
  clip_k2 (W0 := W0.drew) hz0 (below_drew hb0) bx br b1

theorem some_k {w v0 V : World} {p c0 d0 : Nat} {A0 B0 : Option Addr} {x0 z0 : List Iv} {a b a' b' : Value} {t t' : TypeId} (hp : w.heap.size + 2 ≤ p) (hb : Below w.heap.size w v0) (hv : w.heap.size + 2 ≤ v0.heap.size) (bx : v0.heap[w.heap.size]? = some (.cells #[a, b] t (0, 0))) (br : v0.heap[w.heap.size + 1]? = some (.cells #[a', b'] t' (0, 0)))
    (ox : OwnIv v0 p A0 c0 x0) (oz : OwnIv v0 p B0 d0 z0) (hV : (v0.setCell ⟨w.heap.size, 0, none⟩ (.slice A0 x0.length c0)).setCell ⟨w.heap.size, 1, none⟩ (.slice B0 z0.length d0) = V) :
    Below w.heap.size w V ∧ w.heap.size + 2 ≤ V.heap.size ∧ V.heap[w.heap.size]? = some (.cells #[.slice A0 x0.length c0, .slice B0 z0.length d0] t (0, 0)) ∧ V.heap[w.heap.size + 1]? = some (.cells #[a', b'] t' (0, 0)) ∧ IvsAt V V.heap.size A0 x0 ∧ IvsAt V V.heap.size B0 z0 := by
  subst hV
  refine ⟨(hb.setCell (by simp) _).setCell (by simp) _, by simpa using hv, box2_set bx, ?_, OwnIv.ats (base := p) (c := c0) ?_, OwnIv.ats (base := p) (c := d0) ?_⟩
  · rw [Below.heap_setCell _ _ _ _ (by simp), Below.heap_setCell _ _ _ _ (by simp)]; exact br
  · exact ownsRow_setCell_below (ownsRow_setCell_below ox (by simp; omega) _) (by simp; omega) _
  · exact ownsRow_setCell_below (ownsRow_setCell_below oz (by simp; omega) _) (by simp; omega) _

set_option maxRecDepth 100000 in
theorem some_any (A B : Option Addr) (c d : Nat) (xs zs : List Iv) (a b lo hi : Int) (w : World) (hx : IvsAt w w.heap.size A xs) (hz : IvsAt w w.heap.size B zs) (lx : xs.length ≤ 4398046511104) (lz : zs.length ≤ 4398046511104) :
    Calls Try.prog 14 #[.agg #[.slice A xs.length c, .slice B zs.length d], .int .i64 a, .int .i64 b, .int .i64 lo, .int .i64 hi] w (RetTr w (someS (Mem xs) a b lo hi) (allS (Mem zs) a b lo hi)) := by
  go_enter Try.func14, Try.ntmps14
  go_wp2_with fail
  refine (allowed_any (-1099511627776) a b lo hi _).mono ?_
  rintro e w' ⟨rfl, rfl⟩
  cases hd : alwB (-1099511627776) a b lo hi
  · have HD := hide hd
    clear hd
    go_wp2_with fail
    exact bodyPost_ret (v := .agg #[.slice none 0 0, .slice none 0 0]) (by simp [results, Try.results14, go_sem]) rfl ⟨none, 0, [], none, 0, [], rfl, OwnIv.nil _ _, OwnIv.nil _ _, ((Below.refl _ _).alloc (Nat.le_refl _) _).alloc (by simp) _, Norm.nil, Norm.nil, fun t => by simp [mem_nil, someS, HD.out], fun t => by simp [mem_nil, allS, HD.out]⟩
  · have HD := hide hd
    clear hd
    go_wp2_with fail
    obtain ⟨W0, hW0⟩ : ∃ W0 : World, ((w.alloc (.cells #[.slice A xs.length c, .slice B zs.length d] 24)).alloc (.cells #[.slice none 0 0, .slice none 0 0] 24)) = W0 := ⟨_, rfl⟩
    obtain ⟨hb0, hz0, bx, br⟩ := two_boxes hW0
    rw [hW0]
    clear hW0
    refine (tclip_any A B c d xs zs lo hi W0 ((hx.below hb0).more hb0.size) ((hz.below hb0).more hb0.size) lx lz).mono ?_
    rintro e v0 ⟨A0, c0, x0, B0, d0, z0, rfl, ox, oz, b0, nx0, nz0, mx0, mz0⟩
    have MX := hide mx0
    have MZ := hide mz0
    clear mx0 mz0
    have kx := norm_len nx0
    have kz := norm_len nz0
    obtain ⟨hv0, hbv, bxv, brv, _⟩ := clip_k2 (Nat.le_of_eq hz0.symm) hb0 bx br b0
    have q1 := (box2 bxv).1
    have q2 := (box2 bxv).2
    have q3 := (box2_frozen bxv).1
    have q4 := (box2_frozen bxv).2
    go_wp2_with fail
    obtain ⟨V, hV⟩ : ∃ V : World, (v0.setCell ⟨w.heap.size, 0, none⟩ (.slice A0 x0.length c0)).setCell ⟨w.heap.size, 1, none⟩ (.slice B0 z0.length d0) = V := ⟨_, rfl⟩
    obtain ⟨hbV, hzV, bxV, brV, rx, rz⟩ := some_k (Nat.le_of_eq hz0.symm) hbv hv0 bxv brv ox oz hV
    rw [hV]
    clear hV q1 q2 q3 q4 bxv brv hbv hv0 b0 ox oz bx br hb0 hz0
    go_region_held3 (fun wx => wx.cell? ⟨w.heap.size, 0, none⟩ = some (.slice A0 x0.length c0) ∧ wx.cell? ⟨w.heap.size, 1, none⟩ = some (.slice B0 z0.length d0) ∧ Below w.heap.size w wx)
      (first | assumption | exact ⟨(box2 bxV).1, (box2 bxV).2, below_drew hbV⟩ | exact clip_k3 hb2 bx2)
      (first
        | (go_at_call_of 42 x0; refine (grow_any A0 c0 x0 a b lo hi V.drew rx (by omega)).mono ?_; rintro e w1 ⟨A1, c1, y1, rfl, o1, b1, n1, m1⟩; obtain ⟨hz1, hb1, bx1, br1, k1⟩ := clip_k1' hzV hbV bxV brV b1; have M1 := hide m1; clear m1)
        | (go_at_call_of 43 z0; refine (shrink_any B0 d0 z0 a b lo hi w1 (IvsAt.step (w := V.drew) rz b1) (by omega)).mono ?_; rintro e w2 ⟨A2, c2, y2, rfl, o2, b2, n2, m2⟩; obtain ⟨hz2, hb2, bx2, br2, k2⟩ := clip_k2 hz1 hb1 bx1 br1 b2; have M2 := hide m2; clear m2; have q1 := (box2 br2).1; have q2 := (box2 br2).2; have q3 := (box2_frozen br2).1; have q4 := (box2_frozen br2).2))
    obtain ⟨W3, hW3⟩ : ∃ W3 : World, (w2.setCell ⟨w.heap.size + 1, 0, none⟩ (.slice A1 y1.length c1)).setCell ⟨w.heap.size + 1, 1, none⟩ (.slice A2 y2.length c2) = W3 := ⟨_, rfl⟩
    obtain ⟨f1, f2, hb3, r1, r2⟩ := tr_end hb2 br2 o1 hzV b2 o2 hz1 hW3
    rw [hW3]
    clear hW3
    go_wp2_with fail
    exact bodyPost_ret (v := .agg #[.slice A1 y1.length c1, .slice A2 y2.length c2]) (by simp [results, Try.results14, go_sem, f1, f2]) rfl ⟨A1, c1, y1, A2, c2, y2, rfl, r1, r2, hb3, n1, n2, fun t => by rw [M1.out, growS_congr MX.out, someS_grow HD.out], fun t => by rw [M2.out, shrinkS_congr MZ.out, allS_shrink HD.out]⟩

end Go.Proofs.Ytkbiefklilelmaa
