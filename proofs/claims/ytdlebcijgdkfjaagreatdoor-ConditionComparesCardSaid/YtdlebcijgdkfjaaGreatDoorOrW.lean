/-
  condition.Or.
-/
import Derived.Test.YtdlebcijgdkfjaaGreatDoorTwo
namespace Go.Proofs.YtdlebcijgdkfjaaGreatDoor
open Go.RowKit Go.Joins

set_option maxRecDepth 100000 in
set_option maxHeartbeats 4000000 in
theorem tor_any (A B A' B' : Option Addr) (c d c' d' : Nat) (xs zs xs' zs' : List Iv) (w : World) (hx : IvsAt w w.heap.size A xs) (hz : IvsAt w w.heap.size B zs) (hx' : IvsAt w w.heap.size A' xs') (hz' : IvsAt w w.heap.size B' zs')
    (lx : xs.length ≤ 4398046511104) (lz : zs.length ≤ 4398046511104) (lx' : xs'.length ≤ 4398046511104) (lz' : zs'.length ≤ 4398046511104) :
    Calls Tryz.prog 30 #[.agg #[.slice A xs.length c, .slice B zs.length d], .agg #[.slice A' xs'.length c', .slice B' zs'.length d']] w (RetTr w (fun t => Mem xs t ∨ Mem xs' t) (fun t => Mem zs t ∧ Mem zs' t)) := by
  go_enter Tryz.func30, Tryz.ntmps30
  go_wp2_with fail
  obtain ⟨W0, hW0⟩ : ∃ W0 : World, (((w.alloc (.cells #[.slice A xs.length c, .slice B zs.length d] 45)).alloc (.cells #[.slice A' xs'.length c', .slice B' zs'.length d'] 45)).alloc (.cells #[.slice none 0 0, .slice none 0 0] 45)) = W0 := ⟨_, rfl⟩
  have t0 := (Three.start hW0)
  rw [hW0]
  clear hW0
  have T0 := hide t0
  have k0 := (t0.drew).base
  clear t0
  have hb := T0.out.hb
  have hxW : IvsAt W0.drew W0.drew.heap.size A xs := (hx.below hb).more hb.size
  have hxW' : IvsAt W0.drew W0.drew.heap.size A' xs' := (hx'.below hb).more hb.size
  have hzW : IvsAt W0.drew W0.drew.heap.size B zs := (hz.below hb).more hb.size
  have hzW' : IvsAt W0.drew W0.drew.heap.size B' zs' := (hz'.below hb).more hb.size
  go_region_held3 (fun wx => wx.cell? ⟨w.heap.size, 0, none⟩ = some (.slice A xs.length c) ∧ wx.cell? ⟨w.heap.size, 1, none⟩ = some (.slice B zs.length d) ∧ wx.cell? ⟨w.heap.size + 1, 0, none⟩ = some (.slice A' xs'.length c') ∧ wx.cell? ⟨w.heap.size + 1, 1, none⟩ = some (.slice B' zs'.length d') ∧ Below w.heap.size w wx)
    (first | (with_reducible assumption) | exact k0 | exact T2.out.set2 _ _)
    (first
      | (go_at_call_of 72 xs; refine (union_any A A' c c' xs xs' W0.drew hxW hxW' lx lx').mono ?_; rintro e w1 ⟨A1, c1, y1, rfl, o1, b1, n1, m1⟩; have M1 := hide m1; clear m1; have b1' := bstep (w0 := W0) (w := W0.drew) (below_drew (Below.refl _ _)) b1; have t1 := T0.out.step b1'; have k1 := t1.base; have T1 := hide t1; clear t1)
      | (go_at_call_of 19 zs; refine (intersect_any B B' d d' zs zs' w1 (hzW.step b1) (hzW'.step b1) lz lz').mono ?_; rintro e w2 ⟨A2, c2, y2, rfl, o2, b2, n2, m2⟩; have M2 := hide m2; clear m2; have t2 := T1.out.step b2; have k2 := t2.base; obtain ⟨i5, i6⟩ := boxT2 t2.g2; obtain ⟨i7, i8⟩ := box2_frozen t2.g2; have T2 := hide t2; clear t2))
  obtain ⟨W3, hW3⟩ : ∃ W3 : World, (w2.setCell ⟨w.heap.size + 2, 0, none⟩ (.slice A1 y1.length c1)).setCell ⟨w.heap.size + 2, 1, none⟩ (.slice A2 y2.length c2) = W3 := ⟨_, rfl⟩
  obtain ⟨f1, f2, hb3, q1, q2⟩ := linked_end T2.out (own_below b2 (o1.lower hb.size)) (o2.lower T1.out.hb.size) hW3
  rw [hW3]
  clear hW3
  go_wp2_with fail
  exact bodyPost_ret (v := .agg #[.slice A1 y1.length c1, .slice A2 y2.length c2]) (by simp [results, Tryz.results30, go_sem, f1, f2]) rfl ⟨A1, c1, y1, A2, c2, y2, rfl, q1, q2, hb3, n1, n2, M1.out, M2.out⟩

end Go.Proofs.YtdlebcijgdkfjaaGreatDoor
