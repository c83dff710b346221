/-
  temporal.Until and Since.
-/
import Derived.Test.YtkbiefklilelmaaLinked
namespace Go.Proofs.Ytkbiefklilelmaa
open Go.RowKit Go.Joins

set_option maxRecDepth 100000 in
theorem until_any (A B A' B' : Option Addr) (c d c' d' : Nat) (xs zs xs' zs' : List Iv) (a b lo hi : Int) (w : World) (hx : IvsAt w w.heap.size A xs) (hz : IvsAt w w.heap.size B zs) (hx' : IvsAt w w.heap.size A' xs') (hz' : IvsAt w w.heap.size B' zs')
    (lx : xs.length ≤ 4398046511104) (lz : zs.length ≤ 4398046511104) (lx' : xs'.length ≤ 4398046511104) (lz' : zs'.length ≤ 4398046511104) :
    Calls Try.prog 21 #[.agg #[.slice A xs.length c, .slice B zs.length d], .agg #[.slice A' xs'.length c', .slice B' zs'.length d'], .int .i64 a, .int .i64 b, .int .i64 lo, .int .i64 hi] w (RetTr w (linkS (Mem xs) (Mem xs') a b lo hi false) (unlinkS (Mem zs) (Mem zs') a b lo hi false)) := by
  go_enter Try.func21, Try.ntmps21
  go_wp2_with fail
  obtain ⟨W0, hW0⟩ : ∃ W0 : World, (((w.alloc (.cells #[.slice A xs.length c, .slice B zs.length d] 24)).alloc (.cells #[.slice A' xs'.length c', .slice B' zs'.length d'] 24)).alloc (.cells #[.slice none 0 0, .slice none 0 0] 24)) = W0 := ⟨_, rfl⟩
  have t0 := (Three.start hW0)
  rw [hW0]
  clear hW0
  have T0 := hide t0
  clear t0
  have hb := T0.out.hb
  refine (linked_any A B A' B' c d c' d' xs zs xs' zs' a b lo hi false W0 ((hx.below hb).more hb.size) ((hz.below hb).more hb.size) ((hx'.below hb).more hb.size) ((hz'.below hb).more hb.size) lx lz lx' lz').mono ?_
  rintro e w1 ⟨A1, c1, x1, B1, d1, z1, rfl, ox1, oz1, b1, nx1, nz1, mx1, mz1⟩
  have MX1 := hide mx1
  have MZ1 := hide mz1
  clear mx1 mz1
  have t1 := T0.out.step b1
  obtain ⟨i5, i6⟩ := box2 t1.g2
  obtain ⟨i7, i8⟩ := box2_frozen t1.g2
  have T1 := hide t1
  clear t1
  go_wp2_with fail
  obtain ⟨W3, hW3⟩ : ∃ W3 : World, (w1.setCell ⟨w.heap.size + 2, 0, none⟩ (.slice A1 x1.length c1)).setCell ⟨w.heap.size + 2, 1, none⟩ (.slice B1 z1.length d1) = W3 := ⟨_, rfl⟩
  obtain ⟨f1, f2, hb3, q1, q2⟩ := linked_end T1.out (ox1.lower hb.size) (oz1.lower hb.size) hW3
  rw [hW3]
  clear hW3
  exact bodyPost_ret (v := .agg #[.slice A1 x1.length c1, .slice B1 z1.length d1]) (by simp [results, Try.results21, go_sem, f1, f2]) rfl ⟨A1, c1, x1, B1, d1, z1, rfl, q1, q2, hb3, nx1, nz1, MX1.out, MZ1.out⟩

set_option maxRecDepth 100000 in
theorem since_any (A B A' B' : Option Addr) (c d c' d' : Nat) (xs zs xs' zs' : List Iv) (a b lo hi : Int) (w : World) (hx : IvsAt w w.heap.size A xs) (hz : IvsAt w w.heap.size B zs) (hx' : IvsAt w w.heap.size A' xs') (hz' : IvsAt w w.heap.size B' zs')
    (lx : xs.length ≤ 4398046511104) (lz : zs.length ≤ 4398046511104) (lx' : xs'.length ≤ 4398046511104) (lz' : zs'.length ≤ 4398046511104) :
    Calls Try.prog 22 #[.agg #[.slice A xs.length c, .slice B zs.length d], .agg #[.slice A' xs'.length c', .slice B' zs'.length d'], .int .i64 a, .int .i64 b, .int .i64 lo, .int .i64 hi] w (RetTr w (linkS (Mem xs) (Mem xs') a b lo hi true) (unlinkS (Mem zs) (Mem zs') a b lo hi true)) := by
  go_enter Try.func22, Try.ntmps22
  go_wp2_with fail
  obtain ⟨W0, hW0⟩ : ∃ W0 : World, (((w.alloc (.cells #[.slice A xs.length c, .slice B zs.length d] 24)).alloc (.cells #[.slice A' xs'.length c', .slice B' zs'.length d'] 24)).alloc (.cells #[.slice none 0 0, .slice none 0 0] 24)) = W0 := ⟨_, rfl⟩
  have t0 := (Three.start hW0)
  rw [hW0]
  clear hW0
  have T0 := hide t0
  clear t0
  have hb := T0.out.hb
  refine (linked_any A B A' B' c d c' d' xs zs xs' zs' a b lo hi true W0 ((hx.below hb).more hb.size) ((hz.below hb).more hb.size) ((hx'.below hb).more hb.size) ((hz'.below hb).more hb.size) lx lz lx' lz').mono ?_
  rintro e w1 ⟨A1, c1, x1, B1, d1, z1, rfl, ox1, oz1, b1, nx1, nz1, mx1, mz1⟩
  have MX1 := hide mx1
  have MZ1 := hide mz1
  clear mx1 mz1
  have t1 := T0.out.step b1
  obtain ⟨i5, i6⟩ := box2 t1.g2
  obtain ⟨i7, i8⟩ := box2_frozen t1.g2
  have T1 := hide t1
  clear t1
  go_wp2_with fail
  obtain ⟨W3, hW3⟩ : ∃ W3 : World, (w1.setCell ⟨w.heap.size + 2, 0, none⟩ (.slice A1 x1.length c1)).setCell ⟨w.heap.size + 2, 1, none⟩ (.slice B1 z1.length d1) = W3 := ⟨_, rfl⟩
  obtain ⟨f1, f2, hb3, q1, q2⟩ := linked_end T1.out (ox1.lower hb.size) (oz1.lower hb.size) hW3
  rw [hW3]
  clear hW3
  exact bodyPost_ret (v := .agg #[.slice A1 x1.length c1, .slice B1 z1.length d1]) (by simp [results, Try.results22, go_sem, f1, f2]) rfl ⟨A1, c1, x1, B1, d1, z1, rfl, q1, q2, hb3, nx1, nz1, MX1.out, MZ1.out⟩

end Go.Proofs.Ytkbiefklilelmaa
