/-
  temporal.All, wavestoreref51.Few and Same.
-/
import Derived.Test.YtkbiefklilelmaaSome
namespace Go.Proofs.Ytkbiefklilelmaa
open Go.RowKit Go.Joins

set_option maxRecDepth 100000 in
theorem all_any (A B : Option Addr) (c d : Nat) (xs zs : List Iv) (a b lo hi : Int) (w : World) (hx : IvsAt w w.heap.size A xs) (hz : IvsAt w w.heap.size B zs) (lx : xs.length ≤ 4398046511104) (lz : zs.length ≤ 4398046511104) :
    Calls Try.prog 15 #[.agg #[.slice A xs.length c, .slice B zs.length d], .int .i64 a, .int .i64 b, .int .i64 lo, .int .i64 hi] w (RetTr w (allS (Mem xs) a b lo hi) (someS (Mem zs) a b lo hi)) := by
  go_enter Try.func15, Try.ntmps15
  go_wp2_with fail
  obtain ⟨W0, hW0⟩ : ∃ W0 : World, ((w.alloc (.cells #[.slice A xs.length c, .slice B zs.length d] 24)).alloc (.cells #[.slice none 0 0, .slice none 0 0] 24)) = W0 := ⟨_, rfl⟩
  obtain ⟨hb0, hz0, bx, br⟩ := two_boxes hW0
  rw [hW0]
  clear hW0
  refine (tnot_any A B c d xs zs W0 ((hx.below hb0).more hb0.size) ((hz.below hb0).more hb0.size) lx lz).mono ?_
  rintro e w1 ⟨A1, c1, x1, B1, d1, z1, rfl, ox1, oz1, b1, nx1, nz1, mx1, mz1⟩
  have MX1 := hide mx1
  have MZ1 := hide mz1
  clear mx1 mz1
  have kx1 := norm_len nx1
  have kz1 := norm_len nz1
  obtain ⟨hz1, hb1, bx1, br1, _⟩ := clip_k2 (Nat.le_of_eq hz0.symm) hb0 bx br b1
  go_wp2_with fail
  refine (some_any A1 B1 c1 d1 x1 z1 a b lo hi w1 ox1.ats oz1.ats (by omega) (by omega)).mono ?_
  rintro e w2 ⟨A2, c2, x2, B2, d2, z2, rfl, ox2, oz2, b2, nx2, nz2, mx2, mz2⟩
  have MX2 := hide mx2
  have MZ2 := hide mz2
  clear mx2 mz2
  have kx2 := norm_len nx2
  have kz2 := norm_len nz2
  obtain ⟨hz2, hb2, bx2, br2, _⟩ := clip_k2 hz1 hb1 bx1 br1 b2
  go_wp2_with fail
  refine (tnot_any A2 B2 c2 d2 x2 z2 w2 ox2.ats oz2.ats (by omega) (by omega)).mono ?_
  rintro e w3 ⟨A3, c3, x3, B3, d3, z3, rfl, ox3, oz3, b3, nx3, nz3, mx3, mz3⟩
  have MX3 := hide mx3
  have MZ3 := hide mz3
  clear mx3 mz3
  obtain ⟨hz3, hb3, bx3, br3, _⟩ := clip_k2 hz2 hb2 bx2 br2 b3
  have q1 := (box2 br3).1
  have q2 := (box2 br3).2
  have q3 := (box2_frozen br3).1
  have q4 := (box2_frozen br3).2
  go_wp2_with fail
  obtain ⟨W3, hW3⟩ : ∃ W3 : World, (w3.setCell ⟨w.heap.size + 1, 0, none⟩ (.slice A3 x3.length c3)).setCell ⟨w.heap.size + 1, 1, none⟩ (.slice B3 z3.length d3) = W3 := ⟨_, rfl⟩
  obtain ⟨f1, f2, hb4, r1, r2⟩ := tr_end hb3 br3 ox3 hz2 (Below.refl _ _) oz3 hz2 hW3
  rw [hW3]
  clear hW3
  exact bodyPost_ret (v := .agg #[.slice A3 x3.length c3, .slice B3 z3.length d3]) (by simp [results, Try.results15, go_sem, f1, f2]) rfl ⟨A3, c3, x3, B3, d3, z3, rfl, r1, r2, hb4, nx3, nz3, fun t => by rw [MX3.out, MZ2.out, allS_congr MZ1.out], fun t => by rw [MZ3.out, MX2.out, someS_congr MX1.out]⟩

theorem tsame_true (A B A' B' : Option Addr) (c d c' d' : Nat) (xs zs xs' zs' : List Iv) (w : World) (hx : IvsAt w w.heap.size A xs) (hz : IvsAt w w.heap.size B zs) (hx' : IvsAt w w.heap.size A' xs') (hz' : IvsAt w w.heap.size B' zs')
    (nx : Norm xs) (nz : Norm zs) (nx' : Norm xs') (nz' : Norm zs') (mx : ∀ t, Mem xs t ↔ Mem xs' t) (mz : ∀ t, Mem zs t ↔ Mem zs' t) :
    Calls Try.prog 17 #[.agg #[.slice A xs.length c, .slice B zs.length d], .agg #[.slice A' xs'.length c', .slice B' zs'.length d']] w fun e w' => e = .returned (.bool true) ∧ Below w.heap.size w w' := by
  have MX := hide mx
  have MZ := hide mz
  clear mx mz
  go_enter Try.func17, Try.ntmps17
  go_wp2_with fail
  obtain ⟨W0, hW0⟩ : ∃ W0 : World, ((w.alloc (.cells #[.slice A xs.length c, .slice B zs.length d] 24)).alloc (.cells #[.slice A' xs'.length c', .slice B' zs'.length d'] 24)) = W0 := ⟨_, rfl⟩
  obtain ⟨hb0, hz0, bx, br⟩ := two_boxes hW0
  rw [hW0]
  clear hW0
  refine (sameR_true A A' c c' xs xs' W0 ((hx.below hb0).more hb0.size) ((hx'.below hb0).more hb0.size) nx nx' MX.out).mono ?_
  rintro e w1 ⟨rfl, b1⟩
  obtain ⟨hz1, hb1, bx1, br1, _⟩ := clip_k2 (Nat.le_of_eq hz0.symm) hb0 bx br b1
  have q1 := (box2 bx1).2
  have q2 := (box2 br1).2
  go_wp2_with fail
  refine (sameR_true B B' d d' zs zs' w1 ((hz.below hb1).more hb1.size) ((hz'.below hb1).more hb1.size) nz nz' MZ.out).mono ?_
  rintro e w2 ⟨rfl, b2⟩
  go_wp2_with fail
  go_ret
  exact ⟨rfl, bstep hb1 b2⟩

def fewT (n m : Nat) : Bool := decide (n ≤ 24 ∧ m ≤ 24)
theorem fewT_iff {n m : Nat} : fewT n m = true ↔ n ≤ 24 ∧ m ≤ 24 := by simp [fewT]
theorem tfew_any (A B : Option Addr) (c d n m : Nat) (w : World) :
    Calls Try.prog 12 #[.agg #[.slice A n c, .slice B m d]] w fun e w' => e = .returned (.bool (fewT n m)) ∧ Below w.heap.size w w' := by
  have hb : Below w.heap.size w (w.alloc (.cells #[.slice A n c, .slice B m d] 24)) := (Below.refl _ _).alloc (Nat.le_refl _) _
  by_cases h1 : n ≤ 24
  · have d1 : decide ((n : Int) ≤ 24) = true := decide_eq_true (by omega)
    by_cases h2 : m ≤ 24
    · have HD := hide (fewT_iff.2 ⟨h1, h2⟩)
      have d2 : decide ((m : Int) ≤ 24) = true := decide_eq_true (by omega)
      go_enter Try.func12, Try.ntmps12
      go_wp2
      go_ret
      exact ⟨by rw [HD.out]; rfl, hb⟩
    · have HD := hide (show fewT n m = false from decide_eq_false (fun h => h2 h.2))
      have d2 : decide ((m : Int) ≤ 24) = false := decide_eq_false (by omega)
      go_enter Try.func12, Try.ntmps12
      go_wp2
      go_ret
      exact ⟨by rw [HD.out]; rfl, hb⟩
  · have HD := hide (show fewT n m = false from decide_eq_false (fun h => h1 h.1))
    have d1 : decide ((n : Int) ≤ 24) = false := decide_eq_false (by omega)
    go_enter Try.func12, Try.ntmps12
    go_wp2
    go_ret
    exact ⟨by rw [HD.out]; rfl, hb⟩

end Go.Proofs.Ytkbiefklilelmaa
