/-
  wavestoreref51.Same: true of the normal lists of one pair of sets.
-/
import Derived.Test.YtdlebcijgdkfjaaGreatDoorTwo
namespace Go.Proofs.YtdlebcijgdkfjaaGreatDoor
open Go.RowKit Go.Joins

set_option maxRecDepth 100000 in
theorem tsame_true (A B A' B' : Option Addr) (c d c' d' : Nat) (xs zs xs' zs' : List Iv) (w : World) (hx : IvsAt w w.heap.size A xs) (hz : IvsAt w w.heap.size B zs) (hx' : IvsAt w w.heap.size A' xs') (hz' : IvsAt w w.heap.size B' zs')
    (nx : Norm xs) (nz : Norm zs) (nx' : Norm xs') (nz' : Norm zs') (mx : ∀ t, Mem xs t ↔ Mem xs' t) (mz : ∀ t, Mem zs t ↔ Mem zs' t) :
    Calls Tryz.prog 18 #[.agg #[.slice A xs.length c, .slice B zs.length d], .agg #[.slice A' xs'.length c', .slice B' zs'.length d']] w fun e w' => e = .returned (.bool true) ∧ Below w.heap.size w w' := by
  have MX := hide mx
  have MZ := hide mz
  clear mx mz
  go_enter Tryz.func18, Tryz.ntmps18
  go_wp2_with fail
  obtain ⟨W0, hW0⟩ : ∃ W0 : World, ((w.alloc (.cells #[.slice A xs.length c, .slice B zs.length d] 45)).alloc (.cells #[.slice A' xs'.length c', .slice B' zs'.length d'] 45)) = W0 := ⟨_, rfl⟩
  obtain ⟨hb0, hz0, bx, br⟩ := two_boxes hW0
  rw [hW0]
  clear hW0
  refine (sameR_true A A' c c' xs xs' W0 ((hx.below hb0).more hb0.size) ((hx'.below hb0).more hb0.size) nx nx' MX.out).mono ?_
  rintro e w1 ⟨rfl, b1⟩
  obtain ⟨hz1, hb1, bx1, br1, _⟩ := clip_k2 (Nat.le_of_eq hz0.symm) hb0 bx br b1
  have q1 := (boxT2 bx1).2
  have q2 := (boxT2 br1).2
  go_wp2_with fail
  refine (sameR_true B B' d d' zs zs' w1 ((hz.below hb1).more hb1.size) ((hz'.below hb1).more hb1.size) nz nz' MZ.out).mono ?_
  rintro e w2 ⟨rfl, b2⟩
  go_wp2_with fail
  go_ret
  exact ⟨rfl, bstep hb1 b2⟩

end Go.Proofs.YtdlebcijgdkfjaaGreatDoor
