/-
  intervals.Union, Intersect: the sets of their results.
-/
import Derived.Test.YtdlebcijgdkfjaaGreatDoorCombine
namespace Go.Proofs.YtdlebcijgdkfjaaGreatDoor
open Go.RowKit Go.Joins

theorem RetIvs.congr {w : World} {S S' : Int → Prop} {e : Ending} {w' : World} (h : RetIvs w S e w') (hs : ∀ t, S t ↔ S' t) : RetIvs w S' e w' := by
  obtain ⟨A, c, ys, h1, h2, h3, h4, h5⟩ := h
  exact ⟨A, c, ys, h1, h2, h3, h4, fun t => (h5 t).trans (hs t)⟩

theorem union_any (A B : Option Addr) (c d : Nat) (a b : List Iv) (w : World) (ha : IvsAt w w.heap.size A a) (hb : IvsAt w w.heap.size B b) (hla : a.length ≤ 4398046511104) (hlb : b.length ≤ 4398046511104) :
    Calls Tryz.prog 72 #[.slice A a.length c, .slice B b.length d] w (RetIvs w fun t => Mem a t ∨ Mem b t) := by
  go_enter Tryz.func72, Tryz.ntmps72
  go_wp2_with fail
  refine (combine_any 117 (enters_of Tryz.func117 (by kernel_rfl) rfl) _ union_rule rfl A B c d a b _ ha hb hla hlb).mono ?_
  rintro e w1 ⟨A1, c1, ys, rfl, hown, hb, hn, hm⟩
  go_wp2_with fail
  go_ret
  exact ⟨A1, c1, ys, rfl, hown, hb, hn, fun t => by rw [hm, Bool.or_eq_true, memT_iff, memT_iff]⟩

theorem intersect_any (A B : Option Addr) (c d : Nat) (a b : List Iv) (w : World) (ha : IvsAt w w.heap.size A a) (hb : IvsAt w w.heap.size B b) (hla : a.length ≤ 4398046511104) (hlb : b.length ≤ 4398046511104) :
    Calls Tryz.prog 19 #[.slice A a.length c, .slice B b.length d] w (RetIvs w fun t => Mem a t ∧ Mem b t) := by
  go_enter Tryz.func19, Tryz.ntmps19
  go_wp2_with fail
  refine (combine_any 64 (enters_of Tryz.func64 (by kernel_rfl) rfl) _ intersect_rule rfl A B c d a b _ ha hb hla hlb).mono ?_
  rintro e w1 ⟨A1, c1, ys, rfl, hown, hb, hn, hm⟩
  go_wp2_with fail
  go_ret
  exact ⟨A1, c1, ys, rfl, hown, hb, hn, fun t => by rw [hm, Bool.and_eq_true, memT_iff, memT_iff]⟩

end Go.Proofs.YtdlebcijgdkfjaaGreatDoor
