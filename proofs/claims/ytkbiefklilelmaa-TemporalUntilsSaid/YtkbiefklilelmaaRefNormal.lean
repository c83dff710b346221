/-
  The reference's Combine by its three rules, and Normal.
-/
import Derived.Test.YtkbiefklilelmaaRefCombine
import Derived.Test.YtkbiefklilelmaaOps
namespace Go.Proofs.Ytkbiefklilelmaa
open Go.RowKit Go.Joins

theorem rl_either (x y : Bool) : rl 0 x y = (x || y) := rfl
theorem rl_both (x y : Bool) : rl 1 x y = (x && y) := rfl
theorem rl_first (x y : Bool) : rl 2 x y = (x && !y) := rfl

theorem refEither_any (A B : Option Addr) (c d : Nat) (a b : List Iv) (w : World) (ha : IvsAt w w.heap.size A a) (hb : IvsAt w w.heap.size B b) (hla : a.length ≤ 1000000000000) (hlb : b.length ≤ 1000000000000) :
    Calls Try.prog 72 #[.slice A a.length c, .slice B b.length d, .int .i64 0] w (RetIvs w fun t => Mem a t ∨ Mem b t) :=
  (refCombine_any 0 (.inl rfl) A B c d a b w ha hb hla hlb).mono fun _ _ h => h.congr fun t => by
    rw [rl_either, Bool.or_eq_true, memT_iff, memT_iff]
    exact ⟨fun h => h.2.2, fun h => h.elim (fun h => ⟨h.1, h.2.1, .inl h⟩) (fun h => ⟨h.1, h.2.1, .inr h⟩)⟩
theorem refBoth_any (A B : Option Addr) (c d : Nat) (a b : List Iv) (w : World) (ha : IvsAt w w.heap.size A a) (hb : IvsAt w w.heap.size B b) (hla : a.length ≤ 1000000000000) (hlb : b.length ≤ 1000000000000) :
    Calls Try.prog 72 #[.slice A a.length c, .slice B b.length d, .int .i64 1] w (RetIvs w fun t => Mem a t ∧ Mem b t) :=
  (refCombine_any 1 (.inr (.inl rfl)) A B c d a b w ha hb hla hlb).mono fun _ _ h => h.congr fun t => by
    rw [rl_both, Bool.and_eq_true, memT_iff, memT_iff]
    exact ⟨fun h => h.2.2, fun h => ⟨h.1.1, h.1.2.1, h⟩⟩
theorem refFirst_any (A B : Option Addr) (c d : Nat) (a b : List Iv) (w : World) (ha : IvsAt w w.heap.size A a) (hb : IvsAt w w.heap.size B b) (hla : a.length ≤ 1000000000000) (hlb : b.length ≤ 1000000000000) :
    Calls Try.prog 72 #[.slice A a.length c, .slice B b.length d, .int .i64 2] w (RetIvs w fun t => Mem a t ∧ ¬ Mem b t) :=
  (refCombine_any 2 (.inr (.inr rfl)) A B c d a b w ha hb hla hlb).mono fun _ _ h => h.congr fun t => by
    rw [rl_first, Bool.and_eq_true, memT_iff, Bool.not_eq_true', Bool.eq_false_iff, Ne, memT_iff]
    exact ⟨fun h => h.2.2, fun h => ⟨h.1.1, h.1.2.1, h⟩⟩

theorem refNormal_any (A : Option Addr) (c : Nat) (xs : List Iv) (w : World) (h : IvsAt w w.heap.size A xs) (hl : xs.length ≤ 1000000000000) :
    Calls Try.prog 50 #[.slice A xs.length c] w (RetIvs w (Mem xs)) := by
  go_enter Try.func50, Try.ntmps50
  go_wp2_with fail
  refine (refEither_any A none c 0 xs [] _ h IvsAt.nil hl (by simp)).mono ?_
  rintro e w1 ⟨A1, c1, ys, rfl, hown, hb, hn, hm⟩
  go_wp2_with fail
  go_ret
  exact ⟨A1, c1, ys, rfl, hown, hb, hn, fun t => by rw [hm]; simp [mem_nil]⟩

end Go.Proofs.Ytkbiefklilelmaa
