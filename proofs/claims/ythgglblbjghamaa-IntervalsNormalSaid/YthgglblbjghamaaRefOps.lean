/-
  The reference's Normal, Range, Clip, Complement, delays, Grow, Shrink and Shift: the sets of their results.
-/
import Derived.Test.YthgglblbjghamaaRefCombine
import Derived.Test.YthgglblbjghamaaOps
namespace Go.Proofs.Ythgglblbjghamaa
open Go.RowKit Go.Joins

theorem rl_either (x y : Bool) : rl 0 x y = (x || y) := rfl
theorem rl_both (x y : Bool) : rl 1 x y = (x && y) := rfl
theorem rl_first (x y : Bool) : rl 2 x y = (x && !y) := rfl

theorem refEither_any (A B : Option Addr) (c d : Nat) (a b : List Iv) (w : World) (ha : IvsAt w w.heap.size A a) (hb : IvsAt w w.heap.size B b) (hla : a.length ≤ 1000000000000) (hlb : b.length ≤ 1000000000000) :
    Calls Try.prog 19 #[.slice A a.length c, .slice B b.length d, .int .i64 0] w (RetIvs w fun t => Mem a t ∨ Mem b t) :=
  (refCombine_any 0 (.inl rfl) A B c d a b w ha hb hla hlb).mono fun _ _ h => h.congr fun t => by
    rw [rl_either, Bool.or_eq_true, memT_iff, memT_iff]
    exact ⟨fun h => h.2.2, fun h => h.elim (fun h => ⟨h.1, h.2.1, .inl h⟩) (fun h => ⟨h.1, h.2.1, .inr h⟩)⟩
theorem refBoth_any (A B : Option Addr) (c d : Nat) (a b : List Iv) (w : World) (ha : IvsAt w w.heap.size A a) (hb : IvsAt w w.heap.size B b) (hla : a.length ≤ 1000000000000) (hlb : b.length ≤ 1000000000000) :
    Calls Try.prog 19 #[.slice A a.length c, .slice B b.length d, .int .i64 1] w (RetIvs w fun t => Mem a t ∧ Mem b t) :=
  (refCombine_any 1 (.inr (.inl rfl)) A B c d a b w ha hb hla hlb).mono fun _ _ h => h.congr fun t => by
    rw [rl_both, Bool.and_eq_true, memT_iff, memT_iff]
    exact ⟨fun h => h.2.2, fun h => ⟨h.1.1, h.1.2.1, h⟩⟩
theorem refFirst_any (A B : Option Addr) (c d : Nat) (a b : List Iv) (w : World) (ha : IvsAt w w.heap.size A a) (hb : IvsAt w w.heap.size B b) (hla : a.length ≤ 1000000000000) (hlb : b.length ≤ 1000000000000) :
    Calls Try.prog 19 #[.slice A a.length c, .slice B b.length d, .int .i64 2] w (RetIvs w fun t => Mem a t ∧ ¬ Mem b t) :=
  (refCombine_any 2 (.inr (.inr rfl)) A B c d a b w ha hb hla hlb).mono fun _ _ h => h.congr fun t => by
    rw [rl_first, Bool.and_eq_true, memT_iff, Bool.not_eq_true', Bool.eq_false_iff, Ne, memT_iff]
    exact ⟨fun h => h.2.2, fun h => ⟨h.1.1, h.1.2.1, h⟩⟩

theorem refNormal_any (A : Option Addr) (c : Nat) (xs : List Iv) (w : World) (h : IvsAt w w.heap.size A xs) (hl : xs.length ≤ 1000000000000) :
    Calls Try.prog 32 #[.slice A xs.length c] w (RetIvs w (Mem xs)) := by
  go_enter Try.func32, Try.ntmps32
  go_wp2_with fail
  refine (refEither_any A none c 0 xs [] _ h IvsAt.nil hl (by simp)).mono ?_
  rintro e w1 ⟨A1, c1, ys, rfl, hown, hb, hn, hm⟩
  go_wp2_with fail
  go_ret
  exact ⟨A1, c1, ys, rfl, hown, hb, hn, fun t => by rw [hm]; simp [mem_nil]⟩

theorem refRange_any (lo hi : Int) (w : World) : Calls Try.prog 56 #[.int .i64 lo, .int .i64 hi] w (RetIvs w (Mem [(lo, hi)])) := by
  go_enter Try.func56, Try.ntmps56
  go_wp2_with fail
  have hb0 : Below w.heap.size w (w.alloc (.cells #[.int .i64 lo, .int .i64 hi] 52)) := (Below.refl _ _).alloc (Nat.le_refl _) _
  refine (refNormal_any (some ⟨w.heap.size, 0, none⟩) 1 [(lo, hi)] _ ivsAt_new (by simp)).mono ?_
  rintro e w1 ⟨A1, c1, ys, rfl, hown, hb, hn, hm⟩
  go_wp2_with fail
  go_ret
  exact ⟨A1, c1, ys, rfl, hown.lower hb0.size, bstep hb0 hb, hn, hm⟩

theorem refClip_any (A : Option Addr) (c : Nat) (xs : List Iv) (lo hi : Int) (w : World) (h : IvsAt w w.heap.size A xs) (hl : xs.length ≤ 1000000000000) :
    Calls Try.prog 22 #[.slice A xs.length c, .int .i64 lo, .int .i64 hi] w (RetIvs w fun t => lo ≤ t ∧ t ≤ hi ∧ Mem xs t) := by
  go_enter Try.func22, Try.ntmps22
  go_wp2_with fail
  refine (refRange_any lo hi _).mono ?_
  rintro e w1 ⟨A1, c1, ys, rfl, hown, hb, hn, hm⟩
  have HM := hide hm
  clear hm
  go_wp2_with fail
  refine (refBoth_any A A1 c c1 xs ys _ (h.step hb) hown.ats hl (by have := norm_len hn; omega)).mono ?_
  rintro e w2 ⟨A2, c2, zs, rfl, hown2, hb2, hn2, hm2⟩
  have HM2 := hide hm2
  clear hm2
  go_wp2_with fail
  go_ret
  refine ⟨A2, c2, zs, rfl, hown2.lower hb.size, bstep hb hb2, hn2, fun t => ?_⟩
  rw [HM2.out, HM.out, mem_one]
  simp only
  constructor
  · rintro ⟨h1, h2⟩; exact ⟨by omega, by omega, h1⟩
  · rintro ⟨h1, h2, h3⟩; have := mem_bounds h3; exact ⟨h3, by omega⟩

theorem refComplement_any (A : Option Addr) (c : Nat) (xs : List Iv) (lo hi : Int) (w : World) (h : IvsAt w w.heap.size A xs) (hl : xs.length ≤ 1000000000000) :
    Calls Try.prog 23 #[.slice A xs.length c, .int .i64 lo, .int .i64 hi] w (RetIvs w (complS (Mem xs) lo hi)) := by
  go_enter Try.func23, Try.ntmps23
  go_wp2_with fail
  refine (refRange_any lo hi _).mono ?_
  rintro e w1 ⟨A1, c1, ys, rfl, hown, hb, hn, hm⟩
  have HM := hide hm
  clear hm
  go_wp2_with fail
  refine (refFirst_any A1 A c1 c ys xs _ hown.ats (h.step hb) (by have := norm_len hn; omega) hl).mono ?_
  rintro e w2 ⟨A2, c2, zs, rfl, hown2, hb2, hn2, hm2⟩
  have HM2 := hide hm2
  clear hm2
  go_wp2_with fail
  go_ret
  refine ⟨A2, c2, zs, rfl, hown2.lower hb.size, bstep hb hb2, hn2, fun t => ?_⟩
  rw [HM2.out, HM.out, mem_one]
  unfold complS Time
  simp only
  constructor
  · rintro ⟨h1, h2⟩; exact ⟨by omega, by omega, by omega, h2⟩
  · rintro ⟨h1, h2, h3, h4⟩; exact ⟨by omega, h4⟩

end Go.Proofs.Ythgglblbjghamaa
