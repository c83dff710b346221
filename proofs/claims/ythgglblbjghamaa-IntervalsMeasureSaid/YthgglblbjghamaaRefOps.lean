/-
  The reference's Range, Clip and Complement: the sets of their results.
-/
import Derived.Test.YthgglblbjghamaaRefNormal
namespace Go.Proofs.Ythgglblbjghamaa
open Go.RowKit Go.Joins

theorem refRange_any (lo hi : Int) (w : World) : Calls Try.prog 56 #[.int .i64 lo, .int .i64 hi] w (RetIvs w (Mem [(lo, hi)])) := by
  go_enter Try.func56, Try.ntmps56
  go_wp2_with fail
  have hb0 : Below w.heap.size w (w.alloc (.cells #[.int .i64 lo, .int .i64 hi] 52)) := (Below.refl _ _).alloc (Nat.le_refl _) _
  refine (refNormal_any (some ⟨w.heap.size, 0, none⟩) 1 [(lo, hi)] _ ivsAt_new (by simp)).mono ?_
  rintro e w1 ⟨A1, c1, ys, rfl, hown, hb, hn, hm⟩
  go_wp2_with fail
  go_ret
  exact ⟨A1, c1, ys, rfl, hown.lower hb0.size, bstep hb0 hb, hn, hm⟩

theorem refClip_any (A : Option Addr) (c : Nat) (xs : List Iv) (lo hi : Int) (w : World) (h : IvsAt w w.heap.size A xs) (hl : xs.length ≤ 1000000000000) :
    Calls Try.prog 22 #[.slice A xs.length c, .int .i64 lo, .int .i64 hi] w (RetIvs w fun t => lo ≤ t ∧ t ≤ hi ∧ Mem xs t) := by
  go_enter Try.func22, Try.ntmps22
  go_wp2_with fail
  refine (refRange_any lo hi _).mono ?_
  rintro e w1 ⟨A1, c1, ys, rfl, hown, hb, hn, hm⟩
  have HM := hide hm
  clear hm
  go_wp2_with fail
  refine (refBoth_any A A1 c c1 xs ys _ (h.step hb) hown.ats hl (by have := norm_len hn; omega)).mono ?_
  rintro e w2 ⟨A2, c2, zs, rfl, hown2, hb2, hn2, hm2⟩
  have HM2 := hide hm2
  clear hm2
  go_wp2_with fail
  go_ret
  refine ⟨A2, c2, zs, rfl, hown2.lower hb.size, bstep hb hb2, hn2, fun t => ?_⟩
  rw [HM2.out, HM.out, mem_one]
  simp only
  constructor
  · rintro ⟨h1, h2⟩; exact ⟨by omega, by omega, h1⟩
  · rintro ⟨h1, h2, h3⟩; have := mem_bounds h3; exact ⟨h3, by omega⟩

theorem refComplement_any (A : Option Addr) (c : Nat) (xs : List Iv) (lo hi : Int) (w : World) (h : IvsAt w w.heap.size A xs) (hl : xs.length ≤ 1000000000000) :
    Calls Try.prog 23 #[.slice A xs.length c, .int .i64 lo, .int .i64 hi] w (RetIvs w (complS (Mem xs) lo hi)) := by
  go_enter Try.func23, Try.ntmps23
  go_wp2_with fail
  refine (refRange_any lo hi _).mono ?_
  rintro e w1 ⟨A1, c1, ys, rfl, hown, hb, hn, hm⟩
  have HM := hide hm
  clear hm
  go_wp2_with fail
  refine (refFirst_any A1 A c1 c ys xs _ hown.ats (h.step hb) (by have := norm_len hn; omega) hl).mono ?_
  rintro e w2 ⟨A2, c2, zs, rfl, hown2, hb2, hn2, hm2⟩
  have HM2 := hide hm2
  clear hm2
  go_wp2_with fail
  go_ret
  refine ⟨A2, c2, zs, rfl, hown2.lower hb.size, bstep hb hb2, hn2, fun t => ?_⟩
  rw [HM2.out, HM.out, mem_one]
  unfold complS Time
  simp only
  constructor
  · rintro ⟨h1, h2⟩; exact ⟨by omega, by omega, by omega, h2⟩
  · rintro ⟨h1, h2, h3, h4⟩; exact ⟨by omega, h4⟩

end Go.Proofs.Ythgglblbjghamaa
