/-
  What the statements' arguments hold, read into the words of the walks.
-/
import Derived.Test.YtkbiefklilelmaaRows
import Derived.Test.YtkbiefklilelmaaBase
import Derived.Test.YtkbiefklilelmaaInts
import Derived.ProofKit
import Derived.OpenShut
import Derived.ChangeOld
import Derived.Below
import Derived.Deep.SlicePairs
import Derived.Lib.SmallJoins
namespace Go.Proofs.Ytkbiefklilelmaa
open Go.ChangeShapes Go.WideShapes Go.ChangeAt Go.RowKit Go.Deep

theorem ownK : ownKnob Try.prog.godebug = none := by kernel_rfl
theorem laidOut : laidOutB Try.prog = true := by kernel_rfl

theorem wf_bounds {n : Int} (h : (Lit.int .i64 n).wf = true) : I64 n := bounds_i64 h

section
variable {H : Type} {enc : TypeId × Value → H} {W : World} {base : Nat} {spare : Nat → Bool} {held : Bool}

theorem ivs_of_trod {fuel len cap : Nat} {A : Option Addr} {x : DataW H × List MemPlace} (h : DataW.trod enc Try.prog W base spare held fuel 22 [.slice A len cap] = some x) :
    ∃ xs : List Iv, xs.length = len ∧ IvsAt W W.heap.size A xs := by
  rcases open_slice_pairs Try.underlying22 Try.underlying42 (by kernel_rfl) rfl rfl (by kernel_rfl) (by kernel_rfl) h with ⟨hcs, _⟩ | ⟨a, l, c, m, n, V0, V1, D0, D1, P0, P1, hcs, _, hl, _, hm, _, hc⟩
  · simp only [List.cons.injEq, Value.slice.injEq, and_true] at hcs
    obtain ⟨rfl, rfl, rfl⟩ := hcs
    exact ⟨[], rfl, IvsAt.nil⟩
  · simp only [List.cons.injEq, Value.slice.injEq, and_true] at hcs
    obtain ⟨rfl, rfl, rfl⟩ := hcs
    have hlm : len ≤ m := by rw [hm]; split <;> omega
    refine ⟨(List.range len).map fun i => (intOf (V0 i), intOf (V1 i)), by simp, fun hne => ?_⟩
    have hpos : 0 < len := by
      rcases Nat.eq_zero_or_pos len with h0 | h0
      · subst h0; simp at hne
      · exact h0
    obtain ⟨b, off, spot⟩ := a
    have h0 := (hc 0 (by omega)).1
    have hspot : spot = none := by simpa [Addr.add] using World.cell?_spot h0
    subst hspot
    have hblk := World.block_lt_of_cell? _ _ h0
    refine ⟨b, off, rfl, by simpa [Addr.add] using hblk, fun i y hi => ?_⟩
    have hil : i < len := by
      have := (List.getElem?_eq_some_iff.1 hi).1
      simpa using this
    obtain ⟨g0, g1, t0, t1⟩ := hc i (by omega)
    obtain ⟨p, e0, _, _⟩ := DataW.trod_int Try.underlying3 t0
    obtain ⟨q, e1, _, _⟩ := DataW.trod_int Try.underlying3 t1
    simp only [List.cons.injEq, and_true] at e0 e1
    rw [e0] at g0
    rw [e1] at g1
    have hy : y = (p, q) := by
      rw [List.getElem?_map, List.getElem?_range hil] at hi
      simp only [Option.map_some, Option.some.injEq] at hi
      rw [← hi, e0, e1]
      rfl
    subst hy
    have a0 : (⟨b, off, none⟩ : Addr).add (i * 2) = ⟨b, off + i * 2, none⟩ := by unfold Addr.add; split <;> simp_all
    have a1 : (⟨b, off, none⟩ : Addr).add (i * 2 + 1) = ⟨b, off + i * 2 + 1, none⟩ := by unfold Addr.add; rw [if_neg (by omega)]; simp [Nat.add_assoc]
    rw [a0] at g0
    rw [a1] at g1
    exact ⟨g0, g1⟩

theorem tr_slice {fuel : Nat} {v : Value} {x : DataW H × List MemPlace} (h : DataW.trod enc Try.prog W base spare held fuel 22 [v] = some x) :
    ∃ (A : Option Addr) (c : Nat) (xs : List Iv), v = .slice A xs.length c ∧ IvsAt W W.heap.size A xs := by
  have hv : ∃ A len cap, v = .slice A len cap := by
    rcases open_slice_pairs Try.underlying22 Try.underlying42 (by kernel_rfl) rfl rfl (by kernel_rfl) (by kernel_rfl) h with ⟨hcs, _⟩ | ⟨a, l, c, m, n, V0, V1, D0, D1, P0, P1, hcs, _⟩
    · simp only [List.cons.injEq, and_true] at hcs; exact ⟨_, _, _, hcs⟩
    · simp only [List.cons.injEq, and_true] at hcs; exact ⟨_, _, _, hcs⟩
  obtain ⟨A, len, cap, rfl⟩ := hv
  obtain ⟨xs, rfl, hx⟩ := ivs_of_trod h
  exact ⟨A, cap, xs, rfl, hx⟩

theorem ints_of_trod {fuel len cap : Nat} {A : Option Addr} {x : DataW H × List MemPlace} (h : DataW.trod enc Try.prog W base spare held fuel 36 [.slice A len cap] = some x) :
    ∃ zs : List Int, zs.length = len ∧ IntsAt W W.heap.size A zs := by
  rcases open_ints Try.underlying36 Try.underlying3 (by kernel_rfl) h with ⟨hcs, _⟩ | ⟨a, l, c, zs, hcs, _, hl, _, hz, _, hc, _⟩
  · simp only [List.cons.injEq, Value.slice.injEq, and_true] at hcs
    obtain ⟨rfl, rfl, rfl⟩ := hcs
    exact ⟨[], rfl, IntsAt.nil⟩
  · simp only [List.cons.injEq, Value.slice.injEq, and_true] at hcs
    obtain ⟨rfl, rfl, rfl⟩ := hcs
    have hlz : len ≤ zs.length := by rw [hz]; split <;> omega
    refine ⟨zs.take len, by simp; omega, fun hne => ?_⟩
    have hpos : 0 < len := by
      rcases Nat.eq_zero_or_pos len with h0 | h0
      · subst h0; simp at hne
      · exact h0
    obtain ⟨b, off, spot⟩ := a
    have h0 := hc 0 (by omega)
    have hspot : spot = none := by simpa [Addr.add] using World.cell?_spot h0
    subst hspot
    have hblk := World.block_lt_of_cell? _ _ h0
    refine ⟨b, off, rfl, by simpa [Addr.add] using hblk, fun i z hi => ?_⟩
    rw [List.getElem?_take] at hi
    split at hi
    · have hil := (List.getElem?_eq_some_iff.1 hi).1
      have := hc i hil
      have a0 : (⟨b, off, none⟩ : Addr).add i = ⟨b, off + i, none⟩ := by unfold Addr.add; split <;> simp_all
      rw [a0] at this
      rw [this, List.getD_eq_getElem?_getD, hi]
      rfl
    · cases hi
end

end Go.Proofs.Ytkbiefklilelmaa
