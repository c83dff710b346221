/-
  Edges in a box; the head of an automaton; the edges ahead of one.
-/
import Derived.Test.YtkbiefklilelmaaRow
namespace Go.Proofs.Ytkbiefklilelmaa
open Go.RowKit

theorem box6 {w : World} {N : Nat} {a b c d e f : Value} {t : TypeId} (h : w.heap[N]? = some (.cells #[a, b, c, d, e, f] t (0, 0))) : w.cell? ⟨N, 0, none⟩ = some a ∧ w.cell? ⟨N, 1, none⟩ = some b ∧ w.cell? ⟨N, 2, none⟩ = some c ∧ w.cell? ⟨N, 3, none⟩ = some d ∧ w.cell? ⟨N, 4, none⟩ = some e ∧ w.cell? ⟨N, 5, none⟩ = some f :=
  ⟨by rw [cell_of_row w N _ _ t (0, 0) h]; rfl, by rw [cell_of_row w N _ _ t (0, 0) h]; rfl, by rw [cell_of_row w N _ _ t (0, 0) h]; rfl, by rw [cell_of_row w N _ _ t (0, 0) h]; rfl, by rw [cell_of_row w N _ _ t (0, 0) h]; rfl, by rw [cell_of_row w N _ _ t (0, 0) h]; rfl⟩
theorem head_cases (fin : List Bool) : (fin.length < 2 ∧ headB fin = false) ∨ (33 < fin.length ∧ headB fin = false) ∨ (2 ≤ fin.length ∧ fin.length ≤ 33 ∧ fin[0]? = some true ∧ headB fin = false) ∨ (2 ≤ fin.length ∧ fin.length ≤ 33 ∧ fin[0]? = some false ∧ headB fin = true) := by
  unfold headB
  rcases Nat.lt_or_ge fin.length 2 with h | h
  · exact .inl ⟨h, by rw [decide_eq_false (by omega)]; rfl⟩
  · rcases Nat.lt_or_ge 33 fin.length with h2 | h2
    · exact .inr (.inl ⟨h2, by rw [decide_eq_true h, decide_eq_false (by omega)]; rfl⟩)
    · rw [decide_eq_true h, decide_eq_true h2]
      have h0 : 0 < fin.length := by omega
      rw [List.getD, List.getElem?_eq_getElem h0]
      cases hb : fin[0]
      · exact .inr (.inr (.inr ⟨h, h2, rfl, rfl⟩))
      · exact .inr (.inr (.inl ⟨h, h2, rfl, rfl⟩))
theorem one_all {xs : List Edg} {k : Nat} {x : Edg} (h : ∀ i y, i < k → xs[i]? = some y → oneB y x = true) : (xs.take k).all (fun y => oneB y x) = true := by
  rw [List.all_eq_true]
  intro y hy
  obtain ⟨i, hi, rfl⟩ := List.getElem_of_mem hy
  rw [List.length_take] at hi
  refine h i _ (by omega) ?_
  rw [List.getElem_take, List.getElem?_eq_getElem]
theorem one_bad {xs : List Edg} {k m : Nat} {x y : Edg} (hm : m < k) (hy : xs[m]? = some y) (h : oneB y x = false) : (xs.take k).all (fun y => oneB y x) = false := by
  rw [← Bool.not_eq_true, List.all_eq_true]
  intro ha
  have hl := (List.getElem?_eq_some_iff.1 hy).1
  have := ha y (by
    have h1 : (xs.take k)[m]? = some y := by rw [List.getElem?_take_of_lt hm]; exact hy
    exact List.mem_of_getElem? h1)
  rw [h] at this
  cases this
theorem one_next {xs : List Edg} {m : Nat} {x y : Edg} (h : ∀ i z, i < m → xs[i]? = some z → oneB z x = true) (hy : xs[m]? = some y) (hb : oneB y x = true) : ∀ i z, i < m + 1 → xs[i]? = some z → oneB z x = true := fun i z hi hz => by
  rcases Nat.lt_or_ge i m with h1 | h1
  · exact h i z h1 hz
  · have : i = m := by omega
    subst this
    rw [hy] at hz
    injection hz with hz
    subst hz
    exact hb

end Go.Proofs.Ytkbiefklilelmaa
