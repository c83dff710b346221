/-
  The map that automaton.Valid fills: the event of the last edge to a state; what it says of the edges ahead.
-/
import Derived.Test.YtkbiefklilelmaaRow
import Derived.Test.YtkbiefklilelmaaMapI
import Derived.Test.YtkbiefklilelmaaEdg
namespace Go.Proofs.Ytkbiefklilelmaa
open Go.RowKit

def mapK (xs : List Edg) : Nat → Int → Option Int
  | 0 => fun _ => none
  | k + 1 => match xs[k]? with
    | some x => setM (mapK xs k) x.to_ x.event
    | none => mapK xs k
theorem mapK_succ {xs : List Edg} {k : Nat} {x : Edg} (h : xs[k]? = some x) : mapK xs (k + 1) = setM (mapK xs k) x.to_ x.event := by
  show (match xs[k]? with | some x => setM (mapK xs k) x.to_ x.event | none => mapK xs k) = _
  rw [h]
theorem mapK_some {xs : List Edg} {t e : Int} : ∀ {k : Nat}, mapK xs k t = some e → ∃ i y, i < k ∧ xs[i]? = some y ∧ y.to_ = t ∧ y.event = e
  | 0, h => by cases h
  | k + 1, h => by
    cases hx : xs[k]? with
    | none =>
      have h' : mapK xs k t = some e := by
        have h2 : mapK xs (k + 1) = mapK xs k := by
          show (match xs[k]? with | some x => setM (mapK xs k) x.to_ x.event | none => mapK xs k) = _
          rw [hx]
        rw [h2] at h; exact h
      obtain ⟨i, y, h1, h2⟩ := mapK_some h'
      exact ⟨i, y, by omega, h2⟩
    | some x =>
      rw [mapK_succ hx] at h
      unfold setM at h
      by_cases ht : t = x.to_
      · rw [if_pos ht] at h
        injection h with h
        exact ⟨k, x, by omega, hx, ht.symm, h⟩
      · rw [if_neg ht] at h
        obtain ⟨i, y, h1, h2⟩ := mapK_some h
        exact ⟨i, y, by omega, h2⟩
theorem mapK_none {xs : List Edg} {t : Int} : ∀ {k : Nat}, mapK xs k t = none → ∀ i y, i < k → xs[i]? = some y → y.to_ ≠ t
  | 0, _, _, _, hi, _ => absurd hi (Nat.not_lt_zero _)
  | k + 1, h, i, y, hi, hy => by
    cases hx : xs[k]? with
    | none =>
      have h2 : mapK xs (k + 1) = mapK xs k := by
        show (match xs[k]? with | some x => setM (mapK xs k) x.to_ x.event | none => mapK xs k) = _
        rw [hx]
      rw [h2] at h
      rcases Nat.lt_or_ge i k with h1 | h1
      · exact mapK_none h i y h1 hy
      · have : i = k := by omega
        subst this
        rw [hx] at hy
        cases hy
    | some x =>
      rw [mapK_succ hx] at h
      unfold setM at h
      by_cases ht : t = x.to_
      · rw [if_pos ht] at h; cases h
      · rw [if_neg ht] at h
        rcases Nat.lt_or_ge i k with h1 | h1
        · exact mapK_none h i y h1 hy
        · have : i = k := by omega
          subst this
          rw [hx] at hy
          injection hy with hy
          subst hy
          exact fun e => ht e.symm
theorem fits_one {n nE nC : Nat} {xs : List Edg} {i j : Nat} {y z : Edg} (hj : fitsB n nE nC xs j = true) (hij : i < j) (hy : xs[i]? = some y) (hz : xs[j]? = some z) : oneB y z = true := by
  have hl := (List.getElem?_eq_some_iff.1 hz).1
  have e := (List.getElem?_eq_some_iff.1 hz).2
  rw [fits_at hl, Bool.and_eq_true] at hj
  rw [← e]
  refine List.all_eq_true.1 hj.2 y ?_
  have h1 : (xs.take j)[i]? = some y := by rw [List.getElem?_take_of_lt hij]; exact hy
  exact List.mem_of_getElem? h1
theorem one_iff {y z : Edg} : oneB y z = true ↔ (y.to_ = z.to_ → y.event = z.event) := by unfold oneB; rw [decide_eq_true_iff]
theorem fits_same {n nE nC : Nat} {xs : List Edg} {k i j : Nat} {y z : Edg} (h : ∀ i, i < k → fitsB n nE nC xs i = true) (hi : i < k) (hj : j < k) (hy : xs[i]? = some y) (hz : xs[j]? = some z) (ht : y.to_ = z.to_) : y.event = z.event := by
  rcases Nat.lt_trichotomy i j with h1 | h1 | h1
  · exact one_iff.1 (fits_one (h j hj) h1 hy hz) ht
  · subst h1
    rw [hy] at hz
    injection hz with hz
    rw [hz]
  · exact (one_iff.1 (fits_one (h i hi) h1 hz hy) ht.symm).symm
theorem mapK_all_none {xs : List Edg} {k : Nat} {x : Edg} (h : mapK xs k x.to_ = none) : (xs.take k).all (fun y => oneB y x) = true :=
  one_all fun i y hi hy => one_iff.2 fun e => absurd e (mapK_none h i y hi hy)
theorem mapK_all_some {n nE nC : Nat} {xs : List Edg} {k : Nat} {x : Edg} {e : Int} (hf : ∀ i, i < k → fitsB n nE nC xs i = true) (h : mapK xs k x.to_ = some e) (he : e = x.event) : (xs.take k).all (fun y => oneB y x) = true :=
  one_all fun i y hi hy => one_iff.2 fun ht => by
    obtain ⟨j, z, h1, h2, h3, h4⟩ := mapK_some h
    rw [← he, ← h4]
    exact fits_same hf hi h1 hy h2 (by rw [ht, h3])
theorem mapK_all_bad {xs : List Edg} {k : Nat} {x : Edg} {e : Int} (h : mapK xs k x.to_ = some e) (he : e ≠ x.event) : (xs.take k).all (fun y => oneB y x) = false := by
  obtain ⟨j, z, h1, h2, h3, h4⟩ := mapK_some h
  refine one_bad h1 h2 ?_
  unfold oneB
  exact decide_eq_false fun hh => he (by rw [← h4]; exact hh h3)

end Go.Proofs.Ytkbiefklilelmaa
