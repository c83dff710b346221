/-
  Ranging over a map of pairs: which pairs have come.
-/
import Derived.Test.YtkbiefklilelmaaKey2
import Derived.Maps.RangeWalk
namespace Go.Proofs.Ytkbiefklilelmaa
open Go.RowKit

/-- the pairs that have come -/
def Vis (m : Int → Int → Prop) (left : Lit → Bool) (s t : Int) : Prop := m s t ∧ left (kL s t) = false
def HoldsP (D : DataW Unit) (m : Int → Int → Prop) : Prop := ∀ s t, I64 s → I64 t → (¬ m s t → Maps.has D (kL s t) = false) ∧ (m s t → Maps.has D (kL s t) = true ∧ ∀ z, D.atKey (kL s t) z = .lit (.bool true))
theorem vis_start {D : DataW Unit} {m : Int → Int → Prop} (hD : HoldsP D m) (h64 : ∀ s t, m s t → I64 s ∧ I64 t) (s t : Int) : ¬ Vis m (Maps.has D) s t := fun ⟨h1, h2⟩ => by
  obtain ⟨h3, h4⟩ := h64 s t h1
  rw [((hD s t h3 h4).2 h1).1] at h2
  cases h2
theorem vis_end {m : Int → Int → Prop} {left : Lit → Bool} (h : ∀ kl, left kl = false) (s t : Int) : Vis m left s t ↔ m s t := ⟨fun h1 => h1.1, fun h1 => ⟨h1, h _⟩⟩
theorem same_kL (s t : Int) : (kL s t).sameKey (kL s t) = true := by simp [kL, Lit.sameKey]
theorem vis_step {m : Int → Int → Prop} (h64 : ∀ s t, m s t → I64 s ∧ I64 t) {left : Lit → Bool} {s t : Int} (hm : m s t) (s' t' : Int) :
    Vis m (fun z => left z && !z.sameKey (kL s t)) s' t' ↔ Vis m left s' t' ∨ (s' = s ∧ t' = t) := by
  unfold Vis
  constructor
  · rintro ⟨h1, h2⟩
    by_cases e : s' = s ∧ t' = t
    · exact .inr e
    · left
      refine ⟨h1, ?_⟩
      have hne : kL s' t' ≠ kL s t := fun h => e (kL_inj (h64 _ _ h1).1 (h64 _ _ h1).2 (h64 _ _ hm).1 (h64 _ _ hm).2 h)
      dsimp only at h2
      rw [Maps.sameKey_ne hne] at h2
      simpa using h2
  · rintro (⟨h1, h2⟩ | ⟨rfl, rfl⟩)
    · exact ⟨h1, by dsimp only; rw [h2]; rfl⟩
    · exact ⟨hm, by dsimp only; rw [same_kL]; simp⟩
/-- keys and elements, in structures of their own (so that the walk takes no quantifier over them apart) -/
structure KP where
  s : Int
  t : Int
structure BV where
  b : Bool
def mkKP (p : KP) : Value := pairV p.s p.t
def mkBV (b : BV) : Value := .bool b.b
/-- what has come is a pair of the set -/
theorem come_pair {D : DataW Unit} {m : Int → Int → Prop} (hD : HoldsP D m) {x : KP} {kl : Lit} {d : DataW Unit} (hkey : keyOf Try.prog 112 (mkKP x) = some kl) (hat : ∀ zd, D.atKey kl zd = d) : kl = kL x.s x.t ∧ I64 x.s ∧ I64 x.t ∧ m x.s x.t := by
  obtain ⟨st, e1, h1, h2, rfl⟩ := keyOf_pair_inv hkey
  unfold mkKP pairV at e1
  have e2 : x.s = st.1 ∧ x.t = st.2 := by simpa using e1
  rw [← e2.1] at h1
  rw [← e2.2] at h2
  rw [← e2.1, ← e2.2] at hat ⊢
  refine ⟨rfl, h1, h2, Classical.byContradiction fun hn => ?_⟩
  have := (hD _ _ h1 h2).1 hn
  rw [Maps.has_true_of_atKey hat] at this
  cases this
theorem invPair (key : Value) (kl : Lit) (h : keyOf Try.prog 112 key = some kl) : ∃ x : KP, key = mkKP x := by
  obtain ⟨st, e, _⟩ := keyOf_pair_inv h
  exact ⟨⟨st.1, st.2⟩, e⟩
theorem invBool (v : Value) (y : DataW Unit × List MemPlace) (h : plainElem Try.prog 4 v = some y) : ∃ c : BV, v = mkBV c := by
  obtain ⟨c, e, _⟩ := elem_bool_inv Try.underlying4 h
  exact ⟨⟨c⟩, e⟩

end Go.Proofs.Ytkbiefklilelmaa
