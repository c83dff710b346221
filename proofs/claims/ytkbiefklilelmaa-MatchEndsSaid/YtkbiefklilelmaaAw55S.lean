/-
  The example of wavestorelaw55.awake: its matches and open times. No program in sight.
-/
import Derived.Test.YtkbiefklilelmaaRunL
namespace Go.Proofs.Ytkbiefklilelmaa

def aw1 : Edg := ⟨0, 1, 0, -1, 0, 0⟩
def aw2 : Edg := ⟨1, 2, 1, -1, 1, 5⟩
def awI : Inp := ⟨[aw1, aw2], [false, false, true], [[1, 8], [3, 4, 20]], []⟩

def AwR (st en s t : Int) : Prop := (st = 1 ∨ st = 8) ∧ ((s = 1 ∧ t = st) ∨ (s = 2 ∧ (t = 3 ∨ t = 4 ∨ t = 20) ∧ st + 1 ≤ t ∧ t ≤ st + 5 ∧ t ≤ en))
theorem aw_ev0 (t : Int) : t ∈ nth awI.ev 0 ↔ t = 1 ∨ t = 8 := by simp [nth, awI]
theorem aw_ev1 (t : Int) : t ∈ nth awI.ev 1 ↔ t = 3 ∨ t = 4 ∨ t = 20 := by simp [nth, awI]
theorem aw_edge {e : Edg} (h : e ∈ awI.edges) : e = aw1 ∨ e = aw2 := by simpa [awI] using h
theorem aw_rch {st en s t : Int} : Rch awI st en s t ↔ AwR st en s t := by
  constructor
  · intro h
    induction h with
    | base e he h0 hs =>
      rcases aw_edge he with rfl | rfl
      · exact ⟨(aw_ev0 _).1 hs, .inl ⟨rfl, rfl⟩⟩
      · simp [aw2] at h0
    | step u e t _ he hg ih =>
      rcases aw_edge he with rfl | rfl
      · obtain ⟨_, h | h⟩ := ih
        · simp [aw1] at h
        · simp [aw1] at h
      · obtain ⟨h1, h | h⟩ := ih
        · obtain ⟨g1, g2, g3, g4, _⟩ := hg
          have := (aw_ev1 _).1 g1
          simp only [aw2] at g2 g3 h ⊢
          exact ⟨h1, .inr ⟨rfl, this, by omega, by omega, g4⟩⟩
        · simp [aw2] at h
  · rintro ⟨h1, ⟨rfl, rfl⟩ | ⟨rfl, h2, h3, h4, h5⟩⟩
    · exact .base aw1 (by simp [awI]) rfl ((aw_ev0 _).2 h1)
    · exact .step st aw2 t (.base aw1 (by simp [awI]) rfl ((aw_ev0 _).2 h1)) (by simp [awI]) ⟨(aw_ev1 _).2 h2, h3, h4, h5, .inl rfl⟩
theorem aw_fin {st en t : Int} : FinS awI st en t ↔ (st = 1 ∨ st = 8) ∧ (t = 3 ∨ t = 4 ∨ t = 20) ∧ st + 1 ≤ t ∧ t ≤ st + 5 ∧ t ≤ en := by
  constructor
  · rintro ⟨s, h1, h2⟩
    obtain ⟨h3, ⟨rfl, rfl⟩ | ⟨rfl, h4⟩⟩ := aw_rch.1 h1
    · simp [awI] at h2
    · exact ⟨h3, h4⟩
  · rintro ⟨h1, h2⟩
    exact ⟨2, aw_rch.2 ⟨h1, .inr ⟨rfl, h2⟩⟩, rfl⟩
theorem aw_start {f g t : Int} : StartS awI f g t ↔ f ≤ t ∧ t ≤ g ∧ (t = 1 ∨ t = 8) := by
  constructor
  · rintro ⟨h1, h2, e, he, h0, h3⟩
    rcases aw_edge he with rfl | rfl
    · exact ⟨h1, h2, (aw_ev0 _).1 h3⟩
    · simp [aw2] at h0
  · rintro ⟨h1, h2, h3⟩
    exact ⟨h1, h2, aw1, by simp [awI], rfl, (aw_ev0 _).2 h3⟩
theorem aw_run : IsRun awI 0 25 25 [(1, 3)] := by
  refine ⟨List.pairwise_singleton _ _, fun p => ?_⟩
  obtain ⟨a, b⟩ := p
  rw [aw_start]
  unfold LeastOf
  simp only [aw_fin, List.mem_singleton, Prod.mk.injEq]
  constructor
  · rintro ⟨rfl, rfl⟩
    exact ⟨by omega, by omega, fun t ht => by omega⟩
  · rintro ⟨h1, h2, h3⟩
    obtain ⟨h4, h5, h6⟩ := h2
    have ha : a = 1 := by omega
    subst ha
    have := h3 3 (by omega)
    omega
theorem aw_open : IsOpen awI 0 10 10 [8] := by
  refine ⟨List.pairwise_singleton _ _, fun t => ?_⟩
  rw [aw_start]
  unfold OpenS
  simp only [aw_fin, List.mem_singleton]
  constructor
  · rintro rfl
    refine ⟨by omega, fun ⟨t, ht⟩ => by omega, 8, aw2, by simp [awI], aw_rch.2 ⟨.inr rfl, .inl ⟨rfl, rfl⟩⟩, by decide, .inl rfl⟩
  · rintro ⟨⟨_, _, h1 | h1⟩, h2, _⟩
    · exact absurd ⟨3, by omega⟩ h2
    · exact h1

end Go.Proofs.Ytkbiefklilelmaa
