/-
  The laws of until and since that TemporalExpands states, in plain words.
-/
import Derived.Test.YtkbiefklilelmaaChainS
namespace Go.Proofs.Ytkbiefklilelmaa

section
variable {X Y F G : Int → Prop} {b lo hi : Int}

theorem expand_true (h1 : 1 ≤ b) (h2 : b ≤ 1000) (h3 : 0 ≤ lo) (h4 : lo ≤ hi) (h5 : hi ≤ 1099511627776) (t : Int) :
    (clipS Y lo hi t ∨ (clipS X lo hi t ∧ someS (linkS X Y 0 (b - 1) lo hi false) 1 1 lo hi t)) ↔ linkS X Y 0 b lo hi false t := by
  have e1 : alwB 0 0 b lo hi = true := alwB_iff.2 (by omega)
  have e2 : alwB 0 0 (b - 1) lo hi = true := alwB_iff.2 (by omega)
  have e3 : alwB (-1099511627776) 1 1 lo hi = true := alwB_iff.2 (by omega)
  unfold clipS someS linkS clipS inW btw
  simp only [e1, e2, e3, true_and, Bool.false_eq_true, if_false]
  constructor
  · rintro (⟨k1, k2, hy⟩ | ⟨⟨k1, k2, hx⟩, _, _, v, g1, g2, g3, g4, _, _, u, g5, g6, g7, hy, hv⟩)
    · exact ⟨k1, k2, t, k1, k2, by omega, hy, fun v hv => by omega⟩
    · refine ⟨k1, k2, u, g5, g6, by omega, hy, fun z hz => ?_⟩
      by_cases e : z = t
      · subst e; exact hx
      · exact hv z (by omega)
  · rintro ⟨k1, k2, u, g5, g6, g7, hy, hv⟩
    by_cases e : u = t
    · subst e; exact .inl ⟨k1, k2, hy⟩
    · exact .inr ⟨⟨k1, k2, hv t (by omega)⟩, k1, k2, t + 1, by omega, by omega, by omega, by omega, by omega, by omega, u, g5, g6, by omega, hy, fun z hz => hv z (by omega)⟩

theorem expand_false (h1 : 1 ≤ b) (h2 : b ≤ 1000) (h3 : 0 ≤ lo) (h4 : lo ≤ hi) (h5 : hi ≤ 1099511627776) (t : Int) :
    (clipS G lo hi t ∧ (clipS F lo hi t ∨ allS (unlinkS F G 0 (b - 1) lo hi false) 1 1 lo hi t)) ↔ unlinkS F G 0 b lo hi false t := by
  have e1 : alwB 0 0 b lo hi = true := alwB_iff.2 (by omega)
  have e2 : alwB 0 0 (b - 1) lo hi = true := alwB_iff.2 (by omega)
  have e3 : alwB (-1099511627776) 1 1 lo hi = true := alwB_iff.2 (by omega)
  unfold clipS allS unlinkS inW btw
  simp only [e1, e2, e3, true_and, Bool.false_eq_true, if_false]
  constructor
  · rintro ⟨⟨k1, k2, hg⟩, h⟩
    refine ⟨k1, k2, fun u g1 g2 g3 => ?_⟩
    by_cases e : u = t
    · subst e; exact .inl hg
    · rcases h with ⟨_, _, hf⟩ | ⟨_, _, h⟩
      · exact .inr ⟨t, by omega, hf⟩
      · rcases (h (t + 1) (by omega) (by omega) (by omega) (by omega)).2.2 u g1 g2 (by omega) with h' | ⟨v, hv, hf⟩
        · exact .inl h'
        · exact .inr ⟨v, by omega, hf⟩
  · rintro ⟨k1, k2, h⟩
    refine ⟨⟨k1, k2, ?_⟩, ?_⟩
    · rcases h t k1 k2 (by omega) with h' | ⟨v, hv, _⟩
      · exact h'
      · omega
    · refine Classical.byContradiction fun hc => ?_
      have hf : ¬ F t := fun hf => hc (.inl ⟨k1, k2, hf⟩)
      refine hc (.inr ⟨k1, k2, fun u g1 g2 g3 g4 => ⟨g3, g4, fun z z1 z2 z3 => ?_⟩⟩)
      rcases h z z1 z2 (by omega) with h' | ⟨v, hv, hfv⟩
      · exact .inl h'
      · have : v ≠ t := fun e => hf (by rw [← e]; exact hfv)
        exact .inr ⟨v, by omega, hfv⟩

theorem expand_true_b (h1 : 1 ≤ b) (h2 : b ≤ 1000) (h3 : 0 ≤ lo) (h4 : lo ≤ hi) (h5 : hi ≤ 1099511627776) (t : Int) :
    (clipS Y lo hi t ∨ (clipS X lo hi t ∧ someS (linkS X Y 0 (b - 1) lo hi true) (-1) (-1) lo hi t)) ↔ linkS X Y 0 b lo hi true t := by
  have e1 : alwB 0 0 b lo hi = true := alwB_iff.2 (by omega)
  have e2 : alwB 0 0 (b - 1) lo hi = true := alwB_iff.2 (by omega)
  have e3 : alwB (-1099511627776) (-1) (-1) lo hi = true := alwB_iff.2 (by omega)
  unfold clipS someS linkS clipS inW btw
  simp only [e1, e2, e3, true_and, if_true]
  constructor
  · rintro (⟨k1, k2, hy⟩ | ⟨⟨k1, k2, hx⟩, _, _, v, g1, g2, g3, g4, _, _, u, g5, g6, g7, hy, hv⟩)
    · exact ⟨k1, k2, t, k1, k2, by omega, hy, fun v hv => by omega⟩
    · refine ⟨k1, k2, u, g5, g6, by omega, hy, fun z hz => ?_⟩
      by_cases e : z = t
      · subst e; exact hx
      · exact hv z (by omega)
  · rintro ⟨k1, k2, u, g5, g6, g7, hy, hv⟩
    by_cases e : u = t
    · subst e; exact .inl ⟨k1, k2, hy⟩
    · exact .inr ⟨⟨k1, k2, hv t (by omega)⟩, k1, k2, t - 1, by omega, by omega, by omega, by omega, by omega, by omega, u, g5, g6, by omega, hy, fun z hz => hv z (by omega)⟩

theorem expand_false_b (h1 : 1 ≤ b) (h2 : b ≤ 1000) (h3 : 0 ≤ lo) (h4 : lo ≤ hi) (h5 : hi ≤ 1099511627776) (t : Int) :
    (clipS G lo hi t ∧ (clipS F lo hi t ∨ allS (unlinkS F G 0 (b - 1) lo hi true) (-1) (-1) lo hi t)) ↔ unlinkS F G 0 b lo hi true t := by
  have e1 : alwB 0 0 b lo hi = true := alwB_iff.2 (by omega)
  have e2 : alwB 0 0 (b - 1) lo hi = true := alwB_iff.2 (by omega)
  have e3 : alwB (-1099511627776) (-1) (-1) lo hi = true := alwB_iff.2 (by omega)
  unfold clipS allS unlinkS inW btw
  simp only [e1, e2, e3, true_and, if_true]
  constructor
  · rintro ⟨⟨k1, k2, hg⟩, h⟩
    refine ⟨k1, k2, fun u g1 g2 g3 => ?_⟩
    by_cases e : u = t
    · subst e; exact .inl hg
    · rcases h with ⟨_, _, hf⟩ | ⟨_, _, h⟩
      · exact .inr ⟨t, by omega, hf⟩
      · rcases (h (t - 1) (by omega) (by omega) (by omega) (by omega)).2.2 u g1 g2 (by omega) with h' | ⟨v, hv, hf⟩
        · exact .inl h'
        · exact .inr ⟨v, by omega, hf⟩
  · rintro ⟨k1, k2, h⟩
    refine ⟨⟨k1, k2, ?_⟩, ?_⟩
    · rcases h t k1 k2 (by omega) with h' | ⟨v, hv, _⟩
      · exact h'
      · omega
    · refine Classical.byContradiction fun hc => ?_
      have hf : ¬ F t := fun hf => hc (.inl ⟨k1, k2, hf⟩)
      refine hc (.inr ⟨k1, k2, fun u g1 g2 g3 g4 => ⟨g3, g4, fun z z1 z2 z3 => ?_⟩⟩)
      rcases h z z1 z2 (by omega) with h' | ⟨v, hv, hfv⟩
      · exact .inl h'
      · have : v ≠ t := fun e => hf (by rw [← e]; exact hfv)
        exact .inr ⟨v, by omega, hfv⟩

theorem every_true (h1 : 1 ≤ b) (h2 : b ≤ 1000) (h3 : 0 ≤ lo) (h4 : lo ≤ hi) (h5 : hi ≤ 1099511627776) (t : Int) : linkS (Mem [(lo, hi)]) Y 0 b lo hi false t ↔ someS Y 0 b lo hi t := by
  have e1 : alwB 0 0 b lo hi = true := alwB_iff.2 (by omega)
  have e3 : alwB (-1099511627776) 0 b lo hi = true := alwB_iff.2 (by omega)
  unfold someS linkS clipS inW btw
  simp only [e1, e3, true_and, Bool.false_eq_true, if_false, mem_one]
  constructor
  · rintro ⟨k1, k2, u, g1, g2, g3, hy, _⟩
    exact ⟨k1, k2, u, g3.1, g3.2, g1, g2, hy⟩
  · rintro ⟨k1, k2, u, g1, g2, g3, g4, hy⟩
    exact ⟨k1, k2, u, g3, g4, ⟨g1, g2⟩, hy, fun v hv => by omega⟩
theorem every_false (h1 : 1 ≤ b) (h2 : b ≤ 1000) (h3 : 0 ≤ lo) (h4 : lo ≤ hi) (h5 : hi ≤ 1099511627776) (t : Int) : unlinkS (Mem []) G 0 b lo hi false t ↔ allS G 0 b lo hi t := by
  have e1 : alwB 0 0 b lo hi = true := alwB_iff.2 (by omega)
  have e3 : alwB (-1099511627776) 0 b lo hi = true := alwB_iff.2 (by omega)
  unfold allS unlinkS inW btw
  simp only [e1, e3, true_and, Bool.false_eq_true, if_false]
  constructor
  · rintro ⟨k1, k2, h⟩
    refine ⟨k1, k2, fun u g1 g2 g3 g4 => ?_⟩
    rcases h u g3 g4 ⟨g1, g2⟩ with h' | ⟨v, _, hv⟩
    · exact h'
    · exact absurd hv (mem_nil v)
  · rintro ⟨k1, k2, h⟩
    exact ⟨k1, k2, fun u g1 g2 g3 => .inl (h u g3.1 g3.2 g1 g2)⟩
theorem every_true_b (h1 : 1 ≤ b) (h2 : b ≤ 1000) (h3 : 0 ≤ lo) (h4 : lo ≤ hi) (h5 : hi ≤ 1099511627776) (t : Int) : linkS (Mem [(lo, hi)]) Y 0 b lo hi true t ↔ someS Y (-b) 0 lo hi t := by
  have e1 : alwB 0 0 b lo hi = true := alwB_iff.2 (by omega)
  have e3 : alwB (-1099511627776) (-b) 0 lo hi = true := alwB_iff.2 (by omega)
  unfold someS linkS clipS inW btw
  simp only [e1, e3, true_and, if_true, mem_one]
  constructor
  · rintro ⟨k1, k2, u, g1, g2, g3, hy, _⟩
    exact ⟨k1, k2, u, by omega, by omega, g1, g2, hy⟩
  · rintro ⟨k1, k2, u, g1, g2, g3, g4, hy⟩
    exact ⟨k1, k2, u, g3, g4, by omega, hy, fun v hv => by omega⟩
theorem every_false_b (h1 : 1 ≤ b) (h2 : b ≤ 1000) (h3 : 0 ≤ lo) (h4 : lo ≤ hi) (h5 : hi ≤ 1099511627776) (t : Int) : unlinkS (Mem []) G 0 b lo hi true t ↔ allS G (-b) 0 lo hi t := by
  have e1 : alwB 0 0 b lo hi = true := alwB_iff.2 (by omega)
  have e3 : alwB (-1099511627776) (-b) 0 lo hi = true := alwB_iff.2 (by omega)
  unfold allS unlinkS inW btw
  simp only [e1, e3, true_and, if_true]
  constructor
  · rintro ⟨k1, k2, h⟩
    refine ⟨k1, k2, fun u g1 g2 g3 g4 => ?_⟩
    rcases h u g3 g4 ⟨by omega, by omega⟩ with h' | ⟨v, _, hv⟩
    · exact h'
    · exact absurd hv (mem_nil v)
  · rintro ⟨k1, k2, h⟩
    exact ⟨k1, k2, fun u g1 g2 g3 => .inl (h u (by omega) (by omega) g1 g2)⟩
end

end Go.Proofs.Ytkbiefklilelmaa
