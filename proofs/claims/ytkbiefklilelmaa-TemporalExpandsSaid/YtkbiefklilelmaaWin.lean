/-
  Sets of temporal conditions, in plain words: some and all over a window, within a range.
-/
import Derived.Test.YtkbiefklilelmaaOps
namespace Go.Proofs.Ytkbiefklilelmaa

def alwB (least a b lo hi : Int) : Bool := decide (least ≤ a ∧ a ≤ b ∧ b ≤ 1099511627776 ∧ 0 ≤ lo ∧ lo ≤ hi ∧ hi ≤ 1099511627776)
theorem alwB_iff {least a b lo hi : Int} : alwB least a b lo hi = true ↔ least ≤ a ∧ a ≤ b ∧ b ≤ 1099511627776 ∧ 0 ≤ lo ∧ lo ≤ hi ∧ hi ≤ 1099511627776 := by simp [alwB]

def clipS (S : Int → Prop) (lo hi : Int) (t : Int) : Prop := lo ≤ t ∧ t ≤ hi ∧ S t
def someS (S : Int → Prop) (a b lo hi : Int) (t : Int) : Prop := alwB (-1099511627776) a b lo hi = true ∧ lo ≤ t ∧ t ≤ hi ∧ ∃ u, t + a ≤ u ∧ u ≤ t + b ∧ clipS S lo hi u
def allS (S : Int → Prop) (a b lo hi : Int) (t : Int) : Prop := alwB (-1099511627776) a b lo hi = true ∧ lo ≤ t ∧ t ≤ hi ∧ ∀ u, t + a ≤ u → u ≤ t + b → lo ≤ u → u ≤ hi → S u

theorem someS_congr {S S' : Int → Prop} (h : ∀ t, S t ↔ S' t) (a b lo hi t : Int) : someS S a b lo hi t ↔ someS S' a b lo hi t := by unfold someS clipS; simp only [h]
theorem allS_congr {S S' : Int → Prop} (h : ∀ t, S t ↔ S' t) (a b lo hi t : Int) : allS S a b lo hi t ↔ allS S' a b lo hi t := by unfold allS; simp only [h]

theorem someS_grow {S : Int → Prop} {a b lo hi : Int} (h : alwB (-1099511627776) a b lo hi = true) (t : Int) : growS (clipS S lo hi) a b lo hi t ↔ someS S a b lo hi t := by
  have g := alwB_iff.1 h
  unfold growS someS Time
  rw [dlyB_iff, h]
  constructor
  · rintro ⟨_, h1, h2, _, u, h3, h4, h5⟩; exact ⟨rfl, h1, h2, u, h3, h4, h5⟩
  · rintro ⟨_, h1, h2, u, h3, h4, h5⟩; exact ⟨by omega, h1, h2, by omega, u, h3, h4, h5⟩

theorem allS_shrink {S : Int → Prop} {a b lo hi : Int} (h : alwB (-1099511627776) a b lo hi = true) (t : Int) : shrinkS (clipS S lo hi) a b lo hi t ↔ allS S a b lo hi t := by
  have g := alwB_iff.1 h
  unfold shrinkS complS growS allS Time clipS
  rw [dlyB_iff, h]
  constructor
  · rintro ⟨_, h1, h2, _, h3⟩
    refine ⟨rfl, h1, h2, fun u h4 h5 h6 h7 => ?_⟩
    refine Classical.byContradiction fun hn => h3 ⟨by omega, h1, h2, by omega, u, h4, h5, h6, h7, by omega, fun hc => hn hc.2.2⟩
  · rintro ⟨_, h1, h2, h3⟩
    refine ⟨by omega, h1, h2, by omega, ?_⟩
    rintro ⟨_, _, _, _, u, h4, h5, h6, h7, _, h8⟩
    exact h8 ⟨h6, h7, h3 u h4 h5 h6 h7⟩

theorem alwB_add {a b c d lo hi : Int} (h1 : a ≤ b) (h2 : c ≤ d) (h3 : -1000 ≤ a) (h4 : b ≤ 1000) (h5 : -1000 ≤ c) (h6 : d ≤ 1000) :
    (alwB (-1099511627776) a b lo hi = true ∧ alwB (-1099511627776) c d lo hi = true) ↔ alwB (-1099511627776) (a + c) (b + d) lo hi = true := by
  simp only [alwB_iff]; omega

theorem some_some {S : Int → Prop} {a b c d lo hi : Int} (h : (0 ≤ a ∧ 0 ≤ c) ∨ (b ≤ 0 ∧ d ≤ 0)) (h1 : a ≤ b) (h2 : c ≤ d) (h3 : -1000 ≤ a) (h4 : b ≤ 1000) (h5 : -1000 ≤ c) (h6 : d ≤ 1000) (t : Int) :
    someS (someS S a b lo hi) c d lo hi t ↔ someS S (a + c) (b + d) lo hi t := by
  unfold someS clipS
  rw [← alwB_add h1 h2 h3 h4 h5 h6]
  constructor
  · rintro ⟨k1, k2, k3, u, k4, k5, k6, k7, k8, _, _, v, k9, k10, k11, k12, k13⟩
    exact ⟨⟨k8, k1⟩, k2, k3, v, by omega, by omega, k11, k12, k13⟩
  · rintro ⟨⟨k8, k1⟩, k2, k3, v, k9, k10, k11, k12, k13⟩
    rcases h with h | h
    · exact ⟨k1, k2, k3, max (t + c) (v - b), by omega, by omega, by omega, by omega, k8, by omega, by omega, v, by omega, by omega, k11, k12, k13⟩
    · exact ⟨k1, k2, k3, min (t + d) (v - a), by omega, by omega, by omega, by omega, k8, by omega, by omega, v, by omega, by omega, k11, k12, k13⟩

theorem all_all {S : Int → Prop} {a b c d lo hi : Int} (h : (0 ≤ a ∧ 0 ≤ c) ∨ (b ≤ 0 ∧ d ≤ 0)) (h1 : a ≤ b) (h2 : c ≤ d) (h3 : -1000 ≤ a) (h4 : b ≤ 1000) (h5 : -1000 ≤ c) (h6 : d ≤ 1000) (t : Int) :
    allS (allS S a b lo hi) c d lo hi t ↔ allS S (a + c) (b + d) lo hi t := by
  unfold allS
  rw [← alwB_add h1 h2 h3 h4 h5 h6]
  constructor
  · rintro ⟨k1, k2, k3, k4⟩
    -- the delays from a to b are allowed where those from c to d are
    have k8 : alwB (-1099511627776) a b lo hi = true := by rw [alwB_iff] at k1 ⊢; omega
    refine ⟨⟨k8, k1⟩, k2, k3, fun v k5 k6 k7 k9 => ?_⟩
    rcases h with h | h
    · exact (k4 (max (t + c) (v - b)) (by omega) (by omega) (by omega) (by omega)).2.2.2 v (by omega) (by omega) k7 k9
    · exact (k4 (min (t + d) (v - a)) (by omega) (by omega) (by omega) (by omega)).2.2.2 v (by omega) (by omega) k7 k9
  · rintro ⟨⟨k8, k1⟩, k2, k3, k4⟩
    exact ⟨k1, k2, k3, fun u k5 k6 k7 k9 => ⟨k8, k7, k9, fun v k10 k11 k12 k13 => k4 v (by omega) (by omega) k12 k13⟩⟩

theorem some_all_apart {S F : Int → Prop} (h : ∀ t, ¬ (S t ∧ F t)) (a b lo hi t : Int) : ¬ (someS S a b lo hi t ∧ allS F a b lo hi t) := by
  rintro ⟨⟨_, _, _, u, h1, h2, h3, h4, h5⟩, _, _, _, h6⟩
  exact h u ⟨h5, h6 u h1 h2 h3 h4⟩

end Go.Proofs.Ytkbiefklilelmaa
