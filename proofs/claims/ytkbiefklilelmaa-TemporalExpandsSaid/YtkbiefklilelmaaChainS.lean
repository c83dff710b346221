/-
  Sets of until and since, in plain words.
-/
import Derived.Test.YtkbiefklilelmaaWin
namespace Go.Proofs.Ytkbiefklilelmaa

/-- u lies in the window of t; back: as far before it -/
def inW (back : Bool) (a b t u : Int) : Prop := if back = true then t - b ≤ u ∧ u ≤ t - a else t + a ≤ u ∧ u ≤ t + b
/-- v lies between t and u: from t on, before u; back: behind u, up to t -/
def btw (back : Bool) (t u v : Int) : Prop := if back = true then u < v ∧ v ≤ t else t ≤ v ∧ v < u
def chainS (X Y : Int → Prop) (a b lo hi : Int) (back : Bool) (t : Int) : Prop := lo ≤ t ∧ t ≤ hi ∧ ∃ u, inW back a b t u ∧ Y u ∧ ∀ v, btw back t u v → X v
def linkS (X Y : Int → Prop) (a b lo hi : Int) (back : Bool) (t : Int) : Prop := alwB 0 a b lo hi = true ∧ lo ≤ t ∧ t ≤ hi ∧ ∃ u, lo ≤ u ∧ u ≤ hi ∧ inW back a b t u ∧ Y u ∧ ∀ v, btw back t u v → X v
def unlinkS (F G : Int → Prop) (a b lo hi : Int) (back : Bool) (t : Int) : Prop := alwB 0 a b lo hi = true ∧ lo ≤ t ∧ t ≤ hi ∧ ∀ u, lo ≤ u → u ≤ hi → inW back a b t u → G u ∨ ∃ v, btw back t u v ∧ F v

theorem chainS_congr {X X' Y Y' : Int → Prop} (hx : ∀ t, X t ↔ X' t) (hy : ∀ t, Y t ↔ Y' t) (a b lo hi : Int) (back : Bool) (t : Int) : chainS X Y a b lo hi back t ↔ chainS X' Y' a b lo hi back t := by
  unfold chainS; simp only [hx, hy]

/-- the piece of one interval of x -/
def pieceS (Y : Int → Prop) (a b : Int) (back : Bool) (r : Iv) (t : Int) : Prop :=
  if back = true then growS (clipS Y (r.1 - 1) r.2) (-b) (-a) r.1 r.2 t else growS (clipS Y r.1 (r.2 + 1)) a b r.1 r.2 t

theorem mem_gap {xs : List Iv} (hn : Norm xs) {r : Iv} (hr : r ∈ xs) : ¬ Mem xs (r.2 + 1) ∧ ¬ Mem xs (r.1 - 1) := by
  induction xs with
  | nil => cases hr
  | cons x xs ih =>
    obtain ⟨ox, lx, nx⟩ := norm_cons.1 hn
    unfold Okv at ox
    have far : ∀ {t : Int}, Mem xs t → x.2 + 2 ≤ t := by
      rintro t ⟨_, _, u, hu, h1, _⟩
      have := lx u hu
      omega
    rcases List.mem_cons.1 hr with rfl | hr'
    · constructor
      · intro h
        rcases mem_cons.1 h with h | h
        · omega
        · have := far h; omega
      · intro h
        rcases mem_cons.1 h with h | h
        · omega
        · have := far h; omega
    · have h1 := ih nx hr'
      have h2 := lx r hr'
      have h3 := nx.1 r hr'
      unfold Okv at h3
      constructor
      · intro h
        rcases mem_cons.1 h with h | h
        · omega
        · exact h1.1 h
      · intro h
        rcases mem_cons.1 h with h | h
        · omega
        · exact h1.2 h

theorem mem_pick {xs : List Iv} {t : Int} (h : Mem xs t) : ∃ r ∈ xs, r.1 ≤ t ∧ t ≤ r.2 := h.2.2
theorem mem_of {xs : List Iv} (hn : Norm xs) {r : Iv} (hr : r ∈ xs) {t : Int} (h1 : r.1 ≤ t) (h2 : t ≤ r.2) : Mem xs t := by
  have := hn.1 r hr
  unfold Okv at this
  exact ⟨by omega, by omega, r, hr, h1, h2⟩

theorem chain_is {xs ys : List Iv} (hn : Norm xs) {a b lo hi : Int} {back : Bool} (h0 : 0 ≤ a) (h1 : a ≤ b) (h2 : b ≤ 1099511627776) (t : Int) :
    (lo ≤ t ∧ t ≤ hi ∧ ((a = 0 ∧ Mem ys t) ∨ ∃ r ∈ xs, pieceS (Mem ys) a b back r t)) ↔ chainS (Mem xs) (Mem ys) a b lo hi back t := by
  unfold chainS
  constructor
  · rintro ⟨k1, k2, h | ⟨r, hr, h⟩⟩
    · refine ⟨k1, k2, t, ?_, h.2, fun v hv => ?_⟩
      · unfold inW; split <;> omega
      · unfold btw at hv; split at hv <;> omega
    · refine ⟨k1, k2, ?_⟩
      unfold pieceS at h
      cases back
      · simp only [Bool.false_eq_true, if_false] at h
        unfold growS clipS at h
        obtain ⟨_, g1, g2, _, u, g3, g4, g5, g6, g7⟩ := h
        refine ⟨u, by simp [inW]; omega, g7, fun v hv => ?_⟩
        simp [btw] at hv
        exact mem_of hn hr (by omega) (by omega)
      · simp only [if_true] at h
        unfold growS clipS at h
        obtain ⟨_, g1, g2, _, u, g3, g4, g5, g6, g7⟩ := h
        refine ⟨u, by simp [inW]; omega, g7, fun v hv => ?_⟩
        simp [btw] at hv
        exact mem_of hn hr (by omega) (by omega)
  · rintro ⟨k1, k2, u, hw, hy, hx⟩
    refine ⟨k1, k2, ?_⟩
    by_cases hut : u = t
    · left
      subst hut
      refine ⟨?_, hy⟩
      unfold inW at hw; split at hw <;> omega
    · right
      cases back
      · simp [inW] at hw
        obtain ⟨r, hr, g1, g2⟩ := mem_pick (hx t (by simp [btw]; omega))
        have hu : u ≤ r.2 + 1 := by
          refine Classical.byContradiction fun hc => (mem_gap hn hr).1 (hx (r.2 + 1) (by simp [btw]; omega))
        have o := hn.1 r hr
        unfold Okv at o
        refine ⟨r, hr, ?_⟩
        simp only [pieceS, Bool.false_eq_true, if_false, growS, clipS, Time, dlyB_iff]
        exact ⟨by omega, g1, g2, by omega, u, by omega, by omega, by omega, by omega, hy⟩
      · simp [inW] at hw
        obtain ⟨r, hr, g1, g2⟩ := mem_pick (hx t (by simp [btw]; omega))
        have hu : r.1 - 1 ≤ u := by
          refine Classical.byContradiction fun hc => (mem_gap hn hr).2 (hx (r.1 - 1) (by simp [btw]; omega))
        have o := hn.1 r hr
        unfold Okv at o
        refine ⟨r, hr, ?_⟩
        simp only [pieceS, if_true, growS, clipS, Time, dlyB_iff]
        exact ⟨by omega, g1, g2, by omega, u, by omega, by omega, by omega, by omega, hy⟩

theorem link_true {X Y : Int → Prop} {a b lo hi : Int} {back : Bool} (h : alwB 0 a b lo hi = true) (t : Int) :
    chainS (clipS X lo hi) (clipS Y lo hi) a b lo hi back t ↔ linkS X Y a b lo hi back t := by
  have g := alwB_iff.1 h
  unfold chainS linkS clipS
  constructor
  · rintro ⟨k1, k2, u, hw, hy, hx⟩
    exact ⟨h, k1, k2, u, hy.1, hy.2.1, hw, hy.2.2, fun v hv => (hx v hv).2.2⟩
  · rintro ⟨_, k1, k2, u, g1, g2, hw, hy, hx⟩
    refine ⟨k1, k2, u, hw, ⟨g1, g2, hy⟩, fun v hv => ⟨?_, ?_, hx v hv⟩⟩
    · unfold btw at hv; split at hv <;> omega
    · unfold btw at hv; split at hv <;> omega

theorem link_false {F G : Int → Prop} {a b lo hi : Int} {back : Bool} (h : alwB 0 a b lo hi = true) (t : Int) :
    complS (chainS (complS (clipS F lo hi) lo hi) (complS (clipS G lo hi) lo hi) a b lo hi back) lo hi t ↔ unlinkS F G a b lo hi back t := by
  have g := alwB_iff.1 h
  unfold complS chainS unlinkS clipS Time
  constructor
  · rintro ⟨k1, k2, _, hn⟩
    refine ⟨h, k1, k2, fun u g1 g2 hw => Classical.byContradiction fun hc => hn ⟨k1, k2, u, hw, ⟨g1, g2, by omega, fun hg => hc (.inl hg.2.2)⟩, fun v hv => ?_⟩⟩
    have hv1 : lo ≤ v ∧ v ≤ hi := by unfold btw at hv; split at hv <;> omega
    exact ⟨hv1.1, hv1.2, by omega, fun hf => hc (.inr ⟨v, hv, hf.2.2⟩)⟩
  · rintro ⟨_, k1, k2, hn⟩
    refine ⟨k1, k2, by omega, ?_⟩
    rintro ⟨_, _, u, hw, ⟨g1, g2, _, g4⟩, hx⟩
    rcases hn u g1 g2 hw with hg | ⟨v, hv, hf⟩
    · exact g4 ⟨g1, g2, hg⟩
    · obtain ⟨e1, e2, _, e4⟩ := hx v hv
      exact e4 ⟨e1, e2, hf⟩

theorem linkS_congr {X X' Y Y' : Int → Prop} (hx : ∀ t, X t ↔ X' t) (hy : ∀ t, Y t ↔ Y' t) (a b lo hi : Int) (back : Bool) (t : Int) : linkS X Y a b lo hi back t ↔ linkS X' Y' a b lo hi back t := by
  unfold linkS; simp only [hx, hy]
theorem unlinkS_congr {X X' Y Y' : Int → Prop} (hx : ∀ t, X t ↔ X' t) (hy : ∀ t, Y t ↔ Y' t) (a b lo hi : Int) (back : Bool) (t : Int) : unlinkS X Y a b lo hi back t ↔ unlinkS X' Y' a b lo hi back t := by
  unfold unlinkS; simp only [hx, hy]

end Go.Proofs.Ytkbiefklilelmaa
