/-
  Several texts in one: MatchL. Each says at its head what it holds.
-/
import Derived.Test.YtkbiefklilelmaaMR7

/-
  Plain laws of matches: a later end, a part of a range, a number added to all times. No program in sight.
-/
namespace Go.Proofs.Ytkbiefklilelmaa

theorem nth_mem {α : Type} {l : List (List α)} {i : Int} {y : α} (h : y ∈ nth l i) : ∃ r ∈ l, y ∈ r := by
  unfold nth at h
  rw [List.getD_eq_getElem?_getD] at h
  cases hx : l[i.toNat]? with
  | none => rw [hx] at h; simp at h
  | some r => rw [hx] at h; exact ⟨r, List.mem_of_getElem? hx, by simpa using h⟩

section
variable {x : Inp} {st en later : Int}
theorem HoldW.less {cs : List (List Iv)} {wh u v v' : Int} (h : HoldW cs wh u v) (hv : v' ≤ v) : HoldW cs wh u v' := by
  rcases h with h | h
  · exact .inl h
  · exact .inr fun t h1 h2 => h t h1 (by omega)
theorem Rch.more (hl : en ≤ later) {s t : Int} (h : Rch x st en s t) : Rch x st later s t := by
  induction h with
  | base e he h0 hs => exact .base e he h0 hs
  | step u e t h he hg ih => exact .step u e t ih he ⟨hg.1, hg.2.1, hg.2.2.1, Int.le_trans hg.2.2.2.1 hl, hg.2.2.2.2⟩
/-- what is reached by a later end at a time up to an end is reached by that end -/
theorem Rch.cut (hlow : ∀ e ∈ x.edges, 0 ≤ e.low) {s t : Int} (h : Rch x st later s t) (ht : t ≤ en) : Rch x st en s t := by
  induction h with
  | base e he h0 hs => exact .base e he h0 hs
  | step u e t h he hg ih =>
    have := hlow e he
    have := hg.2.1
    exact .step u e t (ih (by omega)) he ⟨hg.1, hg.2.1, hg.2.2.1, ht, hg.2.2.2.2⟩
/-- a way to a time behind an end has a last point up to that end -/
theorem Rch.over (hlow : ∀ e ∈ x.edges, 0 ≤ e.low) (hse : st ≤ en) {s t : Int} (h : Rch x st later s t) (ht : en < t) : ∃ u, ∃ e ∈ x.edges, Rch x st en e.from_ u ∧ en - u < e.high ∧ HoldW x.cs e.while_ u (en + 1) := by
  induction h with
  | base e he h0 hs => omega
  | step u e t h he hg ih =>
    by_cases hu : en < u
    · exact ih hu
    · refine ⟨u, e, he, h.cut hlow (by omega), ?_, hg.2.2.2.2.less (by omega)⟩
      have := hg.2.2.1
      omega

theorem ends_law (hlow : ∀ e ∈ x.edges, 0 ≤ e.low) {to_ : Int} (hte : to_ ≤ en) (hl : en ≤ later) {xs ys : List Iv} {os : List Int}
    (hx : IsRun x 0 to_ en xs) (hy : IsRun x 0 to_ later ys) (ho : IsOpen x 0 to_ en os) : (∀ p ∈ xs, p ∈ ys) ∧ ∀ p ∈ ys, p ∉ xs → p.1 ∈ os ∧ en < p.2 := by
  constructor
  · intro p hp
    obtain ⟨h1, ⟨s, h2, h3⟩, h4⟩ := (hx.2 p).1 hp
    refine (hy.2 p).2 ⟨h1, ⟨s, h2.more hl, h3⟩, fun t ⟨s', h5, h6⟩ => ?_⟩
    rcases Int.lt_or_le en t with h7 | h7
    · have := h2.end_ (by have := h1.2.1; omega)
      omega
    · exact h4 t ⟨s', h5.cut hlow h7, h6⟩
  · intro p hp hn
    obtain ⟨h1, ⟨s, h2, h3⟩, h4⟩ := (hy.2 p).1 hp
    have hno : ¬ ∃ t, FinS x p.1 en t := by
      rintro ⟨t, s', h5, h6⟩
      have hte' := h5.end_ (by have := h1.2.1; omega)
      have hle := h4 t ⟨s', h5.more hl, h6⟩
      exact hn ((hx.2 p).2 ⟨h1, ⟨s, h2.cut hlow (by omega), h3⟩, fun u ⟨s2, h8, h9⟩ => h4 u ⟨s2, h8.more hl, h9⟩⟩)
    have hlt : en < p.2 := Int.not_le.1 fun hle => hno ⟨p.2, s, h2.cut hlow hle, h3⟩
    exact ⟨(ho.2 p.1).2 ⟨h1, hno, h2.over hlow (by have := h1.2.1; omega) hlt⟩, hlt⟩

/-- a part of a range -/
theorem part_law {from_ to_ a b : Int} (h1 : from_ ≤ a) (h2 : b ≤ to_) {xs ys : List Iv} (hx : IsRun x from_ to_ en xs) (hy : IsRun x a b en ys) : ys = xs.filter fun p => decide (a ≤ p.1) && decide (p.1 ≤ b) := by
  refine sorted_ext (fun p : Iv => p.1) hy.1 (hx.1.filter _) fun p => ?_
  rw [List.mem_filter, hy.2, hx.2, Bool.and_eq_true, decide_eq_true_iff, decide_eq_true_iff]
  unfold StartS
  constructor
  · rintro ⟨⟨h3, h4, h5⟩, h6⟩
    exact ⟨⟨⟨by omega, by omega, h5⟩, h6⟩, h3, h4⟩
  · rintro ⟨⟨⟨_, _, h5⟩, h6⟩, h3, h4⟩
    exact ⟨⟨h3, h4, h5⟩, h6⟩

/-- the second input is the first one, all times of which up to an end have been moved -/
structure MovedI (x y : Inp) (en by_ : Int) : Prop where
  edges : y.edges = x.edges
  fin : y.fin = x.fin
  ev : ∀ i t, t ≤ en → (t ∈ nth x.ev i ↔ t + by_ ∈ nth y.ev i)
  cs : ∀ i t, 0 ≤ t → t ≤ en → (Mem (nth x.cs i) t ↔ Mem (nth y.cs i) (t + by_))

theorem HoldW.move {y : Inp} {by_ : Int} (hm : MovedI x y en by_) {wh u v : Int} (hu : 0 ≤ u) (hv : v ≤ en) : HoldW x.cs wh u v ↔ HoldW y.cs wh (u + by_) (v + by_) := by
  unfold HoldW
  constructor
  · rintro (h | h)
    · exact .inl h
    · refine .inr fun t h1 h2 => ?_
      have := (hm.cs wh (t - by_) (by omega) (by omega)).1 (h (t - by_) (by omega) (by omega))
      rwa [Int.sub_add_cancel] at this
  · rintro (h | h)
    · exact .inl h
    · exact .inr fun t h1 h2 => (hm.cs wh t (by omega) (by omega)).2 (h (t + by_) (by omega) (by omega))
theorem Rch.move {y : Inp} {by_ : Int} (hm : MovedI x y en by_) (hlow : ∀ e ∈ x.edges, 0 ≤ e.low) (h0 : 0 ≤ st) (hse : st ≤ en) {s t : Int} (h : Rch x st en s t) : Rch y (st + by_) (en + by_) s (t + by_) := by
  induction h with
  | base e he hf hs => exact .base e (by rw [hm.edges]; exact he) hf ((hm.ev _ _ hse).1 hs)
  | step u e t h he hg ih =>
    have := h.time hlow
    obtain ⟨g1, g2, g3, g4, g5⟩ := hg
    exact .step (u + by_) e (t + by_) ih (by rw [hm.edges]; exact he) ⟨(hm.ev _ _ g4).1 g1, by omega, by omega, by omega, (HoldW.move hm (by omega) g4).1 g5⟩
theorem Rch.back {y : Inp} {by_ : Int} (hm : MovedI x y en by_) (hlow : ∀ e ∈ x.edges, 0 ≤ e.low) (h0 : 0 ≤ st) (hse : st ≤ en) {st' en' s t : Int} (h : Rch y st' en' s t) (h1 : st' = st + by_) (h2 : en' = en + by_) : Rch x st en s (t - by_) := by
  subst h1 h2
  induction h with
  | base e he hf hs =>
    rw [Int.add_sub_cancel]
    exact .base e (by rw [← hm.edges]; exact he) hf ((hm.ev _ _ hse).2 hs)
  | step u e t h he hg ih =>
    have h3 := ih.time hlow
    obtain ⟨g1, g2, g3, g4, g5⟩ := hg
    refine .step (u - by_) e (t - by_) ih (by rw [← hm.edges]; exact he) ⟨(hm.ev _ _ (by omega)).2 (by rwa [Int.sub_add_cancel]), by omega, by omega, by omega, (HoldW.move hm (by omega) (by omega)).2 ?_⟩
    rwa [Int.sub_add_cancel, Int.sub_add_cancel]
theorem rch_move {y : Inp} {by_ : Int} (hm : MovedI x y en by_) (hlow : ∀ e ∈ x.edges, 0 ≤ e.low) (h0 : 0 ≤ st) (hse : st ≤ en) (s t : Int) : Rch x st en s t ↔ Rch y (st + by_) (en + by_) s (t + by_) :=
  ⟨Rch.move hm hlow h0 hse, fun h => by have := Rch.back hm hlow h0 hse h rfl rfl; rwa [Int.add_sub_cancel] at this⟩

def mv (by_ : Int) (p : Iv) : Iv := (p.1 + by_, p.2 + by_)
theorem move_law {y : Inp} {by_ : Int} (hm : MovedI x y en by_) (hlow : ∀ e ∈ x.edges, 0 ≤ e.low) {from_ to_ : Int} (h0 : 0 ≤ from_) (hte : to_ ≤ en) {xs ys : List Iv} (hx : IsRun x from_ to_ en xs) (hy : IsRun y (from_ + by_) (to_ + by_) (en + by_) ys) : ys = xs.map (mv by_) := by
  refine sorted_ext (fun p : Iv => p.1) hy.1 ?_ fun p => ?_
  · rw [List.pairwise_map]
    exact hx.1.imp fun h => by unfold mv; simp only; omega
  · have key : ∀ q : Iv, (StartS y (from_ + by_) (to_ + by_) (q.1 + by_) ∧ LeastOf (FinS y (q.1 + by_) (en + by_)) (q.2 + by_)) ↔ (StartS x from_ to_ q.1 ∧ LeastOf (FinS x q.1 en) q.2) := by
      rintro ⟨a, b⟩
      dsimp only
      have hs : StartS y (from_ + by_) (to_ + by_) (a + by_) ↔ StartS x from_ to_ a := by
        unfold StartS
        rw [hm.edges]
        constructor
        · rintro ⟨h1, h2, e, he, h3, h4⟩
          exact ⟨by omega, by omega, e, he, h3, (hm.ev _ _ (by omega)).2 h4⟩
        · rintro ⟨h1, h2, e, he, h3, h4⟩
          exact ⟨by omega, by omega, e, he, h3, (hm.ev _ _ (by omega)).1 h4⟩
      rw [hs]
      refine and_congr_right fun hst => ?_
      have hf : ∀ t, FinS x a en t ↔ FinS y (a + by_) (en + by_) (t + by_) := fun t => by
        unfold FinS
        rw [hm.fin]
        exact ⟨fun ⟨s, h1, h2⟩ => ⟨s, (rch_move hm hlow (by have := hst.1; omega) (by have := hst.2.1; omega) s t).1 h1, h2⟩, fun ⟨s, h1, h2⟩ => ⟨s, (rch_move hm hlow (by have := hst.1; omega) (by have := hst.2.1; omega) s t).2 h1, h2⟩⟩
      unfold LeastOf
      rw [hf]
      refine and_congr_right fun _ => ⟨fun h t ht => ?_, fun h t ht => ?_⟩
      · have := h (t + by_) ((hf t).1 ht)
        omega
      · have := h (t - by_) ((hf _).2 (by rwa [Int.sub_add_cancel]))
        omega
    rw [hy.2, List.mem_map]
    constructor
    · intro h
      refine ⟨(p.1 - by_, p.2 - by_), (hx.2 _).2 ((key _).1 ?_), ?_⟩
      · simpa [Int.sub_add_cancel] using h
      · unfold mv; simp only [Int.sub_add_cancel]
    · rintro ⟨q, hq, rfl⟩
      exact (key q).2 ((hx.2 q).1 hq)
end

/-- how far the comparison of two sorted lists has come: so many of xs lie among the first k of ys, the others behind -/
def Eaten (xs ys : List Iv) (k n : Nat) : Prop := n ≤ xs.length ∧ (∀ i p, i < n → xs[i]? = some p → p ∈ ys.take k) ∧ ∀ i p, n ≤ i → xs[i]? = some p → p ∈ ys.drop k
theorem Eaten.zero {xs ys : List Iv} (h : ∀ p ∈ xs, p ∈ ys) : Eaten xs ys 0 0 := ⟨Nat.zero_le _, fun i p hi => absurd hi (Nat.not_lt_zero _), fun i p _ hp => by simpa using h p (List.mem_of_getElem? hp)⟩
theorem pw_lt {xs : List Iv} (h : xs.Pairwise fun a b => a.1 < b.1) {i j : Nat} {a b : Iv} (hij : i < j) (ha : xs[i]? = some a) (hb : xs[j]? = some b) : a.1 < b.1 := by
  obtain ⟨h1, rfl⟩ := List.getElem?_eq_some_iff.1 ha
  obtain ⟨h2, rfl⟩ := List.getElem?_eq_some_iff.1 hb
  exact List.pairwise_iff_getElem.1 h i j h1 h2 hij
theorem drop_next {ys : List Iv} {k : Nat} {m p : Iv} (hk : ys[k]? = some m) (h : p ∈ ys.drop k) (hne : p ≠ m) : p ∈ ys.drop (k + 1) := by
  obtain ⟨hl, rfl⟩ := List.getElem?_eq_some_iff.1 hk
  rw [List.drop_eq_getElem_cons hl] at h
  rcases List.mem_cons.1 h with h | h
  · exact absurd h hne
  · exact h
theorem Eaten.hit {xs ys : List Iv} (hx : xs.Pairwise fun a b => a.1 < b.1) {k n : Nat} {m : Iv} (h : Eaten xs ys k n) (hk : ys[k]? = some m) (hn : xs[n]? = some m) : Eaten xs ys (k + 1) (n + 1) := by
  have hl := (List.getElem?_eq_some_iff.1 hn).1
  refine ⟨hl, fun i p hi hp => ?_, fun i p hi hp => drop_next hk (h.2.2 i p (by omega) hp) fun e => ?_⟩
  · rcases Nat.lt_or_ge i n with h1 | h1
    · exact List.take_subset_take_left _ (Nat.le_succ k) (h.2.1 i p h1 hp)
    · have : i = n := by omega
      subst this
      rw [hn] at hp
      injection hp with hp
      subst hp
      obtain ⟨hl', rfl⟩ := List.getElem?_eq_some_iff.1 hk
      rw [List.take_succ_eq_append_getElem hl']
      exact List.mem_append_right _ (List.mem_singleton.2 rfl)
  · have := pw_lt hx (by omega : n < i) hn hp
    rw [e] at this
    omega
theorem Eaten.miss {xs ys : List Iv} (hx : xs.Pairwise fun a b => a.1 < b.1) (hy : ys.Pairwise fun a b => a.1 < b.1) {k n : Nat} {m : Iv} (h : Eaten xs ys k n) (hk : ys[k]? = some m) (hn : xs[n]? ≠ some m) : Eaten xs ys (k + 1) n ∧ m ∉ xs := by
  have hfar : ∀ p, p ∈ ys.drop k → m.1 ≤ p.1 := fun p hp => by
    obtain ⟨j, hj⟩ := List.getElem?_of_mem hp
    rw [List.getElem?_drop] at hj
    rcases Nat.eq_zero_or_pos j with h0 | h0
    · subst h0
      rw [Nat.add_zero, hk] at hj
      injection hj with hj
      rw [hj]
      exact Int.le_refl _
    · have := pw_lt hy (by omega : k < k + j) hk hj
      omega
  have hne : ∀ i p, n ≤ i → xs[i]? = some p → p ≠ m := fun i p hi hp e => by
    subst e
    rcases Nat.lt_or_ge n i with h1 | h1
    · have hl : n < xs.length := by have := (List.getElem?_eq_some_iff.1 hp).1; omega
      have h2 := pw_lt hx h1 (List.getElem?_eq_getElem hl) hp
      have h3 := hfar _ (h.2.2 n _ (Nat.le_refl _) (List.getElem?_eq_getElem hl))
      omega
    · have : i = n := by omega
      subst this
      exact hn hp
  refine ⟨⟨h.1, fun i p hi hp => List.take_subset_take_left _ (Nat.le_succ k) (h.2.1 i p hi hp), fun i p hi hp => drop_next hk (h.2.2 i p hi hp) (hne i p hi hp)⟩, fun hm => ?_⟩
  obtain ⟨i, hi⟩ := List.getElem?_of_mem hm
  rcases Nat.lt_or_ge i n with h1 | h1
  · have h2 := h.2.1 i m h1 hi
    obtain ⟨j, hj⟩ := List.getElem?_of_mem h2
    rw [List.getElem?_take] at hj
    split at hj
    · rename_i hjk
      have := pw_lt hy hjk hj hk
      omega
    · cases hj
  · exact hne i m h1 hi rfl
theorem Eaten.done {xs ys : List Iv} {n : Nat} (h : Eaten xs ys ys.length n) : n = xs.length := by
  rcases Nat.lt_or_ge n xs.length with h1 | h1
  · have := h.2.2 n _ (Nat.le_refl _) (List.getElem?_eq_getElem h1)
    rw [List.drop_length] at this
    simp at this
  · have := h.1
    omega

end Go.Proofs.Ytkbiefklilelmaa
