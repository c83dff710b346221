/-
  Plain mathematics of the combination of two normal lists by their cuts; sorted numbers without repetitions. No program in sight.
-/
import Derived.Test.YtdlebcijgdkfjaaGreatDoorSets
import Derived.Lib.SlicesCompact
namespace Go.Proofs.YtdlebcijgdkfjaaGreatDoor

/-- membership as a test -/
def memB (xs : List Iv) (t : Int) : Bool := xs.any fun x => decide (x.1 ≤ t ∧ t ≤ x.2)
theorem memB_iff {xs : List Iv} {t : Int} : memB xs t = true ↔ ∃ x ∈ xs, x.1 ≤ t ∧ t ≤ x.2 := by simp [memB]
theorem memB_norm {xs : List Iv} (h : Norm xs) (t : Int) : memB xs t = true ↔ Mem xs t := by
  rw [memB_iff]
  constructor
  · rintro ⟨x, hx, h1, h2⟩
    have := h.1 x hx
    unfold Okv at this
    exact ⟨by omega, by omega, x, hx, h1, h2⟩
  · rintro ⟨_, _, x, hx, h1, h2⟩
    exact ⟨x, hx, h1, h2⟩

/-- membership in the set of whatever list, as a test -/
def memT (xs : List Iv) (t : Int) : Bool := decide (0 ≤ t ∧ t ≤ 1099511627776) && memB xs t
theorem memT_iff {xs : List Iv} {t : Int} : memT xs t = true ↔ Mem xs t := by
  unfold memT
  rw [Bool.and_eq_true, memB_iff, decide_eq_true_eq]
  exact ⟨fun ⟨⟨h1, h2⟩, h3⟩ => ⟨h1, h2, h3⟩, fun ⟨h1, h2, h3⟩ => ⟨⟨h1, h2⟩, h3⟩⟩
theorem memB_eq_memT {xs ys : List Iv} (h : Norm ys) (hm : ∀ t, Mem ys t ↔ Mem xs t) (t : Int) : memB ys t = memT xs t := by
  rw [Bool.eq_iff_iff, memB_norm h, hm, memT_iff]

/-- the cuts of a list -/
def cutsOf (xs : List Iv) : List Int := xs.flatMap fun x => [x.1, x.2 + 1]
theorem mem_cutsOf {xs : List Iv} {v : Int} : v ∈ cutsOf xs ↔ ∃ x ∈ xs, v = x.1 ∨ v = x.2 + 1 := by simp [cutsOf]
theorem cutsOf_length (xs : List Iv) : (cutsOf xs).length = 2 * xs.length := by
  unfold cutsOf
  induction xs with
  | nil => rfl
  | cons x xs ih => rw [List.flatMap_cons, List.length_append, ih]; simp; omega
theorem cutsOf_snoc (xs : List Iv) (x : Iv) : cutsOf (xs ++ [x]) = cutsOf xs ++ [x.1, x.2 + 1] := by simp [cutsOf]
theorem cutsOf_append (xs ys : List Iv) : cutsOf (xs ++ ys) = cutsOf xs ++ cutsOf ys := by simp [cutsOf]

/-- between two cuts membership does not change -/
theorem memB_const {xs : List Iv} {p t : Int} (hpt : p ≤ t) (h : ∀ v ∈ cutsOf xs, v ≤ p ∨ t < v) : memB xs t = memB xs p := by
  rw [Bool.eq_iff_iff, memB_iff, memB_iff]
  constructor
  · rintro ⟨x, hx, h1, h2⟩
    have := h x.1 (mem_cutsOf.2 ⟨x, hx, .inl rfl⟩)
    exact ⟨x, hx, by omega, by omega⟩
  · rintro ⟨x, hx, h1, h2⟩
    have := h (x.2 + 1) (mem_cutsOf.2 ⟨x, hx, .inr rfl⟩)
    exact ⟨x, hx, by omega, by omega⟩

/-- the index where the search in a normal list stands -/
theorem memB_at {xs : List Iv} (hn : Norm xs) {i : Nat} {t : Int} (hlo : ∀ j (hj : j < xs.length), j < i → xs[j].2 < t) (hhi : ∀ (h : i < xs.length), t ≤ xs[i].2) :
    memB xs t = true ↔ ∃ h : i < xs.length, xs[i].1 ≤ t := by
  rw [memB_iff]
  constructor
  · rintro ⟨x, hx, h1, h2⟩
    obtain ⟨j, hj, rfl⟩ := List.getElem_of_mem hx
    have hij : i ≤ j := by
      rcases Nat.lt_or_ge j i with h | h
      · have := hlo j hj h; omega
      · exact h
    have hi : i < xs.length := by omega
    refine ⟨hi, ?_⟩
    rcases Nat.lt_or_ge i j with h | h
    · have := List.pairwise_iff_getElem.1 hn.2 i j hi hj h
      have := hhi hi
      omega
    · have : i = j := by omega
      subst this
      exact h1
  · rintro ⟨hi, h⟩
    exact ⟨xs[i], List.getElem_mem _, h, hhi hi⟩

/-- strictly increasing numbers: the place of a number between two of them -/
theorem place_of {ps : List Int} {t : Int} (i j : Nat) (hj : j < ps.length) (hi : ps.getD i 0 ≤ t) (hj' : t < ps.getD j 0) (hij : i < j) : ∃ m, m + 1 < ps.length ∧ ps.getD m 0 ≤ t ∧ t < ps.getD (m + 1) 0 := by
  obtain ⟨d, rfl⟩ : ∃ d, j = i + 1 + d := ⟨j - (i + 1), by omega⟩
  induction d with
  | zero => exact ⟨i, hj, hi, hj'⟩
  | succ d ih =>
    rcases Int.lt_or_le t (ps.getD (i + 1 + d) 0) with h | h
    · exact ih (by omega) h (by omega)
    · exact ⟨i + 1 + d, by omega, h, hj'⟩

/-- the parts between the first n + 1 cuts in which the rule holds -/
def segs (rule : Bool → Bool → Bool) (a b : List Iv) (ps : List Int) (n : Nat) : List Iv :=
  ((List.range n).filter fun m => rule (memB a (ps.getD m 0)) (memB b (ps.getD m 0))).map fun m => (ps.getD m 0, ps.getD (m + 1) 0 - 1)

theorem segs_succ (rule : Bool → Bool → Bool) (a b : List Iv) (ps : List Int) (n : Nat) :
    segs rule a b ps (n + 1) = segs rule a b ps n ++ if rule (memB a (ps.getD n 0)) (memB b (ps.getD n 0)) then [(ps.getD n 0, ps.getD (n + 1) 0 - 1)] else [] := by
  unfold segs
  rw [List.range_succ, List.filter_append, List.map_append]
  congr 1
  by_cases h : rule (memB a (ps.getD n 0)) (memB b (ps.getD n 0)) = true
  · simp only [List.filter_cons, List.filter_nil]
    rw [if_pos h, if_pos h]; rfl
  · simp only [List.filter_cons, List.filter_nil]
    rw [if_neg h, if_neg h]; rfl

theorem segs_len (rule : Bool → Bool → Bool) (a b : List Iv) (ps : List Int) (n : Nat) : (segs rule a b ps n).length ≤ n := by
  unfold segs
  rw [List.length_map]
  exact Nat.le_trans (List.length_filter_le _ _) (by simp)

theorem getD_mono {ps : List Int} (h : ps.Pairwise (· < ·)) {i j : Nat} (hij : i < j) (hj : j < ps.length) : ps.getD i 0 < ps.getD j 0 := by
  have := List.pairwise_iff_getElem.1 h i j (by omega) hj hij
  simpa [List.getD_eq_getElem?_getD, List.getElem?_eq_getElem hj, List.getElem?_eq_getElem (show i < ps.length by omega)] using this

theorem getD_of_mem {ps : List Int} {v : Int} (h : v ∈ ps) : ∃ i, i < ps.length ∧ ps.getD i 0 = v := by
  obtain ⟨i, hi, rfl⟩ := List.getElem_of_mem h
  exact ⟨i, hi, by simp [List.getD_eq_getElem?_getD, List.getElem?_eq_getElem hi]⟩

theorem segs_mem (rule : Bool → Bool → Bool) (hr : rule false false = false) {a b : List Iv} (ha : Norm a) (hb : Norm b) {ps : List Int} (hp : ps.Pairwise (· < ·)) (hc : ∀ v, v ∈ ps ↔ v ∈ cutsOf (a ++ b)) (t : Int) :
    Mem (segs rule a b ps (ps.length - 1)) t ↔ rule (memB a t) (memB b t) = true := by
  have hconst : ∀ m, m + 1 < ps.length → ps.getD m 0 ≤ t → t < ps.getD (m + 1) 0 → memB a t = memB a (ps.getD m 0) ∧ memB b t = memB b (ps.getD m 0) := by
    intro m hm h1 h2
    have key : ∀ v ∈ cutsOf (a ++ b), v ≤ ps.getD m 0 ∨ t < v := by
      intro v hv
      obtain ⟨i, hi, rfl⟩ := getD_of_mem ((hc v).2 hv)
      rcases Nat.lt_trichotomy i m with h | h | h
      · exact .inl (Int.le_of_lt (getD_mono hp h (by omega)))
      · subst h; exact .inl (Int.le_refl _)
      · right
        rcases Nat.lt_or_ge (m + 1) i with h' | h'
        · exact Int.lt_trans h2 (getD_mono hp h' hi)
        · have : i = m + 1 := by omega
          subst this; exact h2
    rw [cutsOf_append] at key
    exact ⟨memB_const h1 fun v hv => key v (by simp [hv]), memB_const h1 fun v hv => key v (by simp [hv])⟩
  constructor
  · rintro ⟨_, _, x, hx, h1, h2⟩
    unfold segs at hx
    rw [List.mem_map] at hx
    obtain ⟨m, hm, rfl⟩ := hx
    rw [List.mem_filter, List.mem_range] at hm
    dsimp only at h1 h2
    obtain ⟨e1, e2⟩ := hconst m (by omega) h1 (by omega)
    rw [e1, e2]
    exact hm.2
  · intro h
    have hex : ∃ x ∈ a ++ b, x.1 ≤ t ∧ t ≤ x.2 := by
      by_cases h1 : memB a t = true
      · obtain ⟨x, hx, h2⟩ := memB_iff.1 h1
        exact ⟨x, by simp [hx], h2⟩
      · by_cases h3 : memB b t = true
        · obtain ⟨x, hx, h2⟩ := memB_iff.1 h3
          exact ⟨x, by simp [hx], h2⟩
        · simp only [Bool.not_eq_true] at h1 h3
          rw [h1, h3, hr] at h
          cases h
    obtain ⟨x, hx, h1, h2⟩ := hex
    have hox : Okv x := by
      rcases List.mem_append.1 hx with hx | hx
      · exact ha.1 x hx
      · exact hb.1 x hx
    unfold Okv at hox
    obtain ⟨i, hi, ei⟩ := getD_of_mem ((hc x.1).2 (mem_cutsOf.2 ⟨x, hx, .inl rfl⟩))
    obtain ⟨j, hj, ej⟩ := getD_of_mem ((hc (x.2 + 1)).2 (mem_cutsOf.2 ⟨x, hx, .inr rfl⟩))
    have hij : i < j := by
      rcases Nat.lt_trichotomy i j with h' | h' | h'
      · exact h'
      · rw [h'] at ei; omega
      · have := getD_mono hp h' hi; rw [ei, ej] at this; omega
    obtain ⟨m, hm, h3, h4⟩ := place_of (ps := ps) (t := t) i j hj (by omega) (by omega) hij
    obtain ⟨e1, e2⟩ := hconst m hm h3 h4
    refine ⟨by omega, by omega, (ps.getD m 0, ps.getD (m + 1) 0 - 1), ?_, h3, by dsimp only; omega⟩
    unfold segs
    rw [List.mem_map]
    exact ⟨m, by rw [List.mem_filter, List.mem_range]; exact ⟨by omega, by rw [← e1, ← e2]; exact h⟩, rfl⟩

/-! sorted numbers without repetitions -/
theorem compact_mem (zs : List Int) (v : Int) : v ∈ Lib.compact zs ↔ v ∈ zs := by
  unfold Lib.compact Lib.compactUpTo
  rw [List.mem_map]
  constructor
  · rintro ⟨j, hj, rfl⟩
    rw [List.mem_filter, List.mem_range] at hj
    have h : j < zs.toArray.size := by simpa using hj.1
    rw [getElem!_pos zs.toArray j h]
    simp
  · intro hv
    obtain ⟨j, hj, rfl⟩ := List.getElem_of_mem hv
    have hex : ∃ i, i < zs.length ∧ zs.toArray[i]! = zs[j] ∧ Lib.keeps zs.toArray i = true := by
      induction j with
      | zero => exact ⟨0, hj, by rw [getElem!_pos zs.toArray 0 (by simpa using hj)]; simp, by simp [Lib.keeps]⟩
      | succ j ih =>
        have e1 : zs.toArray[j + 1]! = zs[j + 1] := by rw [getElem!_pos zs.toArray (j + 1) (by simpa using hj)]; simp
        have e0 : zs.toArray[j]! = zs[j] := by rw [getElem!_pos zs.toArray j (by simp; omega)]; simp
        by_cases hk : zs.toArray[j + 1]! = zs.toArray[j + 1 - 1]!
        · obtain ⟨i, hi, h1, h2⟩ := ih (by omega) (List.getElem_mem _)
          refine ⟨i, hi, ?_, h2⟩
          rw [Nat.add_sub_cancel, e1, e0] at hk
          rw [h1, hk]
        · exact ⟨j + 1, hj, e1, Lib.keeps_pos hk⟩
    obtain ⟨i, hi, h1, h2⟩ := hex
    exact ⟨i, by rw [List.mem_filter, List.mem_range]; exact ⟨hi, h2⟩, h1⟩

theorem compact_sorted (zs : List Int) (h : zs.Pairwise (· ≤ ·)) : (Lib.compact zs).Pairwise (· < ·) := by
  unfold Lib.compact Lib.compactUpTo
  rw [List.pairwise_map]
  have h1 : ((List.range zs.length).filter (Lib.keeps zs.toArray)).Pairwise (· < ·) := List.Pairwise.filter _ List.pairwise_lt_range
  refine List.Pairwise.imp_of_mem ?_ h1
  intro i j hi hj hij
  rw [List.mem_filter, List.mem_range] at hi hj
  have hle := List.pairwise_iff_getElem.1 h
  have e : ∀ m (hm : m < zs.length), zs.toArray[m]! = zs[m] := fun m hm => by rw [getElem!_pos zs.toArray m (by simpa using hm)]; simp
  have hk : zs.toArray[j]! ≠ zs.toArray[j - 1]! := by
    have := hj.2
    unfold Lib.keeps at this
    simp only [decide_eq_true_eq] at this
    rcases this with h0 | h0
    · omega
    · exact h0
  rw [e j hj.1, e (j - 1) (by omega)] at hk
  have h2 := hle (j - 1) j (by omega) hj.1 (by omega)
  rw [e i hi.1, e j hj.1]
  rcases Nat.lt_or_ge i (j - 1) with h3 | h3
  · have := hle i (j - 1) hi.1 (by omega) h3
    omega
  · have : i = j - 1 := by omega
    subst this
    omega

theorem compact_le (zs : List Int) : (Lib.compact zs).length ≤ zs.length := by
  unfold Lib.compact Lib.compactUpTo
  rw [List.length_map]
  exact Nat.le_trans (List.length_filter_le _ _) (by simp)

theorem mergeSort_sorted (zs : List Int) : (zs.mergeSort fun x y => decide (x ≤ y)).Pairwise (· ≤ ·) := by
  have := List.pairwise_mergeSort (le := fun x y : Int => decide (x ≤ y)) (fun a b c h1 h2 => by simp at *; omega) (fun a b => by simp; omega) zs
  exact this.imp fun h => by simpa using h

end Go.Proofs.YtdlebcijgdkfjaaGreatDoor
