/-
  The reference's until over lists of results answers as the sets of until and since do. No program in sight.
-/
import Derived.Test.YtkbiefklilelmaaWinLaw
import Derived.Test.YtkbiefklilelmaaChainS
namespace Go.Proofs.Ytkbiefklilelmaa

/-- what is reached, and what has held so far, after n steps from t on -/
def unS (x y : List Int) (a : Int) (t : Nat) : Nat → Int × Int
  | 0 => (0, 2)
  | n + 1 => (if a ≤ (n : Int) then max (unS x y a t n).1 (min (y.getD (t + n) 0) (unS x y a t n).2) else (unS x y a t n).1, min (unS x y a t n).2 (x.getD (t + n) 0))
def unN (b : Int) (len t : Nat) : Nat := min (len - t) (b + 1).toNat
def untilL (x y : List Int) (a b : Int) (k : Nat) : List Int := (List.range k).map fun (t : Nat) => (unS x y a t (unN b x.length t)).1
theorem untilL_succ (x y : List Int) (a b : Int) (k : Nat) : untilL x y a b (k + 1) = untilL x y a b k ++ [(unS x y a k (unN b x.length k)).1] := by simp [untilL, List.range_succ]
theorem untilL_len (x y : List Int) (a b : Int) (k : Nat) : (untilL x y a b k).length = k := by simp [untilL]
theorem untilL_get (x y : List Int) (a b : Int) (k i : Nat) (h : i < k) : (untilL x y a b k).getD i 5 = (unS x y a i (unN b x.length i)).1 := by simp [untilL, h]
theorem unS_r (x y : List Int) (a : Int) (t n : Nat) : (unS x y a t (n + 1)).1 = if a ≤ (n : Int) then max (unS x y a t n).1 (min (y.getD (t + n) 0) (unS x y a t n).2) else (unS x y a t n).1 := rfl
theorem unS_h (x y : List Int) (a : Int) (t n : Nat) : (unS x y a t (n + 1)).2 = min (unS x y a t n).2 (x.getD (t + n) 0) := rfl

section
variable {x y : List Int} {a : Int} {t : Nat} (hx : ∀ k, 0 ≤ x.getD k 0 ∧ x.getD k 0 ≤ 2) (hy : ∀ k, 0 ≤ y.getD k 0 ∧ y.getD k 0 ≤ 2)
include hx hy
theorem unS_bd (n : Nat) : (0 ≤ (unS x y a t n).1 ∧ (unS x y a t n).1 ≤ 2) ∧ (0 ≤ (unS x y a t n).2 ∧ (unS x y a t n).2 ≤ 2) := by
  induction n with
  | zero => simp [unS]
  | succ n ih =>
    have h1 := hx (t + n)
    have h2 := hy (t + n)
    rw [unS_r, unS_h]
    constructor
    · split <;> omega
    · omega
theorem unS_held_two (n : Nat) : (unS x y a t n).2 = 2 ↔ ∀ j, j < n → x.getD (t + j) 0 = 2 := by
  induction n with
  | zero => simp [unS]
  | succ n ih =>
    have h1 := hx (t + n)
    have h2 := (unS_bd hx hy (a := a) (t := t) n).2
    rw [unS_h]
    constructor
    · intro h j hj
      by_cases e : j = n
      · subst e; omega
      · exact ih.1 (by omega) j (by omega)
    · intro h
      have e1 := h n (by omega)
      have e2 := ih.2 fun j hj => h j (by omega)
      omega
theorem unS_held_zero (n : Nat) : (unS x y a t n).2 = 0 ↔ ∃ j, j < n ∧ x.getD (t + j) 0 = 0 := by
  induction n with
  | zero => simp [unS]
  | succ n ih =>
    have h1 := hx (t + n)
    have h2 := (unS_bd hx hy (a := a) (t := t) n).2
    rw [unS_h]
    constructor
    · intro h
      by_cases h3 : x.getD (t + n) 0 = 0
      · exact ⟨n, by omega, h3⟩
      · obtain ⟨j, hj, h4⟩ := ih.1 (by omega)
        exact ⟨j, by omega, h4⟩
    · rintro ⟨j, hj, h4⟩
      by_cases h3 : j = n
      · subst h3; omega
      · have := ih.2 ⟨j, by omega, h4⟩; omega
theorem unS_two (n : Nat) : (unS x y a t n).1 = 2 ↔ ∃ j, j < n ∧ a ≤ (j : Int) ∧ y.getD (t + j) 0 = 2 ∧ ∀ i, i < j → x.getD (t + i) 0 = 2 := by
  induction n with
  | zero => simp [unS]
  | succ n ih =>
    have h1 := hy (t + n)
    have h2 := unS_bd hx hy (a := a) (t := t) n
    have h3 := unS_held_two hx hy (a := a) (t := t) n
    rw [unS_r]
    constructor
    · intro h
      by_cases ha : a ≤ (n : Int)
      · rw [if_pos ha] at h
        by_cases h4 : (unS x y a t n).1 = 2
        · obtain ⟨j, hj, k⟩ := ih.1 h4
          exact ⟨j, by omega, k⟩
        · exact ⟨n, by omega, ha, by omega, h3.1 (by omega)⟩
      · rw [if_neg ha] at h
        obtain ⟨j, hj, k⟩ := ih.1 h
        exact ⟨j, by omega, k⟩
    · rintro ⟨j, hj, k1, k2, k3⟩
      by_cases e : j = n
      · subst e
        have := h3.2 k3
        rw [if_pos k1]; omega
      · have := ih.2 ⟨j, by omega, k1, k2, k3⟩
        split <;> omega
theorem unS_zero (n : Nat) : (unS x y a t n).1 = 0 ↔ ∀ j, j < n → a ≤ (j : Int) → y.getD (t + j) 0 = 0 ∨ ∃ i, i < j ∧ x.getD (t + i) 0 = 0 := by
  induction n with
  | zero => simp [unS]
  | succ n ih =>
    have h1 := hy (t + n)
    have h2 := unS_bd hx hy (a := a) (t := t) n
    have h3 := unS_held_zero hx hy (a := a) (t := t) n
    rw [unS_r]
    constructor
    · intro h j hj ha
      by_cases e : j = n
      · subst e
        rw [if_pos ha] at h
        by_cases h4 : y.getD (t + j) 0 = 0
        · exact .inl h4
        · exact .inr (h3.1 (by omega))
      · refine ih.1 ?_ j (by omega) ha
        split at h <;> omega
    · intro h
      have e1 := ih.2 fun j hj ha => h j (by omega) ha
      split
      · rename_i ha
        rcases h n (by omega) ha with h4 | h4
        · omega
        · have := h3.2 h4; omega
      · exact e1
end

section
variable {xs xf ys yf : List Iv} {a b lo hi : Int}

theorem until_true (h : alwB 0 a b lo hi = true) (t : Int) (n : Nat) (hn : (n : Int) = hi - lo + 1) :
    (∃ i : Nat, i < n ∧ t = lo + i ∧ (untilL (listOf xs xf false lo n) (listOf ys yf false lo n) a b n).getD i 5 = 2) ↔ linkS (Mem xs) (Mem ys) a b lo hi false t := by
  have g := alwB_iff.1 h
  unfold linkS inW btw
  simp only [Bool.false_eq_true, if_false]
  constructor
  · rintro ⟨i, hi', rfl, h1⟩
    rw [untilL_get _ _ _ _ _ _ hi', unS_two (listOf_bd _ _ _ _ _) (listOf_bd _ _ _ _ _), listOf_len] at h1
    obtain ⟨j, hj, ha, hy, hx⟩ := h1
    unfold unN at hj
    rw [listOf_get _ _ _ _ _ _ (by omega), res_two, memT_iff] at hy
    refine ⟨h, by omega, by omega, lo + (i + j : Nat), by omega, by omega, by omega, hy, fun v hv => ?_⟩
    have h2 := hx (v - lo - i).toNat (by omega)
    rw [listOf_get _ _ _ _ _ _ (by omega), res_two, memT_iff] at h2
    have e : lo + ((i + (v - lo - i).toNat : Nat) : Int) = v := by omega
    rw [e] at h2; exact h2
  · rintro ⟨_, h1, h2, u, h3, h4, h5, h6, h7⟩
    refine ⟨(t - lo).toNat, by omega, by omega, ?_⟩
    rw [untilL_get _ _ _ _ _ _ (by omega), unS_two (listOf_bd _ _ _ _ _) (listOf_bd _ _ _ _ _), listOf_len]
    refine ⟨(u - t).toNat, by unfold unN; omega, by omega, ?_, fun i hi' => ?_⟩
    · rw [listOf_get _ _ _ _ _ _ (by omega), res_two, memT_iff]
      have e : lo + (((t - lo).toNat + (u - t).toNat : Nat) : Int) = u := by omega
      rw [e]; exact h6
    · rw [listOf_get _ _ _ _ _ _ (by omega), res_two, memT_iff]
      have e : lo + (((t - lo).toNat + i : Nat) : Int) = t + i := by omega
      rw [e]; exact h7 _ (by omega)

theorem until_false (h : alwB 0 a b lo hi = true) (t : Int) (n : Nat) (hn : (n : Int) = hi - lo + 1) :
    (∃ i : Nat, i < n ∧ t = lo + i ∧ (untilL (listOf xs xf true lo n) (listOf ys yf true lo n) a b n).getD i 5 = 0) ↔ unlinkS (Mem xf) (Mem yf) a b lo hi false t := by
  have g := alwB_iff.1 h
  unfold unlinkS inW btw
  simp only [Bool.false_eq_true, if_false]
  constructor
  · rintro ⟨i, hi', rfl, h1⟩
    rw [untilL_get _ _ _ _ _ _ hi', unS_zero (listOf_bd _ _ _ _ _) (listOf_bd _ _ _ _ _), listOf_len] at h1
    refine ⟨h, by omega, by omega, fun u h3 h4 h5 => ?_⟩
    rcases h1 (u - lo - i).toNat (by unfold unN; omega) (by omega) with h2 | ⟨k, hk, h2⟩
    · rw [listOf_get _ _ _ _ _ _ (by omega), res_zero, memT_iff] at h2
      have e : lo + ((i + (u - lo - i).toNat : Nat) : Int) = u := by omega
      rw [e] at h2; exact .inl h2
    · rw [listOf_get _ _ _ _ _ _ (by omega), res_zero, memT_iff] at h2
      exact .inr ⟨_, by omega, h2⟩
  · rintro ⟨_, h1, h2, h3⟩
    refine ⟨(t - lo).toNat, by omega, by omega, ?_⟩
    rw [untilL_get _ _ _ _ _ _ (by omega), unS_zero (listOf_bd _ _ _ _ _) (listOf_bd _ _ _ _ _), listOf_len]
    intro j hj ha
    unfold unN at hj
    rcases h3 (t + j) (by omega) (by omega) (by omega) with h4 | ⟨v, hv, h4⟩
    · left
      rw [listOf_get _ _ _ _ _ _ (by omega), res_zero, memT_iff]
      have e : lo + (((t - lo).toNat + j : Nat) : Int) = t + j := by omega
      rw [e]; exact h4
    · right
      refine ⟨(v - t).toNat, by omega, ?_⟩
      rw [listOf_get _ _ _ _ _ _ (by omega), res_zero, memT_iff]
      have e : lo + (((t - lo).toNat + (v - t).toNat : Nat) : Int) = v := by omega
      rw [e]; exact h4

theorem rev_get (x : List Int) (k : Nat) (h : k < x.length) (d : Int) : x.reverse.getD k d = x.getD (x.length - 1 - k) d := by
  rw [List.getD_eq_getElem?_getD, List.getD_eq_getElem?_getD, List.getElem?_reverse h]
theorem rev_bd {x : List Int} (h : ∀ k, 0 ≤ x.getD k 0 ∧ x.getD k 0 ≤ 2) (k : Nat) : 0 ≤ x.reverse.getD k 0 ∧ x.reverse.getD k 0 ≤ 2 := by
  by_cases hk : k < x.length
  · rw [rev_get _ _ hk]; exact h _
  · have e : x.reverse.getD k 0 = 0 := by rw [List.getD_eq_getElem?_getD, List.getElem?_eq_none (by simp; omega)]; rfl
    omega
theorem sinceL_get (x y : List Int) (a b : Int) (i : Nat) (h : i < x.length) : (untilL x.reverse y.reverse a b x.length).reverse.getD i 5 = (unS x.reverse y.reverse a (x.length - 1 - i) (unN b x.length (x.length - 1 - i))).1 := by
  rw [rev_get _ _ (by rw [untilL_len]; exact h), untilL_len, untilL_get _ _ _ _ _ _ (by omega), List.length_reverse]

theorem since_true (h : alwB 0 a b lo hi = true) (t : Int) (n : Nat) (hn : (n : Int) = hi - lo + 1) :
    (∃ i : Nat, i < n ∧ t = lo + i ∧ (untilL (listOf xs xf false lo n).reverse (listOf ys yf false lo n).reverse a b n).reverse.getD i 5 = 2) ↔ linkS (Mem xs) (Mem ys) a b lo hi true t := by
  have g := alwB_iff.1 h
  have hl := listOf_len xs xf false lo n
  have hl2 := listOf_len ys yf false lo n
  unfold linkS inW btw
  simp only [if_true]
  constructor
  · rintro ⟨i, hi', rfl, h1⟩
    have h1' : (untilL (listOf xs xf false lo n).reverse (listOf ys yf false lo n).reverse a b (listOf xs xf false lo n).length).reverse.getD i 5 = 2 := by rw [hl]; exact h1
    rw [sinceL_get _ _ _ _ _ (by omega), unS_two (rev_bd (listOf_bd _ _ _ _ _)) (rev_bd (listOf_bd _ _ _ _ _)), hl] at h1'
    obtain ⟨j, hj, ha, hy, hx⟩ := h1'
    unfold unN at hj
    rw [rev_get _ _ (by omega), hl2, listOf_get _ _ _ _ _ _ (by omega), res_two, memT_iff] at hy
    refine ⟨h, by omega, by omega, _, by omega, by omega, by omega, hy, fun v hv => ?_⟩
    have h2 := hx (lo + i - v).toNat (by omega)
    rw [rev_get _ _ (by omega), hl, listOf_get _ _ _ _ _ _ (by omega), res_two, memT_iff] at h2
    have e : lo + ((n - 1 - (n - 1 - i + (lo + i - v).toNat) : Nat) : Int) = v := by omega
    rw [e] at h2; exact h2
  · rintro ⟨_, h1, h2, u, h3, h4, h5, h6, h7⟩
    refine ⟨(t - lo).toNat, by omega, by omega, ?_⟩
    suffices h1' : (untilL (listOf xs xf false lo n).reverse (listOf ys yf false lo n).reverse a b (listOf xs xf false lo n).length).reverse.getD (t - lo).toNat 5 = 2 by rw [hl] at h1'; exact h1'
    rw [sinceL_get _ _ _ _ _ (by omega), unS_two (rev_bd (listOf_bd _ _ _ _ _)) (rev_bd (listOf_bd _ _ _ _ _)), hl]
    refine ⟨(t - u).toNat, by unfold unN; omega, by omega, ?_, fun i hi' => ?_⟩
    · rw [rev_get _ _ (by omega), hl2, listOf_get _ _ _ _ _ _ (by omega), res_two, memT_iff]
      have e : lo + ((n - 1 - (n - 1 - (t - lo).toNat + (t - u).toNat) : Nat) : Int) = u := by omega
      rw [e]; exact h6
    · rw [rev_get _ _ (by omega), hl, listOf_get _ _ _ _ _ _ (by omega), res_two, memT_iff]
      have e : lo + ((n - 1 - (n - 1 - (t - lo).toNat + i) : Nat) : Int) = t - i := by omega
      rw [e]; exact h7 _ (by omega)

theorem since_false (h : alwB 0 a b lo hi = true) (t : Int) (n : Nat) (hn : (n : Int) = hi - lo + 1) :
    (∃ i : Nat, i < n ∧ t = lo + i ∧ (untilL (listOf xs xf true lo n).reverse (listOf ys yf true lo n).reverse a b n).reverse.getD i 5 = 0) ↔ unlinkS (Mem xf) (Mem yf) a b lo hi true t := by
  have g := alwB_iff.1 h
  have hl := listOf_len xs xf true lo n
  have hl2 := listOf_len ys yf true lo n
  unfold unlinkS inW btw
  simp only [if_true]
  constructor
  · rintro ⟨i, hi', rfl, h1⟩
    have h1' : (untilL (listOf xs xf true lo n).reverse (listOf ys yf true lo n).reverse a b (listOf xs xf true lo n).length).reverse.getD i 5 = 0 := by rw [hl]; exact h1
    rw [sinceL_get _ _ _ _ _ (by omega), unS_zero (rev_bd (listOf_bd _ _ _ _ _)) (rev_bd (listOf_bd _ _ _ _ _)), hl] at h1'
    refine ⟨h, by omega, by omega, fun u h3 h4 h5 => ?_⟩
    rcases h1' (lo + i - u).toNat (by unfold unN; omega) (by omega) with h2 | ⟨k, hk, h2⟩
    · rw [rev_get _ _ (by omega), hl2, listOf_get _ _ _ _ _ _ (by omega), res_zero, memT_iff] at h2
      have e : lo + ((n - 1 - (n - 1 - i + (lo + i - u).toNat) : Nat) : Int) = u := by omega
      rw [e] at h2; exact .inl h2
    · rw [rev_get _ _ (by omega), hl, listOf_get _ _ _ _ _ _ (by omega), res_zero, memT_iff] at h2
      exact .inr ⟨_, by omega, h2⟩
  · rintro ⟨_, h1, h2, h3⟩
    refine ⟨(t - lo).toNat, by omega, by omega, ?_⟩
    suffices h1' : (untilL (listOf xs xf true lo n).reverse (listOf ys yf true lo n).reverse a b (listOf xs xf true lo n).length).reverse.getD (t - lo).toNat 5 = 0 by rw [hl] at h1'; exact h1'
    rw [sinceL_get _ _ _ _ _ (by omega), unS_zero (rev_bd (listOf_bd _ _ _ _ _)) (rev_bd (listOf_bd _ _ _ _ _)), hl]
    intro j hj ha
    unfold unN at hj
    rcases h3 (t - j) (by omega) (by omega) (by omega) with h4 | ⟨v, hv, h4⟩
    · left
      rw [rev_get _ _ (by omega), hl2, listOf_get _ _ _ _ _ _ (by omega), res_zero, memT_iff]
      have e : lo + ((n - 1 - (n - 1 - (t - lo).toNat + j) : Nat) : Int) = t - j := by omega
      rw [e]; exact h4
    · right
      refine ⟨(t - v).toNat, by omega, ?_⟩
      rw [rev_get _ _ (by omega), hl, listOf_get _ _ _ _ _ _ (by omega), res_zero, memT_iff]
      have e : lo + ((n - 1 - (n - 1 - (t - lo).toNat + (t - v).toNat) : Nat) : Int) = v := by omega
      rw [e]; exact h4
end

end Go.Proofs.Ytkbiefklilelmaa
