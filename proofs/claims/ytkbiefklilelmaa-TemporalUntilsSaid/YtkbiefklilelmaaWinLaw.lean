/-
  The reference's windows over lists of results answer as the sets of some and all do. No program in sight.
-/
import Derived.Test.YtkbiefklilelmaaRefSome
namespace Go.Proofs.Ytkbiefklilelmaa

theorem winV_bd (all : Bool) (x : List Int) (p n : Nat) (hx : ∀ k, 0 ≤ x.getD k 0 ∧ x.getD k 0 ≤ 2) : 0 ≤ winV all x p n ∧ winV all x p n ≤ 2 := by
  induction n with
  | zero => cases all <;> simp [winV]
  | succ n ih =>
    have := hx (p + n)
    rw [winV_step]
    cases all
    · rw [if_neg (by simp)]; omega
    · rw [if_pos rfl]; omega

theorem win_some_two (x : List Int) (p n : Nat) (hx : ∀ k, 0 ≤ x.getD k 0 ∧ x.getD k 0 ≤ 2) : winV false x p n = 2 ↔ ∃ j, j < n ∧ x.getD (p + j) 0 = 2 := by
  induction n with
  | zero => simp [winV]
  | succ n ih =>
    have h1 := hx (p + n)
    have h2 := winV_bd false x p n hx
    rw [winV_step, if_neg (by simp)]
    constructor
    · intro h
      by_cases h3 : x.getD (p + n) 0 = 2
      · exact ⟨n, by omega, h3⟩
      · obtain ⟨j, hj, h4⟩ := ih.1 (by omega)
        exact ⟨j, by omega, h4⟩
    · rintro ⟨j, hj, h4⟩
      by_cases h3 : j = n
      · subst h3; omega
      · have := ih.2 ⟨j, by omega, h4⟩; omega

theorem win_some_zero (x : List Int) (p n : Nat) (hx : ∀ k, 0 ≤ x.getD k 0 ∧ x.getD k 0 ≤ 2) : winV false x p n = 0 ↔ ∀ j, j < n → x.getD (p + j) 0 = 0 := by
  induction n with
  | zero => simp [winV]
  | succ n ih =>
    have h1 := hx (p + n)
    have h2 := winV_bd false x p n hx
    rw [winV_step, if_neg (by simp)]
    constructor
    · intro h j hj
      by_cases h3 : j = n
      · subst h3; omega
      · exact ih.1 (by omega) j (by omega)
    · intro h
      have a1 := h n (by omega)
      have a2 := ih.2 fun j hj => h j (by omega)
      omega

theorem win_all_two (x : List Int) (p n : Nat) (hx : ∀ k, 0 ≤ x.getD k 0 ∧ x.getD k 0 ≤ 2) : winV true x p n = 2 ↔ ∀ j, j < n → x.getD (p + j) 0 = 2 := by
  induction n with
  | zero => simp [winV]
  | succ n ih =>
    have h1 := hx (p + n)
    have h2 := winV_bd true x p n hx
    rw [winV_step, if_pos rfl]
    constructor
    · intro h j hj
      by_cases h3 : j = n
      · subst h3; omega
      · exact ih.1 (by omega) j (by omega)
    · intro h
      have a1 := h n (by omega)
      have a2 := ih.2 fun j hj => h j (by omega)
      omega

theorem win_all_zero (x : List Int) (p n : Nat) (hx : ∀ k, 0 ≤ x.getD k 0 ∧ x.getD k 0 ≤ 2) : winV true x p n = 0 ↔ ∃ j, j < n ∧ x.getD (p + j) 0 = 0 := by
  induction n with
  | zero => simp [winV]
  | succ n ih =>
    have h1 := hx (p + n)
    have h2 := winV_bd true x p n hx
    rw [winV_step, if_pos rfl]
    constructor
    · intro h
      by_cases h3 : x.getD (p + n) 0 = 0
      · exact ⟨n, by omega, h3⟩
      · obtain ⟨j, hj, h4⟩ := ih.1 (by omega)
        exact ⟨j, by omega, h4⟩
    · rintro ⟨j, hj, h4⟩
      by_cases h3 : j = n
      · subst h3; omega
      · have := ih.2 ⟨j, by omega, h4⟩; omega

theorem listOf_bd (xs zs : List Iv) (low : Bool) (lo : Int) (n k : Nat) : 0 ≤ (listOf xs zs low lo n).getD k 0 ∧ (listOf xs zs low lo n).getD k 0 ≤ 2 := by
  by_cases h : k < (listOf xs zs low lo n).length
  · have e : (listOf xs zs low lo n).getD k 0 = (listOf xs zs low lo n)[k] := by simp [h]
    rw [e, listOf_at]
    exact res_bd _ _ _
  · have e : (listOf xs zs low lo n).getD k 0 = 0 := by
      rw [List.getD_eq_getElem?_getD, List.getElem?_eq_none (by omega)]; rfl
    omega
theorem listOf_get (xs zs : List Iv) (low : Bool) (lo : Int) (n k : Nat) (h : k < n) : (listOf xs zs low lo n).getD k 0 = resOf (memT xs (lo + k)) (memT zs (lo + k)) low := by
  have h' : k < (listOf xs zs low lo n).length := by rw [listOf_len]; exact h
  have e : (listOf xs zs low lo n).getD k 0 = (listOf xs zs low lo n)[k] := by simp [h']
  rw [e, listOf_at]
theorem someL_get (all : Bool) (x : List Int) (a b : Int) (k i : Nat) (h : i < k) : (someL all x a b k).getD i 5 = winV all x (wLo a i).toNat (wLen a b x.length i) := by
  simp [someL, h]

section
variable {xs zs : List Iv} {a b lo hi : Int}

theorem win_true (h : alwB (-1099511627776) a b lo hi = true) (t : Int) (n : Nat) (hn : (n : Int) = hi - lo + 1) :
    (∃ i : Nat, i < n ∧ t = lo + i ∧ (someL false (listOf xs zs false lo n) a b n).getD i 5 = 2) ↔ someS (Mem xs) a b lo hi t := by
  have g := alwB_iff.1 h
  unfold someS clipS
  constructor
  · rintro ⟨i, hi', rfl, h1⟩
    rw [someL_get _ _ _ _ _ _ hi', win_some_two _ _ _ (listOf_bd _ _ _ _ _), listOf_len] at h1
    obtain ⟨j, hj, h2⟩ := h1
    unfold wLen wHi at hj
    have hp : 0 ≤ wLo a i := by unfold wLo; omega
    rw [listOf_get _ _ _ _ _ _ (by omega), res_two, memT_iff] at h2
    have e : lo + (((wLo a i).toNat + j : Nat) : Int) = lo + wLo a i + j := by omega
    rw [e] at h2
    refine ⟨h, by omega, by omega, lo + wLo a i + j, ?_, ?_, ?_, ?_, h2⟩ <;> unfold wLo at * <;> omega
  · rintro ⟨_, h1, h2, u, h3, h4, h5, h6, h7⟩
    refine ⟨(t - lo).toNat, by omega, by omega, ?_⟩
    have et : (((t - lo).toNat : Nat) : Int) = t - lo := by omega
    rw [someL_get _ _ _ _ _ _ (by omega), win_some_two _ _ _ (listOf_bd _ _ _ _ _), listOf_len, et]
    have hp : 0 ≤ wLo a (t - lo) := by unfold wLo; omega
    have hw : wLo a (t - lo) ≤ u - lo := by unfold wLo; omega
    have hv : u - lo ≤ wHi b n (t - lo) := by unfold wHi; omega
    refine ⟨(u - lo - wLo a (t - lo)).toNat, by unfold wLen; omega, ?_⟩
    rw [listOf_get _ _ _ _ _ _ (by omega), res_two, memT_iff]
    have e : lo + (((wLo a (t - lo)).toNat + (u - lo - wLo a (t - lo)).toNat : Nat) : Int) = u := by omega
    rw [e]; exact h7

theorem win_false (h : alwB (-1099511627776) a b lo hi = true) (t : Int) (n : Nat) (hn : (n : Int) = hi - lo + 1) :
    (∃ i : Nat, i < n ∧ t = lo + i ∧ (someL false (listOf xs zs true lo n) a b n).getD i 5 = 0) ↔ allS (Mem zs) a b lo hi t := by
  have g := alwB_iff.1 h
  unfold allS
  constructor
  · rintro ⟨i, hi', rfl, h1⟩
    rw [someL_get _ _ _ _ _ _ hi', win_some_zero _ _ _ (listOf_bd _ _ _ _ _), listOf_len] at h1
    refine ⟨h, by omega, by omega, fun u h3 h4 h5 h6 => ?_⟩
    have hp : 0 ≤ wLo a i := by unfold wLo; omega
    have hw : wLo a i ≤ u - lo := by unfold wLo; omega
    have hv : u - lo ≤ wHi b n i := by unfold wHi; omega
    have h2 := h1 (u - lo - wLo a i).toNat (by unfold wLen; omega)
    rw [listOf_get _ _ _ _ _ _ (by omega), res_zero, memT_iff] at h2
    have e : lo + (((wLo a i).toNat + (u - lo - wLo a i).toNat : Nat) : Int) = u := by omega
    rw [e] at h2; exact h2
  · rintro ⟨_, h1, h2, h3⟩
    refine ⟨(t - lo).toNat, by omega, by omega, ?_⟩
    have et : (((t - lo).toNat : Nat) : Int) = t - lo := by omega
    rw [someL_get _ _ _ _ _ _ (by omega), win_some_zero _ _ _ (listOf_bd _ _ _ _ _), listOf_len, et]
    intro j hj
    have hp : 0 ≤ wLo a (t - lo) := by unfold wLo; omega
    unfold wLen wHi at hj
    rw [listOf_get _ _ _ _ _ _ (by omega), res_zero, memT_iff]
    have e : lo + (((wLo a (t - lo)).toNat + j : Nat) : Int) = lo + wLo a (t - lo) + j := by omega
    rw [e]
    refine h3 _ ?_ ?_ ?_ ?_ <;> unfold wLo at * <;> omega

theorem win_all_true (h : alwB (-1099511627776) a b lo hi = true) (t : Int) (n : Nat) (hn : (n : Int) = hi - lo + 1) :
    (∃ i : Nat, i < n ∧ t = lo + i ∧ (someL true (listOf xs zs false lo n) a b n).getD i 5 = 2) ↔ allS (Mem xs) a b lo hi t := by
  have g := alwB_iff.1 h
  unfold allS
  constructor
  · rintro ⟨i, hi', rfl, h1⟩
    rw [someL_get _ _ _ _ _ _ hi', win_all_two _ _ _ (listOf_bd _ _ _ _ _), listOf_len] at h1
    refine ⟨h, by omega, by omega, fun u h3 h4 h5 h6 => ?_⟩
    have hp : 0 ≤ wLo a i := by unfold wLo; omega
    have hw : wLo a i ≤ u - lo := by unfold wLo; omega
    have hv : u - lo ≤ wHi b n i := by unfold wHi; omega
    have h2 := h1 (u - lo - wLo a i).toNat (by unfold wLen; omega)
    rw [listOf_get _ _ _ _ _ _ (by omega), res_two, memT_iff] at h2
    have e : lo + (((wLo a i).toNat + (u - lo - wLo a i).toNat : Nat) : Int) = u := by omega
    rw [e] at h2; exact h2
  · rintro ⟨_, h1, h2, h3⟩
    refine ⟨(t - lo).toNat, by omega, by omega, ?_⟩
    have et : (((t - lo).toNat : Nat) : Int) = t - lo := by omega
    rw [someL_get _ _ _ _ _ _ (by omega), win_all_two _ _ _ (listOf_bd _ _ _ _ _), listOf_len, et]
    intro j hj
    have hp : 0 ≤ wLo a (t - lo) := by unfold wLo; omega
    unfold wLen wHi at hj
    rw [listOf_get _ _ _ _ _ _ (by omega), res_two, memT_iff]
    have e : lo + (((wLo a (t - lo)).toNat + j : Nat) : Int) = lo + wLo a (t - lo) + j := by omega
    rw [e]
    refine h3 _ ?_ ?_ ?_ ?_ <;> unfold wLo at * <;> omega

theorem win_all_false (h : alwB (-1099511627776) a b lo hi = true) (t : Int) (n : Nat) (hn : (n : Int) = hi - lo + 1) :
    (∃ i : Nat, i < n ∧ t = lo + i ∧ (someL true (listOf xs zs true lo n) a b n).getD i 5 = 0) ↔ someS (Mem zs) a b lo hi t := by
  have g := alwB_iff.1 h
  unfold someS clipS
  constructor
  · rintro ⟨i, hi', rfl, h1⟩
    rw [someL_get _ _ _ _ _ _ hi', win_all_zero _ _ _ (listOf_bd _ _ _ _ _), listOf_len] at h1
    obtain ⟨j, hj, h2⟩ := h1
    unfold wLen wHi at hj
    have hp : 0 ≤ wLo a i := by unfold wLo; omega
    rw [listOf_get _ _ _ _ _ _ (by omega), res_zero, memT_iff] at h2
    have e : lo + (((wLo a i).toNat + j : Nat) : Int) = lo + wLo a i + j := by omega
    rw [e] at h2
    refine ⟨h, by omega, by omega, lo + wLo a i + j, ?_, ?_, ?_, ?_, h2⟩ <;> unfold wLo at * <;> omega
  · rintro ⟨_, h1, h2, u, h3, h4, h5, h6, h7⟩
    refine ⟨(t - lo).toNat, by omega, by omega, ?_⟩
    have et : (((t - lo).toNat : Nat) : Int) = t - lo := by omega
    rw [someL_get _ _ _ _ _ _ (by omega), win_all_zero _ _ _ (listOf_bd _ _ _ _ _), listOf_len, et]
    have hp : 0 ≤ wLo a (t - lo) := by unfold wLo; omega
    have hw : wLo a (t - lo) ≤ u - lo := by unfold wLo; omega
    have hv : u - lo ≤ wHi b n (t - lo) := by unfold wHi; omega
    refine ⟨(u - lo - wLo a (t - lo)).toNat, by unfold wLen; omega, ?_⟩
    rw [listOf_get _ _ _ _ _ _ (by omega), res_zero, memT_iff]
    have e : lo + (((wLo a (t - lo)).toNat + (u - lo - wLo a (t - lo)).toNat : Nat) : Int) = u := by omega
    rw [e]; exact h7
end

end Go.Proofs.Ytkbiefklilelmaa
