/-
  Several texts in one: PathsP, PathsW. Each says at its head what it holds.
-/
import Derived.Test.YtgobkbjkndfliaaGreatDoorAP38
import Derived.Test.YtgobkbjkndfliaaGreatDoorAP12

/-
  The lists of paths of an automaton: their order, their lengths, that each is accepted, and the shorter ones among them. No program in sight.
-/
namespace Go.Proofs.YtgobkbjkndfliaaGreatDoor

/-- the comparison of two lists of ints -/
def cmpL : List Int → List Int → Int
  | [], [] => 0
  | [], _ :: _ => -1
  | _ :: _, [] => 1
  | x :: p, y :: q => if x < y then -1 else if y < x then 1 else cmpL p q
def up (p : List Nat) : List Int := p.map Int.ofNat
theorem cmpL_cons_lt {x y : Nat} {p q : List Nat} (h : x < y) : cmpL (up (x :: p)) (up (y :: q)) = -1 := by
  unfold up
  rw [List.map_cons, List.map_cons, cmpL, if_pos (by simp only [Int.ofNat_eq_natCast]; omega)]
theorem cmpL_cons_eq {x : Nat} {p q : List Nat} : cmpL (up (x :: p)) (up (x :: q)) = cmpL (up p) (up q) := by
  unfold up
  rw [List.map_cons, List.map_cons, cmpL, if_neg (by omega), if_neg (by omega)]
theorem cmpL_nil {x : Nat} {q : List Nat} : cmpL (up []) (up (x :: q)) = -1 := rfl

section
variable {E : List Edg} {fin : List Bool} {n : Nat} {s : Int}
theorem mem_kidP {sub : Int → List (List Nat)} {i : Nat} {p : List Nat} (h : p ∈ kidP E sub s i) : ∃ e q, E[i]? = some e ∧ e.from_ = s ∧ q ∈ sub e.to_ ∧ p = i :: q := by
  unfold kidP at h
  split at h
  · rename_i e he
    split at h
    · obtain ⟨q, h1, h2⟩ := List.mem_map.1 h
      exact ⟨e, q, he, by assumption, h1, h2.symm⟩
    · simp at h
  · simp at h
theorem pathsF_len : ∀ (n : Nat) (s : Int) (p : List Nat), p ∈ pathsF E fin n s → p.length ≤ n
  | 0, s, p, h => by
    rw [pathsF_zero] at h
    unfold hereP at h
    split at h <;> simp at h
    simp [h]
  | n + 1, s, p, h => by
    rw [pathsF_succ] at h
    rcases List.mem_append.1 h with h | h
    · unfold hereP at h
      split at h <;> simp at h
      simp [h]
    · obtain ⟨i, _, h1⟩ := List.mem_flatMap.1 h
      obtain ⟨e, q, _, _, h2, rfl⟩ := mem_kidP h1
      have := pathsF_len n _ q h2
      simp; omega
/-- each path leads from its state to a final one -/
theorem pathsF_acc : ∀ (n : Nat) (s : Int) (p : List Nat), p ∈ pathsF E fin n s → ∃ t, (up p).foldl (accStep E) (some s) = some t ∧ fin.getD t.toNat false = true
  | 0, s, p, h => by
    rw [pathsF_zero] at h
    unfold hereP at h
    split at h <;> simp at h
    subst h
    exact ⟨s, rfl, by assumption⟩
  | n + 1, s, p, h => by
    rw [pathsF_succ] at h
    rcases List.mem_append.1 h with h | h
    · unfold hereP at h
      split at h <;> simp at h
      subst h
      exact ⟨s, rfl, by assumption⟩
    · obtain ⟨i, _, h1⟩ := List.mem_flatMap.1 h
      obtain ⟨e, q, h3, h4, h2, rfl⟩ := mem_kidP h1
      obtain ⟨t, h5, h6⟩ := pathsF_acc n _ q h2
      refine ⟨t, ?_, h6⟩
      unfold up at h5 ⊢
      rw [List.map_cons, List.foldl_cons]
      have : accStep E (some s) (Int.ofNat i) = some e.to_ := acc_step h3 h4
      rw [this, h5]
/-- in order -/
theorem pathsF_sorted : ∀ (n : Nat) (s : Int), (pathsF E fin n s).Pairwise (fun p q => cmpL (up p) (up q) = -1)
  | 0, s => by
    rw [pathsF_zero]
    unfold hereP
    split <;> simp
  | n + 1, s => by
    rw [pathsF_succ, List.pairwise_append]
    refine ⟨by unfold hereP; split <;> simp, ?_, fun p hp q hq => ?_⟩
    · rw [List.pairwise_flatMap]
      refine ⟨fun i _ => ?_, ?_⟩
      · unfold kidP
        split
        · split
          · rw [List.pairwise_map]
            exact (pathsF_sorted n _).imp fun {a b} h => by rw [cmpL_cons_eq]; exact h
          · exact List.Pairwise.nil
        · exact List.Pairwise.nil
      · refine List.pairwise_lt_range.imp ?_
        intro i j hij p hp q hq
        obtain ⟨_, p', _, _, _, rfl⟩ := mem_kidP hp
        obtain ⟨_, q', _, _, _, rfl⟩ := mem_kidP hq
        exact cmpL_cons_lt hij
    · have : p = [] := by
        unfold hereP at hp
        split at hp <;> simp at hp
        exact hp
      subst this
      obtain ⟨i, _, h1⟩ := List.mem_flatMap.1 hq
      obtain ⟨_, q', _, _, _, rfl⟩ := mem_kidP h1
      exact cmpL_nil
/-- the shorter ones -/
theorem pathsF_short : ∀ (n : Nat) (s : Int), (pathsF E fin (n + 1) s).filter (fun p => decide (p.length ≤ n)) = pathsF E fin n s
  | 0, s => by
    rw [pathsF_succ, pathsF_zero, List.filter_append]
    have h1 : (hereP fin s).filter (fun p => decide (p.length ≤ 0)) = hereP fin s := by unfold hereP; split <;> simp
    rw [h1, List.filter_eq_nil_iff.2, List.append_nil]
    intro p hp
    obtain ⟨i, _, h2⟩ := List.mem_flatMap.1 hp
    obtain ⟨_, q, _, _, _, rfl⟩ := mem_kidP h2
    simp
  | n + 1, s => by
    rw [pathsF_succ, pathsF_succ, List.filter_append]
    have h1 : (hereP fin s).filter (fun p => decide (p.length ≤ n + 1)) = hereP fin s := by unfold hereP; split <;> simp
    rw [h1, List.filter_flatMap]
    congr 1
    congr 1
    funext i
    unfold kidP
    split
    · split
      · rw [List.filter_map, ← pathsF_short n]
        congr 1
        congr 1
        funext p
        simp
      · rfl
    · rfl
theorem pathsF_fewer (n : Nat) (s : Int) : (pathsF E fin n s).length ≤ (pathsF E fin (n + 1) s).length := by
  rw [← pathsF_short n s]; exact List.length_filter_le _ _
theorem pathsF_ne (h : fin.getD s.toNat false = false) : ∀ p ∈ pathsF E fin n s, p ≠ [] := by
  rintro p hp rfl
  cases n with
  | zero => rw [pathsF_zero] at hp; unfold hereP at hp; rw [h] at hp; simp at hp
  | succ n =>
    rw [pathsF_succ] at hp
    rcases List.mem_append.1 hp with hp | hp
    · unfold hereP at hp; rw [h] at hp; simp at hp
    · obtain ⟨i, _, h2⟩ := List.mem_flatMap.1 hp
      obtain ⟨_, q, _, _, _, e⟩ := mem_kidP h2
      cases e
end

/-- of a list: how many of the first ones are among the shorter ones -/
theorem short_next {α : Type} {f : α → Bool} {l : List α} {i : Nat} (hi : i < l.length) : (l.take (i + 1)).filter f = (l.take i).filter f ++ (if f l[i] = true then [l[i]] else []) := by
  rw [List.take_succ_eq_append_getElem hi, List.filter_append]
  congr 1
  by_cases h : f l[i] = true <;> simp [h]
theorem short_at {α : Type} {f : α → Bool} {l : List α} {i : Nat} (hi : i < l.length) (h : f l[i] = true) : (l.filter f)[((l.take i).filter f).length]? = some l[i] := by
  conv => lhs; rw [← List.take_append_drop i l]
  rw [List.filter_append, List.getElem?_append_right (by simp), List.drop_eq_getElem_cons hi, List.filter_cons, if_pos h]
  simp

end Go.Proofs.YtgobkbjkndfliaaGreatDoor

/-
  The paths from a state, gathered edge by edge with a limit: what the search's loop holds. No program in sight.
-/
namespace Go.Proofs.YtgobkbjkndfliaaGreatDoor

/-- of the paths with at most so many edges: those that begin with one of the first edges of the list -/
def pathsJ (E : List Edg) (fin : List Bool) (n : Nat) (s : Int) (i : Nat) : List (List Nat) := match n with
  | 0 => hereP fin s
  | n + 1 => pathsI E fin n s i
section
variable {E : List Edg} {fin : List Bool} {n i : Nat} {s : Int} {e : Edg}
theorem pathsJ_zero : pathsJ E fin n s 0 = hereP fin s := by
  cases n with
  | zero => rfl
  | succ n => exact pathsI_zero
theorem pathsJ_all : pathsJ E fin n s E.length = pathsF E fin n s := by
  cases n with
  | zero => rfl
  | succ n => exact pathsI_all
theorem pathsJ_le {i j : Nat} (h : i ≤ j) : (pathsJ E fin n s i).length ≤ (pathsJ E fin n s j).length := by
  cases n with
  | zero => exact Nat.le_refl _
  | succ n =>
    obtain ⟨d, rfl⟩ : ∃ d, j = i + d := ⟨j - i, by omega⟩
    clear h
    induction d with
    | zero => exact Nat.le_refl _
    | succ d ih =>
      refine Nat.le_trans ih ?_
      show (pathsI E fin n s (i + d)).length ≤ (pathsI E fin n s (i + d + 1)).length
      rw [pathsI_succ, List.length_append]
      exact Nat.le_add_right _ _
theorem pathsJ_far (he : E[i]? = some e) (h : e.from_ ≠ s) : pathsJ E fin n s (i + 1) = pathsJ E fin n s i := by
  cases n with
  | zero => rfl
  | succ n => exact pathsI_skip he (.inl h)
theorem pathsJ_none (he : E[i]? = some e) (h : n = 0 ∨ ∃ m, n = m + 1 ∧ pathsF E fin m e.to_ = []) : pathsJ E fin n s (i + 1) = pathsJ E fin n s i := by
  rcases h with rfl | ⟨m, rfl, h⟩
  · rfl
  · exact pathsI_skip he (.inr h)
theorem pathsJ_take {m : Nat} (hn : n = m + 1) (he : E[i]? = some e) (h : e.from_ = s) : pathsJ E fin n s (i + 1) = pathsJ E fin n s i ++ (pathsF E fin m e.to_).map (fun p => i :: p) := by
  subst hn
  exact pathsI_take he h
/-- a state from which the table says that no path is short enough -/
theorem least_none {k : Int} {m : Nat} (h : LeastN E fin s k) (hm : m < 1048576) (hk : (m : Int) < k) : pathsF E fin m s = [] := by
  have := h m hm
  by_cases h1 : pathsF E fin m s = []
  · exact h1
  · have := this.1 h1
    omega
end

end Go.Proofs.YtgobkbjkndfliaaGreatDoor
