/-
  Beats and transactions, plain: the groups of a list of beats, and what they add up to. No program in sight.
-/
import Derived.Below
namespace Go.Proofs.YtlockjbhdibojaaGreatDoor

/-- a beat, as it reads -/
structure Bt where
  time : Int
  waited : Int
  vals : List ByteArray
  last : Bool

/-- the transactions that are done after some beats, and the beats of the one that is not -/
def grp : List Bt → List (List Bt × Bool) × List Bt → List (List Bt × Bool) × List Bt
  | [], s => s
  | b :: bs, s => grp bs (if b.last = true then (s.1 ++ [(s.2 ++ [b], true)], []) else (s.1, s.2 ++ [b]))
def grpEnd (s : List (List Bt × Bool) × List Bt) : List (List Bt × Bool) := if s.2 = [] then s.1 else s.1 ++ [(s.2, false)]
def groupL (bs : List Bt) : List (List Bt × Bool) := grpEnd (grp bs ([], []))

theorem grp_snoc (bs : List Bt) (b : Bt) (s : List (List Bt × Bool) × List Bt) : grp (bs ++ [b]) s = (if b.last = true then ((grp bs s).1 ++ [((grp bs s).2 ++ [b], true)], []) else ((grp bs s).1, (grp bs s).2 ++ [b])) := by
  induction bs generalizing s with
  | nil => simp [grp]
  | cons x xs ih => simp only [List.cons_append, grp, ih]
theorem grp_take_succ (bs : List Bt) (k : Nat) (h : k < bs.length) (s : List (List Bt × Bool) × List Bt) : grp (bs.take (k + 1)) s = (if bs[k].last = true then ((grp (bs.take k) s).1 ++ [((grp (bs.take k) s).2 ++ [bs[k]], true)], []) else ((grp (bs.take k) s).1, (grp (bs.take k) s).2 ++ [bs[k]])) := by
  rw [List.take_succ_eq_append_getElem h, grp_snoc]

/-- what holds of the groups at every point -/
structure GrpOk (bs : List Bt) (s : List (List Bt × Bool) × List Bt) : Prop where
  all : (s.1.map (·.1)).flatten ++ s.2 = bs
  done : ∀ g ∈ s.1, g.2 = true ∧ ∃ init b, g.1 = init ++ [b] ∧ b.last = true ∧ ∀ x ∈ init, x.last = false
  rest : ∀ x ∈ s.2, x.last = false
  len : s.1.length ≤ bs.length

theorem GrpOk.nil : GrpOk [] ([], []) := ⟨rfl, by simp, by simp, by simp⟩
theorem GrpOk.step {bs : List Bt} {s : List (List Bt × Bool) × List Bt} (h : GrpOk bs s) (b : Bt) : GrpOk (bs ++ [b]) (if b.last = true then (s.1 ++ [(s.2 ++ [b], true)], []) else (s.1, s.2 ++ [b])) := by
  by_cases hb : b.last = true
  · rw [if_pos hb]
    refine ⟨?_, fun g hg => ?_, by simp, ?_⟩
    · have := h.all
      simp only [List.map_append, List.map_cons, List.map_nil, List.flatten_append, List.flatten_cons, List.flatten_nil, List.append_nil]
      rw [← List.append_assoc, this]
    · rcases List.mem_append.1 hg with hg | hg
      · exact h.done g hg
      · simp at hg
        subst hg
        exact ⟨rfl, s.2, b, rfl, hb, h.rest⟩
    · have := h.len
      simp only [List.length_append, List.length_cons, List.length_nil]
      omega
  · rw [if_neg hb]
    refine ⟨?_, h.done, fun x hx => ?_, ?_⟩
    · rw [← List.append_assoc, h.all]
    · rcases List.mem_append.1 hx with hx | hx
      · exact h.rest x hx
      · simp at hx; subst hx; simpa using hb
    · have := h.len
      simp only [List.length_append, List.length_cons, List.length_nil]
      omega
theorem grp_ok_from (bs : List Bt) : ∀ (cs : List Bt) (s : List (List Bt × Bool) × List Bt), GrpOk cs s → GrpOk (cs ++ bs) (grp bs s) := by
  induction bs with
  | nil => intro cs s h; simpa [grp] using h
  | cons b bs ih =>
    intro cs s h
    have := ih (cs ++ [b]) _ (h.step b)
    simpa [grp] using this
theorem grp_ok (bs : List Bt) : GrpOk bs (grp bs ([], [])) := by simpa using grp_ok_from bs [] ([], []) GrpOk.nil

theorem groupL_flat (bs : List Bt) : ((groupL bs).map (·.1)).flatten = bs := by
  have h := (grp_ok bs).all
  unfold groupL grpEnd
  split
  · rename_i e
    rw [e] at h
    simpa using h
  · simpa using h
theorem groupL_len (bs : List Bt) : (groupL bs).length ≤ bs.length + 1 := by
  have h := (grp_ok bs).len
  unfold groupL grpEnd
  split
  · omega
  · simp; omega
/-- each group: not empty; its Done is said by its last beat, which alone has Last; only the last group can be not Done -/
theorem groupL_at (bs : List Bt) (i : Nat) (h : i < (groupL bs).length) : (groupL bs)[i].1 ≠ [] ∧ (i + 1 < (groupL bs).length → (groupL bs)[i].2 = true) ∧
    ∀ k (hk : k < (groupL bs)[i].1.length), (groupL bs)[i].1[k].last = ((groupL bs)[i].2 && decide (k + 1 = (groupL bs)[i].1.length)) := by
  have hd : ∀ g ∈ (grp bs ([], [])).1, g.1 ≠ [] ∧ g.2 = true ∧ ∀ k (hk : k < g.1.length), g.1[k].last = (g.2 && decide (k + 1 = g.1.length)) := by
    intro g hg
    obtain ⟨h1, init, b, h2, h3, h4⟩ := (grp_ok bs).done g hg
    refine ⟨by rw [h2]; simp, h1, fun k hk => ?_⟩
    rw [h1, Bool.true_and]
    have hl : g.1.length = init.length + 1 := by rw [h2]; simp
    by_cases e : k = init.length
    · subst e
      simp only [h2, List.getElem_append_right (Nat.le_refl _), Nat.sub_self, List.getElem_cons_zero, h3]
      simp
    · have hk' : k < init.length := by omega
      rw [decide_eq_false (by omega)]
      simp only [h2, List.getElem_append_left hk']
      exact h4 _ (List.getElem_mem _)
  have hr := (grp_ok bs).rest
  unfold groupL grpEnd at h ⊢
  by_cases he : (grp bs ([], [])).2 = []
  · simp only [he, if_true] at h ⊢
    obtain ⟨h1, h2, h3⟩ := hd _ (List.getElem_mem h)
    exact ⟨h1, fun _ => h2, h3⟩
  · simp only [he, if_false] at h ⊢
    by_cases e : i < (grp bs ([], [])).1.length
    · simp only [List.getElem_append_left e]
      obtain ⟨h1, h2, h3⟩ := hd _ (List.getElem_mem e)
      exact ⟨h1, fun _ => h2, h3⟩
    · have e' : i = (grp bs ([], [])).1.length := by simp at h; omega
      subst e'
      simp only [List.getElem_append_right (Nat.le_refl _), Nat.sub_self, List.getElem_cons_zero]
      refine ⟨he, fun hlt => ?_, fun k hk => ?_⟩
      · simp at hlt
      · rw [Bool.false_and]
        exact hr _ (List.getElem_mem _)

end Go.Proofs.YtlockjbhdibojaaGreatDoor
