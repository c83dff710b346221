/-
  Several texts in one: RStartS. Each says at its head what it holds.
-/
import Derived.Test.YtkbiefklilelmaaMR27
import Derived.Test.YtkbiefklilelmaaMR38

/-
  wavestoreref55.starts, Open: plain facts of the list that is made by putting times in at their places; of the search for an edge that can go on.
-/
namespace Go.Proofs.Ytkbiefklilelmaa
open Go.RowKit

theorem put_in {zs : List Int} {v : Int} {j : Nat} (hz : zs.Pairwise (· < ·)) (h1 : ∀ t ∈ zs.take j, t < v) (h2 : ∀ t ∈ zs.drop j, v < t) : (zs.take j ++ [v] ++ zs.drop j).Pairwise (· < ·) := by
  have hz' : (zs.take j ++ zs.drop j).Pairwise (· < ·) := by rw [List.take_append_drop]; exact hz
  obtain ⟨p1, p2, p3⟩ := List.pairwise_append.1 hz'
  refine List.pairwise_append.2 ⟨List.pairwise_append.2 ⟨p1, List.pairwise_singleton _ _, fun a ha b hb => ?_⟩, p2, fun a ha b hb => ?_⟩
  · rw [List.mem_singleton.1 hb]; exact h1 a ha
  · rcases List.mem_append.1 ha with ha | ha
    · exact p3 a ha b hb
    · rw [List.mem_singleton.1 ha]; exact h2 b hb
theorem put_mem {zs : List Int} {v : Int} (j : Nat) (t : Int) : t ∈ zs.take j ++ [v] ++ zs.drop j ↔ t ∈ zs ∨ t = v := by
  have h : t ∈ zs ↔ t ∈ zs.take j ∨ t ∈ zs.drop j := by rw [← List.mem_append, List.take_append_drop]
  rw [List.mem_append, List.mem_append, List.mem_singleton, h]
  constructor
  · rintro ((h | h) | h)
    · exact .inl (.inl h)
    · exact .inr h
    · exact .inl (.inr h)
  · rintro ((h | h) | h)
    · exact .inl (.inl h)
    · exact .inr h
    · exact .inl (.inr h)
theorem put_len {zs : List Int} {v : Int} {j : Nat} : (zs.take j ++ [v] ++ zs.drop j).length = zs.length + 1 := by
  simp only [List.length_append, List.length_take, List.length_drop, List.length_cons, List.length_nil]
  omega
theorem far_drop {zs : List Int} {v : Int} {j : Nat} (hz : zs.Pairwise (· < ·)) (hn : v ∉ zs) (h : ∀ hj : j < zs.length, v ≤ zs[j]) : ∀ t ∈ zs.drop j, v < t := fun t ht => by
  obtain ⟨i, hi⟩ := List.getElem?_of_mem ht
  rw [List.getElem?_drop] at hi
  obtain ⟨hl, rfl⟩ := List.getElem?_eq_some_iff.1 hi
  have hj : j < zs.length := by omega
  have h1 := h hj
  have h2 : zs[j] ≠ v := fun e => hn (e ▸ List.getElem_mem hj)
  rcases Nat.eq_or_lt_of_le (Nat.le_add_right j i) with e | e
  · have : i = 0 := by omega
    subst this
    simp only [Nat.add_zero]
    omega
  · have h3 := List.pairwise_iff_getElem.1 hz j (j + i) hj hl e
    omega

/-- in the midst of an edge that begins at 0: so many of its times have been put in -/
def StP (x : Inp) (f t : Int) (i : Nat) (l : List Int) (k : Nat) (u : Int) : Prop := StK x f t i u ∨ (u ∈ l.take k ∧ f ≤ u ∧ u ≤ t)
section
variable {x : Inp} {f t : Int} {i k : Nat} {l : List Int} {e : Edg}
theorem StP.zero (u : Int) : StK x f t i u ↔ StP x f t i l 0 u := ⟨.inl, fun h => h.elim id fun h => by simp at h⟩
theorem take_one {v : Int} (hk : l[k]? = some v) : l.take (k + 1) = l.take k ++ [v] := by
  obtain ⟨hl, rfl⟩ := List.getElem?_eq_some_iff.1 hk
  simp
theorem StP.add {v : Int} (hk : l[k]? = some v) (h1 : f ≤ v) (h2 : v ≤ t) (u : Int) : StP x f t i l (k + 1) u ↔ StP x f t i l k u ∨ u = v := by
  unfold StP
  rw [take_one hk, List.mem_append, List.mem_singleton]
  constructor
  · rintro (h | ⟨h | h, h3⟩)
    · exact .inl (.inl h)
    · exact .inl (.inr ⟨h, h3⟩)
    · exact .inr h
  · rintro ((h | ⟨h, h3⟩) | rfl)
    · exact .inl h
    · exact .inr ⟨.inl h, h3⟩
    · exact .inr ⟨.inr rfl, h1, h2⟩
theorem StP.skip {v : Int} (hk : l[k]? = some v) (h : (v < f ∨ t < v) ∨ StP x f t i l k v) (u : Int) : StP x f t i l k u ↔ StP x f t i l (k + 1) u := by
  constructor
  · rintro (h | ⟨h, h3⟩)
    · exact .inl h
    · exact .inr ⟨by rw [take_one hk]; exact List.mem_append_left _ h, h3⟩
  · rintro (h3 | ⟨h3, h4, h5⟩)
    · exact .inl h3
    · rw [take_one hk, List.mem_append, List.mem_singleton] at h3
      rcases h3 with h3 | rfl
      · exact .inr ⟨h3, h4, h5⟩
      · rcases h with h | h
        · omega
        · exact h
theorem StP.done (he : x.edges[i]? = some e) (h0 : e.from_ = 0) (hl : nth x.ev e.event = l) (u : Int) : StP x f t i l l.length u ↔ StK x f t (i + 1) u := by
  unfold StP
  rw [stK_succ he, List.take_length, hl]
  exact or_congr_right ⟨fun h => ⟨h0, h⟩, fun h => h.2⟩
end

/-- an edge can go on from a time behind the end -/
def OpGo (x : Inp) (en : Int) (e : Edg) (u : Int) : Prop := en - u < e.high ∧ HoldW x.cs e.while_ u (en + 1)
/-- one of the first edges can go on; of the next one so many times have been looked at -/
def OpK (x : Inp) (st en : Int) (k : Nat) : Prop := ∃ (i : Nat) (e : Edg) (u : Int), i < k ∧ x.edges[i]? = some e ∧ Rch x st en e.from_ u ∧ OpGo x en e u
def OpJ (x : Inp) (st en : Int) (k : Nat) (e : Edg) (us : List Int) (j : Nat) : Prop := OpK x st en k ∨ ∃ u ∈ us.take j, OpGo x en e u
section
variable {x : Inp} {st en : Int} {k j : Nat} {e : Edg} {us : List Int}
theorem OpK.zero : ¬ OpK x st en 0 := fun ⟨_, _, _, h, _⟩ => absurd h (Nat.not_lt_zero _)
theorem OpJ.zero : OpK x st en k ↔ OpJ x st en k e us 0 := ⟨.inl, fun h => h.elim id fun ⟨_, h, _⟩ => by simp at h⟩
theorem OpJ.step {u : Int} (hj : us[j]? = some u) : OpJ x st en k e us (j + 1) ↔ OpJ x st en k e us j ∨ OpGo x en e u := by
  unfold OpJ
  rw [take_one hj]
  constructor
  · rintro (h | ⟨v, h, h2⟩)
    · exact .inl (.inl h)
    · rcases List.mem_append.1 h with h | h
      · exact .inl (.inr ⟨v, h, h2⟩)
      · rw [List.mem_singleton.1 h] at h2; exact .inr h2
  · rintro ((h | ⟨v, h, h2⟩) | h)
    · exact .inl h
    · exact .inr ⟨v, List.mem_append_left _ h, h2⟩
    · exact .inr ⟨u, List.mem_append_right _ (List.mem_singleton.2 rfl), h⟩
theorem OpJ.done (he : x.edges[k]? = some e) (hus : ∀ t, t ∈ us ↔ Rch x st en e.from_ t) : OpJ x st en k e us us.length ↔ OpK x st en (k + 1) := by
  unfold OpJ
  rw [List.take_length]
  constructor
  · rintro (⟨i, e', u, h1, h2⟩ | ⟨u, h1, h2⟩)
    · exact ⟨i, e', u, by omega, h2⟩
    · exact ⟨k, e, u, by omega, he, (hus u).1 h1, h2⟩
  · rintro ⟨i, e', u, h1, h2, h3, h4⟩
    rcases Nat.lt_or_ge i k with h5 | h5
    · exact .inl ⟨i, e', u, h5, h2, h3, h4⟩
    · have : i = k := by omega
      subst this
      rw [he] at h2
      injection h2 with h2
      subst h2
      exact .inr ⟨u, (hus u).2 h3, h4⟩
theorem OpK.all (hn : ∀ t, ¬ FinS x st en t) : OpK x st en x.edges.length ↔ OpenS x st en := by
  constructor
  · rintro ⟨i, e, u, _, h2, h3, h4, h5⟩
    exact ⟨fun ⟨t, ht⟩ => hn t ht, u, e, List.mem_of_getElem? h2, h3, h4, h5⟩
  · rintro ⟨_, u, e, h2, h3, h4, h5⟩
    obtain ⟨i, hi⟩ := List.getElem?_of_mem h2
    exact ⟨i, e, u, (List.getElem?_eq_some_iff.1 hi).1, hi, h3, h4, h5⟩
end

/-- a list of ints appended, wherever it lies, at a step of a region that draws its order -/
theorem step_append_ints {ops : Array Oper} {o : Oper} {a : Act} {K : Act → World → Prop} {Q : Exit → Act → World → Prop} {E : Prop} {w : World} (hgd : o.guard = none) (s x : Operand)
    (ho : o.op = .call { callee := .builtin .append, args := #[s, x], argTypes := #[36, 36] })
    (base : Nat) (A : Option Addr) (c : Nat) (xs : List Int) (n : Nat) (hs : a.eval s = .slice A n c) (hn : n = xs.length) (hown : OwnInt w base A c xs)
    (A' : Option Addr) (m c' B : Nat) (ys : List Int) (hx : a.eval x = .slice A' m c') (hm : m = ys.length) (hy : IntsAt w B A' ys) (hlen : n + m ≤ 8796093022208) (hbase : base ≤ w.heap.size)
    (h : ∀ (A2 : Option Addr) (c2 : Nat) (w' : World), OwnInt w' base A2 c2 (xs ++ ys) → w.grownBy w' (Value.slice A xs.length c).ownBlock → (∀ k, (Value.slice A xs.length c).ownBlock = some k → base ≤ k) →
      K (a.put o.dst (.slice A2 (n + m) c2)) w') :
    if Region.wanted o (yielded ops a.tmps) = true then Oper.wp Try.prog o a w K Q else E := by
  have hwt : Region.wanted o (yielded ops a.tmps) = true := by simp [Region.wanted, hgd]
  rw [if_pos hwt]
  subst hn hm
  obtain ⟨i0, hi0, hz0, hz1, hz2⟩ := info_parts infoInt
  refine wp_append_src s x 36 ho base 3 i0 _ 1 8 Try.underlying36 hi0 hz0 hz1 hz2 rfl (by decide) _ xs.length (xs.map (Value.int .i64)) hs hown A' ys.length c' (ys.map (Value.int .i64)) hx (by simp) hy.src
    (by simp [Value.oneCell']) (by simp only [maxLen]; omega) (by omega) hbase ?_
  intro v' w' ho' hg
  obtain ⟨A2, c2, rfl, ho''⟩ := OwnInt.of_row (zs := xs ++ ys) ho' (by simp) (by simp)
  have := h A2 c2 w' ho'' hg hown.block
  simpa using this
theorem ints_new {w : World} {N : Nat} {v : Int} (h : w.heap[N]? = some (.cells #[.int .i64 v] 3 (0, 0))) : IntsAt w (N + 1) (some ⟨N, 0, none⟩) [v] := fun _ => by
  refine ⟨N, 0, rfl, by omega, fun i z hi => ?_⟩
  rw [cell_of_row w N _ _ _ (0, 0) h]
  have : i = 0 := by
    have := (List.getElem?_eq_some_iff.1 hi).1
    simp at this
    exact this
  subst this
  simp at hi
  simp [hi]

/-- two answers that are told apart by the same condition are one answer -/
theorem both_same {α : Type} {P : Prop} {S : List α → Prop} (hu : ∀ xs ys, S xs → S ys → xs = ys) {er er' : Int} {xs ys : List α} (h : (¬ P ∧ er = 1 ∧ xs = []) ∨ (P ∧ er = 0 ∧ S xs)) (h' : (¬ P ∧ er' = 1 ∧ ys = []) ∨ (P ∧ er' = 0 ∧ S ys)) : er = er' ∧ xs = ys := by
  rcases h with ⟨h1, h2, h3⟩ | ⟨h1, h2, h3⟩ <;> rcases h' with ⟨h4, h5, h6⟩ | ⟨h4, h5, h6⟩
  · exact ⟨by rw [h2, h5], by rw [h3, h6]⟩
  · exact absurd h4 h1
  · exact absurd h1 h4
  · exact ⟨by rw [h2, h5], hu _ _ h3 h6⟩

end Go.Proofs.Ytkbiefklilelmaa
