/-
  Several texts in one: AutL. Each says at its head what it holds.
-/
import Derived.Test.YtgobkbjkndfliaaGreatDoorAP4
import Derived.Test.YtgobkbjkndfliaaGreatDoorAP7

/-
  Plain mathematics of the durations of the paths of an automaton: ways with the sum of their costs, their least and their greatest sum. No program in sight.
-/
namespace Go.Proofs.YtgobkbjkndfliaaGreatDoor

/-- a way from a state to another one, with the sum of its costs -/
inductive Way (E : List Edg) (f : Edg → Int) : Int → Int → Int → Prop
  | nil (s : Int) : Way E f s s 0
  | cons (e : Edg) (t c : Int) (he : e ∈ E) (h : Way E f e.to_ t c) : Way E f e.from_ t (f e + c)
section
variable {E : List Edg} {f : Edg → Int} {s t u c : Int}
theorem Way.snoc (h : Way E f s u c) {e : Edg} (he : e ∈ E) (hu : e.from_ = u) : Way E f s e.to_ (c + f e) := by
  induction h with
  | nil s =>
    subst hu
    have h1 := Way.cons (f := f) e e.to_ 0 he (.nil _)
    rwa [Int.add_comm] at h1
  | cons e' t c' he' h ih =>
    have h1 := Way.cons e' _ _ he' (ih hu)
    rwa [← Int.add_assoc] at h1
theorem Way.last (h : Way E f s t c) : (s = t ∧ c = 0) ∨ ∃ e c', e ∈ E ∧ e.to_ = t ∧ Way E f s e.from_ c' ∧ c = c' + f e := by
  induction h with
  | nil s => exact .inl ⟨rfl, rfl⟩
  | cons e t c he h ih =>
    rcases ih with ⟨h1, h2⟩ | ⟨e', c', h1, h2, h3, h4⟩
    · exact .inr ⟨e, 0, he, h1, .nil _, by omega⟩
    · exact .inr ⟨e', f e + c', h1, h2, .cons e _ _ he h3, by omega⟩
theorem Way.front (h : Way E f s t c) : (s = t ∧ c = 0) ∨ ∃ e c', e ∈ E ∧ e.from_ = s ∧ Way E f e.to_ t c' ∧ c = f e + c' := by
  cases h with
  | nil => exact .inl ⟨rfl, rfl⟩
  | cons e _ c' he h => exact .inr ⟨e, c', he, rfl, h, rfl⟩
end

/-- a final state -/
def FinT (fin : List Bool) (t : Int) : Prop := fin.getD t.toNat false = true
/-- the sums of the ways from a state to final ones -/
def BackS (E : List Edg) (fin : List Bool) (f : Edg → Int) (s c : Int) : Prop := ∃ t, FinT fin t ∧ Way E f s t c
/-- of them: those that begin with one of the first edges, and the empty way -/
def BackI (E : List Edg) (fin : List Bool) (f : Edg → Int) (s : Int) (i : Nat) (c : Int) : Prop := (FinT fin s ∧ c = 0) ∨ ∃ (j : Nat) (e : Edg) (c' : Int), j < i ∧ E[j]? = some e ∧ e.from_ = s ∧ BackS E fin f e.to_ c' ∧ c = f e + c'
/-- the sums of the ways from 0 to a state that end with one of the first edges, and the empty way -/
def FwdI (E : List Edg) (f : Edg → Int) (s : Int) (i : Nat) (c : Int) : Prop := (s = 0 ∧ c = 0) ∨ ∃ (j : Nat) (e : Edg) (c' : Int), j < i ∧ E[j]? = some e ∧ e.to_ = s ∧ Way E f 0 e.from_ c' ∧ c = c' + f e
section
variable {E : List Edg} {fin : List Bool} {f : Edg → Int} {s c : Int} {i : Nat} {e : Edg}
theorem BackI.zero : BackI E fin f s 0 c ↔ FinT fin s ∧ c = 0 := ⟨fun h => h.elim id fun ⟨_, _, _, h, _⟩ => absurd h (Nat.not_lt_zero _), .inl⟩
theorem BackI.succ (he : E[i]? = some e) : BackI E fin f s (i + 1) c ↔ BackI E fin f s i c ∨ (e.from_ = s ∧ ∃ c', BackS E fin f e.to_ c' ∧ c = f e + c') := by
  constructor
  · rintro (h | ⟨j, e', c', h1, h2, h3, h4, h5⟩)
    · exact .inl (.inl h)
    · rcases Nat.lt_or_ge j i with h6 | h6
      · exact .inl (.inr ⟨j, e', c', h6, h2, h3, h4, h5⟩)
      · have : j = i := by omega
        subst this
        rw [he] at h2
        injection h2 with h2
        subst h2
        exact .inr ⟨h3, c', h4, h5⟩
  · rintro ((h | ⟨j, e', c', h1, h2⟩) | ⟨h1, c', h2, h3⟩)
    · exact .inl h
    · exact .inr ⟨j, e', c', by omega, h2⟩
    · exact .inr ⟨i, e, c', by omega, he, h1, h2, h3⟩
theorem BackI.all : BackI E fin f s E.length c ↔ BackS E fin f s c := by
  constructor
  · rintro (⟨h1, rfl⟩ | ⟨j, e', c', h1, h2, h3, ⟨t, h4, h5⟩, h6⟩)
    · exact ⟨s, h1, .nil _⟩
    · subst h3 h6
      exact ⟨t, h4, .cons e' t c' (List.mem_of_getElem? h2) h5⟩
  · rintro ⟨t, h1, h2⟩
    rcases h2.front with ⟨rfl, h3⟩ | ⟨e', c', h3, h4, h5, h6⟩
    · exact .inl ⟨h1, h3⟩
    · obtain ⟨j, hj⟩ := List.getElem?_of_mem h3
      exact .inr ⟨j, e', c', (List.getElem?_eq_some_iff.1 hj).1, hj, h4, ⟨t, h1, h5⟩, h6⟩
theorem FwdI.zero : FwdI E f s 0 c ↔ s = 0 ∧ c = 0 := ⟨fun h => h.elim id fun ⟨_, _, _, h, _⟩ => absurd h (Nat.not_lt_zero _), .inl⟩
theorem FwdI.succ (he : E[i]? = some e) : FwdI E f s (i + 1) c ↔ FwdI E f s i c ∨ (e.to_ = s ∧ ∃ c', Way E f 0 e.from_ c' ∧ c = c' + f e) := by
  constructor
  · rintro (h | ⟨j, e', c', h1, h2, h3, h4, h5⟩)
    · exact .inl (.inl h)
    · rcases Nat.lt_or_ge j i with h6 | h6
      · exact .inl (.inr ⟨j, e', c', h6, h2, h3, h4, h5⟩)
      · have : j = i := by omega
        subst this
        rw [he] at h2
        injection h2 with h2
        subst h2
        exact .inr ⟨h3, c', h4, h5⟩
  · rintro ((h | ⟨j, e', c', h1, h2⟩) | ⟨h1, c', h2, h3⟩)
    · exact .inl h
    · exact .inr ⟨j, e', c', by omega, h2⟩
    · exact .inr ⟨i, e, c', by omega, he, h1, h2, h3⟩
theorem FwdI.all : FwdI E f s E.length c ↔ Way E f 0 s c := by
  constructor
  · rintro (⟨rfl, rfl⟩ | ⟨j, e', c', h1, h2, h3, h4, h5⟩)
    · exact .nil _
    · subst h3 h5
      exact h4.snoc (List.mem_of_getElem? h2) rfl
  · intro h
    rcases h.last with ⟨h1, h2⟩ | ⟨e', c', h1, h2, h3, h4⟩
    · exact .inl ⟨h1.symm, h2⟩
    · obtain ⟨j, hj⟩ := List.getElem?_of_mem h1
      exact .inr ⟨j, e', c', (List.getElem?_eq_some_iff.1 hj).1, hj, h2, h3, h4⟩
end

def GreatOf (S : Int → Prop) (v : Int) : Prop := S v ∧ ∀ t, S t → t ≤ v
theorem GreatOf.uniq {S : Int → Prop} {a b : Int} (h : GreatOf S a) (h' : GreatOf S b) : a = b := Int.le_antisymm (h'.2 _ h.1) (h.2 _ h'.1)
/-- the least of one set and the greatest of another one; both are empty: 0, 0 -/
def Dur (Sl Sh : Int → Prop) (lo hi : Int) (b : Bool) : Prop := (b = true → LeastOf Sl lo ∧ GreatOf Sh hi) ∧ (b = false → lo = 0 ∧ hi = 0 ∧ (∀ c, ¬ Sl c) ∧ ∀ c, ¬ Sh c)
section
variable {Sl Sh Sl' Sh' : Int → Prop} {lo hi l h : Int} {b : Bool}
theorem Dur.congr (d : Dur Sl Sh lo hi b) (h1 : ∀ c, Sl c ↔ Sl' c) (h2 : ∀ c, Sh c ↔ Sh' c) : Dur Sl' Sh' lo hi b :=
  ⟨fun e => ⟨⟨(h1 _).1 (d.1 e).1.1, fun t ht => (d.1 e).1.2 t ((h1 t).2 ht)⟩, ⟨(h2 _).1 (d.1 e).2.1, fun t ht => (d.1 e).2.2 t ((h2 t).2 ht)⟩⟩,
    fun e => ⟨(d.2 e).1, (d.2 e).2.1, fun c hc => (d.2 e).2.2.1 c ((h1 c).2 hc), fun c hc => (d.2 e).2.2.2 c ((h2 c).2 hc)⟩⟩
/-- two answers for the same sets are one -/
theorem Dur.uniq {b' : Bool} {lo' hi' : Int} (d : Dur Sl Sh lo hi b) (d' : Dur Sl Sh lo' hi' b') : lo = lo' ∧ hi = hi' := by
  cases b <;> cases b'
  · exact ⟨(d.2 rfl).1.trans (d'.2 rfl).1.symm, (d.2 rfl).2.1.trans (d'.2 rfl).2.1.symm⟩
  · exact absurd (d'.1 rfl).1.1 ((d.2 rfl).2.2.1 _)
  · exact absurd (d.1 rfl).1.1 ((d'.2 rfl).2.2.1 _)
  · exact ⟨(d.1 rfl).1.uniq (d'.1 rfl).1, (d.1 rfl).2.uniq (d'.1 rfl).2⟩
/-- sets with further elements, of which the least and the greatest are known -/
theorem Dur.add {Tl Th : Int → Prop} (d : Dur Sl Sh lo hi b) (tl : LeastOf Tl l) (th : GreatOf Th h) (h1 : ∀ c, Sl' c ↔ Sl c ∨ Tl c) (h2 : ∀ c, Sh' c ↔ Sh c ∨ Th c)
    {lo' hi' : Int} (e1 : lo' = if b = true ∧ lo ≤ l then lo else l) (e2 : hi' = if b = true ∧ h ≤ hi then hi else h) : Dur Sl' Sh' lo' hi' true := by
  refine ⟨fun _ => ⟨?_, ?_⟩, fun e => by cases e⟩
  · cases b with
    | false =>
      have : lo' = l := by simpa using e1
      subst this
      exact ⟨(h1 _).2 (.inr tl.1), fun t ht => ((h1 t).1 ht).elim (fun h => absurd h ((d.2 rfl).2.2.1 t)) (tl.2 t)⟩
    | true =>
      have dl := (d.1 rfl).1
      by_cases hc : lo ≤ l
      · have : lo' = lo := by simpa [hc] using e1
        subst this
        exact ⟨(h1 _).2 (.inl dl.1), fun t ht => ((h1 t).1 ht).elim (dl.2 t) (fun h => Int.le_trans hc (tl.2 t h))⟩
      · have : lo' = l := by simpa [hc] using e1
        subst this
        exact ⟨(h1 _).2 (.inr tl.1), fun t ht => ((h1 t).1 ht).elim (fun h => Int.le_trans (by omega) (dl.2 t h)) (tl.2 t)⟩
  · cases b with
    | false =>
      have : hi' = h := by simpa using e2
      subst this
      exact ⟨(h2 _).2 (.inr th.1), fun t ht => ((h2 t).1 ht).elim (fun h => absurd h ((d.2 rfl).2.2.2 t)) (th.2 t)⟩
    | true =>
      have dl := (d.1 rfl).2
      by_cases hc : h ≤ hi
      · have : hi' = hi := by simpa [hc] using e2
        subst this
        exact ⟨(h2 _).2 (.inl dl.1), fun t ht => ((h2 t).1 ht).elim (dl.2 t) (fun h => Int.le_trans (th.2 t h) hc)⟩
      · have : hi' = h := by simpa [hc] using e2
        subst this
        exact ⟨(h2 _).2 (.inr th.1), fun t ht => ((h2 t).1 ht).elim (fun h => Int.le_trans (dl.2 t h) (by omega)) (th.2 t)⟩
end
theorem LeastOf.shift {S : Int → Prop} {v : Int} (k : Int) (h : LeastOf S v) : LeastOf (fun c => ∃ c', S c' ∧ c = k + c') (k + v) := ⟨⟨v, h.1, rfl⟩, fun t ⟨c', h1, h2⟩ => by have := h.2 c' h1; omega⟩
theorem GreatOf.shift {S : Int → Prop} {v : Int} (k : Int) (h : GreatOf S v) : GreatOf (fun c => ∃ c', S c' ∧ c = k + c') (k + v) := ⟨⟨v, h.1, rfl⟩, fun t ⟨c', h1, h2⟩ => by have := h.2 c' h1; omega⟩

/-- the durations of an automaton's paths -/
def LenOf (E : List Edg) (fin : List Bool) (lo hi : Int) : Prop := ∃ b, Dur (BackS E fin Edg.low 0) (BackS E fin Edg.high 0) lo hi b
theorem LenOf.uniq {E : List Edg} {fin : List Bool} {lo hi lo' hi' : Int} (h : LenOf E fin lo hi) (h' : LenOf E fin lo' hi') : lo = lo' ∧ hi = hi' := by
  obtain ⟨b, h⟩ := h
  obtain ⟨b', h'⟩ := h'
  exact h.uniq h'

/-- edges lead to greater states, and cost at most so much -/
structure Costs (E : List Edg) (n : Nat) (f : Edg → Int) : Prop where
  st : ∀ e ∈ E, 0 ≤ e.from_ ∧ e.from_ < e.to_ ∧ e.to_ < (n : Int)
  c : ∀ e ∈ E, 0 ≤ f e ∧ f e ≤ 1099511627776
theorem Costs.way {E : List Edg} {n : Nat} {f : Edg → Int} (h : Costs E n f) {s t c : Int} (w : Way E f s t c) : s ≤ t ∧ 0 ≤ c ∧ c ≤ (t - s) * 1099511627776 := by
  induction w with
  | nil s => refine ⟨Int.le_refl _, Int.le_refl _, ?_⟩; rw [Int.sub_self, Int.zero_mul]; exact Int.le_refl _
  | cons e t c he w ih =>
    have h1 := h.st e he
    have h2 := h.c e he
    refine ⟨by omega, by omega, ?_⟩
    have h3 : (e.to_ - e.from_) * 1099511627776 ≥ 1 * 1099511627776 := Int.mul_le_mul_of_nonneg_right (by omega) (by omega)
    have h4 : (t - e.from_) * 1099511627776 = (t - e.to_) * 1099511627776 + (e.to_ - e.from_) * 1099511627776 := by rw [← Int.add_mul]; congr 1; omega
    omega
theorem finT_in {fin : List Bool} {t : Int} (h : FinT fin t) : t < (fin.length : Int) := by
  unfold FinT at h
  rw [List.getD_eq_getElem?_getD] at h
  rcases Nat.lt_or_ge t.toNat fin.length with h1 | h1
  · omega
  · rw [List.getElem?_eq_none h1] at h
    cases h
/-- the sums of the ways from 0 to final states among the first ones -/
def AllI (E : List Edg) (fin : List Bool) (f : Edg → Int) (s : Nat) (c : Int) : Prop := ∃ t : Int, 0 ≤ t ∧ t < (s : Int) ∧ FinT fin t ∧ Way E f 0 t c
section
variable {E : List Edg} {fin : List Bool} {f : Edg → Int} {s : Nat} {c : Int}
theorem AllI.zero : ¬ AllI E fin f 0 c := fun ⟨_, h1, h2, _⟩ => by omega
theorem AllI.off (h : ¬ FinT fin (s : Int)) : AllI E fin f s c ↔ AllI E fin f (s + 1) c := by
  constructor
  · rintro ⟨t, h1, h2, h3⟩; exact ⟨t, h1, by omega, h3⟩
  · rintro ⟨t, h1, h2, h3, h4⟩
    refine ⟨t, h1, ?_, h3, h4⟩
    rcases Int.lt_or_le t (s : Int) with h5 | h5
    · exact h5
    · have : t = (s : Int) := by omega
      subst this
      exact absurd h3 h
theorem AllI.add (h : FinT fin (s : Int)) : AllI E fin f (s + 1) c ↔ AllI E fin f s c ∨ Way E f 0 (s : Int) c := by
  constructor
  · rintro ⟨t, h1, h2, h3, h4⟩
    rcases Int.lt_or_le t (s : Int) with h5 | h5
    · exact .inl ⟨t, h1, h5, h3, h4⟩
    · have : t = (s : Int) := by omega
      subst this
      exact .inr h4
  · rintro (⟨t, h1, h2, h3⟩ | h4)
    · exact ⟨t, h1, by omega, h3⟩
    · exact ⟨s, by omega, by omega, h, h4⟩
theorem AllI.unreached (h : ∀ c, ¬ Way E f 0 (s : Int) c) : AllI E fin f s c ↔ AllI E fin f (s + 1) c := by
  constructor
  · rintro ⟨t, h1, h2, h3⟩; exact ⟨t, h1, by omega, h3⟩
  · rintro ⟨t, h1, h2, h3, h4⟩
    refine ⟨t, h1, ?_, h3, h4⟩
    rcases Int.lt_or_le t (s : Int) with h5 | h5
    · exact h5
    · have : t = (s : Int) := by omega
      subst this
      exact absurd h4 (h c)
theorem AllI.all {n : Nat} (h : Costs E n f) (hn : n = fin.length) : AllI E fin f n c ↔ BackS E fin f 0 c := by
  constructor
  · rintro ⟨t, _, _, h3, h4⟩; exact ⟨t, h3, h4⟩
  · rintro ⟨t, h1, h2⟩
    have h3 := h.way h2
    have h4 := finT_in h1
    exact ⟨t, by omega, by omega, h1, h2⟩
end

end Go.Proofs.YtgobkbjkndfliaaGreatDoor
