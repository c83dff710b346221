/-
  Several texts in one: RunL. Each says at its head what it holds.
-/
import Derived.Test.YtkbiefklilelmaaMR22
import Derived.Test.YtkbiefklilelmaaMR24
import Derived.Test.YtkbiefklilelmaaMR25
import Derived.Test.YtkbiefklilelmaaMR26

/-
  match.Run, match.Open: plain facts of the lists that the loops over the starts make; the input that prepare has checked.
-/
namespace Go.Proofs.Ytkbiefklilelmaa
open Go.RowKit

theorem mono_adj {l : List Edg} (h : ∀ i, ∀ a b : Edg, l[i]? = some a → l[i + 1]? = some b → a.from_ ≤ b.from_) : ∀ i j : Nat, ∀ a b : Edg, i ≤ j → l[i]? = some a → l[j]? = some b → a.from_ ≤ b.from_ := by
  intro i j a b hij ha hb
  induction hij generalizing b with
  | refl => rw [ha] at hb; injection hb with hb; subst hb; exact Int.le_refl _
  | @step m hm ih =>
    have hlt := (List.getElem?_eq_some_iff.1 hb).1
    have hm2 : l[m]? = some (l[m]'(by omega)) := List.getElem?_eq_getElem (by omega)
    exact Int.le_trans (ih _ hm2) (h m _ _ hm2 hb)
theorem valid_edge {a : Aut} (h : validB a = true) : a.fin.length ≤ 33 ∧ (∀ e ∈ a.edges, EdgOk a.fin.length a.nE a.nC e) ∧ ∀ i j : Nat, ∀ x y : Edg, i ≤ j → a.edges[i]? = some x → a.edges[j]? = some y → x.from_ ≤ y.from_ := by
  unfold validB at h
  rw [Bool.and_eq_true, List.all_eq_true] at h
  obtain ⟨h0, h1⟩ := h
  unfold headB at h0
  rw [Bool.and_eq_true, Bool.and_eq_true] at h0
  refine ⟨of_decide_eq_true h0.1.2, fun e he => ?_, mono_adj fun i x y hx hy => ?_⟩
  · obtain ⟨i, hi⟩ := List.getElem?_of_mem he
    obtain ⟨hl, he'⟩ := List.getElem?_eq_some_iff.1 hi
    have h2 := h1 i (List.mem_range.2 hl)
    rw [fits_at hl, he'] at h2
    simp only [Bool.and_eq_true] at h2
    have h3 := of_decide_eq_true h2.1.1.1
    exact ⟨h3.1, h3.2.1, h3.2.2.1, h3.2.2.2.1, h3.2.2.2.2.1, h3.2.2.2.2.2.1, h3.2.2.2.2.2.2.1, h3.2.2.2.2.2.2.2.1, h3.2.2.2.2.2.2.2.2.1, h3.2.2.2.2.2.2.2.2.2⟩
  · obtain ⟨hl, hy'⟩ := List.getElem?_eq_some_iff.1 hy
    obtain ⟨hl', hx'⟩ := List.getElem?_eq_some_iff.1 hx
    have h2 := h1 (i + 1) (List.mem_range.2 hl)
    rw [fits_at hl, dif_pos (by omega)] at h2
    simp only [Bool.and_eq_true, Nat.add_sub_cancel, hx', hy'] at h2
    have h3 := of_decide_eq_true h2.1.2
    omega

section
variable {a : Aut} {AV AS : Option Addr} {cV cS : Nat} {ev : List SlI} {cs cs' : List SlV} {f t en : Int}
theorem mok_of (hp : PrepOk a ev cs.length f t en) (hs : SameSets cs cs') (h1 : a.edges.length ≤ 40) (h2 : ev.length ≤ 40) (h3 : cs.length ≤ 40) (h4 : ∀ s ∈ ev, s.xs.length ≤ 24) :
    MOk ⟨a, AV, cV, ev, AS, cS, cs', en⟩ ∧ (∀ s ∈ cs', Norm s.xs) ∧ 0 ≤ f ∧ f ≤ t ∧ t ≤ en := by
  obtain ⟨hb, hi⟩ := hp
  unfold prepB at hb
  rw [Bool.and_eq_true] at hb
  obtain ⟨e1, e2, e3⟩ := valid_edge hb.1
  have hd := of_decide_eq_true hb.2
  have hn : ∀ s ∈ cs', Norm s.xs := fun s hs' => by
    obtain ⟨k, hk⟩ := List.getElem?_of_mem hs'
    have hl := (List.getElem?_eq_some_iff.1 hk).1
    have hl' : k < cs.length := by rw [← hs.1]; exact hl
    exact (hs.2 k cs[k] s (List.getElem?_eq_getElem hl') hk).1
  refine ⟨⟨h1, e1, ?_, e3, h2, by show cs'.length ≤ 40; rw [hs.1]; exact h3, fun s hs => ⟨h4 s hs, hi s hs⟩, fun s hs' => by have := norm_len (hn s hs'); omega, by show 0 ≤ en; omega, by show en ≤ _; omega⟩, hn, by omega, by omega, by omega⟩
  show ∀ e ∈ a.edges, EdgOk a.fin.length ev.length cs'.length e
  rw [hs.1, hd.1, hd.2.1]
  exact e2
theorem hold_same (hs : SameSets cs cs') (wh u v : Int) : HoldW (cs.map SlV.xs) wh u v ↔ HoldW (cs'.map SlV.xs) wh u v := by
  have key : ∀ t, Mem (nth (cs.map SlV.xs) wh) t ↔ Mem (nth (cs'.map SlV.xs) wh) t := fun t => by
    unfold nth
    rw [List.getD_eq_getElem?_getD, List.getD_eq_getElem?_getD, List.getElem?_map, List.getElem?_map]
    by_cases h : wh.toNat < cs.length
    · have h' : wh.toNat < cs'.length := by rw [hs.1]; exact h
      rw [List.getElem?_eq_getElem h, List.getElem?_eq_getElem h']
      exact ((hs.2 _ _ _ (List.getElem?_eq_getElem h) (List.getElem?_eq_getElem h')).2 t).symm
    · rw [List.getElem?_eq_none (by omega), List.getElem?_eq_none (by rw [hs.1]; omega)]
  unfold HoldW
  simp only [key]
end

section
variable {x y : Inp}
/-- two inputs that differ in the writing of their sets alone -/
structure SameIn (x y : Inp) : Prop where
  edges : y.edges = x.edges
  fin : y.fin = x.fin
  ev : y.ev = x.ev
  hold : ∀ wh u v, HoldW x.cs wh u v ↔ HoldW y.cs wh u v
theorem SameIn.symm (h : SameIn x y) : SameIn y x := ⟨h.edges.symm, h.fin.symm, h.ev.symm, fun wh u v => (h.hold wh u v).symm⟩
theorem SameIn.rch (h : SameIn x y) {st en s t : Int} (hr : Rch x st en s t) : Rch y st en s t := by
  induction hr with
  | base e he h0 hs => exact .base e (by rw [h.edges]; exact he) h0 (by rw [h.ev]; exact hs)
  | step u e t _ he hg ih => exact .step u e t ih (by rw [h.edges]; exact he) ⟨by rw [h.ev]; exact hg.1, hg.2.1, hg.2.2.1, hg.2.2.2.1, (h.hold _ _ _).1 hg.2.2.2.2⟩
theorem SameIn.start (h : SameIn x y) (f g t : Int) : StartS x f g t ↔ StartS y f g t := by unfold StartS; rw [h.edges, h.ev]
theorem SameIn.fins (h : SameIn x y) (st en t : Int) : FinS x st en t ↔ FinS y st en t := by
  constructor
  · rintro ⟨s, h1, h2⟩; exact ⟨s, h.rch h1, by rw [h.fin]; exact h2⟩
  · rintro ⟨s, h1, h2⟩; exact ⟨s, h.symm.rch h1, by rw [← h.fin]; exact h2⟩
theorem SameIn.open_ (h : SameIn x y) (st en : Int) : OpenS x st en ↔ OpenS y st en := by
  unfold OpenS
  simp only [h.fins]
  constructor
  · rintro ⟨h1, u, e, he, h2, h3, h4⟩; exact ⟨h1, u, e, by rw [h.edges]; exact he, h.rch h2, h3, (h.hold _ _ _).1 h4⟩
  · rintro ⟨h1, u, e, he, h2, h3, h4⟩; exact ⟨h1, u, e, by rw [← h.edges]; exact he, h.symm.rch h2, h3, (h.hold _ _ _).2 h4⟩
theorem SameIn.isRun (h : SameIn x y) {f t en : Int} {l : List Iv} (hr : IsRun y f t en l) : IsRun x f t en l :=
  ⟨hr.1, fun p => (hr.2 p).trans (and_congr (h.start _ _ _).symm ⟨fun hl => hl.congr fun t => (h.fins _ _ t).symm, fun hl => hl.congr fun t => h.fins _ _ t⟩)⟩
theorem SameIn.isOpen (h : SameIn x y) {f t en : Int} {l : List Int} (hr : IsOpen y f t en l) : IsOpen x f t en l :=
  ⟨hr.1, fun p => (hr.2 p).trans (and_congr (h.start _ _ _).symm (h.open_ _ _).symm)⟩
end

/-- the matches that begin at the times of a list -/
structure RunK (x : Inp) (en : Int) (ps : List Int) (xs : List Iv) : Prop where
  inc : xs.Pairwise fun a b => a.1 < b.1
  mem : ∀ p : Iv, p ∈ xs ↔ p.1 ∈ ps ∧ LeastOf (FinS x p.1 en) p.2
  len : xs.length ≤ ps.length
section
variable {x : Inp} {en : Int} {ps : List Int} {xs : List Iv} {p v : Int}
theorem RunK.nil : RunK x en [] [] := ⟨List.Pairwise.nil, by simp, Nat.le_refl _⟩
theorem RunK.skip (h : RunK x en ps xs) (hn : ∀ t, ¬ FinS x p en t) : RunK x en (ps ++ [p]) xs := by
  refine ⟨h.inc, fun q => ?_, by have := h.len; simp; omega⟩
  rw [h.mem]
  constructor
  · rintro ⟨h1, h2⟩; exact ⟨by simp [h1], h2⟩
  · rintro ⟨h1, h2⟩
    rcases List.mem_append.1 h1 with h1 | h1
    · exact ⟨h1, h2⟩
    · have h1 : q.1 = p := by simpa using h1
      rw [h1] at h2
      exact absurd h2.1 (hn _)
theorem RunK.add (h : RunK x en ps xs) (hl : LeastOf (FinS x p en) v) (hp : ∀ q ∈ ps, q < p) : RunK x en (ps ++ [p]) (xs ++ [(p, v)]) := by
  refine ⟨List.pairwise_append.2 ⟨h.inc, List.pairwise_singleton _ _, fun a ha b hb => ?_⟩, fun q => ?_, by have := h.len; simp; omega⟩
  · have : b = (p, v) := by simpa using hb
    subst this
    exact hp _ ((h.mem a).1 ha).1
  · rw [List.mem_append, h.mem, List.mem_append]
    constructor
    · rintro (⟨h1, h2⟩ | h1)
      · exact ⟨.inl h1, h2⟩
      · have h1 : q = (p, v) := by simpa using h1
        subst h1
        exact ⟨.inr (by simp), hl⟩
    · rintro ⟨h1 | h1, h2⟩
      · exact .inl ⟨h1, h2⟩
      · have h1 : q.1 = p := by simpa using h1
        rw [h1] at h2
        right
        have h3 := h2.uniq hl
        rw [List.mem_singleton]
        exact Prod.ext h1 h3
theorem RunK.fin {f t : Int} (h : RunK x en ps xs) (hs : ListOf (StartS x f t) ps) : IsRun x f t en xs := ⟨h.inc, fun p => by rw [h.mem, hs.2]⟩
end

structure OpenK (x : Inp) (en : Int) (ps : List Int) (l : List Int) : Prop where
  inc : l.Pairwise (· < ·)
  mem : ∀ p, p ∈ l ↔ p ∈ ps ∧ OpenS x p en
  len : l.length ≤ ps.length
section
variable {x : Inp} {en : Int} {ps l : List Int} {p : Int}
theorem OpenK.nil : OpenK x en [] [] := ⟨List.Pairwise.nil, by simp, Nat.le_refl _⟩
theorem OpenK.skip (h : OpenK x en ps l) (hn : ¬ OpenS x p en) : OpenK x en (ps ++ [p]) l := by
  refine ⟨h.inc, fun q => ?_, by have := h.len; simp; omega⟩
  rw [h.mem]
  constructor
  · rintro ⟨h1, h2⟩; exact ⟨by simp [h1], h2⟩
  · rintro ⟨h1, h2⟩
    rcases List.mem_append.1 h1 with h1 | h1
    · exact ⟨h1, h2⟩
    · have h1 : q = p := by simpa using h1
      rw [h1] at h2
      exact absurd h2 hn
theorem OpenK.add (h : OpenK x en ps l) (hl : OpenS x p en) (hp : ∀ q ∈ ps, q < p) : OpenK x en (ps ++ [p]) (l ++ [p]) := by
  refine ⟨List.pairwise_append.2 ⟨h.inc, List.pairwise_singleton _ _, fun a ha b hb => ?_⟩, fun q => ?_, by have := h.len; simp; omega⟩
  · have : b = p := by simpa using hb
    subst this
    exact hp _ ((h.mem a).1 ha).1
  · rw [List.mem_append, h.mem, List.mem_append]
    constructor
    · rintro (⟨h1, h2⟩ | h1)
      · exact ⟨.inl h1, h2⟩
      · have h1 : q = p := by simpa using h1
        subst h1
        exact ⟨.inr (by simp), hl⟩
    · rintro ⟨h1 | h1, h2⟩
      · exact .inl ⟨h1, h2⟩
      · exact .inr h1
theorem OpenK.fin {f t : Int} (h : OpenK x en ps l) (hs : ListOf (StartS x f t) ps) : IsOpen x f t en l := ⟨h.inc, fun p => by rw [h.mem, hs.2]⟩
end
/-- a strictly increasing list: the elements ahead of one are less -/
theorem take_lt {ps : List Int} (h : ps.Pairwise (· < ·)) {k : Nat} (hk : k < ps.length) : ∀ q ∈ ps.take k, q < ps[k] := fun q hq => by
  obtain ⟨i, hi⟩ := List.getElem?_of_mem hq
  have hl := (List.getElem?_eq_some_iff.1 hi).1
  rw [List.length_take] at hl
  rw [List.getElem?_take_of_lt (by omega)] at hi
  obtain ⟨h1, h2⟩ := List.getElem?_eq_some_iff.1 hi
  rw [← h2]
  exact List.pairwise_iff_getElem.1 h i k h1 hk (by omega)
theorem take_succ' {ps : List Int} {k : Nat} (hk : k < ps.length) : ps.take (k + 1) = ps.take k ++ [ps[k]] := by simp

section
variable {x : MIn} {st s t : Int}
theorem rch_in (ok : MOk x) (hst : 0 ≤ st ∧ st ≤ x.en) (h : Rch x.inp st x.en s t) : (0 ≤ s ∧ s < x.a.fin.length) ∧ 0 ≤ t ∧ t ≤ x.en := by
  have h1 := h.time fun e he => (ok.edge e he).l0
  have h2 := h.end_ hst.2
  refine ⟨?_, by omega, h2⟩
  cases h with
  | base e he _ _ => have := ok.edge e he; have h1 := this.f0; have h2 := this.ft; have h3 := this.tn; omega
  | step u e t _ he _ => have := ok.edge e he; have h1 := this.f0; have h2 := this.ft; have h3 := this.tn; omega
theorem rch_64 (ok : MOk x) (hst : 0 ≤ st ∧ st ≤ x.en) (h : Rch x.inp st x.en s t) : I64 s ∧ I64 t := by
  have := rch_in ok hst h
  have h2 := ok.fin
  have h3 := ok.e1
  unfold I64
  omega
theorem open_iff (hn : ∀ t, ¬ FinS x.inp st x.en t) {b : Bool} (h : b = true ↔ ∃ s u, Rch x.inp st x.en s u ∧ OpAt x.inp x.en s u) : b = true ↔ OpenS x.inp st x.en := by
  rw [h]
  constructor
  · rintro ⟨s, u, h1, e, he, rfl, h2, h3⟩; exact ⟨fun ⟨t, ht⟩ => hn t ht, u, e, he, h1, h2, h3⟩
  · rintro ⟨_, u, e, he, h1, h2, h3⟩; exact ⟨_, u, h1, e, he, rfl, h2, h3⟩
theorem starts_few (ok : MOk x) {f g : Int} {ps : List Int} (h : ListOf (StartS x.inp f g) ps) : ps.length ≤ 960 := by
  refine Nat.le_trans (nodup_le (U := (univ x.inp).map Prod.snd) (h.1.imp fun h => by omega) fun p hp => ?_) ?_
  · obtain ⟨_, _, e, he, _, h2⟩ := (h.2 p).1 hp
    exact List.mem_map.2 ⟨(e.to_, p), List.mem_flatMap.2 ⟨e, he, List.mem_map.2 ⟨_, h2, rfl⟩⟩, rfl⟩
  · rw [List.length_map]
    refine Nat.le_trans (univ_len fun e he => ?_) (by have := ok.few; show x.a.edges.length * 24 ≤ 960; omega)
    obtain ⟨k, hk, _, h2⟩ := ok.event he
    rw [h2]
    exact (ok.evs _ (List.getElem_mem hk)).1
end

end Go.Proofs.Ytkbiefklilelmaa
