/-
  Several texts in one: MatchS, MatchM. Each says at its head what it holds.
-/
import Derived.Test.YtkbiefklilelmaaMR3
import Derived.Test.YtkbiefklilelmaaMR4
import Derived.Test.YtkbiefklilelmaaMR6

/-
  Plain mathematics of ways through automata: which states and times are reached, the first matches, the open times. No program in sight.
-/
namespace Go.Proofs.Ytkbiefklilelmaa

/-- an automaton's edges and final states with the times of its events and the sets of its conditions -/
structure Inp where
  edges : List Edg
  fin : List Bool
  ev : List (List Int)
  cs : List (List Iv)

/-- the list with a number; none has no elements -/
def nth {α : Type} (l : List (List α)) (i : Int) : List α := l.getD i.toNat []
/-- a condition (-1: none) holds at all times between two ones, which do not count -/
def HoldW (cs : List (List Iv)) (wh u v : Int) : Prop := wh = -1 ∨ ∀ t, u < t → t < v → Mem (nth cs wh) t
/-- an edge leads from a time to another one -/
def GoesW (x : Inp) (en : Int) (e : Edg) (u t : Int) : Prop := t ∈ nth x.ev e.event ∧ u + e.low ≤ t ∧ t ≤ u + e.high ∧ t ≤ en ∧ HoldW x.cs e.while_ u t

inductive Rch (x : Inp) (st en : Int) : Int → Int → Prop
  | base (e : Edg) (he : e ∈ x.edges) (h0 : e.from_ = 0) (hs : st ∈ nth x.ev e.event) : Rch x st en e.to_ st
  | step (u : Int) (e : Edg) (t : Int) (h : Rch x st en e.from_ u) (he : e ∈ x.edges) (hg : GoesW x en e u t) : Rch x st en e.to_ t

/-- what is reached by the first k edges, taken in order -/
def Rk (x : Inp) (st en : Int) : Nat → Int → Int → Prop
  | 0, _, _ => False
  | k + 1, s, t => Rk x st en k s t ∨ ∃ e, x.edges[k]? = some e ∧ s = e.to_ ∧ ((e.from_ = 0 ∧ t = st ∧ st ∈ nth x.ev e.event) ∨ (e.from_ ≠ 0 ∧ ∃ u, Rk x st en k e.from_ u ∧ GoesW x en e u t))

/-- the order of the edges -/
structure Ordd (x : Inp) : Prop where
  lt : ∀ e ∈ x.edges, 0 ≤ e.from_ ∧ e.from_ < e.to_
  mono : ∀ i j : Nat, ∀ a b : Edg, i ≤ j → x.edges[i]? = some a → x.edges[j]? = some b → a.from_ ≤ b.from_

section
variable {x : Inp} {st en : Int}
theorem Rk.mono {k k' : Nat} {s t : Int} (h : Rk x st en k s t) (hk : k ≤ k') : Rk x st en k' s t := by
  induction hk with
  | refl => exact h
  | step _ ih => exact .inl ih
theorem Rk.src {k : Nat} {s t : Int} (h : Rk x st en k s t) : ∃ j e, j < k ∧ x.edges[j]? = some e ∧ e.to_ = s ∧ Rk x st en (j + 1) s t := by
  induction k with
  | zero => exact h.elim
  | succ k ih =>
    rcases h with h | ⟨e, he, hs, hr⟩
    · obtain ⟨j, e, h1, h2⟩ := ih h
      exact ⟨j, e, by omega, h2⟩
    · exact ⟨k, e, by omega, he, hs.symm, .inr ⟨e, he, hs, hr⟩⟩
theorem Rk.rch {k : Nat} {s t : Int} (h : Rk x st en k s t) : Rch x st en s t := by
  induction k generalizing s t with
  | zero => exact h.elim
  | succ k ih =>
    rcases h with h | ⟨e, he, rfl, hr⟩
    · exact ih h
    · have hm := List.mem_of_getElem? he
      rcases hr with ⟨h0, rfl, hs⟩ | ⟨_, u, hu, hg⟩
      · exact .base e hm h0 hs
      · exact .step u e t (ih hu) hm hg
theorem Rch.pos (ho : Ordd x) {s t : Int} (h : Rch x st en s t) : 0 < s := by
  cases h with
  | base e he _ _ => have := ho.lt e he; omega
  | step u e t _ he _ => have := ho.lt e he; omega
/-- what reaches the beginning of edge i is reached by the edges ahead of it -/
theorem Rk.ahead (ho : Ordd x) {k i : Nat} {s t : Int} {e : Edg} (h : Rk x st en k s t) (he : x.edges[i]? = some e) (hs : e.from_ = s) : Rk x st en i s t := by
  obtain ⟨j, a, _, h2, h3, h4⟩ := h.src
  rcases Nat.lt_or_ge j i with h5 | h5
  · exact h4.mono h5
  · have h6 := ho.mono i j e a h5 he h2
    have h7 := ho.lt a (List.mem_of_getElem? h2)
    omega
theorem Rch.rk (ho : Ordd x) {s t : Int} (h : Rch x st en s t) : Rk x st en x.edges.length s t := by
  induction h with
  | base e he h0 hs =>
    obtain ⟨i, hi⟩ := List.getElem?_of_mem he
    have hl := (List.getElem?_eq_some_iff.1 hi).1
    exact Rk.mono (k := i + 1) (.inr ⟨e, hi, rfl, .inl ⟨h0, rfl, hs⟩⟩) hl
  | step u e t h he hg ih =>
    obtain ⟨i, hi⟩ := List.getElem?_of_mem he
    have hl := (List.getElem?_eq_some_iff.1 hi).1
    have hp := h.pos ho
    exact Rk.mono (k := i + 1) (.inr ⟨e, hi, rfl, .inr ⟨by omega, u, ih.ahead ho hi rfl, hg⟩⟩) hl
theorem rk_iff (ho : Ordd x) (s t : Int) : Rk x st en x.edges.length s t ↔ Rch x st en s t := ⟨Rk.rch, Rch.rk ho⟩
/-- as long as the edges begin at 0, nothing but the start is reached -/
theorem Rk.zero {k : Nat} {s t : Int} (hz : ∀ i e, i < k → x.edges[i]? = some e → e.from_ = 0) (h : Rk x st en k s t) : t = st := by
  induction k with
  | zero => exact h.elim
  | succ k ih =>
    rcases h with h | ⟨e, he, _, hr⟩
    · exact ih (fun i e hi => hz i e (by omega)) h
    · rcases hr with ⟨_, h, _⟩ | ⟨hn, _⟩
      · exact h
      · exact absurd (hz k e (by omega) he) hn
theorem Rch.time (hlow : ∀ e ∈ x.edges, 0 ≤ e.low) {s t : Int} (h : Rch x st en s t) : st ≤ t := by
  induction h with
  | base => exact Int.le_refl _
  | step u e t h he hg ih =>
    have := hlow e he
    have := hg.2.1
    omega
theorem Rch.end_ {s t : Int} (hse : st ≤ en) (h : Rch x st en s t) : t ≤ en := by
  cases h with
  | base => exact hse
  | step u e t h he hg => exact hg.2.2.2.1
end

/-- the times of a range at which ways can begin -/
def StartS (x : Inp) (from_ to_ t : Int) : Prop := from_ ≤ t ∧ t ≤ to_ ∧ ∃ e ∈ x.edges, e.from_ = 0 ∧ t ∈ nth x.ev e.event
/-- the times at which final states are reached -/
def FinS (x : Inp) (st en t : Int) : Prop := ∃ s : Int, Rch x st en s t ∧ x.fin.getD s.toNat false = true
def LeastOf (S : Int → Prop) (v : Int) : Prop := S v ∧ ∀ t, S t → v ≤ t
theorem LeastOf.uniq {S : Int → Prop} {a b : Int} (h : LeastOf S a) (h' : LeastOf S b) : a = b := Int.le_antisymm (h.2 _ h'.1) (h'.2 _ h.1)
theorem LeastOf.congr {S S' : Int → Prop} {a : Int} (h : LeastOf S a) (hs : ∀ t, S t ↔ S' t) : LeastOf S' a := ⟨(hs _).1 h.1, fun t ht => h.2 t ((hs t).2 ht)⟩
theorem least_ex {S : Int → Prop} (lo : Int) (hlo : ∀ t, S t → lo ≤ t) (t : Int) (ht : S t) : ∃ v, LeastOf S v := by
  obtain ⟨n, hn⟩ : ∃ n : Nat, t = lo + n := ⟨(t - lo).toNat, by have := hlo t ht; omega⟩
  induction n using Nat.strongRecOn generalizing t with
  | ind n ih =>
    by_cases h : ∃ u, S u ∧ u < t
    · obtain ⟨u, hu, hlt⟩ := h
      have := hlo u hu
      exact ih (u - lo).toNat (by omega) u hu (by omega)
    · exact ⟨t, ht, fun u hu => Int.not_lt.1 fun hlt => h ⟨u, hu, hlt⟩⟩
def OpenS (x : Inp) (st en : Int) : Prop := (¬ ∃ t, FinS x st en t) ∧ ∃ u, ∃ e ∈ x.edges, Rch x st en e.from_ u ∧ en - u < e.high ∧ HoldW x.cs e.while_ u (en + 1)

def IsRun (x : Inp) (from_ to_ en : Int) (xs : List Iv) : Prop := xs.Pairwise (fun a b => a.1 < b.1) ∧ ∀ p : Iv, p ∈ xs ↔ StartS x from_ to_ p.1 ∧ LeastOf (FinS x p.1 en) p.2
def IsOpen (x : Inp) (from_ to_ en : Int) (l : List Int) : Prop := l.Pairwise (· < ·) ∧ ∀ t, t ∈ l ↔ StartS x from_ to_ t ∧ OpenS x t en

/-- a list that is sorted strictly by a number is the only one of its elements -/
theorem sorted_ext {α : Type} (f : α → Int) : ∀ {xs ys : List α}, xs.Pairwise (fun a b => f a < f b) → ys.Pairwise (fun a b => f a < f b) → (∀ p, p ∈ xs ↔ p ∈ ys) → xs = ys
  | [], [], _, _, _ => rfl
  | [], y :: ys, _, _, h => by have := (h y).2 (by simp); simp at this
  | x :: xs, [], _, _, h => by have := (h x).1 (by simp); simp at this
  | x :: xs, y :: ys, hx, hy, h => by
    rw [List.pairwise_cons] at hx hy
    have e : x = y := by
      rcases List.mem_cons.1 ((h x).1 (by simp)) with h1 | h1
      · exact h1
      · rcases List.mem_cons.1 ((h y).2 (by simp)) with h2 | h2
        · exact h2.symm
        · have := hx.1 y h2
          have := hy.1 x h1
          omega
    subst e
    rw [sorted_ext f hx.2 hy.2 fun p => ?_]
    constructor
    · intro hp
      rcases List.mem_cons.1 ((h p).1 (by simp [hp])) with h1 | h1
      · have := hx.1 p hp; rw [h1] at this; omega
      · exact h1
    · intro hp
      rcases List.mem_cons.1 ((h p).2 (by simp [hp])) with h1 | h1
      · have := hy.1 p hp; rw [h1] at this; omega
      · exact h1
theorem IsRun.uniq {x : Inp} {a b c : Int} {xs ys : List Iv} (h : IsRun x a b c xs) (h' : IsRun x a b c ys) : xs = ys :=
  sorted_ext (fun p : Iv => p.1) h.1 h'.1 fun p => (h.2 p).trans (h'.2 p).symm
theorem IsOpen.uniq {x : Inp} {a b c : Int} {xs ys : List Int} (h : IsOpen x a b c xs) (h' : IsOpen x a b c ys) : xs = ys :=
  sorted_ext (fun p : Int => p) h.1 h'.1 fun p => (h.2 p).trans (h'.2 p).symm

end Go.Proofs.Ytkbiefklilelmaa

/-
  The input of a search for matches in memory: an automaton, the times of its events, the sets of its conditions.
-/
namespace Go.Proofs.Ytkbiefklilelmaa
open Go.RowKit

/-- a slice of ints, of intervals -/
structure SlI where
  A : Option Addr
  c : Nat
  xs : List Int
structure SlV where
  A : Option Addr
  c : Nat
  xs : List Iv
def cSlI (s : SlI) : List Value := [.slice s.A s.xs.length s.c]
def cSlV (s : SlV) : List Value := [.slice s.A s.xs.length s.c]

/-- lists of times in memory -/
structure EvAt (w : World) (A : Option Addr) (l : List SlI) : Prop where
  row : Row w (Lo w.heap.size) 1 cSlI A l
  each : ∀ s ∈ l, IntsAt w w.heap.size s.A s.xs
structure CsAt (w : World) (A : Option Addr) (l : List SlV) : Prop where
  row : Row w (Lo w.heap.size) 1 cSlV A l
  each : ∀ s ∈ l, IvsAt w w.heap.size s.A s.xs
theorem EvAt.step {w w' : World} {A : Option Addr} {l : List SlI} (h : EvAt w A l) (hb : Below w.heap.size w w') : EvAt w' A l := ⟨h.row.grow hb, fun s hs => (h.each s hs).step hb⟩
theorem CsAt.step {w w' : World} {A : Option Addr} {l : List SlV} (h : CsAt w A l) (hb : Below w.heap.size w w') : CsAt w' A l := ⟨h.row.grow hb, fun s hs => (h.each s hs).step hb⟩
theorem EvAt.at_ {w : World} {A : Option Addr} {l : List SlI} (h : EvAt w A l) {k : Nat} (hk : k < l.length) : ∃ b off, A = some ⟨b, off, none⟩ ∧ b < w.heap.size ∧ w.cell? ⟨b, off + k, none⟩ = some (.slice l[k].A l[k].xs.length l[k].c) ∧ IntsAt w w.heap.size l[k].A l[k].xs := by
  obtain ⟨b, off, e, hb, hc⟩ := h.row.at_ hk
  have := hc 0 (by omega)
  rw [Nat.mul_one, Nat.add_zero] at this
  exact ⟨b, off, e, hb, this, h.each _ (List.getElem_mem hk)⟩
theorem CsAt.at_ {w : World} {A : Option Addr} {l : List SlV} (h : CsAt w A l) {k : Nat} (hk : k < l.length) : ∃ b off, A = some ⟨b, off, none⟩ ∧ b < w.heap.size ∧ w.cell? ⟨b, off + k, none⟩ = some (.slice l[k].A l[k].xs.length l[k].c) ∧ IvsAt w w.heap.size l[k].A l[k].xs := by
  obtain ⟨b, off, e, hb, hc⟩ := h.row.at_ hk
  have := hc 0 (by omega)
  rw [Nat.mul_one, Nat.add_zero] at this
  exact ⟨b, off, e, hb, this, h.each _ (List.getElem_mem hk)⟩

/-- the struct that match.prepare returns -/
structure MIn where
  a : Aut
  AV : Option Addr
  cV : Nat
  ev : List SlI
  AS : Option Addr
  cS : Nat
  cs : List SlV
  en : Int
def encX (x : MIn) : List Value := encA x.a ++ [.slice x.AV x.ev.length x.cV, .slice x.AS x.cs.length x.cS, .int .i64 x.en]
def MIn.inp (x : MIn) : Inp := ⟨x.a.edges, x.a.fin, x.ev.map SlI.xs, x.cs.map SlV.xs⟩
structure MAt (w : World) (x : MIn) : Prop where
  aut : AutAt w (Lo w.heap.size) x.a
  ev : EvAt w x.AV x.ev
  cs : CsAt w x.AS x.cs
theorem MAt.step {w w' : World} {x : MIn} (h : MAt w x) (hb : Below w.heap.size w w') : MAt w' x := ⟨h.aut.grow hb, h.ev.step hb, h.cs.step hb⟩

def Incr (l : List Int) : Prop := l.Pairwise (· < ·) ∧ ∀ t ∈ l, 0 ≤ t ∧ t ≤ 1099511627776
structure EdgOk (n nE nC : Nat) (e : Edg) : Prop where
  f0 : 0 ≤ e.from_
  ft : e.from_ < e.to_
  tn : e.to_ < n
  e0 : 0 ≤ e.event
  en : e.event < nE
  w0 : -1 ≤ e.while_
  wn : e.while_ < nC
  l0 : 0 ≤ e.low
  lh : e.low ≤ e.high
  h1 : e.high ≤ 1099511627776
/-- an input that has been checked -/
structure MOk (x : MIn) : Prop where
  few : x.a.edges.length ≤ 40
  fin : x.a.fin.length ≤ 33
  edge : ∀ e ∈ x.a.edges, EdgOk x.a.fin.length x.ev.length x.cs.length e
  mono : ∀ i j : Nat, ∀ a b : Edg, i ≤ j → x.a.edges[i]? = some a → x.a.edges[j]? = some b → a.from_ ≤ b.from_
  nev : x.ev.length ≤ 40
  ncs : x.cs.length ≤ 40
  evs : ∀ s ∈ x.ev, s.xs.length ≤ 24 ∧ Incr s.xs
  css : ∀ s ∈ x.cs, s.xs.length ≤ 1000000000000
  e0 : 0 ≤ x.en
  e1 : x.en ≤ 1099511627776
theorem MOk.ord {x : MIn} (h : MOk x) : Ordd x.inp := ⟨fun e he => ⟨(h.edge e he).f0, (h.edge e he).ft⟩, h.mono⟩
theorem nth_at {α : Type} {l : List (List α)} {i : Int} {k : Nat} (hk : k < l.length) (hi : i = (k : Int)) : nth l i = l[k] := by
  subst hi
  unfold nth
  rw [Int.toNat_natCast, List.getD_eq_getElem?_getD, List.getElem?_eq_getElem hk]
  rfl
/-- the list of an edge's event -/
theorem MOk.event {x : MIn} (h : MOk x) {e : Edg} (he : e ∈ x.a.edges) : ∃ k : Nat, ∃ hk : k < x.ev.length, e.event = (k : Int) ∧ nth x.inp.ev e.event = x.ev[k].xs := by
  have ho := h.edge e he
  have h0 := ho.e0
  have h1 := ho.en
  obtain ⟨k, hk⟩ := Int.eq_ofNat_of_zero_le h0
  have hl : k < x.ev.length := by omega
  refine ⟨k, hl, hk, ?_⟩
  rw [nth_at (by simpa [MIn.inp] using hl) hk]
  simp [MIn.inp]
theorem MOk.cond {x : MIn} (h : MOk x) {e : Edg} (he : e ∈ x.a.edges) (hw : e.while_ ≠ -1) : ∃ k : Nat, ∃ hk : k < x.cs.length, e.while_ = (k : Int) ∧ nth x.inp.cs e.while_ = x.cs[k].xs := by
  have ho := h.edge e he
  have h0 := ho.w0
  have h1 := ho.wn
  obtain ⟨k, hk⟩ := Int.eq_ofNat_of_zero_le (show 0 ≤ e.while_ by omega)
  have hl : k < x.cs.length := by omega
  refine ⟨k, hl, hk, ?_⟩
  rw [nth_at (by simpa [MIn.inp] using hl) hk]
  simp [MIn.inp]

theorem box7 {w : World} {N : Nat} {a b c d e f g : Value} {t : TypeId} (h : w.heap[N]? = some (.cells #[a, b, c, d, e, f, g] t (0, 0))) : w.cell? ⟨N, 0, none⟩ = some a ∧ w.cell? ⟨N, 1, none⟩ = some b ∧ w.cell? ⟨N, 2, none⟩ = some c ∧ w.cell? ⟨N, 3, none⟩ = some d ∧ w.cell? ⟨N, 4, none⟩ = some e ∧ w.cell? ⟨N, 5, none⟩ = some f ∧ w.cell? ⟨N, 6, none⟩ = some g :=
  ⟨by rw [cell_of_row w N _ _ t (0, 0) h]; rfl, by rw [cell_of_row w N _ _ t (0, 0) h]; rfl, by rw [cell_of_row w N _ _ t (0, 0) h]; rfl, by rw [cell_of_row w N _ _ t (0, 0) h]; rfl, by rw [cell_of_row w N _ _ t (0, 0) h]; rfl, by rw [cell_of_row w N _ _ t (0, 0) h]; rfl, by rw [cell_of_row w N _ _ t (0, 0) h]; rfl⟩

/-- the times of a sorted list from a place on, up to a greatest one -/
def upTo (l : List Int) (k : Nat) (to_ : Int) : List Int := (l.drop k).takeWhile fun t => decide (t ≤ to_)
theorem upTo_step {l : List Int} {k : Nat} {to_ : Int} (hk : k < l.length) (h : l[k] ≤ to_) : upTo l k to_ = l[k] :: upTo l (k + 1) to_ := by
  unfold upTo
  rw [List.drop_eq_getElem_cons hk, List.takeWhile_cons, if_pos (decide_eq_true h)]
theorem upTo_far {l : List Int} {k : Nat} {to_ : Int} (hk : k < l.length) (h : ¬ l[k] ≤ to_) : upTo l k to_ = [] := by
  unfold upTo
  rw [List.drop_eq_getElem_cons hk, List.takeWhile_cons, if_neg (by simpa using h)]
theorem upTo_end {l : List Int} {k : Nat} {to_ : Int} (hk : l.length ≤ k) : upTo l k to_ = [] := by
  unfold upTo
  rw [List.drop_of_length_le hk]
  rfl
theorem upTo_len (l : List Int) (k : Nat) (to_ : Int) : (upTo l k to_).length ≤ l.length := by
  unfold upTo
  refine Nat.le_trans (List.takeWhile_prefix _).length_le ?_
  rw [List.length_drop]
  omega
/-- of a sorted list: those of a range -/
theorem upTo_mem {l : List Int} (hs : l.Pairwise (· < ·)) {a b t : Int} : t ∈ upTo l (l.countP (· < a)) b ↔ t ∈ l ∧ a ≤ t ∧ t ≤ b := by
  induction l with
  | nil => simp [upTo]
  | cons x l ih =>
    rw [List.pairwise_cons] at hs
    by_cases hx : x < a
    · have e : upTo (x :: l) ((x :: l).countP (· < a)) b = upTo l (l.countP (· < a)) b := by
        unfold upTo
        rw [List.countP_cons_of_pos (by simpa using hx), List.drop_succ_cons]
      rw [e, ih hs.2, List.mem_cons]
      constructor
      · rintro ⟨h1, h2⟩; exact ⟨.inr h1, h2⟩
      · rintro ⟨h1 | h1, h2, h3⟩
        · omega
        · exact ⟨h1, h2, h3⟩
    · have hc : (x :: l).countP (· < a) = 0 := by
        rw [List.countP_eq_zero]
        intro y hy
        rcases List.mem_cons.1 hy with rfl | hy
        · simpa using hx
        · have := hs.1 y hy; simp; omega
      rw [hc]
      have key : ∀ (m : List Int), m.Pairwise (· < ·) → (t ∈ m.takeWhile (fun t => decide (t ≤ b)) ↔ t ∈ m ∧ t ≤ b) := fun m hm => by
        induction m with
        | nil => simp
        | cons y m ihm =>
          rw [List.pairwise_cons] at hm
          by_cases hy : y ≤ b
          · rw [List.takeWhile_cons, if_pos (decide_eq_true hy), List.mem_cons, List.mem_cons, ihm hm.2]
            constructor
            · rintro (rfl | ⟨h1, h2⟩)
              · exact ⟨.inl rfl, hy⟩
              · exact ⟨.inr h1, h2⟩
            · rintro ⟨rfl | h1, h2⟩
              · exact .inl rfl
              · exact .inr ⟨h1, h2⟩
          · rw [List.takeWhile_cons, if_neg (by simpa using hy)]
            constructor
            · intro h; cases h
            · rintro ⟨h1, h2⟩
              rcases List.mem_cons.1 h1 with rfl | h1
              · omega
              · have := hm.1 t h1; omega
      unfold upTo
      rw [List.drop_zero, key _ (List.pairwise_cons.2 hs)]
      constructor
      · rintro ⟨h1, h2⟩
        refine ⟨h1, ?_, h2⟩
        rcases List.mem_cons.1 h1 with rfl | h1
        · omega
        · have := hs.1 t h1; omega
      · rintro ⟨h1, _, h2⟩; exact ⟨h1, h2⟩

end Go.Proofs.Ytkbiefklilelmaa
