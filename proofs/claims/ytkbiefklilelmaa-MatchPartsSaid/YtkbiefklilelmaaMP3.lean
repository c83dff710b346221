/-
  Several texts in one: MatchS, MatchM, Key2, Add, Bin. Each says at its head what it holds.
-/
import Derived.Test.YtkbiefklilelmaaMP1
import Derived.Test.YtkbiefklilelmaaMP2
import Derived.Maps.Own
import Derived.Maps.OwnSet
import Derived.Maps.Views
import Derived.Maps.RangeWalk
import Derived.DeepKeys4
import Derived.Carry
import Derived.Maps.AppendAt
import Derived.RangeFuncBox
import Derived.Test.YtkbiefklilelmaaShelf2

/-
  Plain mathematics of ways through automata: which states and times are reached, the first matches, the open times. No program in sight.
-/
namespace Go.Proofs.Ytkbiefklilelmaa

/-- an automaton's edges and final states with the times of its events and the sets of its conditions -/
structure Inp where
  edges : List Edg
  fin : List Bool
  ev : List (List Int)
  cs : List (List Iv)

/-- the list with a number; none has no elements -/
def nth {α : Type} (l : List (List α)) (i : Int) : List α := l.getD i.toNat []
/-- a condition (-1: none) holds at all times between two ones, which do not count -/
def HoldW (cs : List (List Iv)) (wh u v : Int) : Prop := wh = -1 ∨ ∀ t, u < t → t < v → Mem (nth cs wh) t
/-- an edge leads from a time to another one -/
def GoesW (x : Inp) (en : Int) (e : Edg) (u t : Int) : Prop := t ∈ nth x.ev e.event ∧ u + e.low ≤ t ∧ t ≤ u + e.high ∧ t ≤ en ∧ HoldW x.cs e.while_ u t

inductive Rch (x : Inp) (st en : Int) : Int → Int → Prop
  | base (e : Edg) (he : e ∈ x.edges) (h0 : e.from_ = 0) (hs : st ∈ nth x.ev e.event) : Rch x st en e.to_ st
  | step (u : Int) (e : Edg) (t : Int) (h : Rch x st en e.from_ u) (he : e ∈ x.edges) (hg : GoesW x en e u t) : Rch x st en e.to_ t

/-- what is reached by the first k edges, taken in order -/
def Rk (x : Inp) (st en : Int) : Nat → Int → Int → Prop
  | 0, _, _ => False
  | k + 1, s, t => Rk x st en k s t ∨ ∃ e, x.edges[k]? = some e ∧ s = e.to_ ∧ ((e.from_ = 0 ∧ t = st ∧ st ∈ nth x.ev e.event) ∨ (e.from_ ≠ 0 ∧ ∃ u, Rk x st en k e.from_ u ∧ GoesW x en e u t))

/-- the order of the edges -/
structure Ordd (x : Inp) : Prop where
  lt : ∀ e ∈ x.edges, 0 ≤ e.from_ ∧ e.from_ < e.to_
  mono : ∀ i j : Nat, ∀ a b : Edg, i ≤ j → x.edges[i]? = some a → x.edges[j]? = some b → a.from_ ≤ b.from_

section
variable {x : Inp} {st en : Int}
theorem Rk.mono {k k' : Nat} {s t : Int} (h : Rk x st en k s t) (hk : k ≤ k') : Rk x st en k' s t := by
  induction hk with
  | refl => exact h
  | step _ ih => exact .inl ih
theorem Rk.src {k : Nat} {s t : Int} (h : Rk x st en k s t) : ∃ j e, j < k ∧ x.edges[j]? = some e ∧ e.to_ = s ∧ Rk x st en (j + 1) s t := by
  induction k with
  | zero => exact h.elim
  | succ k ih =>
    rcases h with h | ⟨e, he, hs, hr⟩
    · obtain ⟨j, e, h1, h2⟩ := ih h
      exact ⟨j, e, by omega, h2⟩
    · exact ⟨k, e, by omega, he, hs.symm, .inr ⟨e, he, hs, hr⟩⟩
theorem Rk.rch {k : Nat} {s t : Int} (h : Rk x st en k s t) : Rch x st en s t := by
  induction k generalizing s t with
  | zero => exact h.elim
  | succ k ih =>
    rcases h with h | ⟨e, he, rfl, hr⟩
    · exact ih h
    · have hm := List.mem_of_getElem? he
      rcases hr with ⟨h0, rfl, hs⟩ | ⟨_, u, hu, hg⟩
      · exact .base e hm h0 hs
      · exact .step u e t (ih hu) hm hg
theorem Rch.pos (ho : Ordd x) {s t : Int} (h : Rch x st en s t) : 0 < s := by
  cases h with
  | base e he _ _ => have := ho.lt e he; omega
  | step u e t _ he _ => have := ho.lt e he; omega
/-- what reaches the beginning of edge i is reached by the edges ahead of it -/
theorem Rk.ahead (ho : Ordd x) {k i : Nat} {s t : Int} {e : Edg} (h : Rk x st en k s t) (he : x.edges[i]? = some e) (hs : e.from_ = s) : Rk x st en i s t := by
  obtain ⟨j, a, _, h2, h3, h4⟩ := h.src
  rcases Nat.lt_or_ge j i with h5 | h5
  · exact h4.mono h5
  · have h6 := ho.mono i j e a h5 he h2
    have h7 := ho.lt a (List.mem_of_getElem? h2)
    omega
theorem Rch.rk (ho : Ordd x) {s t : Int} (h : Rch x st en s t) : Rk x st en x.edges.length s t := by
  induction h with
  | base e he h0 hs =>
    obtain ⟨i, hi⟩ := List.getElem?_of_mem he
    have hl := (List.getElem?_eq_some_iff.1 hi).1
    exact Rk.mono (k := i + 1) (.inr ⟨e, hi, rfl, .inl ⟨h0, rfl, hs⟩⟩) hl
  | step u e t h he hg ih =>
    obtain ⟨i, hi⟩ := List.getElem?_of_mem he
    have hl := (List.getElem?_eq_some_iff.1 hi).1
    have hp := h.pos ho
    exact Rk.mono (k := i + 1) (.inr ⟨e, hi, rfl, .inr ⟨by omega, u, ih.ahead ho hi rfl, hg⟩⟩) hl
theorem rk_iff (ho : Ordd x) (s t : Int) : Rk x st en x.edges.length s t ↔ Rch x st en s t := ⟨Rk.rch, Rch.rk ho⟩
/-- as long as the edges begin at 0, nothing but the start is reached -/
theorem Rk.zero {k : Nat} {s t : Int} (hz : ∀ i e, i < k → x.edges[i]? = some e → e.from_ = 0) (h : Rk x st en k s t) : t = st := by
  induction k with
  | zero => exact h.elim
  | succ k ih =>
    rcases h with h | ⟨e, he, _, hr⟩
    · exact ih (fun i e hi => hz i e (by omega)) h
    · rcases hr with ⟨_, h, _⟩ | ⟨hn, _⟩
      · exact h
      · exact absurd (hz k e (by omega) he) hn
theorem Rch.time (hlow : ∀ e ∈ x.edges, 0 ≤ e.low) {s t : Int} (h : Rch x st en s t) : st ≤ t := by
  induction h with
  | base => exact Int.le_refl _
  | step u e t h he hg ih =>
    have := hlow e he
    have := hg.2.1
    omega
theorem Rch.end_ {s t : Int} (hse : st ≤ en) (h : Rch x st en s t) : t ≤ en := by
  cases h with
  | base => exact hse
  | step u e t h he hg => exact hg.2.2.2.1
end

/-- the times of a range at which ways can begin -/
def StartS (x : Inp) (from_ to_ t : Int) : Prop := from_ ≤ t ∧ t ≤ to_ ∧ ∃ e ∈ x.edges, e.from_ = 0 ∧ t ∈ nth x.ev e.event
/-- the times at which final states are reached -/
def FinS (x : Inp) (st en t : Int) : Prop := ∃ s : Int, Rch x st en s t ∧ x.fin.getD s.toNat false = true
def LeastOf (S : Int → Prop) (v : Int) : Prop := S v ∧ ∀ t, S t → v ≤ t
theorem LeastOf.uniq {S : Int → Prop} {a b : Int} (h : LeastOf S a) (h' : LeastOf S b) : a = b := Int.le_antisymm (h.2 _ h'.1) (h'.2 _ h.1)
theorem LeastOf.congr {S S' : Int → Prop} {a : Int} (h : LeastOf S a) (hs : ∀ t, S t ↔ S' t) : LeastOf S' a := ⟨(hs _).1 h.1, fun t ht => h.2 t ((hs t).2 ht)⟩
theorem least_ex {S : Int → Prop} (lo : Int) (hlo : ∀ t, S t → lo ≤ t) (t : Int) (ht : S t) : ∃ v, LeastOf S v := by
  obtain ⟨n, hn⟩ : ∃ n : Nat, t = lo + n := ⟨(t - lo).toNat, by have := hlo t ht; omega⟩
  induction n using Nat.strongRecOn generalizing t with
  | ind n ih =>
    by_cases h : ∃ u, S u ∧ u < t
    · obtain ⟨u, hu, hlt⟩ := h
      have := hlo u hu
      exact ih (u - lo).toNat (by omega) u hu (by omega)
    · exact ⟨t, ht, fun u hu => Int.not_lt.1 fun hlt => h ⟨u, hu, hlt⟩⟩
def OpenS (x : Inp) (st en : Int) : Prop := (¬ ∃ t, FinS x st en t) ∧ ∃ u, ∃ e ∈ x.edges, Rch x st en e.from_ u ∧ en - u < e.high ∧ HoldW x.cs e.while_ u (en + 1)

def IsRun (x : Inp) (from_ to_ en : Int) (xs : List Iv) : Prop := xs.Pairwise (fun a b => a.1 < b.1) ∧ ∀ p : Iv, p ∈ xs ↔ StartS x from_ to_ p.1 ∧ LeastOf (FinS x p.1 en) p.2
def IsOpen (x : Inp) (from_ to_ en : Int) (l : List Int) : Prop := l.Pairwise (· < ·) ∧ ∀ t, t ∈ l ↔ StartS x from_ to_ t ∧ OpenS x t en

/-- a list that is sorted strictly by a number is the only one of its elements -/
theorem sorted_ext {α : Type} (f : α → Int) : ∀ {xs ys : List α}, xs.Pairwise (fun a b => f a < f b) → ys.Pairwise (fun a b => f a < f b) → (∀ p, p ∈ xs ↔ p ∈ ys) → xs = ys
  | [], [], _, _, _ => rfl
  | [], y :: ys, _, _, h => by have := (h y).2 (by simp); simp at this
  | x :: xs, [], _, _, h => by have := (h x).1 (by simp); simp at this
  | x :: xs, y :: ys, hx, hy, h => by
    rw [List.pairwise_cons] at hx hy
    have e : x = y := by
      rcases List.mem_cons.1 ((h x).1 (by simp)) with h1 | h1
      · exact h1
      · rcases List.mem_cons.1 ((h y).2 (by simp)) with h2 | h2
        · exact h2.symm
        · have := hx.1 y h2
          have := hy.1 x h1
          omega
    subst e
    rw [sorted_ext f hx.2 hy.2 fun p => ?_]
    constructor
    · intro hp
      rcases List.mem_cons.1 ((h p).1 (by simp [hp])) with h1 | h1
      · have := hx.1 p hp; rw [h1] at this; omega
      · exact h1
    · intro hp
      rcases List.mem_cons.1 ((h p).2 (by simp [hp])) with h1 | h1
      · have := hy.1 p hp; rw [h1] at this; omega
      · exact h1
theorem IsRun.uniq {x : Inp} {a b c : Int} {xs ys : List Iv} (h : IsRun x a b c xs) (h' : IsRun x a b c ys) : xs = ys :=
  sorted_ext (fun p : Iv => p.1) h.1 h'.1 fun p => (h.2 p).trans (h'.2 p).symm
theorem IsOpen.uniq {x : Inp} {a b c : Int} {xs ys : List Int} (h : IsOpen x a b c xs) (h' : IsOpen x a b c ys) : xs = ys :=
  sorted_ext (fun p : Int => p) h.1 h'.1 fun p => (h.2 p).trans (h'.2 p).symm

end Go.Proofs.Ytkbiefklilelmaa

/-
  The input of a search for matches in memory: an automaton, the times of its events, the sets of its conditions.
-/
namespace Go.Proofs.Ytkbiefklilelmaa
open Go.RowKit

/-- a slice of ints, of intervals -/
structure SlI where
  A : Option Addr
  c : Nat
  xs : List Int
structure SlV where
  A : Option Addr
  c : Nat
  xs : List Iv
def cSlI (s : SlI) : List Value := [.slice s.A s.xs.length s.c]
def cSlV (s : SlV) : List Value := [.slice s.A s.xs.length s.c]

/-- lists of times in memory -/
structure EvAt (w : World) (A : Option Addr) (l : List SlI) : Prop where
  row : Row w (Lo w.heap.size) 1 cSlI A l
  each : ∀ s ∈ l, IntsAt w w.heap.size s.A s.xs
structure CsAt (w : World) (A : Option Addr) (l : List SlV) : Prop where
  row : Row w (Lo w.heap.size) 1 cSlV A l
  each : ∀ s ∈ l, IvsAt w w.heap.size s.A s.xs
theorem EvAt.step {w w' : World} {A : Option Addr} {l : List SlI} (h : EvAt w A l) (hb : Below w.heap.size w w') : EvAt w' A l := ⟨h.row.grow hb, fun s hs => (h.each s hs).step hb⟩
theorem CsAt.step {w w' : World} {A : Option Addr} {l : List SlV} (h : CsAt w A l) (hb : Below w.heap.size w w') : CsAt w' A l := ⟨h.row.grow hb, fun s hs => (h.each s hs).step hb⟩
theorem EvAt.at_ {w : World} {A : Option Addr} {l : List SlI} (h : EvAt w A l) {k : Nat} (hk : k < l.length) : ∃ b off, A = some ⟨b, off, none⟩ ∧ b < w.heap.size ∧ w.cell? ⟨b, off + k, none⟩ = some (.slice l[k].A l[k].xs.length l[k].c) ∧ IntsAt w w.heap.size l[k].A l[k].xs := by
  obtain ⟨b, off, e, hb, hc⟩ := h.row.at_ hk
  have := hc 0 (by omega)
  rw [Nat.mul_one, Nat.add_zero] at this
  exact ⟨b, off, e, hb, this, h.each _ (List.getElem_mem hk)⟩
theorem CsAt.at_ {w : World} {A : Option Addr} {l : List SlV} (h : CsAt w A l) {k : Nat} (hk : k < l.length) : ∃ b off, A = some ⟨b, off, none⟩ ∧ b < w.heap.size ∧ w.cell? ⟨b, off + k, none⟩ = some (.slice l[k].A l[k].xs.length l[k].c) ∧ IvsAt w w.heap.size l[k].A l[k].xs := by
  obtain ⟨b, off, e, hb, hc⟩ := h.row.at_ hk
  have := hc 0 (by omega)
  rw [Nat.mul_one, Nat.add_zero] at this
  exact ⟨b, off, e, hb, this, h.each _ (List.getElem_mem hk)⟩

/-- the struct that match.prepare returns -/
structure MIn where
  a : Aut
  AV : Option Addr
  cV : Nat
  ev : List SlI
  AS : Option Addr
  cS : Nat
  cs : List SlV
  en : Int
def encX (x : MIn) : List Value := encA x.a ++ [.slice x.AV x.ev.length x.cV, .slice x.AS x.cs.length x.cS, .int .i64 x.en]
def MIn.inp (x : MIn) : Inp := ⟨x.a.edges, x.a.fin, x.ev.map SlI.xs, x.cs.map SlV.xs⟩
structure MAt (w : World) (x : MIn) : Prop where
  aut : AutAt w (Lo w.heap.size) x.a
  ev : EvAt w x.AV x.ev
  cs : CsAt w x.AS x.cs
theorem MAt.step {w w' : World} {x : MIn} (h : MAt w x) (hb : Below w.heap.size w w') : MAt w' x := ⟨h.aut.grow hb, h.ev.step hb, h.cs.step hb⟩

def Incr (l : List Int) : Prop := l.Pairwise (· < ·) ∧ ∀ t ∈ l, 0 ≤ t ∧ t ≤ 1099511627776
structure EdgOk (n nE nC : Nat) (e : Edg) : Prop where
  f0 : 0 ≤ e.from_
  ft : e.from_ < e.to_
  tn : e.to_ < n
  e0 : 0 ≤ e.event
  en : e.event < nE
  w0 : -1 ≤ e.while_
  wn : e.while_ < nC
  l0 : 0 ≤ e.low
  lh : e.low ≤ e.high
  h1 : e.high ≤ 1099511627776
/-- an input that has been checked -/
structure MOk (x : MIn) : Prop where
  few : x.a.edges.length ≤ 40
  fin : x.a.fin.length ≤ 33
  edge : ∀ e ∈ x.a.edges, EdgOk x.a.fin.length x.ev.length x.cs.length e
  mono : ∀ i j : Nat, ∀ a b : Edg, i ≤ j → x.a.edges[i]? = some a → x.a.edges[j]? = some b → a.from_ ≤ b.from_
  nev : x.ev.length ≤ 40
  ncs : x.cs.length ≤ 40
  evs : ∀ s ∈ x.ev, s.xs.length ≤ 24 ∧ Incr s.xs
  css : ∀ s ∈ x.cs, s.xs.length ≤ 1000000000000
  e0 : 0 ≤ x.en
  e1 : x.en ≤ 1099511627776
theorem MOk.ord {x : MIn} (h : MOk x) : Ordd x.inp := ⟨fun e he => ⟨(h.edge e he).f0, (h.edge e he).ft⟩, h.mono⟩
theorem nth_at {α : Type} {l : List (List α)} {i : Int} {k : Nat} (hk : k < l.length) (hi : i = (k : Int)) : nth l i = l[k] := by
  subst hi
  unfold nth
  rw [Int.toNat_natCast, List.getD_eq_getElem?_getD, List.getElem?_eq_getElem hk]
  rfl
/-- the list of an edge's event -/
theorem MOk.event {x : MIn} (h : MOk x) {e : Edg} (he : e ∈ x.a.edges) : ∃ k : Nat, ∃ hk : k < x.ev.length, e.event = (k : Int) ∧ nth x.inp.ev e.event = x.ev[k].xs := by
  have ho := h.edge e he
  have h0 := ho.e0
  have h1 := ho.en
  obtain ⟨k, hk⟩ := Int.eq_ofNat_of_zero_le h0
  have hl : k < x.ev.length := by omega
  refine ⟨k, hl, hk, ?_⟩
  rw [nth_at (by simpa [MIn.inp] using hl) hk]
  simp [MIn.inp]
theorem MOk.cond {x : MIn} (h : MOk x) {e : Edg} (he : e ∈ x.a.edges) (hw : e.while_ ≠ -1) : ∃ k : Nat, ∃ hk : k < x.cs.length, e.while_ = (k : Int) ∧ nth x.inp.cs e.while_ = x.cs[k].xs := by
  have ho := h.edge e he
  have h0 := ho.w0
  have h1 := ho.wn
  obtain ⟨k, hk⟩ := Int.eq_ofNat_of_zero_le (show 0 ≤ e.while_ by omega)
  have hl : k < x.cs.length := by omega
  refine ⟨k, hl, hk, ?_⟩
  rw [nth_at (by simpa [MIn.inp] using hl) hk]
  simp [MIn.inp]

theorem box7 {w : World} {N : Nat} {a b c d e f g : Value} {t : TypeId} (h : w.heap[N]? = some (.cells #[a, b, c, d, e, f, g] t (0, 0))) : w.cell? ⟨N, 0, none⟩ = some a ∧ w.cell? ⟨N, 1, none⟩ = some b ∧ w.cell? ⟨N, 2, none⟩ = some c ∧ w.cell? ⟨N, 3, none⟩ = some d ∧ w.cell? ⟨N, 4, none⟩ = some e ∧ w.cell? ⟨N, 5, none⟩ = some f ∧ w.cell? ⟨N, 6, none⟩ = some g :=
  ⟨by rw [cell_of_row w N _ _ t (0, 0) h]; rfl, by rw [cell_of_row w N _ _ t (0, 0) h]; rfl, by rw [cell_of_row w N _ _ t (0, 0) h]; rfl, by rw [cell_of_row w N _ _ t (0, 0) h]; rfl, by rw [cell_of_row w N _ _ t (0, 0) h]; rfl, by rw [cell_of_row w N _ _ t (0, 0) h]; rfl, by rw [cell_of_row w N _ _ t (0, 0) h]; rfl⟩

/-- the times of a sorted list from a place on, up to a greatest one -/
def upTo (l : List Int) (k : Nat) (to_ : Int) : List Int := (l.drop k).takeWhile fun t => decide (t ≤ to_)
theorem upTo_step {l : List Int} {k : Nat} {to_ : Int} (hk : k < l.length) (h : l[k] ≤ to_) : upTo l k to_ = l[k] :: upTo l (k + 1) to_ := by
  unfold upTo
  rw [List.drop_eq_getElem_cons hk, List.takeWhile_cons, if_pos (decide_eq_true h)]
theorem upTo_far {l : List Int} {k : Nat} {to_ : Int} (hk : k < l.length) (h : ¬ l[k] ≤ to_) : upTo l k to_ = [] := by
  unfold upTo
  rw [List.drop_eq_getElem_cons hk, List.takeWhile_cons, if_neg (by simpa using h)]
theorem upTo_end {l : List Int} {k : Nat} {to_ : Int} (hk : l.length ≤ k) : upTo l k to_ = [] := by
  unfold upTo
  rw [List.drop_of_length_le hk]
  rfl
theorem upTo_len (l : List Int) (k : Nat) (to_ : Int) : (upTo l k to_).length ≤ l.length := by
  unfold upTo
  refine Nat.le_trans (List.takeWhile_prefix _).length_le ?_
  rw [List.length_drop]
  omega
/-- of a sorted list: those of a range -/
theorem upTo_mem {l : List Int} (hs : l.Pairwise (· < ·)) {a b t : Int} : t ∈ upTo l (l.countP (· < a)) b ↔ t ∈ l ∧ a ≤ t ∧ t ≤ b := by
  induction l with
  | nil => simp [upTo]
  | cons x l ih =>
    rw [List.pairwise_cons] at hs
    by_cases hx : x < a
    · have e : upTo (x :: l) ((x :: l).countP (· < a)) b = upTo l (l.countP (· < a)) b := by
        unfold upTo
        rw [List.countP_cons_of_pos (by simpa using hx), List.drop_succ_cons]
      rw [e, ih hs.2, List.mem_cons]
      constructor
      · rintro ⟨h1, h2⟩; exact ⟨.inr h1, h2⟩
      · rintro ⟨h1 | h1, h2, h3⟩
        · omega
        · exact ⟨h1, h2, h3⟩
    · have hc : (x :: l).countP (· < a) = 0 := by
        rw [List.countP_eq_zero]
        intro y hy
        rcases List.mem_cons.1 hy with rfl | hy
        · simpa using hx
        · have := hs.1 y hy; simp; omega
      rw [hc]
      have key : ∀ (m : List Int), m.Pairwise (· < ·) → (t ∈ m.takeWhile (fun t => decide (t ≤ b)) ↔ t ∈ m ∧ t ≤ b) := fun m hm => by
        induction m with
        | nil => simp
        | cons y m ihm =>
          rw [List.pairwise_cons] at hm
          by_cases hy : y ≤ b
          · rw [List.takeWhile_cons, if_pos (decide_eq_true hy), List.mem_cons, List.mem_cons, ihm hm.2]
            constructor
            · rintro (rfl | ⟨h1, h2⟩)
              · exact ⟨.inl rfl, hy⟩
              · exact ⟨.inr h1, h2⟩
            · rintro ⟨rfl | h1, h2⟩
              · exact .inl rfl
              · exact .inr ⟨h1, h2⟩
          · rw [List.takeWhile_cons, if_neg (by simpa using hy)]
            constructor
            · intro h; cases h
            · rintro ⟨h1, h2⟩
              rcases List.mem_cons.1 h1 with rfl | h1
              · omega
              · have := hm.1 t h1; omega
      unfold upTo
      rw [List.drop_zero, key _ (List.pairwise_cons.2 hs)]
      constructor
      · rintro ⟨h1, h2⟩
        refine ⟨h1, ?_, h2⟩
        rcases List.mem_cons.1 h1 with rfl | h1
        · omega
        · have := hs.1 t h1; omega
      · rintro ⟨h1, _, h2⟩; exact ⟨h1, h2⟩

end Go.Proofs.Ytkbiefklilelmaa

/-
  Maps from pairs of ints to bool that the call has made, as sets of pairs.
-/
namespace Go.Proofs.Ytkbiefklilelmaa
open Go.RowKit

theorem laidK : laidOutB Try.prog = true := by kernel_rfl
theorem rowK : 112 < Try.prog.types.size := of_decide_eq_true (by kernel_rfl)
theorem underK : Try.prog.underlying 112 = some (.array 2 3) := by kernel_rfl
theorem pairKey : Maps.Keyed Try.prog 112 := Maps.Keyed.of_law (deep_law_laid laidK (m := 2) (by omega) rowK (by kernel_rfl) (by rw [underK]))
theorem zeroBool (w : World) : (zeroValue 4).run Try.prog w = .ok (.bool false) w := by kernel_rfl
abbrev pairV (s t : Int) : Value := .agg #[.int .i64 s, .int .i64 t]
/-- what a pair reads as -/
def kL (s t : Int) : Lit := .string (keyBytes [.int .i64 s, .int .i64 t])
theorem i64_wf2 {i : Int} (h : I64 i) : (Lit.int .i64 i).wf = true := by
  unfold I64 at h
  simp [Lit.wf, IntKind.min, IntKind.max, IntKind.bits, IntKind.signed]
  omega
theorem ktK : Try.prog.keyType 112 = true := by kernel_rfl
theorem cellsK : Try.prog.cellsOf 3 = 1 := by kernel_rfl
theorem cellsK2 : Try.prog.cellsOf 112 = 2 := by kernel_rfl
theorem tsizeK : ∃ d, Try.prog.types.size = d + 1 := ⟨Try.prog.types.size - 1, by have := rowK; omega⟩
theorem keyOf_pair {s t : Int} (hs : I64 s) (ht : I64 t) : keyOf Try.prog 112 (pairV s t) = some (kL s t) := by
  obtain ⟨d, hd⟩ := tsizeK
  have h1 := i64_wf2 hs
  have h2 := i64_wf2 ht
  unfold keyOf
  rw [underK]
  dsimp only
  have hf : Value.formed Try.prog 112 (pairV s t) = true := by
    unfold Value.formed pairV
    simp only [underK, cellsK2]
    rfl
  rw [ktK, hf, hd]
  simp only [Bool.and_self, if_true]
  have hk : Try.prog.keyLits (d + 1 + 1) 112 (pairV s t).cells.toList = some [.int .i64 s, .int .i64 t] := by
    unfold Program.keyLits
    rw [underK]
    simp only [Value.cells, List.length_cons, List.length_nil, cellsK2, cellsK]
    simp [List.range, List.range.loop, Program.keyLits, Try.underlying3, h1, h2]
  rw [hk]
  rfl
theorem keyLits_int_inv {P : Program} {e : TypeId} (he : P.underlying e = some (.int .i64)) {d : Nat} {cs : List Value} {L : List Lit} (h : P.keyLits d e cs = some L) : ∃ i : Int, cs = [.int .i64 i] ∧ I64 i ∧ L = [.int .i64 i] := by
  cases d with
  | zero => simp [Program.keyLits] at h
  | succ d =>
    unfold Program.keyLits at h
    rw [he] at h
    match cs, h with
    | [], h => simp at h
    | .int q i :: [], h =>
      dsimp only at h
      split at h
      · rename_i hq
        obtain ⟨rfl, hw⟩ := hq
        injection h with h
        exact ⟨i, rfl, bounds_i64 hw, h.symm⟩
      · cases h
theorem keyLits_pair_inv {P : Program} {k e : TypeId} (hu : P.underlying k = some (.array 2 e)) (he : P.underlying e = some (.int .i64)) (c1 : P.cellsOf e = 1) (c2 : P.cellsOf k = 2) {d : Nat} {cs : List Value} {L : List Lit} (h : P.keyLits (d + 1) k cs = some L) :
    ∃ s t : Int, cs = [.int .i64 s, .int .i64 t] ∧ I64 s ∧ I64 t ∧ L = [.int .i64 s, .int .i64 t] := by
  unfold Program.keyLits at h
  rw [hu] at h
  dsimp only at h
  rw [c1, c2] at h
  split at h
  · rename_i hl
    match cs, hl with
    | [a, b], _ =>
      simp only [List.range, List.range.loop, Option.map_eq_some_iff, List.mapM_cons, List.mapM_nil, Nat.zero_mul, Nat.one_mul, List.drop_zero, List.take_succ_cons, List.take_zero, List.drop_succ_cons] at h
      obtain ⟨ls, h2, rfl⟩ := h
      cases h3 : P.keyLits d e [a] with
      | none => rw [h3] at h2; cases h2
      | some x =>
        cases h4 : P.keyLits d e [b] with
        | none => rw [h3, h4] at h2; cases h2
        | some y =>
          rw [h3, h4] at h2
          obtain ⟨s, e1, w1, rfl⟩ := keyLits_int_inv he h3
          obtain ⟨t, e2, w2, rfl⟩ := keyLits_int_inv he h4
          injection e1 with e1
          injection e2 with e2
          subst e1 e2
          refine ⟨s, t, rfl, w1, w2, ?_⟩
          have : ls = [[.int .i64 s], [.int .i64 t]] := by injection h2 with h2; exact h2.symm
          rw [this]
          rfl
  · cases h
theorem keyOf_pair_inv {v : Value} {l : Lit} (h : keyOf Try.prog 112 v = some l) : ∃ st : Int × Int, v = pairV st.1 st.2 ∧ I64 st.1 ∧ I64 st.2 ∧ l = kL st.1 st.2 := by
  obtain ⟨xs, L, rfl, h1, e1⟩ := keyOf_top (by rw [underK]) h
  obtain ⟨s, t, e2, w1, w2, rfl⟩ := keyLits_pair_inv underK Try.underlying3 cellsK cellsK2 h1
  obtain ⟨cs⟩ := xs
  dsimp only at e2
  subst e2
  exact ⟨(s, t), rfl, w1, w2, e1⟩
theorem kL_inj {s t s' t' : Int} (hs : I64 s) (ht : I64 t) (hs' : I64 s') (ht' : I64 t') (h : kL s t = kL s' t') : s = s' ∧ t = t' := by
  have := pairKey.inj (keyOf_pair hs ht) (by rw [keyOf_pair hs' ht', h])
  unfold pairV at this
  simpa using this

/-- block B is a map of n entries at most, which holds the pairs of m, each with 'true' -/
def MapP (w : World) (B n : Nat) (m : Int → Int → Prop) : Prop :=
  ∃ D : DataW Unit, w.ownsMap Try.prog 112 (plainElem Try.prog 4) B n D ∧ ∀ s t, I64 s → I64 t → (¬ m s t → Maps.has D (kL s t) = false) ∧ (m s t → Maps.has D (kL s t) = true ∧ ∀ z, D.atKey (kL s t) z = .lit (.bool true))
theorem MapP.made (w : World) : MapP (w.alloc (.map #[] 0)) w.heap.size 0 (fun _ _ => False) :=
  ⟨.map [], World.ownsMap_made _ _ _ _, fun _ _ _ _ => ⟨fun _ => rfl, fun h => h.elim⟩⟩
theorem MapP.block {w w' : World} {B n : Nat} {m : Int → Int → Prop} (h : MapP w B n m) (hb : w'.heap[B]? = w.heap[B]?) : MapP w' B n m := by
  obtain ⟨D, ⟨es, clock, h1, h3⟩, h2⟩ := h
  exact ⟨D, ⟨es, clock, hb.trans h1, h3⟩, h2⟩
theorem MapP.lt {w : World} {B n : Nat} {m : Int → Int → Prop} (h : MapP w B n m) : B < w.heap.size := by
  obtain ⟨D, h1, _⟩ := h
  exact h1.lt
theorem MapP.congr {w : World} {B n : Nat} {m m' : Int → Int → Prop} (h : MapP w B n m) (hm : ∀ s t, m s t ↔ m' s t) : MapP w B n m' := by
  obtain ⟨D, h1, h2⟩ := h
  exact ⟨D, h1, fun s t hs ht => by rw [← hm]; exact h2 s t hs ht⟩
theorem MapP.obj {w : World} {B n : Nat} {m : Int → Int → Prop} (h : MapP w B n m) : ∃ es clock, w.heap[B]? = some (.map es clock) := by
  obtain ⟨D, ⟨es, clock, h1, _⟩, _⟩ := h
  exact ⟨es, clock, h1⟩
theorem elem_bool_inv {H : Type} {P : Program} {e : TypeId} (he : P.underlying e = some .bool) {v : Value} {z : DataW H × List MemPlace} (h : plainElem P e v = some z) : ∃ b, v = .bool b ∧ z = (.lit (.bool b), []) := by
  unfold plainElem at h
  rw [he] at h
  cases v <;> simp at h
  exact ⟨_, rfl, h.symm⟩
/-- 'm[k]' -/
theorem MapP.look {w : World} {B n : Nat} {m : Int → Int → Prop} (h : MapP w B n m) {s t : Int} (hs : I64 s) (ht : I64 t) (b : Bool) (hb : b = true ↔ m s t) :
    (Instr.lookup 89 (.map (some B)) (pairV s t) false).run Try.prog w = .ok (.bool b) w := by
  obtain ⟨D, h1, h2⟩ := h
  obtain ⟨v, ps, hr, hv⟩ := h1.lookup pairKey Try.underlying89 (zeroBool w) (plainElem_bool (H := Unit) Try.underlying4 false) (keyOf_pair hs ht)
  rw [hr]
  have hat : D.atKey (kL s t) (.lit (.bool false)) = .lit (.bool b) := by
    obtain ⟨h3, h4⟩ := h2 s t hs ht
    cases b with
    | true => exact (h4 (hb.1 rfl)).2 _
    | false => exact Maps.atKey_of_not_has (h3 fun h => by have := hb.2 h; cases this) _
  rw [hat] at hv
  obtain ⟨c, rfl, hc⟩ := elem_bool_inv Try.underlying4 hv
  have hc1 := congrArg Prod.fst hc
  dsimp only at hc1
  have hc2 := Lit.bool.inj (DataW.lit.inj hc1)
  rw [hc2]
/-- 'm[k] = true', behind the store by the library's law -/
theorem MapP.put {w w' : World} {B n : Nat} {m : Int → Int → Prop} {D : DataW Unit} {s t : Int} (hs : I64 s) (ht : I64 t)
    (h3 : w'.ownsMap Try.prog 112 (plainElem Try.prog 4) B (n + 1) (D.put (kL s t) (.lit (.bool true)))) (h1 : w.ownsMap Try.prog 112 (plainElem Try.prog 4) B n D)
    (h2 : ∀ s t, I64 s → I64 t → (¬ m s t → Maps.has D (kL s t) = false) ∧ (m s t → Maps.has D (kL s t) = true ∧ ∀ z, D.atKey (kL s t) z = .lit (.bool true))) : MapP w' B (n + 1) (fun s' t' => m s' t' ∨ (s' = s ∧ t' = t)) := by
  refine ⟨_, h3, fun s' t' hs' ht' => ?_⟩
  have hM := h1.isMap
  by_cases e : s' = s ∧ t' = t
  · obtain ⟨rfl, rfl⟩ := e
    exact ⟨fun h => absurd (.inr ⟨rfl, rfl⟩) h, fun _ => ⟨Maps.has_put_same hM (by trivial) _, fun z => Maps.atKey_put_same hM (by trivial) _ z⟩⟩
  · have hne : kL s' t' ≠ kL s t := fun h => e (kL_inj hs' ht' hs ht h)
    obtain ⟨h5, h6⟩ := h2 s' t' hs' ht'
    refine ⟨fun h => by rw [Maps.has_put_other hne]; exact h5 fun h' => h (.inl h'), fun h => ?_⟩
    obtain ⟨h7, h8⟩ := h6 (h.resolve_right e)
    exact ⟨by rw [Maps.has_put_other hne]; exact h7, fun z => by rw [Maps.atKey_put_other hne]; exact h8 z⟩

end Go.Proofs.Ytkbiefklilelmaa

/-
  The closure 'add' of match.input.reach: it takes a state and a time into the map, unless they are there, and lays them on the open list.
-/
namespace Go.Proofs.Ytkbiefklilelmaa
open Go.RowKit

def encP (p : Int × Int) : List Value := [.int .i64 p.1, .int .i64 p.2]
def encPs (l : List (Int × Int)) : List Value := l.flatMap encP
theorem encPs_length (l : List (Int × Int)) : (encPs l).length = l.length * 2 := flat_len encP 2 (fun _ => rfl) l
theorem encPs_snoc (l : List (Int × Int)) (p : Int × Int) : encPs (l ++ [p]) = encPs l ++ [.int .i64 p.1, .int .i64 p.2] := by simp [encPs, encP]
theorem infoP : (Try.prog.info? 112).map (fun i => (i.zero, i.size, i.bytes)) = some (some (.agg #[.int .i64 0, .int .i64 0]), 2, 16) := by kernel_rfl

/-- what the two captured variables of 'add' hold: the map of the pairs R, and the open list O -/
structure RSt (W : World) (base Bm B Bo : Nat) (A : Option Addr) (R O : List (Int × Int)) : Prop where
  bm : W.heap[Bm]? = some (.cells #[.map (some B)] 89 (0, 0))
  bo : ∃ c, W.heap[Bo]? = some (.cells #[.slice A O.length c] 113 (0, 0)) ∧ W.ownsRow base 112 2 (.slice A O.length c) O.length (encPs O)
  map : MapP W B R.length (fun s t => (s, t) ∈ R)
  size : base ≤ W.heap.size
/-- all other blocks are as they were -/
def Others (W W' : World) (B Bo : Nat) (A : Option Addr) : Prop := ∀ b, b < W.heap.size → b ≠ Bo → b ≠ B → ob A ≠ some b → W'.heap[b]? = W.heap[b]?
/-- the open list lies where it lay, or in a new block -/
def Moves (W : World) (A A' : Option Addr) : Prop := ob A' = ob A ∨ ∃ g, ob A' = some g ∧ W.heap.size ≤ g
def AddPost (base Bm B Bo : Nat) (A : Option Addr) (R O : List (Int × Int)) (s t : Int) (W : World) (e : Ending) (W' : World) : Prop :=
  e = .returned (.tuple #[]) ∧ Below base W W' ∧ Others W W' B Bo A ∧
    (((s, t) ∈ R ∧ RSt W' base Bm B Bo A R O) ∨ ((s, t) ∉ R ∧ ∃ A', RSt W' base Bm B Bo A' (R ++ [(s, t)]) (O ++ [(s, t)]) ∧ Moves W A A'))

set_option maxRecDepth 100000 in
set_option maxHeartbeats 2000000 in
theorem add_old (base Bm B Bo : Nat) (A : Option Addr) (R O : List (Int × Int)) (s t : Int) (w : World) (h : RSt w base Bm B Bo A R O) (hs : I64 s) (ht : I64 t) (hR : (s, t) ∈ R) :
    Calls Try.prog 83 #[.int .i64 s, .int .i64 t, .pointer (some ⟨Bm, 0, none⟩), .pointer (some ⟨Bo, 0, none⟩)] w (AddPost base Bm B Bo A R O s t w) := by
  have hl := h.map.look hs ht true (by simp [hR])
  obtain ⟨W0, hW0⟩ : ∃ W0 : World, w.alloc (.cells #[.int .i64 s, .int .i64 t] 112) = W0 := ⟨_, rfl⟩
  have hb0 : Below w.heap.size w W0 := by rw [← hW0]; exact (Below.refl _ _).alloc (Nat.le_refl _) _
  have hl0 := (h.map.block (hb0.block _ h.map.lt)).look hs ht true (by simp [hR])
  have c0 := box_cell ((hb0.block _ (box_lt h.bm)).trans h.bm)
  have g0 : W0.heap[w.heap.size]? = some (.cells #[.int .i64 s, .int .i64 t] 112 (0, 0)) := by rw [← hW0]; exact heap_alloc_new w _
  obtain ⟨k0, k1, _, _⟩ := box2 g0
  have HP := hide (show AddPost base Bm B Bo A R O s t w (.returned (.tuple #[])) W0 from by
    refine ⟨rfl, hb0.mono h.size, fun b hb _ _ _ => hb0.block b hb, .inl ⟨hR, (hb0.block _ (box_lt h.bm)).trans h.bm, ?_, h.map.block (hb0.block _ h.map.lt), Nat.le_trans h.size hb0.size⟩⟩
    obtain ⟨c, h1, h2⟩ := h.bo
    exact ⟨c, (hb0.block _ (box_lt h1)).trans h1, own_block h2 fun g hg => hb0.block g (own_ob h2 g hg).2⟩)
  have HW0 := hide hW0
  clear hW0 hb0 g0 hl h hR hs ht
  unfold pairV at hl0
  go_enter Try.func83, Try.ntmps83
  go_upto_region 1 with (fail)
  rw [HW0.out]
  go_wp2_with fail
  go_end0
  exact HP.out

theorem box_ne {w : World} {M N : Nat} {v u : Value} {t t' : TypeId} (h : w.heap[M]? = some (.cells #[v] t (0, 0))) (h' : w.heap[N]? = some (.cells #[u] t' (0, 0))) (hne : t ≠ t') : M ≠ N := by
  rintro rfl
  rw [h] at h'
  injection h' with h'
  injection h' with _ h'
  exact hne h'
theorem row_ne {w : World} {base : Nat} {A : Option Addr} {c n : Nat} {xs : List Value} {e : TypeId} {size N : Nat} {o : Obj} (h : w.ownsRow base e size (.slice A n c) n xs) (h' : w.heap[N]? = some o) (hne : ∀ cur, o ≠ .cells cur e (0, 0)) : ob A ≠ some N := by
  intro hg
  rcases h.2 with ⟨h2, _⟩ | ⟨g, cap, cur, h2, h3, h4, _⟩
  · rw [← ob_eq A n c, h2] at hg; cases hg
  · rw [← ob_eq A n c, h2] at hg
    have : g = N := by simpa [Value.ownBlock] using hg
    subst this
    rw [h4] at h'
    injection h' with h'
    exact hne cur h'.symm
theorem typesP : 89 ≠ 113 ∧ 113 ≠ 112 ∧ 89 ≠ 112 := by decide

/-- behind the store into the map -/
def HqP (V : World) (K base Bm B Bo : Nat) (A : Option Addr) (cO : Nat) (R O : List (Int × Int)) (s t : Int) : Prop :=
  (V.cell? ⟨K, 0, none⟩ = some (.int .i64 s) ∧ V.cell? ⟨K, 1, none⟩ = some (.int .i64 t) ∧ V.cell? ⟨Bo, 0, none⟩ = some (.slice A O.length cO)) ∧ V.heap[Bo]? = some (.cells #[.slice A O.length cO] 113 (0, 0)) ∧
      V.heap[Bm]? = some (.cells #[.map (some B)] 89 (0, 0)) ∧ V.ownsRow base 112 2 (.slice A O.length cO) O.length (encPs O) ∧ MapP V B (R ++ [(s, t)]).length (fun s' t' => (s', t') ∈ R ++ [(s, t)]) ∧ base ≤ V.heap.size

theorem add_fin (base Bm B Bo : Nat) (A : Option Addr) (R O : List (Int × Int)) (s t : Int) (w W0 V V3 : World) (cO g c : Nat) (h : RSt w base Bm B Bo A R O) (hbo : base ≤ Bo) (hB : base ≤ B) (hR : (s, t) ∉ R) (hb0 : Below w.heap.size w W0) (hg3 : W0.grownBy V (some B))
    (hq : HqP V w.heap.size base Bm B Bo A cO R O s t) (hown3 : V3.ownsRow base 112 2 (.slice (some ⟨g, 0, none⟩) (O.length + 1) c) (O.length + 1) (encPs O ++ [.int .i64 s, .int .i64 t]))
    (hg4 : (V.alloc (.cells #[.int .i64 s, .int .i64 t] 112)).grownBy V3 (Value.slice A O.length cO).ownBlock) (hat : (Value.slice (some ⟨g, 0, none⟩) (O.length + 1) c).ownBlock = (Value.slice A O.length cO).ownBlock ∨ (Value.slice (some ⟨g, 0, none⟩) (O.length + 1) c).ownBlock = some (V.heap.size + 1)) :
    V3.cell? ⟨Bo, 0, none⟩ = some (.slice A O.length cO) ∧ V3.frozen? ⟨Bo, 0, none⟩ = false ∧ AddPost base Bm B Bo A R O s t w (.returned (.tuple #[])) (V3.setCell ⟨Bo, 0, none⟩ (.slice (some ⟨g, 0, none⟩) (O.length + 1) c)) := by
  obtain ⟨_, qo, qm, qown, qmap, qsz⟩ := hq
  rw [ob_eq] at hg4 hat
  have hzw : w.heap.size ≤ V.heap.size := Nat.le_trans hb0.size hg3.size
  have no : ob A ≠ some Bo := row_ne qown qo (fun cur e => by injection e with _ e; exact typesP.2.1 e)
  have nm : ob A ≠ some Bm := row_ne qown qm (fun cur e => by injection e with _ e; exact typesP.2.2 e)
  have nB : ob A ≠ some B := by
    obtain ⟨es, clock, h1⟩ := qmap.obj
    exact row_ne qown h1 (fun cur e => by cases e)
  have fo : V3.heap[Bo]? = _ := box_grown (box_alloc qo) hg4 no
  have fm : V3.heap[Bm]? = _ := box_grown (box_alloc qm) hg4 nm
  have hne : Bm ≠ Bo := box_ne qm qo typesP.1
  have neB : B ≠ Bo := by
    rintro rfl
    obtain ⟨es, clock, h1⟩ := qmap.obj
    rw [h1] at qo; cases qo
  have no3 : ob (some ⟨g, 0, none⟩) ≠ some Bo := row_ne hown3 fo (fun cur e => by injection e with _ e; exact typesP.2.1 e)
  refine ⟨box_cell fo, box_frozen fo, rfl, ?_, ?_, .inr ⟨hR, some ⟨g, 0, none⟩, ⟨box_set fm hne, ⟨c, ?_, ?_⟩, ?_, ?_⟩, ?_⟩⟩
  · refine (((((hb0.mono h.size).grown hg3 (Nat.le_trans h.size hb0.size) (fun k e => by injection e with e; omega)).alloc qsz _).grown hg4 (by simp; omega) fun k e => ?_).setCell (p := ⟨Bo, 0, none⟩) hbo _)
    exact (own_ob qown k e).1
  · intro b hb hbo' hbB hbA
    rw [Below.heap_setCell _ _ _ _ hbo']
    have h1 : b < W0.heap.size := Nat.lt_of_lt_of_le hb hb0.size
    have h2 : b < V.heap.size := Nat.lt_of_lt_of_le h1 hg3.size
    rw [hg4.block b (by simp; omega) (fun e => hbA e.symm), Below.heap_alloc _ _ _ h2, hg3.block b h1 (fun e => hbB (by injection e)), hb0.block b hb]
  · rw [List.length_append]; exact box_set1 fo
  · rw [List.length_append, encPs_snoc]
    exact own_block hown3 fun g' hg' => Below.heap_setCell _ _ _ _ (fun e => no3 (by rw [hg', e]))
  · have hB2 : B < V.heap.size := qmap.lt
    refine qmap.block ?_
    rw [Below.heap_setCell _ _ _ _ neB, hg4.block B (by simp; omega) (fun e => nB e.symm), Below.heap_alloc _ _ _ hB2]
  · have := hg4.size
    simp at this ⊢
    omega
  · rcases hat with h1 | h1
    · rw [ob_eq] at h1; exact .inl h1
    · exact .inr ⟨_, h1, by omega⟩

set_option maxRecDepth 100000 in
set_option maxHeartbeats 2000000 in
theorem add_new (base Bm B Bo : Nat) (A : Option Addr) (R O : List (Int × Int)) (s t : Int) (w : World) (h : RSt w base Bm B Bo A R O) (hbo : base ≤ Bo) (hB : base ≤ B) (hs : I64 s) (ht : I64 t) (hR : (s, t) ∉ R) (hRl : R.length ≤ 1000000) (hOl : O.length ≤ 1000000) :
    Calls Try.prog 83 #[.int .i64 s, .int .i64 t, .pointer (some ⟨Bm, 0, none⟩), .pointer (some ⟨Bo, 0, none⟩)] w (AddPost base Bm B Bo A R O s t w) := by
  obtain ⟨W0, hW0⟩ : ∃ W0 : World, w.alloc (.cells #[.int .i64 s, .int .i64 t] 112) = W0 := ⟨_, rfl⟩
  have hb0 : Below w.heap.size w W0 := by rw [← hW0]; exact (Below.refl _ _).alloc (Nat.le_refl _) _
  have hm0 := h.map.block (hb0.block _ h.map.lt)
  have hl0 := hm0.look hs ht false (by simp [hR])
  have gm0 := (hb0.block _ (box_lt h.bm)).trans h.bm
  have c0 := box_cell gm0
  have g0 : W0.heap[w.heap.size]? = some (.cells #[.int .i64 s, .int .i64 t] 112 (0, 0)) := by rw [← hW0]; exact heap_alloc_new w _
  obtain ⟨k0, k1, _, _⟩ := box2 g0
  obtain ⟨cO, hbo0, hown⟩ := h.bo
  have gbo := (hb0.block _ (box_lt hbo0)).trans hbo0
  have hown0 := own_block (w' := W0) hown fun g hg => hb0.block g (own_ob hown g hg).2
  obtain ⟨D, hD, hDm⟩ := hm0
  have hn : R.length < maxLen := by unfold maxLen; omega
  have hbB : Below base w W0 := hb0.mono h.size
  have HKEY := hide (keyOf_pair hs ht)
  have HVAL := hide (plainElem_bool (H := Unit) Try.underlying4 true)
  have hzB : B < W0.heap.size := hD.lt
  have hne1 : w.heap.size ≠ B := fun e => by obtain ⟨es, clock, h1⟩ := h.map.obj; have := (Array.getElem?_eq_some_iff.1 h1).1; omega
  have hne2 : Bo ≠ B := fun e => by
    obtain ⟨es, clock, h1⟩ := h.map.obj
    rw [← e, hbo0] at h1
    cases h1
  have hne3 : Bm ≠ B := fun e => by
    obtain ⟨es, clock, h1⟩ := h.map.obj
    rw [← e, h.bm] at h1
    cases h1
  have HPUT := hide (show ∀ V : World, V.ownsMap Try.prog 112 (plainElem Try.prog 4) B (R.length + 1) (D.put (kL s t) (.lit (.bool true))) → W0.grownBy V (some B) →
      HqP V w.heap.size base Bm B Bo A cO R O s t from fun V h3 hg => by
    obtain ⟨q0, q1, _, _⟩ := box2 (box_grown g0 hg (by rintro e; injection e with e; exact hne1 e.symm))
    have q2 := box_grown gbo hg (by rintro e; injection e with e; exact hne2 e.symm)
    refine ⟨⟨q0, q1, box_cell q2⟩, q2, box_grown gm0 hg (by rintro e; injection e with e; exact hne3 e.symm), own_block hown0 fun g hgb => hg.block g (own_ob hown0 g hgb).2 ?_, ?_, Nat.le_trans h.size (Nat.le_trans hb0.size hg.size)⟩
    · rintro e
      injection e with e
      subst e
      obtain ⟨es, clock, h1⟩ := h.map.obj
      have h2 := (hb0.block _ h.map.lt).trans h1
      exact row_ne hown0 h2 (fun cur e => by cases e) hgb
    · have := MapP.put hs ht h3 hD hDm
      rw [List.length_append]
      exact this.congr fun s' t' => by simp)
  have HFIN := hide (show ∀ (V V3 : World) (g c : Nat), W0.grownBy V (some B) → HqP V w.heap.size base Bm B Bo A cO R O s t → V3.ownsRow base 112 2 (.slice (some ⟨g, 0, none⟩) (O.length + 1) c) (O.length + 1) (encPs O ++ [.int .i64 s, .int .i64 t]) →
      (V.alloc (.cells #[.int .i64 s, .int .i64 t] 112)).grownBy V3 (Value.slice A O.length cO).ownBlock → ((Value.slice (some ⟨g, 0, none⟩) (O.length + 1) c).ownBlock = (Value.slice A O.length cO).ownBlock ∨ (Value.slice (some ⟨g, 0, none⟩) (O.length + 1) c).ownBlock = some (V.heap.size + 1)) →
      V3.cell? ⟨Bo, 0, none⟩ = some (.slice A O.length cO) ∧ V3.frozen? ⟨Bo, 0, none⟩ = false ∧ AddPost base Bm B Bo A R O s t w (.returned (.tuple #[])) (V3.setCell ⟨Bo, 0, none⟩ (.slice (some ⟨g, 0, none⟩) (O.length + 1) c)) from fun V V3 g c hg3 hq hown3 hg4 hat => add_fin base Bm B Bo A R O s t w W0 V V3 cO g c h hbo hB hR hb0 hg3 hq hown3 hg4 hat)
  have HW0 := hide hW0
  obtain ⟨i0, hi0, hz0, hz1, hz2⟩ := info_parts infoP
  have HI := hide hi0
  have HZ0 := hide hz0
  have HZ1 := hide hz1
  have HZ2 := hide hz2
  have HH := hide h
  have HO := hide hOl
  clear hi0 hz0 hz1 hz2 hW0 hDm h hbo0 hown gm0 g0 gbo hown0 hOl hne1 hne2 hne3 hbB
  unfold pairV at hl0
  go_enter Try.func83, Try.ntmps83
  go_upto_region 1 with (fail)
  rw [HW0.out]
  go_upto_region 3 with ((at_mapUpdate; (refine wpList_mapUpdate_own _ rfl _ _ _ 89 rfl 112 4 pairKey Try.underlying89 _ B R.length D rfl hD hn _ _ (kL s t) rfl rfl HKEY.out (.lit (.bool true)) [] HVAL.out ?_); intro V hm3 hg3; have HQ := hide (HPUT.out V hm3 hg3); obtain ⟨q0, q1, q2⟩ := HQ.out.1; have HG3 := hide hg3; clear hm3 hg3 c0 k0 k1 hl0))
  go_wp2_with (at_builtin; (refine wpList_append_own_at _ rfl _ _ 113 rfl base 112 i0 _ 2 16 Try.underlying113 HI.out HZ0.out HZ1.out HZ2.out rfl (by decide) _ O.length (encPs O) rfl (HQ.out.2.2.2.1.alloc _) ⟨V.heap.size, 0, none⟩ 1 1 [.int .i64 s, .int .i64 t] rfl rfl ?c1 ?c2 ?c3 ?c4 ?c5 ?_))
  case c1 => exact fun j u hu => by rw [cells_push (cs := #[.int .i64 s, .int .i64 t]) (t := 112) rfl]; simpa using hu
  case c2 => simp [Value.oneCell']
  case c3 => have := HO.out; unfold maxLen; omega
  case c4 => have := HO.out; omega
  case c5 => have := HQ.out.2.2.2.2.2; simp; omega
  intro v' V3 hown3 hg4 _ hat4
  obtain ⟨g4, c4, rfl⟩ := ownsRow_succ hown3
  have HF := hide (HFIN.out V V3 g4 c4 HG3.out HQ.out hown3 hg4 hat4)
  have q3 := HF.out.1
  have q4 := HF.out.2.1
  clear hown3 hg4 hat4 q0 q1 q2
  go_wp2_with fail
  go_end0
  exact HF.out.2.2

theorem madd_any (base Bm B Bo : Nat) (A : Option Addr) (R O : List (Int × Int)) (s t : Int) (w : World) (h : RSt w base Bm B Bo A R O) (hbo : base ≤ Bo) (hB : base ≤ B) (hs : I64 s) (ht : I64 t) (hRl : R.length ≤ 1000000) (hOl : O.length ≤ 1000000) :
    Calls Try.prog 83 #[.int .i64 s, .int .i64 t, .pointer (some ⟨Bm, 0, none⟩), .pointer (some ⟨Bo, 0, none⟩)] w (AddPost base Bm B Bo A R O s t w) := by
  by_cases hR : (s, t) ∈ R
  · exact add_old base Bm B Bo A R O s t w h hs ht hR
  · exact add_new base Bm B Bo A R O s t w h hbo hB hs ht hR hRl hOl

end Go.Proofs.Ytkbiefklilelmaa

/-
  slices.BinarySearch of a sorted list of ints, also of an empty one.
-/
namespace Go.Proofs.Ytkbiefklilelmaa
open Go.RowKit

set_option maxRecDepth 100000 in
set_option maxHeartbeats 1000000 in
theorem bin_nil (A : Option Addr) (c : Nat) (x : Int) (w : World) :
    Calls Try.prog 84 #[.slice A 0 c, .int .i64 x] w fun e w' => e = .returned (.tuple #[.int .i64 0, .bool false]) ∧ ∃ q, w' = w.drewN q := by
  go_enter Try.func84, Try.ntmps84
  go_wp2
  refine wp_loop_rounds 1 ?_
  rw [rounds_succ]
  go_wp2
  go_ret2
  exact ⟨rfl, 0, rfl⟩

def BinPost (l : List Int) (x : Int) (w : World) (e : Ending) (w' : World) : Prop := e = .returned (.tuple #[.int .i64 (l.countP (· < x) : Nat), .bool (l.contains x)]) ∧ ∃ q, w' = w.drewN q
theorem bin_any (A : Option Addr) (c : Nat) (l : List Int) (x : Int) (w : World) (h : IntsAt w w.heap.size A l) (hl : l.length ≤ 1000000) (hs : l.Pairwise (· < ·)) :
    Calls Try.prog 84 #[.slice A l.length c, .int .i64 x] w (BinPost l x w) := by
  by_cases hne : l = []
  · subst hne
    exact (bin_nil A c x w).mono fun e w' h => ⟨h.1, h.2⟩
  · obtain ⟨b, off, rfl, hb, hc⟩ := h hne
    refine (Try.slices_BinarySearch_int b off l.length c l x w (Nat.le_refl _) (by omega) (fun j hj => ?_) ?_).mono fun e w' h => ?_
    · rw [hc j l[j] (List.getElem?_eq_getElem hj)]
      simp [List.getD_eq_getElem?_getD, hj]
    · rw [List.take_length]
      exact hs.imp fun h => Int.le_of_lt h
    · rw [List.take_length] at h
      exact h

end Go.Proofs.Ytkbiefklilelmaa
