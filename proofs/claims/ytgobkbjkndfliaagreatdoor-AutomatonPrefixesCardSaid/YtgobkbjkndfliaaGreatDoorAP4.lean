/-
  Several texts in one: Row, Nd, Edg. Each says at its head what it holds.
-/
import Derived.Test.YtgobkbjkndfliaaGreatDoorAP3
import Derived.Test.YtgobkbjkndfliaaGreatDoorAP2

/-
  Rows of whatever elements in memory; automata: their edges, final states and lists of trees.
-/
namespace Go.Proofs.YtgobkbjkndfliaaGreatDoor
open Go.RowKit

/-- a row of elements in blocks that P names -/
def Row {α : Type} (w : World) (P : Nat → Prop) (size : Nat) (cells : α → List Value) (A : Option Addr) (xs : List α) : Prop :=
  xs ≠ [] → ∃ b off, A = some ⟨b, off, none⟩ ∧ P b ∧ ∀ i x, xs[i]? = some x → ∀ j, j < size → w.cell? ⟨b, off + i * size + j, none⟩ = (cells x)[j]?

section
variable {α : Type} {w w' : World} {P P' : Nat → Prop} {size : Nat} {cells : α → List Value} {A : Option Addr} {xs : List α}
theorem Row.stay (h : Row w P size cells A xs) (hs : Stay P w w') : Row w' P size cells A xs := fun hx => by
  obtain ⟨b, off, e, hb, hc⟩ := h hx
  exact ⟨b, off, e, hb, fun i x hi j hj => (hs.cell hb).trans (hc i x hi j hj)⟩
theorem Row.more (h : Row w P size cells A xs) (hp : ∀ b, P b → P' b) : Row w P' size cells A xs := fun hx => by
  obtain ⟨b, off, e, hb, hc⟩ := h hx
  exact ⟨b, off, e, hp b hb, hc⟩
theorem Row.nil : Row w P size cells A ([] : List α) := fun h => absurd rfl h
theorem Row.at_ (h : Row w P size cells A xs) {k : Nat} (hk : k < xs.length) : ∃ b off, A = some ⟨b, off, none⟩ ∧ P b ∧ ∀ j, j < size → w.cell? ⟨b, off + k * size + j, none⟩ = (cells xs[k])[j]? := by
  obtain ⟨b, off, e, hb, hc⟩ := h (fun e => by subst e; simp at hk)
  exact ⟨b, off, e, hb, hc k _ (List.getElem?_eq_getElem hk)⟩
/-- below the heap's end, where the world has grown -/
theorem Row.grow (h : Row w (Lo w.heap.size) size cells A xs) (hb : Below w.heap.size w w') : Row w' (Lo w'.heap.size) size cells A xs :=
  (h.stay (stay_below hb fun _ h => h)).more fun _ hb' => Nat.lt_of_lt_of_le hb' hb.size
end

abbrev cInt (n : Int) : List Value := [.int .i64 n]
abbrev cBool (b : Bool) : List Value := [.bool b]
structure Edg where
  from_ : Int
  to_ : Int
  event : Int
  while_ : Int
  low : Int
  high : Int
def cEdg (e : Edg) : List Value := [.int .i64 e.from_, .int .i64 e.to_, .int .i64 e.event, .int .i64 e.while_, .int .i64 e.low, .int .i64 e.high]

theorem Row.int_at {w : World} {P : Nat → Prop} {A : Option Addr} {xs : List Int} (h : Row w P 1 cInt A xs) {k : Nat} (hk : k < xs.length) : ∃ b off, A = some ⟨b, off, none⟩ ∧ P b ∧ w.cell? ⟨b, off + k, none⟩ = some (.int .i64 xs[k]) := by
  obtain ⟨b, off, e, hb, hc⟩ := h.at_ hk
  have := hc 0 (by omega)
  rw [Nat.mul_one, Nat.add_zero] at this
  exact ⟨b, off, e, hb, this⟩
theorem Row.bool_at {w : World} {P : Nat → Prop} {A : Option Addr} {xs : List Bool} (h : Row w P 1 cBool A xs) {k : Nat} (hk : k < xs.length) : ∃ b off, A = some ⟨b, off, none⟩ ∧ P b ∧ w.cell? ⟨b, off + k, none⟩ = some (.bool xs[k]) := by
  obtain ⟨b, off, e, hb, hc⟩ := h.at_ hk
  have := hc 0 (by omega)
  rw [Nat.mul_one, Nat.add_zero] at this
  exact ⟨b, off, e, hb, this⟩
/-- an edge's six cells -/
def EdgAt (w : World) (b o : Nat) (x : Edg) : Prop :=
  w.cell? ⟨b, o, none⟩ = some (.int .i64 x.from_) ∧ w.cell? ⟨b, o + 1, none⟩ = some (.int .i64 x.to_) ∧ w.cell? ⟨b, o + 2, none⟩ = some (.int .i64 x.event) ∧
    w.cell? ⟨b, o + 3, none⟩ = some (.int .i64 x.while_) ∧ w.cell? ⟨b, o + 4, none⟩ = some (.int .i64 x.low) ∧ w.cell? ⟨b, o + 5, none⟩ = some (.int .i64 x.high)
theorem Row.edg_at {w : World} {P : Nat → Prop} {A : Option Addr} {xs : List Edg} (h : Row w P 6 cEdg A xs) {k : Nat} (hk : k < xs.length) : ∃ b off, A = some ⟨b, off, none⟩ ∧ P b ∧ EdgAt w b (off + k * 6) xs[k] := by
  obtain ⟨b, off, e, hb, hc⟩ := h.at_ hk
  exact ⟨b, off, e, hb, hc 0 (by omega), hc 1 (by omega), hc 2 (by omega), hc 3 (by omega), hc 4 (by omega), hc 5 (by omega)⟩
theorem EdgAt.stay {w w' : World} {P : Nat → Prop} {b o : Nat} {x : Edg} (h : EdgAt w b o x) (hs : Stay P w w') (hb : P b) : EdgAt w' b o x :=
  ⟨(hs.cell hb).trans h.1, (hs.cell hb).trans h.2.1, (hs.cell hb).trans h.2.2.1, (hs.cell hb).trans h.2.2.2.1, (hs.cell hb).trans h.2.2.2.2.1, (hs.cell hb).trans h.2.2.2.2.2⟩

/-- an automaton: how many events and conditions it has, with the places of their trees, its final states, its edges -/
structure Aut where
  AE : Option Addr
  nE : Nat
  cE : Nat
  AC : Option Addr
  nC : Nat
  cC : Nat
  AF : Option Addr
  cF : Nat
  fin : List Bool
  AX : Option Addr
  cX : Nat
  edges : List Edg
def encA (a : Aut) : List Value := [.slice a.AE a.nE a.cE, .slice a.AC a.nC a.cC, .slice a.AF a.fin.length a.cF, .slice a.AX a.edges.length a.cX]
def I64E (x : Edg) : Prop := I64 x.from_ ∧ I64 x.to_ ∧ I64 x.event ∧ I64 x.while_ ∧ I64 x.low ∧ I64 x.high
structure AutAt (w : World) (P : Nat → Prop) (a : Aut) : Prop where
  fin : Row w P 1 cBool a.AF a.fin
  edges : Row w P 6 cEdg a.AX a.edges
theorem AutAt.stay {w w' : World} {P : Nat → Prop} {a : Aut} (h : AutAt w P a) (hs : Stay P w w') : AutAt w' P a := ⟨h.fin.stay hs, h.edges.stay hs⟩
theorem AutAt.more {w : World} {P P' : Nat → Prop} {a : Aut} (h : AutAt w P a) (hp : ∀ b, P b → P' b) : AutAt w P' a := ⟨h.fin.more hp, h.edges.more hp⟩
theorem AutAt.grow {w w' : World} {a : Aut} (h : AutAt w (Lo w.heap.size) a) (hb : Below w.heap.size w w') : AutAt w' (Lo w'.heap.size) a := ⟨h.fin.grow hb, h.edges.grow hb⟩

/-- the bounds of an automaton's numbers -/
structure AutLe (a : Aut) : Prop where
  nE : a.nE ≤ 140737488355328
  nC : a.nC ≤ 140737488355328
  fin : a.fin.length ≤ 140737488355328
  edges : a.edges.length ≤ 140737488355328
  i64 : ∀ x ∈ a.edges, I64E x

/-- what an edge must meet by itself -/
def edgeB (n nE nC : Nat) (x : Edg) : Bool := decide (0 ≤ x.from_ ∧ x.from_ < x.to_ ∧ x.to_ < n ∧ 0 ≤ x.event ∧ x.event < nE ∧ -1 ≤ x.while_ ∧ x.while_ < nC ∧ 0 ≤ x.low ∧ x.low ≤ x.high ∧ x.high ≤ 1099511627776)
def startB (x : Edg) : Bool := decide (x.from_ = 0 → x.high = 0 ∧ x.while_ = -1)
def ordB (y x : Edg) : Bool := decide (y.from_ < x.from_ ∨ (y.from_ = x.from_ ∧ y.to_ < x.to_))
def oneB (y x : Edg) : Bool := decide (y.to_ = x.to_ → y.event = x.event)
/-- edge i fits those ahead of it -/
def fitsB (n nE nC : Nat) (xs : List Edg) (i : Nat) : Bool :=
  match xs[i]? with
  | none => true
  | some x => edgeB n nE nC x && startB x && (match i with | 0 => true | j + 1 => (match xs[j]? with | none => true | some y => ordB y x)) && (xs.take i).all (fun y => oneB y x)
def headB (fin : List Bool) : Bool := decide (2 ≤ fin.length) && decide (fin.length ≤ 33) && !(fin.getD 0 false)
def validB (a : Aut) : Bool := headB a.fin && (List.range a.edges.length).all (fitsB a.fin.length a.nE a.nC a.edges)

theorem valid_upto {a : Aut} {k : Nat} (h : ∀ i, i < k → fitsB a.fin.length a.nE a.nC a.edges i = true) (hb : fitsB a.fin.length a.nE a.nC a.edges k = true) : ∀ i, i < k + 1 → fitsB a.fin.length a.nE a.nC a.edges i = true := fun i hi => by
  rcases Nat.lt_or_ge i k with h1 | h1
  · exact h i h1
  · have : i = k := by omega
    subst this; exact hb
theorem valid_bad {a : Aut} {k : Nat} (hk : k < a.edges.length) (hb : fitsB a.fin.length a.nE a.nC a.edges k = false) : validB a = false := by
  unfold validB
  rw [Bool.and_eq_false_iff]
  right
  rw [← Bool.not_eq_true, List.all_eq_true]
  intro h
  have := h k (List.mem_range.2 hk)
  rw [hb] at this
  cases this
theorem valid_good {a : Aut} (h0 : headB a.fin = true) (h : ∀ i, i < a.edges.length → fitsB a.fin.length a.nE a.nC a.edges i = true) : validB a = true := by
  unfold validB
  rw [h0, Bool.true_and, List.all_eq_true]
  intro i hi
  exact h i (List.mem_range.1 hi)
theorem valid_head {a : Aut} (h0 : headB a.fin = false) : validB a = false := by
  unfold validB; rw [h0]; rfl
theorem fits_at {n nE nC : Nat} {xs : List Edg} {i : Nat} (hi : i < xs.length) : fitsB n nE nC xs i = (edgeB n nE nC xs[i] && startB xs[i] && (if h : 0 < i then ordB (xs[i - 1]'(by omega)) xs[i] else true) && (xs.take i).all (fun y => oneB y xs[i])) := by
  unfold fitsB
  rw [List.getElem?_eq_getElem hi]
  cases i with
  | zero => rfl
  | succ j =>
    have hj : j < xs.length := by omega
    simp only [List.getElem?_eq_getElem hj]
    rw [dif_pos (by omega)]
    simp

end Go.Proofs.YtgobkbjkndfliaaGreatDoor

/-
  Trees of api.Node in memory.
-/
namespace Go.Proofs.YtgobkbjkndfliaaGreatDoor
open Go.RowKit

def cNd : Nd → List Value | .mk kind at_ name value a b c d KA kc kids => [.int .i64 kind, .int .i64 at_, .string name, .string value, .int .i64 a, .int .i64 b, .int .i64 c, .int .i64 d, .slice KA kids.length kc]
/-- lists of trees in memory -/
inductive TreesAt (w : World) (P : Nat → Prop) : Option Addr → List Nd → Prop
  | mk (A : Option Addr) (l : List Nd) (len : l.length ≤ 1353245080339) (row : Row w P 9 cNd A l) (kids : ∀ n, n ∈ l → TreesAt w P n.KA n.kids) : TreesAt w P A l
section
variable {w w' : World} {P P' : Nat → Prop} {A : Option Addr} {l : List Nd}
theorem TreesAt.len (h : TreesAt w P A l) : l.length ≤ 1353245080339 := by cases h; assumption
theorem TreesAt.row (h : TreesAt w P A l) : Row w P 9 cNd A l := by cases h; assumption
theorem TreesAt.each (h : TreesAt w P A l) : ∀ n ∈ l, TreesAt w P n.KA n.kids := by cases h; assumption
theorem TreesAt.stay (h : TreesAt w P A l) (hs : Stay P w w') : TreesAt w' P A l := by
  induction h with
  | mk A l len row _ ih => exact .mk A l len (row.stay hs) fun n hn => ih n hn
theorem TreesAt.more (h : TreesAt w P A l) (hp : ∀ b, P b → P' b) : TreesAt w P' A l := by
  induction h with
  | mk A l len row _ ih => exact .mk A l len (row.more hp) fun n hn => ih n hn
theorem TreesAt.grow (h : TreesAt w (Lo w.heap.size) A l) (hb : Below w.heap.size w w') : TreesAt w' (Lo w'.heap.size) A l := (h.stay (stay_below hb fun _ h => h)).more fun _ hb' => Nat.lt_of_lt_of_le hb' hb.size
theorem TreesAt.nil : TreesAt w P A [] := .mk A [] (by simp) Row.nil fun n hn => absurd hn (by simp)
end
theorem box9 {w : World} {N : Nat} {a b c d e f g h i : Value} {t : TypeId} (hN : w.heap[N]? = some (.cells #[a, b, c, d, e, f, g, h, i] t (0, 0))) : w.cell? ⟨N, 0, none⟩ = some a ∧ w.cell? ⟨N, 1, none⟩ = some b ∧ w.cell? ⟨N, 2, none⟩ = some c ∧ w.cell? ⟨N, 3, none⟩ = some d ∧ w.cell? ⟨N, 4, none⟩ = some e ∧ w.cell? ⟨N, 5, none⟩ = some f ∧ w.cell? ⟨N, 6, none⟩ = some g ∧ w.cell? ⟨N, 7, none⟩ = some h ∧ w.cell? ⟨N, 8, none⟩ = some i := by
  refine ⟨?_, ?_, ?_, ?_, ?_, ?_, ?_, ?_, ?_⟩ <;> (rw [cell_of_row w N _ _ t (0, 0) hN]; rfl)
/-- nine cells out of a row's fact -/
theorem nine {w : World} {b o : Nat} {v0 v1 v2 v3 v4 v5 v6 v7 v8 : Value} (h : ∀ j, j < 9 → w.cell? ⟨b, o + j, none⟩ = [v0, v1, v2, v3, v4, v5, v6, v7, v8][j]?) :
    w.cell? ⟨b, o, none⟩ = some v0 ∧ w.cell? ⟨b, o + 1, none⟩ = some v1 ∧ w.cell? ⟨b, o + 2, none⟩ = some v2 ∧ w.cell? ⟨b, o + 3, none⟩ = some v3 ∧ w.cell? ⟨b, o + 4, none⟩ = some v4 ∧ w.cell? ⟨b, o + 5, none⟩ = some v5 ∧ w.cell? ⟨b, o + 6, none⟩ = some v6 ∧ w.cell? ⟨b, o + 7, none⟩ = some v7 ∧ w.cell? ⟨b, o + 8, none⟩ = some v8 :=
  ⟨h 0 (by omega), h 1 (by omega), h 2 (by omega), h 3 (by omega), h 4 (by omega), h 5 (by omega), h 6 (by omega), h 7 (by omega), h 8 (by omega)⟩
theorem new_at {w W : World} {o : Obj} (h : w.alloc o = W) : W.heap[w.heap.size]? = some o := by rw [← h]; exact heap_alloc_new w o
/-- a value in the end, in memory that has only grown -/
def RetV (v : Value) (w : World) (e : Ending) (w' : World) : Prop := e = .returned v ∧ Below w.heap.size w w'

end Go.Proofs.YtgobkbjkndfliaaGreatDoor

/-
  Edges in a box; the head of an automaton; the edges ahead of one.
-/
namespace Go.Proofs.YtgobkbjkndfliaaGreatDoor
open Go.RowKit

theorem box6 {w : World} {N : Nat} {a b c d e f : Value} {t : TypeId} (h : w.heap[N]? = some (.cells #[a, b, c, d, e, f] t (0, 0))) : w.cell? ⟨N, 0, none⟩ = some a ∧ w.cell? ⟨N, 1, none⟩ = some b ∧ w.cell? ⟨N, 2, none⟩ = some c ∧ w.cell? ⟨N, 3, none⟩ = some d ∧ w.cell? ⟨N, 4, none⟩ = some e ∧ w.cell? ⟨N, 5, none⟩ = some f :=
  ⟨by rw [cell_of_row w N _ _ t (0, 0) h]; rfl, by rw [cell_of_row w N _ _ t (0, 0) h]; rfl, by rw [cell_of_row w N _ _ t (0, 0) h]; rfl, by rw [cell_of_row w N _ _ t (0, 0) h]; rfl, by rw [cell_of_row w N _ _ t (0, 0) h]; rfl, by rw [cell_of_row w N _ _ t (0, 0) h]; rfl⟩
theorem head_cases (fin : List Bool) : (fin.length < 2 ∧ headB fin = false) ∨ (33 < fin.length ∧ headB fin = false) ∨ (2 ≤ fin.length ∧ fin.length ≤ 33 ∧ fin[0]? = some true ∧ headB fin = false) ∨ (2 ≤ fin.length ∧ fin.length ≤ 33 ∧ fin[0]? = some false ∧ headB fin = true) := by
  unfold headB
  rcases Nat.lt_or_ge fin.length 2 with h | h
  · exact .inl ⟨h, by rw [decide_eq_false (by omega)]; rfl⟩
  · rcases Nat.lt_or_ge 33 fin.length with h2 | h2
    · exact .inr (.inl ⟨h2, by rw [decide_eq_true h, decide_eq_false (by omega)]; rfl⟩)
    · rw [decide_eq_true h, decide_eq_true h2]
      have h0 : 0 < fin.length := by omega
      rw [List.getD, List.getElem?_eq_getElem h0]
      cases hb : fin[0]
      · exact .inr (.inr (.inr ⟨h, h2, rfl, rfl⟩))
      · exact .inr (.inr (.inl ⟨h, h2, rfl, rfl⟩))
theorem one_all {xs : List Edg} {k : Nat} {x : Edg} (h : ∀ i y, i < k → xs[i]? = some y → oneB y x = true) : (xs.take k).all (fun y => oneB y x) = true := by
  rw [List.all_eq_true]
  intro y hy
  obtain ⟨i, hi, rfl⟩ := List.getElem_of_mem hy
  rw [List.length_take] at hi
  refine h i _ (by omega) ?_
  rw [List.getElem_take, List.getElem?_eq_getElem]
theorem one_bad {xs : List Edg} {k m : Nat} {x y : Edg} (hm : m < k) (hy : xs[m]? = some y) (h : oneB y x = false) : (xs.take k).all (fun y => oneB y x) = false := by
  rw [← Bool.not_eq_true, List.all_eq_true]
  intro ha
  have hl := (List.getElem?_eq_some_iff.1 hy).1
  have := ha y (by
    have h1 : (xs.take k)[m]? = some y := by rw [List.getElem?_take_of_lt hm]; exact hy
    exact List.mem_of_getElem? h1)
  rw [h] at this
  cases this
theorem one_next {xs : List Edg} {m : Nat} {x y : Edg} (h : ∀ i z, i < m → xs[i]? = some z → oneB z x = true) (hy : xs[m]? = some y) (hb : oneB y x = true) : ∀ i z, i < m + 1 → xs[i]? = some z → oneB z x = true := fun i z hi hz => by
  rcases Nat.lt_or_ge i m with h1 | h1
  · exact h i z h1 hz
  · have : i = m := by omega
    subst this
    rw [hy] at hz
    injection hz with hz
    subst hz
    exact hb

end Go.Proofs.YtgobkbjkndfliaaGreatDoor
