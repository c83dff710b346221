/-
  The input of a search for matches in memory: an automaton, the times of its events, the sets of its conditions.
-/
import Derived.Test.YtkbiefklilelmaaRow
import Derived.Test.YtkbiefklilelmaaEdg
import Derived.Test.YtkbiefklilelmaaInts
import Derived.Test.YtkbiefklilelmaaMatchS
namespace Go.Proofs.Ytkbiefklilelmaa
open Go.RowKit

/-- a slice of ints, of intervals -/
structure SlI where
  A : Option Addr
  c : Nat
  xs : List Int
structure SlV where
  A : Option Addr
  c : Nat
  xs : List Iv
def cSlI (s : SlI) : List Value := [.slice s.A s.xs.length s.c]
def cSlV (s : SlV) : List Value := [.slice s.A s.xs.length s.c]

/-- lists of times in memory -/
structure EvAt (w : World) (A : Option Addr) (l : List SlI) : Prop where
  row : Row w (Lo w.heap.size) 1 cSlI A l
  each : ∀ s ∈ l, IntsAt w w.heap.size s.A s.xs
structure CsAt (w : World) (A : Option Addr) (l : List SlV) : Prop where
  row : Row w (Lo w.heap.size) 1 cSlV A l
  each : ∀ s ∈ l, IvsAt w w.heap.size s.A s.xs
theorem EvAt.step {w w' : World} {A : Option Addr} {l : List SlI} (h : EvAt w A l) (hb : Below w.heap.size w w') : EvAt w' A l := ⟨h.row.grow hb, fun s hs => (h.each s hs).step hb⟩
theorem CsAt.step {w w' : World} {A : Option Addr} {l : List SlV} (h : CsAt w A l) (hb : Below w.heap.size w w') : CsAt w' A l := ⟨h.row.grow hb, fun s hs => (h.each s hs).step hb⟩
theorem EvAt.at_ {w : World} {A : Option Addr} {l : List SlI} (h : EvAt w A l) {k : Nat} (hk : k < l.length) : ∃ b off, A = some ⟨b, off, none⟩ ∧ b < w.heap.size ∧ w.cell? ⟨b, off + k, none⟩ = some (.slice l[k].A l[k].xs.length l[k].c) ∧ IntsAt w w.heap.size l[k].A l[k].xs := by
  obtain ⟨b, off, e, hb, hc⟩ := h.row.at_ hk
  have := hc 0 (by omega)
  rw [Nat.mul_one, Nat.add_zero] at this
  exact ⟨b, off, e, hb, this, h.each _ (List.getElem_mem hk)⟩
theorem CsAt.at_ {w : World} {A : Option Addr} {l : List SlV} (h : CsAt w A l) {k : Nat} (hk : k < l.length) : ∃ b off, A = some ⟨b, off, none⟩ ∧ b < w.heap.size ∧ w.cell? ⟨b, off + k, none⟩ = some (.slice l[k].A l[k].xs.length l[k].c) ∧ IvsAt w w.heap.size l[k].A l[k].xs := by
  obtain ⟨b, off, e, hb, hc⟩ := h.row.at_ hk
  have := hc 0 (by omega)
  rw [Nat.mul_one, Nat.add_zero] at this
  exact ⟨b, off, e, hb, this, h.each _ (List.getElem_mem hk)⟩

/-- the struct that match.prepare returns -/
structure MIn where
  a : Aut
  AV : Option Addr
  cV : Nat
  ev : List SlI
  AS : Option Addr
  cS : Nat
  cs : List SlV
  en : Int
def encX (x : MIn) : List Value := encA x.a ++ [.slice x.AV x.ev.length x.cV, .slice x.AS x.cs.length x.cS, .int .i64 x.en]
def MIn.inp (x : MIn) : Inp := ⟨x.a.edges, x.a.fin, x.ev.map SlI.xs, x.cs.map SlV.xs⟩
structure MAt (w : World) (x : MIn) : Prop where
  aut : AutAt w (Lo w.heap.size) x.a
  ev : EvAt w x.AV x.ev
  cs : CsAt w x.AS x.cs
theorem MAt.step {w w' : World} {x : MIn} (h : MAt w x) (hb : Below w.heap.size w w') : MAt w' x := ⟨h.aut.grow hb, h.ev.step hb, h.cs.step hb⟩

def Incr (l : List Int) : Prop := l.Pairwise (· < ·) ∧ ∀ t ∈ l, 0 ≤ t ∧ t ≤ 1099511627776
structure EdgOk (n nE nC : Nat) (e : Edg) : Prop where
  f0 : 0 ≤ e.from_
  ft : e.from_ < e.to_
  tn : e.to_ < n
  e0 : 0 ≤ e.event
  en : e.event < nE
  w0 : -1 ≤ e.while_
  wn : e.while_ < nC
  l0 : 0 ≤ e.low
  lh : e.low ≤ e.high
  h1 : e.high ≤ 1099511627776
/-- an input that has been checked -/
structure MOk (x : MIn) : Prop where
  few : x.a.edges.length ≤ 40
  fin : x.a.fin.length ≤ 33
  edge : ∀ e ∈ x.a.edges, EdgOk x.a.fin.length x.ev.length x.cs.length e
  mono : ∀ i j : Nat, ∀ a b : Edg, i ≤ j → x.a.edges[i]? = some a → x.a.edges[j]? = some b → a.from_ ≤ b.from_
  nev : x.ev.length ≤ 40
  ncs : x.cs.length ≤ 40
  evs : ∀ s ∈ x.ev, s.xs.length ≤ 24 ∧ Incr s.xs
  css : ∀ s ∈ x.cs, s.xs.length ≤ 1000000000000
  e0 : 0 ≤ x.en
  e1 : x.en ≤ 1099511627776
theorem MOk.ord {x : MIn} (h : MOk x) : Ordd x.inp := ⟨fun e he => ⟨(h.edge e he).f0, (h.edge e he).ft⟩, h.mono⟩
theorem nth_at {α : Type} {l : List (List α)} {i : Int} {k : Nat} (hk : k < l.length) (hi : i = (k : Int)) : nth l i = l[k] := by
  subst hi
  unfold nth
  rw [Int.toNat_natCast, List.getD_eq_getElem?_getD, List.getElem?_eq_getElem hk]
  rfl
/-- the list of an edge's event -/
theorem MOk.event {x : MIn} (h : MOk x) {e : Edg} (he : e ∈ x.a.edges) : ∃ k : Nat, ∃ hk : k < x.ev.length, e.event = (k : Int) ∧ nth x.inp.ev e.event = x.ev[k].xs := by
  have ho := h.edge e he
  have h0 := ho.e0
  have h1 := ho.en
  obtain ⟨k, hk⟩ := Int.eq_ofNat_of_zero_le h0
  have hl : k < x.ev.length := by omega
  refine ⟨k, hl, hk, ?_⟩
  rw [nth_at (by simpa [MIn.inp] using hl) hk]
  simp [MIn.inp]
theorem MOk.cond {x : MIn} (h : MOk x) {e : Edg} (he : e ∈ x.a.edges) (hw : e.while_ ≠ -1) : ∃ k : Nat, ∃ hk : k < x.cs.length, e.while_ = (k : Int) ∧ nth x.inp.cs e.while_ = x.cs[k].xs := by
  have ho := h.edge e he
  have h0 := ho.w0
  have h1 := ho.wn
  obtain ⟨k, hk⟩ := Int.eq_ofNat_of_zero_le (show 0 ≤ e.while_ by omega)
  have hl : k < x.cs.length := by omega
  refine ⟨k, hl, hk, ?_⟩
  rw [nth_at (by simpa [MIn.inp] using hl) hk]
  simp [MIn.inp]

theorem box7 {w : World} {N : Nat} {a b c d e f g : Value} {t : TypeId} (h : w.heap[N]? = some (.cells #[a, b, c, d, e, f, g] t (0, 0))) : w.cell? ⟨N, 0, none⟩ = some a ∧ w.cell? ⟨N, 1, none⟩ = some b ∧ w.cell? ⟨N, 2, none⟩ = some c ∧ w.cell? ⟨N, 3, none⟩ = some d ∧ w.cell? ⟨N, 4, none⟩ = some e ∧ w.cell? ⟨N, 5, none⟩ = some f ∧ w.cell? ⟨N, 6, none⟩ = some g :=
  ⟨by rw [cell_of_row w N _ _ t (0, 0) h]; rfl, by rw [cell_of_row w N _ _ t (0, 0) h]; rfl, by rw [cell_of_row w N _ _ t (0, 0) h]; rfl, by rw [cell_of_row w N _ _ t (0, 0) h]; rfl, by rw [cell_of_row w N _ _ t (0, 0) h]; rfl, by rw [cell_of_row w N _ _ t (0, 0) h]; rfl, by rw [cell_of_row w N _ _ t (0, 0) h]; rfl⟩

/-- the times of a sorted list from a place on, up to a greatest one -/
def upTo (l : List Int) (k : Nat) (to_ : Int) : List Int := (l.drop k).takeWhile fun t => decide (t ≤ to_)
theorem upTo_step {l : List Int} {k : Nat} {to_ : Int} (hk : k < l.length) (h : l[k] ≤ to_) : upTo l k to_ = l[k] :: upTo l (k + 1) to_ := by
  unfold upTo
  rw [List.drop_eq_getElem_cons hk, List.takeWhile_cons, if_pos (decide_eq_true h)]
theorem upTo_far {l : List Int} {k : Nat} {to_ : Int} (hk : k < l.length) (h : ¬ l[k] ≤ to_) : upTo l k to_ = [] := by
  unfold upTo
  rw [List.drop_eq_getElem_cons hk, List.takeWhile_cons, if_neg (by simpa using h)]
theorem upTo_end {l : List Int} {k : Nat} {to_ : Int} (hk : l.length ≤ k) : upTo l k to_ = [] := by
  unfold upTo
  rw [List.drop_of_length_le hk]
  rfl
theorem upTo_len (l : List Int) (k : Nat) (to_ : Int) : (upTo l k to_).length ≤ l.length := by
  unfold upTo
  refine Nat.le_trans (List.takeWhile_prefix _).length_le ?_
  rw [List.length_drop]
  omega
/-- of a sorted list: those of a range -/
theorem upTo_mem {l : List Int} (hs : l.Pairwise (· < ·)) {a b t : Int} : t ∈ upTo l (l.countP (· < a)) b ↔ t ∈ l ∧ a ≤ t ∧ t ≤ b := by
  induction l with
  | nil => simp [upTo]
  | cons x l ih =>
    rw [List.pairwise_cons] at hs
    by_cases hx : x < a
    · have e : upTo (x :: l) ((x :: l).countP (· < a)) b = upTo l (l.countP (· < a)) b := by
        unfold upTo
        rw [List.countP_cons_of_pos (by simpa using hx), List.drop_succ_cons]
      rw [e, ih hs.2, List.mem_cons]
      constructor
      · rintro ⟨h1, h2⟩; exact ⟨.inr h1, h2⟩
      · rintro ⟨h1 | h1, h2, h3⟩
        · omega
        · exact ⟨h1, h2, h3⟩
    · have hc : (x :: l).countP (· < a) = 0 := by
        rw [List.countP_eq_zero]
        intro y hy
        rcases List.mem_cons.1 hy with rfl | hy
        · simpa using hx
        · have := hs.1 y hy; simp; omega
      rw [hc]
      have key : ∀ (m : List Int), m.Pairwise (· < ·) → (t ∈ m.takeWhile (fun t => decide (t ≤ b)) ↔ t ∈ m ∧ t ≤ b) := fun m hm => by
        induction m with
        | nil => simp
        | cons y m ihm =>
          rw [List.pairwise_cons] at hm
          by_cases hy : y ≤ b
          · rw [List.takeWhile_cons, if_pos (decide_eq_true hy), List.mem_cons, List.mem_cons, ihm hm.2]
            constructor
            · rintro (rfl | ⟨h1, h2⟩)
              · exact ⟨.inl rfl, hy⟩
              · exact ⟨.inr h1, h2⟩
            · rintro ⟨rfl | h1, h2⟩
              · exact .inl rfl
              · exact .inr ⟨h1, h2⟩
          · rw [List.takeWhile_cons, if_neg (by simpa using hy)]
            constructor
            · intro h; cases h
            · rintro ⟨h1, h2⟩
              rcases List.mem_cons.1 h1 with rfl | h1
              · omega
              · have := hm.1 t h1; omega
      unfold upTo
      rw [List.drop_zero, key _ (List.pairwise_cons.2 hs)]
      constructor
      · rintro ⟨h1, h2⟩
        refine ⟨h1, ?_, h2⟩
        rcases List.mem_cons.1 h1 with rfl | h1
        · omega
        · have := hs.1 t h1; omega
      · rintro ⟨h1, _, h2⟩; exact ⟨h1, h2⟩

end Go.Proofs.Ytkbiefklilelmaa
