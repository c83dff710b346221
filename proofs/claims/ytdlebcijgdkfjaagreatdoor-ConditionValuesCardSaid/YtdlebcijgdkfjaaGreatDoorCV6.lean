/-
  Several texts in one: Base, Sort, Clip, Segs. Each says at its head what it holds.
-/
import Derived.Test.YtdlebcijgdkfjaaGreatDoorProg
import Derived.Test.YtdlebcijgdkfjaaGreatDoorCV5
import Derived.Test.YtdlebcijgdkfjaaGreatDoorCV3
import Derived.WalkKit
import Derived.WalkSpells
import Derived.WalkLawsBesides
import Derived.Below
import Derived.BigQuiet
import Derived.Deep.QuietTactic
import Derived.LoopTactic
import Derived.RegionTactic
import Derived.Lib.SmallJoins
import Derived.Test.YtdlebcijgdkfjaaGreatDoorShelf
import Derived.Lib.OwnBridge
import Derived.Lib.SlicesCompact

/-
  Words for slices of intervals in memory, over the program's translation; nothing about the program's functions yet.
-/
namespace Go.Proofs.YtdlebcijgdkfjaaGreatDoor
open Go.RowKit

def encIv (x : Iv) : List Value := [.int .i64 x.1, .int .i64 x.2]
def encIvs (xs : List Iv) : List Value := xs.flatMap encIv
theorem encIvs_length (xs : List Iv) : (encIvs xs).length = xs.length * 2 := by
  unfold encIvs
  induction xs with
  | nil => rfl
  | cons x xs ih => simp only [List.flatMap_cons, List.length_append, List.length_cons, ih, encIv]; simp; omega
theorem encIvs_snoc (xs : List Iv) (x : Iv) : encIvs (xs ++ [x]) = encIvs xs ++ [.int .i64 x.1, .int .i64 x.2] := by simp [encIvs, encIv]

/-- the slice at A (of as many elements as xs has) holds xs, below block B -/
def IvsAt (w : World) (B : Nat) (A : Option Addr) (xs : List Iv) : Prop :=
  xs ≠ [] → ∃ b off, A = some ⟨b, off, none⟩ ∧ b < B ∧ ∀ i x, xs[i]? = some x →
    w.cell? ⟨b, off + i * 2, none⟩ = some (.int .i64 x.1) ∧ w.cell? ⟨b, off + i * 2 + 1, none⟩ = some (.int .i64 x.2)

section
variable {w w' : World} {B B' : Nat} {A : Option Addr} {xs : List Iv}

theorem IvsAt.nil : IvsAt w B A [] := fun h => absurd rfl h

theorem IvsAt.keep (h : IvsAt w B A xs) (hk : ∀ p : Addr, p.block < B → w'.cell? p = w.cell? p) : IvsAt w' B A xs := fun hx => by
  obtain ⟨b, off, e, hb, hc⟩ := h hx
  exact ⟨b, off, e, hb, fun i x hi => ⟨(hk _ hb).trans (hc i x hi).1, (hk _ hb).trans (hc i x hi).2⟩⟩

theorem IvsAt.below (h : IvsAt w B A xs) (hb : Below B w w') : IvsAt w' B A xs := h.keep fun _ hp => hb.cell hp

theorem IvsAt.more (h : IvsAt w B A xs) (hB : B ≤ B') : IvsAt w B' A xs := fun hx => by
  obtain ⟨b, off, e, hb, hc⟩ := h hx
  exact ⟨b, off, e, by omega, hc⟩

theorem IvsAt.at_ (h : IvsAt w B A xs) {k : Nat} (hk : k < xs.length) : ∃ b off, A = some ⟨b, off, none⟩ ∧ b < B ∧
    w.cell? ⟨b, off + k * 2, none⟩ = some (.int .i64 xs[k].1) ∧ w.cell? ⟨b, off + k * 2 + 1, none⟩ = some (.int .i64 xs[k].2) := by
  obtain ⟨b, off, e, hb, hc⟩ := h (fun e => by subst e; simp at hk)
  have := hc k xs[k] (List.getElem?_eq_getElem hk)
  exact ⟨b, off, e, hb, this.1, this.2⟩
end

/-- a slice of intervals that the call itself has made: it owns its row, from block 'base' on -/
def OwnIv (w : World) (base : Nat) (A : Option Addr) (c : Nat) (xs : List Iv) : Prop := w.ownsRow base 69 2 (.slice A xs.length c) xs.length (encIvs xs)

theorem infoIv : (Tryz.prog.info? 69).map (fun i => (i.zero, i.size, i.bytes)) = some (some (.agg #[.int .i64 0, .int .i64 0]), 2, 16) := by kernel_rfl
theorem infoInt : (Tryz.prog.info? 3).map (fun i => (i.zero, i.size, i.bytes)) = some (some (.int .i64 0), 1, 8) := by kernel_rfl

theorem encIvs_at {xs : List Iv} {i : Nat} {x : Iv} (h : xs[i]? = some x) : (encIvs xs)[i * 2]? = some (.int .i64 x.1) ∧ (encIvs xs)[i * 2 + 1]? = some (.int .i64 x.2) := by
  induction xs generalizing i with
  | nil => simp at h
  | cons y ys ih =>
    cases i with
    | zero => simp at h; subst h; simp [encIvs, encIv]
    | succ i =>
      have := ih (i := i) (by simpa using h)
      have e1 : (i + 1) * 2 = i * 2 + 2 := by omega
      rw [e1]
      simpa [encIvs, encIv] using this

section
variable {w w' : World} {base base' : Nat} {A : Option Addr} {c : Nat} {xs : List Iv}
theorem OwnIv.nil (w : World) (base : Nat) : OwnIv w base none 0 [] := World.ownsRow_nil w base _ 2
theorem OwnIv.lower (h : OwnIv w base A c xs) (hb : base' ≤ base) : OwnIv w base' A c xs := Joins.ownsRow_le h hb
theorem OwnIv.alloc (h : OwnIv w base A c xs) (o : Obj) : OwnIv (w.alloc o) base A c xs := World.ownsRow.alloc h o
theorem OwnIv.below {B : Nat} (h : OwnIv w base A c xs) (hb : Below B w w') (hB : w.heap.size ≤ B) : OwnIv w' base A c xs := by
  refine ⟨h.1, ?_⟩
  rcases h.2 with h2 | ⟨g, cap, cur, h2, h3, h4, h5⟩
  · exact .inl h2
  · exact .inr ⟨g, cap, cur, h2, h3, (hb.block g (by have := (Array.getElem?_eq_some_iff.1 h4).1; omega)).trans h4, h5⟩
theorem OwnIv.form (h : OwnIv w base A c xs) : (A = none ∧ c = 0 ∧ xs = []) ∨ ∃ g, A = some ⟨g, 0, none⟩ ∧ base ≤ g ∧ g < w.heap.size ∧ xs.length ≤ c ∧ c ≤ maxLen := by
  rcases h.2 with ⟨h1, h2⟩ | ⟨g, cap, cur, h1, h2, h3, h4, h5, _⟩
  · injection h1 with h1 _ h3
    exact .inl ⟨h1, h3, List.eq_nil_of_length_eq_zero h2⟩
  · injection h1 with h1 _ h1'
    subst h1 h1'
    exact .inr ⟨g, rfl, h2, (Array.getElem?_eq_some_iff.1 h3).1, h4, h5⟩
theorem OwnIv.block (h : OwnIv w base A c xs) : ∀ k, (Value.slice A xs.length c).ownBlock = some k → base ≤ k := fun k hk => (World.ownsRow.lt h k hk).1
theorem OwnIv.ats (h : OwnIv w base A c xs) : IvsAt w w.heap.size A xs := fun hx => by
  rcases h.form with ⟨_, _, h3⟩ | ⟨g, rfl, _, h2, _, _⟩
  · exact absurd h3 hx
  · refine ⟨g, 0, rfl, h2, fun i x hi => ?_⟩
    have hlt : i < xs.length := (List.getElem?_eq_some_iff.1 hi).1
    obtain ⟨e1, e2⟩ := encIvs_at hi
    exact ⟨by rw [Nat.zero_add, World.ownsRow.cellAt h _ (by omega), e1], by rw [Nat.zero_add, World.ownsRow.cellAt h _ (by omega), e2]⟩
theorem OwnIv.of_row {v : Value} {n : Nat} {vs : List Value} (h : w.ownsRow base 69 2 v n vs) (hn : n = xs.length) (hv : vs = encIvs xs) : ∃ A c, v = .slice A xs.length c ∧ OwnIv w base A c xs := by
  subst hn hv
  rcases Joins.ownsRow_forms h with ⟨rfl, h0⟩ | ⟨g, cap, rfl⟩
  · exact ⟨none, 0, by rw [h0], by unfold OwnIv; rw [h0] at h ⊢; exact h⟩
  · exact ⟨_, cap, rfl, h⟩
end

theorem OwnIv.drewN {w : World} {base : Nat} {A : Option Addr} {c : Nat} {xs : List Iv} (h : OwnIv w base A c xs) (n : Nat) : OwnIv (w.drewN n) base A c xs := h
theorem OwnIv.drew {w : World} {base : Nat} {A : Option Addr} {c : Nat} {xs : List Iv} (h : OwnIv w base A c xs) : OwnIv w.drew base A c xs := h
theorem IvsAt.drewN {w : World} {B : Nat} {A : Option Addr} {xs : List Iv} (h : IvsAt w B A xs) (n : Nat) : IvsAt (w.drewN n) B A xs := h
theorem own_push {w wp : World} {base : Nat} {e : TypeId} {size : Nat} {v : Value} {n : Nat} {xs : List Value} {o : Obj} (h : wp.ownsRow base e size v n xs) (hw : w.heap = wp.heap.push o) : w.ownsRow base e size v n xs := by
  refine ⟨h.1, ?_⟩
  rcases h.2 with h2 | ⟨g, cap, cur, h2, h3, h4, h5⟩
  · exact .inl h2
  · refine .inr ⟨g, cap, cur, h2, h3, ?_, h5⟩
    rw [hw, Array.getElem?_push, if_neg (by have := (Array.getElem?_eq_some_iff.1 h4).1; omega)]
    exact h4
theorem cells_push {w wp : World} {cs : Array Value} {t : TypeId} (hw : w.heap = wp.heap.push (.cells cs t)) (j : Nat) : w.cell? ((⟨wp.heap.size, 0, none⟩ : Addr).add j) = cs[j]? := by
  have e : (⟨wp.heap.size, 0, none⟩ : Addr).add j = ⟨wp.heap.size, j, none⟩ := by unfold Addr.add; split <;> simp_all
  rw [e, cell_of_row w wp.heap.size j cs t (0, 0) (by rw [hw]; simp)]

/-- 'append(out, x)' of one interval, laid into a block just before -/
theorem append_iv {ops : Array Oper} {rest : List Oper} {o : Oper} {a : Act} {Q : Exit → Act → World → Prop} {w : World} (hgd : o.guard = none) (s x : Operand)
    (ho : o.op = .call { callee := .builtin .append, args := #[s, x], argTypes := #[43, 43] })
    (base : Nat) (A : Option Addr) (c : Nat) (xs : List Iv) (n : Nat) (hs : a.eval s = .slice A n c) (hn : n = xs.length) (p q : Int)
    (N : Nat) (hx : a.eval x = .slice (some ⟨N, 0, none⟩) 1 1) (wp : World) (hw : w.heap = wp.heap.push (.cells #[.int .i64 p, .int .i64 q] 69)) (hN : N = wp.heap.size)
    (hown : OwnIv wp base A c xs) (hlen : xs.length ≤ 4398046511104) (hbase : base ≤ wp.heap.size)
    (h : ∀ (g c' : Nat) (w' : World) (row : Option Nat), OwnIv w' base (some ⟨g, 0, none⟩) c' (xs ++ [(p, q)]) → base ≤ g → w.grownBy w' row → (∀ k, row = some k → base ≤ k) →
      wpList Tryz.prog ops Q rest (a.put o.dst (.slice (some ⟨g, 0, none⟩) (n + 1) c')) w') :
    wpList Tryz.prog ops Q (o :: rest) a w := by
  subst hn hN
  obtain ⟨i0, hi0, hz0, hz1, hz2⟩ := info_parts infoIv
  refine wpList_append_own _ hgd s x 43 ho base 69 i0 _ 2 16 Tryz.underlying43 hi0 hz0 hz1 hz2 rfl (by decide) _ xs.length (encIvs xs) hs (own_push hown hw)
    ⟨wp.heap.size, 0, none⟩ 1 1 [.int .i64 p, .int .i64 q] hx rfl (fun j u hu => by rw [cells_push hw]; simpa using hu) (by simp [Value.oneCell']) (by simp only [maxLen]; omega) (by omega) (by rw [hw]; simp; omega) ?_
  intro v' w' ho' hg _
  obtain ⟨A', c', rfl, ho''⟩ := OwnIv.of_row (xs := xs ++ [(p, q)]) ho' (by simp) (by rw [encIvs_snoc])
  rcases ho''.form with ⟨_, _, h3⟩ | ⟨g, rfl, h1, _⟩
  · simp at h3
  · have := h g c' w' _ ho'' h1 hg hown.block
    simpa using this

theorem OwnIv.last {w : World} {base : Nat} {A : Option Addr} {c : Nat} {init : List Iv} {z : Iv} (h : OwnIv w base A c (init ++ [z])) :
    ∃ g, A = some ⟨g, 0, none⟩ ∧ base ≤ g ∧ g < w.heap.size ∧ w.cell? ⟨g, init.length * 2, none⟩ = some (.int .i64 z.1) ∧ w.cell? ⟨g, init.length * 2 + 1, none⟩ = some (.int .i64 z.2) ∧ w.frozen? ⟨g, init.length * 2 + 1, none⟩ = false := by
  rcases h.form with ⟨_, _, h3⟩ | ⟨g, rfl, h1, h2, _, _⟩
  · simp at h3
  · obtain ⟨e1, e2⟩ := encIvs_at (xs := init ++ [z]) (i := init.length) (x := z) (by simp)
    exact ⟨g, rfl, h1, h2, by rw [World.ownsRow.cellAt h _ (by simp), e1], by rw [World.ownsRow.cellAt h _ (by simp; omega), e2], World.ownsRow.frozenAt h _⟩

theorem box_cell {w : World} {N : Nat} {v : Value} {t : TypeId} (h : w.heap[N]? = some (.cells #[v] t (0, 0))) : w.cell? ⟨N, 0, none⟩ = some v := by
  rw [cell_of_row w N 0 _ t (0, 0) h]; rfl
theorem box_frozen {w : World} {N : Nat} {v : Value} {t : TypeId} (h : w.heap[N]? = some (.cells #[v] t (0, 0))) : w.frozen? ⟨N, 0, none⟩ = false := by
  simp [World.frozen?, h]
theorem box_set1 {w : World} {N : Nat} {v u : Value} {t : TypeId} (h : w.heap[N]? = some (.cells #[v] t (0, 0))) : (w.setCell ⟨N, 0, none⟩ u).heap[N]? = some (.cells #[u] t (0, 0)) := by
  simp [World.setCell, Array.getElem?_modify, h]
theorem box_grownB {w w' : World} {N base : Nat} {o : Obj} {row : Option Nat} (h : w.heap[N]? = some o) (hg : w.grownBy w' row) (hr : ∀ k, row = some k → base ≤ k) (hN : N < base) : w'.heap[N]? = some o :=
  (hg.block N (box_lt h) (fun e => by have := hr N e.symm; omega)).trans h

theorem encIvs_set_last (init : List Iv) (p q r : Int) : (encIvs (init ++ [(p, q)])).set (init.length * 2 + 1) (.int .i64 r) = encIvs (init ++ [(p, r)]) := by
  rw [encIvs_snoc, encIvs_snoc, ← encIvs_length, List.set_append_right _ _ (by omega)]
  simp
theorem OwnIv.set_last {w : World} {base g c : Nat} {init : List Iv} {z : Iv} (h : OwnIv w base (some ⟨g, 0, none⟩) c (init ++ [z])) (r : Int) :
    OwnIv (w.setCell ⟨g, init.length * 2 + 1, none⟩ (.int .i64 r)) base (some ⟨g, 0, none⟩) c (init ++ [(z.1, r)]) := by
  have := (World.ownsRow.stored h (init.length * 2 + 1) (.int .i64 r)).1
  rw [encIvs_set_last init z.1 z.2 r] at this
  unfold OwnIv
  simpa using this

theorem IvsAt.step {w w' : World} {A : Option Addr} {xs : List Iv} (h : IvsAt w w.heap.size A xs) (hb : Below w.heap.size w w') : IvsAt w' w'.heap.size A xs := (h.below hb).more hb.size
theorem IvsAt.alloc {w : World} {A : Option Addr} {xs : List Iv} (h : IvsAt w w.heap.size A xs) (o : Obj) : IvsAt (w.alloc o) (w.alloc o).heap.size A xs := h.step ((Below.refl _ _).alloc (Nat.le_refl _) _)
/-- what a function returns that makes the normal list of the set S, in memory of its own -/
def RetIvs (w : World) (S : Int → Prop) (e : Ending) (w' : World) : Prop :=
  ∃ (A : Option Addr) (c : Nat) (ys : List Iv), e = .returned (.slice A ys.length c) ∧ OwnIv w' w.heap.size A c ys ∧ Below w.heap.size w w' ∧ Norm ys ∧ ∀ t, Mem ys t ↔ S t

end Go.Proofs.YtdlebcijgdkfjaaGreatDoor

/-
  sort.Slice as Clip calls it: a row of intervals of the call's own becomes a permutation of itself, sorted by From.
-/
namespace Go.Proofs.YtdlebcijgdkfjaaGreatDoor
open Go.Shelf Go.RowKit Go.Lib Go.Sort Go.Joins

theorem encIvs_get (d : List Iv) : ∀ t, t < d.length * 2 → (encIvs d)[t]? = some ((encIv d[t / 2]!)[t % 2]!) := by
  induction d with
  | nil => intro t ht; simp at ht
  | cons x r ih =>
    intro t ht
    match t, ht with
    | 0, _ => simp [encIvs, encIv]
    | 1, _ => simp [encIvs, encIv]
    | t + 2, ht =>
      have := ih t (by simp at ht; omega)
      have e1 : (t + 2) / 2 = t / 2 + 1 := by omega
      have e2 : (t + 2) % 2 = t % 2 := by omega
      rw [e1, e2]
      simp only [encIvs, List.flatMap_cons] at this ⊢
      rw [List.getElem?_append_right (by simp [encIv])]
      simpa [encIv] using this

theorem flat_encIvs (d : List Iv) : (flatK encIv 2 d.toArray).toList = encIvs d := by
  apply List.ext_getElem?
  intro t
  by_cases ht : t < d.length * 2
  · rw [encIvs_get d t ht]
    have hs : t < (flatK encIv 2 d.toArray).size := by simpa using ht
    rw [Array.getElem?_toList, Array.getElem?_eq_getElem hs]
    have := get_flatK encIv 2 d.toArray t (by simpa using ht)
    rw [getElem!_pos _ t hs] at this
    rw [this]
    simp
  · rw [List.getElem?_eq_none (by simp; omega), List.getElem?_eq_none (by rw [encIvs_length]; omega)]

theorem holdsK_of_own {w : World} {base g cap : Nat} {d : List Iv} (h : w.ownsRow base 69 2 (.slice (some ⟨g, 0, none⟩) d.length cap) d.length (encIvs d)) : HoldsK encIv 2 w g 0 d.toArray := by
  intro j hj
  have hj' : j < d.length * 2 := by simpa using hj
  have hs : (flatK encIv 2 d.toArray)[j]! = (encIvs d)[j]'(by rw [encIvs_length]; omega) := by
    rw [getElem!_pos _ j (by simpa using hj), ← Array.getElem_toList (by simpa using hj)]
    simp only [flat_encIvs]
  constructor
  · rw [Nat.zero_add, h.cellAt j hj', hs, List.getElem?_eq_getElem (by rw [encIvs_length]; omega)]
    rfl
  · rw [Nat.zero_add]; exact h.frozenAt j

theorem own_putRowK {w : World} {base g cap q : Nat} {os : Array Obj} {d d' : List Iv} (h : w.ownsRow base 69 2 (.slice (some ⟨g, 0, none⟩) d.length cap) d.length (encIvs d)) (hl : d'.length = d.length) :
    (grow (putRowK encIv 2 (Sort.ahead w q) g 0 d'.toArray) os).ownsRow base 69 2 (.slice (some ⟨g, 0, none⟩) d'.length cap) d'.length (encIvs d') := by
  obtain ⟨_, h2⟩ := h
  refine ⟨encIvs_length d', ?_⟩
  rcases h2 with ⟨h3, _⟩ | ⟨g', cap', cur, hv, hb, hg, hn, hm, hs, ht⟩
  · cases h3
  · injection hv with hv1 _ hv3
    injection hv1 with hv1
    injection hv1 with hv1
    subst hv1 hv3
    refine .inr ⟨g, cap, putCells id 0 (flatK encIv 2 d'.toArray) cur, rfl, hb, ?_, by omega, hm, by simp [putCells, hs], ?_⟩
    · have hlt : g < w.heap.size := (Array.getElem?_eq_some_iff.1 hg).1
      rw [heap_grow_old _ _ (by simp [putRowK, putRow, mapBlock, Sort.ahead]; exact hlt)]
      simp only [putRowK, putRow, mapBlock, Sort.ahead, Array.getElem?_modify, if_true, hg, Option.map_some, onCells]
    · rw [← flat_encIvs d']
      apply List.ext_getElem?
      intro t
      rw [List.getElem?_take]
      by_cases ht' : t < d'.length * 2
      · rw [if_pos ht', Array.getElem?_toList, Array.getElem?_toList]
        have hc : t < cur.size := by rw [hs]; omega
        simp only [putCells, Array.getElem?_mapIdx]
        rw [Array.getElem?_eq_getElem hc, Option.map_some, if_pos ⟨by omega, by simp; omega⟩, Array.getElem?_eq_getElem (by simp; exact ht')]
        simp only [id, Nat.sub_zero]
        rw [getElem!_pos _ t (by simp; exact ht')]
      · rw [if_neg ht', List.getElem?_eq_none (by simp; omega)]

theorem below_putRowK {w : World} {base g q : Nat} {os : Array Obj} {d' : Array Iv} (hB : base ≤ g) (hw : base ≤ w.heap.size) : Below base w (grow (putRowK encIv 2 (Sort.ahead w q) g 0 d') os) := by
  refine ⟨rfl, rfl, rfl, by simp [putRowK, putRow, mapBlock, Sort.ahead], fun k hk => ?_⟩
  rw [heap_grow_old _ _ (by simp [putRowK, putRow, mapBlock, Sort.ahead]; omega)]
  simp only [putRowK, putRow, mapBlock, Sort.ahead, Array.getElem?_modify]
  rw [if_neg (by omega)]

def ltLo (a b : Iv) : Bool := decide (a.1 < b.1)
theorem swo_ltLo : SWO ltLo where
  irrefl := fun x => by simp [ltLo]
  trans := fun x y z h1 h2 => by simp [ltLo] at *; omega
  ntrans := fun x y z h1 h2 => by simp [ltLo] at *; omega

noncomputable def svT : TypeInfo := (Tryz.prog.info? 43).get (by kernel_rfl)
noncomputable def svE : TypeInfo := (Tryz.prog.info? 69).get (by kernel_rfl)
theorem svP : svE.hasPointers = false := by kernel_rfl
theorem svB : svE.bytes = 16 := by kernel_rfl
theorem svK (n : Nat) (h2 : 2 ≤ n) : Lib.swapperK n svE 25 = 9 := by
  have c : (n == 0) = false := by simp; omega
  have d : (n == 1) = false := by simp; omega
  simp [Lib.swapperK, svP, svB, c, d]

set_option maxHeartbeats 1000000 in
theorem less_any (blk off c Bs size : Nat) (W : World) (G : Nat → Int) (hs : W.cell? ⟨Bs, 0, none⟩ = some (.slice (some ⟨blk, off, none⟩) size c))
    (hc : ∀ t, t < size → W.cell? ⟨blk, off + t * 2, none⟩ = some (.int .i64 (G t))) (i j : Nat) (hi : i < size) (hj : j < size) (_hsz : size < 4611686018427387904) :
    Calls Tryz.prog 66 #[.int .i64 i, .int .i64 j, .pointer (some ⟨Bs, 0, none⟩)] W fun e w' => e = .returned (.bool (decide (G i < G j))) ∧ ∃ q, w' = W.drewN q := by
  have ci := hc i hi
  have cj := hc j hj
  go_enter Tryz.func66, Tryz.ntmps66
  go_wp2
  go_quiet (fail)
  go_wp2
  go_ret
  exact ⟨rfl, nq, rfl⟩

theorem sort_two (g c Bs : Nat) (d : Array Iv) (h2 : 2 ≤ d.size) (hsz : d.size < 4611686018427387904) (w : World) (hH : HoldsK encIv 2 w g 0 d) (hblk : g < w.heap.size)
    (hBs : w.cell? ⟨Bs, 0, none⟩ = some (.slice (some ⟨g, 0, none⟩) d.size c)) (hB1 : Bs < w.heap.size) (hB2 : Bs ≠ g) :
    Calls Tryz.prog 65 #[.iface 43 (.slice (some ⟨g, 0, none⟩) d.size c), .func (.func 66) #[] #[.pointer (some ⟨Bs, 0, none⟩)]] w fun e w' =>
      e = .returned (.tuple #[]) ∧ ∃ d' n os, PermIn 0 d.size d d' ∧ SortedIn ltLo 0 d.size d' ∧ w' = grow (putRowK encIv 2 (Sort.ahead w n) g 0 d') os := by
  have hless : LessReadsK Tryz.prog 66 #[.pointer (some ⟨Bs, 0, none⟩)] encIv 2 ltLo g 0 d.size w := by
    intro m os dk hs i j hi hj
    have e : sortWorldK encIv 2 w g 0 m dk os = putRowK encIv 2 (grow (Sort.ahead w m) os) g 0 dk := by
      unfold sortWorldK; rw [putRowK_grow _ _ (Sort.ahead w m) _ g 0 _ hblk]
    have hHg : HoldsK encIv 2 (grow (Sort.ahead w m) os) g 0 d := holdsK_grow _ _ _ _ g 0 d hblk (holdsK_ahead _ _ _ _ _ _ _ hH)
    refine less_any g 0 c Bs d.size _ (fun t => dk[t]!.1) ?_ (fun t ht => ?_) i j hi hj (by omega)
    · rw [e, cell?_putRowK_other _ _ _ g 0 dk _ (by exact hB2), cell?_grow _ _ _ (by exact hB1)]; exact hBs
    · rw [e]; exact ((holdsK_putRowK _ _ _ g 0 d dk hHg hs).cell (i := t) (c := 0) (by omega) (by omega)).1
  exact Any.sort_Slice_cells_sorted Tryz.laysGg6 43 69 svT svE (by kernel_rfl) (by kernel_rfl) (by kernel_rfl) (by kernel_rfl) 25 (fun _ => by kernel_rfl) encIv 2 (fun _ => rfl) (by kernel_rfl) (fun _ => by kernel_rfl)
    (fun x v hv => by simp [encIv] at hv; rcases hv with rfl | rfl <;> rfl) ltLo swo_ltLo 66 _
    (enters_of Tryz.func66 (by kernel_rfl) rfl) g 0 c d h2 hsz 171 (by rw [svK _ h2]; kernel_rfl) false
    (fun args W => run_callFunc_extern Tryz.func171 (by kernel_rfl) (by kernel_rfl) (by kernel_rfl) (e := Extern.ReflectliteSwapper.swap false) (by kernel_rfl) args W) w hless hH hblk

theorem sort_tiny (p : Option Addr) (n c : Nat) (h1 : n ≤ 1) (lb : Array Value) (w : World) :
    Calls Tryz.prog 65 #[.iface 43 (.slice p n c), .func (.func 66) #[] lb] w fun e w' => e = .returned (.tuple #[]) ∧ ∃ os, w' = grow w os := by
  rcases (show n = 0 ∨ n = 1 by omega) with rfl | rfl
  · exact Any.sort_Slice_tiny Tryz.laysGg6 43 69 svT svE (by kernel_rfl) (by kernel_rfl) (by kernel_rfl) (by kernel_rfl) 25 (fun _ => by kernel_rfl) p 0 c (by omega) 163 (by kernel_rfl) _ _ lb w
  · exact Any.sort_Slice_tiny Tryz.laysGg6 43 69 svT svE (by kernel_rfl) (by kernel_rfl) (by kernel_rfl) (by kernel_rfl) 25 (fun _ => by kernel_rfl) p 1 c (by omega) 164 (by kernel_rfl) _ _ lb w

/-- sort.Slice at a row of the call's own, of whatever length -/
theorem sort_any (base Bs : Nat) (v : Value) (d : List Iv) (w : World) (hown : w.ownsRow base 69 2 v d.length (encIvs d)) (hB : Bs < base) (hw : base ≤ w.heap.size)
    (hBs : w.cell? ⟨Bs, 0, none⟩ = some v) (hsz : d.length < 4611686018427387904) :
    Calls Tryz.prog 65 #[.iface 43 v, .func (.func 66) #[] #[.pointer (some ⟨Bs, 0, none⟩)]] w fun e w' =>
      e = .returned (.tuple #[]) ∧ ∃ d' : List Iv, d'.Perm d ∧ d'.Pairwise (fun a b => a.1 ≤ b.1) ∧ w'.ownsRow base 69 2 v d'.length (encIvs d') ∧ Below base w w' := by
  by_cases h1 : d.length ≤ 1
  · have hform : ∃ p c, v = .slice p d.length c := by
      rcases ownsRow_forms hown with ⟨rfl, h⟩ | ⟨g, c, rfl⟩
      · exact ⟨none, 0, by rw [h]⟩
      · exact ⟨_, _, rfl⟩
    obtain ⟨p, c, rfl⟩ := hform
    refine (sort_tiny p d.length c h1 _ w).mono ?_
    rintro e w' ⟨he, os, rfl⟩
    refine ⟨he, d, List.Perm.refl _, ?_, ?_, ?_⟩
    · match d, h1 with
      | [], _ => exact List.Pairwise.nil
      | [x], _ => simp
    · exact hown.kept (row := none) ⟨rfl, rfl, rfl, by simp, fun k hk _ => heap_grow_old w os hk⟩ (by cases p <;> simp [Value.ownBlock])
    · exact ⟨rfl, rfl, rfl, by simp, fun k hk => heap_grow_old w os (by omega)⟩
  · obtain ⟨g, c, rfl⟩ := ownsRow_form hown (by omega)
    have hg := hown.lt g rfl
    refine (sort_two g c Bs d.toArray (by simp; omega) (by simpa using hsz) w (holdsK_of_own hown) hg.2 (by simpa using hBs) (by omega) (by omega)).mono ?_
    rintro e w' ⟨he, d', n, os, hp, hs, rfl⟩
    have hsize : d'.toList.length = d.length := by have := hp.1; simpa using this
    refine ⟨he, d'.toList, ?_, ?_, ?_, ?_⟩
    · have := hp.2.2
      have e1 : (d'.extract 0 d.toArray.size).toList = d'.toList := by
        have : d.toArray.size = d'.size := by simpa using hsize.symm
        rw [this]; simp
      have e2 : (d.toArray.extract 0 d.toArray.size).toList = d := by simp
      rwa [e1, e2] at this
    · rw [List.pairwise_iff_getElem]
      intro i j hi hj hij
      have := hs i j (by omega) hij (by rw [List.size_toArray, ← hsize]; exact hj)
      rw [getElem!_pos d' j (by simpa using hj), getElem!_pos d' i (by simpa using hi)] at this
      simp [ltLo] at this
      simpa using this
    · have := own_putRowK (q := n) (os := os) (d' := d'.toList) hown hsize
      rw [hsize] at this ⊢
      simpa using this
    · exact below_putRowK hg.1 hw

end Go.Proofs.YtdlebcijgdkfjaaGreatDoor

/-
  intervals.Clip: the normal list of the times of a list that are in a range.
-/
namespace Go.Proofs.YtdlebcijgdkfjaaGreatDoor
open Go.RowKit Go.Joins

def ClipRel (w : World) (lo hi : Int) (xs : List Iv) (i : Value) (wr : World) : Prop :=
  ∃ (k : Nat) (A : Option Addr) (c : Nat), k ≤ xs.length ∧ i = .int .i64 k ∧ wr.heap[w.heap.size]? = some (.cells #[.slice A (clipped lo hi (xs.take k)).length c] 43 (0, 0)) ∧
    OwnIv wr (w.heap.size + 1) A c (clipped lo hi (xs.take k)) ∧ Below w.heap.size w wr

def ClipRel2 (w2 : World) (d : List Iv) (out i : Value) (wr : World) : Prop :=
  ∃ (k : Nat) (A : Option Addr) (c : Nat), k ≤ d.length ∧ i = .int .i64 k ∧ out = .slice A (merged (d.take k)).length c ∧ OwnIv wr w2.heap.size A c (merged (d.take k)) ∧ Below w2.heap.size w2 wr

theorem clipped_take_succ (lo hi : Int) (xs : List Iv) (k : Nat) (hk : k < xs.length) : clipped lo hi (xs.take (k + 1)) = clipped lo hi (xs.take k) ++ if max xs[k].1 lo ≤ min xs[k].2 hi then [(max xs[k].1 lo, min xs[k].2 hi)] else [] := by
  rw [List.take_succ_eq_append_getElem hk, clipped_snoc]; rfl

theorem snoc_cases (ms : List Iv) : ms = [] ∨ ∃ init z, ms = init ++ [z] := by
  cases h : ms.getLast? with
  | none => exact .inl (by simpa using h)
  | some z => exact .inr ⟨_, z, getLast?_snoc_of h⟩
theorem mergeStep_le (init : List Iv) (z x : Iv) (h : x.1 ≤ z.2 + 1) : mergeStep (init ++ [z]) x = init ++ [(z.1, max z.2 x.2)] := by
  unfold mergeStep; simp [h]
theorem mergeStep_gt (init : List Iv) (z x : Iv) (h : ¬ x.1 ≤ z.2 + 1) : mergeStep (init ++ [z]) x = (init ++ [z]) ++ [x] := by
  unfold mergeStep; simp [h]
theorem merged_take_succ (xs : List Iv) (k : Nat) (hk : k < xs.length) : merged (xs.take (k + 1)) = mergeStep (merged (xs.take k)) xs[k] := by
  rw [List.take_succ_eq_append_getElem hk, merged_snoc]

set_option maxRecDepth 100000 in
set_option maxHeartbeats 2000000 in
theorem clip_any (A : Option Addr) (c : Nat) (xs : List Iv) (lo hi : Int) (w : World) (h : IvsAt w w.heap.size A xs) (hl : xs.length ≤ 4398046511104) :
    Calls Tryz.prog 21 #[.slice A xs.length c, .int .i64 lo, .int .i64 hi] w (RetIvs w fun t => lo ≤ t ∧ t ≤ hi ∧ Mem xs t) := by
  go_enter Tryz.func21, Tryz.ntmps21
  go_wp2
  go_loopw [20] (fun i wr => ClipRel w (max lo 0) (min hi 1099511627776) xs i wr) (fun i _ => xs.length - (intOf i).toNat)
  case atStart => exact ⟨0, none, 0, Nat.zero_le _, rfl, by have := heap_alloc_new w (.cells #[.slice none 0 0] 43); simpa [clipped] using this, by simpa [clipped] using OwnIv.nil _ _, (Below.refl _ _).alloc (Nat.le_refl _) _⟩
  case round =>
    obtain ⟨k, A1, c1, hk, rfl, hbox, hown, hb⟩ := hrel
    have hyl : (clipped (max lo 0) (min hi 1099511627776) (xs.take k)).length ≤ 4398046511104 := by
      have := clipped_len (max lo 0) (min hi 1099511627776) (xs.take k); have := List.length_take_le k xs; omega
    have hcb := box_cell hbox
    have hlb := box_lt hbox
    by_cases hlt : k < xs.length
    · obtain ⟨b, off, rfl, hbb, hc1, hc2⟩ := (h.below hb).at_ hlt
      have HS := hide (clipped_take_succ (max lo 0) (min hi 1099511627776) xs k hlt)
      generalize hys : clipped (max lo 0) (min hi 1099511627776) (xs.take k) = ys at *
      clear hys
      have HBOX := hide hbox
      clear hbox
      go_wp2_with (at_builtin; refine append_iv rfl _ _ rfl (w.heap.size + 1) A1 c1 ys _ rfl rfl (max xs[k].1 (max lo 0)) (min xs[k].2 (min hi 1099511627776)) _ rfl _ rfl (by simp) (hown.alloc _) hyl (by simp; omega) ?_
                   intro g' c' w1 row hown1 hg' hgrow hrow
                   have hbox1 := box_grownB (box_alloc (box_alloc HBOX.out)) hgrow hrow (Nat.lt_succ_self _)
                   have HB1 := hide hbox1
                   have hcb1 := box_cell hbox1
                   have hfb1 := box_frozen hbox1
                   clear hbox1)
      · go_roundw
        case rel =>
          refine ⟨k + 1, some ⟨g', 0, none⟩, c', by omega, by go_num, ?_, ?_, ?_⟩
          · rw [HS.out, if_pos ‹_›, List.length_append]
            exact box_set1 HB1.out
          · rw [HS.out, if_pos ‹_›]
            exact ownsRow_setCell_below hown1 (by simp) _
          · exact (((hb.alloc hb.size _).alloc (by have := hb.size; simp; omega) _).grown hgrow (by have := hb.size; simp; omega) (fun k hk => by have := hrow k hk; omega)).setCell (p := ⟨w.heap.size, 0, none⟩) (Nat.le_refl _) _
        case measure => simp [intOf]; omega
      · go_roundw
        case rel =>
          refine ⟨k + 1, A1, c1, by omega, by go_num, ?_, ?_, ?_⟩
          · rw [HS.out, if_neg (by omega), List.append_nil]
            exact box_alloc HBOX.out
          · rw [HS.out, if_neg (by omega), List.append_nil]
            exact hown.alloc _
          · exact hb.alloc hb.size _
        case measure => simp [intOf]; omega
    · have hke : k = xs.length := by omega
      subst hke
      rw [List.take_length] at *
      generalize hys : clipped (max lo 0) (min hi 1099511627776) xs = ys at *
      have HYS := hide hys
      clear hys
      have HBOX := hide hbox
      clear hbox
      go_wp2_with (go_at_call 65; refine (sort_any (w.heap.size + 1) w.heap.size (.slice A1 ys.length c1) ys _ hown (by omega) (by omega) hcb (by omega)).mono ?_; rintro e w2 ⟨rfl, d, hperm, hsort, hown2, hb2⟩
                   have hcb2 := (hb2.cell (p := ⟨w.heap.size, 0, none⟩) (by simp)).trans hcb)
      have HLEN := hide hperm.length_eq
      have hld : d.length ≤ ys.length := Nat.le_of_eq hperm.length_eq
      have hld' : ys.length ≤ d.length := Nat.le_of_eq hperm.length_eq.symm
      have hokd : ∀ x ∈ d, Okv x := fun x hx => clipped_ok (max lo 0) (min hi 1099511627776) xs (by omega) (by omega) x (by rw [HYS.out]; exact hperm.mem_iff.1 hx)
      have hrd : IvsAt w2 w2.heap.size A1 d := (show OwnIv w2 (w.heap.size + 1) A1 c1 d by unfold OwnIv; rw [hperm.length_eq] at hown2 ⊢; exact hown2).ats
      have hmn : ∀ k, Norm (merged (d.take k)) := fun k => (merged_spec _ (fun x hx => hokd x (List.mem_of_mem_take hx)) (hsort.sublist (List.take_sublist k d))).1
      have hwr : Below w.heap.size w w2 := hb.trans (hb2.mono (by omega))
      have HP := hide hperm
      have HSO := hide hsort
      clear hperm hsort hown2 hown h hb HBOX hb2
      go_loopw [10, 50] (fun out i wr2 => ClipRel2 w2 d out i wr2) (fun _ i _ => d.length - (intOf i).toNat)
      case atStart => exact ⟨0, none, 0, Nat.zero_le _, rfl, rfl, OwnIv.nil _ _, Below.refl _ _⟩
      case round =>
        rename_i wr' _ _ _ _ _
        obtain ⟨k, A3, c3, hk3, rfl, rfl, hown3, hb3⟩ := hrel
        by_cases hlt3 : k < d.length
        · obtain ⟨b, off, rfl, hbb, hc1, hc2⟩ := (hrd.below hb3).at_ hlt3
          have HS := hide (merged_take_succ d k hlt3)
          have hnm := hmn k
          have hml := norm_len hnm
          have hox := hokd d[k] (List.getElem_mem _)
          unfold Okv at hox
          generalize hms : merged (d.take k) = ms at *
          clear hms
          rcases snoc_cases ms with rfl | ⟨init, z, rfl⟩
          · have hd0 : decide ((0:Int) < 0) = false := by decide
            go_wp2
            go_quiet (fail)
            go_wp2_with (at_builtin; (refine append_iv rfl _ _ rfl w2.heap.size A3 c3 [] _ rfl rfl d[k].1 d[k].2 _ rfl _ rfl (by simp) (hown3.alloc _) (by simp) (by have := hb3.size; simp; omega) ?_)
                         intro g' c' w1 row hown1 hg' hgrow hrow)
            go_roundw
            case rel =>
              refine ⟨k + 1, some ⟨g', 0, none⟩, c', by omega, by go_num, ?_, ?_, ?_⟩
              · rw [HS.out]; rfl
              · rw [HS.out]; exact hown1
              · exact (below_drewN ((hb3.alloc hb3.size _).alloc (by have := hb3.size; simp; omega) _) _).grown hgrow (by have := hb3.size; go_simp; omega) hrow
            case measure => simp [intOf]; omega
          · obtain ⟨g, rfl, hgb, hgl, hz1, hz2, hzf⟩ := hown3.last
            have hoz := hnm.1 z (by simp)
            unfold Okv at hoz
            have e1 : (init ++ [z]).length = init.length + 1 := by simp
            have hd0 : decide ((0:Int) < init.length + 1) = true := decide_eq_true (by omega)
            by_cases hle : d[k].1 ≤ z.2 + 1
            · go_wp2
              go_quiet (fail)
              go_wp2
              go_region
              all_goals go_wp2
              go_roundw
              case rel =>
                refine ⟨k + 1, some ⟨g, 0, none⟩, c3, by omega, by go_num, ?_, ?_, ?_⟩
                · rw [HS.out, mergeStep_le init z d[k] hle]; simp
                · rw [HS.out, mergeStep_le init z d[k] hle]; exact ((hown3.alloc _).drewN _).set_last _
                · exact (below_drewN (hb3.alloc hb3.size _) _).setCell (p := ⟨g, init.length * 2 + 1, none⟩) hgb _
              case measure => simp [intOf]; omega
            · go_wp2
              go_quiet (fail)
              go_wp2_with (at_builtin; (refine append_iv rfl _ _ rfl w2.heap.size _ c3 (init ++ [z]) _ rfl (by simp) d[k].1 d[k].2 _ rfl _ rfl (by simp) (hown3.alloc _) (by omega) (by have := hb3.size; simp; omega) ?_)
                           intro g' c' w1 row hown1 hg' hgrow hrow)
              go_roundw
              case rel =>
                refine ⟨k + 1, some ⟨g', 0, none⟩, c', by omega, by go_num, ?_, ?_, ?_⟩
                · rw [HS.out, mergeStep_gt init z d[k] (by omega)]; simp
                · rw [HS.out, mergeStep_gt init z d[k] (by omega)]; exact hown1
                · exact (below_drewN ((hb3.alloc hb3.size _).alloc (by have := hb3.size; simp; omega) _) _).grown hgrow (by have := hb3.size; go_simp; omega) hrow
              case measure => simp [intOf]; omega
        · have hke : k = d.length := by omega
          subst hke
          go_wp2
          go_ret
          rw [List.take_length] at hown3 ⊢
          obtain ⟨hn1, hn2, _⟩ := merged_spec d hokd HSO.out
          refine ⟨A3, c3, merged d, rfl, hown3.lower hwr.size, hwr.trans (hb3.mono hwr.size), hn1, fun t => ?_⟩
          rw [hn2, mem_perm HP.out, ← HYS.out, clipped_mem]
          constructor
          · rintro ⟨h1, h2, h3⟩; exact ⟨by omega, by omega, h3⟩
          · rintro ⟨h1, h2, h3⟩; have := mem_bounds h3; exact ⟨by omega, by omega, h3⟩
end Go.Proofs.YtdlebcijgdkfjaaGreatDoor

/-
  Plain mathematics of the combination of two normal lists by their cuts; sorted numbers without repetitions. No program in sight.
-/
namespace Go.Proofs.YtdlebcijgdkfjaaGreatDoor

/-- membership as a test -/
def memB (xs : List Iv) (t : Int) : Bool := xs.any fun x => decide (x.1 ≤ t ∧ t ≤ x.2)
theorem memB_iff {xs : List Iv} {t : Int} : memB xs t = true ↔ ∃ x ∈ xs, x.1 ≤ t ∧ t ≤ x.2 := by simp [memB]
theorem memB_norm {xs : List Iv} (h : Norm xs) (t : Int) : memB xs t = true ↔ Mem xs t := by
  rw [memB_iff]
  constructor
  · rintro ⟨x, hx, h1, h2⟩
    have := h.1 x hx
    unfold Okv at this
    exact ⟨by omega, by omega, x, hx, h1, h2⟩
  · rintro ⟨_, _, x, hx, h1, h2⟩
    exact ⟨x, hx, h1, h2⟩

/-- membership in the set of whatever list, as a test -/
def memT (xs : List Iv) (t : Int) : Bool := decide (0 ≤ t ∧ t ≤ 1099511627776) && memB xs t
theorem memT_iff {xs : List Iv} {t : Int} : memT xs t = true ↔ Mem xs t := by
  unfold memT
  rw [Bool.and_eq_true, memB_iff, decide_eq_true_eq]
  exact ⟨fun ⟨⟨h1, h2⟩, h3⟩ => ⟨h1, h2, h3⟩, fun ⟨h1, h2, h3⟩ => ⟨⟨h1, h2⟩, h3⟩⟩
theorem memB_eq_memT {xs ys : List Iv} (h : Norm ys) (hm : ∀ t, Mem ys t ↔ Mem xs t) (t : Int) : memB ys t = memT xs t := by
  rw [Bool.eq_iff_iff, memB_norm h, hm, memT_iff]

/-- the cuts of a list -/
def cutsOf (xs : List Iv) : List Int := xs.flatMap fun x => [x.1, x.2 + 1]
theorem mem_cutsOf {xs : List Iv} {v : Int} : v ∈ cutsOf xs ↔ ∃ x ∈ xs, v = x.1 ∨ v = x.2 + 1 := by simp [cutsOf]
theorem cutsOf_length (xs : List Iv) : (cutsOf xs).length = 2 * xs.length := by
  unfold cutsOf
  induction xs with
  | nil => rfl
  | cons x xs ih => rw [List.flatMap_cons, List.length_append, ih]; simp; omega
theorem cutsOf_snoc (xs : List Iv) (x : Iv) : cutsOf (xs ++ [x]) = cutsOf xs ++ [x.1, x.2 + 1] := by simp [cutsOf]
theorem cutsOf_append (xs ys : List Iv) : cutsOf (xs ++ ys) = cutsOf xs ++ cutsOf ys := by simp [cutsOf]

/-- between two cuts membership does not change -/
theorem memB_const {xs : List Iv} {p t : Int} (hpt : p ≤ t) (h : ∀ v ∈ cutsOf xs, v ≤ p ∨ t < v) : memB xs t = memB xs p := by
  rw [Bool.eq_iff_iff, memB_iff, memB_iff]
  constructor
  · rintro ⟨x, hx, h1, h2⟩
    have := h x.1 (mem_cutsOf.2 ⟨x, hx, .inl rfl⟩)
    exact ⟨x, hx, by omega, by omega⟩
  · rintro ⟨x, hx, h1, h2⟩
    have := h (x.2 + 1) (mem_cutsOf.2 ⟨x, hx, .inr rfl⟩)
    exact ⟨x, hx, by omega, by omega⟩

/-- the index where the search in a normal list stands -/
theorem memB_at {xs : List Iv} (hn : Norm xs) {i : Nat} {t : Int} (hlo : ∀ j (hj : j < xs.length), j < i → xs[j].2 < t) (hhi : ∀ (h : i < xs.length), t ≤ xs[i].2) :
    memB xs t = true ↔ ∃ h : i < xs.length, xs[i].1 ≤ t := by
  rw [memB_iff]
  constructor
  · rintro ⟨x, hx, h1, h2⟩
    obtain ⟨j, hj, rfl⟩ := List.getElem_of_mem hx
    have hij : i ≤ j := by
      rcases Nat.lt_or_ge j i with h | h
      · have := hlo j hj h; omega
      · exact h
    have hi : i < xs.length := by omega
    refine ⟨hi, ?_⟩
    rcases Nat.lt_or_ge i j with h | h
    · have := List.pairwise_iff_getElem.1 hn.2 i j hi hj h
      have := hhi hi
      omega
    · have : i = j := by omega
      subst this
      exact h1
  · rintro ⟨hi, h⟩
    exact ⟨xs[i], List.getElem_mem _, h, hhi hi⟩

/-- strictly increasing numbers: the place of a number between two of them -/
theorem place_of {ps : List Int} {t : Int} (i j : Nat) (hj : j < ps.length) (hi : ps.getD i 0 ≤ t) (hj' : t < ps.getD j 0) (hij : i < j) : ∃ m, m + 1 < ps.length ∧ ps.getD m 0 ≤ t ∧ t < ps.getD (m + 1) 0 := by
  obtain ⟨d, rfl⟩ : ∃ d, j = i + 1 + d := ⟨j - (i + 1), by omega⟩
  induction d with
  | zero => exact ⟨i, hj, hi, hj'⟩
  | succ d ih =>
    rcases Int.lt_or_le t (ps.getD (i + 1 + d) 0) with h | h
    · exact ih (by omega) h (by omega)
    · exact ⟨i + 1 + d, by omega, h, hj'⟩

/-- the parts between the first n + 1 cuts in which the rule holds -/
def segs (rule : Bool → Bool → Bool) (a b : List Iv) (ps : List Int) (n : Nat) : List Iv :=
  ((List.range n).filter fun m => rule (memB a (ps.getD m 0)) (memB b (ps.getD m 0))).map fun m => (ps.getD m 0, ps.getD (m + 1) 0 - 1)

theorem segs_succ (rule : Bool → Bool → Bool) (a b : List Iv) (ps : List Int) (n : Nat) :
    segs rule a b ps (n + 1) = segs rule a b ps n ++ if rule (memB a (ps.getD n 0)) (memB b (ps.getD n 0)) then [(ps.getD n 0, ps.getD (n + 1) 0 - 1)] else [] := by
  unfold segs
  rw [List.range_succ, List.filter_append, List.map_append]
  congr 1
  by_cases h : rule (memB a (ps.getD n 0)) (memB b (ps.getD n 0)) = true
  · simp only [List.filter_cons, List.filter_nil]
    rw [if_pos h, if_pos h]; rfl
  · simp only [List.filter_cons, List.filter_nil]
    rw [if_neg h, if_neg h]; rfl

theorem segs_len (rule : Bool → Bool → Bool) (a b : List Iv) (ps : List Int) (n : Nat) : (segs rule a b ps n).length ≤ n := by
  unfold segs
  rw [List.length_map]
  exact Nat.le_trans (List.length_filter_le _ _) (by simp)

theorem getD_mono {ps : List Int} (h : ps.Pairwise (· < ·)) {i j : Nat} (hij : i < j) (hj : j < ps.length) : ps.getD i 0 < ps.getD j 0 := by
  have := List.pairwise_iff_getElem.1 h i j (by omega) hj hij
  simpa [List.getD_eq_getElem?_getD, List.getElem?_eq_getElem hj, List.getElem?_eq_getElem (show i < ps.length by omega)] using this

theorem getD_of_mem {ps : List Int} {v : Int} (h : v ∈ ps) : ∃ i, i < ps.length ∧ ps.getD i 0 = v := by
  obtain ⟨i, hi, rfl⟩ := List.getElem_of_mem h
  exact ⟨i, hi, by simp [List.getD_eq_getElem?_getD, List.getElem?_eq_getElem hi]⟩

theorem segs_mem (rule : Bool → Bool → Bool) (hr : rule false false = false) {a b : List Iv} (ha : Norm a) (hb : Norm b) {ps : List Int} (hp : ps.Pairwise (· < ·)) (hc : ∀ v, v ∈ ps ↔ v ∈ cutsOf (a ++ b)) (t : Int) :
    Mem (segs rule a b ps (ps.length - 1)) t ↔ rule (memB a t) (memB b t) = true := by
  have hconst : ∀ m, m + 1 < ps.length → ps.getD m 0 ≤ t → t < ps.getD (m + 1) 0 → memB a t = memB a (ps.getD m 0) ∧ memB b t = memB b (ps.getD m 0) := by
    intro m hm h1 h2
    have key : ∀ v ∈ cutsOf (a ++ b), v ≤ ps.getD m 0 ∨ t < v := by
      intro v hv
      obtain ⟨i, hi, rfl⟩ := getD_of_mem ((hc v).2 hv)
      rcases Nat.lt_trichotomy i m with h | h | h
      · exact .inl (Int.le_of_lt (getD_mono hp h (by omega)))
      · subst h; exact .inl (Int.le_refl _)
      · right
        rcases Nat.lt_or_ge (m + 1) i with h' | h'
        · exact Int.lt_trans h2 (getD_mono hp h' hi)
        · have : i = m + 1 := by omega
          subst this; exact h2
    rw [cutsOf_append] at key
    exact ⟨memB_const h1 fun v hv => key v (by simp [hv]), memB_const h1 fun v hv => key v (by simp [hv])⟩
  constructor
  · rintro ⟨_, _, x, hx, h1, h2⟩
    unfold segs at hx
    rw [List.mem_map] at hx
    obtain ⟨m, hm, rfl⟩ := hx
    rw [List.mem_filter, List.mem_range] at hm
    dsimp only at h1 h2
    obtain ⟨e1, e2⟩ := hconst m (by omega) h1 (by omega)
    rw [e1, e2]
    exact hm.2
  · intro h
    have hex : ∃ x ∈ a ++ b, x.1 ≤ t ∧ t ≤ x.2 := by
      by_cases h1 : memB a t = true
      · obtain ⟨x, hx, h2⟩ := memB_iff.1 h1
        exact ⟨x, by simp [hx], h2⟩
      · by_cases h3 : memB b t = true
        · obtain ⟨x, hx, h2⟩ := memB_iff.1 h3
          exact ⟨x, by simp [hx], h2⟩
        · simp only [Bool.not_eq_true] at h1 h3
          rw [h1, h3, hr] at h
          cases h
    obtain ⟨x, hx, h1, h2⟩ := hex
    have hox : Okv x := by
      rcases List.mem_append.1 hx with hx | hx
      · exact ha.1 x hx
      · exact hb.1 x hx
    unfold Okv at hox
    obtain ⟨i, hi, ei⟩ := getD_of_mem ((hc x.1).2 (mem_cutsOf.2 ⟨x, hx, .inl rfl⟩))
    obtain ⟨j, hj, ej⟩ := getD_of_mem ((hc (x.2 + 1)).2 (mem_cutsOf.2 ⟨x, hx, .inr rfl⟩))
    have hij : i < j := by
      rcases Nat.lt_trichotomy i j with h' | h' | h'
      · exact h'
      · rw [h'] at ei; omega
      · have := getD_mono hp h' hi; rw [ei, ej] at this; omega
    obtain ⟨m, hm, h3, h4⟩ := place_of (ps := ps) (t := t) i j hj (by omega) (by omega) hij
    obtain ⟨e1, e2⟩ := hconst m hm h3 h4
    refine ⟨by omega, by omega, (ps.getD m 0, ps.getD (m + 1) 0 - 1), ?_, h3, by dsimp only; omega⟩
    unfold segs
    rw [List.mem_map]
    exact ⟨m, by rw [List.mem_filter, List.mem_range]; exact ⟨by omega, by rw [← e1, ← e2]; exact h⟩, rfl⟩

/-! sorted numbers without repetitions -/
theorem compact_mem (zs : List Int) (v : Int) : v ∈ Lib.compact zs ↔ v ∈ zs := by
  unfold Lib.compact Lib.compactUpTo
  rw [List.mem_map]
  constructor
  · rintro ⟨j, hj, rfl⟩
    rw [List.mem_filter, List.mem_range] at hj
    have h : j < zs.toArray.size := by simpa using hj.1
    rw [getElem!_pos zs.toArray j h]
    simp
  · intro hv
    obtain ⟨j, hj, rfl⟩ := List.getElem_of_mem hv
    have hex : ∃ i, i < zs.length ∧ zs.toArray[i]! = zs[j] ∧ Lib.keeps zs.toArray i = true := by
      induction j with
      | zero => exact ⟨0, hj, by rw [getElem!_pos zs.toArray 0 (by simpa using hj)]; simp, by simp [Lib.keeps]⟩
      | succ j ih =>
        have e1 : zs.toArray[j + 1]! = zs[j + 1] := by rw [getElem!_pos zs.toArray (j + 1) (by simpa using hj)]; simp
        have e0 : zs.toArray[j]! = zs[j] := by rw [getElem!_pos zs.toArray j (by simp; omega)]; simp
        by_cases hk : zs.toArray[j + 1]! = zs.toArray[j + 1 - 1]!
        · obtain ⟨i, hi, h1, h2⟩ := ih (by omega) (List.getElem_mem _)
          refine ⟨i, hi, ?_, h2⟩
          rw [Nat.add_sub_cancel, e1, e0] at hk
          rw [h1, hk]
        · exact ⟨j + 1, hj, e1, Lib.keeps_pos hk⟩
    obtain ⟨i, hi, h1, h2⟩ := hex
    exact ⟨i, by rw [List.mem_filter, List.mem_range]; exact ⟨hi, h2⟩, h1⟩

theorem compact_sorted (zs : List Int) (h : zs.Pairwise (· ≤ ·)) : (Lib.compact zs).Pairwise (· < ·) := by
  unfold Lib.compact Lib.compactUpTo
  rw [List.pairwise_map]
  have h1 : ((List.range zs.length).filter (Lib.keeps zs.toArray)).Pairwise (· < ·) := List.Pairwise.filter _ List.pairwise_lt_range
  refine List.Pairwise.imp_of_mem ?_ h1
  intro i j hi hj hij
  rw [List.mem_filter, List.mem_range] at hi hj
  have hle := List.pairwise_iff_getElem.1 h
  have e : ∀ m (hm : m < zs.length), zs.toArray[m]! = zs[m] := fun m hm => by rw [getElem!_pos zs.toArray m (by simpa using hm)]; simp
  have hk : zs.toArray[j]! ≠ zs.toArray[j - 1]! := by
    have := hj.2
    unfold Lib.keeps at this
    simp only [decide_eq_true_eq] at this
    rcases this with h0 | h0
    · omega
    · exact h0
  rw [e j hj.1, e (j - 1) (by omega)] at hk
  have h2 := hle (j - 1) j (by omega) hj.1 (by omega)
  rw [e i hi.1, e j hj.1]
  rcases Nat.lt_or_ge i (j - 1) with h3 | h3
  · have := hle i (j - 1) hi.1 (by omega) h3
    omega
  · have : i = j - 1 := by omega
    subst this
    omega

theorem compact_le (zs : List Int) : (Lib.compact zs).length ≤ zs.length := by
  unfold Lib.compact Lib.compactUpTo
  rw [List.length_map]
  exact Nat.le_trans (List.length_filter_le _ _) (by simp)

theorem mergeSort_sorted (zs : List Int) : (zs.mergeSort fun x y => decide (x ≤ y)).Pairwise (· ≤ ·) := by
  have := List.pairwise_mergeSort (le := fun x y : Int => decide (x ≤ y)) (fun a b c h1 h2 => by simp at *; omega) (fun a b => by simp; omega) zs
  exact this.imp fun h => by simpa using h

end Go.Proofs.YtdlebcijgdkfjaaGreatDoor
