/-
  Words for slices of intervals in memory, over the program's translation; nothing about the program's functions yet.
-/
import Derived.Test.YtdlebcijgdkfjaaGreatDoorProg
import Derived.Test.YtdlebcijgdkfjaaGreatDoorSets
import Derived.Test.YtdlebcijgdkfjaaGreatDoorMem
import Derived.WalkKit
import Derived.WalkSpells
import Derived.WalkLawsBesides
import Derived.Below
import Derived.BigQuiet
import Derived.Deep.QuietTactic
import Derived.LoopTactic
import Derived.RegionTactic
import Derived.Lib.SmallJoins
namespace Go.Proofs.YtdlebcijgdkfjaaGreatDoor
open Go.RowKit

def encIv (x : Iv) : List Value := [.int .i64 x.1, .int .i64 x.2]
def encIvs (xs : List Iv) : List Value := xs.flatMap encIv
theorem encIvs_length (xs : List Iv) : (encIvs xs).length = xs.length * 2 := by
  unfold encIvs
  induction xs with
  | nil => rfl
  | cons x xs ih => simp only [List.flatMap_cons, List.length_append, List.length_cons, ih, encIv]; simp; omega
theorem encIvs_snoc (xs : List Iv) (x : Iv) : encIvs (xs ++ [x]) = encIvs xs ++ [.int .i64 x.1, .int .i64 x.2] := by simp [encIvs, encIv]

/-- the slice at A (of as many elements as xs has) holds xs, below block B -/
def IvsAt (w : World) (B : Nat) (A : Option Addr) (xs : List Iv) : Prop :=
  xs ≠ [] → ∃ b off, A = some ⟨b, off, none⟩ ∧ b < B ∧ ∀ i x, xs[i]? = some x →
    w.cell? ⟨b, off + i * 2, none⟩ = some (.int .i64 x.1) ∧ w.cell? ⟨b, off + i * 2 + 1, none⟩ = some (.int .i64 x.2)

section
variable {w w' : World} {B B' : Nat} {A : Option Addr} {xs : List Iv}

theorem IvsAt.nil : IvsAt w B A [] := fun h => absurd rfl h

theorem IvsAt.keep (h : IvsAt w B A xs) (hk : ∀ p : Addr, p.block < B → w'.cell? p = w.cell? p) : IvsAt w' B A xs := fun hx => by
  obtain ⟨b, off, e, hb, hc⟩ := h hx
  exact ⟨b, off, e, hb, fun i x hi => ⟨(hk _ hb).trans (hc i x hi).1, (hk _ hb).trans (hc i x hi).2⟩⟩

theorem IvsAt.below (h : IvsAt w B A xs) (hb : Below B w w') : IvsAt w' B A xs := h.keep fun _ hp => hb.cell hp

theorem IvsAt.more (h : IvsAt w B A xs) (hB : B ≤ B') : IvsAt w B' A xs := fun hx => by
  obtain ⟨b, off, e, hb, hc⟩ := h hx
  exact ⟨b, off, e, by omega, hc⟩

theorem IvsAt.at_ (h : IvsAt w B A xs) {k : Nat} (hk : k < xs.length) : ∃ b off, A = some ⟨b, off, none⟩ ∧ b < B ∧
    w.cell? ⟨b, off + k * 2, none⟩ = some (.int .i64 xs[k].1) ∧ w.cell? ⟨b, off + k * 2 + 1, none⟩ = some (.int .i64 xs[k].2) := by
  obtain ⟨b, off, e, hb, hc⟩ := h (fun e => by subst e; simp at hk)
  have := hc k xs[k] (List.getElem?_eq_getElem hk)
  exact ⟨b, off, e, hb, this.1, this.2⟩
end

/-- a slice of intervals that the call itself has made: it owns its row, from block 'base' on -/
def OwnIv (w : World) (base : Nat) (A : Option Addr) (c : Nat) (xs : List Iv) : Prop := w.ownsRow base 69 2 (.slice A xs.length c) xs.length (encIvs xs)

theorem infoIv : (Tryz.prog.info? 69).map (fun i => (i.zero, i.size, i.bytes)) = some (some (.agg #[.int .i64 0, .int .i64 0]), 2, 16) := by kernel_rfl
theorem infoInt : (Tryz.prog.info? 3).map (fun i => (i.zero, i.size, i.bytes)) = some (some (.int .i64 0), 1, 8) := by kernel_rfl

theorem encIvs_at {xs : List Iv} {i : Nat} {x : Iv} (h : xs[i]? = some x) : (encIvs xs)[i * 2]? = some (.int .i64 x.1) ∧ (encIvs xs)[i * 2 + 1]? = some (.int .i64 x.2) := by
  induction xs generalizing i with
  | nil => simp at h
  | cons y ys ih =>
    cases i with
    | zero => simp at h; subst h; simp [encIvs, encIv]
    | succ i =>
      have := ih (i := i) (by simpa using h)
      have e1 : (i + 1) * 2 = i * 2 + 2 := by omega
      rw [e1]
      simpa [encIvs, encIv] using this

section
variable {w w' : World} {base base' : Nat} {A : Option Addr} {c : Nat} {xs : List Iv}
theorem OwnIv.nil (w : World) (base : Nat) : OwnIv w base none 0 [] := World.ownsRow_nil w base _ 2
theorem OwnIv.lower (h : OwnIv w base A c xs) (hb : base' ≤ base) : OwnIv w base' A c xs := Joins.ownsRow_le h hb
theorem OwnIv.alloc (h : OwnIv w base A c xs) (o : Obj) : OwnIv (w.alloc o) base A c xs := World.ownsRow.alloc h o
theorem OwnIv.below {B : Nat} (h : OwnIv w base A c xs) (hb : Below B w w') (hB : w.heap.size ≤ B) : OwnIv w' base A c xs := by
  refine ⟨h.1, ?_⟩
  rcases h.2 with h2 | ⟨g, cap, cur, h2, h3, h4, h5⟩
  · exact .inl h2
  · exact .inr ⟨g, cap, cur, h2, h3, (hb.block g (by have := (Array.getElem?_eq_some_iff.1 h4).1; omega)).trans h4, h5⟩
theorem OwnIv.form (h : OwnIv w base A c xs) : (A = none ∧ c = 0 ∧ xs = []) ∨ ∃ g, A = some ⟨g, 0, none⟩ ∧ base ≤ g ∧ g < w.heap.size ∧ xs.length ≤ c ∧ c ≤ maxLen := by
  rcases h.2 with ⟨h1, h2⟩ | ⟨g, cap, cur, h1, h2, h3, h4, h5, _⟩
  · injection h1 with h1 _ h3
    exact .inl ⟨h1, h3, List.eq_nil_of_length_eq_zero h2⟩
  · injection h1 with h1 _ h1'
    subst h1 h1'
    exact .inr ⟨g, rfl, h2, (Array.getElem?_eq_some_iff.1 h3).1, h4, h5⟩
theorem OwnIv.block (h : OwnIv w base A c xs) : ∀ k, (Value.slice A xs.length c).ownBlock = some k → base ≤ k := fun k hk => (World.ownsRow.lt h k hk).1
theorem OwnIv.ats (h : OwnIv w base A c xs) : IvsAt w w.heap.size A xs := fun hx => by
  rcases h.form with ⟨_, _, h3⟩ | ⟨g, rfl, _, h2, _, _⟩
  · exact absurd h3 hx
  · refine ⟨g, 0, rfl, h2, fun i x hi => ?_⟩
    have hlt : i < xs.length := (List.getElem?_eq_some_iff.1 hi).1
    obtain ⟨e1, e2⟩ := encIvs_at hi
    exact ⟨by rw [Nat.zero_add, World.ownsRow.cellAt h _ (by omega), e1], by rw [Nat.zero_add, World.ownsRow.cellAt h _ (by omega), e2]⟩
theorem OwnIv.lt_size (h : OwnIv w base A c xs) (hx : xs ≠ []) : base < w.heap.size := by
  rcases h.form with ⟨_, _, h3⟩ | ⟨g, rfl, h1, h2, _⟩
  · exact absurd h3 hx
  · omega
theorem OwnIv.of_row {v : Value} {n : Nat} {vs : List Value} (h : w.ownsRow base 69 2 v n vs) (hn : n = xs.length) (hv : vs = encIvs xs) : ∃ A c, v = .slice A xs.length c ∧ OwnIv w base A c xs := by
  subst hn hv
  rcases Joins.ownsRow_forms h with ⟨rfl, h0⟩ | ⟨g, cap, rfl⟩
  · exact ⟨none, 0, by rw [h0], by unfold OwnIv; rw [h0] at h ⊢; exact h⟩
  · exact ⟨_, cap, rfl, h⟩
end

theorem OwnIv.drewN {w : World} {base : Nat} {A : Option Addr} {c : Nat} {xs : List Iv} (h : OwnIv w base A c xs) (n : Nat) : OwnIv (w.drewN n) base A c xs := h
theorem OwnIv.drew {w : World} {base : Nat} {A : Option Addr} {c : Nat} {xs : List Iv} (h : OwnIv w base A c xs) : OwnIv w.drew base A c xs := h
theorem IvsAt.drewN {w : World} {B : Nat} {A : Option Addr} {xs : List Iv} (h : IvsAt w B A xs) (n : Nat) : IvsAt (w.drewN n) B A xs := h
theorem own_push {w wp : World} {base : Nat} {e : TypeId} {size : Nat} {v : Value} {n : Nat} {xs : List Value} {o : Obj} (h : wp.ownsRow base e size v n xs) (hw : w.heap = wp.heap.push o) : w.ownsRow base e size v n xs := by
  refine ⟨h.1, ?_⟩
  rcases h.2 with h2 | ⟨g, cap, cur, h2, h3, h4, h5⟩
  · exact .inl h2
  · refine .inr ⟨g, cap, cur, h2, h3, ?_, h5⟩
    rw [hw, Array.getElem?_push, if_neg (by have := (Array.getElem?_eq_some_iff.1 h4).1; omega)]
    exact h4
theorem cells_push {w wp : World} {cs : Array Value} {t : TypeId} (hw : w.heap = wp.heap.push (.cells cs t)) (j : Nat) : w.cell? ((⟨wp.heap.size, 0, none⟩ : Addr).add j) = cs[j]? := by
  have e : (⟨wp.heap.size, 0, none⟩ : Addr).add j = ⟨wp.heap.size, j, none⟩ := by unfold Addr.add; split <;> simp_all
  rw [e, cell_of_row w wp.heap.size j cs t (0, 0) (by rw [hw]; simp)]

/-- 'append(out, x)' of one interval, laid into a block just before -/
theorem append_iv {ops : Array Oper} {rest : List Oper} {o : Oper} {a : Act} {Q : Exit → Act → World → Prop} {w : World} (hgd : o.guard = none) (s x : Operand)
    (ho : o.op = .call { callee := .builtin .append, args := #[s, x], argTypes := #[43, 43] })
    (base : Nat) (A : Option Addr) (c : Nat) (xs : List Iv) (n : Nat) (hs : a.eval s = .slice A n c) (hn : n = xs.length) (p q : Int)
    (N : Nat) (hx : a.eval x = .slice (some ⟨N, 0, none⟩) 1 1) (wp : World) (hw : w.heap = wp.heap.push (.cells #[.int .i64 p, .int .i64 q] 69)) (hN : N = wp.heap.size)
    (hown : OwnIv wp base A c xs) (hlen : xs.length ≤ 4398046511104) (hbase : base ≤ wp.heap.size)
    (h : ∀ (g c' : Nat) (w' : World) (row : Option Nat), OwnIv w' base (some ⟨g, 0, none⟩) c' (xs ++ [(p, q)]) → base ≤ g → w.grownBy w' row → (∀ k, row = some k → base ≤ k) →
      wpList Tryz.prog ops Q rest (a.put o.dst (.slice (some ⟨g, 0, none⟩) (n + 1) c')) w') :
    wpList Tryz.prog ops Q (o :: rest) a w := by
  subst hn hN
  obtain ⟨i0, hi0, hz0, hz1, hz2⟩ := info_parts infoIv
  refine wpList_append_own _ hgd s x 43 ho base 69 i0 _ 2 16 Tryz.underlying43 hi0 hz0 hz1 hz2 rfl (by decide) _ xs.length (encIvs xs) hs (own_push hown hw)
    ⟨wp.heap.size, 0, none⟩ 1 1 [.int .i64 p, .int .i64 q] hx rfl (fun j u hu => by rw [cells_push hw]; simpa using hu) (by simp [Value.oneCell']) (by simp only [maxLen]; omega) (by omega) (by rw [hw]; simp; omega) ?_
  intro v' w' ho' hg _
  obtain ⟨A', c', rfl, ho''⟩ := OwnIv.of_row (xs := xs ++ [(p, q)]) ho' (by simp) (by rw [encIvs_snoc])
  rcases ho''.form with ⟨_, _, h3⟩ | ⟨g, rfl, h1, _⟩
  · simp at h3
  · have := h g c' w' _ ho'' h1 hg hown.block
    simpa using this

theorem OwnIv.last {w : World} {base : Nat} {A : Option Addr} {c : Nat} {init : List Iv} {z : Iv} (h : OwnIv w base A c (init ++ [z])) :
    ∃ g, A = some ⟨g, 0, none⟩ ∧ base ≤ g ∧ g < w.heap.size ∧ w.cell? ⟨g, init.length * 2, none⟩ = some (.int .i64 z.1) ∧ w.cell? ⟨g, init.length * 2 + 1, none⟩ = some (.int .i64 z.2) ∧ w.frozen? ⟨g, init.length * 2 + 1, none⟩ = false := by
  rcases h.form with ⟨_, _, h3⟩ | ⟨g, rfl, h1, h2, _, _⟩
  · simp at h3
  · obtain ⟨e1, e2⟩ := encIvs_at (xs := init ++ [z]) (i := init.length) (x := z) (by simp)
    exact ⟨g, rfl, h1, h2, by rw [World.ownsRow.cellAt h _ (by simp), e1], by rw [World.ownsRow.cellAt h _ (by simp; omega), e2], World.ownsRow.frozenAt h _⟩

theorem box_cell {w : World} {N : Nat} {v : Value} {t : TypeId} (h : w.heap[N]? = some (.cells #[v] t (0, 0))) : w.cell? ⟨N, 0, none⟩ = some v := by
  rw [cell_of_row w N 0 _ t (0, 0) h]; rfl
theorem box_frozen {w : World} {N : Nat} {v : Value} {t : TypeId} (h : w.heap[N]? = some (.cells #[v] t (0, 0))) : w.frozen? ⟨N, 0, none⟩ = false := by
  simp [World.frozen?, h]
theorem box_set1 {w : World} {N : Nat} {v u : Value} {t : TypeId} (h : w.heap[N]? = some (.cells #[v] t (0, 0))) : (w.setCell ⟨N, 0, none⟩ u).heap[N]? = some (.cells #[u] t (0, 0)) := by
  simp [World.setCell, Array.getElem?_modify, h]
theorem box_grownB {w w' : World} {N base : Nat} {o : Obj} {row : Option Nat} (h : w.heap[N]? = some o) (hg : w.grownBy w' row) (hr : ∀ k, row = some k → base ≤ k) (hN : N < base) : w'.heap[N]? = some o :=
  (hg.block N (box_lt h) (fun e => by have := hr N e.symm; omega)).trans h

theorem encIvs_set_last (init : List Iv) (p q r : Int) : (encIvs (init ++ [(p, q)])).set (init.length * 2 + 1) (.int .i64 r) = encIvs (init ++ [(p, r)]) := by
  rw [encIvs_snoc, encIvs_snoc, ← encIvs_length, List.set_append_right _ _ (by omega)]
  simp
theorem OwnIv.set_last {w : World} {base g c : Nat} {init : List Iv} {z : Iv} (h : OwnIv w base (some ⟨g, 0, none⟩) c (init ++ [z])) (r : Int) :
    OwnIv (w.setCell ⟨g, init.length * 2 + 1, none⟩ (.int .i64 r)) base (some ⟨g, 0, none⟩) c (init ++ [(z.1, r)]) := by
  have := (World.ownsRow.stored h (init.length * 2 + 1) (.int .i64 r)).1
  rw [encIvs_set_last init z.1 z.2 r] at this
  unfold OwnIv
  simpa using this

theorem IvsAt.step {w w' : World} {A : Option Addr} {xs : List Iv} (h : IvsAt w w.heap.size A xs) (hb : Below w.heap.size w w') : IvsAt w' w'.heap.size A xs := (h.below hb).more hb.size
theorem IvsAt.alloc {w : World} {A : Option Addr} {xs : List Iv} (h : IvsAt w w.heap.size A xs) (o : Obj) : IvsAt (w.alloc o) (w.alloc o).heap.size A xs := h.step ((Below.refl _ _).alloc (Nat.le_refl _) _)
/-- what a function returns that makes the normal list of the set S, in memory of its own -/
def RetIvs (w : World) (S : Int → Prop) (e : Ending) (w' : World) : Prop :=
  ∃ (A : Option Addr) (c : Nat) (ys : List Iv), e = .returned (.slice A ys.length c) ∧ OwnIv w' w.heap.size A c ys ∧ Below w.heap.size w w' ∧ Norm ys ∧ ∀ t, Mem ys t ↔ S t

end Go.Proofs.YtdlebcijgdkfjaaGreatDoor
