/-
  Several texts in one: Base, Segs, Ints, Two, RelC, DecS, RefDig. Each says at its head what it holds.
-/
import Derived.Test.YtaaplalfggofiaaGreatDoorProg
import Derived.Test.YtaaplalfggofiaaGreatDoorEC6
import Derived.Test.YtaaplalfggofiaaGreatDoorEC3
import Derived.WalkKit
import Derived.WalkSpells
import Derived.WalkLawsBesides
import Derived.Below
import Derived.BigQuiet
import Derived.Deep.QuietTactic
import Derived.LoopTactic
import Derived.RegionTactic
import Derived.Lib.SmallJoins
import Derived.Lib.SlicesCompact
import Derived.Lib.OwnBridge
import Derived.Test.YtaaplalfggofiaaGreatDoorShelf
import Derived.Deep.DeepCutAuto
import Derived.Deep.CutBlock
import Derived.Deep.RegionHeld3

/-
  Words for slices of intervals in memory, over the program's translation; nothing about the program's functions yet.
-/
namespace Go.Proofs.YtaaplalfggofiaaGreatDoor
open Go.RowKit

section
variable {w w' : World} {B B' : Nat} {A : Option Addr} {xs : List Iv}

end

theorem infoInt : (Tryz.prog.info? 3).map (fun i => (i.zero, i.size, i.bytes)) = some (some (.int .i64 0), 1, 8) := by kernel_rfl

section
variable {w w' : World} {base base' : Nat} {A : Option Addr} {c : Nat} {xs : List Iv}
end

theorem own_push {w wp : World} {base : Nat} {e : TypeId} {size : Nat} {v : Value} {n : Nat} {xs : List Value} {o : Obj} (h : wp.ownsRow base e size v n xs) (hw : w.heap = wp.heap.push o) : w.ownsRow base e size v n xs := by
  refine ⟨h.1, ?_⟩
  rcases h.2 with h2 | ⟨g, cap, cur, h2, h3, h4, h5⟩
  · exact .inl h2
  · refine .inr ⟨g, cap, cur, h2, h3, ?_, h5⟩
    rw [hw, Array.getElem?_push, if_neg (by have := (Array.getElem?_eq_some_iff.1 h4).1; omega)]
    exact h4
theorem cells_push {w wp : World} {cs : Array Value} {t : TypeId} (hw : w.heap = wp.heap.push (.cells cs t)) (j : Nat) : w.cell? ((⟨wp.heap.size, 0, none⟩ : Addr).add j) = cs[j]? := by
  have e : (⟨wp.heap.size, 0, none⟩ : Addr).add j = ⟨wp.heap.size, j, none⟩ := by unfold Addr.add; split <;> simp_all
  rw [e, cell_of_row w wp.heap.size j cs t (0, 0) (by rw [hw]; simp)]

theorem box_cell {w : World} {N : Nat} {v : Value} {t : TypeId} (h : w.heap[N]? = some (.cells #[v] t (0, 0))) : w.cell? ⟨N, 0, none⟩ = some v := by
  rw [cell_of_row w N 0 _ t (0, 0) h]; rfl
theorem box_frozen {w : World} {N : Nat} {v : Value} {t : TypeId} (h : w.heap[N]? = some (.cells #[v] t (0, 0))) : w.frozen? ⟨N, 0, none⟩ = false := by
  simp [World.frozen?, h]
theorem box_set1 {w : World} {N : Nat} {v u : Value} {t : TypeId} (h : w.heap[N]? = some (.cells #[v] t (0, 0))) : (w.setCell ⟨N, 0, none⟩ u).heap[N]? = some (.cells #[u] t (0, 0)) := by
  simp [World.setCell, Array.getElem?_modify, h]
end Go.Proofs.YtaaplalfggofiaaGreatDoor

/-
  Plain mathematics of the combination of two normal lists by their cuts; sorted numbers without repetitions. No program in sight.
-/
namespace Go.Proofs.YtaaplalfggofiaaGreatDoor

theorem getD_mono {ps : List Int} (h : ps.Pairwise (· < ·)) {i j : Nat} (hij : i < j) (hj : j < ps.length) : ps.getD i 0 < ps.getD j 0 := by
  have := List.pairwise_iff_getElem.1 h i j (by omega) hj hij
  simpa [List.getD_eq_getElem?_getD, List.getElem?_eq_getElem hj, List.getElem?_eq_getElem (show i < ps.length by omega)] using this

theorem getD_of_mem {ps : List Int} {v : Int} (h : v ∈ ps) : ∃ i, i < ps.length ∧ ps.getD i 0 = v := by
  obtain ⟨i, hi, rfl⟩ := List.getElem_of_mem h
  exact ⟨i, hi, by simp [List.getD_eq_getElem?_getD, List.getElem?_eq_getElem hi]⟩

/-! sorted numbers without repetitions -/
end Go.Proofs.YtaaplalfggofiaaGreatDoor

/-
  Words for slices of integers in memory.
-/
namespace Go.Proofs.YtaaplalfggofiaaGreatDoor
open Go.RowKit Go.Joins

/-- a slice of integers -/
def IntsAt (w : World) (B : Nat) (A : Option Addr) (zs : List Int) : Prop :=
  zs ≠ [] → ∃ b off, A = some ⟨b, off, none⟩ ∧ b < B ∧ ∀ i z, zs[i]? = some z → w.cell? ⟨b, off + i, none⟩ = some (.int .i64 z)
def OwnInt (w : World) (base : Nat) (A : Option Addr) (c : Nat) (zs : List Int) : Prop := w.ownsRow base 3 1 (.slice A zs.length c) zs.length (zs.map (Value.int .i64))

section
variable {w w' : World} {B B' base base' : Nat} {A : Option Addr} {c : Nat} {zs : List Int}
theorem IntsAt.nil : IntsAt w B A [] := fun h => absurd rfl h
theorem IntsAt.keep (h : IntsAt w B A zs) (hk : ∀ p : Addr, p.block < B → w'.cell? p = w.cell? p) : IntsAt w' B A zs := fun hx => by
  obtain ⟨b, off, e, hb, hc⟩ := h hx
  exact ⟨b, off, e, hb, fun i x hi => (hk _ hb).trans (hc i x hi)⟩
theorem IntsAt.below (h : IntsAt w B A zs) (hb : Below B w w') : IntsAt w' B A zs := h.keep fun _ hp => hb.cell hp
theorem IntsAt.more (h : IntsAt w B A zs) (hB : B ≤ B') : IntsAt w B' A zs := fun hx => by
  obtain ⟨b, off, e, hb, hc⟩ := h hx
  exact ⟨b, off, e, by omega, hc⟩
theorem IntsAt.drewN (h : IntsAt w B A zs) (n : Nat) : IntsAt (w.drewN n) B A zs := h
theorem IntsAt.at_ (h : IntsAt w B A zs) {k : Nat} (hk : k < zs.length) : ∃ b off, A = some ⟨b, off, none⟩ ∧ b < B ∧ w.cell? ⟨b, off + k, none⟩ = some (.int .i64 zs[k]) := by
  obtain ⟨b, off, e, hb, hc⟩ := h (fun e => by subst e; simp at hk)
  exact ⟨b, off, e, hb, hc k zs[k] (List.getElem?_eq_getElem hk)⟩
theorem OwnInt.nil (w : World) (base : Nat) : OwnInt w base none 0 [] := World.ownsRow_nil w base _ 1
theorem OwnInt.lower (h : OwnInt w base A c zs) (hb : base' ≤ base) : OwnInt w base' A c zs := Joins.ownsRow_le h hb
theorem OwnInt.alloc (h : OwnInt w base A c zs) (o : Obj) : OwnInt (w.alloc o) base A c zs := World.ownsRow.alloc h o
theorem OwnInt.drewN (h : OwnInt w base A c zs) (n : Nat) : OwnInt (w.drewN n) base A c zs := h
theorem OwnInt.below {B : Nat} (h : OwnInt w base A c zs) (hb : Below B w w') (hB : w.heap.size ≤ B) : OwnInt w' base A c zs := by
  refine ⟨h.1, ?_⟩
  rcases h.2 with h2 | ⟨g, cap, cur, h2, h3, h4, h5⟩
  · exact .inl h2
  · exact .inr ⟨g, cap, cur, h2, h3, (hb.block g (by have := (Array.getElem?_eq_some_iff.1 h4).1; omega)).trans h4, h5⟩
theorem OwnInt.form (h : OwnInt w base A c zs) : (A = none ∧ c = 0 ∧ zs = []) ∨ ∃ g, A = some ⟨g, 0, none⟩ ∧ base ≤ g ∧ g < w.heap.size ∧ zs.length ≤ c ∧ c ≤ maxLen := by
  rcases h.2 with ⟨h1, h2⟩ | ⟨g, cap, cur, h1, h2, h3, h4, h5, _⟩
  · injection h1 with h1 _ h3
    exact .inl ⟨h1, h3, List.eq_nil_of_length_eq_zero h2⟩
  · injection h1 with h1 _ h1'
    subst h1 h1'
    exact .inr ⟨g, rfl, h2, (Array.getElem?_eq_some_iff.1 h3).1, h4, h5⟩
theorem OwnInt.block (h : OwnInt w base A c zs) : ∀ k, (Value.slice A zs.length c).ownBlock = some k → base ≤ k := fun k hk => (World.ownsRow.lt h k hk).1
theorem OwnInt.ats (h : OwnInt w base A c zs) : IntsAt w w.heap.size A zs := fun hx => by
  rcases h.form with ⟨_, _, h3⟩ | ⟨g, rfl, _, h2, _, _⟩
  · exact absurd h3 hx
  · refine ⟨g, 0, rfl, h2, fun i x hi => ?_⟩
    have hlt : i < zs.length := (List.getElem?_eq_some_iff.1 hi).1
    rw [Nat.zero_add, World.ownsRow.cellAt h _ (by omega), List.getElem?_map, hi]
    rfl
theorem OwnInt.of_row {v : Value} {n : Nat} {vs : List Value} (h : w.ownsRow base 3 1 v n vs) (hn : n = zs.length) (hv : vs = zs.map (Value.int .i64)) : ∃ A c, v = .slice A zs.length c ∧ OwnInt w base A c zs := by
  subst hn hv
  rcases Joins.ownsRow_forms h with ⟨rfl, h0⟩ | ⟨g, cap, rfl⟩
  · exact ⟨none, 0, by rw [h0], by unfold OwnInt; rw [h0] at h ⊢; exact h⟩
  · exact ⟨_, cap, rfl, h⟩
end

theorem IntsAt.step {w w' : World} {A : Option Addr} {zs : List Int} (h : IntsAt w w.heap.size A zs) (hb : Below w.heap.size w w') : IntsAt w' w'.heap.size A zs := (h.below hb).more hb.size
theorem IntsAt.alloc {w : World} {A : Option Addr} {zs : List Int} (h : IntsAt w w.heap.size A zs) (o : Obj) : IntsAt (w.alloc o) (w.alloc o).heap.size A zs := h.step ((Below.refl _ _).alloc (Nat.le_refl _) _)
theorem IntsAt.drop {w : World} {B b off : Nat} {zs : List Int} (h : IntsAt w B (some ⟨b, off, none⟩) zs) (k : Nat) : IntsAt w B (some ⟨b, off + k, none⟩) (zs.drop k) := fun hne => by
  have hz : zs ≠ [] := fun e => hne (by rw [e]; simp)
  obtain ⟨b', off', e, hb, hc⟩ := h hz
  injection e with e
  injection e with e1 e2
  subst e1 e2
  refine ⟨b, off + k, rfl, hb, fun i z hi => ?_⟩
  rw [List.getElem?_drop] at hi
  rw [Nat.add_assoc]
  exact hc _ z hi
theorem IntsAt.take {w : World} {B : Nat} {A : Option Addr} {zs : List Int} (h : IntsAt w B A zs) (k : Nat) : IntsAt w B A (zs.take k) := fun hne => by
  obtain ⟨b, off, e, hb, hc⟩ := h (fun e => hne (by rw [e]; simp))
  refine ⟨b, off, e, hb, fun i z hi => ?_⟩
  rw [List.getElem?_take] at hi
  split at hi
  · exact hc _ z hi
  · cases hi

/-- 'append(out, xs...)' of integers that were laid into a block just before -/
theorem append_ints {ops : Array Oper} {rest : List Oper} {o : Oper} {a : Act} {Q : Exit → Act → World → Prop} {w : World} (hgd : o.guard = none) (s x : Operand)
    (ho : o.op = .call { callee := .builtin .append, args := #[s, x], argTypes := #[57, 57] })
    (base : Nat) (A : Option Addr) (c : Nat) (zs : List Int) (n : Nat) (hs : a.eval s = .slice A n c) (hn : n = zs.length) (news : List Int) (m cc : Nat)
    (N : Nat) (hx : a.eval x = .slice (some ⟨N, 0, none⟩) m cc) (hm : m = news.length) (hne : news ≠ []) (cs : Array Value) (wp : World) (hw : w.heap = wp.heap.push (.cells cs 3)) (hcs : cs.toList = news.map (Value.int .i64)) (hN : N = wp.heap.size)
    (hown : OwnInt wp base A c zs) (hlen : n + m ≤ 8796093022208) (hbase : base ≤ wp.heap.size)
    (h : ∀ (g c' : Nat) (w' : World) (row : Option Nat), OwnInt w' base (some ⟨g, 0, none⟩) c' (zs ++ news) → base ≤ g → w.grownBy w' row → (∀ k, row = some k → base ≤ k) →
      wpList Tryz.prog ops Q rest (a.put o.dst (.slice (some ⟨g, 0, none⟩) (n + m) c')) w') :
    wpList Tryz.prog ops Q (o :: rest) a w := by
  subst hn hm hN
  obtain ⟨i0, hi0, hz0, hz1, hz2⟩ := info_parts infoInt
  refine wpList_append_own _ hgd s x 57 ho base 3 i0 _ 1 8 Tryz.underlying57 hi0 hz0 hz1 hz2 rfl (by decide) _ zs.length (zs.map (Value.int .i64)) hs (own_push hown hw)
    ⟨wp.heap.size, 0, none⟩ news.length cc (news.map (Value.int .i64)) hx (by simp) (fun j u hu => by rw [cells_push hw, ← Array.getElem?_toList, hcs]; exact hu) (by simp [Value.oneCell']) (by simp only [maxLen]; omega) (by omega) (by rw [hw]; simp; omega) ?_
  intro v' w' ho' hg _
  obtain ⟨A', c', rfl, ho''⟩ := OwnInt.of_row (zs := zs ++ news) ho' (by simp) (by simp)
  rcases ho''.form with ⟨_, _, h3⟩ | ⟨g, rfl, h1, _⟩
  · simp [hne] at h3
  · have := h g c' w' _ ho'' h1 hg hown.block
    simpa using this

end Go.Proofs.YtaaplalfggofiaaGreatDoor

/-
  Conditions as two lists of intervals in memory: boxes, own lists, what a call leaves behind it. No function of the program is named here.
-/
namespace Go.Proofs.YtaaplalfggofiaaGreatDoor
open Go.RowKit Go.Joins

theorem two_boxes {w W0 : World} {t t' : TypeId} {a b a' b' : Value} (h : ((w.alloc (.cells #[a, b] t)).alloc (.cells #[a', b'] t')) = W0) :
    Below w.heap.size w W0 ∧ W0.heap.size = w.heap.size + 2 ∧ W0.heap[w.heap.size]? = some (.cells #[a, b] t (0, 0)) ∧ W0.heap[w.heap.size + 1]? = some (.cells #[a', b'] t' (0, 0)) := by
  subst h
  refine ⟨((Below.refl _ _).alloc (Nat.le_refl _) _).alloc (by simp) _, by simp, box_alloc (heap_alloc_new w _), ?_⟩
  have := heap_alloc_new (w.alloc (.cells #[a, b] t)) (.cells #[a', b'] t')
  simpa using this
theorem boxT2 {w : World} {N : Nat} {a b : Value} {t : TypeId} (h : w.heap[N]? = some (.cells #[a, b] t (0, 0))) : w.cell? ⟨N, 0, none⟩ = some a ∧ w.cell? ⟨N, 1, none⟩ = some b :=
  ⟨by rw [cell_of_row w N _ _ t (0, 0) h]; rfl, by rw [cell_of_row w N _ _ t (0, 0) h]; rfl⟩

theorem box2_set {w : World} {N : Nat} {a b u v : Value} {t : TypeId} (h : w.heap[N]? = some (.cells #[a, b] t (0, 0))) : ((w.setCell ⟨N, 0, none⟩ u).setCell ⟨N, 1, none⟩ v).heap[N]? = some (.cells #[u, v] t (0, 0)) := by
  simp [World.setCell, Array.getElem?_modify, h]
theorem set2_other {w : World} {N M : Nat} {o : Obj} {u v : Value} (h : w.heap[M]? = some o) (hne : M ≠ N) : ((w.setCell ⟨N, 0, none⟩ u).setCell ⟨N, 1, none⟩ v).heap[M]? = some o := by
  rw [Below.heap_setCell _ _ _ _ (by simpa using hne), Below.heap_setCell _ _ _ _ (by simpa using hne)]; exact h
/-- three boxes at the head of a call: the two conditions, and the result's -/
structure Three (w W : World) (a b a' b' : Value) : Prop where
  hb : Below w.heap.size w W
  hz : w.heap.size + 3 ≤ W.heap.size
  g0 : W.heap[w.heap.size]? = some (.cells #[a, b] 34 (0, 0))
  g1 : W.heap[w.heap.size + 1]? = some (.cells #[a', b'] 34 (0, 0))
  g2 : W.heap[w.heap.size + 2]? = some (.cells #[.slice none 0 0, .slice none 0 0] 34 (0, 0))

section
variable {w W W' : World} {a b a' b' : Value}
theorem Three.start (h : (((w.alloc (.cells #[a, b] 34)).alloc (.cells #[a', b'] 34)).alloc (.cells #[.slice none 0 0, .slice none 0 0] 34)) = W) : Three w W a b a' b' := by
  subst h
  obtain ⟨h1, h2, h3, h4⟩ := two_boxes (w := w) (a := a) (b := b) (a' := a') (b' := b') (t := 34) (t' := 34) rfl
  refine ⟨h1.alloc h1.size _, by simp, box_alloc h3, box_alloc h4, ?_⟩
  have := heap_alloc_new ((w.alloc (.cells #[a, b] 34)).alloc (.cells #[a', b'] 34)) (.cells #[.slice none 0 0, .slice none 0 0] 34)
  rw [h2] at this
  exact this
theorem Three.step (h : Three w W a b a' b') (b1 : Below W.heap.size W W') : Three w W' a b a' b' :=
  ⟨bstep h.hb b1, Nat.le_trans h.hz b1.size, box_below b1 h.g0, box_below b1 h.g1, box_below b1 h.g2⟩
theorem Three.drew (h : Three w W a b a' b') : Three w W.drew a b a' b' := ⟨below_drew h.hb, h.hz, h.g0, h.g1, h.g2⟩
theorem Three.c0 (h : Three w W a b a' b') : W.cell? ⟨w.heap.size, 0, none⟩ = some a ∧ W.cell? ⟨w.heap.size, 1, none⟩ = some b := boxT2 h.g0
theorem Three.c1 (h : Three w W a b a' b') : W.cell? ⟨w.heap.size + 1, 0, none⟩ = some a' ∧ W.cell? ⟨w.heap.size + 1, 1, none⟩ = some b' := boxT2 h.g1
theorem Three.all (h : Three w W a b a' b') : W.cell? ⟨w.heap.size, 0, none⟩ = some a ∧ W.cell? ⟨w.heap.size, 1, none⟩ = some b ∧ W.cell? ⟨w.heap.size + 1, 0, none⟩ = some a' ∧ W.cell? ⟨w.heap.size + 1, 1, none⟩ = some b' ∧ Three w W a b a' b' := ⟨h.c0.1, h.c0.2, h.c1.1, h.c1.2, h⟩
theorem Three.set0 (h : Three w W a b a' b') (u v : Value) : Three w ((W.setCell ⟨w.heap.size, 0, none⟩ u).setCell ⟨w.heap.size, 1, none⟩ v) u v a' b' :=
  ⟨(h.hb.setCell (by simp) _).setCell (by simp) _, by simpa using h.hz, box2_set h.g0, set2_other h.g1 (by omega), set2_other h.g2 (by omega)⟩
theorem Three.set1 (h : Three w W a b a' b') (u v : Value) : Three w ((W.setCell ⟨w.heap.size + 1, 0, none⟩ u).setCell ⟨w.heap.size + 1, 1, none⟩ v) a b u v :=
  ⟨(h.hb.setCell (by simp) _).setCell (by simp) _, by simpa using h.hz, set2_other h.g0 (by omega), box2_set h.g1, set2_other h.g2 (by omega)⟩
end

theorem Three.set2 {w W : World} {a b a' b' : Value} (h : Three w W a b a' b') (u v : Value) : ((W.setCell ⟨w.heap.size + 2, 0, none⟩ u).setCell ⟨w.heap.size + 2, 1, none⟩ v).cell? ⟨w.heap.size, 0, none⟩ = some a ∧ ((W.setCell ⟨w.heap.size + 2, 0, none⟩ u).setCell ⟨w.heap.size + 2, 1, none⟩ v).cell? ⟨w.heap.size, 1, none⟩ = some b ∧ ((W.setCell ⟨w.heap.size + 2, 0, none⟩ u).setCell ⟨w.heap.size + 2, 1, none⟩ v).cell? ⟨w.heap.size + 1, 0, none⟩ = some a' ∧ ((W.setCell ⟨w.heap.size + 2, 0, none⟩ u).setCell ⟨w.heap.size + 2, 1, none⟩ v).cell? ⟨w.heap.size + 1, 1, none⟩ = some b' ∧ Below w.heap.size w ((W.setCell ⟨w.heap.size + 2, 0, none⟩ u).setCell ⟨w.heap.size + 2, 1, none⟩ v) := by
  have g0 := set2_other (N := w.heap.size + 2) (u := u) (v := v) h.g0 (by omega)
  have g1 := set2_other (N := w.heap.size + 2) (u := u) (v := v) h.g1 (by omega)
  exact ⟨(boxT2 g0).1, (boxT2 g0).2, (boxT2 g1).1, (boxT2 g1).2, (h.hb.setCell (by simp) _).setCell (by simp) _⟩

end Go.Proofs.YtaaplalfggofiaaGreatDoor

/-
  condition.relation.
-/
namespace Go.Proofs.YtaaplalfggofiaaGreatDoor
open Go.RowKit

/-- whether a relation holds for the result of a comparison -/
def relC (op c : Int) : Bool := if op = 23 then decide (c < 0) else if op = 24 then decide (c ≤ 0) else if op = 25 then decide (0 < c) else decide (0 ≤ c)
end Go.Proofs.YtaaplalfggofiaaGreatDoor

/-
  Exact decimals as texts: the form of a text, its parts, canonical texts, and the comparison; plain definitions and facts, no program.
-/
namespace Go.Proofs.YtaaplalfggofiaaGreatDoor

def dgC (c : UInt8) : Bool := decide (48 ≤ c.toNat) && decide (c.toNat ≤ 57)
def zC (c : UInt8) : Bool := c == 48
def dgs (l : List UInt8) : List UInt8 := l.takeWhile dgC
def rst (l : List UInt8) : List UInt8 := l.dropWhile dgC
/-- a sign at the front -/
def sgn1 : List UInt8 → Bool × List UInt8
  | [] => (false, [])
  | c :: r => if c = 45 then (true, r) else if c = 43 then (false, r) else (false, c :: r)
/-- what a text says: sign, digits ahead of and behind the point, sign and digits of the exponent -/
structure Raw where
  neg : Bool
  whole : List UInt8
  frac : List UInt8
  down : Bool
  expo : List UInt8
def fracR : List UInt8 → Option (List UInt8 × List UInt8)
  | [] => some ([], [])
  | c :: r => if c = 46 then (if dgs r = [] then none else some (dgs r, rst r)) else some ([], c :: r)
def expR : List UInt8 → Option (Bool × List UInt8 × List UInt8)
  | [] => some (false, [], [])
  | c :: r => if c = 101 ∨ c = 69 then (if dgs (sgn1 r).2 = [] then none else some ((sgn1 r).1, dgs (sgn1 r).2, rst (sgn1 r).2)) else some (false, [], c :: r)
theorem sgn1_cons (c : UInt8) (r : List UInt8) : sgn1 (c :: r) = if c = 45 then (true, r) else if c = 43 then (false, r) else (false, c :: r) := rfl
theorem fracR_cons (c : UInt8) (r : List UInt8) : fracR (c :: r) = if c = 46 then (if dgs r = [] then none else some (dgs r, rst r)) else some ([], c :: r) := rfl
theorem expR_cons (c : UInt8) (r : List UInt8) : expR (c :: r) = if c = 101 ∨ c = 69 then (if dgs (sgn1 r).2 = [] then none else some ((sgn1 r).1, dgs (sgn1 r).2, rst (sgn1 r).2)) else some (false, [], c :: r) := rfl
def readR (s : List UInt8) : Option Raw :=
  if 64 < s.length then none
  else if dgs (sgn1 s).2 = [] then none
  else match fracR (rst (sgn1 s).2) with
    | none => none
    | some (fs, l3) => match expR l3 with
      | none => none
      | some (dn, es, l4) => if l4 = [] then some ⟨(sgn1 s).1, dgs (sgn1 s).2, fs, dn, es⟩ else none
def dv (c : UInt8) : Nat := c.toNat - 48
def clampE (C : Nat) (es : List UInt8) : Nat := es.foldl (fun e c => min C (10 * e + dv c)) 0
def expV (C : Nat) (r : Raw) : Int := if r.down then -(clampE C r.expo : Int) else (clampE C r.expo : Int)

/-- a number: its sign, its digits without zeros at the ends, the exponent of the first one -/
structure Dec where
  neg : Bool
  ds : List UInt8
  fst : Int
def dec0 : Dec := ⟨false, [], 0⟩
def rdrop (l : List UInt8) : List UInt8 := (l.reverse.dropWhile zC).reverse
def nrm (neg : Bool) (ds : List UInt8) (f : Int) : Dec :=
  if rdrop (ds.dropWhile zC) = [] then dec0 else ⟨neg, rdrop (ds.dropWhile zC), f - ((ds.length : Int) - (ds.dropWhile zC).length)⟩
def decOf (C : Nat) (r : Raw) : Dec := nrm r.neg (r.whole ++ r.frac) ((r.whole.length : Int) - 1 + expV C r)

def decN (n : Nat) : List UInt8 := if n < 10 then [UInt8.ofNat (48 + n)] else decN (n / 10) ++ [UInt8.ofNat (48 + n % 10)]
termination_by n
def decI (f : Int) : List UInt8 := if f < 0 then 45 :: decN f.natAbs else decN f.natAbs
def txt (d : Dec) : List UInt8 := match d.ds with
  | [] => [48]
  | c :: cs => (if d.neg then [45] else []) ++ (c :: ((if cs = [] then [] else 46 :: cs) ++ 101 :: decI d.fst))
/-- a number that has a text -/
def fitB (d : Dec) : Bool := d.ds.isEmpty || (decide (d.ds.length ≤ 17) && decide (-400 ≤ d.fst) && decide (d.fst ≤ 400))
def canonC (C : Nat) (s : List UInt8) : Option Dec := match readR s with
  | none => none
  | some r => if fitB (decOf C r) = true ∧ txt (decOf C r) = s then some (decOf C r) else none
theorem rdrop_snoc (l : List UInt8) (c : UInt8) : rdrop (l ++ [c]) = if c = 48 then rdrop l else l ++ [c] := by
  unfold rdrop
  rw [List.reverse_append]
  simp only [List.reverse_cons, List.reverse_nil, List.nil_append, List.singleton_append, List.dropWhile_cons]
  by_cases h : c = 48
  · simp [zC, h]
  · have : zC c = false := by simp [zC, h]
    rw [this, if_neg h]
    simp
theorem rdrop_prefix (l : List UInt8) : rdrop l <+: l := by
  unfold rdrop
  have := List.dropWhile_suffix (l := l.reverse) zC
  rw [← List.reverse_prefix] at this
  simpa using this
theorem rdrop_of_last {l : List UInt8} (h : ∀ c, l.getLast? = some c → c ≠ 48) : rdrop l = l := by
  unfold rdrop
  have : l.reverse.dropWhile zC = l.reverse := by
    cases hr : l.reverse with
    | nil => rfl
    | cons c cs =>
      have h1 := h c (by rw [← List.head?_reverse, hr]; rfl)
      rw [List.dropWhile_cons, if_neg (by simp [zC, h1])]
  rw [this, List.reverse_reverse]
theorem drop_of_head {l : List UInt8} (h : ∀ c, l.head? = some c → c ≠ 48) : l.dropWhile zC = l := by
  cases l with
  | nil => rfl
  | cons c cs => rw [List.dropWhile_cons, if_neg (by simp [zC, h c rfl])]

theorem dgs_all (l : List UInt8) : ∀ c ∈ dgs l, dgC c = true := by
  unfold dgs
  induction l with
  | nil => intro c h; cases h
  | cons a l ih =>
    intro c h
    rw [List.takeWhile_cons] at h
    split at h
    · rcases List.mem_cons.1 h with rfl | h
      · assumption
      · exact ih c h
    · cases h
/-! ## the decimal text of a small number -/
theorem decN_len (n : Nat) (h : n < 1000) : (decN n).length ≤ 3 := by
  unfold decN
  split
  · simp
  · rw [List.length_append]
    unfold decN
    split
    · simp
    · rw [List.length_append]
      unfold decN
      rw [if_pos (by omega)]
      simp
theorem clampE_snoc (C : Nat) (l : List UInt8) (c : UInt8) : clampE C (l ++ [c]) = min C (10 * clampE C l + dv c) := by
  unfold clampE
  rw [List.foldl_append]
  rfl
theorem dgs_app {l r : List UInt8} (h : ∀ c ∈ l, dgC c = true) (hr : ∀ c, r.head? = some c → dgC c = false) : dgs (l ++ r) = l ∧ rst (l ++ r) = r := by
  unfold dgs rst
  induction l with
  | nil =>
    cases r with
    | nil => exact ⟨rfl, rfl⟩
    | cons c r =>
      have := hr c rfl
      rw [List.nil_append, List.takeWhile_cons, List.dropWhile_cons, if_neg (by simp [this]), if_neg (by simp [this])]
      exact ⟨rfl, rfl⟩
  | cons a l ih =>
    have ha := h a (List.mem_cons_self ..)
    obtain ⟨h1, h2⟩ := ih fun c hc => h c (List.mem_cons_of_mem _ hc)
    rw [List.cons_append, List.takeWhile_cons, List.dropWhile_cons, if_pos ha, if_pos ha, h1, h2]
    exact ⟨rfl, rfl⟩
theorem decI_len (f : Int) (h0 : -400 ≤ f) (h1 : f ≤ 400) : (decI f).length ≤ 4 := by
  have := decN_len f.natAbs (by omega)
  unfold decI
  split
  · simp; omega
  · omega

/-! ## the comparison -/
def lexC : List UInt8 → List UInt8 → Int
  | [], [] => 0
  | [], _ :: _ => -1
  | _ :: _, [] => 1
  | x :: p, y :: q => if x < y then -1 else if y < x then 1 else lexC p q
def cmpI (a b : Int) : Int := if a < b then -1 else if b < a then 1 else 0
def sgnD (d : Dec) : Int := if d.ds = [] then 0 else if d.neg then -1 else 1
def magD (a b : Dec) : Int := if a.ds = [] ∨ b.ds = [] then cmpI a.ds.length b.ds.length else if a.fst = b.fst then lexC a.ds b.ds else cmpI a.fst b.fst
def cmpD (a b : Dec) : Int := if sgnD a = sgnD b then sgnD a * magD a b else cmpI (sgnD a) (sgnD b)
theorem dg_le {c : UInt8} (h : dgC c = true) : 48 ≤ c.toNat ∧ c.toNat ≤ 57 := by
  unfold dgC at h
  simpa using h
section
variable {a b : Dec}
end

end Go.Proofs.YtaaplalfggofiaaGreatDoor

/-
  wavestoreref03.digit, digits.
-/
namespace Go.Proofs.YtaaplalfggofiaaGreatDoor
open Go.RowKit

theorem dgs_stop {l : List UInt8} {k : Nat} (_ : k ≤ l.length) (ha : (l.take k).all dgC = true) (he : ∀ c, l[k]? = some c → dgC c = false) : dgs l = l.take k ∧ rst l = l.drop k := by
  have h := dgs_app (l := l.take k) (r := l.drop k) (by simpa [List.all_eq_true] using ha) (fun c hc => he c (by simpa [List.head?_drop] using hc))
  rw [List.take_append_drop] at h
  exact h

theorem rdigit_any (c : UInt8) (w : World) : Calls Tryz.prog 326 #[.int .u8 (c.toNat : Int)] w fun e w' => e = .returned (.bool (dgC c)) ∧ w = w' := by
  have hc := byte_lt c
  by_cases h0 : 48 ≤ c.toNat
  · by_cases h1 : c.toNat ≤ 57
    · have HK := hide (show dgC c = true by unfold dgC; simp [h0, h1])
      have T := hide (show decide ((c.toNat : Int) ≤ 57) = true from decide_eq_true (by omega))
      go_enter Tryz.func326, Tryz.ntmps326
      go_wp2_with fail
      go_ret
      exact ⟨by rw [HK.out]; exact congrArg (fun b => Ending.returned (.bool b)) T.out, rfl⟩
    · have HK := hide (show dgC c = false by unfold dgC; simp [h0, h1])
      have T := hide (show decide ((c.toNat : Int) ≤ 57) = false from decide_eq_false (by omega))
      go_enter Tryz.func326, Tryz.ntmps326
      go_wp2_with fail
      go_ret
      exact ⟨by rw [HK.out]; exact congrArg (fun b => Ending.returned (.bool b)) T.out, rfl⟩
  · have HK := hide (show dgC c = false by unfold dgC; simp [h0])
    go_enter Tryz.func326, Tryz.ntmps326
    go_wp2_with fail
    go_ret
    exact ⟨by rw [HK.out]; rfl, rfl⟩

def DgRel (l : List UInt8) (i : Value) : Prop := ∃ k : Nat, k ≤ l.length ∧ i = .int .i64 k ∧ (l.take k).all dgC = true

set_option maxRecDepth 100000 in
theorem rdigits_any (s : ByteArray) (at' : Nat) (w : World) (hs : s.size ≤ 1000) (ha : at' ≤ s.size) : Calls Tryz.prog 287 #[.string s, .int .i64 (at' : Int)] w fun e w' => e = .returned (.int .i64 ((dgs (s.data.toList.drop at')).length : Int)) ∧ w = w' := by
  have HL := hide (show (s.data.toList.drop at').length = s.size - at' by simp)
  go_enter Tryz.func287, Tryz.ntmps287
  go_wp2_with fail
  go_loop [5] (fun i => DgRel (s.data.toList.drop at') i) (fun i => s.size - (intOf i).toNat)
  case atStart => exact ⟨0, Nat.zero_le _, rfl, rfl⟩
  case round =>
    obtain ⟨k, hk, rfl, hp⟩ := hrel
    rw [HL.out] at hk
    have HP := hide hp
    clear hp
    by_cases hlt : at' + k < s.size
    · have hx : (s.data.toList.drop at')[k]? = some s[at' + k] := by
        rw [List.getElem?_drop, List.getElem?_eq_getElem (by simpa using hlt)]; rfl
      have HX := hide hx
      clear hx
      have HT := hide (show (((s.data.toList.drop at').take (k + 1)).all dgC) = (((s.data.toList.drop at').take k).all dgC && dgC s[at' + k]) by
        rw [List.take_add_one, HX.out, List.all_append]; simp)
      cases hd : dgC s[at' + k] with
      | true =>
        have HD := hide hd
        clear hd
        go_wp2_with fail
        refine (rdigit_any _ _).mono ?_
        rw [HD.out]
        rintro e w1 ⟨rfl, rfl⟩
        go_wp2_with fail
        go_round
        case rel => exact ⟨k + 1, by rw [HL.out]; omega, by go_num, by rw [HT.out, HP.out, HD.out]; rfl⟩
        case measure => simp [intOf]; omega
      | false =>
        have HS := hide (dgs_stop (l := s.data.toList.drop at') (k := k) (by rw [HL.out]; omega) HP.out (by rw [HX.out]; rintro c ⟨⟩; exact hd)).1
        have HD := hide hd
        clear hd
        go_wp2_with fail
        refine (rdigit_any _ _).mono ?_
        rw [HD.out]
        rintro e w1 ⟨rfl, rfl⟩
        go_wp2_with fail
        go_ret
        exact ⟨by rw [HS.out, List.length_take, HL.out, Nat.min_eq_left (by omega)]; rfl, rfl⟩
    · have hke : k = s.size - at' := by omega
      subst hke
      have HS := hide (dgs_stop (l := s.data.toList.drop at') (k := s.size - at') (by rw [HL.out]; omega) HP.out (by rw [List.getElem?_eq_none (by rw [HL.out]; omega)]; rintro c ⟨⟩)).1
      go_wp2_with fail
      go_ret
      exact ⟨by rw [HS.out, List.length_take, HL.out, Nat.min_eq_left (by omega)]; rfl, rfl⟩

end Go.Proofs.YtaaplalfggofiaaGreatDoor
