/-
  Words for slices of integers in memory.
-/
import Derived.Test.YtdlebcijgdkfjaaGreatDoorBase
import Derived.Test.YtdlebcijgdkfjaaGreatDoorSegs
import Derived.Lib.OwnBridge
namespace Go.Proofs.YtdlebcijgdkfjaaGreatDoor
open Go.RowKit Go.Joins

/-- a slice of integers -/
def IntsAt (w : World) (B : Nat) (A : Option Addr) (zs : List Int) : Prop :=
  zs ≠ [] → ∃ b off, A = some ⟨b, off, none⟩ ∧ b < B ∧ ∀ i z, zs[i]? = some z → w.cell? ⟨b, off + i, none⟩ = some (.int .i64 z)
def OwnInt (w : World) (base : Nat) (A : Option Addr) (c : Nat) (zs : List Int) : Prop := w.ownsRow base 3 1 (.slice A zs.length c) zs.length (zs.map (Value.int .i64))

section
variable {w w' : World} {B B' base base' : Nat} {A : Option Addr} {c : Nat} {zs : List Int}
theorem IntsAt.nil : IntsAt w B A [] := fun h => absurd rfl h
theorem IntsAt.keep (h : IntsAt w B A zs) (hk : ∀ p : Addr, p.block < B → w'.cell? p = w.cell? p) : IntsAt w' B A zs := fun hx => by
  obtain ⟨b, off, e, hb, hc⟩ := h hx
  exact ⟨b, off, e, hb, fun i x hi => (hk _ hb).trans (hc i x hi)⟩
theorem IntsAt.below (h : IntsAt w B A zs) (hb : Below B w w') : IntsAt w' B A zs := h.keep fun _ hp => hb.cell hp
theorem IntsAt.more (h : IntsAt w B A zs) (hB : B ≤ B') : IntsAt w B' A zs := fun hx => by
  obtain ⟨b, off, e, hb, hc⟩ := h hx
  exact ⟨b, off, e, by omega, hc⟩
theorem IntsAt.drewN (h : IntsAt w B A zs) (n : Nat) : IntsAt (w.drewN n) B A zs := h
theorem IntsAt.at_ (h : IntsAt w B A zs) {k : Nat} (hk : k < zs.length) : ∃ b off, A = some ⟨b, off, none⟩ ∧ b < B ∧ w.cell? ⟨b, off + k, none⟩ = some (.int .i64 zs[k]) := by
  obtain ⟨b, off, e, hb, hc⟩ := h (fun e => by subst e; simp at hk)
  exact ⟨b, off, e, hb, hc k zs[k] (List.getElem?_eq_getElem hk)⟩
theorem OwnInt.nil (w : World) (base : Nat) : OwnInt w base none 0 [] := World.ownsRow_nil w base _ 1
theorem OwnInt.lower (h : OwnInt w base A c zs) (hb : base' ≤ base) : OwnInt w base' A c zs := Joins.ownsRow_le h hb
theorem OwnInt.alloc (h : OwnInt w base A c zs) (o : Obj) : OwnInt (w.alloc o) base A c zs := World.ownsRow.alloc h o
theorem OwnInt.drewN (h : OwnInt w base A c zs) (n : Nat) : OwnInt (w.drewN n) base A c zs := h
theorem OwnInt.below {B : Nat} (h : OwnInt w base A c zs) (hb : Below B w w') (hB : w.heap.size ≤ B) : OwnInt w' base A c zs := by
  refine ⟨h.1, ?_⟩
  rcases h.2 with h2 | ⟨g, cap, cur, h2, h3, h4, h5⟩
  · exact .inl h2
  · exact .inr ⟨g, cap, cur, h2, h3, (hb.block g (by have := (Array.getElem?_eq_some_iff.1 h4).1; omega)).trans h4, h5⟩
theorem OwnInt.form (h : OwnInt w base A c zs) : (A = none ∧ c = 0 ∧ zs = []) ∨ ∃ g, A = some ⟨g, 0, none⟩ ∧ base ≤ g ∧ g < w.heap.size ∧ zs.length ≤ c ∧ c ≤ maxLen := by
  rcases h.2 with ⟨h1, h2⟩ | ⟨g, cap, cur, h1, h2, h3, h4, h5, _⟩
  · injection h1 with h1 _ h3
    exact .inl ⟨h1, h3, List.eq_nil_of_length_eq_zero h2⟩
  · injection h1 with h1 _ h1'
    subst h1 h1'
    exact .inr ⟨g, rfl, h2, (Array.getElem?_eq_some_iff.1 h3).1, h4, h5⟩
theorem OwnInt.block (h : OwnInt w base A c zs) : ∀ k, (Value.slice A zs.length c).ownBlock = some k → base ≤ k := fun k hk => (World.ownsRow.lt h k hk).1
theorem OwnInt.ats (h : OwnInt w base A c zs) : IntsAt w w.heap.size A zs := fun hx => by
  rcases h.form with ⟨_, _, h3⟩ | ⟨g, rfl, _, h2, _, _⟩
  · exact absurd h3 hx
  · refine ⟨g, 0, rfl, h2, fun i x hi => ?_⟩
    have hlt : i < zs.length := (List.getElem?_eq_some_iff.1 hi).1
    rw [Nat.zero_add, World.ownsRow.cellAt h _ (by omega), List.getElem?_map, hi]
    rfl
theorem OwnInt.of_row {v : Value} {n : Nat} {vs : List Value} (h : w.ownsRow base 3 1 v n vs) (hn : n = zs.length) (hv : vs = zs.map (Value.int .i64)) : ∃ A c, v = .slice A zs.length c ∧ OwnInt w base A c zs := by
  subst hn hv
  rcases Joins.ownsRow_forms h with ⟨rfl, h0⟩ | ⟨g, cap, rfl⟩
  · exact ⟨none, 0, by rw [h0], by unfold OwnInt; rw [h0] at h ⊢; exact h⟩
  · exact ⟨_, cap, rfl, h⟩
end

theorem IntsAt.step {w w' : World} {A : Option Addr} {zs : List Int} (h : IntsAt w w.heap.size A zs) (hb : Below w.heap.size w w') : IntsAt w' w'.heap.size A zs := (h.below hb).more hb.size
theorem IntsAt.alloc {w : World} {A : Option Addr} {zs : List Int} (h : IntsAt w w.heap.size A zs) (o : Obj) : IntsAt (w.alloc o) (w.alloc o).heap.size A zs := h.step ((Below.refl _ _).alloc (Nat.le_refl _) _)
theorem IntsAt.drop {w : World} {B b off : Nat} {zs : List Int} (h : IntsAt w B (some ⟨b, off, none⟩) zs) (k : Nat) : IntsAt w B (some ⟨b, off + k, none⟩) (zs.drop k) := fun hne => by
  have hz : zs ≠ [] := fun e => hne (by rw [e]; simp)
  obtain ⟨b', off', e, hb, hc⟩ := h hz
  injection e with e
  injection e with e1 e2
  subst e1 e2
  refine ⟨b, off + k, rfl, hb, fun i z hi => ?_⟩
  rw [List.getElem?_drop] at hi
  rw [Nat.add_assoc]
  exact hc _ z hi
theorem IntsAt.take {w : World} {B : Nat} {A : Option Addr} {zs : List Int} (h : IntsAt w B A zs) (k : Nat) : IntsAt w B A (zs.take k) := fun hne => by
  obtain ⟨b, off, e, hb, hc⟩ := h (fun e => hne (by rw [e]; simp))
  refine ⟨b, off, e, hb, fun i z hi => ?_⟩
  rw [List.getElem?_take] at hi
  split at hi
  · exact hc _ z hi
  · cases hi

/-- 'append(out, xs...)' of integers that were laid into a block just before -/
theorem append_ints {ops : Array Oper} {rest : List Oper} {o : Oper} {a : Act} {Q : Exit → Act → World → Prop} {w : World} (hgd : o.guard = none) (s x : Operand)
    (ho : o.op = .call { callee := .builtin .append, args := #[s, x], argTypes := #[85, 85] })
    (base : Nat) (A : Option Addr) (c : Nat) (zs : List Int) (n : Nat) (hs : a.eval s = .slice A n c) (hn : n = zs.length) (news : List Int) (m cc : Nat)
    (N : Nat) (hx : a.eval x = .slice (some ⟨N, 0, none⟩) m cc) (hm : m = news.length) (hne : news ≠ []) (cs : Array Value) (wp : World) (hw : w.heap = wp.heap.push (.cells cs 3)) (hcs : cs.toList = news.map (Value.int .i64)) (hN : N = wp.heap.size)
    (hown : OwnInt wp base A c zs) (hlen : n + m ≤ 8796093022208) (hbase : base ≤ wp.heap.size)
    (h : ∀ (g c' : Nat) (w' : World) (row : Option Nat), OwnInt w' base (some ⟨g, 0, none⟩) c' (zs ++ news) → base ≤ g → w.grownBy w' row → (∀ k, row = some k → base ≤ k) →
      wpList Tryz.prog ops Q rest (a.put o.dst (.slice (some ⟨g, 0, none⟩) (n + m) c')) w') :
    wpList Tryz.prog ops Q (o :: rest) a w := by
  subst hn hm hN
  obtain ⟨i0, hi0, hz0, hz1, hz2⟩ := info_parts infoInt
  refine wpList_append_own _ hgd s x 85 ho base 3 i0 _ 1 8 Tryz.underlying85 hi0 hz0 hz1 hz2 rfl (by decide) _ zs.length (zs.map (Value.int .i64)) hs (own_push hown hw)
    ⟨wp.heap.size, 0, none⟩ news.length cc (news.map (Value.int .i64)) hx (by simp) (fun j u hu => by rw [cells_push hw, ← Array.getElem?_toList, hcs]; exact hu) (by simp [Value.oneCell']) (by simp only [maxLen]; omega) (by omega) (by rw [hw]; simp; omega) ?_
  intro v' w' ho' hg _
  obtain ⟨A', c', rfl, ho''⟩ := OwnInt.of_row (zs := zs ++ news) ho' (by simp) (by simp)
  rcases ho''.form with ⟨_, _, h3⟩ | ⟨g, rfl, h1, _⟩
  · simp [hne] at h3
  · have := h g c' w' _ ho'' h1 hg hown.block
    simpa using this

/-- what a function returns that makes a list of integers of which R holds, in memory of its own -/
def RetInts (w : World) (R : List Int → Prop) (e : Ending) (w' : World) : Prop :=
  ∃ (A : Option Addr) (c : Nat) (ps : List Int), e = .returned (.slice A ps.length c) ∧ OwnInt w' w.heap.size A c ps ∧ Below w.heap.size w w' ∧ R ps

end Go.Proofs.YtdlebcijgdkfjaaGreatDoor
