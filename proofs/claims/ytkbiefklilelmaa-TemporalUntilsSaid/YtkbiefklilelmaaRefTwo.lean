/-
  wavestoreref52.Sets: two sets out of two lists of results.
-/
import Derived.Test.YtkbiefklilelmaaRefSome
import Derived.Maps.AppendAt
namespace Go.Proofs.Ytkbiefklilelmaa
open Go.RowKit Go.Joins

/-- the block that a slice of intervals owns -/
def ob (A : Option Addr) (n c : Nat) : Option Nat := (Value.slice A n c).ownBlock
theorem ob_len (A : Option Addr) (n m c d : Nat) : ob A n c = ob A m d := by cases A <;> rfl
def ApartB (A B : Option Addr) : Prop := ob A 0 0 = none ∨ ob A 0 0 ≠ ob B 0 0

theorem append_iv_at {ops : Array Oper} {rest : List Oper} {o : Oper} {a : Act} {Q : Exit → Act → World → Prop} {w : World} (hgd : o.guard = none) (s x : Operand)
    (ho : o.op = .call { callee := .builtin .append, args := #[s, x], argTypes := #[22, 22] })
    (base : Nat) (A : Option Addr) (c : Nat) (xs : List Iv) (n : Nat) (hs : a.eval s = .slice A n c) (hn : n = xs.length) (p q : Int)
    (N : Nat) (hx : a.eval x = .slice (some ⟨N, 0, none⟩) 1 1) (wp : World) (hw : w.heap = wp.heap.push (.cells #[.int .i64 p, .int .i64 q] 42)) (hN : N = wp.heap.size)
    (hown : OwnIv wp base A c xs) (hlen : xs.length ≤ 4398046511104) (hbase : base ≤ wp.heap.size)
    (h : ∀ (g c' : Nat) (w' : World), OwnIv w' base (some ⟨g, 0, none⟩) c' (xs ++ [(p, q)]) → base ≤ g → w.grownBy w' (ob A 0 0) → (ob (some ⟨g, 0, none⟩) 0 0 = ob A 0 0 ∨ ob (some ⟨g, 0, none⟩) 0 0 = some w.heap.size) → (∀ k, ob A 0 0 = some k → base ≤ k) →
      wpList Try.prog ops Q rest (a.put o.dst (.slice (some ⟨g, 0, none⟩) (n + 1) c')) w') :
    wpList Try.prog ops Q (o :: rest) a w := by
  subst hn hN
  obtain ⟨i0, hi0, hz0, hz1, hz2⟩ := info_parts infoIv
  refine wpList_append_own_at _ hgd s x 22 ho base 42 i0 _ 2 16 Try.underlying22 hi0 hz0 hz1 hz2 rfl (by decide) _ xs.length (encIvs xs) hs (own_push hown hw)
    ⟨wp.heap.size, 0, none⟩ 1 1 [.int .i64 p, .int .i64 q] hx rfl (fun j u hu => by rw [cells_push hw]; simpa using hu) (by simp [Value.oneCell']) (by simp only [maxLen]; omega) (by omega) (by rw [hw]; simp; omega) ?_
  intro v' w' ho' hg _ hblk
  obtain ⟨A', c', rfl, ho''⟩ := OwnIv.of_row (xs := xs ++ [(p, q)]) ho' (by simp) (by rw [encIvs_snoc])
  rcases ho''.form with ⟨_, _, h3⟩ | ⟨g, rfl, h1, _⟩
  · simp at h3
  · have e1 : (Value.slice A xs.length c).ownBlock = ob A 0 0 := ob_len A _ _ _ _
    rw [e1] at hg hblk
    have e2 : (Value.slice (some ⟨g, 0, none⟩) (xs ++ [(p, q)]).length c').ownBlock = ob (some ⟨g, 0, none⟩) 0 0 := ob_len _ _ _ _ _
    rw [e2] at hblk
    have := h g c' w' ho'' h1 hg hblk (fun k hk => hown.block k (e1.trans hk))
    simpa using this

/-- another list of intervals, in a block of its own, is left alone -/
theorem own_other {w w' : World} {b c : Nat} {A A' : Option Addr} {ys : List Iv} (h : OwnIv w b A c ys) (hap : ApartB A A') (hg : w.grownBy w' (ob A' 0 0)) : OwnIv w' b A c ys := by
  refine World.ownsRow.kept h hg ?_
  rw [show (Value.slice A ys.length c).ownBlock = ob A 0 0 from ob_len A _ _ _ _]
  exact hap
/-- a condition's box is left alone -/
theorem box_other {w w' : World} {b c N : Nat} {A : Option Addr} {ys : List Iv} {cs : Array Value} (hb : w.heap[N]? = some (.cells cs 24 (0, 0))) (h : OwnIv w b A c ys) (hg : w.grownBy w' (ob A 0 0)) : w'.heap[N]? = some (.cells cs 24 (0, 0)) := by
  refine (hg.block N (box_lt hb) ?_).trans hb
  rcases h.2 with ⟨h1, _⟩ | ⟨g, cap, cur, h1, _, hgb, _⟩
  · rw [← ob_len A ys.length 0 c 0]
    unfold ob
    rw [h1]; simp [Value.ownBlock]
  · rw [← ob_len A ys.length 0 c 0]
    unfold ob
    rw [h1]
    intro e'
    have e2 : N = g := by simpa [Value.ownBlock] using e'
    subst e2
    rw [hb] at hgb
    injection hgb with hgb
    injection hgb with _ hgb
    exact absurd hgb (by decide)
theorem ob_lt {w : World} {b c : Nat} {A : Option Addr} {ys : List Iv} (h : OwnIv w b A c ys) (g : Nat) (hg : ob A 0 0 = some g) : g < w.heap.size := by
  rw [ob_len A 0 ys.length 0 c] at hg
  rcases h.2 with ⟨h1, _⟩ | ⟨g', cap, cur, h1, _, hgb, _⟩
  · unfold ob at hg; rw [h1] at hg; simp [Value.ownBlock] at hg
  · unfold ob at hg; rw [h1] at hg
    have : g' = g := by simpa [Value.ownBlock] using hg
    subst this
    exact box_lt hgb
theorem apart_new {w : World} {b c g : Nat} {A A' : Option Addr} {ys : List Iv} (h : OwnIv w b A c ys) (hap : ApartB A A') (hg : ob (some ⟨g, 0, none⟩) 0 0 = ob A' 0 0 ∨ ob (some ⟨g, 0, none⟩) 0 0 = some w.heap.size) : ApartB A (some ⟨g, 0, none⟩) := by
  rcases hg with hg | hg
  · rcases hap with h1 | h1
    · exact .inl h1
    · exact .inr (by rw [hg]; exact h1)
  · cases ho : ob A 0 0 with
    | none => exact .inl ho
    | some k =>
      refine .inr ?_
      rw [hg, ho]
      have := ob_lt h k ho
      intro e
      injection e with e
      omega
theorem ApartB.symm {A B : Option Addr} (h : ApartB A B) : ApartB B A := by
  unfold ApartB at *
  cases hb : ob B 0 0 with
  | none => exact .inl rfl
  | some k =>
    refine .inr fun e => ?_
    rcases h with h | h
    · rw [h] at e; cases e
    · exact h (by rw [← e, hb])

/-- the times whose results are v, of the first k -/
def pick (hs : List Int) (v lo : Int) (k : Nat) : List Iv := ((List.range k).filter fun (i : Nat) => decide (hs.getD i 5 = v)).map fun (i : Nat) => (lo + (i : Int), lo + (i : Int))
theorem pick_yes {hs : List Int} {v lo : Int} {k : Nat} (h : hs.getD k 5 = v) : pick hs v lo (k + 1) = pick hs v lo k ++ [(lo + (k : Int), lo + (k : Int))] := by
  unfold pick; rw [List.range_succ, List.filter_append, List.map_append]; simp only [List.filter_cons, h, decide_true, if_true, List.filter_nil, List.map_cons, List.map_nil]
theorem pick_no {hs : List Int} {v lo : Int} {k : Nat} (h : ¬ hs.getD k 5 = v) : pick hs v lo (k + 1) = pick hs v lo k := by
  unfold pick; rw [List.range_succ, List.filter_append, List.map_append]; simp only [List.filter_cons, h, decide_false, Bool.false_eq_true, if_false, List.filter_nil, List.map_nil, List.append_nil]
theorem pick_len (hs : List Int) (v lo : Int) (k : Nat) : (pick hs v lo k).length ≤ k := by
  unfold pick; rw [List.length_map]; exact Nat.le_trans (List.length_filter_le _ _) (by simp)
theorem pick_mem (hs : List Int) (v lo : Int) (k : Nat) (h0 : 0 ≤ lo) (h1 : lo + k ≤ 1099511627777) (t : Int) : Mem (pick hs v lo k) t ↔ ∃ i : Nat, i < k ∧ t = lo + i ∧ hs.getD i 5 = v := by
  unfold Mem pick
  simp only [List.mem_map, List.mem_filter, List.mem_range, decide_eq_true_eq]
  constructor
  · rintro ⟨_, _, x, ⟨i, ⟨hi, hv⟩, rfl⟩, h2, h3⟩
    exact ⟨i, hi, by simp only at h2 h3; omega, hv⟩
  · rintro ⟨i, hi, rfl, hv⟩
    exact ⟨by omega, by omega, _, ⟨i, ⟨hi, hv⟩, rfl⟩, Int.le_refl _, Int.le_refl _⟩

def SetsRel (w : World) (hs ls : List Int) (lo : Int) (i : Value) (wr : World) : Prop :=
  ∃ (k : Nat) (A1 : Option Addr) (c1 : Nat) (A2 : Option Addr) (c2 : Nat), k ≤ hs.length ∧ i = .int .i64 k ∧
    wr.heap[w.heap.size + 1]? = some (.cells #[.slice A1 (pick hs 2 lo k).length c1, .slice A2 (pick ls 0 lo k).length c2] 24 (0, 0)) ∧ wr.heap[w.heap.size]? = some (.cells #[.slice none 0 0, .slice none 0 0] 24 (0, 0)) ∧
    OwnIv wr (w.heap.size + 2) A1 c1 (pick hs 2 lo k) ∧ OwnIv wr (w.heap.size + 2) A2 c2 (pick ls 0 lo k) ∧ ApartB A1 A2 ∧ Below w.heap.size w wr

/-- the state inside a round: the boxes, the two lists -/
structure SetsAt (w W : World) (M : Nat) (p : Int) (A1 : Option Addr) (c1 : Nat) (xs : List Iv) (A2 : Option Addr) (c2 : Nat) (ys : List Iv) : Prop where
  gb : W.heap[w.heap.size + 1]? = some (.cells #[.slice A1 xs.length c1, .slice A2 ys.length c2] 24 (0, 0))
  gn : W.heap[w.heap.size]? = some (.cells #[.slice none 0 0, .slice none 0 0] 24 (0, 0))
  gt : W.heap[M]? = some (.cells #[.int .i64 p, .int .i64 p] 42 (0, 0))
  m1 : ob A1 0 0 ≠ some M
  m2 : ob A2 0 0 ≠ some M
  o1 : OwnIv W (w.heap.size + 2) A1 c1 xs
  o2 : OwnIv W (w.heap.size + 2) A2 c2 ys
  ap : ApartB A1 A2
  hb : Below w.heap.size w W

theorem sets_start {w W : World} {p : Int} {A1 A2 : Option Addr} {c1 c2 : Nat} {xs ys : List Iv} (gb : W.heap[w.heap.size + 1]? = some (.cells #[.slice A1 xs.length c1, .slice A2 ys.length c2] 24 (0, 0)))
    (gn : W.heap[w.heap.size]? = some (.cells #[.slice none 0 0, .slice none 0 0] 24 (0, 0))) (o1 : OwnIv W (w.heap.size + 2) A1 c1 xs) (o2 : OwnIv W (w.heap.size + 2) A2 c2 ys) (ap : ApartB A1 A2) (hb : Below w.heap.size w W) :
    SetsAt w (W.alloc (.cells #[.int .i64 p, .int .i64 p] 42)) W.heap.size p A1 c1 xs A2 c2 ys :=
  ⟨box_alloc gb, box_alloc gn, heap_alloc_new W _, fun e => absurd (ob_lt o1 _ e) (Nat.lt_irrefl _), fun e => absurd (ob_lt o2 _ e) (Nat.lt_irrefl _), o1.alloc _, o2.alloc _, ap, hb.alloc hb.size _⟩

theorem set_zero {w : World} {N : Nat} {a b u : Value} {t : TypeId} (h : w.heap[N]? = some (.cells #[a, b] t (0, 0))) : (w.setCell ⟨N, 0, none⟩ u).heap[N]? = some (.cells #[u, b] t (0, 0)) := by simp [World.setCell, Array.getElem?_modify, h]
theorem set_one {w : World} {N : Nat} {a b u : Value} {t : TypeId} (h : w.heap[N]? = some (.cells #[a, b] t (0, 0))) : (w.setCell ⟨N, 1, none⟩ u).heap[N]? = some (.cells #[a, u] t (0, 0)) := by simp [World.setCell, Array.getElem?_modify, h]
theorem set_other {w : World} {N M j : Nat} {o : Obj} {u : Value} (h : w.heap[M]? = some o) (hne : M ≠ N) : (w.setCell ⟨N, j, none⟩ u).heap[M]? = some o := by
  rw [Below.heap_setCell _ _ _ _ (by simpa using hne)]; exact h

section
variable {w W w5 : World} {M g c' : Nat} {p : Int} {A1 A2 : Option Addr} {c1 c2 : Nat} {xs ys : List Iv} {o : Obj}
theorem SetsAt.lt (h : SetsAt w W M p A1 c1 xs A2 c2 ys) : w.heap.size + 2 ≤ W.heap.size := box_lt h.gb
theorem SetsAt.ne (h : SetsAt w W M p A1 c1 xs A2 c2 ys) : M ≠ w.heap.size + 1 := by
  intro e
  have h1 := h.gt
  rw [e, h.gb] at h1
  injection h1 with h1
  injection h1 with _ h1
  exact absurd h1 (by decide)
theorem SetsAt.put1 (h : SetsAt w W M p A1 c1 xs A2 c2 ys) (hg : (W.alloc o).grownBy w5 (ob A1 0 0)) (hown : OwnIv w5 (w.heap.size + 2) (some ⟨g, 0, none⟩) c' (xs ++ [(p, p)]))
    (hblk0 : ob (some ⟨g, 0, none⟩) 0 0 = ob A1 0 0 ∨ ob (some ⟨g, 0, none⟩) 0 0 = some (W.heap.size + 1)) (hrow : ∀ k, ob A1 0 0 = some k → w.heap.size + 2 ≤ k) :
    w5.heap[w.heap.size + 1]? = some (.cells #[.slice A1 xs.length c1, .slice A2 ys.length c2] 24 (0, 0)) ∧
    SetsAt w (w5.setCell ⟨w.heap.size + 1, 0, none⟩ (.slice (some ⟨g, 0, none⟩) (xs.length + 1) c')) M p (some ⟨g, 0, none⟩) c' (xs ++ [(p, p)]) A2 c2 ys := by
  have hblk : ob (some ⟨g, 0, none⟩) 0 0 = ob A1 0 0 ∨ ob (some ⟨g, 0, none⟩) 0 0 = some (W.alloc o).heap.size := by rw [World.size_alloc]; exact hblk0
  have gb5 := box_other (box_alloc (o' := o) h.gb) (h.o1.alloc o) hg
  have gn5 := box_other (box_alloc (o' := o) h.gn) (h.o1.alloc o) hg
  have gt5 := (hg.block M (box_lt (box_alloc (o' := o) h.gt)) (fun e => h.m1 e.symm)).trans (box_alloc (o' := o) h.gt)
  have hM : M < W.heap.size := box_lt h.gt
  refine ⟨gb5, ⟨?_, set_other gn5 (by omega), set_other gt5 h.ne, ?_, h.m2, own_set gb5 hown, own_set gb5 (own_other (h.o2.alloc o) h.ap.symm hg), (apart_new (h.o2.alloc o) h.ap.symm hblk).symm, ?_⟩⟩
  · have := set_zero (u := .slice (some ⟨g, 0, none⟩) (xs.length + 1) c') gb5
    simpa using this
  · rcases hblk with e | e
    · rw [e]; exact h.m1
    · rw [e]; intro e2; injection e2 with e2; simp at e2; omega
  · exact ((h.hb.alloc h.hb.size o).grown hg (by have := h.hb.size; simp; omega) (fun k hk => by have := hrow k hk; omega)).setCell (by simp) _
theorem SetsAt.put2 (h : SetsAt w W M p A1 c1 xs A2 c2 ys) (hg : (W.alloc o).grownBy w5 (ob A2 0 0)) (hown : OwnIv w5 (w.heap.size + 2) (some ⟨g, 0, none⟩) c' (ys ++ [(p, p)]))
    (hblk0 : ob (some ⟨g, 0, none⟩) 0 0 = ob A2 0 0 ∨ ob (some ⟨g, 0, none⟩) 0 0 = some (W.heap.size + 1)) (hrow : ∀ k, ob A2 0 0 = some k → w.heap.size + 2 ≤ k) :
    w5.heap[w.heap.size + 1]? = some (.cells #[.slice A1 xs.length c1, .slice A2 ys.length c2] 24 (0, 0)) ∧
    SetsAt w (w5.setCell ⟨w.heap.size + 1, 1, none⟩ (.slice (some ⟨g, 0, none⟩) (ys.length + 1) c')) M p A1 c1 xs (some ⟨g, 0, none⟩) c' (ys ++ [(p, p)]) := by
  have hblk : ob (some ⟨g, 0, none⟩) 0 0 = ob A2 0 0 ∨ ob (some ⟨g, 0, none⟩) 0 0 = some (W.alloc o).heap.size := by rw [World.size_alloc]; exact hblk0
  have gb5 := box_other (box_alloc (o' := o) h.gb) (h.o2.alloc o) hg
  have gn5 := box_other (box_alloc (o' := o) h.gn) (h.o2.alloc o) hg
  have gt5 := (hg.block M (box_lt (box_alloc (o' := o) h.gt)) (fun e => h.m2 e.symm)).trans (box_alloc (o' := o) h.gt)
  have hM : M < W.heap.size := box_lt h.gt
  refine ⟨gb5, ⟨?_, set_other gn5 (by omega), set_other gt5 h.ne, h.m1, ?_, own_set gb5 (own_other (h.o1.alloc o) h.ap hg), own_set gb5 hown, apart_new (h.o1.alloc o) h.ap hblk, ?_⟩⟩
  · have := set_one (u := .slice (some ⟨g, 0, none⟩) (ys.length + 1) c') gb5
    simpa using this
  · rcases hblk with e | e
    · rw [e]; exact h.m2
    · rw [e]; intro e2; injection e2 with e2; simp at e2; omega
  · exact ((h.hb.alloc h.hb.size o).grown hg (by have := h.hb.size; simp; omega) (fun k hk => by have := hrow k hk; omega)).setCell (by simp) _
end

end Go.Proofs.Ytkbiefklilelmaa
