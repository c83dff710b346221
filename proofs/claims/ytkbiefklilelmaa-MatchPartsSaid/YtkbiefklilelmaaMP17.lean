/-
  Several texts in one: PartsM. Each says at its head what it holds.
-/
import Derived.Test.YtkbiefklilelmaaMP16
import Derived.Test.YtkbiefklilelmaaMP14
import Derived.Maps.AppendAt

/-
  MatchParts: the memory of its loops.
-/
namespace Go.Proofs.Ytkbiefklilelmaa
open Go.RowKit

/-- two lists of matches that grow, apart from one another -/
structure TwoOc (B : Nat) (W : World) (A1 : Option Addr) (c1 : Nat) (xs : List Iv) (A2 : Option Addr) (c2 : Nat) (ys : List Iv) : Prop where
  o1 : OwnOc W B A1 c1 xs
  o2 : OwnOc W B A2 c2 ys
  ap : ∀ g, ob A1 = some g → ob A2 = some g → False
theorem TwoOc.symm {B : Nat} {W : World} {A1 A2 : Option Addr} {c1 c2 : Nat} {xs ys : List Iv} (h : TwoOc B W A1 c1 xs A2 c2 ys) : TwoOc B W A2 c2 ys A1 c1 xs := ⟨h.o2, h.o1, fun g h1 h2 => h.ap g h2 h1⟩
theorem TwoOc.nil (B : Nat) (W : World) : TwoOc B W none 0 [] none 0 [] := ⟨World.ownsRow_nil _ _ _ 2, World.ownsRow_nil _ _ _ 2, fun g h => by cases h⟩
theorem TwoOc.put {B : Nat} {W w5 : World} {A1 A2 : Option Addr} {c1 c2 g c' : Nat} {xs ys : List Iv} {p : Iv} {o : Obj} (h : TwoOc B W A1 c1 xs A2 c2 ys) (hg : (W.alloc o).grownBy w5 (ob A1)) (hown : OwnOc w5 B (some ⟨g, 0, none⟩) c' (xs ++ [p])) (hat : ob A1 = some g ∨ g = W.heap.size + 1) :
    TwoOc B w5 (some ⟨g, 0, none⟩) c' (xs ++ [p]) A2 c2 ys := by
  refine ⟨hown, own_block h.o2 fun k hk => ?_, fun k hk hk2 => ?_⟩
  · have h2 := (own_ob h.o2 k hk).2
    rw [hg.block k (by simp; omega) (fun e => h.ap k e.symm hk)]
    exact Below.heap_alloc W o k h2
  · rw [ob_some] at hk
    injection hk with hk
    subst hk
    rcases hat with e | e
    · exact h.ap g e hk2
    · have := (own_ob h.o2 g hk2).2; omega
theorem OwnOc.of_row {w : World} {base n : Nat} {v : Value} {vs : List Value} {xs : List Iv} (h : w.ownsRow base 64 2 v n vs) (hn : n = xs.length) (hv : vs = encIvs xs) (h0 : 0 < n) : ∃ g c, v = .slice (some ⟨g, 0, none⟩) xs.length c ∧ OwnOc w base (some ⟨g, 0, none⟩) c xs := by
  subst hn hv
  rcases Joins.ownsRow_forms h with ⟨_, h1⟩ | ⟨g, cap, rfl⟩
  · omega
  · exact ⟨g, cap, rfl, h⟩
theorem grown_at {W : World} {A1 : Option Addr} {n c g : Nat} {v : Value} {o : Obj} (hv : v = .slice (some ⟨g, 0, none⟩) n c) (hat : v.ownBlock = ob A1 ∨ v.ownBlock = some (W.alloc o).heap.size) : ob A1 = some g ∨ g = W.heap.size + 1 := by
  subst hv
  rcases hat with e | e
  · left; rw [← e]; rfl
  · right
    simp [Value.ownBlock] at e
    exact e

theorem TwoOc.below {B : Nat} {W W' : World} {A1 A2 : Option Addr} {c1 c2 : Nat} {xs ys : List Iv} (h : TwoOc B W A1 c1 xs A2 c2 ys) (hb : Below W.heap.size W W') : TwoOc B W' A1 c1 xs A2 c2 ys :=
  ⟨own_block h.o1 fun g hg => hb.block g (own_ob h.o1 g hg).2, own_block h.o2 fun g hg => hb.block g (own_ob h.o2 g hg).2, h.ap⟩
/-- one match appended to a list of the call's own -/
theorem append_oc {ops : Array Oper} {rest : List Oper} {o : Oper} {a : Act} {Q : Exit → Act → World → Prop} {wp : World} (hgd : o.guard = none) (s x : Operand)
    (ho : o.op = .call { callee := .builtin .append, args := #[s, x], argTypes := #[54, 54] })
    (base : Nat) (A : Option Addr) (c : Nat) (xs : List Iv) (n : Nat) (hs : a.eval s = .slice A n c) (hn : n = xs.length) (p q : Int)
    (N : Nat) (hx : a.eval x = .slice (some ⟨N, 0, none⟩) 1 1) (hN : N = wp.heap.size) (hown : OwnOc wp base A c xs) (hlen : xs.length ≤ 4398046511103) (hbase : base ≤ wp.heap.size)
    (h : ∀ (g c' : Nat) (w' : World), OwnOc w' base (some ⟨g, 0, none⟩) c' (xs ++ [(p, q)]) → (wp.alloc (.cells #[.int .i64 p, .int .i64 q] 64)).grownBy w' (ob A) → (ob A = some g ∨ g = wp.heap.size + 1) →
      wpList Try.prog ops Q rest (a.put o.dst (.slice (some ⟨g, 0, none⟩) (n + 1) c')) w') :
    wpList Try.prog ops Q (o :: rest) a (wp.alloc (.cells #[.int .i64 p, .int .i64 q] 64)) := by
  subst hn hN
  obtain ⟨i0, hi0, hz0, hz1, hz2⟩ := info_parts infoOc
  refine wpList_append_own_at _ hgd s x 54 ho base 64 i0 _ 2 16 Try.underlying54 hi0 hz0 hz1 hz2 rfl (by decide) _ xs.length (encIvs xs) hs (World.ownsRow.alloc hown _)
    ⟨wp.heap.size, 0, none⟩ 1 1 [.int .i64 p, .int .i64 q] hx rfl (fun j u hu => by rw [cells_push (wp := wp) (cs := #[.int .i64 p, .int .i64 q]) (t := 64) rfl]; simpa using hu) (by simp [Value.oneCell']) (by simp only [maxLen]; omega) (by omega) (by simp; omega) ?_
  intro v' w' ho' hg _ hat
  obtain ⟨g, c', hv, ho2⟩ := OwnOc.of_row (xs := xs ++ [(p, q)]) ho' (by simp) (by rw [encIvs_snoc]) (by omega)
  have h1 := grown_at hv (by rw [ob_eq] at hat; exact hat)
  rw [hv, show (xs ++ [(p, q)]).length = xs.length + 1 by simp]
  rw [ob_eq] at hg
  exact h g c' w' ho2 hg h1
/-- one cell appended to a row of the call's own -/
theorem append_cell {ops : Array Oper} {rest : List Oper} {o : Oper} {a : Act} {Q : Exit → Act → World → Prop} {wp : World} (hgd : o.guard = none) (s x : Operand) (T E : TypeId)
    (ho : o.op = .call { callee := .builtin .append, args := #[s, x], argTypes := #[T, T] }) (hT : Try.prog.underlying T = some (.slice E)) (z : Value) (hE : (Try.prog.info? E).map (fun i => (i.zero, i.size, i.bytes)) = some (some z, 1, 24)) (hz : z.cells.size = 1)
    (base : Nat) (A : Option Addr) (c : Nat) (xs : List Value) (n : Nat) (hs : a.eval s = .slice A n c) (v : Value) (hv1 : v.oneCell' = true)
    (N : Nat) (hx : a.eval x = .slice (some ⟨N, 0, none⟩) 1 1) (hN : N = wp.heap.size) (hown : wp.ownsRow base E 1 (.slice A n c) n xs) (hlen : n ≤ 4398046511103) (hbase : base ≤ wp.heap.size)
    (h : ∀ (g c' : Nat) (w' : World), w'.ownsRow base E 1 (.slice (some ⟨g, 0, none⟩) (n + 1) c') (n + 1) (xs ++ [v]) → (wp.alloc (.cells #[v] E)).grownBy w' (ob A) → (ob A = some g ∨ g = wp.heap.size + 1) →
      wpList Try.prog ops Q rest (a.put o.dst (.slice (some ⟨g, 0, none⟩) (n + 1) c')) w') :
    wpList Try.prog ops Q (o :: rest) a (wp.alloc (.cells #[v] E)) := by
  subst hN
  obtain ⟨i0, hi0, hz0, hz1, hz2⟩ := info_parts hE
  refine wpList_append_own_at _ hgd s x T ho base E i0 _ 1 24 hT hi0 hz0 hz1 hz2 hz (by decide) _ n xs hs (World.ownsRow.alloc hown _)
    ⟨wp.heap.size, 0, none⟩ 1 1 [v] hx rfl (fun j u hu => by rw [cells_push (wp := wp) (cs := #[v]) (t := E) rfl]; simpa using hu) (by simpa using hv1) (by simp only [maxLen]; omega) (by omega) (by simp; omega) ?_
  intro v' w' ho' hg _ hat
  rcases Joins.ownsRow_forms ho' with ⟨_, h1⟩ | ⟨g, c', rfl⟩
  · omega
  · rw [ob_eq] at hg
    exact h g c' w' ho' hg (grown_at (n := 0) (c := 0) (o := .cells #[v] E) rfl (by simp only [ob_eq] at hat ⊢; exact hat))

def cutP (f l : Int) (p : Iv) : Bool := decide (f ≤ p.1) && decide (p.1 ≤ l)
/-- what the first loop has made out of so many matches -/
structure PartK (xs : List Iv) (f l by_ : Int) (k : Nat) (ps ms : List Iv) : Prop where
  part : ps = (xs.take k).filter (cutP f l)
  moved : ms = (xs.take k).map (mv by_)
theorem PartK.nil {xs : List Iv} {f l by_ : Int} : PartK xs f l by_ 0 [] [] := ⟨by simp, by simp⟩
theorem take_succ_iv {xs : List Iv} {k : Nat} (hk : k < xs.length) : xs.take (k + 1) = xs.take k ++ [xs[k]] := by simp
theorem PartK.add {xs : List Iv} {f l by_ : Int} {k : Nat} {ps ms : List Iv} {p : Iv} (h : PartK xs f l by_ k ps ms) (hk : xs[k]? = some p) (hc : cutP f l p = true) : PartK xs f l by_ (k + 1) (ps ++ [p]) (ms ++ [mv by_ p]) := by
  obtain ⟨hl, rfl⟩ := List.getElem?_eq_some_iff.1 hk
  exact ⟨by rw [take_succ_iv hl, List.filter_append, ← h.part]; simp [hc], by rw [take_succ_iv hl, List.map_append, ← h.moved]; rfl⟩
theorem PartK.skip {xs : List Iv} {f l by_ : Int} {k : Nat} {ps ms : List Iv} {p : Iv} (h : PartK xs f l by_ k ps ms) (hk : xs[k]? = some p) (hc : cutP f l p = false) : PartK xs f l by_ (k + 1) ps (ms ++ [mv by_ p]) := by
  obtain ⟨hl, rfl⟩ := List.getElem?_eq_some_iff.1 hk
  exact ⟨by rw [take_succ_iv hl, List.filter_append, ← h.part]; simp [hc], by rw [take_succ_iv hl, List.map_append, ← h.moved]; rfl⟩
theorem PartK.len {xs : List Iv} {f l by_ : Int} {k : Nat} {ps ms : List Iv} (h : PartK xs f l by_ k ps ms) : ps.length ≤ xs.length ∧ ms.length ≤ xs.length := by
  rw [h.part, h.moved, List.length_map]
  have h1 := List.length_filter_le (cutP f l) (xs.take k)
  have h2 := List.length_take_le' k xs
  omega
theorem PartK.done {xs : List Iv} {f l by_ : Int} {ps ms : List Iv} (h : PartK xs f l by_ xs.length ps ms) : ps = xs.filter (cutP f l) ∧ ms = xs.map (mv by_) := by
  have h1 := h.part
  have h2 := h.moved
  rw [List.take_length] at h1 h2
  exact ⟨h1, h2⟩
def PartRel (xs : List Iv) (f l by_ : Int) (W : World) (part moved i : Value) (wr : World) : Prop :=
  ∃ (k : Nat) (A1 A2 : Option Addr) (c1 c2 : Nat) (ps ms : List Iv), k ≤ xs.length ∧ i = .int .i64 k ∧ part = .slice A1 ps.length c1 ∧ moved = .slice A2 ms.length c2 ∧ TwoOc W.heap.size wr A1 c1 ps A2 c2 ms ∧ PartK xs f l by_ k ps ms ∧ Below W.heap.size W wr

/-- the inner loop over the times of an event: so many have been moved, all of them up to the end -/
structure TimK (l : List Int) (en by_ : Int) (j : Nat) (zs : List Int) : Prop where
  le : ∀ t ∈ l.take j, t ≤ en
  eq : zs = (l.take j).map (· + by_)
theorem TimK.nil {l : List Int} {en by_ : Int} : TimK l en by_ 0 [] := ⟨by simp, by simp⟩
theorem TimK.add {l : List Int} {en by_ : Int} {j : Nat} {zs : List Int} {t : Int} (h : TimK l en by_ j zs) (hj : l[j]? = some t) (ht : t ≤ en) : TimK l en by_ (j + 1) (zs ++ [t + by_]) := by
  obtain ⟨hl, rfl⟩ := List.getElem?_eq_some_iff.1 hj
  have e : l.take (j + 1) = l.take j ++ [l[j]] := by simp
  refine ⟨fun u hu => ?_, by rw [e, List.map_append, ← h.eq]; rfl⟩
  rw [e] at hu
  rcases List.mem_append.1 hu with hu | hu
  · exact h.le u hu
  · rw [List.mem_singleton.1 hu]; exact ht
theorem takeWhile_take {l : List Int} {en : Int} {j : Nat} (h : ∀ t ∈ l.take j, t ≤ en) (hn : ∀ t, l[j]? = some t → en < t) : l.takeWhile (fun t => decide (t ≤ en)) = l.take j := by
  induction l generalizing j with
  | nil => simp
  | cons x xs ih =>
    cases j with
    | zero =>
      have := hn x (by simp)
      rw [List.takeWhile_cons_of_neg (by simp; omega)]
      rfl
    | succ j =>
      have h1 := h x (by simp)
      rw [List.takeWhile_cons_of_pos (by simpa using h1), List.take_succ_cons, ih (j := j) (fun t ht => h t (List.mem_cons_of_mem _ ht)) (fun t ht => hn t (by simpa using ht))]
theorem TimK.stop {l : List Int} {en by_ : Int} {j : Nat} {zs : List Int} {t : Int} (h : TimK l en by_ j zs) (hj : l[j]? = some t) (ht : en < t) : zs = cutE en by_ l := by
  unfold cutE
  rw [takeWhile_take h.le (fun u hu => by rw [hj] at hu; injection hu with hu; omega), h.eq]
theorem TimK.done {l : List Int} {en by_ : Int} {zs : List Int} (h : TimK l en by_ l.length zs) : zs = cutE en by_ l := by
  unfold cutE
  rw [takeWhile_take h.le (fun u hu => by rw [List.getElem?_eq_none (Nat.le_refl _)] at hu; cases hu), h.eq]
theorem TimK.len {l : List Int} {en by_ : Int} {j : Nat} {zs : List Int} (h : TimK l en by_ j zs) : zs.length ≤ l.length := by
  rw [h.eq, List.length_map]; exact List.length_take_le' j l
def TimRel (l : List Int) (en by_ : Int) (W : World) (k i : Value) (wr : World) : Prop :=
  ∃ (j : Nat) (A : Option Addr) (c : Nat) (zs : List Int), j ≤ l.length ∧ i = .int .i64 j ∧ k = .slice A zs.length c ∧ OwnInt wr W.heap.size A c zs ∧ TimK l en by_ j zs ∧ Below W.heap.size W wr

/-- a list of lists that the call makes -/
structure RowsI (B : Nat) (W : World) (A : Option Addr) (c : Nat) (ls : List SlI) : Prop where
  own : W.ownsRow B 36 1 (.slice A ls.length c) ls.length (ls.flatMap cSlI)
  each : ∀ s ∈ ls, OwnInt W B s.A s.c s.xs
structure RowsV (B : Nat) (W : World) (A : Option Addr) (c : Nat) (ls : List SlV) : Prop where
  own : W.ownsRow B 22 1 (.slice A ls.length c) ls.length (ls.flatMap cSlV)
  each : ∀ s ∈ ls, OwnIv W B s.A s.c s.xs
theorem typesII : 36 ≠ 3 := by decide
theorem infoSlI : (Try.prog.info? 36).map (fun i => (i.zero, i.size, i.bytes)) = some (some (.slice none 0 0), 1, 24) := by kernel_rfl
theorem RowsI.nil (B : Nat) (W : World) : RowsI B W none 0 [] := ⟨World.ownsRow_nil _ _ _ 1, fun s hs => by simp at hs⟩
theorem RowsV.nil (B : Nat) (W : World) : RowsV B W none 0 [] := ⟨World.ownsRow_nil _ _ _ 1, fun s hs => by simp at hs⟩
theorem RowsI.put {B : Nat} {wr w4 w5 : World} {A A1 A5 : Option Addr} {c c1 c5 : Nat} {ls : List SlI} {ys : List Int} {o : Obj} (h : RowsI B wr A c ls) (hB : B ≤ wr.heap.size) (hon : OwnInt w4 wr.heap.size A1 c1 ys) (hb4 : Below wr.heap.size wr w4)
    (ho5 : w5.ownsRow B 36 1 (.slice A5 (ls.length + 1) c5) (ls.length + 1) (ls.flatMap cSlI ++ [.slice A1 ys.length c1])) (hg5 : (w4.alloc o).grownBy w5 (ob A)) : RowsI B w5 A5 c5 (ls ++ [⟨A1, c1, ys⟩]) := by
  have h45 : ∀ g, g < w4.heap.size → ob A ≠ some g → w5.heap[g]? = w4.heap[g]? := fun g hg hne => by
    have h1 := hg5.block g (by simp; omega) (fun e => hne e.symm)
    rw [h1]; exact Below.heap_alloc w4 _ g hg
  have hz4 := hb4.size
  refine ⟨by simpa [cSlI] using ho5, fun s hs => ?_⟩
  rcases List.mem_append.1 hs with hs | hs
  · have h0 := h.each s hs
    refine own_block (own_block (w' := w4) h0 fun g hg => ?_) fun g hg => ?_
    · exact hb4.block g (own_ob h0 g hg).2
    · exact h45 g (by have := (own_ob h0 g hg).2; omega) (rows_apart h.own h0 typesII g hg)
  · have hs : s = ⟨A1, c1, ys⟩ := by simpa using hs
    subst hs
    refine OwnInt.lower (base := wr.heap.size) ?_ hB
    exact own_block (w' := w5) hon fun g hg => h45 g (own_ob hon g hg).2 (fun e => by have := (own_ob h.own g e).2; have := (own_ob hon g hg).1; omega)
theorem RowsV.put {B : Nat} {wr w4 w5 : World} {A A1 A5 : Option Addr} {c c1 c5 : Nat} {ls : List SlV} {ys : List Iv} {o : Obj} (h : RowsV B wr A c ls) (hB : B ≤ wr.heap.size) (hon : OwnIv w4 wr.heap.size A1 c1 ys) (hb4 : Below wr.heap.size wr w4)
    (ho5 : w5.ownsRow B 22 1 (.slice A5 (ls.length + 1) c5) (ls.length + 1) (ls.flatMap cSlV ++ [.slice A1 ys.length c1])) (hg5 : (w4.alloc o).grownBy w5 (ob A)) : RowsV B w5 A5 c5 (ls ++ [⟨A1, c1, ys⟩]) := by
  have h45 : ∀ g, g < w4.heap.size → ob A ≠ some g → w5.heap[g]? = w4.heap[g]? := fun g hg hne => by
    have h1 := hg5.block g (by simp; omega) (fun e => hne e.symm)
    rw [h1]; exact Below.heap_alloc w4 _ g hg
  have hz4 := hb4.size
  refine ⟨by simpa [cSlV] using ho5, fun s hs => ?_⟩
  rcases List.mem_append.1 hs with hs | hs
  · have h0 := h.each s hs
    refine own_block (own_block (w' := w4) h0 fun g hg => ?_) fun g hg => ?_
    · exact hb4.block g (own_ob h0 g hg).2
    · exact h45 g (by have := (own_ob h0 g hg).2; omega) (rows_apart h.own h0 typesSI g hg)
  · have hs : s = ⟨A1, c1, ys⟩ := by simpa using hs
    subst hs
    refine OwnIv.lower (base := wr.heap.size) ?_ hB
    exact own_block (w' := w5) hon fun g hg => h45 g (own_ob hon g hg).2 (fun e => by have := (own_ob h.own g e).2; have := (own_ob hon g hg).1; omega)
theorem grown_below {B : Nat} {W wr w4 w5 : World} {A : Option Addr} {o : Obj} (hb : Below B W wr) (hBw : B ≤ wr.heap.size) (hb4 : Below wr.heap.size wr w4) (hg5 : (w4.alloc o).grownBy w5 (ob A)) (hA : ∀ g, ob A = some g → B ≤ g) : Below B W w5 := by
  have := hb4.size
  exact ((hb.trans (hb4.mono hBw)).alloc (by omega) _).grown hg5 (by simp; omega) hA
theorem RowsI.ev {B : Nat} {W : World} {A : Option Addr} {c : Nat} {ls : List SlI} (h : RowsI B W A c ls) : EvAt W A ls := by
  refine ⟨fun hx => ?_, fun s hs => (h.each s hs).ats⟩
  obtain ⟨g, e, h1, h2⟩ := own_place h.own (List.length_pos_iff.2 hx)
  refine ⟨g, 0, e, h2, fun i x hi j hj => ?_⟩
  have hlt := (List.getElem?_eq_some_iff.1 hi).1
  have h0 : j = 0 := by omega
  subst h0
  subst e
  rw [show 0 + i * 1 + 0 = i by omega, World.ownsRow.cellAt h.own i (by omega)]
  exact flat1_at (f := fun s : SlI => Value.slice s.A s.xs.length s.c) hi
/-- the events moved -/
structure EvK (ev : List SlI) (en by_ : Int) (k : Nat) (ls : List SlI) : Prop where
  eq : ls.map SlI.xs = (ev.take k).map fun s => cutE en by_ s.xs
  len : ls.length = k
theorem EvK.nil {ev : List SlI} {en by_ : Int} : EvK ev en by_ 0 [] := ⟨by simp, rfl⟩
theorem EvK.add {ev : List SlI} {en by_ : Int} {k : Nat} {ls : List SlI} {s s' : SlI} (h : EvK ev en by_ k ls) (hk : ev[k]? = some s) (hs : s'.xs = cutE en by_ s.xs) : EvK ev en by_ (k + 1) (ls ++ [s']) := by
  obtain ⟨hl, rfl⟩ := List.getElem?_eq_some_iff.1 hk
  have e : ev.take (k + 1) = ev.take k ++ [ev[k]] := by simp
  exact ⟨by rw [e, List.map_append, List.map_append, h.eq]; simp [hs], by simp [h.len]⟩
def LatRel (ev : List SlI) (en by_ : Int) (W : World) (later i : Value) (wr : World) : Prop :=
  ∃ (k : Nat) (A : Option Addr) (c : Nat) (ls : List SlI), k ≤ ev.length ∧ i = .int .i64 k ∧ later = .slice A ls.length c ∧ RowsI W.heap.size wr A c ls ∧ EvK ev en by_ k ls ∧ Below W.heap.size W wr
/-- the conditions moved -/
structure CsK (cs : List SlV) (by_ : Int) (k : Nat) (ls : List SlV) : Prop where
  len : ls.length = k
  eq : ∀ (j : Nat) (s s' : SlV), cs[j]? = some s → ls[j]? = some s' → Norm s'.xs ∧ ∀ t, Mem s'.xs t ↔ shiftS (Mem s.xs) by_ 0 3000 t
theorem CsK.nil {cs : List SlV} {by_ : Int} : CsK cs by_ 0 [] := ⟨rfl, fun j s s' _ h => by simp at h⟩
theorem CsK.add {cs : List SlV} {by_ : Int} {k : Nat} {ls : List SlV} {s s' : SlV} (h : CsK cs by_ k ls) (hk : cs[k]? = some s) (hs : Norm s'.xs ∧ ∀ t, Mem s'.xs t ↔ shiftS (Mem s.xs) by_ 0 3000 t) : CsK cs by_ (k + 1) (ls ++ [s']) := by
  refine ⟨by simp [h.len], fun j t t' h1 h2 => ?_⟩
  rcases Nat.lt_or_ge j ls.length with h3 | h3
  · rw [List.getElem?_append_left h3] at h2; exact h.eq j t t' h1 h2
  · have hj := (List.getElem?_eq_some_iff.1 h2).1
    simp at hj
    have hl := h.len
    have : j = k := by omega
    subst this
    rw [List.getElem?_append_right h3, show j - ls.length = 0 by omega] at h2
    injection h2 with h2
    rw [hk] at h1
    injection h1 with h1
    subst h1 h2
    exact hs
def SetRel (cs : List SlV) (by_ : Int) (W : World) (sets i : Value) (wr : World) : Prop :=
  ∃ (k : Nat) (A : Option Addr) (c : Nat) (ls : List SlV), k ≤ cs.length ∧ i = .int .i64 k ∧ sets = .slice A ls.length c ∧ RowsV W.heap.size wr A c ls ∧ CsK cs by_ k ls ∧ Below W.heap.size W wr

/-- the moved input is checked as the first one was -/
theorem prep_moved {a : Aut} {ev ls : List SlI} {cs : List SlV} {n : Nat} {f t en by_ : Int} (hp : PrepOk a ev cs.length f t en) (hl : EvK ev en by_ ev.length ls) (hn : n = cs.length) (h0 : 0 ≤ by_) (h1 : by_ ≤ 1000) (he : en ≤ 1000) : PrepOk a ls n (f + by_) (t + by_) (en + by_) := by
  obtain ⟨hb, hi⟩ := hp
  refine ⟨?_, fun s hs => ?_⟩
  · unfold prepB at hb ⊢
    rw [Bool.and_eq_true, decide_eq_true_iff] at hb ⊢
    have := hl.len
    refine ⟨hb.1, ?_⟩
    omega
  · have h2 : s.xs ∈ ls.map SlI.xs := List.mem_map.2 ⟨s, hs, rfl⟩
    rw [hl.eq, List.take_length] at h2
    obtain ⟨s', hs', e⟩ := List.mem_map.1 h2
    rw [← e]
    exact incr_cutE (hi s' hs') h0 h1 he
theorem prep_part {a : Aut} {ev : List SlI} {n : Nat} {f t g l en : Int} (hp : PrepOk a ev n f t en) (h0 : f ≤ g) (h1 : g ≤ l) (h2 : l ≤ t) : PrepOk a ev n g l en := by
  obtain ⟨hb, hi⟩ := hp
  refine ⟨?_, hi⟩
  unfold prepB at hb ⊢
  rw [Bool.and_eq_true, decide_eq_true_iff] at hb ⊢
  refine ⟨hb.1, ?_⟩
  omega
theorem parts_moved {a : Aut} {ev ls : List SlI} {cs cs' : List SlV} {f t en by_ : Int} (hp : PrepOk a ev cs.length f t en) (hl : EvK ev en by_ ev.length ls) (hc : CsK cs by_ cs.length cs') (h0 : 0 ≤ by_) (h1 : by_ ≤ 1000) (he : en ≤ 1000) : MovedI (inpOf a ev cs) (inpOf a ls cs') en by_ := by
  refine moved_of (by have := hl.eq; rwa [List.take_length] at this) hp.2 hc.len fun k s s' h2 h3 t' h4 h5 => ?_
  rw [(hc.eq k s s' h2 h3).2]
  unfold shiftS Time
  rw [dlyB_iff, Int.add_sub_cancel]
  constructor
  · intro hm; exact ⟨⟨by omega, by omega, by omega⟩, by omega, by omega, by omega, hm⟩
  · intro hm; exact hm.2.2.2.2
theorem ev_few {ev ls : List SlI} {en by_ : Int} (hl : EvK ev en by_ ev.length ls) (h : ∀ s ∈ ev, s.xs.length ≤ 24) : ls.length = ev.length ∧ ∀ s ∈ ls, s.xs.length ≤ 24 := by
  refine ⟨hl.len, fun s hs => ?_⟩
  have h2 : s.xs ∈ ls.map SlI.xs := List.mem_map.2 ⟨s, hs, rfl⟩
  rw [hl.eq, List.take_length] at h2
  obtain ⟨s', hs', e⟩ := List.mem_map.1 h2
  rw [← e]
  have := cutE_len en by_ s'.xs
  have := h s' hs'
  omega
theorem cs_few {cs cs' : List SlV} {by_ : Int} (hc : CsK cs by_ cs.length cs') : cs'.length = cs.length ∧ ∀ s ∈ cs', s.xs.length ≤ 1000000000000 := by
  refine ⟨hc.len, fun s hs => ?_⟩
  obtain ⟨k, hk⟩ := List.getElem?_of_mem hs
  have hlt := (List.getElem?_eq_some_iff.1 hk).1
  rw [hc.len] at hlt
  have := norm_len (hc.eq k _ s (List.getElem?_eq_getElem hlt) hk).1
  omega
/-- what Run answers, in one form, with its refusal -/
def RunR (a : Aut) (ev : List SlI) (cs : List SlV) (f t en : Int) (w : World) (e : Ending) (w' : World) : Prop :=
  ∃ (A : Option Addr) (c : Nat) (xs : List Iv) (er : Int), e = .returned (.tuple #[.slice A xs.length c, .int .i64 er]) ∧ IvsAt w' w'.heap.size A xs ∧ xs.length ≤ 960 ∧ Below w.heap.size w w' ∧ ((er = 1 ∧ ¬ PrepOk a ev cs.length f t en) ∨ (er = 0 ∧ PrepOk a ev cs.length f t en ∧ IsRun (inpOf a ev cs) f t en xs))
theorem RunPost.r {a : Aut} {ev : List SlI} {cs : List SlV} {f t en : Int} {w w' : World} {e : Ending} (h : RunPost a ev cs f t en w e w') : RunR a ev cs f t en w e w' := by
  obtain ⟨hb, ⟨hn, rfl⟩ | ⟨hp, A, c, xs, rfl, ho, hl, hr⟩⟩ := h
  · exact ⟨none, 0, [], 1, rfl, fun hx => absurd rfl hx, by simp, hb, .inl ⟨rfl, hn⟩⟩
  · exact ⟨A, c, xs, 0, rfl, OwnOc.ats ho, hl, hb, .inr ⟨rfl, hp, hr⟩⟩
/-- the times of a match lie in the range that was searched -/
theorem run_times {a : Aut} {ev : List SlI} {cs : List SlV} {f t en : Int} {xs : List Iv} (hp : PrepOk a ev cs.length f t en) (hr : IsRun (inpOf a ev cs) f t en xs) : ∀ p ∈ xs, f ≤ p.1 ∧ p.1 ≤ t ∧ p.1 ≤ p.2 ∧ p.2 ≤ en := fun p hm => by
  obtain ⟨⟨h1, h2, _⟩, ⟨s, h3, _⟩, _⟩ := (hr.2 p).1 hm
  have hb := hp.1
  unfold prepB at hb
  rw [Bool.and_eq_true, decide_eq_true_iff] at hb
  have hlow : ∀ e ∈ (inpOf a ev cs).edges, 0 ≤ e.low := fun e he => ((valid_edge hb.1).2.1 e he).l0
  have h4 := h3.time hlow
  have h5 := h3.end_ (by omega)
  exact ⟨h1, h2, h4, h5⟩

end Go.Proofs.Ytkbiefklilelmaa
