/-
  Several texts in one: Arr, LenL, MatchM. Each says at its head what it holds.
-/
import Derived.Test.YtgobkbjkndfliaaGreatDoorAP10
import Derived.Test.YtgobkbjkndfliaaGreatDoorAP4
import Derived.OwnWalk
import Derived.Test.YtgobkbjkndfliaaGreatDoorAP8
import Derived.Test.YtgobkbjkndfliaaGreatDoorAP7

/-
  Blocks that hold a list of ints or of bools, made by make and written cell by cell.
-/
namespace Go.Proofs.YtgobkbjkndfliaaGreatDoor
open Go.RowKit

def ArI (w : World) (g : Nat) (xs : List Int) : Prop := w.heap[g]? = some (.cells (xs.map (Value.int .i64)).toArray 3 (0, 0))
def ArB (w : World) (g : Nat) (xs : List Bool) : Prop := w.heap[g]? = some (.cells (xs.map Value.bool).toArray 4 (0, 0))
section
variable {w w' : World} {g g' k : Nat} {v : Value}
theorem ArI.lt {xs : List Int} (h : ArI w g xs) : g < w.heap.size := box_lt h
theorem ArB.lt {xs : List Bool} (h : ArB w g xs) : g < w.heap.size := box_lt h
theorem ArI.cell {xs : List Int} (h : ArI w g xs) {x : Int} (hk : xs[k]? = some x) : w.cell? ⟨g, k, none⟩ = some (.int .i64 x) := by
  rw [cell_of_row w g k _ _ (0, 0) h]
  simp [hk]
theorem ArB.cell {xs : List Bool} (h : ArB w g xs) {x : Bool} (hk : xs[k]? = some x) : w.cell? ⟨g, k, none⟩ = some (.bool x) := by
  rw [cell_of_row w g k _ _ (0, 0) h]
  simp [hk]
theorem ArI.froz {xs : List Int} (h : ArI w g xs) : w.frozen? ⟨g, k, none⟩ = false := by unfold ArI at h; simp [World.frozen?, h]
theorem ArB.froz {xs : List Bool} (h : ArB w g xs) : w.frozen? ⟨g, k, none⟩ = false := by unfold ArB at h; simp [World.frozen?, h]
theorem ArI.set {xs : List Int} (h : ArI w g xs) (x : Int) : ArI (w.setCell ⟨g, k, none⟩ (.int .i64 x)) g (xs.set k x) := by
  unfold ArI at *
  simp [World.setCell, Array.getElem?_modify, h, List.map_set]
theorem ArB.set {xs : List Bool} (h : ArB w g xs) (x : Bool) : ArB (w.setCell ⟨g, k, none⟩ (.bool x)) g (xs.set k x) := by
  unfold ArB at *
  simp [World.setCell, Array.getElem?_modify, h, List.map_set]
theorem ArI.other {xs : List Int} (h : ArI w g xs) (hne : g ≠ g') : ArI (w.setCell ⟨g', k, none⟩ v) g xs := (Below.heap_setCell _ _ _ _ hne).trans h
theorem ArB.other {xs : List Bool} (h : ArB w g xs) (hne : g ≠ g') : ArB (w.setCell ⟨g', k, none⟩ v) g xs := (Below.heap_setCell _ _ _ _ hne).trans h
theorem ArI.below {xs : List Int} (h : ArI w g xs) (hb : Below w.heap.size w w') : ArI w' g xs := (hb.block g h.lt).trans h
theorem ArB.below {xs : List Bool} (h : ArB w g xs) (hb : Below w.heap.size w w') : ArB w' g xs := (hb.block g h.lt).trans h
theorem made_list (z : Value) (n : Nat) : (madeCells #[z] n).toList = List.replicate n z := by
  refine List.ext_getElem (by simp [madeCells]) fun i h1 h2 => ?_
  simp [madeCells, Nat.mod_one]
theorem ArI.made {B n : Nat} (h : w.ownsRow B 3 1 (.slice (some ⟨g, 0, none⟩) n n) n (madeCells #[.int .i64 0] n).toList) : ArI w g (List.replicate n 0) := by
  rw [made_list] at h
  rcases h.2 with ⟨h2, _⟩ | ⟨g', cap, cur, h2, _, h4, _, _, h7, h8⟩
  · cases h2
  · injection h2 with h2 _ h3
    injection h2 with h2
    injection h2 with h2
    subst h2 h3
    have : cur.toList = List.replicate n (.int .i64 0) := by rw [← h8, List.take_of_length_le (by simp [h7])]
    unfold ArI
    rw [h4, List.map_replicate, ← this]
theorem ArB.made {B n : Nat} (h : w.ownsRow B 4 1 (.slice (some ⟨g, 0, none⟩) n n) n (madeCells #[.bool false] n).toList) : ArB w g (List.replicate n false) := by
  rw [made_list] at h
  rcases h.2 with ⟨h2, _⟩ | ⟨g', cap, cur, h2, _, h4, _, _, h7, h8⟩
  · cases h2
  · injection h2 with h2 _ h3
    injection h2 with h2
    injection h2 with h2
    subst h2 h3
    have : cur.toList = List.replicate n (.bool false) := by rw [← h8, List.take_of_length_le (by simp [h7])]
    unfold ArB
    rw [h4, List.map_replicate, ← this]
end

/-- three such blocks, apart from one another -/
structure Tri (w : World) (gl gm gk : Nat) (ls ms : List Int) (ks : List Bool) : Prop where
  l : ArI w gl ls
  m : ArI w gm ms
  k : ArB w gk ks
  nlm : gl ≠ gm
  nlk : gl ≠ gk
  nmk : gm ≠ gk
section
variable {w w' : World} {gl gm gk i : Nat} {ls ms : List Int} {ks : List Bool}
theorem Tri.below (h : Tri w gl gm gk ls ms ks) (hb : Below w.heap.size w w') : Tri w' gl gm gk ls ms ks := ⟨h.l.below hb, h.m.below hb, h.k.below hb, h.nlm, h.nlk, h.nmk⟩
theorem Tri.setL (h : Tri w gl gm gk ls ms ks) (x : Int) : Tri (w.setCell ⟨gl, i, none⟩ (.int .i64 x)) gl gm gk (ls.set i x) ms ks := ⟨h.l.set x, h.m.other (fun e => h.nlm e.symm), h.k.other (fun e => h.nlk e.symm), h.nlm, h.nlk, h.nmk⟩
theorem Tri.setM (h : Tri w gl gm gk ls ms ks) (x : Int) : Tri (w.setCell ⟨gm, i, none⟩ (.int .i64 x)) gl gm gk ls (ms.set i x) ks := ⟨h.l.other h.nlm, h.m.set x, h.k.other (fun e => h.nmk e.symm), h.nlm, h.nlk, h.nmk⟩
theorem Tri.setK (h : Tri w gl gm gk ls ms ks) (x : Bool) : Tri (w.setCell ⟨gk, i, none⟩ (.bool x)) gl gm gk ls ms (ks.set i x) := ⟨h.l.other h.nlk, h.m.other h.nmk, h.k.set x, h.nlm, h.nlk, h.nmk⟩
end

end Go.Proofs.YtgobkbjkndfliaaGreatDoor

/-
  automaton.Length and its reference: what their three blocks hold, in plain words.
-/
namespace Go.Proofs.YtgobkbjkndfliaaGreatDoor

theorem dur_bound {Sl Sh : Int → Prop} {lo hi B : Int} {b : Bool} (d : Dur Sl Sh lo hi b) (hB : 0 ≤ B) (hl : ∀ c, Sl c → 0 ≤ c ∧ c ≤ B) (hh : ∀ c, Sh c → 0 ≤ c ∧ c ≤ B) : 0 ≤ lo ∧ lo ≤ B ∧ 0 ≤ hi ∧ hi ≤ B := by
  cases b with
  | true =>
    have h1 := hl _ (d.1 rfl).1.1
    have h2 := hh _ (d.1 rfl).2.1
    exact ⟨h1.1, h1.2, h2.1, h2.2⟩
  | false =>
    have h := d.2 rfl
    exact ⟨by omega, by omega, by omega, by omega⟩
theorem back_bound {E : List Edg} {fin : List Bool} {f : Edg → Int} (h : Costs E fin.length f) (hn : fin.length ≤ 33) {s c : Int} (hs : 0 ≤ s) (hb : BackS E fin f s c) : 0 ≤ c ∧ c ≤ 36283883716608 := by
  obtain ⟨t, h1, h2⟩ := hb
  have h3 := h.way h2
  have h4 := finT_in h1
  have h5 : (t - s) * 1099511627776 ≤ 33 * 1099511627776 := Int.mul_le_mul_of_nonneg_right (by omega) (by omega)
  omega
theorem backI_bound {E : List Edg} {fin : List Bool} {f : Edg → Int} (h : Costs E fin.length f) (hn : fin.length ≤ 33) {s c : Int} {i : Nat} (hb : BackI E fin f s i c) : 0 ≤ c ∧ c ≤ 37383395344384 := by
  rcases hb with ⟨_, rfl⟩ | ⟨j, e, c', h1, h2, h3, h4, rfl⟩
  · omega
  · have h5 := h.st e (List.mem_of_getElem? h2)
    have h6 := h.c e (List.mem_of_getElem? h2)
    have h7 := back_bound h hn (by omega) h4
    omega
theorem way_bound {E : List Edg} {n : Nat} {f : Edg → Int} (h : Costs E n f) (hn : n ≤ 33) {s c : Int} (hs : s < (n : Int)) (hb : Way E f 0 s c) : 0 ≤ c ∧ c ≤ 36283883716608 := by
  have h3 := h.way hb
  have h5 : (s - 0) * 1099511627776 ≤ 33 * 1099511627776 := Int.mul_le_mul_of_nonneg_right (by omega) (by omega)
  omega
theorem fwdI_bound {E : List Edg} {n : Nat} {f : Edg → Int} (h : Costs E n f) (hn : n ≤ 33) {s c : Int} {i : Nat} (hb : FwdI E f s i c) : 0 ≤ c ∧ c ≤ 37383395344384 := by
  rcases hb with ⟨_, rfl⟩ | ⟨j, e, c', h1, h2, h3, h4, rfl⟩
  · omega
  · have h5 := h.st e (List.mem_of_getElem? h2)
    have h6 := h.c e (List.mem_of_getElem? h2)
    have h7 := way_bound h hn (by omega) h4
    omega

/-- at a place of the three lists: the least and the greatest of two sets -/
def DurAt (Sl Sh : Int → Prop) (ls ms : List Int) (ks : List Bool) (j : Nat) : Prop := ∃ lo hi b, ls[j]? = some lo ∧ ms[j]? = some hi ∧ ks[j]? = some b ∧ Dur Sl Sh lo hi b
def ZeroAt (ls ms : List Int) (ks : List Bool) (j : Nat) : Prop := ls[j]? = some 0 ∧ ms[j]? = some 0 ∧ ks[j]? = some false
section
variable {Sl Sh Sl' Sh' : Int → Prop} {ls ms : List Int} {ks : List Bool} {j s : Nat} {x y : Int} {b : Bool}
theorem DurAt.congr (h : DurAt Sl Sh ls ms ks j) (h1 : ∀ c, Sl c ↔ Sl' c) (h2 : ∀ c, Sh c ↔ Sh' c) : DurAt Sl' Sh' ls ms ks j := by
  obtain ⟨lo, hi, b, e1, e2, e3, d⟩ := h
  exact ⟨lo, hi, b, e1, e2, e3, d.congr h1 h2⟩
theorem set_ne {α : Type} {l : List α} {v : α} (h : j ≠ s) : (l.set s v)[j]? = l[j]? := List.getElem?_set_ne (fun e => h e.symm)
theorem set_eq {α : Type} {l : List α} {v : α} (h : s < l.length) : (l.set s v)[s]? = some v := by rw [List.getElem?_set_self h]
theorem DurAt.other (h : DurAt Sl Sh ls ms ks j) (hne : j ≠ s) : DurAt Sl Sh (ls.set s x) (ms.set s y) (ks.set s b) j := by
  obtain ⟨lo, hi, b, e1, e2, e3, d⟩ := h
  exact ⟨lo, hi, b, by rw [set_ne hne]; exact e1, by rw [set_ne hne]; exact e2, by rw [set_ne hne]; exact e3, d⟩
theorem ZeroAt.other (h : ZeroAt ls ms ks j) (hne : j ≠ s) : ZeroAt (ls.set s x) (ms.set s y) (ks.set s b) j := ⟨by rw [set_ne hne]; exact h.1, by rw [set_ne hne]; exact h.2.1, by rw [set_ne hne]; exact h.2.2⟩
theorem DurAt.here (h1 : s < ls.length) (h2 : s < ms.length) (h3 : s < ks.length) (d : Dur Sl Sh x y b) : DurAt Sl Sh (ls.set s x) (ms.set s y) (ks.set s b) s := ⟨x, y, b, set_eq h1, set_eq h2, set_eq h3, d⟩
end
/-- a cell that keeps what it holds -/
theorem set_same {α : Type} {l : List α} {s : Nat} {v : α} (h : l[s]? = some v) : l.set s v = l := by
  obtain ⟨h1, rfl⟩ := List.getElem?_eq_some_iff.1 h
  exact List.set_getElem_self h1

/-- the first state of a way backwards: final, or not -/
theorem back_start {E : List Edg} {fin : List Bool} {s : Nat} {b : Bool} (hf : fin.getD s false = b) : Dur (BackI E fin Edg.low (s : Int) 0) (BackI E fin Edg.high (s : Int) 0) 0 0 b := by
  have key : ∀ (f : Edg → Int) (c : Int), BackI E fin f (s : Int) 0 c ↔ b = true ∧ c = 0 := fun f c => by
    rw [BackI.zero]
    unfold FinT
    rw [Int.toNat_natCast, hf]
  refine ⟨fun e => ⟨⟨(key _ _).2 ⟨e, rfl⟩, fun t ht => by have := ((key _ _).1 ht).2; omega⟩, ⟨(key _ _).2 ⟨e, rfl⟩, fun t ht => by have := ((key _ _).1 ht).2; omega⟩⟩, fun e => ⟨rfl, rfl, fun c h => ?_, fun c h => ?_⟩⟩
  · have := ((key _ _).1 h).1; rw [e] at this; cases this
  · have := ((key _ _).1 h).1; rw [e] at this; cases this
theorem back_skip {E : List Edg} {fin : List Bool} {f : Edg → Int} {s : Int} {i : Nat} {e : Edg} (he : E[i]? = some e) (h : e.from_ ≠ s ∨ ∀ c, ¬ BackS E fin f e.to_ c) (c : Int) : BackI E fin f s i c ↔ BackI E fin f s (i + 1) c := by
  rw [BackI.succ he]
  refine ⟨.inl, fun hh => hh.elim id fun ⟨h1, c', h2, _⟩ => ?_⟩
  rcases h with h | h
  · exact absurd h1 h
  · exact absurd h2 (h c')
theorem fwd_skip {E : List Edg} {f : Edg → Int} {s : Int} {i : Nat} {e : Edg} (he : E[i]? = some e) (h : e.to_ ≠ s ∨ ∀ c, ¬ Way E f 0 e.from_ c) (c : Int) : FwdI E f s i c ↔ FwdI E f s (i + 1) c := by
  rw [FwdI.succ he]
  refine ⟨.inl, fun hh => hh.elim id fun ⟨h1, c', h2, _⟩ => ?_⟩
  rcases h with h | h
  · exact absurd h1 h
  · exact absurd h2 (h c')

end Go.Proofs.YtgobkbjkndfliaaGreatDoor

/-
  The input of a search for matches in memory: an automaton, the times of its events, the sets of its conditions.
-/
namespace Go.Proofs.YtgobkbjkndfliaaGreatDoor
open Go.RowKit

/-- a slice of ints, of intervals -/
structure SlI where
  A : Option Addr
  c : Nat
  xs : List Int
structure SlV where
  A : Option Addr
  c : Nat
  xs : List Iv
def cSlI (s : SlI) : List Value := [.slice s.A s.xs.length s.c]
def cSlV (s : SlV) : List Value := [.slice s.A s.xs.length s.c]

/-- lists of times in memory -/
structure EvAt (w : World) (A : Option Addr) (l : List SlI) : Prop where
  row : Row w (Lo w.heap.size) 1 cSlI A l
  each : ∀ s ∈ l, IntsAt w w.heap.size s.A s.xs
structure CsAt (w : World) (A : Option Addr) (l : List SlV) : Prop where
  row : Row w (Lo w.heap.size) 1 cSlV A l
  each : ∀ s ∈ l, IvsAt w w.heap.size s.A s.xs
theorem EvAt.step {w w' : World} {A : Option Addr} {l : List SlI} (h : EvAt w A l) (hb : Below w.heap.size w w') : EvAt w' A l := ⟨h.row.grow hb, fun s hs => (h.each s hs).step hb⟩
theorem CsAt.step {w w' : World} {A : Option Addr} {l : List SlV} (h : CsAt w A l) (hb : Below w.heap.size w w') : CsAt w' A l := ⟨h.row.grow hb, fun s hs => (h.each s hs).step hb⟩
theorem EvAt.at_ {w : World} {A : Option Addr} {l : List SlI} (h : EvAt w A l) {k : Nat} (hk : k < l.length) : ∃ b off, A = some ⟨b, off, none⟩ ∧ b < w.heap.size ∧ w.cell? ⟨b, off + k, none⟩ = some (.slice l[k].A l[k].xs.length l[k].c) ∧ IntsAt w w.heap.size l[k].A l[k].xs := by
  obtain ⟨b, off, e, hb, hc⟩ := h.row.at_ hk
  have := hc 0 (by omega)
  rw [Nat.mul_one, Nat.add_zero] at this
  exact ⟨b, off, e, hb, this, h.each _ (List.getElem_mem hk)⟩
theorem CsAt.at_ {w : World} {A : Option Addr} {l : List SlV} (h : CsAt w A l) {k : Nat} (hk : k < l.length) : ∃ b off, A = some ⟨b, off, none⟩ ∧ b < w.heap.size ∧ w.cell? ⟨b, off + k, none⟩ = some (.slice l[k].A l[k].xs.length l[k].c) ∧ IvsAt w w.heap.size l[k].A l[k].xs := by
  obtain ⟨b, off, e, hb, hc⟩ := h.row.at_ hk
  have := hc 0 (by omega)
  rw [Nat.mul_one, Nat.add_zero] at this
  exact ⟨b, off, e, hb, this, h.each _ (List.getElem_mem hk)⟩

/-- the struct that match.prepare returns -/
structure MIn where
  a : Aut
  AV : Option Addr
  cV : Nat
  ev : List SlI
  AS : Option Addr
  cS : Nat
  cs : List SlV
  en : Int
def encX (x : MIn) : List Value := encA x.a ++ [.slice x.AV x.ev.length x.cV, .slice x.AS x.cs.length x.cS, .int .i64 x.en]
def MIn.inp (x : MIn) : Inp := ⟨x.a.edges, x.a.fin, x.ev.map SlI.xs, x.cs.map SlV.xs⟩
structure MAt (w : World) (x : MIn) : Prop where
  aut : AutAt w (Lo w.heap.size) x.a
  ev : EvAt w x.AV x.ev
  cs : CsAt w x.AS x.cs
theorem MAt.step {w w' : World} {x : MIn} (h : MAt w x) (hb : Below w.heap.size w w') : MAt w' x := ⟨h.aut.grow hb, h.ev.step hb, h.cs.step hb⟩

def Incr (l : List Int) : Prop := l.Pairwise (· < ·) ∧ ∀ t ∈ l, 0 ≤ t ∧ t ≤ 1099511627776
structure EdgOk (n nE nC : Nat) (e : Edg) : Prop where
  f0 : 0 ≤ e.from_
  ft : e.from_ < e.to_
  tn : e.to_ < n
  e0 : 0 ≤ e.event
  en : e.event < nE
  w0 : -1 ≤ e.while_
  wn : e.while_ < nC
  l0 : 0 ≤ e.low
  lh : e.low ≤ e.high
  h1 : e.high ≤ 1099511627776
/-- an input that has been checked -/
structure MOk (x : MIn) : Prop where
  few : x.a.edges.length ≤ 40
  fin : x.a.fin.length ≤ 33
  edge : ∀ e ∈ x.a.edges, EdgOk x.a.fin.length x.ev.length x.cs.length e
  mono : ∀ i j : Nat, ∀ a b : Edg, i ≤ j → x.a.edges[i]? = some a → x.a.edges[j]? = some b → a.from_ ≤ b.from_
  nev : x.ev.length ≤ 40
  ncs : x.cs.length ≤ 40
  evs : ∀ s ∈ x.ev, s.xs.length ≤ 24 ∧ Incr s.xs
  css : ∀ s ∈ x.cs, s.xs.length ≤ 1000000000000
  e0 : 0 ≤ x.en
  e1 : x.en ≤ 1099511627776
theorem MOk.ord {x : MIn} (h : MOk x) : Ordd x.inp := ⟨fun e he => ⟨(h.edge e he).f0, (h.edge e he).ft⟩, h.mono⟩
theorem nth_at {α : Type} {l : List (List α)} {i : Int} {k : Nat} (hk : k < l.length) (hi : i = (k : Int)) : nth l i = l[k] := by
  subst hi
  unfold nth
  rw [Int.toNat_natCast, List.getD_eq_getElem?_getD, List.getElem?_eq_getElem hk]
  rfl
/-- the list of an edge's event -/
theorem MOk.event {x : MIn} (h : MOk x) {e : Edg} (he : e ∈ x.a.edges) : ∃ k : Nat, ∃ hk : k < x.ev.length, e.event = (k : Int) ∧ nth x.inp.ev e.event = x.ev[k].xs := by
  have ho := h.edge e he
  have h0 := ho.e0
  have h1 := ho.en
  obtain ⟨k, hk⟩ := Int.eq_ofNat_of_zero_le h0
  have hl : k < x.ev.length := by omega
  refine ⟨k, hl, hk, ?_⟩
  rw [nth_at (by simpa [MIn.inp] using hl) hk]
  simp [MIn.inp]
theorem MOk.cond {x : MIn} (h : MOk x) {e : Edg} (he : e ∈ x.a.edges) (hw : e.while_ ≠ -1) : ∃ k : Nat, ∃ hk : k < x.cs.length, e.while_ = (k : Int) ∧ nth x.inp.cs e.while_ = x.cs[k].xs := by
  have ho := h.edge e he
  have h0 := ho.w0
  have h1 := ho.wn
  obtain ⟨k, hk⟩ := Int.eq_ofNat_of_zero_le (show 0 ≤ e.while_ by omega)
  have hl : k < x.cs.length := by omega
  refine ⟨k, hl, hk, ?_⟩
  rw [nth_at (by simpa [MIn.inp] using hl) hk]
  simp [MIn.inp]

theorem box7 {w : World} {N : Nat} {a b c d e f g : Value} {t : TypeId} (h : w.heap[N]? = some (.cells #[a, b, c, d, e, f, g] t (0, 0))) : w.cell? ⟨N, 0, none⟩ = some a ∧ w.cell? ⟨N, 1, none⟩ = some b ∧ w.cell? ⟨N, 2, none⟩ = some c ∧ w.cell? ⟨N, 3, none⟩ = some d ∧ w.cell? ⟨N, 4, none⟩ = some e ∧ w.cell? ⟨N, 5, none⟩ = some f ∧ w.cell? ⟨N, 6, none⟩ = some g :=
  ⟨by rw [cell_of_row w N _ _ t (0, 0) h]; rfl, by rw [cell_of_row w N _ _ t (0, 0) h]; rfl, by rw [cell_of_row w N _ _ t (0, 0) h]; rfl, by rw [cell_of_row w N _ _ t (0, 0) h]; rfl, by rw [cell_of_row w N _ _ t (0, 0) h]; rfl, by rw [cell_of_row w N _ _ t (0, 0) h]; rfl, by rw [cell_of_row w N _ _ t (0, 0) h]; rfl⟩

/-- the times of a sorted list from a place on, up to a greatest one -/
def upTo (l : List Int) (k : Nat) (to_ : Int) : List Int := (l.drop k).takeWhile fun t => decide (t ≤ to_)
theorem upTo_step {l : List Int} {k : Nat} {to_ : Int} (hk : k < l.length) (h : l[k] ≤ to_) : upTo l k to_ = l[k] :: upTo l (k + 1) to_ := by
  unfold upTo
  rw [List.drop_eq_getElem_cons hk, List.takeWhile_cons, if_pos (decide_eq_true h)]
theorem upTo_far {l : List Int} {k : Nat} {to_ : Int} (hk : k < l.length) (h : ¬ l[k] ≤ to_) : upTo l k to_ = [] := by
  unfold upTo
  rw [List.drop_eq_getElem_cons hk, List.takeWhile_cons, if_neg (by simpa using h)]
theorem upTo_end {l : List Int} {k : Nat} {to_ : Int} (hk : l.length ≤ k) : upTo l k to_ = [] := by
  unfold upTo
  rw [List.drop_of_length_le hk]
  rfl
theorem upTo_len (l : List Int) (k : Nat) (to_ : Int) : (upTo l k to_).length ≤ l.length := by
  unfold upTo
  refine Nat.le_trans (List.takeWhile_prefix _).length_le ?_
  rw [List.length_drop]
  omega
/-- of a sorted list: those of a range -/
theorem upTo_mem {l : List Int} (hs : l.Pairwise (· < ·)) {a b t : Int} : t ∈ upTo l (l.countP (· < a)) b ↔ t ∈ l ∧ a ≤ t ∧ t ≤ b := by
  induction l with
  | nil => simp [upTo]
  | cons x l ih =>
    rw [List.pairwise_cons] at hs
    by_cases hx : x < a
    · have e : upTo (x :: l) ((x :: l).countP (· < a)) b = upTo l (l.countP (· < a)) b := by
        unfold upTo
        rw [List.countP_cons_of_pos (by simpa using hx), List.drop_succ_cons]
      rw [e, ih hs.2, List.mem_cons]
      constructor
      · rintro ⟨h1, h2⟩; exact ⟨.inr h1, h2⟩
      · rintro ⟨h1 | h1, h2, h3⟩
        · omega
        · exact ⟨h1, h2, h3⟩
    · have hc : (x :: l).countP (· < a) = 0 := by
        rw [List.countP_eq_zero]
        intro y hy
        rcases List.mem_cons.1 hy with rfl | hy
        · simpa using hx
        · have := hs.1 y hy; simp; omega
      rw [hc]
      have key : ∀ (m : List Int), m.Pairwise (· < ·) → (t ∈ m.takeWhile (fun t => decide (t ≤ b)) ↔ t ∈ m ∧ t ≤ b) := fun m hm => by
        induction m with
        | nil => simp
        | cons y m ihm =>
          rw [List.pairwise_cons] at hm
          by_cases hy : y ≤ b
          · rw [List.takeWhile_cons, if_pos (decide_eq_true hy), List.mem_cons, List.mem_cons, ihm hm.2]
            constructor
            · rintro (rfl | ⟨h1, h2⟩)
              · exact ⟨.inl rfl, hy⟩
              · exact ⟨.inr h1, h2⟩
            · rintro ⟨rfl | h1, h2⟩
              · exact .inl rfl
              · exact .inr ⟨h1, h2⟩
          · rw [List.takeWhile_cons, if_neg (by simpa using hy)]
            constructor
            · intro h; cases h
            · rintro ⟨h1, h2⟩
              rcases List.mem_cons.1 h1 with rfl | h1
              · omega
              · have := hm.1 t h1; omega
      unfold upTo
      rw [List.drop_zero, key _ (List.pairwise_cons.2 hs)]
      constructor
      · rintro ⟨h1, h2⟩
        refine ⟨h1, ?_, h2⟩
        rcases List.mem_cons.1 h1 with rfl | h1
        · omega
        · have := hs.1 t h1; omega
      · rintro ⟨h1, _, h2⟩; exact ⟨h1, h2⟩

end Go.Proofs.YtgobkbjkndfliaaGreatDoor
