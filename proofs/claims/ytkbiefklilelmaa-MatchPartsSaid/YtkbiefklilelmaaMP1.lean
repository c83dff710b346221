/-
  Several texts in one: Reads, Mem, Row, Edg. Each says at its head what it holds.
-/
import Derived.Test.YtkbiefklilelmaaRows
import Derived.ProofKit
import Derived.OpenShut
import Derived.SizedLaws
import Derived.ChangeOld
import Derived.Below
import Derived.Deep.Slices
import Derived.Lib.SmallJoins
import Derived.Test.YtkbiefklilelmaaProg
import Derived.WalkKit
import Derived.WalkSpells
import Derived.WalkLawsBesides
import Derived.BigQuiet
import Derived.Deep.QuietTactic
import Derived.LoopTactic
import Derived.RegionTactic
import Derived.Deep.RegionHeld3
import Derived.Deep.AppendLies
import Derived.Deep.DeepCutAuto

/-
  From what an argument reads as to what lies in memory: slices, structs, strings, integers, bools, of whatever depth. Nothing here names a function of the program.
-/
namespace Go.Proofs.Ytkbiefklilelmaa
open Go.ChangeShapes Go.WideShapes Go.ChangeAt Go.RowKit Go.Deep

/-- a row of elements in memory, each with what holds of it -/
def RowAt {α : Type} (w : World) (P : Nat → Prop) (size : Nat) (cells : α → List Value) (held : α → Prop) (A : Option Addr) (xs : List α) : Prop :=
  xs ≠ [] → ∃ b off, A = some ⟨b, off, none⟩ ∧ P b ∧ ∀ i x, xs[i]? = some x → (∀ j, j < size → w.cell? ⟨b, off + i * size + j, none⟩ = (cells x)[j]?) ∧ held x

/-- every weight of a datum lies within reach -/
def Fit {H : Type} (P : Program) (t : TypeId) (d : DataW H) : Prop := ∀ n ∈ d.weights P t, n ≤ reachBytes

theorem pick_list {α : Type} (Q : Nat → α → Prop) (n : Nat) (h : ∀ i, i < n → ∃ a, Q i a) : ∃ xs : List α, xs.length = n ∧ ∀ i x, xs[i]? = some x → Q i x := by
  induction n with
  | zero => exact ⟨[], rfl, fun i x hx => by simp at hx⟩
  | succ n ih =>
    obtain ⟨xs, hl, hx⟩ := ih fun i hi => h i (by omega)
    obtain ⟨a, ha⟩ := h n (by omega)
    refine ⟨xs ++ [a], by simp [hl], fun i x hi => ?_⟩
    rcases Nat.lt_or_ge i n with h1 | h1
    · rw [List.getElem?_append_left (by omega)] at hi
      exact hx i x hi
    · have : i = n := by
        have := (List.getElem?_eq_some_iff.1 hi).1
        simp at this
        omega
      subst this
      rw [List.getElem?_append_right (by omega), hl] at hi
      simp at hi
      subst hi
      exact ha

section
variable {H : Type} {enc : TypeId × Value → H} {P : Program} {W : World} {base : Nat} {spare : Nat → Bool} {held : Bool}

theorem weightsAll_mem : ∀ {l : List (DataW H)} {d : DataW H} {e : TypeId}, d ∈ l → ∀ n ∈ d.weights P e, n ∈ DataW.weightsAll P e l
  | d0 :: r, d, e, hd, n, hn => by
    simp only [DataW.weightsAll, List.mem_append]
    rcases List.mem_cons.1 hd with rfl | hd
    · exact .inl hn
    · exact .inr (weightsAll_mem hd n hn)
  | [], _, _, hd, _, _ => by cases hd

theorem addr_plus (b off j : Nat) : (⟨b, off, none⟩ : Addr).add j = ⟨b, off + j, none⟩ := by
  unfold Addr.add
  by_cases h : j = 0 <;> simp [h]

/-- a slice's reader out of its elements' reader -/
theorem rd_slice_cap {α : Type} {t e : TypeId} (size bytes : Nat) (cells : α → List Value) (hd : α → Prop) (ht : P.underlying t = some (.slice e)) (hs : P.cellsOf e = size) (hpos : 0 < size) (hby : P.bytesOf e = bytes)
    (rd : ∀ n cs y, DataW.trod enc P W base spare held n e cs = some y → Fit P e y.1 → ∃ a, cs = cells a ∧ hd a)
    {fuel : Nat} {cs : List Value} {y : DataW H × List MemPlace} (h : DataW.trod enc P W base spare held fuel t cs = some y) (hf : Fit P t y.1) :
    ∃ (A : Option Addr) (c : Nat) (xs : List α), cs = [.slice A xs.length c] ∧ RowAt W (fun b => b < W.heap.size) size cells hd A xs ∧ xs.length * bytes ≤ reachBytes ∧ xs.length ≤ c := by
  rcases DataW.trod_slice ht h with ⟨rfl, rfl⟩ | ⟨a, len, cap, elems, rest, n, _, rfl, rfl, hb, hl, hc, hel, hi, _⟩
  · exact ⟨none, 0, [], rfl, fun h => absurd rfl h, by simp, by simp⟩
  · have hfit : ∀ i (h : i < elems.length), Fit P e elems[i].1 := fun i h m hm => hf m (by
      simp only [DataW.weights, ht, List.mem_cons, List.mem_append]
      exact .inr (.inl (weightsAll_mem (List.mem_map.2 ⟨elems[i], List.getElem_mem h, rfl⟩) m hm)))
    have hrow : ∀ i, i < len → ∃ x : α, (∀ j, j < size → W.cell? ((a.add (i * size)).add j) = (cells x)[j]?) ∧ hd x ∧ (cells x).length = size := fun i hlt => by
      have h1 := hi i hlt
      have hlt' : i < elems.length := by omega
      rw [List.getElem?_eq_getElem hlt', Option.bind_eq_some_iff] at h1
      obtain ⟨cs, hcs, htr⟩ := h1
      obtain ⟨x, rfl, hx⟩ := rd n cs _ htr (hfit i hlt')
      obtain ⟨_, hcl, hat⟩ := World.cells?_some hcs
      rw [hs] at hcl hat
      exact ⟨x, hat, hx, hcl⟩
    obtain ⟨xs, hxl, hx⟩ := pick_list _ len hrow
    refine ⟨some a, cap, xs, by rw [hxl], fun hne => ?_, ?_, by omega⟩
    · have hp : 0 < xs.length := List.length_pos_iff.2 hne
      obtain ⟨b, off, spot⟩ := a
      have h0 : W.cell? ((Addr.add ⟨b, off, spot⟩ (0 * size)).add 0) = (cells xs[0])[0]? := (hx 0 _ (List.getElem?_eq_getElem hp)).1 0 hpos
      have hl0 := (hx 0 _ (List.getElem?_eq_getElem hp)).2.2
      rw [List.getElem?_eq_getElem (by omega)] at h0
      have hspot : spot = none := by simpa [Addr.add] using World.cell?_spot h0
      subst hspot
      have hblk := World.block_lt_of_cell? _ _ h0
      rw [addr_plus, addr_plus] at hblk
      refine ⟨b, off, rfl, hblk, fun i x hi => ⟨fun j hj => ?_, (hx i x hi).2.1⟩⟩
      have := (hx i x hi).1 j hj
      rwa [addr_plus, addr_plus] at this
    · have := hf ((elems.length + rest.length) * P.bytesOf e) (by simp [DataW.weights, ht])
      rw [hby] at this
      have h2 : xs.length * bytes ≤ (elems.length + rest.length) * bytes := Nat.mul_le_mul_right _ (by omega)
      omega

theorem rd_slice {α : Type} {t e : TypeId} (size bytes : Nat) (cells : α → List Value) (hd : α → Prop) (ht : P.underlying t = some (.slice e)) (hs : P.cellsOf e = size) (hpos : 0 < size) (hby : P.bytesOf e = bytes)
    (rd : ∀ n cs y, DataW.trod enc P W base spare held n e cs = some y → Fit P e y.1 → ∃ a, cs = cells a ∧ hd a)
    {fuel : Nat} {cs : List Value} {y : DataW H × List MemPlace} (h : DataW.trod enc P W base spare held fuel t cs = some y) (hf : Fit P t y.1) :
    ∃ (A : Option Addr) (c : Nat) (xs : List α), cs = [.slice A xs.length c] ∧ RowAt W (fun b => b < W.heap.size) size cells hd A xs ∧ xs.length * bytes ≤ reachBytes := by
  obtain ⟨A, c, xs, h1, h2, h3, _⟩ := rd_slice_cap size bytes cells hd ht hs hpos hby rd h hf
  exact ⟨A, c, xs, h1, h2, h3⟩

theorem rd_int {t : TypeId} (ht : P.underlying t = some (.int .i64)) {n : Nat} {cs : List Value} {y : DataW H × List MemPlace} (h : DataW.trod enc P W base spare held n t cs = some y) : ∃ a : Int, cs = [.int .i64 a] ∧ (-9223372036854775808 ≤ a ∧ a ≤ 9223372036854775807) := by
  obtain ⟨a, rfl, _, hw⟩ := DataW.trod_int ht h
  exact ⟨a, rfl, bounds_i64 hw⟩
theorem rd_string {t : TypeId} (ht : P.underlying t = some .string) {n : Nat} {cs : List Value} {y : DataW H × List MemPlace} (h : DataW.trod enc P W base spare held n t cs = some y) : ∃ a : ByteArray, cs = [.string a] ∧ a.size ≤ maxLen := by
  obtain ⟨a, rfl, _, hw⟩ := DataW.trod_string ht h
  exact ⟨a, rfl, hw⟩
theorem rd_bool {t : TypeId} (ht : P.underlying t = some .bool) {n : Nat} {cs : List Value} {y : DataW H × List MemPlace} (h : DataW.trod enc P W base spare held n t cs = some y) : ∃ a : Bool, cs = [.bool a] := by
  obtain ⟨a, rfl, _⟩ := DataW.trod_bool ht h
  exact ⟨a, rfl⟩

/-- a struct's reader, field by field: field i has the cells from its offset on -/
theorem rd_struct {t : TypeId} {fs : Array Field} (ht : P.underlying t = some (.struct fs)) {n : Nat} {cs : List Value} {y : DataW H × List MemPlace} (h : DataW.trod enc P W base spare held n t cs = some y) (hf : Fit P t y.1) :
    cs.length = P.cellsOf t ∧ ∀ (i : Nat) (ft : TypeId) (off k : Nat), (fs[i]?.map fun f => (f.type, f.offset)) = some (ft, off) → P.cellsOf ft = k → ∃ m z, DataW.trod enc P W base spare held m ft ((cs.drop off).take k) = some z ∧ Fit P ft z.1 := by
  obtain ⟨xs, m, _, rfl, hl, hxl, hx⟩ := DataW.trod_struct ht h
  refine ⟨hl, fun i ft off k hi hk => ?_⟩
  subst hk
  rw [Option.map_eq_some_iff] at hi
  obtain ⟨f, hi, e⟩ := hi
  injection e with e1 e2
  subst e1 e2
  have hlt : i < fs.size := (Array.getElem?_eq_some_iff.1 hi).1
  have h1 := hx i f hi
  rw [List.getElem?_eq_getElem (by omega)] at h1
  refine ⟨m, _, h1, fun k hk => hf k ?_⟩
  simp only [DataW.weights, ht]
  refine DataW.weights_mem_each (j := i) (t := f.type) (d := xs[i].1) ?_ ?_ k hk
  · rw [List.getElem?_map, Array.getElem?_toList, hi]; rfl
  · rw [List.getElem?_map, List.getElem?_eq_getElem (by omega)]; rfl
end

theorem fit_each {H : Type} {P : Program} {ts : List TypeId} {ds : List (DataW H)} (h : (DataW.weightsEach P ts ds).all (· ≤ reachBytes) = true) {j : Nat} {t : TypeId} {d : DataW H} (ht : ts[j]? = some t) (hd : ds[j]? = some d) : Fit P t d := fun n hn => by
  have := List.all_eq_true.1 h n (DataW.weights_mem_each ht hd n hn)
  simpa using this

theorem ownK : ownKnob Try.prog.godebug = none := by kernel_rfl
theorem laidOut : laidOutB Try.prog = true := by kernel_rfl

end Go.Proofs.Ytkbiefklilelmaa

/-
  Words for memory that serve every seat: blocks that stay, rows of strings, own rows, append of a whole slice. Nothing here names a function or a struct of the program.
-/
namespace Go.Proofs.Ytkbiefklilelmaa
open Go.RowKit

theorem hide {p : Prop} (h : p) : Hid p := h
def I64 (n : Int) : Prop := -9223372036854775808 ≤ n ∧ n ≤ 9223372036854775807

/-- the blocks that P names are as they were -/
def Stay (P : Nat → Prop) (w w' : World) : Prop := ∀ b, P b → w'.heap[b]? = w.heap[b]?
theorem Stay.refl (P : Nat → Prop) (w : World) : Stay P w w := fun _ _ => rfl
theorem Stay.trans {P : Nat → Prop} {a b c : World} (h : Stay P a b) (h' : Stay P b c) : Stay P a c := fun k hk => (h' k hk).trans (h k hk)
theorem Stay.cell {P : Nat → Prop} {w w' : World} (h : Stay P w w') {b o : Nat} (hb : P b) : w'.cell? ⟨b, o, none⟩ = w.cell? ⟨b, o, none⟩ := World.cell?_of_block (a := ⟨b, o, none⟩) (h b hb)
theorem Stay.sub {P P' : Nat → Prop} {w w' : World} (h : Stay P' w w') (hp : ∀ b, P b → P' b) : Stay P w w' := fun b hb => h b (hp b hb)
theorem stay_alloc {P : Nat → Prop} {w : World} (o : Obj) (hp : ∀ b, P b → b < w.heap.size) : Stay P w (w.alloc o) := fun b hb => Below.heap_alloc w o b (hp b hb)
theorem stay_below {P : Nat → Prop} {w w' : World} (h : Below w.heap.size w w') (hp : ∀ b, P b → b < w.heap.size) : Stay P w w' := fun b hb => h.block b (hp b hb)
theorem stay_grown {P : Nat → Prop} {w w' : World} {row : Option Nat} (h : w.grownBy w' row) (hp : ∀ b, P b → b < w.heap.size) (hr : ∀ b, P b → some b ≠ row) : Stay P w w' := fun b hb => h.block b (hp b hb) (hr b hb)
theorem stay_set {P : Nat → Prop} {w : World} {N k : Nat} {v : Value} (hn : ¬ P N) : Stay P w (w.setCell ⟨N, k, none⟩ v) := fun b hb => by
  rw [Below.heap_setCell _ _ _ _ (by rintro rfl; exact hn hb)]

/-- a list of strings, in blocks that P names -/
def StrsAt (w : World) (P : Nat → Prop) (A : Option Addr) (vs : List ByteArray) : Prop :=
  vs ≠ [] → ∃ b off, A = some ⟨b, off, none⟩ ∧ P b ∧ ∀ i s, vs[i]? = some s → w.cell? ⟨b, off + i, none⟩ = some (.string s)

section
variable {w w' : World} {P P' : Nat → Prop} {A : Option Addr}
theorem StrsAt.stay {vs : List ByteArray} (h : StrsAt w P A vs) (hs : Stay P w w') : StrsAt w' P A vs := fun hx => by
  obtain ⟨b, off, e, hb, hc⟩ := h hx
  exact ⟨b, off, e, hb, fun i s hi => (hs.cell hb).trans (hc i s hi)⟩
theorem StrsAt.more {vs : List ByteArray} (h : StrsAt w P A vs) (hp : ∀ b, P b → P' b) : StrsAt w P' A vs := fun hx => by
  obtain ⟨b, off, e, hb, hc⟩ := h hx
  exact ⟨b, off, e, hp b hb, hc⟩
theorem StrsAt.at_ {vs : List ByteArray} (h : StrsAt w P A vs) {k : Nat} (hk : k < vs.length) : ∃ b off, A = some ⟨b, off, none⟩ ∧ P b ∧ w.cell? ⟨b, off + k, none⟩ = some (.string vs[k]) := by
  obtain ⟨b, off, e, hb, hc⟩ := h (fun e => by subst e; simp at hk)
  exact ⟨b, off, e, hb, hc k _ (List.getElem?_eq_getElem hk)⟩
theorem StrsAt.nil : StrsAt w P A [] := fun h => absurd rfl h
end

/-- below a block -/
def Lo (n : Nat) (b : Nat) : Prop := b < n

theorem flat_len {α : Type} (f : α → List Value) (m : Nat) (hf : ∀ x, (f x).length = m) (xs : List α) : (xs.flatMap f).length = xs.length * m := by
  induction xs with
  | nil => simp
  | cons x xs ih => rw [List.flatMap_cons, List.length_append, hf, ih, List.length_cons, Nat.add_mul]; omega
theorem flat_at {α : Type} (f : α → List Value) (m : Nat) (hf : ∀ x, (f x).length = m) {xs : List α} {i j : Nat} {x : α} (h : xs[i]? = some x) (hj : j < m) : (xs.flatMap f)[i * m + j]? = (f x)[j]? := by
  induction xs generalizing i with
  | nil => simp at h
  | cons y ys ih =>
    cases i with
    | zero =>
      simp at h; subst h
      rw [List.flatMap_cons, Nat.zero_mul, Nat.zero_add, List.getElem?_append_left (by rw [hf]; exact hj)]
    | succ i =>
      have := ih (i := i) (by simpa using h)
      rw [List.flatMap_cons, List.getElem?_append_right (by rw [hf, Nat.add_mul]; omega), hf, ← this]
      congr 1
      rw [Nat.add_mul]; omega

/-- the block of a slice -/
def ob (A : Option Addr) : Option Nat := (Value.slice A 0 0).ownBlock
theorem ob_eq (A : Option Addr) (n c : Nat) : (Value.slice A n c).ownBlock = ob A := by cases A <;> rfl
theorem ob_some (g : Nat) : ob (some ⟨g, 0, none⟩) = some g := rfl

theorem own_place {w : World} {base : Nat} {A : Option Addr} {c : Nat} {e : TypeId} {size n : Nat} {xs : List Value} (h : w.ownsRow base e size (.slice A n c) n xs) (hn : 0 < n) : ∃ g, A = some ⟨g, 0, none⟩ ∧ base ≤ g ∧ g < w.heap.size := by
  obtain ⟨g, cap, e1, h1, h2⟩ := World.ownsRow.form h hn
  injection e1 with e1
  exact ⟨g, e1, h1, h2⟩

theorem box_lt {w : World} {N : Nat} {o : Obj} (h : w.heap[N]? = some o) : N < w.heap.size := (Array.getElem?_eq_some_iff.1 h).1
theorem box_alloc {w : World} {N : Nat} {o o' : Obj} (h : w.heap[N]? = some o) : (w.alloc o').heap[N]? = some o := (Below.heap_alloc w o' N (box_lt h)).trans h
theorem box_below {w w' : World} {N : Nat} {o : Obj} (b : Below w.heap.size w w') (h : w.heap[N]? = some o) : w'.heap[N]? = some o := (b.block N (box_lt h)).trans h
theorem box_grown {w w' : World} {N : Nat} {o : Obj} {row : Option Nat} (h : w.heap[N]? = some o) (hg : w.grownBy w' row) (hr : row ≠ some N) : w'.heap[N]? = some o := (hg.block N (box_lt h) (fun e => hr e.symm)).trans h
theorem box_set {w : World} {N M k : Nat} {o : Obj} {v : Value} (h : w.heap[N]? = some o) (hne : N ≠ M) : (w.setCell ⟨M, k, none⟩ v).heap[N]? = some o := by
  rw [Below.heap_setCell _ _ _ _ (by simpa using hne)]; exact h
theorem bstep {w0 w w' : World} (h : Below w0.heap.size w0 w) (hb : Below w.heap.size w w') : Below w0.heap.size w0 w' := h.trans (hb.mono h.size)
theorem box2 {w : World} {N : Nat} {a b : Value} {t : TypeId} (h : w.heap[N]? = some (.cells #[a, b] t (0, 0))) : w.cell? ⟨N, 0, none⟩ = some a ∧ w.cell? ⟨N, 1, none⟩ = some b ∧ w.frozen? ⟨N, 0, none⟩ = false ∧ w.frozen? ⟨N, 1, none⟩ = false :=
  ⟨by rw [cell_of_row w N _ _ t (0, 0) h]; rfl, by rw [cell_of_row w N _ _ t (0, 0) h]; rfl, by simp [World.frozen?, h], by simp [World.frozen?, h]⟩
theorem box4 {w : World} {N : Nat} {a b c d : Value} {t : TypeId} (h : w.heap[N]? = some (.cells #[a, b, c, d] t (0, 0))) : w.cell? ⟨N, 0, none⟩ = some a ∧ w.cell? ⟨N, 1, none⟩ = some b ∧ w.cell? ⟨N, 2, none⟩ = some c ∧ w.cell? ⟨N, 3, none⟩ = some d ∧ w.frozen? ⟨N, 2, none⟩ = false :=
  ⟨by rw [cell_of_row w N _ _ t (0, 0) h]; rfl, by rw [cell_of_row w N _ _ t (0, 0) h]; rfl, by rw [cell_of_row w N _ _ t (0, 0) h]; rfl, by rw [cell_of_row w N _ _ t (0, 0) h]; rfl, by simp [World.frozen?, h]⟩

theorem own_ob {w : World} {base : Nat} {e : TypeId} {size n : Nat} {A : Option Addr} {c : Nat} {xs : List Value} (h : w.ownsRow base e size (.slice A n c) n xs) (g : Nat) (hg : ob A = some g) : base ≤ g ∧ g < w.heap.size :=
  World.ownsRow.lt h g ((ob_eq A n c).trans hg)
/-- an own row, where another block was written or grown -/
theorem own_block {w w' : World} {base : Nat} {e : TypeId} {size n : Nat} {A : Option Addr} {c : Nat} {xs : List Value} (h : w.ownsRow base e size (.slice A n c) n xs) (hk : ∀ g, ob A = some g → w'.heap[g]? = w.heap[g]?) : w'.ownsRow base e size (.slice A n c) n xs := by
  refine ⟨h.1, ?_⟩
  rcases h.2 with h2 | ⟨g, cap, cur, h2, h3, h4, h5⟩
  · exact .inl h2
  · refine .inr ⟨g, cap, cur, h2, h3, ?_, h5⟩
    rw [hk g ?_]
    · exact h4
    · rw [← ob_eq A n c, h2]; rfl

theorem below_drewN {B : Nat} {a w : World} (h : Below B a w) (n : Nat) : Below B a (w.drewN n) := ⟨h.os, h.tape, h.output, h.size, h.block⟩
theorem below_drew {B : Nat} {a w : World} (h : Below B a w) : Below B a w.drew := ⟨h.os, h.tape, h.output, h.size, h.block⟩
theorem run_append_nothing {P : Program} (w : World) (base : Nat) (t ty e : TypeId) (i : TypeInfo) (size : Nat) (ht : P.underlying t = some (.slice e)) (hi : P.info? e = some i)
    (v : Value) (n : Nat) (xs : List Value) (hown : w.ownsRow base e size v n xs) (c : Nat) : (Builtin.append_ #[t, t] ty #[v, .slice none 0 c]).run P w = .ok v w := by
  rcases hown.2 with ⟨rfl, rfl⟩ | ⟨g, cap, cur, rfl, _, _, hnc, _⟩
  · simp [Builtin.append_, run_underlying ht, sizeOf, typeInfo, hi, Builtin.lenOf, Builtin.firstCells]
  · simp [Builtin.append_, run_underlying ht, sizeOf, typeInfo, hi, Builtin.lenOf, Builtin.firstCells, hnc, storeCells]
theorem addr_add (b off j : Nat) : (⟨b, off, none⟩ : Addr).add j = ⟨b, off + j, none⟩ := by
  unfold Addr.add
  by_cases h : j = 0 <;> simp [h]
theorem append_src {P : Program} {ops : Array Oper} {rest : List Oper} {o : Oper} {a : Act} {Q : Exit → Act → World → Prop} {w : World} (hgd : o.guard = none) (s x : Operand) (t : TypeId)
    (ho : o.op = .call { callee := .builtin .append, args := #[s, x], argTypes := #[t, t] })
    (base : Nat) (e : TypeId) (i : TypeInfo) (z : Value) (size bytes : Nat) (ht : P.underlying t = some (.slice e)) (hi : P.info? e = some i) (hz : i.zero = some z)
    (hsize : i.size = size) (hby : i.bytes = bytes) (hzs : z.cells.size = size) (hsz : 0 < size)
    (v : Value) (n : Nat) (xs : List Value) (hs : a.eval s = v) (hown : w.ownsRow base e size v n xs)
    (A : Option Addr) (m c : Nat) (news : List Value) (hx : a.eval x = .slice A m c) (hl : news.length = m * size)
    (hsrc : news ≠ [] → ∃ b off, A = some ⟨b, off, none⟩ ∧ ∀ j u, news[j]? = some u → w.cell? ⟨b, off + j, none⟩ = some u) (h1 : ∀ u ∈ news, u.oneCell' = true)
    (h63 : n + m ≤ maxLen) (hbytes : (n + m) * bytes ≤ 140737488355328) (hbase : base ≤ w.heap.size)
    (h : ∀ v' w', w'.ownsRow base e size v' (n + m) (xs ++ news) → w.grownBy w' v.ownBlock → wpList P ops Q rest (a.put o.dst v') w') : wpList P ops Q (o :: rest) a w := by
  by_cases hne : news = []
  · subst hne
    have hm : m = 0 := by
      rcases Nat.eq_zero_or_pos m with h0 | h0
      · exact h0
      · have := Nat.mul_pos h0 hsz
        simp at hl
        omega
    subst hm
    cases A with
    | none =>
      refine wpList_plain hgd fun K hK => ?_
      have hrun := run_append_nothing (P := P) w base t o.type e i size ht hi v n xs hown c
      unfold Oper.wp execOp
      simp only [ho, resolve, invoke, builtin, Sem.run_bind, Sem.run_pure, Result.andThen_ok, List.map_toArray, List.map_cons, List.map_nil, hs, hx, hrun]
      exact hK _ _ (h v w (by simpa using hown) (World.grownBy.refl w _))
    | some ad =>
      exact wpList_append_own _ hgd s x t ho base e i z size bytes ht hi hz hsize hby hzs hsz v n xs hs hown ad 0 c [] hx (by simp) (by simp) (by simp) h63 hbytes hbase fun v' w' h2 h3 _ => h v' w' h2 h3
  · obtain ⟨b, off, rfl, hc⟩ := hsrc hne
    exact wpList_append_own _ hgd s x t ho base e i z size bytes ht hi hz hsize hby hzs hsz v n xs hs hown ⟨b, off, none⟩ m c news hx hl (fun j u hu => by rw [addr_add]; exact hc j u hu) h1 h63 hbytes hbase fun v' w' h2 h3 _ => h v' w' h2 h3

theorem wp_append_src {P : Program} {o : Oper} {a : Act} {K : Act → World → Prop} {Q : Exit → Act → World → Prop} {w : World} (s x : Operand) (t : TypeId)
    (ho : o.op = .call { callee := .builtin .append, args := #[s, x], argTypes := #[t, t] })
    (base : Nat) (e : TypeId) (i : TypeInfo) (z : Value) (size bytes : Nat) (ht : P.underlying t = some (.slice e)) (hi : P.info? e = some i) (hz : i.zero = some z)
    (hsize : i.size = size) (hby : i.bytes = bytes) (hzs : z.cells.size = size) (hsz : 0 < size)
    (v : Value) (n : Nat) (xs : List Value) (hs : a.eval s = v) (hown : w.ownsRow base e size v n xs)
    (A : Option Addr) (m c : Nat) (news : List Value) (hx : a.eval x = .slice A m c) (hl : news.length = m * size)
    (hsrc : news ≠ [] → ∃ b off, A = some ⟨b, off, none⟩ ∧ ∀ j u, news[j]? = some u → w.cell? ⟨b, off + j, none⟩ = some u) (h1 : ∀ u ∈ news, u.oneCell' = true)
    (h63 : n + m ≤ maxLen) (hbytes : (n + m) * bytes ≤ 140737488355328) (hbase : base ≤ w.heap.size)
    (h : ∀ v' w', w'.ownsRow base e size v' (n + m) (xs ++ news) → w.grownBy w' v.ownBlock → K (a.put o.dst v') w') : o.wp P a w K Q := by
  by_cases hne : news = []
  · subst hne
    have hm : m = 0 := by
      rcases Nat.eq_zero_or_pos m with h0 | h0
      · exact h0
      · have := Nat.mul_pos h0 hsz
        simp at hl
        omega
    subst hm
    cases A with
    | none =>
      have hrun := run_append_nothing (P := P) w base t o.type e i size ht hi v n xs hown c
      unfold Oper.wp execOp
      simp only [ho, resolve, invoke, builtin, Sem.run_bind, Sem.run_pure, Result.andThen_ok, List.map_toArray, List.map_cons, List.map_nil, hs, hx, hrun]
      exact h v w (by simpa using hown) (World.grownBy.refl w _)
    | some ad =>
      exact wp_append_own w s x t ho base e i z size bytes ht hi hz hsize hby hzs hsz v n xs hs hown ad 0 c [] hx (by simp) (by simp) (by simp) h63 hbytes hbase fun v' w' h2 h3 _ => h v' w' h2 h3
  · obtain ⟨b, off, rfl, hc⟩ := hsrc hne
    exact wp_append_own w s x t ho base e i z size bytes ht hi hz hsize hby hzs hsz v n xs hs hown ⟨b, off, none⟩ m c news hx hl (fun j u hu => by rw [addr_add]; exact hc j u hu) h1 h63 hbytes hbase fun v' w' h2 h3 _ => h v' w' h2 h3

theorem step_append_src {P : Program} {ops : Array Oper} {o : Oper} {a : Act} {K : Act → World → Prop} {Q : Exit → Act → World → Prop} {E : Prop} {w : World} (hgd : o.guard = none) (s x : Operand) (t : TypeId)
    (ho : o.op = .call { callee := .builtin .append, args := #[s, x], argTypes := #[t, t] })
    (base : Nat) (e : TypeId) (i : TypeInfo) (z : Value) (size bytes : Nat) (ht : P.underlying t = some (.slice e)) (hi : P.info? e = some i) (hz : i.zero = some z)
    (hsize : i.size = size) (hby : i.bytes = bytes) (hzs : z.cells.size = size) (hsz : 0 < size)
    (v : Value) (n : Nat) (xs : List Value) (hs : a.eval s = v) (hown : w.ownsRow base e size v n xs)
    (A : Option Addr) (m c : Nat) (news : List Value) (hx : a.eval x = .slice A m c) (hl : news.length = m * size)
    (hsrc : news ≠ [] → ∃ b off, A = some ⟨b, off, none⟩ ∧ ∀ j u, news[j]? = some u → w.cell? ⟨b, off + j, none⟩ = some u) (h1 : ∀ u ∈ news, u.oneCell' = true)
    (h63 : n + m ≤ maxLen) (hbytes : (n + m) * bytes ≤ 140737488355328) (hbase : base ≤ w.heap.size)
    (h : ∀ v' w', w'.ownsRow base e size v' (n + m) (xs ++ news) → w.grownBy w' v.ownBlock → K (a.put o.dst v') w') :
    if Region.wanted o (yielded ops a.tmps) = true then Oper.wp P o a w K Q else E := by
  have hw : Region.wanted o (yielded ops a.tmps) = true := by simp [Region.wanted, hgd]
  rw [if_pos hw]
  exact wp_append_src s x t ho base e i z size bytes ht hi hz hsize hby hzs hsz v n xs hs hown A m c news hx hl hsrc h1 h63 hbytes hbase h

/-- a source that lies below, where the world has grown -/
theorem src_below {W w : World} {A : Option Addr} {news : List Value} (hb : Below W.heap.size W w) (h : news ≠ [] → ∃ b off, A = some ⟨b, off, none⟩ ∧ ∀ j u, news[j]? = some u → W.cell? ⟨b, off + j, none⟩ = some u) :
    news ≠ [] → ∃ b off, A = some ⟨b, off, none⟩ ∧ ∀ j u, news[j]? = some u → w.cell? ⟨b, off + j, none⟩ = some u := fun hne => by
  obtain ⟨b, off, e, hc⟩ := h hne
  refine ⟨b, off, e, fun j u hu => ?_⟩
  have h0 := hc j u hu
  rw [hb.cell (p := ⟨b, off + j, none⟩) (by simpa using World.block_lt_of_cell? _ _ h0)]
  exact h0
/-- a source that is a block of its own -/
theorem src_block {w : World} {M : Nat} {cs : List Value} {t : TypeId} {fr : Nat × Nat} (h : w.heap[M]? = some (.cells cs.toArray t fr)) :
    cs ≠ [] → ∃ b off, (some ⟨M, 0, none⟩ : Option Addr) = some ⟨b, off, none⟩ ∧ ∀ j u, cs[j]? = some u → w.cell? ⟨b, off + j, none⟩ = some u := fun _ =>
  ⟨M, 0, rfl, fun j u hu => by rw [Nat.zero_add, cell_of_row w M j _ _ fr h]; simpa using hu⟩

theorem StrsAt.src {w : World} {P : Nat → Prop} {A : Option Addr} {vs : List ByteArray} (h : StrsAt w P A vs) : vs.map Value.string ≠ [] → ∃ b off, A = some ⟨b, off, none⟩ ∧ ∀ j u, (vs.map Value.string)[j]? = some u → w.cell? ⟨b, off + j, none⟩ = some u := by
  intro hne
  obtain ⟨b, off, e, _, hc⟩ := h (fun e => hne (by rw [e]; rfl))
  refine ⟨b, off, e, fun j u hu => ?_⟩
  rw [List.getElem?_map] at hu
  cases hj : vs[j]? with
  | none => rw [hj] at hu; cases hu
  | some z =>
    rw [hj] at hu
    simp only [Option.map_some, Option.some.injEq] at hu
    subst hu
    exact hc j z hj

end Go.Proofs.Ytkbiefklilelmaa

/-
  Rows of whatever elements in memory; automata: their edges, final states and lists of trees.
-/
namespace Go.Proofs.Ytkbiefklilelmaa
open Go.RowKit

/-- a row of elements in blocks that P names -/
def Row {α : Type} (w : World) (P : Nat → Prop) (size : Nat) (cells : α → List Value) (A : Option Addr) (xs : List α) : Prop :=
  xs ≠ [] → ∃ b off, A = some ⟨b, off, none⟩ ∧ P b ∧ ∀ i x, xs[i]? = some x → ∀ j, j < size → w.cell? ⟨b, off + i * size + j, none⟩ = (cells x)[j]?

section
variable {α : Type} {w w' : World} {P P' : Nat → Prop} {size : Nat} {cells : α → List Value} {A : Option Addr} {xs : List α}
theorem Row.stay (h : Row w P size cells A xs) (hs : Stay P w w') : Row w' P size cells A xs := fun hx => by
  obtain ⟨b, off, e, hb, hc⟩ := h hx
  exact ⟨b, off, e, hb, fun i x hi j hj => (hs.cell hb).trans (hc i x hi j hj)⟩
theorem Row.more (h : Row w P size cells A xs) (hp : ∀ b, P b → P' b) : Row w P' size cells A xs := fun hx => by
  obtain ⟨b, off, e, hb, hc⟩ := h hx
  exact ⟨b, off, e, hp b hb, hc⟩
theorem Row.nil : Row w P size cells A ([] : List α) := fun h => absurd rfl h
theorem Row.at_ (h : Row w P size cells A xs) {k : Nat} (hk : k < xs.length) : ∃ b off, A = some ⟨b, off, none⟩ ∧ P b ∧ ∀ j, j < size → w.cell? ⟨b, off + k * size + j, none⟩ = (cells xs[k])[j]? := by
  obtain ⟨b, off, e, hb, hc⟩ := h (fun e => by subst e; simp at hk)
  exact ⟨b, off, e, hb, hc k _ (List.getElem?_eq_getElem hk)⟩
/-- below the heap's end, where the world has grown -/
theorem Row.grow (h : Row w (Lo w.heap.size) size cells A xs) (hb : Below w.heap.size w w') : Row w' (Lo w'.heap.size) size cells A xs :=
  (h.stay (stay_below hb fun _ h => h)).more fun _ hb' => Nat.lt_of_lt_of_le hb' hb.size
end

abbrev cInt (n : Int) : List Value := [.int .i64 n]
abbrev cBool (b : Bool) : List Value := [.bool b]
structure Edg where
  from_ : Int
  to_ : Int
  event : Int
  while_ : Int
  low : Int
  high : Int
def cEdg (e : Edg) : List Value := [.int .i64 e.from_, .int .i64 e.to_, .int .i64 e.event, .int .i64 e.while_, .int .i64 e.low, .int .i64 e.high]

theorem Row.int_at {w : World} {P : Nat → Prop} {A : Option Addr} {xs : List Int} (h : Row w P 1 cInt A xs) {k : Nat} (hk : k < xs.length) : ∃ b off, A = some ⟨b, off, none⟩ ∧ P b ∧ w.cell? ⟨b, off + k, none⟩ = some (.int .i64 xs[k]) := by
  obtain ⟨b, off, e, hb, hc⟩ := h.at_ hk
  have := hc 0 (by omega)
  rw [Nat.mul_one, Nat.add_zero] at this
  exact ⟨b, off, e, hb, this⟩
theorem Row.bool_at {w : World} {P : Nat → Prop} {A : Option Addr} {xs : List Bool} (h : Row w P 1 cBool A xs) {k : Nat} (hk : k < xs.length) : ∃ b off, A = some ⟨b, off, none⟩ ∧ P b ∧ w.cell? ⟨b, off + k, none⟩ = some (.bool xs[k]) := by
  obtain ⟨b, off, e, hb, hc⟩ := h.at_ hk
  have := hc 0 (by omega)
  rw [Nat.mul_one, Nat.add_zero] at this
  exact ⟨b, off, e, hb, this⟩
/-- an edge's six cells -/
def EdgAt (w : World) (b o : Nat) (x : Edg) : Prop :=
  w.cell? ⟨b, o, none⟩ = some (.int .i64 x.from_) ∧ w.cell? ⟨b, o + 1, none⟩ = some (.int .i64 x.to_) ∧ w.cell? ⟨b, o + 2, none⟩ = some (.int .i64 x.event) ∧
    w.cell? ⟨b, o + 3, none⟩ = some (.int .i64 x.while_) ∧ w.cell? ⟨b, o + 4, none⟩ = some (.int .i64 x.low) ∧ w.cell? ⟨b, o + 5, none⟩ = some (.int .i64 x.high)
theorem Row.edg_at {w : World} {P : Nat → Prop} {A : Option Addr} {xs : List Edg} (h : Row w P 6 cEdg A xs) {k : Nat} (hk : k < xs.length) : ∃ b off, A = some ⟨b, off, none⟩ ∧ P b ∧ EdgAt w b (off + k * 6) xs[k] := by
  obtain ⟨b, off, e, hb, hc⟩ := h.at_ hk
  exact ⟨b, off, e, hb, hc 0 (by omega), hc 1 (by omega), hc 2 (by omega), hc 3 (by omega), hc 4 (by omega), hc 5 (by omega)⟩
theorem EdgAt.stay {w w' : World} {P : Nat → Prop} {b o : Nat} {x : Edg} (h : EdgAt w b o x) (hs : Stay P w w') (hb : P b) : EdgAt w' b o x :=
  ⟨(hs.cell hb).trans h.1, (hs.cell hb).trans h.2.1, (hs.cell hb).trans h.2.2.1, (hs.cell hb).trans h.2.2.2.1, (hs.cell hb).trans h.2.2.2.2.1, (hs.cell hb).trans h.2.2.2.2.2⟩

/-- an automaton: how many events and conditions it has, with the places of their trees, its final states, its edges -/
structure Aut where
  AE : Option Addr
  nE : Nat
  cE : Nat
  AC : Option Addr
  nC : Nat
  cC : Nat
  AF : Option Addr
  cF : Nat
  fin : List Bool
  AX : Option Addr
  cX : Nat
  edges : List Edg
def encA (a : Aut) : List Value := [.slice a.AE a.nE a.cE, .slice a.AC a.nC a.cC, .slice a.AF a.fin.length a.cF, .slice a.AX a.edges.length a.cX]
def I64E (x : Edg) : Prop := I64 x.from_ ∧ I64 x.to_ ∧ I64 x.event ∧ I64 x.while_ ∧ I64 x.low ∧ I64 x.high
structure AutAt (w : World) (P : Nat → Prop) (a : Aut) : Prop where
  fin : Row w P 1 cBool a.AF a.fin
  edges : Row w P 6 cEdg a.AX a.edges
theorem AutAt.stay {w w' : World} {P : Nat → Prop} {a : Aut} (h : AutAt w P a) (hs : Stay P w w') : AutAt w' P a := ⟨h.fin.stay hs, h.edges.stay hs⟩
theorem AutAt.more {w : World} {P P' : Nat → Prop} {a : Aut} (h : AutAt w P a) (hp : ∀ b, P b → P' b) : AutAt w P' a := ⟨h.fin.more hp, h.edges.more hp⟩
theorem AutAt.grow {w w' : World} {a : Aut} (h : AutAt w (Lo w.heap.size) a) (hb : Below w.heap.size w w') : AutAt w' (Lo w'.heap.size) a := ⟨h.fin.grow hb, h.edges.grow hb⟩

/-- the bounds of an automaton's numbers -/
structure AutLe (a : Aut) : Prop where
  nE : a.nE ≤ 140737488355328
  nC : a.nC ≤ 140737488355328
  fin : a.fin.length ≤ 140737488355328
  edges : a.edges.length ≤ 140737488355328
  i64 : ∀ x ∈ a.edges, I64E x

/-- what an edge must meet by itself -/
def edgeB (n nE nC : Nat) (x : Edg) : Bool := decide (0 ≤ x.from_ ∧ x.from_ < x.to_ ∧ x.to_ < n ∧ 0 ≤ x.event ∧ x.event < nE ∧ -1 ≤ x.while_ ∧ x.while_ < nC ∧ 0 ≤ x.low ∧ x.low ≤ x.high ∧ x.high ≤ 1099511627776)
def startB (x : Edg) : Bool := decide (x.from_ = 0 → x.high = 0 ∧ x.while_ = -1)
def ordB (y x : Edg) : Bool := decide (y.from_ < x.from_ ∨ (y.from_ = x.from_ ∧ y.to_ < x.to_))
def oneB (y x : Edg) : Bool := decide (y.to_ = x.to_ → y.event = x.event)
/-- edge i fits those ahead of it -/
def fitsB (n nE nC : Nat) (xs : List Edg) (i : Nat) : Bool :=
  match xs[i]? with
  | none => true
  | some x => edgeB n nE nC x && startB x && (match i with | 0 => true | j + 1 => (match xs[j]? with | none => true | some y => ordB y x)) && (xs.take i).all (fun y => oneB y x)
def headB (fin : List Bool) : Bool := decide (2 ≤ fin.length) && decide (fin.length ≤ 33) && !(fin.getD 0 false)
def validB (a : Aut) : Bool := headB a.fin && (List.range a.edges.length).all (fitsB a.fin.length a.nE a.nC a.edges)

theorem valid_upto {a : Aut} {k : Nat} (h : ∀ i, i < k → fitsB a.fin.length a.nE a.nC a.edges i = true) (hb : fitsB a.fin.length a.nE a.nC a.edges k = true) : ∀ i, i < k + 1 → fitsB a.fin.length a.nE a.nC a.edges i = true := fun i hi => by
  rcases Nat.lt_or_ge i k with h1 | h1
  · exact h i h1
  · have : i = k := by omega
    subst this; exact hb
theorem valid_bad {a : Aut} {k : Nat} (hk : k < a.edges.length) (hb : fitsB a.fin.length a.nE a.nC a.edges k = false) : validB a = false := by
  unfold validB
  rw [Bool.and_eq_false_iff]
  right
  rw [← Bool.not_eq_true, List.all_eq_true]
  intro h
  have := h k (List.mem_range.2 hk)
  rw [hb] at this
  cases this
theorem valid_good {a : Aut} (h0 : headB a.fin = true) (h : ∀ i, i < a.edges.length → fitsB a.fin.length a.nE a.nC a.edges i = true) : validB a = true := by
  unfold validB
  rw [h0, Bool.true_and, List.all_eq_true]
  intro i hi
  exact h i (List.mem_range.1 hi)
theorem valid_head {a : Aut} (h0 : headB a.fin = false) : validB a = false := by
  unfold validB; rw [h0]; rfl
theorem fits_at {n nE nC : Nat} {xs : List Edg} {i : Nat} (hi : i < xs.length) : fitsB n nE nC xs i = (edgeB n nE nC xs[i] && startB xs[i] && (if h : 0 < i then ordB (xs[i - 1]'(by omega)) xs[i] else true) && (xs.take i).all (fun y => oneB y xs[i])) := by
  unfold fitsB
  rw [List.getElem?_eq_getElem hi]
  cases i with
  | zero => rfl
  | succ j =>
    have hj : j < xs.length := by omega
    simp only [List.getElem?_eq_getElem hj]
    rw [dif_pos (by omega)]
    simp

end Go.Proofs.Ytkbiefklilelmaa

/-
  Edges in a box; the head of an automaton; the edges ahead of one.
-/
namespace Go.Proofs.Ytkbiefklilelmaa
open Go.RowKit

theorem box6 {w : World} {N : Nat} {a b c d e f : Value} {t : TypeId} (h : w.heap[N]? = some (.cells #[a, b, c, d, e, f] t (0, 0))) : w.cell? ⟨N, 0, none⟩ = some a ∧ w.cell? ⟨N, 1, none⟩ = some b ∧ w.cell? ⟨N, 2, none⟩ = some c ∧ w.cell? ⟨N, 3, none⟩ = some d ∧ w.cell? ⟨N, 4, none⟩ = some e ∧ w.cell? ⟨N, 5, none⟩ = some f :=
  ⟨by rw [cell_of_row w N _ _ t (0, 0) h]; rfl, by rw [cell_of_row w N _ _ t (0, 0) h]; rfl, by rw [cell_of_row w N _ _ t (0, 0) h]; rfl, by rw [cell_of_row w N _ _ t (0, 0) h]; rfl, by rw [cell_of_row w N _ _ t (0, 0) h]; rfl, by rw [cell_of_row w N _ _ t (0, 0) h]; rfl⟩
theorem head_cases (fin : List Bool) : (fin.length < 2 ∧ headB fin = false) ∨ (33 < fin.length ∧ headB fin = false) ∨ (2 ≤ fin.length ∧ fin.length ≤ 33 ∧ fin[0]? = some true ∧ headB fin = false) ∨ (2 ≤ fin.length ∧ fin.length ≤ 33 ∧ fin[0]? = some false ∧ headB fin = true) := by
  unfold headB
  rcases Nat.lt_or_ge fin.length 2 with h | h
  · exact .inl ⟨h, by rw [decide_eq_false (by omega)]; rfl⟩
  · rcases Nat.lt_or_ge 33 fin.length with h2 | h2
    · exact .inr (.inl ⟨h2, by rw [decide_eq_true h, decide_eq_false (by omega)]; rfl⟩)
    · rw [decide_eq_true h, decide_eq_true h2]
      have h0 : 0 < fin.length := by omega
      rw [List.getD, List.getElem?_eq_getElem h0]
      cases hb : fin[0]
      · exact .inr (.inr (.inr ⟨h, h2, rfl, rfl⟩))
      · exact .inr (.inr (.inl ⟨h, h2, rfl, rfl⟩))
theorem one_all {xs : List Edg} {k : Nat} {x : Edg} (h : ∀ i y, i < k → xs[i]? = some y → oneB y x = true) : (xs.take k).all (fun y => oneB y x) = true := by
  rw [List.all_eq_true]
  intro y hy
  obtain ⟨i, hi, rfl⟩ := List.getElem_of_mem hy
  rw [List.length_take] at hi
  refine h i _ (by omega) ?_
  rw [List.getElem_take, List.getElem?_eq_getElem]
theorem one_bad {xs : List Edg} {k m : Nat} {x y : Edg} (hm : m < k) (hy : xs[m]? = some y) (h : oneB y x = false) : (xs.take k).all (fun y => oneB y x) = false := by
  rw [← Bool.not_eq_true, List.all_eq_true]
  intro ha
  have hl := (List.getElem?_eq_some_iff.1 hy).1
  have := ha y (by
    have h1 : (xs.take k)[m]? = some y := by rw [List.getElem?_take_of_lt hm]; exact hy
    exact List.mem_of_getElem? h1)
  rw [h] at this
  cases this
theorem one_next {xs : List Edg} {m : Nat} {x y : Edg} (h : ∀ i z, i < m → xs[i]? = some z → oneB z x = true) (hy : xs[m]? = some y) (hb : oneB y x = true) : ∀ i z, i < m + 1 → xs[i]? = some z → oneB z x = true := fun i z hi hz => by
  rcases Nat.lt_or_ge i m with h1 | h1
  · exact h i z h1 hz
  · have : i = m := by omega
    subst this
    rw [hy] at hz
    injection hz with hz
    subst hz
    exact hb

end Go.Proofs.Ytkbiefklilelmaa
