/-
  Several texts in one: Reads54. Each says at its head what it holds.
-/
import Derived.Test.YtgobkbjkndfliaaGreatDoorAP2
import Derived.Test.YtgobkbjkndfliaaGreatDoorAP5

/-
  Trees of nodes and automata, read out of the arguments.
-/
namespace Go.Proofs.YtgobkbjkndfliaaGreatDoor
open Go.ChangeShapes Go.WideShapes Go.ChangeAt Go.RowKit Go.Deep

section
variable {H : Type} {enc : TypeId × Value → H} {P : Program} {W : World} {base : Nat} {spare : Nat → Bool} {held : Bool}
theorem rd_slice_lt {α : Type} {t e : TypeId} (size bytes : Nat) (cells : α → List Value) (hd : α → Prop) (ht : P.underlying t = some (.slice e)) (hs : P.cellsOf e = size) (hpos : 0 < size) (hby : P.bytesOf e = bytes) {fuel : Nat}
    (rd : ∀ n cs y, n < fuel → DataW.trod enc P W base spare held n e cs = some y → Fit P e y.1 → ∃ a, cs = cells a ∧ hd a)
    {cs : List Value} {y : DataW H × List MemPlace} (h : DataW.trod enc P W base spare held fuel t cs = some y) (hf : Fit P t y.1) :
    ∃ (A : Option Addr) (c : Nat) (xs : List α), cs = [.slice A xs.length c] ∧ RowAt W (fun b => b < W.heap.size) size cells hd A xs ∧ xs.length * bytes ≤ reachBytes := by
  rcases DataW.trod_slice ht h with ⟨rfl, rfl⟩ | ⟨a, len, cap, elems, rest, n, hfu, rfl, rfl, hb, hl, hc, hel, hi, _⟩
  · exact ⟨none, 0, [], rfl, fun h => absurd rfl h, by simp⟩
  · have hfit : ∀ i (h : i < elems.length), Fit P e elems[i].1 := fun i h m hm => hf m (by
      simp only [DataW.weights, ht, List.mem_cons, List.mem_append]
      exact .inr (.inl (weightsAll_mem (List.mem_map.2 ⟨elems[i], List.getElem_mem h, rfl⟩) m hm)))
    have hrow : ∀ i, i < len → ∃ x : α, (∀ j, j < size → W.cell? ((a.add (i * size)).add j) = (cells x)[j]?) ∧ hd x ∧ (cells x).length = size := fun i hlt => by
      have h1 := hi i hlt
      have hlt' : i < elems.length := by omega
      rw [List.getElem?_eq_getElem hlt', Option.bind_eq_some_iff] at h1
      obtain ⟨cs, hcs, htr⟩ := h1
      obtain ⟨x, rfl, hx⟩ := rd n cs _ (by omega) htr (hfit i hlt')
      obtain ⟨_, hcl, hat⟩ := World.cells?_some hcs
      rw [hs] at hcl hat
      exact ⟨x, hat, hx, hcl⟩
    obtain ⟨xs, hxl, hx⟩ := pick_list _ len hrow
    refine ⟨some a, cap, xs, by rw [hxl], fun hne => ?_, ?_⟩
    · have hp : 0 < xs.length := List.length_pos_iff.2 hne
      obtain ⟨b, off, spot⟩ := a
      have h0 : W.cell? ((Addr.add ⟨b, off, spot⟩ (0 * size)).add 0) = (cells xs[0])[0]? := (hx 0 _ (List.getElem?_eq_getElem hp)).1 0 hpos
      have hl0 := (hx 0 _ (List.getElem?_eq_getElem hp)).2.2
      rw [List.getElem?_eq_getElem (by omega)] at h0
      have hspot : spot = none := by simpa [Addr.add] using World.cell?_spot h0
      subst hspot
      have hblk := World.block_lt_of_cell? _ _ h0
      rw [addr_plus, addr_plus] at hblk
      refine ⟨b, off, rfl, hblk, fun i x hi => ⟨fun j hj => ?_, (hx i x hi).2.1⟩⟩
      have := (hx i x hi).1 j hj
      rwa [addr_plus, addr_plus] at this
    · have := hf ((elems.length + rest.length) * P.bytesOf e) (by simp [DataW.weights, ht])
      rw [hby] at this
      have h2 : xs.length * bytes ≤ (elems.length + rest.length) * bytes := Nat.mul_le_mul_right _ (by omega)
      omega
theorem rd_struct_lt {t : TypeId} {fs : Array Field} (ht : P.underlying t = some (.struct fs)) {n : Nat} {cs : List Value} {y : DataW H × List MemPlace} (h : DataW.trod enc P W base spare held n t cs = some y) (hf : Fit P t y.1) :
    cs.length = P.cellsOf t ∧ ∀ (i : Nat) (ft : TypeId) (off k : Nat), (fs[i]?.map fun f => (f.type, f.offset)) = some (ft, off) → P.cellsOf ft = k → ∃ m z, m < n ∧ DataW.trod enc P W base spare held m ft ((cs.drop off).take k) = some z ∧ Fit P ft z.1 := by
  obtain ⟨xs, m, hfu, rfl, hl, hxl, hx⟩ := DataW.trod_struct ht h
  refine ⟨hl, fun i ft off k hi hk => ?_⟩
  subst hk
  rw [Option.map_eq_some_iff] at hi
  obtain ⟨f, hi, e⟩ := hi
  injection e with e1 e2
  subst e1 e2
  have hlt : i < fs.size := (Array.getElem?_eq_some_iff.1 hi).1
  have h1 := hx i f hi
  rw [List.getElem?_eq_getElem (by omega)] at h1
  refine ⟨m, _, by omega, h1, fun k hk => hf k ?_⟩
  simp only [DataW.weights, ht]
  refine DataW.weights_mem_each (j := i) (t := f.type) (d := xs[i].1) ?_ ?_ k hk
  · rw [List.getElem?_map, Array.getElem?_toList, hi]; rfl
  · rw [List.getElem?_map, List.getElem?_eq_getElem (by omega)]; rfl
/-- the row that a reader gives -/
theorem row_of {α : Type} {size : Nat} {cells : α → List Value} {hd : α → Prop} {A : Option Addr} {xs : List α} (h : RowAt W (fun b => b < W.heap.size) size cells hd A xs) : Row W (Lo W.heap.size) size cells A xs ∧ ∀ x ∈ xs, hd x := by
  refine ⟨fun hne => ?_, fun x hx => ?_⟩
  · obtain ⟨b, off, e, hb, hc⟩ := h hne
    exact ⟨b, off, e, hb, fun i x hi j hj => (hc i x hi).1 j hj⟩
  · obtain ⟨i, hi⟩ := List.getElem?_of_mem hx
    obtain ⟨b, off, _, _, hc⟩ := h (fun e => by subst e; simp at hx)
    exact (hc i x hi).2
end

theorem cellsInt5 : Tryz.prog.cellsOf 3 = 1 := by kernel_rfl
theorem cellsBool5 : Tryz.prog.cellsOf 4 = 1 := by kernel_rfl
theorem cellsStr5 : Tryz.prog.cellsOf 9 = 1 := by kernel_rfl
theorem cellsNds5 : Tryz.prog.cellsOf 22 = 1 := by kernel_rfl
theorem cellsNd5 : Tryz.prog.cellsOf 24 = 9 := by kernel_rfl
theorem cellsEdg5 : Tryz.prog.cellsOf 39 = 6 := by kernel_rfl
theorem cellsBools5 : Tryz.prog.cellsOf 27 = 1 := by kernel_rfl
theorem cellsEdgs5 : Tryz.prog.cellsOf 28 = 1 := by kernel_rfl
theorem cellsAut5 : Tryz.prog.cellsOf 30 = 4 := by kernel_rfl

section
variable {H : Type} {enc : TypeId × Value → H} {W : World} {base : Nat} {spare : Nat → Bool} {held : Bool}

set_option maxRecDepth 100000 in
theorem rd_trees : ∀ (fuel : Nat) {cs : List Value} {y : DataW H × List MemPlace}, DataW.trod enc Tryz.prog W base spare held fuel 22 cs = some y → Fit Tryz.prog 22 y.1 →
    ∃ A c l, cs = [.slice A (List.length l) c] ∧ TreesAt W (Lo W.heap.size) A l := by
  intro fuel
  induction fuel using Nat.strongRecOn with
  | ind fuel ih =>
  intro cs y h hf
  obtain ⟨A, c, l, rfl, hr, hw⟩ := rd_slice_lt 9 104 cNd (fun n => TreesAt W (Lo W.heap.size) n.KA n.kids) Tryz.underlying22 cellsNd5 (by decide) (by kernel_rfl) (fun n cs y hn h hf => by
    obtain ⟨hl, hx⟩ := rd_struct_lt Tryz.underlying24 h hf
    rw [cellsNd5] at hl
    match cs, hl with
    | [c0, c1, c2, c3, c4, c5, c6, c7, c8], _ =>
      obtain ⟨_, _, _, h0, _⟩ := hx 0 3 0 1 rfl cellsInt5
      obtain ⟨_, _, _, h1, _⟩ := hx 1 3 1 1 rfl cellsInt5
      obtain ⟨_, _, _, h2, _⟩ := hx 2 9 2 1 rfl cellsStr5
      obtain ⟨_, _, _, h3, _⟩ := hx 3 9 3 1 rfl cellsStr5
      obtain ⟨_, _, _, h4, _⟩ := hx 4 3 4 1 rfl cellsInt5
      obtain ⟨_, _, _, h5, _⟩ := hx 5 3 5 1 rfl cellsInt5
      obtain ⟨_, _, _, h6, _⟩ := hx 6 3 6 1 rfl cellsInt5
      obtain ⟨_, _, _, h7, _⟩ := hx 7 3 7 1 rfl cellsInt5
      obtain ⟨m, _, hm, h8, f8⟩ := hx 8 22 8 1 rfl cellsNds5
      simp only [List.drop_zero, List.drop_succ_cons, List.take_succ_cons, List.take_zero] at h0 h1 h2 h3 h4 h5 h6 h7 h8
      obtain ⟨a0, e0, _⟩ := rd_int Tryz.underlying3 h0
      obtain ⟨a1, e1, _⟩ := rd_int Tryz.underlying3 h1
      obtain ⟨a2, e2, _⟩ := rd_string Tryz.underlying9 h2
      obtain ⟨a3, e3, _⟩ := rd_string Tryz.underlying9 h3
      obtain ⟨a4, e4, _⟩ := rd_int Tryz.underlying3 h4
      obtain ⟨a5, e5, _⟩ := rd_int Tryz.underlying3 h5
      obtain ⟨a6, e6, _⟩ := rd_int Tryz.underlying3 h6
      obtain ⟨a7, e7, _⟩ := rd_int Tryz.underlying3 h7
      obtain ⟨K, kc, kl, e8, hk⟩ := ih m (by omega) h8 f8
      simp only [List.cons.injEq, and_true] at e0 e1 e2 e3 e4 e5 e6 e7 e8
      subst e0 e1 e2 e3 e4 e5 e6 e7 e8
      exact ⟨.mk a0 a1 a2 a3 a4 a5 a6 a7 K kc kl, rfl, hk⟩) h hf
  obtain ⟨h1, h2⟩ := row_of hr
  exact ⟨A, c, l, rfl, .mk A l (by have : reachBytes < 2 ^ 47 := reachBytes_lt; omega) h1 h2⟩

theorem rd_edgs {fuel : Nat} {cs : List Value} {y : DataW H × List MemPlace} (h : DataW.trod enc Tryz.prog W base spare held fuel 28 cs = some y) (hf : Fit Tryz.prog 28 y.1) :
    ∃ A c l, cs = [.slice A (List.length l) c] ∧ Row W (Lo W.heap.size) 6 cEdg A l ∧ (∀ e ∈ l, I64E e) ∧ l.length ≤ 140737488355328 := by
  obtain ⟨A, c, rs, rfl, hr, hw⟩ := rd_slice 6 48 cEdg I64E Tryz.underlying28 cellsEdg5 (by decide) (by kernel_rfl)
    (fun n cs y h hf => by
      obtain ⟨hl, hx⟩ := rd_struct Tryz.underlying39 h hf
      rw [cellsEdg5] at hl
      match cs, hl with
      | [c0, c1, c2, c3, c4, c5], _ =>
        obtain ⟨_, _, h0, _⟩ := hx 0 3 0 1 rfl cellsInt5
        obtain ⟨_, _, h1, _⟩ := hx 1 3 1 1 rfl cellsInt5
        obtain ⟨_, _, h2, _⟩ := hx 2 3 2 1 rfl cellsInt5
        obtain ⟨_, _, h3, _⟩ := hx 3 3 3 1 rfl cellsInt5
        obtain ⟨_, _, h4, _⟩ := hx 4 3 4 1 rfl cellsInt5
        obtain ⟨_, _, h5, _⟩ := hx 5 3 5 1 rfl cellsInt5
        simp only [List.drop_zero, List.drop_succ_cons, List.take_succ_cons, List.take_zero] at h0 h1 h2 h3 h4 h5
        obtain ⟨a0, e0, b0⟩ := rd_int Tryz.underlying3 h0
        obtain ⟨a1, e1, b1⟩ := rd_int Tryz.underlying3 h1
        obtain ⟨a2, e2, b2⟩ := rd_int Tryz.underlying3 h2
        obtain ⟨a3, e3, b3⟩ := rd_int Tryz.underlying3 h3
        obtain ⟨a4, e4, b4⟩ := rd_int Tryz.underlying3 h4
        obtain ⟨a5, e5, b5⟩ := rd_int Tryz.underlying3 h5
        simp only [List.cons.injEq, and_true] at e0 e1 e2 e3 e4 e5
        subst e0 e1 e2 e3 e4 e5
        exact ⟨⟨a0, a1, a2, a3, a4, a5⟩, rfl, b0, b1, b2, b3, b4, b5⟩) h hf
  obtain ⟨h1, h2⟩ := row_of hr
  exact ⟨A, c, rs, rfl, h1, h2, by have : reachBytes < 2 ^ 47 := reachBytes_lt; omega⟩
theorem rd_bools {fuel : Nat} {cs : List Value} {y : DataW H × List MemPlace} (h : DataW.trod enc Tryz.prog W base spare held fuel 27 cs = some y) (hf : Fit Tryz.prog 27 y.1) :
    ∃ A c l, cs = [.slice A (List.length l) c] ∧ Row W (Lo W.heap.size) 1 cBool A l ∧ l.length ≤ 140737488355328 := by
  obtain ⟨A, c, rs, rfl, hr, hw⟩ := rd_slice 1 1 cBool (fun _ => True) Tryz.underlying27 cellsBool5 (by decide) (by kernel_rfl)
    (fun n cs y h hf => by obtain ⟨z, rfl⟩ := rd_bool Tryz.underlying4 h; exact ⟨z, rfl, trivial⟩) h hf
  obtain ⟨h1, h2⟩ := row_of hr
  exact ⟨A, c, rs, rfl, h1, by have : reachBytes < 2 ^ 47 := reachBytes_lt; omega⟩
theorem rd_aut {fuel : Nat} {cs : List Value} {y : DataW H × List MemPlace} (h : DataW.trod enc Tryz.prog W base spare held fuel 30 cs = some y) (hf : Fit Tryz.prog 30 y.1) :
    ∃ (a : Aut) (evs cds : List Nd), cs = encA a ∧ AutAt W (Lo W.heap.size) a ∧ AutTrees W a evs cds ∧ AutLe a := by
  obtain ⟨hl, hx⟩ := rd_struct Tryz.underlying30 h hf
  rw [cellsAut5] at hl
  match cs, hl with
  | [c0, c1, c2, c3], _ =>
    obtain ⟨_, _, h0, f0⟩ := hx 0 22 0 1 rfl cellsNds5
    obtain ⟨_, _, h1, f1⟩ := hx 1 22 1 1 rfl cellsNds5
    obtain ⟨_, _, h2, f2⟩ := hx 2 27 2 1 rfl cellsBools5
    obtain ⟨_, _, h3, f3⟩ := hx 3 28 3 1 rfl cellsEdgs5
    simp only [List.drop_zero, List.drop_succ_cons, List.take_succ_cons, List.take_zero] at h0 h1 h2 h3
    obtain ⟨A0, q0, l0, e0, t0⟩ := rd_trees _ h0 f0
    obtain ⟨A1, q1, l1, e1, t1⟩ := rd_trees _ h1 f1
    obtain ⟨A2, q2, l2, e2, r2, n2⟩ := rd_bools h2 f2
    obtain ⟨A3, q3, l3, e3, r3, i3, n3⟩ := rd_edgs h3 f3
    simp only [List.cons.injEq, and_true] at e0 e1 e2 e3
    subst e0 e1 e2 e3
    exact ⟨⟨A0, l0.length, q0, A1, l1.length, q1, A2, q2, l2, A3, q3, l3⟩, l0, l1, rfl, ⟨r2, r3⟩, ⟨rfl, rfl, t0, t1⟩, ⟨by have := t0.len; dsimp only; omega, by have := t1.len; dsimp only; omega, n2, n3, i3⟩⟩
end

end Go.Proofs.YtgobkbjkndfliaaGreatDoor
