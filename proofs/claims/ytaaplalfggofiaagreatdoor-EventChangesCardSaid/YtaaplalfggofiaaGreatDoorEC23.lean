/-
  Several texts in one: Arr, ZipM. Each says at its head what it holds.
-/
import Derived.Test.YtaaplalfggofiaaGreatDoorEC7
import Derived.Test.YtaaplalfggofiaaGreatDoorEC11
import Derived.OwnWalk
import Derived.Test.YtaaplalfggofiaaGreatDoorEC15
import Derived.Test.YtaaplalfggofiaaGreatDoorEC18
import Derived.Test.YtaaplalfggofiaaGreatDoorEC21
import Derived.Test.YtaaplalfggofiaaGreatDoorEC10

/-
  Blocks that hold a list of ints or of bools, made by make and written cell by cell.
-/
namespace Go.Proofs.YtaaplalfggofiaaGreatDoor
open Go.RowKit

def ArI (w : World) (g : Nat) (xs : List Int) : Prop := w.heap[g]? = some (.cells (xs.map (Value.int .i64)).toArray 3 (0, 0))
section
variable {w w' : World} {g g' k : Nat} {v : Value}
theorem ArI.lt {xs : List Int} (h : ArI w g xs) : g < w.heap.size := box_lt h
theorem ArI.cell {xs : List Int} (h : ArI w g xs) {x : Int} (hk : xs[k]? = some x) : w.cell? ⟨g, k, none⟩ = some (.int .i64 x) := by
  rw [cell_of_row w g k _ _ (0, 0) h]
  simp [hk]
theorem ArI.froz {xs : List Int} (h : ArI w g xs) : w.frozen? ⟨g, k, none⟩ = false := by unfold ArI at h; simp [World.frozen?, h]
theorem ArI.set {xs : List Int} (h : ArI w g xs) (x : Int) : ArI (w.setCell ⟨g, k, none⟩ (.int .i64 x)) g (xs.set k x) := by
  unfold ArI at *
  simp [World.setCell, Array.getElem?_modify, h, List.map_set]
theorem ArI.other {xs : List Int} (h : ArI w g xs) (hne : g ≠ g') : ArI (w.setCell ⟨g', k, none⟩ v) g xs := (Below.heap_setCell _ _ _ _ hne).trans h
theorem ArI.below {xs : List Int} (h : ArI w g xs) (hb : Below w.heap.size w w') : ArI w' g xs := (hb.block g h.lt).trans h
theorem made_list (z : Value) (n : Nat) : (madeCells #[z] n).toList = List.replicate n z := by
  refine List.ext_getElem (by simp [madeCells]) fun i h1 h2 => ?_
  simp [madeCells, Nat.mod_one]
theorem ArI.made {B n : Nat} (h : w.ownsRow B 3 1 (.slice (some ⟨g, 0, none⟩) n n) n (madeCells #[.int .i64 0] n).toList) : ArI w g (List.replicate n 0) := by
  rw [made_list] at h
  rcases h.2 with ⟨h2, _⟩ | ⟨g', cap, cur, h2, _, h4, _, _, h7, h8⟩
  · cases h2
  · injection h2 with h2 _ h3
    injection h2 with h2
    injection h2 with h2
    subst h2 h3
    have : cur.toList = List.replicate n (.int .i64 0) := by rw [← h8, List.take_of_length_le (by simp [h7])]
    unfold ArI
    rw [h4, List.map_replicate, ← this]
end

section
variable {w w' : World} {gl gm gk i : Nat} {ls ms : List Int} {ks : List Bool}
end

end Go.Proofs.YtaaplalfggofiaaGreatDoor

/-
  runs.Zip in memory: the lists that it reads, the rows that it makes, a round's state.
-/
namespace Go.Proofs.YtaaplalfggofiaaGreatDoor
open Go.RowKit

theorem Spans.ends {g : Int → ByteArray} {a b : Int} {l : List Spn} (hs : Spans g a b l) : ∃ x0 x1, l[0]? = some x0 ∧ x0.f = a ∧ l[l.length - 1]? = some x1 ∧ x1.t = b := by
  have hlp := List.length_pos_iff.2 hs.ne
  have h0 : l[0]? = some l[0] := List.getElem?_eq_getElem hlp
  rcases List.eq_nil_or_concat l with h | ⟨m, x, h⟩
  · exact absurd h hs.ne
  · rw [List.concat_eq_append] at h
    refine ⟨_, x, h0, (hs.first h0).1, ?_, ?_⟩
    · rw [h]; simp
    · rw [h] at hs; exact hs.last.1
/-- lists of spans in memory -/
structure LsAt (w : World) (P : Nat → Prop) (A : Option Addr) (ls : List SpL) : Prop where
  row : Row w P 1 (fun s => [celSp s]) A ls
  each : ∀ s ∈ ls, Row w P 3 encSp s.A s.l
theorem LsAt.stay {w w' : World} {P : Nat → Prop} {A : Option Addr} {ls : List SpL} (h : LsAt w P A ls) (hs : Stay P w w') : LsAt w' P A ls := ⟨h.row.stay hs, fun s hm => (h.each s hm).stay hs⟩
theorem LsAt.grow {w w' : World} {A : Option Addr} {ls : List SpL} (h : LsAt w (Lo w.heap.size) A ls) (hb : Below w.heap.size w w') : LsAt w' (Lo w'.heap.size) A ls :=
  ⟨h.row.grow hb, fun s hm => (h.each s hm).grow hb⟩
theorem LsAt.list {w : World} {P : Nat → Prop} {A : Option Addr} {ls : List SpL} (h : LsAt w P A ls) {j : Nat} (hj : j < ls.length) : ∃ b o, A = some ⟨b, o, none⟩ ∧ w.cell? ⟨b, o + j, none⟩ = some (celSp ls[j]) := by
  obtain ⟨b, o, e, _, hc⟩ := h.row.at_ hj
  have := hc 0 (by omega)
  rw [Nat.mul_one, Nat.add_zero] at this
  exact ⟨b, o, e, this⟩
/-- the ends of a list -/
theorem LsAt.ends {w : World} {P : Nat → Prop} {A : Option Addr} {ls : List SpL} (h : LsAt w P A ls) {s : SpL} (hs : s ∈ ls) {g : Int → ByteArray} {f t : Int} (hsp : Spans g f t s.l) :
    ∃ b o, s.A = some ⟨b, o, none⟩ ∧ P b ∧ w.cell? ⟨b, o, none⟩ = some (.int .i64 f) ∧ w.cell? ⟨b, o + (s.l.length - 1) * 3 + 1, none⟩ = some (.int .i64 t) ∧ ∀ i x, s.l[i]? = some x → SpAt w b (o + i * 3) x := by
  obtain ⟨b, o, e, hb, hc⟩ := (h.each s hs).sp_at hsp.ne
  obtain ⟨x0, x1, h0, h1, h2, h3⟩ := hsp.ends
  have k0 := (hc 0 x0 h0).1
  have k1 := (hc _ x1 h2).2.1
  rw [h1, Nat.zero_mul, Nat.add_zero] at k0
  rw [h3] at k1
  exact ⟨b, o, e, hb, k0, k1, hc⟩

structure RwM where
  f : Int
  t : Int
  VA : Option Addr
  vc : Nat
  vs : List ByteArray
def RwM.rw (r : RwM) : Rw := ⟨r.f, r.t, r.vs⟩
def encRw (r : RwM) : List Value := [.int .i64 r.f, .int .i64 r.t, .slice r.VA r.vs.length r.vc]
def encRws (l : List RwM) : List Value := l.flatMap encRw
theorem encRws_app (l m : List RwM) : encRws (l ++ m) = encRws l ++ encRws m := by simp [encRws]
theorem infoRw : (Tryz.prog.info? 195).map (fun i => (i.zero, i.size, i.bytes)) = some (some (.agg #[.int .i64 0, .int .i64 0, .slice none 0 0]), 3, 40) := by kernel_rfl
theorem rw_one (r : RwM) : ∀ u ∈ encRw r, u.oneCell' = true := by
  intro u hu
  simp only [encRw, List.mem_cons, List.not_mem_nil, or_false] at hu
  rcases hu with rfl | rfl | rfl <;> rfl
/-- rows that the call itself has made -/
def OwnRw (w : World) (base : Nat) (A : Option Addr) (c : Nat) (l : List RwM) : Prop := w.ownsRow base 195 3 (.slice A l.length c) l.length (encRws l)
theorem OwnRw.nil (w : World) (base : Nat) : OwnRw w base none 0 [] := World.ownsRow_nil w base _ 3
theorem OwnRw.of_row {w : World} {base : Nat} {v : Value} {n : Nat} {vs : List Value} {l : List RwM} (h : w.ownsRow base 195 3 v n vs) (hn : n = l.length) (hv : vs = encRws l) : ∃ A c, v = .slice A l.length c ∧ OwnRw w base A c l := by
  subst hn hv
  rcases Joins.ownsRow_forms h with ⟨rfl, h0⟩ | ⟨g, cap, rfl⟩
  · exact ⟨none, 0, by rw [h0], by unfold OwnRw; rw [h0] at h ⊢; exact h⟩
  · exact ⟨_, cap, rfl, h⟩
/-- rows with their values, read -/
structure RwsAt (w : World) (P : Nat → Prop) (A : Option Addr) (l : List RwM) : Prop where
  row : Row w P 3 encRw A l
  each : ∀ r ∈ l, StrsAt w P r.VA r.vs
theorem OwnRw.row {w : World} {base c : Nat} {A : Option Addr} {l : List RwM} (h : OwnRw w base A c l) : Row w (fun b => base ≤ b ∧ b < w.heap.size) 3 encRw A l := fun hne => by
  obtain ⟨g, rfl, h1⟩ := own_place h (List.length_pos_iff.2 hne)
  have h2 := own_ob h g rfl
  refine ⟨g, 0, rfl, ⟨h2.1, h2.2⟩, fun i x hi j hj => ?_⟩
  have hlt := (List.getElem?_eq_some_iff.1 hi).1
  rw [Nat.zero_add, World.ownsRow.cellAt h _ (by omega)]
  exact flat_at encRw 3 (fun _ => rfl) hi hj

/-- between rounds: the places, the rows so far -/
structure ZM (w : World) (G : Nat) (at_ : List Int) (A : Option Addr) (c : Nat) (rows : List RwM) (W : World) : Prop where
  bel : Below w.heap.size w W
  gl : w.heap.size ≤ G
  ar : ArI W G at_
  own : OwnRw W w.heap.size A c rows
  vals : ∀ r ∈ rows, OwnStr W w.heap.size r.VA r.vc r.vs
/-- inside of a round, whose row lies in the block behind V0's -/
structure ZR (V0 : World) (G : Nat) (at_ : List Int) (f e : Int) (VA : Option Addr) (vc : Nat) (vs : List ByteArray) (W : World) : Prop where
  but : But V0.heap.size (some G) V0 W
  ar : ArI W G at_
  box : W.heap[V0.heap.size]? = some (.cells #[.int .i64 f, .int .i64 e, .slice VA vs.length vc] 195 (0, 0))
  own : OwnStr W (V0.heap.size + 1) VA vc vs
section
variable {w V0 W W' : World} {G c vc : Nat} {at_ : List Int} {A VA : Option Addr} {rows : List RwM} {f e : Int} {vs : List ByteArray}
theorem own_ne_type {W : World} {base size n m : Nat} {e e' : TypeId} {A : Option Addr} {c : Nat} {xs : List Value} (h : W.ownsRow base e size (.slice A n c) m xs) (hm : m = n) {b : Nat} {cs : Array Value} (hb : W.heap[b]? = some (.cells cs e' (0, 0))) (hne : e' ≠ e) : ob A ≠ some b := fun h1 => by
  subst hm
  obtain ⟨cs', h2⟩ := own_cellsT h h1
  rw [hb] at h2
  injection h2 with h2
  injection h2 with _ h2
  exact hne h2
theorem ZM.noG (h : ZM w G at_ A c rows W) : ob A ≠ some G := own_ne_type h.own rfl h.ar (by decide)
theorem ZM.noGv (h : ZM w G at_ A c rows W) {r : RwM} (hr : r ∈ rows) : ob r.VA ≠ some G := own_ne_type (h.vals r hr) rfl h.ar (by decide)
theorem ZR.start (h : ZM w G at_ A c rows W) {f e : Int} {o : Obj} (ho : o = .cells #[.int .i64 f, .int .i64 e, .slice none 0 0] 195) : ZR W G at_ f e none 0 [] (W.alloc o) := by
  subst ho
  have hb : Below W.heap.size W (W.alloc (.cells #[.int .i64 f, .int .i64 e, .slice none 0 0] 195)) := (Below.refl _ _).alloc (Nat.le_refl _) _
  exact ⟨But.of hb, h.ar.below hb, heap_alloc_new W _, OwnStr.nil _ _⟩
theorem ZR.draw (h : ZR V0 G at_ f e VA vc vs W) : ZR V0 G at_ f e VA vc vs W.drew := ⟨⟨h.but.os, h.but.tape, h.but.output, h.but.size, h.but.block⟩, h.ar, h.box, h.own⟩
theorem ZR.noG (h : ZR V0 G at_ f e VA vc vs W) : ob VA ≠ some G := own_ne_type h.own rfl h.ar (by decide)
theorem ZR.noN (h : ZR V0 G at_ f e VA vc vs W) : ob VA ≠ some V0.heap.size := fun h1 => by have := (own_ob h.own _ h1).1; omega
theorem ZR.setAt (h : ZR V0 G at_ f e VA vc vs W) (hG : G < V0.heap.size) (j : Nat) (x : Int) : ZR V0 G (at_.set j x) f e VA vc vs (W.setCell ⟨G, j, none⟩ (.int .i64 x)) := by
  refine ⟨h.but.trans (but_cell (n := V0.heap.size)), h.ar.set x, (set_cell_other (by omega)).trans h.box, own_block h.own fun g hg => set_cell_other (fun e => h.noG (by rw [hg, e]))⟩
theorem ZR.setTo (h : ZR V0 G at_ f e VA vc vs W) (hG : G < V0.heap.size) (e' : Int) : ZR V0 G at_ f e' VA vc vs (W.setCell ⟨V0.heap.size, 1, none⟩ (.int .i64 e')) := by
  refine ⟨⟨h.but.os, h.but.tape, h.but.output, by simp [World.setCell]; exact h.but.size, fun b hb hn => (set_cell_other (by omega)).trans (h.but.block b hb hn)⟩, h.ar.other (by omega), ?_, own_block h.own fun g hg => set_cell_other (fun e => h.noN (by rw [hg, e]))⟩
  simp [World.setCell, Array.getElem?_modify, h.box]
/-- behind the append of a value and its store -/
theorem ZR.push (h : ZR V0 G at_ f e VA vc vs W) (hG : G < V0.heap.size) {v : ByteArray} {W1 W3 : World} (hW1 : W1 = W.alloc (.cells #[.string v] 9)) (hg : W1.grownBy W3 (ob VA)) {VA' : Option Addr} {vc' : Nat} (ho : OwnStr W3 (V0.heap.size + 1) VA' vc' (vs ++ [v])) :
    W3.heap[V0.heap.size]? = some (.cells #[.int .i64 f, .int .i64 e, .slice VA vs.length vc] 195 (0, 0)) ∧ ZR V0 G at_ f e VA' vc' (vs ++ [v]) (W3.setCell ⟨V0.heap.size, 2, none⟩ (.slice VA' (vs ++ [v]).length vc')) := by
  have hN := box_lt h.box
  have hGl := h.ar.lt
  have old : ∀ b, b < W.heap.size → ob VA ≠ some b → W3.heap[b]? = W.heap[b]? := fun b h1 h2 => by
    rw [hg.block b (by rw [hW1]; simp; omega) (fun e => h2 e.symm), hW1, Below.heap_alloc _ _ _ h1]
  have hbx : W3.heap[V0.heap.size]? = some (.cells #[.int .i64 f, .int .i64 e, .slice VA vs.length vc] 195 (0, 0)) := (old _ hN h.noN).trans h.box
  have har : ArI W3 G at_ := (old _ hGl h.noG).trans h.ar
  have hnb : ob VA' ≠ some V0.heap.size := fun h1 => by have := (own_ob ho _ h1).1; omega
  refine ⟨hbx, ⟨hg.os.trans ?_, hg.tape.trans ?_, hg.output.trans ?_, ?_, fun b hb hn => ?_⟩, har.other (by omega), ?_, own_block ho fun g hg' => set_cell_other (fun e => hnb (by rw [hg', e]))⟩
  · rw [hW1]; exact h.but.os
  · rw [hW1]; exact h.but.tape
  · rw [hW1]; exact h.but.output
  · have h1 := hg.size
    have h2 := h.but.size
    rw [hW1] at h1
    simp [World.setCell] at h1 ⊢
    omega
  · rw [set_cell_other (by omega), old b (by omega) (fun h1 => by have := (own_ob h.own _ h1).1; omega)]
    exact h.but.block b hb hn
  · simp [World.setCell, Array.getElem?_modify, hbx]
/-- the round is over -/
theorem ZM.round (h : ZM w G at_ A c rows V0) {at2 : List Int} (hr : ZR V0 G at2 f e VA vc vs W) : ZM w G at2 A c rows W ∧ OwnStr W w.heap.size VA vc vs ∧ (∀ g, ob A = some g → ob VA ≠ some g) := by
  have hle := h.bel.size
  have hGl := h.ar.lt
  refine ⟨⟨⟨hr.but.os.trans h.bel.os, hr.but.tape.trans h.bel.tape, hr.but.output.trans h.bel.output, Nat.le_trans hle hr.but.size, fun b hb => (hr.but.block b (by omega) (fun e => by injection e with e; have := h.gl; omega)).trans (h.bel.block b hb)⟩, h.gl, hr.ar,
    own_block h.own fun g hg => hr.but.block g (own_ob h.own g hg).2 (fun e => h.noG (by rw [hg, e])), fun r hm => own_block (h.vals r hm) fun g hg => hr.but.block g (own_ob (h.vals r hm) g hg).2 (fun e => h.noGv hm (by rw [hg, e]))⟩, Joins.ownsRow_le hr.own (by omega), fun g hg hv => ?_⟩
  have h1 := (own_ob h.own g hg).2
  have h2 := (own_ob hr.own g hv).1
  omega
/-- behind the append of the round's row -/
theorem ZM.push (h : ZM w G at_ A c rows W) {r : RwM} (hv : OwnStr W w.heap.size r.VA r.vc r.vs) (hn : ∀ g, ob A = some g → ob r.VA ≠ some g) {W1 W3 : World} (hW1 : W1 = W.alloc (.cells (encRw r).toArray 195)) (hg : W1.grownBy W3 (ob A)) {A' : Option Addr} {c' : Nat} (ho : OwnRw W3 w.heap.size A' c' (rows ++ [r])) :
    ZM w G at_ A' c' (rows ++ [r]) W3 := by
  have hle := h.bel.size
  have old : ∀ b, b < W.heap.size → ob A ≠ some b → W3.heap[b]? = W.heap[b]? := fun b h1 h2 => by
    rw [hg.block b (by rw [hW1]; simp; omega) (fun e => h2 e.symm), hW1, Below.heap_alloc _ _ _ h1]
  refine ⟨⟨hg.os.trans ?_, hg.tape.trans ?_, hg.output.trans ?_, ?_, fun b hb => ?_⟩, h.gl, (old _ h.ar.lt h.noG).trans h.ar, ho, fun q hq => ?_⟩
  · rw [hW1]; exact h.bel.os
  · rw [hW1]; exact h.bel.tape
  · rw [hW1]; exact h.bel.output
  · have h1 := hg.size
    rw [hW1] at h1
    simp at h1
    omega
  · rw [old b (by omega) (fun h1 => by have := (own_ob h.own _ h1).1; omega)]
    exact h.bel.block b hb
  · rcases List.mem_append.1 hq with hq | hq
    · refine own_block (h.vals q hq) fun g hg' => old g (own_ob (h.vals q hq) g hg').2 (fun h1 => ?_)
      obtain ⟨cs, h2⟩ := own_cellsT h.own h1
      exact own_ne_type (h.vals q hq) rfl h2 (by decide) hg'
    · simp at hq
      subst hq
      exact own_block hv fun g hg' => old g (own_ob hv g hg').2 (fun h1 => hn g h1 hg')
end

end Go.Proofs.YtaaplalfggofiaaGreatDoor
