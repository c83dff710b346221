/-
  Several texts in one: ZipM, Zip, Al3, Iter. Each says at its head what it holds.
-/
import Derived.Test.YtbhcmnfeeogdhaaGreatDoorES11
import Derived.Test.YtbhcmnfeeogdhaaGreatDoorES13
import Derived.Test.YtbhcmnfeeogdhaaGreatDoorES14
import Derived.Test.YtbhcmnfeeogdhaaGreatDoorES19
import Derived.Test.YtbhcmnfeeogdhaaGreatDoorES8
import Derived.Test.YtbhcmnfeeogdhaaGreatDoorES10
import Derived.Deep.RegionHeld3
import Derived.StillTailTactics
import Derived.Deep.RegionLaw
import Derived.Deep.DeepCutAuto
import Derived.Deep.QuietTactic
import Derived.BigQuiet
import Derived.IntWalk
import Derived.Shelf.SlIterI.Nil
import Derived.Shelf.SortM.Plain
import Derived.Shelf.SortM.SortNone
import Derived.Ground.GgzProg
import Derived.Ground.SlgmProg
import Derived.Test.YtbhcmnfeeogdhaaGreatDoorProg

/-
  runs.Zip in memory: the lists that it reads, the rows that it makes, a round's state.
-/
namespace Go.Proofs.YtbhcmnfeeogdhaaGreatDoor
open Go.RowKit

theorem Spans.ends {g : Int → ByteArray} {a b : Int} {l : List Spn} (hs : Spans g a b l) : ∃ x0 x1, l[0]? = some x0 ∧ x0.f = a ∧ l[l.length - 1]? = some x1 ∧ x1.t = b := by
  have hlp := List.length_pos_iff.2 hs.ne
  have h0 : l[0]? = some l[0] := List.getElem?_eq_getElem hlp
  rcases List.eq_nil_or_concat l with h | ⟨m, x, h⟩
  · exact absurd h hs.ne
  · rw [List.concat_eq_append] at h
    refine ⟨_, x, h0, (hs.first h0).1, ?_, ?_⟩
    · rw [h]; simp
    · rw [h] at hs; exact hs.last.1
/-- lists of spans in memory -/
structure LsAt (w : World) (P : Nat → Prop) (A : Option Addr) (ls : List SpL) : Prop where
  row : Row w P 1 (fun s => [celSp s]) A ls
  each : ∀ s ∈ ls, Row w P 3 encSp s.A s.l
theorem LsAt.stay {w w' : World} {P : Nat → Prop} {A : Option Addr} {ls : List SpL} (h : LsAt w P A ls) (hs : Stay P w w') : LsAt w' P A ls := ⟨h.row.stay hs, fun s hm => (h.each s hm).stay hs⟩
theorem LsAt.grow {w w' : World} {A : Option Addr} {ls : List SpL} (h : LsAt w (Lo w.heap.size) A ls) (hb : Below w.heap.size w w') : LsAt w' (Lo w'.heap.size) A ls :=
  ⟨h.row.grow hb, fun s hm => (h.each s hm).grow hb⟩
theorem LsAt.list {w : World} {P : Nat → Prop} {A : Option Addr} {ls : List SpL} (h : LsAt w P A ls) {j : Nat} (hj : j < ls.length) : ∃ b o, A = some ⟨b, o, none⟩ ∧ w.cell? ⟨b, o + j, none⟩ = some (celSp ls[j]) := by
  obtain ⟨b, o, e, _, hc⟩ := h.row.at_ hj
  have := hc 0 (by omega)
  rw [Nat.mul_one, Nat.add_zero] at this
  exact ⟨b, o, e, this⟩
/-- the ends of a list -/
theorem LsAt.ends {w : World} {P : Nat → Prop} {A : Option Addr} {ls : List SpL} (h : LsAt w P A ls) {s : SpL} (hs : s ∈ ls) {g : Int → ByteArray} {f t : Int} (hsp : Spans g f t s.l) :
    ∃ b o, s.A = some ⟨b, o, none⟩ ∧ P b ∧ w.cell? ⟨b, o, none⟩ = some (.int .i64 f) ∧ w.cell? ⟨b, o + (s.l.length - 1) * 3 + 1, none⟩ = some (.int .i64 t) ∧ ∀ i x, s.l[i]? = some x → SpAt w b (o + i * 3) x := by
  obtain ⟨b, o, e, hb, hc⟩ := (h.each s hs).sp_at hsp.ne
  obtain ⟨x0, x1, h0, h1, h2, h3⟩ := hsp.ends
  have k0 := (hc 0 x0 h0).1
  have k1 := (hc _ x1 h2).2.1
  rw [h1, Nat.zero_mul, Nat.add_zero] at k0
  rw [h3] at k1
  exact ⟨b, o, e, hb, k0, k1, hc⟩

structure RwM where
  f : Int
  t : Int
  VA : Option Addr
  vc : Nat
  vs : List ByteArray
def RwM.rw (r : RwM) : Rw := ⟨r.f, r.t, r.vs⟩
def encRw (r : RwM) : List Value := [.int .i64 r.f, .int .i64 r.t, .slice r.VA r.vs.length r.vc]
def encRws (l : List RwM) : List Value := l.flatMap encRw
theorem encRws_app (l m : List RwM) : encRws (l ++ m) = encRws l ++ encRws m := by simp [encRws]
theorem infoRw : (Tryz.prog.info? 142).map (fun i => (i.zero, i.size, i.bytes)) = some (some (.agg #[.int .i64 0, .int .i64 0, .slice none 0 0]), 3, 40) := by kernel_rfl
theorem rw_one (r : RwM) : ∀ u ∈ encRw r, u.oneCell' = true := by
  intro u hu
  simp only [encRw, List.mem_cons, List.not_mem_nil, or_false] at hu
  rcases hu with rfl | rfl | rfl <;> rfl
/-- rows that the call itself has made -/
def OwnRw (w : World) (base : Nat) (A : Option Addr) (c : Nat) (l : List RwM) : Prop := w.ownsRow base 142 3 (.slice A l.length c) l.length (encRws l)
theorem OwnRw.nil (w : World) (base : Nat) : OwnRw w base none 0 [] := World.ownsRow_nil w base _ 3
theorem OwnRw.of_row {w : World} {base : Nat} {v : Value} {n : Nat} {vs : List Value} {l : List RwM} (h : w.ownsRow base 142 3 v n vs) (hn : n = l.length) (hv : vs = encRws l) : ∃ A c, v = .slice A l.length c ∧ OwnRw w base A c l := by
  subst hn hv
  rcases Joins.ownsRow_forms h with ⟨rfl, h0⟩ | ⟨g, cap, rfl⟩
  · exact ⟨none, 0, by rw [h0], by unfold OwnRw; rw [h0] at h ⊢; exact h⟩
  · exact ⟨_, cap, rfl, h⟩
/-- rows with their values, read -/
structure RwsAt (w : World) (P : Nat → Prop) (A : Option Addr) (l : List RwM) : Prop where
  row : Row w P 3 encRw A l
  each : ∀ r ∈ l, StrsAt w P r.VA r.vs
theorem OwnRw.row {w : World} {base c : Nat} {A : Option Addr} {l : List RwM} (h : OwnRw w base A c l) : Row w (fun b => base ≤ b ∧ b < w.heap.size) 3 encRw A l := fun hne => by
  obtain ⟨g, rfl, h1⟩ := own_place h (List.length_pos_iff.2 hne)
  have h2 := own_ob h g rfl
  refine ⟨g, 0, rfl, ⟨h2.1, h2.2⟩, fun i x hi j hj => ?_⟩
  have hlt := (List.getElem?_eq_some_iff.1 hi).1
  rw [Nat.zero_add, World.ownsRow.cellAt h _ (by omega)]
  exact flat_at encRw 3 (fun _ => rfl) hi hj

/-- between rounds: the places, the rows so far -/
structure ZM (w : World) (G : Nat) (at_ : List Int) (A : Option Addr) (c : Nat) (rows : List RwM) (W : World) : Prop where
  bel : Below w.heap.size w W
  gl : w.heap.size ≤ G
  ar : ArI W G at_
  own : OwnRw W w.heap.size A c rows
  vals : ∀ r ∈ rows, OwnStr W w.heap.size r.VA r.vc r.vs
/-- inside of a round, whose row lies in the block behind V0's -/
structure ZR (V0 : World) (G : Nat) (at_ : List Int) (f e : Int) (VA : Option Addr) (vc : Nat) (vs : List ByteArray) (W : World) : Prop where
  but : But V0.heap.size (some G) V0 W
  ar : ArI W G at_
  box : W.heap[V0.heap.size]? = some (.cells #[.int .i64 f, .int .i64 e, .slice VA vs.length vc] 142 (0, 0))
  own : OwnStr W (V0.heap.size + 1) VA vc vs
section
variable {w V0 W W' : World} {G c vc : Nat} {at_ : List Int} {A VA : Option Addr} {rows : List RwM} {f e : Int} {vs : List ByteArray}
theorem own_ne_type {W : World} {base size n m : Nat} {e e' : TypeId} {A : Option Addr} {c : Nat} {xs : List Value} (h : W.ownsRow base e size (.slice A n c) m xs) (hm : m = n) {b : Nat} {cs : Array Value} (hb : W.heap[b]? = some (.cells cs e' (0, 0))) (hne : e' ≠ e) : ob A ≠ some b := fun h1 => by
  subst hm
  obtain ⟨cs', h2⟩ := own_cellsT h h1
  rw [hb] at h2
  injection h2 with h2
  injection h2 with _ h2
  exact hne h2
theorem ZM.noG (h : ZM w G at_ A c rows W) : ob A ≠ some G := own_ne_type h.own rfl h.ar (by decide)
theorem ZM.noGv (h : ZM w G at_ A c rows W) {r : RwM} (hr : r ∈ rows) : ob r.VA ≠ some G := own_ne_type (h.vals r hr) rfl h.ar (by decide)
theorem ZR.start (h : ZM w G at_ A c rows W) {f e : Int} {o : Obj} (ho : o = .cells #[.int .i64 f, .int .i64 e, .slice none 0 0] 142) : ZR W G at_ f e none 0 [] (W.alloc o) := by
  subst ho
  have hb : Below W.heap.size W (W.alloc (.cells #[.int .i64 f, .int .i64 e, .slice none 0 0] 142)) := (Below.refl _ _).alloc (Nat.le_refl _) _
  exact ⟨But.of hb, h.ar.below hb, heap_alloc_new W _, OwnStr.nil _ _⟩
theorem ZR.draw (h : ZR V0 G at_ f e VA vc vs W) : ZR V0 G at_ f e VA vc vs W.drew := ⟨⟨h.but.os, h.but.tape, h.but.output, h.but.size, h.but.block⟩, h.ar, h.box, h.own⟩
theorem ZR.noG (h : ZR V0 G at_ f e VA vc vs W) : ob VA ≠ some G := own_ne_type h.own rfl h.ar (by decide)
theorem ZR.noN (h : ZR V0 G at_ f e VA vc vs W) : ob VA ≠ some V0.heap.size := fun h1 => by have := (own_ob h.own _ h1).1; omega
theorem ZR.setAt (h : ZR V0 G at_ f e VA vc vs W) (hG : G < V0.heap.size) (j : Nat) (x : Int) : ZR V0 G (at_.set j x) f e VA vc vs (W.setCell ⟨G, j, none⟩ (.int .i64 x)) := by
  refine ⟨h.but.trans (but_cell (n := V0.heap.size)), h.ar.set x, (set_cell_other (by omega)).trans h.box, own_block h.own fun g hg => set_cell_other (fun e => h.noG (by rw [hg, e]))⟩
theorem ZR.setTo (h : ZR V0 G at_ f e VA vc vs W) (hG : G < V0.heap.size) (e' : Int) : ZR V0 G at_ f e' VA vc vs (W.setCell ⟨V0.heap.size, 1, none⟩ (.int .i64 e')) := by
  refine ⟨⟨h.but.os, h.but.tape, h.but.output, by simp [World.setCell]; exact h.but.size, fun b hb hn => (set_cell_other (by omega)).trans (h.but.block b hb hn)⟩, h.ar.other (by omega), ?_, own_block h.own fun g hg => set_cell_other (fun e => h.noN (by rw [hg, e]))⟩
  simp [World.setCell, Array.getElem?_modify, h.box]
/-- behind the append of a value and its store -/
theorem ZR.push (h : ZR V0 G at_ f e VA vc vs W) (hG : G < V0.heap.size) {v : ByteArray} {W1 W3 : World} (hW1 : W1 = W.alloc (.cells #[.string v] 9)) (hg : W1.grownBy W3 (ob VA)) {VA' : Option Addr} {vc' : Nat} (ho : OwnStr W3 (V0.heap.size + 1) VA' vc' (vs ++ [v])) :
    W3.heap[V0.heap.size]? = some (.cells #[.int .i64 f, .int .i64 e, .slice VA vs.length vc] 142 (0, 0)) ∧ ZR V0 G at_ f e VA' vc' (vs ++ [v]) (W3.setCell ⟨V0.heap.size, 2, none⟩ (.slice VA' (vs ++ [v]).length vc')) := by
  have hN := box_lt h.box
  have hGl := h.ar.lt
  have old : ∀ b, b < W.heap.size → ob VA ≠ some b → W3.heap[b]? = W.heap[b]? := fun b h1 h2 => by
    rw [hg.block b (by rw [hW1]; simp; omega) (fun e => h2 e.symm), hW1, Below.heap_alloc _ _ _ h1]
  have hbx : W3.heap[V0.heap.size]? = some (.cells #[.int .i64 f, .int .i64 e, .slice VA vs.length vc] 142 (0, 0)) := (old _ hN h.noN).trans h.box
  have har : ArI W3 G at_ := (old _ hGl h.noG).trans h.ar
  have hnb : ob VA' ≠ some V0.heap.size := fun h1 => by have := (own_ob ho _ h1).1; omega
  refine ⟨hbx, ⟨hg.os.trans ?_, hg.tape.trans ?_, hg.output.trans ?_, ?_, fun b hb hn => ?_⟩, har.other (by omega), ?_, own_block ho fun g hg' => set_cell_other (fun e => hnb (by rw [hg', e]))⟩
  · rw [hW1]; exact h.but.os
  · rw [hW1]; exact h.but.tape
  · rw [hW1]; exact h.but.output
  · have h1 := hg.size
    have h2 := h.but.size
    rw [hW1] at h1
    simp [World.setCell] at h1 ⊢
    omega
  · rw [set_cell_other (by omega), old b (by omega) (fun h1 => by have := (own_ob h.own _ h1).1; omega)]
    exact h.but.block b hb hn
  · simp [World.setCell, Array.getElem?_modify, hbx]
/-- the round is over -/
theorem ZM.round (h : ZM w G at_ A c rows V0) {at2 : List Int} (hr : ZR V0 G at2 f e VA vc vs W) : ZM w G at2 A c rows W ∧ OwnStr W w.heap.size VA vc vs ∧ (∀ g, ob A = some g → ob VA ≠ some g) := by
  have hle := h.bel.size
  have hGl := h.ar.lt
  refine ⟨⟨⟨hr.but.os.trans h.bel.os, hr.but.tape.trans h.bel.tape, hr.but.output.trans h.bel.output, Nat.le_trans hle hr.but.size, fun b hb => (hr.but.block b (by omega) (fun e => by injection e with e; have := h.gl; omega)).trans (h.bel.block b hb)⟩, h.gl, hr.ar,
    own_block h.own fun g hg => hr.but.block g (own_ob h.own g hg).2 (fun e => h.noG (by rw [hg, e])), fun r hm => own_block (h.vals r hm) fun g hg => hr.but.block g (own_ob (h.vals r hm) g hg).2 (fun e => h.noGv hm (by rw [hg, e]))⟩, Joins.ownsRow_le hr.own (by omega), fun g hg hv => ?_⟩
  have h1 := (own_ob h.own g hg).2
  have h2 := (own_ob hr.own g hv).1
  omega
/-- behind the append of the round's row -/
theorem ZM.push (h : ZM w G at_ A c rows W) {r : RwM} (hv : OwnStr W w.heap.size r.VA r.vc r.vs) (hn : ∀ g, ob A = some g → ob r.VA ≠ some g) {W1 W3 : World} (hW1 : W1 = W.alloc (.cells (encRw r).toArray 142)) (hg : W1.grownBy W3 (ob A)) {A' : Option Addr} {c' : Nat} (ho : OwnRw W3 w.heap.size A' c' (rows ++ [r])) :
    ZM w G at_ A' c' (rows ++ [r]) W3 := by
  have hle := h.bel.size
  have old : ∀ b, b < W.heap.size → ob A ≠ some b → W3.heap[b]? = W.heap[b]? := fun b h1 h2 => by
    rw [hg.block b (by rw [hW1]; simp; omega) (fun e => h2 e.symm), hW1, Below.heap_alloc _ _ _ h1]
  refine ⟨⟨hg.os.trans ?_, hg.tape.trans ?_, hg.output.trans ?_, ?_, fun b hb => ?_⟩, h.gl, (old _ h.ar.lt h.noG).trans h.ar, ho, fun q hq => ?_⟩
  · rw [hW1]; exact h.bel.os
  · rw [hW1]; exact h.bel.tape
  · rw [hW1]; exact h.bel.output
  · have h1 := hg.size
    rw [hW1] at h1
    simp at h1
    omega
  · rw [old b (by omega) (fun h1 => by have := (own_ob h.own _ h1).1; omega)]
    exact h.bel.block b hb
  · rcases List.mem_append.1 hq with hq | hq
    · refine own_block (h.vals q hq) fun g hg' => old g (own_ob (h.vals q hq) g hg').2 (fun h1 => ?_)
      obtain ⟨cs, h2⟩ := own_cellsT h.own h1
      exact own_ne_type (h.vals q hq) rfl h2 (by decide) hg'
    · simp at hq
      subst hq
      exact own_block hv fun g hg' => old g (own_ob hv g hg').2 (fun h1 => hn g h1 hg')
end

end Go.Proofs.YtbhcmnfeeogdhaaGreatDoor

/-
  runs.Zip: the rows of lists of spans.
-/
namespace Go.Proofs.YtbhcmnfeeogdhaaGreatDoor
open Go.RowKit

structure MkIZ (n : Nat) (f : World → World) : Prop where
  ar : ∀ w, ArI (f w) w.heap.size (List.replicate n 0)
  bl : ∀ w, Below w.heap.size w (f w)
theorem mk_intsZ (n : Nat) (hn : n ≤ 1000000) : ∃ f : World → World, (∀ w, (Instr.makeSlice 32 (.int .i64 (n : Int)) (.int .i64 (n : Int))).run Tryz.prog w = .ok (.slice (some ⟨w.heap.size, 0, none⟩) n n) (f w)) ∧ MkIZ n f := by
  obtain ⟨i0, hi0, hz0, hz1, hz2⟩ := info_parts infoInt
  have key : ∀ w : World, ∃ w', (Instr.makeSlice 32 (.int .i64 (n : Int)) (.int .i64 (n : Int))).run Tryz.prog w = .ok (.slice (some ⟨w.heap.size, 0, none⟩) n n) w' ∧ ArI w' w.heap.size (List.replicate n 0) ∧ Below w.heap.size w w' := fun w => by
    obtain ⟨w1, h1, h2, h3⟩ := run_make_full (P := Tryz.prog) (w := w) w.heap.size 32 3 i0 _ 1 Tryz.underlying32 hi0 hz0 hz1 .i64 .i64 n (by rw [hz2]; omega) (by simp only [maxLen]; omega) (Nat.le_refl _)
    refine ⟨w1, h1, ArI.made (B := w.heap.size) ?_, (Below.refl _ _).grown h3 (Nat.le_refl _) (fun k e => by cases e)⟩
    rw [Nat.mul_one] at h2
    exact h2
  obtain ⟨f, hf⟩ := Classical.axiomOfChoice key
  exact ⟨f, fun w => (hf w).1, fun w => (hf w).2.1, fun w => (hf w).2.2⟩

def ZipPost (gs : List (Int → ByteArray)) (f t : Int) (w : World) (e : Ending) (w' : World) : Prop :=
  ∃ (A : Option Addr) (c : Nat) (rows : List RwM), e = .returned (.tuple #[.slice A rows.length c, .int .i64 0]) ∧ Cov gs f (t + 1) (rows.map RwM.rw) ∧ rows ≠ [] ∧ rows.length ≤ 4001 ∧ RwsAt w' (fun b => w.heap.size ≤ b ∧ b < w'.heap.size) A rows ∧ Below w.heap.size w w'
def ChkRel (n : Nat) (w : World) (i : Value) (wr : World) : Prop := ∃ j : Nat, j ≤ n ∧ i = .int .i64 (j : Int) ∧ Below w.heap.size w wr
def ZipRel (gs : List (Int → ByteArray)) (lsl : List (List Spn)) (f t : Int) (w : World) (G : Nat) (fr out : Value) (wr : World) : Prop :=
  ∃ (x pv : Int) (A : Option Addr) (c : Nat) (rows : List RwM), fr = .int .i64 x ∧ out = .slice A rows.length c ∧ f ≤ x ∧ x ≤ t + 1 ∧ pv ≤ x ∧ Cov gs f x (rows.map RwM.rw) ∧ rows.length ≤ 4001 ∧ (x ≤ t → rows.length ≤ cnt lsl x) ∧ ZM w G (lsl.map fun l => (idx l pv : Int)) A c rows wr

def ZinRel (lsl : List (List Spn)) (x pv t : Int) (V0 : World) (G : Nat) (i : Value) (wr : World) : Prop :=
  ∃ (j : Nat) (VA : Option Addr) (vc : Nat), j ≤ lsl.length ∧ i = .int .i64 (j : Int) ∧ ZR V0 G (((lsl.take j).map fun l => (idx l x : Int)) ++ ((lsl.drop j).map fun l => (idx l pv : Int))) x (endLs (lsl.take j) x t) VA vc ((lsl.take j).map (valL · x)) wr
def WhRel (l : List Spn) (pre post : List Int) (x pv e : Int) (V0 : World) (G : Nat) (VA : Option Addr) (vc : Nat) (vs : List ByteArray) (wr : World) : Prop :=
  ∃ k : Nat, idx l pv ≤ k ∧ k ≤ idx l x ∧ ZR V0 G (pre ++ (k : Int) :: post) x e VA vc vs wr
theorem row_froz {w : World} {N i : Nat} {cs : Array Value} {t : TypeId} (h : w.heap[N]? = some (.cells cs t (0, 0))) : w.frozen? ⟨N, i, none⟩ = false := by simp [World.frozen?, h]
theorem zeros {f t : Int} : ∀ {gs : List (Int → ByteArray)} {ls : List (List Spn)}, AllSp f t gs ls → ls.map (fun l => (idx l f : Int)) = List.replicate ls.length 0
  | [], [], _ => rfl
  | g :: gs, l :: ls, h => by
    rw [List.map_cons, zeros h.2, idx_first h.1]
    rfl
theorem set_mid {pre post : List Int} {k z : Int} {j : Nat} (h : pre.length = j) : (pre ++ k :: post).set j z = pre ++ z :: post := by
  rw [List.set_append_right _ _ (by omega), h, Nat.sub_self]
  rfl
theorem get_mid {pre post : List Int} {k : Int} {j : Nat} (h : pre.length = j) : (pre ++ k :: post)[j]? = some k := by
  rw [List.getElem?_append_right (by omega), h, Nat.sub_self]
  rfl

set_option maxRecDepth 100000 in
set_option maxHeartbeats 8000000 in
theorem zip_any (f t : Int) (gs : List (Int → ByteArray)) (LA : Option Addr) (lc : Nat) (ls : List SpL) (w : World) (hL : LsAt w (Lo w.heap.size) LA ls) (hne : ls ≠ []) (h8 : ls.length ≤ 1000) (hall : AllSp f t gs (ls.map SpL.l)) (hf : 0 ≤ f) (ht : t ≤ 1099511627776)
    (hlen : ∀ s ∈ ls, s.l.length ≤ 1000000) (hsum : ((ls.map SpL.l).map List.length).sum ≤ 4000) :
    Calls Tryz.prog 95 #[.slice LA ls.length lc] w (ZipPost gs f t w) := by
  obtain ⟨i0, hi0i, hz0i, hz1i, hz2i⟩ := info_parts infoStr
  obtain ⟨j0, hj0, hjz0, hjz1, hjz2⟩ := info_parts infoRw
  have hlp := List.length_pos_iff.2 hne
  have hsp : ∀ s ∈ ls, ∃ g, Spans g f t s.l := fun s hs => by
    obtain ⟨i, hi⟩ := List.getElem?_of_mem hs
    obtain ⟨g, _, h⟩ := hall.at (i := i) (l := s.l) (by rw [List.getElem?_map, hi]; rfl)
    exact ⟨g, h⟩
  obtain ⟨lb, lo, rfl, hl0⟩ := hL.list hlp
  obtain ⟨g0, hg0⟩ := hsp _ (List.getElem_mem hlp)
  obtain ⟨b0, o0, hA0, hP0, hF0, hT0, _⟩ := hL.ends (List.getElem_mem hlp) hg0
  have hn0 := List.length_pos_iff.2 hg0.ne
  have hn0l := hlen _ (List.getElem_mem hlp)
  unfold celSp at hl0
  rw [hA0] at hl0
  generalize hs0 : ls[0].c = c0 at *
  generalize hn0e : ls[0].l.length = n0 at *
  obtain ⟨m0, rfl⟩ : ∃ m0, n0 = m0 + 1 := ⟨n0 - 1, by omega⟩
  rw [Nat.add_sub_cancel] at hT0
  have hi0 : ((m0 + 1 : Nat) : Int) - 1 = (m0 : Int) := by omega
  have e05 : decide (0 < ls.length) = true := decide_eq_true hlp
  have T0 : ((ls.length : Int) == 0) = false := beq_eq_false_iff_ne.2 (by omega)
  have T1 : decide ((1024 : Int) < (ls.length : Int)) = false := decide_eq_false (by omega)
  have HL := hide hL
  have HSP := hide hsp
  have HALL := hide hall
  rw [Nat.add_zero] at hl0
  have HC0 := hide (And.intro hl0 (And.intro hF0 hT0))
  have hft : f ≤ t := hg0.le
  clear hL hsp hall hA0 hs0 hn0e hg0
  obtain ⟨fi, hmk, hmi⟩ := mk_intsZ ls.length (by omega)
  have HMI := hide hmi
  clear hmi
  go_enter Tryz.func95, Tryz.ntmps95
  go_upto_region 4 with (fail)
  go_loopw [23] (fun i wr => ChkRel ls.length w i wr) (fun i _ => ls.length - (intOf i).toNat)
  case atStart => exact ⟨0, Nat.zero_le _, rfl, Below.refl _ _⟩
  case round =>
    obtain ⟨j, hj, rfl, hbr⟩ := hrel
    have HBR := hide hbr
    by_cases hlt : j < ls.length
    · have hmem := List.getElem_mem hlt
      obtain ⟨g, hg⟩ := HSP.out _ hmem
      have hLr := HL.out.grow hbr
      obtain ⟨lb', lo', e, hlj⟩ := hLr.list hlt
      injection e with e
      injection e with e1 e2
      subst e1 e2
      obtain ⟨bj, oj, hA, hPj, hFj, hTj, _⟩ := hLr.ends hmem hg
      have hnj := List.length_pos_iff.2 hg.ne
      have hll := hlen _ hmem
      have HV := hide (fun (W : World) (hb : Below wr.heap.size wr W) => valid_sp g f t (some ⟨bj, oj, none⟩) ls[j].c ls[j].l W (by rw [← hA]; exact (hLr.each _ hmem).grow hb) hg hf ht hll)
      unfold celSp at hlj
      rw [hA] at hlj
      obtain ⟨q0, q1, q2⟩ := HC0.out
      have q0 := cell_later hbr q0
      have q1 := cell_later hbr q1
      have q2 := cell_later hbr q2
      clear hbr hLr hmem hg hA
      generalize hs1 : ls[j].c = cj at *
      generalize hn1e : ls[j].l.length = nj at *
      clear hs1 hn1e
      obtain ⟨mj, rfl⟩ : ∃ mj, nj = mj + 1 := ⟨nj - 1, by omega⟩
      rw [Nat.add_sub_cancel] at hTj
      have hij : ((mj + 1 : Nat) : Int) - 1 = (mj : Int) := by omega
      go_upto_region 6 with (fail)
      refine region_grown (W0 := wr) (by kernel_rfl) (by kernel_rfl) (Below.refl _ _) ?_
      repeat (go_big_quiet_step (first | exact fun _ => rfl | exact fun hw => ((HV.out _ hw).mono fun e w2 h => ⟨h.1, bstep hw h.2⟩) | exact fun hw => by (first | rw [cell_later hw q0] | rw [cell_later hw q1] | rw [cell_later hw q2] | rw [cell_later hw hFj] | rw [cell_later hw hTj]); exact ⟨rfl, rfl⟩))
      refine wpQuiet_nil ?_
      rintro _ ⟨⟨wx, hwx⟩, rfl⟩
      have HX := hide (bstep HBR.out hwx)
      go_wp2_with fail
      exact ⟨⟨j + 1, hlt, by go_num, HX.out⟩, by simp [intOf]; omega⟩
    · clear hj
      obtain ⟨q0, q1, q2⟩ := HC0.out
      have q0 := cell_later hbr q0
      have q1 := cell_later hbr q1
      have q2 := cell_later hbr q2
      clear hbr
      go_upto_region 9 with (fail)
      go_quiet (fail)
      obtain ⟨V, hV⟩ : ∃ V, wr.drewN nq = V := ⟨_, rfl⟩
      have hbV : Below w.heap.size w V := by rw [← hV]; exact below_drewN HBR.out nq
      rw [hV]
      clear hV q0 q1 q2 HBR
      obtain ⟨G, hG⟩ : ∃ G, V.heap.size = G := ⟨_, rfl⟩
      obtain ⟨W1, hW1⟩ : ∃ W1, fi V = W1 := ⟨_, rfl⟩
      have hbl1 := HMI.out.bl V
      have har1 := HMI.out.ar V
      rw [hW1] at hbl1 har1
      have hZ0 : ZM w G ((ls.map SpL.l).map fun l => (idx l f : Int)) none 0 [] W1 := by
        rw [zeros HALL.out, List.length_map]
        exact ⟨bstep hbV hbl1, by rw [← hG]; exact hbV.size, by rw [← hG]; exact har1, OwnRw.nil _ _, fun r hr => by cases hr⟩
      have HZ0 := hide hZ0
      clear hbl1 har1 hZ0 hbV
      go_upto_region 12 with (fail)
      try rw [hW1]
      try rw [hG]
      clear hW1 hG hmk HMI
      obtain ⟨lsl, hlsl⟩ : ∃ lsl, ls.map SpL.l = lsl := ⟨_, rfl⟩
      have hlen' : lsl.length = ls.length := by rw [← hlsl, List.length_map]
      rw [hlsl] at HZ0 HALL hsum
      go_loopw [6, 9] (fun fr out wr => ZipRel gs lsl f t w G fr out wr) (fun fr _ _ => (t + 1 - intOf fr).toNat)
      case atStart => exact ⟨f, f, none, 0, [], rfl, rfl, Int.le_refl _, by omega, Int.le_refl _, rfl, by simp, fun _ => Nat.zero_le _, HZ0.out⟩
      case round =>
        obtain ⟨V0, rfl⟩ : ∃ w2 : World, w2 = wr := ⟨_, rfl⟩
        obtain ⟨x, pv, A, c, rows, rfl, rfl, hfx, hxt, hpv, hcov, hr1, hr2, hz⟩ := hrel
        have HZ := hide hz
        have HCOV := hide hcov
        clear hz hcov HZ0
        by_cases hle : x ≤ t
        · have T2 : decide (x ≤ t) = true := decide_eq_true hle
          have hrow := row_at hfx hle t HALL.out hle (Int.le_refl t)
          have hcl := cnt_le x lsl
          have HROW := hide hrow
          obtain ⟨Wn, hWn⟩ : ∃ Wn, V0.alloc (.cells #[.int .i64 x, .int .i64 t, .slice none 0 0] 142) = Wn := ⟨_, rfl⟩
          have hR0 := ZR.start HZ.out (f := x) (e := t) (o := .cells #[.int .i64 x, .int .i64 t, .slice none 0 0] 142) rfl
          rw [hWn] at hR0
          have HR0 := hide hR0
          have hGl := HZ.out.ar.lt
          have HWN := hide hWn
          clear hrow hR0 hWn
          go_upto_region 15 with (fail)
          rw [HWN.out]
          clear HWN
          go_loopw [93] (fun i wq => ZinRel lsl x pv t V0 G i wq) (fun i _ => ls.length - (intOf i).toNat)
          case atStart => exact ⟨0, none, 0, Nat.zero_le _, rfl, by simpa [endLs] using HR0.out⟩
          case round =>
            obtain ⟨W, rfl⟩ : ∃ w2 : World, w2 = wr := ⟨_, rfl⟩
            obtain ⟨j, VA, vc, hj2, rfl, hR⟩ := hrel
            have HR := hide hR
            have hbw := (HZ.out.round hR).1.bel
            have HBW := hide hbw
            clear hR HR0
            by_cases hlt2 : j < ls.length
            · have hmem := List.getElem_mem hlt2
              obtain ⟨gj, hgj⟩ := HSP.out _ hmem
              have hLr := HL.out.grow hbw
              obtain ⟨lb', lo', e, hlj⟩ := hLr.list hlt2
              injection e with e
              injection e with e1 e2
              subst e1 e2
              obtain ⟨bj, oj, hA, hPj, -, -, hspj⟩ := HL.out.ends hmem hgj
              obtain ⟨xs, hxs1, hxs2, hxs3, hxs4, hxs5, hxs6⟩ := idx_at hgj hfx hle
              have hll := hlen _ hmem
              have hjl : lsl[j]? = some ls[j].l := by rw [← hlsl, List.getElem?_map, List.getElem?_eq_getElem hlt2]; rfl
              have hjl2 : j < lsl.length := by omega
              have hjl3 : lsl[j] = ls[j].l := by rw [List.getElem?_eq_getElem hjl2] at hjl; injection hjl
              unfold celSp at hlj
              rw [hA] at hlj
              clear hA hmem hLr hbw
              generalize ls[j].l = l at *
              generalize ls[j].c = cj at *
              have hixl : idx l x < l.length := (List.getElem?_eq_some_iff.1 hxs1).1
              have hdrop : lsl.drop j = l :: lsl.drop (j + 1) := by rw [List.drop_eq_getElem_cons hjl2, hjl3]
              have hpre : ((lsl.take j).map fun l => (idx l x : Int)).length = j := by simp; omega
              have HRW := hide (show ZR V0 G (((lsl.take j).map fun l => (idx l x : Int)) ++ ((idx l pv : Nat) : Int) :: ((lsl.drop (j + 1)).map fun l => (idx l pv : Int))) x (endLs (lsl.take j) x t) VA vc ((lsl.take j).map (valL · x)) W from by
                have := HR.out
                rw [hdrop, List.map_cons] at this
                exact this)
              have HVS := hide (show (lsl.take (j + 1)).map (valL · x) = (lsl.take j).map (valL · x) ++ [xs.v] by
                rw [List.take_succ_eq_append_getElem hjl2, List.map_append, hjl3]
                show _ ++ [valL l x] = _
                unfold valL
                rw [hxs1])
              have HEE := hide (show endLs (lsl.take (j + 1)) x t = min (endLs (lsl.take j) x t) xs.t by
                rw [List.take_succ_eq_append_getElem hjl2, endLs_snoc, hjl3]
                congr 1
                unfold endL
                rw [hxs1])
              have HAT := hide (show ((lsl.take (j + 1)).map fun l => (idx l x : Int)) = ((lsl.take j).map fun l => (idx l x : Int)) ++ [((idx l x : Nat) : Int)] by
                rw [List.take_succ_eq_append_getElem hjl2, List.map_append, hjl3]; rfl)
              have hvl : ((lsl.take j).map (valL · x)).length = j := by simp; omega
              have HVL := hide hvl
              clear hdrop HR hvl
              generalize hvsg : (lsl.take j).map (valL · x) = vs at *
              generalize heg : endLs (lsl.take j) x t = e0 at *
              generalize hpr : ((lsl.take j).map fun l => (idx l x : Int)) = pre at *
              generalize hpo : ((lsl.drop (j + 1)).map fun l => (idx l pv : Int)) = post at *
              go_upto_region 17 with (fail)
              go_loopw [] (fun wq => WhRel l pre post x pv e0 V0 G VA vc vs wq) (fun wq => l.length - (match wq.cell? ⟨G, j, none⟩ with | some v => (intOf v).toNat | none => 0))
              case atStart => exact ⟨idx l pv, Nat.le_refl _, idx_mono hpv l, HRW.out⟩
              case round =>
                obtain ⟨W2, rfl⟩ : ∃ w2 : World, w2 = wr := ⟨_, rfl⟩
                obtain ⟨k, hk1, hk2, hR2⟩ := hrel
                have hka := get_mid (k := (k : Int)) (post := post) hpre
                have cA := hR2.ar.cell hka
                have fA := hR2.ar.froz (k := j)
                have hkl : k < l.length := by omega
                have hxk : l[k]? = some l[k] := List.getElem?_eq_getElem hkl
                have hb2 := (HZ.out.round hR2).1.bel
                obtain ⟨s0, s1, s2⟩ := (hspj k _ hxk).stay (hb2.block bj hPj)
                have hstep := idx_step hk2 hxk
                generalize l[k] = xk at *
                have HR2 := hide hR2
                have hkj : ((j : Nat) : Int) < (ls.length : Int) := by omega
                have hkI : I64 (k : Int) := by unfold I64; omega
                by_cases hx : xk.t < x
                · have T3 : decide (xk.t < x) = true := decide_eq_true hx
                  have hk3 := hstep.1 hx
                  have HS := hide (show ZR V0 G (pre ++ ((k + 1 : Nat) : Int) :: post) x e0 VA vc vs (W2.setCell ⟨G, j, none⟩ (.int .i64 ((k : Int) + 1))) from by
                    have := HR2.out.setAt hGl j ((k : Int) + 1)
                    rw [set_mid hpre] at this
                    exact this)
                  clear hR2 hstep
                  go_wp2_with fail
                  have c2 := HS.out.ar.cell (get_mid (k := ((k + 1 : Nat) : Int)) (post := post) hpre)
                  exact ⟨⟨k + 1, by omega, hk3, HS.out⟩, by rw [c2, cA]; simp [intOf]; omega⟩
                · have T3 : decide (xk.t < x) = false := decide_eq_false hx
                  have hke : k = idx l x := by have := fun h => hx (hstep.2 h); omega
                  subst hke
                  have hbx := hR2.box
                  have n0 := cell_of_row W2 V0.heap.size 0 _ _ (0, 0) hbx
                  have n1 := cell_of_row W2 V0.heap.size 1 _ _ (0, 0) hbx
                  have n2 := cell_of_row W2 V0.heap.size 2 _ _ (0, 0) hbx
                  have n3 := fun i => row_froz (i := i) hbx
                  simp only [List.getElem?_toArray, List.getElem?_cons_zero, List.getElem?_cons_succ] at n0 n1 n2
                  clear hR2 hstep hbx
                  go_wp2_with fail
                  go_region
                  have hxe : xk = xs := by rw [hxk] at hxs1; injection hxs1
                  subst hxe
                  obtain ⟨W3, hW3⟩ : ∃ W3, (W2.setCell ⟨V0.heap.size, 1, none⟩ (.int .i64 (min e0 xk.t))).drew = W3 := ⟨_, rfl⟩
                  have hR3 : ZR V0 G (pre ++ ((idx l x : Nat) : Int) :: post) x (min e0 xk.t) VA vc vs W3 := by rw [← hW3]; exact (HR2.out.setTo hGl _).draw
                  rw [hW3]
                  clear n0 n1 n2 n3 cA fA s0 s1 s2 hW3 HR2
                  have hb3 := (HZ.out.round hR3).1.bel
                  obtain ⟨s0, s1, s2⟩ := (hspj _ _ hxk).stay (hb3.block bj hPj)
                  have cA := hR3.ar.cell hka
                  have hbx := hR3.box
                  have n2 := cell_of_row W3 V0.heap.size 2 _ _ (0, 0) hbx
                  have n3 := fun i => row_froz (i := i) hbx
                  simp only [List.getElem?_toArray, List.getElem?_cons_zero, List.getElem?_cons_succ] at n2
                  have HO3 := hide (World.ownsRow.drew (World.ownsRow.alloc hR3.own (.cells #[.string xk.v] 9)))
                  have HBX := hide (show (W3.alloc (.cells #[.string xk.v] 9)).drew.heap[W3.heap.size]? = some (.cells #[.string xk.v] 9) from heap_alloc_new W3 (.cells #[.string xk.v] 9))
                  have hN3 := box_lt hbx
                  have HR3 := hide hR3
                  rw [HVL.out] at n2 HO3
                  clear hR3 hbx hb3
                  go_wp2_with fail
                  go_region_law
                    (first
                      | (refine step_append_src rfl (.tmp 127) (.tmp 136) 49 rfl (V0.heap.size + 1) 9 i0 _ 1 16 Tryz.underlying49 hi0i hz0i hz1i hz2i rfl (by decide) (.slice VA j vc) j (vs.map Value.string) rfl HO3.out (some ⟨W3.heap.size, 0, none⟩) 1 1 [.string xk.v] rfl rfl (src_block (t := 9) (fr := (0, 0)) HBX.out) (str_one _) (by simp only [maxLen]; omega) (by omega) (by simp; omega) ?_
                         intro v' w5 hown5 hg5
                         obtain ⟨VA5, vc5, rfl, ho5⟩ := OwnStr.of_row (l := vs ++ [xk.v]) hown5 (by have := HVL.out; simp; omega) (by simp)
                         rw [ob_eq] at hg5
                         obtain ⟨hbx5, hR5⟩ := HR3.out.draw.push hGl (v := xk.v) (W1 := (W3.alloc (.cells #[.string xk.v] 9)).drew) rfl hg5 ho5
                         have q2 := cell_of_row w5 V0.heap.size 2 _ _ (0, 0) hbx5
                         have q3 := fun i => row_froz (i := i) hbx5
                         simp only [List.getElem?_toArray, List.getElem?_cons_zero, List.getElem?_cons_succ] at q2
                         have HR5 := hide hR5
                         have q4 := box_lt hbx5
                         clear hbx5 hR5 hown5 hg5 ho5)
                      | fail)
                  all_goals
                    have hR9 := HR5.out
                    rw [show (vs ++ [xk.v]).length = vs.length + 1 by simp] at hR9
                    have HR9 := hide hR9
                    clear hR9 HR5
                    go_wp2_with fail
                    refine ⟨⟨j + 1, VA5, vc5, by omega, by go_num, ?_⟩, by simp [intOf]; omega⟩
                    rw [HAT.out, HEE.out, HVS.out, hpo, List.append_assoc, List.singleton_append]
                    exact HR9.out
            · have hje : j = lsl.length := by omega
              have hR1 := HR.out
              rw [hje, List.take_length, List.drop_length, List.map_nil, List.append_nil] at hR1
              obtain ⟨hzr, hov, hno⟩ := HZ.out.round hR1
              have hrr := HROW.out
              have hbx := hR1.box
              have hobA : ∀ g, ob A = some g → g < V0.heap.size := fun g hg => (own_ob HZ.out.own g hg).2
              generalize hvs1 : lsl.map (valL · x) = vs1 at *
              generalize he1 : endLs lsl x t = e1 at *
              have HR := hide hrr
              have n0 := cell_of_row W V0.heap.size 0 _ _ (0, 0) hbx
              have n1 := cell_of_row W V0.heap.size 1 _ _ (0, 0) hbx
              have n2 := cell_of_row W V0.heap.size 2 _ _ (0, 0) hbx
              have hN := box_lt hbx
              have HBX := hide hbx
              simp only [List.getElem?_toArray, List.getElem?_cons_zero, List.getElem?_cons_succ] at n0 n1 n2
              have HZR := hide hzr
              have HOV := hide hov
              have HNO := hide hno
              have HOB := hide hobA
              have HOA := hide (World.ownsRow.alloc hzr.own (.cells #[.int .i64 x, .int .i64 e1, .slice VA vs1.length vc] 142))
              have HNW := hide (heap_alloc_new W (.cells #[.int .i64 x, .int .i64 e1, .slice VA vs1.length vc] 142))
              have hws := HBW.out.size
              obtain ⟨hre1, hre2⟩ : x ≤ e1 ∧ e1 ≤ t := ⟨hrr.1, hrr.2.1⟩
              have hcnt2 := hr2 hle
              clear hbx hzr hov hno hobA hR1 hrr
              go_wp2_with (at_builtin; (refine append_src rfl _ _ 104 rfl w.heap.size 142 j0 _ 3 40 Tryz.underlying104 hj0 hjz0 hjz1 hjz2 rfl (by decide) (.slice A rows.length c) rows.length (encRws rows) rfl HOA.out (some ⟨W.heap.size, 0, none⟩) 1 1 (encRw ⟨x, e1, VA, vc, vs1⟩) rfl rfl (src_block (t := 142) (fr := (0, 0)) HNW.out) (rw_one _) (by simp only [maxLen]; omega) (by omega) (by simp; omega) ?_); intro v' w3 hown3 hg3; obtain ⟨A3, c3, rfl, ho3⟩ := OwnRw.of_row (l := rows ++ [⟨x, e1, VA, vc, vs1⟩]) hown3 (by simp) (by rw [encRws_app]; rfl); rw [ob_eq] at hg3; have HP := hide (HZR.out.push (r := ⟨x, e1, VA, vc, vs1⟩) HOV.out HNO.out rfl hg3 ho3); have hbx3 := (hg3.block V0.heap.size (by simp; omega) (fun e => by have := HOB.out _ e.symm; omega)).trans ((Below.heap_alloc _ _ _ hN).trans HBX.out); have m1 := cell_of_row w3 V0.heap.size 1 _ _ (0, 0) hbx3; simp only [List.getElem?_toArray, List.getElem?_cons_zero, List.getElem?_cons_succ] at m1; have hm3 := box_lt hbx3; clear hown3 hg3 ho3 hbx3)
              refine ⟨⟨e1 + 1, x, A3, c3, rows ++ [⟨x, e1, VA, vc, vs1⟩], by go_num, by rw [List.length_append]; rfl, by omega, by omega, by omega, ?_, ?_, fun h => ?_, HP.out⟩, by simp [intOf]; omega⟩
              · rw [List.map_append]
                exact Cov.snoc (r := ⟨x, e1, vs1⟩) HCOV.out rfl HR.out.1 (fun u u1 u2 => HR.out.2.2.1 u u1 u2)
              · have : rows.length ≤ 4000 := by omega
                simp; omega
              · have h7 := HR.out.2.2.2
                rcases h7 with h7 | h7
                · omega
                · simp; omega
        · have T2 : decide (x ≤ t) = false := decide_eq_false hle
          have hxe : x = t + 1 := by omega
          have hne2 : rows ≠ [] := fun e => by
            have := HCOV.out
            rw [e] at this
            have h9 : f = x := this
            omega
          have HP := hide (show ZipPost gs f t w (.returned (.tuple #[.slice A rows.length c, .int .i64 0])) V0 from ⟨A, c, rows, rfl, by rw [← hxe]; exact HCOV.out, hne2, hr1, ⟨HZ.out.own.row, fun r hr => (HZ.out.vals r hr).strs.more fun b h => ⟨h.1, h.2.1⟩⟩, HZ.out.bel⟩)
          clear hxe hne2
          go_wp2_with fail
          go_ret2
          exact HP.out

end Go.Proofs.YtbhcmnfeeogdhaaGreatDoor

/-
  Three new blocks.
-/
namespace Go.Proofs.YtbhcmnfeeogdhaaGreatDoor
open Go.RowKit

theorem chain3 (w1 : World) (a b c : Obj) {V : World} (hV : ((w1.alloc a).alloc b).alloc c = V) : V.heap[w1.heap.size]? = some a ∧ V.heap[w1.heap.size + 1]? = some b ∧ V.heap[w1.heap.size + 1 + 1]? = some c ∧ Below w1.heap.size w1 V ∧ V.heap.size = w1.heap.size + 1 + 1 + 1 := by
  have e1 := heap_alloc_new (w1.alloc a) b
  have e2 := heap_alloc_new ((w1.alloc a).alloc b) c
  have s1 : (w1.alloc a).heap.size = w1.heap.size + 1 := by simp
  have s2 : ((w1.alloc a).alloc b).heap.size = w1.heap.size + 1 + 1 := by simp
  rw [s1] at e1
  rw [s2] at e2
  subst hV
  refine ⟨box_alloc (box_alloc (heap_alloc_new w1 a)), box_alloc e1, e2, ?_, by simp⟩
  exact (((Below.refl _ _).alloc (Nat.le_refl _) _).alloc (by omega) _).alloc (by omega) _

end Go.Proofs.YtbhcmnfeeogdhaaGreatDoor

/-
  DERIVED: THE SHELF's CONTRACTS AT THIS DUMP, IN PLAIN WORDS (tools/lay-plain.mjs out of 'TryzIter.lean', which tools/lay-shelf.mjs wrote): THE SAME DECLARATIONS UNDER THE SAME NAMES: 'import', 'namespace', 'open', 'def', 'theorem' AND NOTHING ELSE: no command of the shelf's: FOR A HAND-IN. Each laying: the table of numbers ('.._ren') and one theorem, a field a fact of the dump's own or the kernel's comparison; each contract: ONE APPLICATION.
-/
namespace Go.Proofs
open Go.Shelf
def Tryz.keysA_ren : Go.Shelf.Ren := ⟨fun | 7 => 100 | 10 => 139 | n => n, fun | 23 => 150 | 26 => 3 | 3 => 4 | 28 => 154 | 0 => 0 | 27 => 153 | 33 => 124 | 4 => 4 | n => n, fun | n => n⟩
theorem Tryz.keysA : Go.Proofs.SlLaysZI.n7 Tryz.prog Tryz.keysA_ren := {
  mixed := by kernel_rfl
  f7 := ⟨Tryz.f100.name, by decide, Tryz.func100.trans (congrArg some (by kernel_rfl))⟩
  f10 := ⟨Tryz.f139.name, by decide, Tryz.func139.trans (congrArg some (by kernel_rfl))⟩
  t0 := Tryz.underlying0
  a0 := Tryz.isAgg0
  z0 := Tryz.sizeOf0
  v0 := Tryz.zeroValue0
  t4 := Tryz.underlying4
  a4 := Tryz.isAgg4
  z4 := Tryz.sizeOf4
  v4 := Tryz.zeroValue4
  t23 := Tryz.underlying150
  a23 := Tryz.isAgg150
  z23 := Tryz.sizeOf150
  v23 := Tryz.zeroValue150
  t26 := Tryz.underlying3
  a26 := Tryz.isAgg3
  z26 := Tryz.sizeOf3
  v26 := Tryz.zeroValue3
  t27 := Tryz.underlying153
  a27 := Tryz.isAgg153
  z27 := Tryz.sizeOf153
  v27 := Tryz.zeroValue153
  t28 := Tryz.underlying154
  a28 := Tryz.isAgg154
  z28 := Tryz.sizeOf154
  v28 := Tryz.zeroValue154
  t33 := Tryz.underlying124
  a33 := Tryz.isAgg124
  z33 := Tryz.sizeOf124
  v33 := Tryz.zeroValue124 }
def Tryz.sortedA_ren : Go.Shelf.Ren := ⟨fun | 6 => 99 | 8 => 137 | 9 => 138 | 11 => 171 | 13 => 146 | 12 => 172 | 23 => 183 | 24 => 184 | 14 => 212 | 15 => 213 | 16 => 214 | 17 => 215 | 18 => 216 | 19 => 217 | 20 => 218 | 21 => 219 | 22 => 220 | 25 => 243 | 26 => 244 | 27 => 245 | 28 => 246 | 29 => 247 | 30 => 248 | 31 => 257 | n => n, fun | 26 => 3 | 28 => 154 | 24 => 32 | 0 => 0 | 3 => 3 | 37 => 209 | 48 => 239 | 50 => 241 | 4 => 4 | 40 => 267 | 39 => 266 | 45 => 127 | 5 => 5 | 9 => 9 | 51 => 293 | 55 => 278 | 57 => 305 | 58 => 83 | 33 => 124 | n => n, fun | n => n⟩
theorem Tryz.sortedA : Go.Proofs.SlLaysZI.n6 Tryz.prog Tryz.sortedA_ren := {
  mixed := by kernel_rfl
  f6 := ⟨Tryz.f99.name, by decide, Tryz.func99.trans (congrArg some (by kernel_rfl))⟩
  f8 := ⟨Tryz.f137.name, by decide, Tryz.func137.trans (congrArg some (by kernel_rfl))⟩
  f11 := ⟨Tryz.f171.name, by decide, Tryz.func171.trans (congrArg some (by kernel_rfl))⟩
  t0 := Tryz.underlying0
  a0 := Tryz.isAgg0
  z0 := Tryz.sizeOf0
  v0 := Tryz.zeroValue0
  t24 := Tryz.underlying32
  a24 := Tryz.isAgg32
  z24 := Tryz.sizeOf32
  v24 := Tryz.zeroValue32
  t26 := Tryz.underlying3
  a26 := Tryz.isAgg3
  z26 := Tryz.sizeOf3
  v26 := Tryz.zeroValue3
  t28 := Tryz.underlying154
  a28 := Tryz.isAgg154
  z28 := Tryz.sizeOf154
  v28 := Tryz.zeroValue154
  i26 := by kernel_rfl }
def Tryz.sortA_ren : Go.Shelf.Ren := ⟨fun | 5 => 138 | 8 => 146 | 7 => 172 | 19 => 183 | 20 => 184 | 10 => 212 | 11 => 213 | 12 => 214 | 13 => 215 | 14 => 216 | 15 => 217 | 16 => 218 | 17 => 219 | 18 => 220 | 30 => 243 | 31 => 244 | 32 => 245 | 33 => 246 | 34 => 247 | 35 => 248 | 40 => 257 | n => n, fun | 23 => 32 | 25 => 3 | 3 => 3 | 32 => 209 | 22 => 32 | 0 => 0 | 44 => 239 | 46 => 241 | 4 => 4 | 36 => 267 | 35 => 266 | 41 => 127 | 5 => 5 | 9 => 9 | 53 => 293 | 57 => 278 | 63 => 305 | 64 => 83 | n => n, fun | n => n⟩
theorem Tryz.sortA : Go.Proofs.SlLaysM.n5 Tryz.prog Tryz.sortA_ren := {
  mixed := by kernel_rfl
  f5 := ⟨Tryz.f138.name, by decide, Tryz.func138.trans (congrArg some (by kernel_rfl))⟩
  f7 := ⟨Tryz.f172.name, by decide, Tryz.func172.trans (congrArg some (by kernel_rfl))⟩
  f8 := Tryz.func146.trans (congrArg some (by kernel_rfl))
  f10 := ⟨Tryz.f212.name, by decide, Tryz.func212.trans (congrArg some (by kernel_rfl))⟩
  f11 := ⟨Tryz.f213.name, by decide, Tryz.func213.trans (congrArg some (by kernel_rfl))⟩
  f12 := ⟨Tryz.f214.name, by decide, Tryz.func214.trans (congrArg some (by kernel_rfl))⟩
  f13 := ⟨Tryz.f215.name, by decide, Tryz.func215.trans (congrArg some (by kernel_rfl))⟩
  f14 := ⟨Tryz.f216.name, by decide, Tryz.func216.trans (congrArg some (by kernel_rfl))⟩
  f15 := ⟨Tryz.f217.name, by decide, Tryz.func217.trans (congrArg some (by kernel_rfl))⟩
  f16 := ⟨Tryz.f218.name, by decide, Tryz.func218.trans (congrArg some (by kernel_rfl))⟩
  f17 := ⟨Tryz.f219.name, by decide, Tryz.func219.trans (congrArg some (by kernel_rfl))⟩
  f18 := ⟨Tryz.f220.name, by decide, Tryz.func220.trans (congrArg some (by kernel_rfl))⟩
  f19 := Tryz.func183.trans (congrArg some (by kernel_rfl))
  f20 := Tryz.func184.trans (congrArg some (by kernel_rfl))
  f30 := ⟨Tryz.f243.name, by decide, Tryz.func243.trans (congrArg some (by kernel_rfl))⟩
  f31 := Tryz.func244.trans (congrArg some (by kernel_rfl))
  f32 := Tryz.func245.trans (congrArg some (by kernel_rfl))
  f33 := ⟨Tryz.f246.name, by decide, Tryz.func246.trans (congrArg some (by kernel_rfl))⟩
  f34 := ⟨Tryz.f247.name, by decide, Tryz.func247.trans (congrArg some (by kernel_rfl))⟩
  f35 := ⟨Tryz.f248.name, by decide, Tryz.func248.trans (congrArg some (by kernel_rfl))⟩
  f40 := ⟨Tryz.f257.name, by decide, Tryz.func257.trans (congrArg some (by kernel_rfl))⟩
  t0 := Tryz.underlying0
  a0 := Tryz.isAgg0
  z0 := Tryz.sizeOf0
  v0 := Tryz.zeroValue0
  t3 := Tryz.underlying3
  a3 := Tryz.isAgg3
  z3 := Tryz.sizeOf3
  v3 := Tryz.zeroValue3
  t4 := Tryz.underlying4
  a4 := Tryz.isAgg4
  z4 := Tryz.sizeOf4
  v4 := Tryz.zeroValue4
  t5 := Tryz.underlying5
  a5 := Tryz.isAgg5
  z5 := Tryz.sizeOf5
  v5 := Tryz.zeroValue5
  t9 := Tryz.underlying9
  a9 := Tryz.isAgg9
  z9 := Tryz.sizeOf9
  v9 := Tryz.zeroValue9
  t22 := Tryz.underlying32
  a22 := Tryz.isAgg32
  z22 := Tryz.sizeOf32
  v22 := Tryz.zeroValue32
  t23 := Tryz.underlying32
  a23 := Tryz.isAgg32
  z23 := Tryz.sizeOf32
  v23 := Tryz.zeroValue32
  t25 := Tryz.underlying3
  a25 := Tryz.isAgg3
  z25 := Tryz.sizeOf3
  v25 := Tryz.zeroValue3
  t32 := Tryz.underlying209
  a32 := Tryz.isAgg209
  z32 := Tryz.sizeOf209
  v32 := Tryz.zeroValue209
  t35 := Tryz.underlying266
  a35 := Tryz.isAgg266
  z35 := Tryz.sizeOf266
  v35 := Tryz.zeroValue266
  t36 := Tryz.underlying267
  a36 := Tryz.isAgg267
  z36 := Tryz.sizeOf267
  v36 := Tryz.zeroValue267
  t41 := Tryz.underlying127
  a41 := Tryz.isAgg127
  z41 := Tryz.sizeOf127
  v41 := Tryz.zeroValue127
  t44 := Tryz.underlying239
  a44 := Tryz.isAgg239
  z44 := Tryz.sizeOf239
  v44 := Tryz.zeroValue239
  t46 := Tryz.underlying241
  a46 := Tryz.isAgg241
  z46 := Tryz.sizeOf241
  v46 := Tryz.zeroValue241
  t53 := Tryz.underlying293
  a53 := Tryz.isAgg293
  z53 := Tryz.sizeOf293
  v53 := Tryz.zeroValue293
  t57 := Tryz.underlying278
  a57 := Tryz.isAgg278
  z57 := Tryz.sizeOf278
  v57 := Tryz.zeroValue278
  t63 := Tryz.underlying305
  a63 := Tryz.isAgg305
  z63 := Tryz.sizeOf305
  v63 := Tryz.zeroValue305
  t64 := Tryz.underlying83
  a64 := Tryz.isAgg83
  z64 := Tryz.sizeOf83
  v64 := Tryz.zeroValue83 }
end Go.Proofs
