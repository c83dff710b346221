/-
  Words for strings, beats and transactions in memory; nothing about the program's functions yet.
-/
import Derived.Test.YtlockjbhdibojaaGreatDoorProg
import Derived.Test.YtlockjbhdibojaaGreatDoorGroupL
import Derived.WalkKit
import Derived.WalkSpells
import Derived.WalkLawsBesides
import Derived.Below
import Derived.BigQuiet
import Derived.Deep.QuietTactic
import Derived.LoopTactic
import Derived.RegionTactic
import Derived.Lib.SmallJoins
import Derived.Deep.RegionHeld3
import Derived.Deep.AppendLies
import Derived.Deep.DeepCutAuto
namespace Go.Proofs.YtlockjbhdibojaaGreatDoor
open Go.RowKit

theorem hide {p : Prop} (h : p) : Hid p := h
def I64 (n : Int) : Prop := -9223372036854775808 ≤ n ∧ n ≤ 9223372036854775807

/-- the blocks that P names are as they were -/
def Stay (P : Nat → Prop) (w w' : World) : Prop := ∀ b, P b → w'.heap[b]? = w.heap[b]?
theorem Stay.refl (P : Nat → Prop) (w : World) : Stay P w w := fun _ _ => rfl
theorem Stay.trans {P : Nat → Prop} {a b c : World} (h : Stay P a b) (h' : Stay P b c) : Stay P a c := fun k hk => (h' k hk).trans (h k hk)
theorem Stay.cell {P : Nat → Prop} {w w' : World} (h : Stay P w w') {b o : Nat} (hb : P b) : w'.cell? ⟨b, o, none⟩ = w.cell? ⟨b, o, none⟩ := World.cell?_of_block (a := ⟨b, o, none⟩) (h b hb)
theorem Stay.sub {P P' : Nat → Prop} {w w' : World} (h : Stay P' w w') (hp : ∀ b, P b → P' b) : Stay P w w' := fun b hb => h b (hp b hb)
theorem stay_alloc {P : Nat → Prop} {w : World} (o : Obj) (hp : ∀ b, P b → b < w.heap.size) : Stay P w (w.alloc o) := fun b hb => Below.heap_alloc w o b (hp b hb)
theorem stay_below {P : Nat → Prop} {w w' : World} (h : Below w.heap.size w w') (hp : ∀ b, P b → b < w.heap.size) : Stay P w w' := fun b hb => h.block b (hp b hb)
theorem stay_grown {P : Nat → Prop} {w w' : World} {row : Option Nat} (h : w.grownBy w' row) (hp : ∀ b, P b → b < w.heap.size) (hr : ∀ b, P b → some b ≠ row) : Stay P w w' := fun b hb => h.block b (hp b hb) (hr b hb)
theorem stay_set {P : Nat → Prop} {w : World} {N k : Nat} {v : Value} (hn : ¬ P N) : Stay P w (w.setCell ⟨N, k, none⟩ v) := fun b hb => by
  rw [Below.heap_setCell _ _ _ _ (by rintro rfl; exact hn hb)]

/-- a list of strings, in blocks that P names -/
def StrsAt (w : World) (P : Nat → Prop) (A : Option Addr) (vs : List ByteArray) : Prop :=
  vs ≠ [] → ∃ b off, A = some ⟨b, off, none⟩ ∧ P b ∧ ∀ i s, vs[i]? = some s → w.cell? ⟨b, off + i, none⟩ = some (.string s)

/-- a beat, with the place of its values -/
structure Rb where
  V : Option Addr
  cap : Nat
  bt : Bt
def encB (r : Rb) : List Value := [.int .i64 r.bt.time, .int .i64 r.bt.waited, .slice r.V r.bt.vals.length r.cap, .bool r.bt.last]
def encBs (rs : List Rb) : List Value := rs.flatMap encB
def BeatsAt (w : World) (P : Nat → Prop) (A : Option Addr) (rs : List Rb) : Prop :=
  rs ≠ [] → ∃ b off, A = some ⟨b, off, none⟩ ∧ P b ∧ ∀ i r, rs[i]? = some r → w.cell? ⟨b, off + i * 4, none⟩ = some (.int .i64 r.bt.time) ∧ w.cell? ⟨b, off + i * 4 + 1, none⟩ = some (.int .i64 r.bt.waited) ∧
    w.cell? ⟨b, off + i * 4 + 2, none⟩ = some (.slice r.V r.bt.vals.length r.cap) ∧ w.cell? ⟨b, off + i * 4 + 3, none⟩ = some (.bool r.bt.last) ∧ StrsAt w P r.V r.bt.vals
/-- a transaction, with the place of its beats -/
structure Rt where
  A : Option Addr
  cap : Nat
  bs : List Rb
  done : Bool
def encT (t : Rt) : List Value := [.slice t.A t.bs.length t.cap, .bool t.done]
def encTs (ts : List Rt) : List Value := ts.flatMap encT
def TransAt (w : World) (P : Nat → Prop) (A : Option Addr) (ts : List Rt) : Prop :=
  ts ≠ [] → ∃ b off, A = some ⟨b, off, none⟩ ∧ P b ∧ ∀ i t, ts[i]? = some t → w.cell? ⟨b, off + i * 2, none⟩ = some (.slice t.A t.bs.length t.cap) ∧ w.cell? ⟨b, off + i * 2 + 1, none⟩ = some (.bool t.done) ∧ BeatsAt w P t.A t.bs

section
variable {w w' : World} {P P' : Nat → Prop} {A : Option Addr}
theorem StrsAt.stay {vs : List ByteArray} (h : StrsAt w P A vs) (hs : Stay P w w') : StrsAt w' P A vs := fun hx => by
  obtain ⟨b, off, e, hb, hc⟩ := h hx
  exact ⟨b, off, e, hb, fun i s hi => (hs.cell hb).trans (hc i s hi)⟩
theorem StrsAt.more {vs : List ByteArray} (h : StrsAt w P A vs) (hp : ∀ b, P b → P' b) : StrsAt w P' A vs := fun hx => by
  obtain ⟨b, off, e, hb, hc⟩ := h hx
  exact ⟨b, off, e, hp b hb, hc⟩
theorem StrsAt.at_ {vs : List ByteArray} (h : StrsAt w P A vs) {k : Nat} (hk : k < vs.length) : ∃ b off, A = some ⟨b, off, none⟩ ∧ P b ∧ w.cell? ⟨b, off + k, none⟩ = some (.string vs[k]) := by
  obtain ⟨b, off, e, hb, hc⟩ := h (fun e => by subst e; simp at hk)
  exact ⟨b, off, e, hb, hc k _ (List.getElem?_eq_getElem hk)⟩
theorem BeatsAt.stay {rs : List Rb} (h : BeatsAt w P A rs) (hs : Stay P w w') : BeatsAt w' P A rs := fun hx => by
  obtain ⟨b, off, e, hb, hc⟩ := h hx
  exact ⟨b, off, e, hb, fun i s hi => by
    obtain ⟨c1, c2, c3, c4, c5⟩ := hc i s hi
    exact ⟨(hs.cell hb).trans c1, (hs.cell hb).trans c2, (hs.cell hb).trans c3, (hs.cell hb).trans c4, c5.stay hs⟩⟩
theorem BeatsAt.more {rs : List Rb} (h : BeatsAt w P A rs) (hp : ∀ b, P b → P' b) : BeatsAt w P' A rs := fun hx => by
  obtain ⟨b, off, e, hb, hc⟩ := h hx
  exact ⟨b, off, e, hp b hb, fun i s hi => by
    obtain ⟨c1, c2, c3, c4, c5⟩ := hc i s hi
    exact ⟨c1, c2, c3, c4, c5.more hp⟩⟩
theorem BeatsAt.at_ {rs : List Rb} (h : BeatsAt w P A rs) {k : Nat} (hk : k < rs.length) : ∃ b off, A = some ⟨b, off, none⟩ ∧ P b ∧ w.cell? ⟨b, off + k * 4, none⟩ = some (.int .i64 rs[k].bt.time) ∧ w.cell? ⟨b, off + k * 4 + 1, none⟩ = some (.int .i64 rs[k].bt.waited) ∧
    w.cell? ⟨b, off + k * 4 + 2, none⟩ = some (.slice rs[k].V rs[k].bt.vals.length rs[k].cap) ∧ w.cell? ⟨b, off + k * 4 + 3, none⟩ = some (.bool rs[k].bt.last) ∧ StrsAt w P rs[k].V rs[k].bt.vals := by
  obtain ⟨b, off, e, hb, hc⟩ := h (fun e => by subst e; simp at hk)
  exact ⟨b, off, e, hb, hc k _ (List.getElem?_eq_getElem hk)⟩
theorem TransAt.stay {ts : List Rt} (h : TransAt w P A ts) (hs : Stay P w w') : TransAt w' P A ts := fun hx => by
  obtain ⟨b, off, e, hb, hc⟩ := h hx
  exact ⟨b, off, e, hb, fun i s hi => by
    obtain ⟨c1, c2, c3⟩ := hc i s hi
    exact ⟨(hs.cell hb).trans c1, (hs.cell hb).trans c2, c3.stay hs⟩⟩
theorem TransAt.more {ts : List Rt} (h : TransAt w P A ts) (hp : ∀ b, P b → P' b) : TransAt w P' A ts := fun hx => by
  obtain ⟨b, off, e, hb, hc⟩ := h hx
  exact ⟨b, off, e, hp b hb, fun i s hi => by
    obtain ⟨c1, c2, c3⟩ := hc i s hi
    exact ⟨c1, c2, c3.more hp⟩⟩
theorem TransAt.at_ {ts : List Rt} (h : TransAt w P A ts) {k : Nat} (hk : k < ts.length) : ∃ b off, A = some ⟨b, off, none⟩ ∧ P b ∧ w.cell? ⟨b, off + k * 2, none⟩ = some (.slice ts[k].A ts[k].bs.length ts[k].cap) ∧ w.cell? ⟨b, off + k * 2 + 1, none⟩ = some (.bool ts[k].done) ∧ BeatsAt w P ts[k].A ts[k].bs := by
  obtain ⟨b, off, e, hb, hc⟩ := h (fun e => by subst e; simp at hk)
  exact ⟨b, off, e, hb, hc k _ (List.getElem?_eq_getElem hk)⟩
theorem StrsAt.nil : StrsAt w P A [] := fun h => absurd rfl h
theorem BeatsAt.nil : BeatsAt w P A [] := fun h => absurd rfl h
theorem TransAt.nil : TransAt w P A [] := fun h => absurd rfl h
end

/-- below a block -/
def Lo (n : Nat) (b : Nat) : Prop := b < n

theorem flat_len {α : Type} (f : α → List Value) (m : Nat) (hf : ∀ x, (f x).length = m) (xs : List α) : (xs.flatMap f).length = xs.length * m := by
  induction xs with
  | nil => simp
  | cons x xs ih => rw [List.flatMap_cons, List.length_append, hf, ih, List.length_cons, Nat.add_mul]; omega
theorem flat_at {α : Type} (f : α → List Value) (m : Nat) (hf : ∀ x, (f x).length = m) {xs : List α} {i j : Nat} {x : α} (h : xs[i]? = some x) (hj : j < m) : (xs.flatMap f)[i * m + j]? = (f x)[j]? := by
  induction xs generalizing i with
  | nil => simp at h
  | cons y ys ih =>
    cases i with
    | zero =>
      simp at h; subst h
      rw [List.flatMap_cons, Nat.zero_mul, Nat.zero_add, List.getElem?_append_left (by rw [hf]; exact hj)]
    | succ i =>
      have := ih (i := i) (by simpa using h)
      rw [List.flatMap_cons, List.getElem?_append_right (by rw [hf, Nat.add_mul]; omega), hf, ← this]
      congr 1
      rw [Nat.add_mul]; omega

def OwnB (w : World) (base : Nat) (A : Option Addr) (c : Nat) (rs : List Rb) : Prop := w.ownsRow base 27 4 (.slice A rs.length c) rs.length (encBs rs)
def OwnT (w : World) (base : Nat) (A : Option Addr) (c : Nat) (ts : List Rt) : Prop := w.ownsRow base 35 2 (.slice A ts.length c) ts.length (encTs ts)
theorem infoB : (Tryz.prog.info? 27).map (fun i => (i.zero, i.size, i.bytes)) = some (some (.agg #[.int .i64 0, .int .i64 0, .slice none 0 0, .bool false]), 4, 48) := by kernel_rfl
theorem infoT : (Tryz.prog.info? 35).map (fun i => (i.zero, i.size, i.bytes)) = some (some (.agg #[.slice none 0 0, .bool false]), 2, 32) := by kernel_rfl

/-- the block of a slice -/
def ob (A : Option Addr) : Option Nat := (Value.slice A 0 0).ownBlock
theorem ob_eq (A : Option Addr) (n c : Nat) : (Value.slice A n c).ownBlock = ob A := by cases A <;> rfl
theorem ob_some (g : Nat) : ob (some ⟨g, 0, none⟩) = some g := rfl

section
variable {w w' : World} {base base' : Nat} {A : Option Addr} {c : Nat}
theorem own_place {e : TypeId} {size n : Nat} {xs : List Value} (h : w.ownsRow base e size (.slice A n c) n xs) (hn : 0 < n) : ∃ g, A = some ⟨g, 0, none⟩ ∧ base ≤ g ∧ g < w.heap.size := by
  obtain ⟨g, cap, e1, h1, h2⟩ := World.ownsRow.form h hn
  injection e1 with e1
  exact ⟨g, e1, h1, h2⟩
theorem OwnB.reads {P : Nat → Prop} {rs : List Rb} (h : OwnB w base A c rs) (hp : ∀ g, ob A = some g → P g) (hv : ∀ r ∈ rs, StrsAt w P r.V r.bt.vals) : BeatsAt w P A rs := fun hx => by
  have hl : 0 < rs.length := List.length_pos_iff.2 hx
  obtain ⟨g, rfl, h1, h2⟩ := own_place h hl
  refine ⟨g, 0, rfl, hp g rfl, fun i r hi => ?_⟩
  have hlt : i < rs.length := (List.getElem?_eq_some_iff.1 hi).1
  have hc : ∀ j, j < 4 → w.cell? ⟨g, i * 4 + j, none⟩ = (encB r)[j]? := fun j hj => by
    rw [World.ownsRow.cellAt h _ (by omega)]
    exact flat_at encB 4 (fun _ => rfl) hi hj
  refine ⟨?_, ?_, ?_, ?_, hv r (List.mem_of_getElem? hi)⟩
  · rw [Nat.zero_add]; have := hc 0 (by omega); rw [Nat.add_zero] at this; rw [this]; rfl
  · rw [Nat.zero_add, hc 1 (by omega)]; rfl
  · rw [Nat.zero_add, hc 2 (by omega)]; rfl
  · rw [Nat.zero_add, hc 3 (by omega)]; rfl
theorem OwnT.reads {P : Nat → Prop} {ts : List Rt} (h : OwnT w base A c ts) (hp : ∀ g, ob A = some g → P g) (hv : ∀ t ∈ ts, BeatsAt w P t.A t.bs) : TransAt w P A ts := fun hx => by
  have hl : 0 < ts.length := List.length_pos_iff.2 hx
  obtain ⟨g, rfl, h1, h2⟩ := own_place h hl
  refine ⟨g, 0, rfl, hp g rfl, fun i t hi => ?_⟩
  have hlt : i < ts.length := (List.getElem?_eq_some_iff.1 hi).1
  have hc : ∀ j, j < 2 → w.cell? ⟨g, i * 2 + j, none⟩ = (encT t)[j]? := fun j hj => by
    rw [World.ownsRow.cellAt h _ (by omega)]
    exact flat_at encT 2 (fun _ => rfl) hi hj
  refine ⟨?_, ?_, hv t (List.mem_of_getElem? hi)⟩
  · rw [Nat.zero_add]; have := hc 0 (by omega); rw [Nat.add_zero] at this; rw [this]; rfl
  · rw [Nat.zero_add, hc 1 (by omega)]; rfl
end

end Go.Proofs.YtlockjbhdibojaaGreatDoor
