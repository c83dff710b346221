/-
  Several texts in one: LawKinds, SpanS, Sets, Base, But, WavM, BitsS, Code, Fold, Ref51, DecS, RefTxt. Each says at its head what it holds.
-/
import Derived.Test.YtbhcmnfeeogdhaaGreatDoorEK2
import Derived.Below
import Derived.Test.YtbhcmnfeeogdhaaGreatDoorProg
import Derived.WalkKit
import Derived.WalkSpells
import Derived.WalkLawsBesides
import Derived.BigQuiet
import Derived.Deep.QuietTactic
import Derived.LoopTactic
import Derived.RegionTactic
import Derived.Lib.SmallJoins
import Derived.Lib.SlBytesRow

/-
  wavestorelaw53.EventKinds, walked; the example is a premise here (EAwake proves it).
-/
namespace Go.Proofs.YtbhcmnfeeogdhaaGreatDoor
open Go.RowKit

def Awake53 : Prop := ∀ w : World, Calls Tryz.prog 8 #[] w fun e w' => e = .returned (.bool true) ∧ Below w.heap.size w w'

set_option maxRecDepth 100000 in
set_option maxHeartbeats 4000000 in
theorem kinds_all (haw : Awake53) (kind : Int) (a b : ByteArray) (w : World) (hk : I64 kind) :
    Calls Tryz.prog 3 #[.int .i64 kind, .string a, .string b] w fun e w' => e = .returned (.bool true) ∧ Below w.heap.size w w' := by
  have HAW := hide haw
  have HIS := hide (fun (W : World) => is_any kind a b W hk)
  have HRS := hide (fun (W : World) => ris53 kind a b W)
  generalize isEv kind a b = z at *
  clear haw
  by_cases ha : 130 < a.size
  · have T1 : decide (130 < a.size) = true := decide_eq_true ha
    have T2 : decide ((130 : Int) < (a.size : Int)) = true := decide_eq_true (by omega)
    clear ha
    go_enter Tryz.func3, Tryz.ntmps3
    go_wp2_with fail
    refine (HAW.out _).mono ?_
    rintro e w2 ⟨rfl, hb2⟩
    go_wp2_with fail
    go_ret
    exact ⟨rfl, hb2⟩
  have T1 : decide (130 < a.size) = false := decide_eq_false ha
  have T2 : decide ((130 : Int) < (a.size : Int)) = false := decide_eq_false (by omega)
  by_cases hb : 130 < b.size
  · have T3 : decide (130 < b.size) = true := decide_eq_true hb
    have T4 : decide ((130 : Int) < (b.size : Int)) = true := decide_eq_true (by omega)
    clear ha hb
    go_enter Tryz.func3, Tryz.ntmps3
    go_wp2_with fail
    refine (HAW.out _).mono ?_
    rintro e w2 ⟨rfl, hb2⟩
    go_wp2_with fail
    go_ret
    exact ⟨rfl, hb2⟩
  have T3 : decide (130 < b.size) = false := decide_eq_false hb
  have T4 : decide ((130 : Int) < (b.size : Int)) = false := decide_eq_false (by omega)
  clear ha hb
  go_enter Tryz.func3, Tryz.ntmps3
  go_wp2_with fail
  refine (HIS.out _).mono ?_
  rintro e w2 ⟨rfl, hb2⟩
  have HB2 := hide hb2
  clear hb2
  go_wp2_with fail
  refine (HRS.out _).mono ?_
  rintro e w3 ⟨rfl, rfl⟩
  cases z
  all_goals
    go_wp2_with fail
    refine (HAW.out _).mono ?_
    rintro e w4 ⟨rfl, hb4⟩
    have HB4 := hide (bstep HB2.out hb4)
    clear hb4
    go_wp2_with fail
    go_ret
    exact ⟨rfl, HB4.out⟩

end Go.Proofs.YtbhcmnfeeogdhaaGreatDoor

/-
  Lists of spans: what it means that they are a function's values over a range, each as long as can be; such a list is one alone. No program.
-/
namespace Go.Proofs.YtbhcmnfeeogdhaaGreatDoor

structure Spn where
  f : Int
  t : Int
  v : ByteArray
/-- the spans of g from a to b -/
def Spans (g : Int → ByteArray) : Int → Int → List Spn → Prop
  | _, _, [] => False
  | a, b, [x] => x.f = a ∧ x.t = b ∧ a ≤ b ∧ ∀ t, a ≤ t → t ≤ b → g t = x.v
  | a, b, x :: y :: r => x.f = a ∧ a ≤ x.t ∧ (∀ t, a ≤ t → t ≤ x.t → g t = x.v) ∧ x.v ≠ y.v ∧ Spans g (x.t + 1) b (y :: r)
section
variable {g h : Int → ByteArray} {a b e e' : Int} {l m : List Spn} {x y : Spn}
theorem Spans.ne (hs : Spans g a b l) : l ≠ [] := by
  cases l with
  | nil => exact hs.elim
  | cons x l => simp
theorem Spans.head (hs : Spans g a b (x :: l)) : x.f = a ∧ a ≤ x.t ∧ g a = x.v ∧ ∀ t, a ≤ t → t ≤ x.t → g t = x.v := by
  cases l with
  | nil => obtain ⟨h1, h2, h3, h4⟩ := hs; exact ⟨h1, by omega, h4 a (by omega) (by omega), fun t h5 h6 => h4 t h5 (by omega)⟩
  | cons y l => obtain ⟨h1, h2, h3, _⟩ := hs; exact ⟨h1, h2, h3 a (by omega) (by omega), h3⟩
theorem Spans.le (hs : Spans g a b l) : a ≤ b := by
  induction l generalizing a with
  | nil => exact hs.elim
  | cons x l ih =>
    cases l with
    | nil => exact hs.2.2.1
    | cons y l => obtain ⟨_, h2, _, _, h5⟩ := hs; have := ih h5; omega
theorem Spans.uniq (hs : Spans g a b l) (hm : Spans g a b m) : l = m := by
  induction l generalizing a m with
  | nil => exact hs.elim
  | cons x l ih =>
    cases m with
    | nil => exact hm.elim
    | cons x' m =>
      obtain ⟨f1, l1, v1, c1⟩ := hs.head
      obtain ⟨f2, l2, v2, c2⟩ := hm.head
      have hv : x.v = x'.v := v1.symm.trans v2
      have key : ∀ {p q : Spn} {r s : List Spn}, Spans g a b (p :: r) → Spans g a b (q :: s) → p.v = q.v → ¬ p.t < q.t := fun {p q r s} hp hq hpq hlt => by
        obtain ⟨_, hq2, _, cq⟩ := hq.head
        cases r with
        | nil =>
          obtain ⟨_, h2, _, _⟩ := hp
          cases s with
          | nil => obtain ⟨_, h3, _, _⟩ := hq; omega
          | cons z s => obtain ⟨_, _, _, _, h5⟩ := hq; have := h5.le; omega
        | cons z r =>
          obtain ⟨_, h2, _, h4, h5⟩ := hp
          obtain ⟨_, _, h6, _⟩ := h5.head
          have := cq (p.t + 1) (by omega) (by omega)
          exact h4 (hpq.trans (this.symm.trans h6))
      have ht : x.t = x'.t := by
        have h1 := key hs hm hv
        have h2 := key hm hs hv.symm
        omega
      have hx : x = x' := by
        cases x
        cases x'
        simp_all
      subst hx
      cases l with
      | nil =>
        cases m with
        | nil => rfl
        | cons y m =>
          obtain ⟨_, h2, _, _⟩ := hs
          obtain ⟨_, _, _, _, h5⟩ := hm
          have := h5.le
          omega
      | cons y l =>
        cases m with
        | nil =>
          obtain ⟨_, h2, _, _⟩ := hm
          obtain ⟨_, _, _, _, h5⟩ := hs
          have := h5.le
          omega
        | cons y' m =>
          obtain ⟨_, _, _, _, h5⟩ := hs
          obtain ⟨_, _, _, _, h6⟩ := hm
          rw [ih h5 h6]
theorem Spans.congr (hs : Spans g a b l) (hg : ∀ t, a ≤ t → t ≤ b → h t = g t) : Spans h a b l := by
  induction l generalizing a with
  | nil => exact hs.elim
  | cons x l ih =>
    cases l with
    | nil => obtain ⟨h1, h2, h3, h4⟩ := hs; exact ⟨h1, h2, h3, fun t h5 h6 => (hg t h5 h6).trans (h4 t h5 h6)⟩
    | cons y l =>
      obtain ⟨h1, h2, h3, h4, h5⟩ := hs
      have := h5.le
      exact ⟨h1, h2, fun t h6 h7 => (hg t h6 (by omega)).trans (h3 t h6 h7), h4, ih h5 fun t h6 h7 => hg t (by omega) h7⟩
/-- the first span -/
theorem Spans.one (hle : a ≤ b) (hg : ∀ t, a ≤ t → t ≤ b → g t = x.v) (hf : x.f = a) (ht : x.t = b) : Spans g a b [x] := ⟨hf, ht, hle, hg⟩
/-- the value goes on -/
theorem Spans.same (hs : Spans g a e (l ++ [x])) (hle : e ≤ e') (hg : ∀ t, e < t → t ≤ e' → g t = x.v) : Spans g a e' (l ++ [⟨x.f, e', x.v⟩]) := by
  induction l generalizing a with
  | nil => obtain ⟨h1, h2, h3, h4⟩ := hs; exact ⟨h1, rfl, by omega, fun t h5 h6 => by
      rcases Int.lt_or_le e t with h7 | h7
      · exact hg t h7 h6
      · exact h4 t h5 h7⟩
  | cons y l ih =>
    cases l with
    | nil => obtain ⟨h1, h2, h3, h4, h5⟩ := hs; exact ⟨h1, h2, h3, h4, ih h5⟩
    | cons z l => obtain ⟨h1, h2, h3, h4, h5⟩ := hs; exact ⟨h1, h2, h3, h4, ih h5⟩
/-- another value follows -/
theorem Spans.more (hs : Spans g a e (l ++ [x])) (hle : e < e') (hg : ∀ t, e < t → t ≤ e' → g t = y.v) (hf : y.f = e + 1) (ht : y.t = e') (hv : x.v ≠ y.v) : Spans g a e' (l ++ [x] ++ [y]) := by
  induction l generalizing a with
  | nil =>
    obtain ⟨h1, h2, h3, h4⟩ := hs
    exact ⟨h1, by omega, fun t h5 h6 => h4 t h5 (by omega), hv, by omega, ht, by omega, fun t h5 h6 => hg t (by omega) h6⟩
  | cons z l ih =>
    cases l with
    | nil => obtain ⟨h1, h2, h3, h4, h5⟩ := hs; exact ⟨h1, h2, h3, h4, ih h5⟩
    | cons u l => obtain ⟨h1, h2, h3, h4, h5⟩ := hs; exact ⟨h1, h2, h3, h4, ih h5⟩
theorem Spans.last (hs : Spans g a b (l ++ [x])) : x.t = b ∧ g b = x.v := by
  induction l generalizing a with
  | nil => obtain ⟨h1, h2, h3, h4⟩ := hs; exact ⟨h2, h4 b h3 (Int.le_refl _)⟩
  | cons y l ih =>
    cases l with
    | nil => obtain ⟨_, _, _, _, h5⟩ := hs; exact ih h5
    | cons z l => obtain ⟨_, _, _, _, h5⟩ := hs; exact ih h5
/-- each span: its place, its value -/
theorem Spans.mem (hs : Spans g a b l) (hx : x ∈ l) : a ≤ x.f ∧ x.f ≤ x.t ∧ x.t ≤ b ∧ ∀ t, x.f ≤ t → t ≤ x.t → g t = x.v := by
  induction l generalizing a with
  | nil => cases hx
  | cons y l ih =>
    obtain ⟨h1, h2, _, h4⟩ := hs.head
    have hle := hs.le
    rcases List.mem_cons.1 hx with rfl | hx
    · refine ⟨by omega, by omega, ?_, fun t h5 h6 => h4 t (by omega) h6⟩
      cases l with
      | nil => obtain ⟨_, h6, _⟩ := hs; omega
      | cons z l => obtain ⟨_, _, _, _, h5⟩ := hs; have := h5.le; omega
    · cases l with
      | nil => cases hx
      | cons z l =>
        obtain ⟨_, _, _, _, h5⟩ := hs
        obtain ⟨k1, k2, k3, k4⟩ := ih h5 hx
        exact ⟨by omega, k2, k3, k4⟩
/-- two neighbours -/
theorem Spans.next (hs : Spans g a b l) {i : Nat} (hi : l[i]? = some x) (hj : l[i + 1]? = some y) : y.f = x.t + 1 ∧ x.v ≠ y.v := by
  induction l generalizing a i with
  | nil => simp at hi
  | cons z l ih =>
    cases l with
    | nil => simp at hj
    | cons u l =>
      obtain ⟨_, _, _, h4, h5⟩ := hs
      cases i with
      | zero =>
        simp at hi hj
        subst hi hj
        exact ⟨h5.head.1, h4⟩
      | succ i => exact ih h5 (by simpa using hi) (by simpa using hj)
theorem Spans.first (hs : Spans g a b l) (hi : l[0]? = some x) : x.f = a ∧ g a = x.v := by
  cases l with
  | nil => simp at hi
  | cons z l => simp at hi; subst hi; exact ⟨hs.head.1, hs.head.2.2.1⟩
end

end Go.Proofs.YtbhcmnfeeogdhaaGreatDoor

/-
  Plain mathematics of lists of intervals: the set of a list, normal lists, their uniqueness and length, the merging of a sorted list. No program in sight.
-/
namespace Go.Proofs.YtbhcmnfeeogdhaaGreatDoor

abbrev Iv := Int × Int

end Go.Proofs.YtbhcmnfeeogdhaaGreatDoor

/-
  Words for slices of intervals in memory, over the program's translation; nothing about the program's functions yet.
-/
namespace Go.Proofs.YtbhcmnfeeogdhaaGreatDoor
open Go.RowKit

section
variable {w w' : World} {B B' : Nat} {A : Option Addr} {xs : List Iv}

end

theorem infoInt : (Tryz.prog.info? 3).map (fun i => (i.zero, i.size, i.bytes)) = some (some (.int .i64 0), 1, 8) := by kernel_rfl

section
variable {w w' : World} {base base' : Nat} {A : Option Addr} {c : Nat} {xs : List Iv}
end

theorem own_push {w wp : World} {base : Nat} {e : TypeId} {size : Nat} {v : Value} {n : Nat} {xs : List Value} {o : Obj} (h : wp.ownsRow base e size v n xs) (hw : w.heap = wp.heap.push o) : w.ownsRow base e size v n xs := by
  refine ⟨h.1, ?_⟩
  rcases h.2 with h2 | ⟨g, cap, cur, h2, h3, h4, h5⟩
  · exact .inl h2
  · refine .inr ⟨g, cap, cur, h2, h3, ?_, h5⟩
    rw [hw, Array.getElem?_push, if_neg (by have := (Array.getElem?_eq_some_iff.1 h4).1; omega)]
    exact h4
theorem cells_push {w wp : World} {cs : Array Value} {t : TypeId} (hw : w.heap = wp.heap.push (.cells cs t)) (j : Nat) : w.cell? ((⟨wp.heap.size, 0, none⟩ : Addr).add j) = cs[j]? := by
  have e : (⟨wp.heap.size, 0, none⟩ : Addr).add j = ⟨wp.heap.size, j, none⟩ := by unfold Addr.add; split <;> simp_all
  rw [e, cell_of_row w wp.heap.size j cs t (0, 0) (by rw [hw]; simp)]

theorem box_cell {w : World} {N : Nat} {v : Value} {t : TypeId} (h : w.heap[N]? = some (.cells #[v] t (0, 0))) : w.cell? ⟨N, 0, none⟩ = some v := by
  rw [cell_of_row w N 0 _ t (0, 0) h]; rfl
theorem box_frozen {w : World} {N : Nat} {v : Value} {t : TypeId} (h : w.heap[N]? = some (.cells #[v] t (0, 0))) : w.frozen? ⟨N, 0, none⟩ = false := by
  simp [World.frozen?, h]
theorem box_set1 {w : World} {N : Nat} {v u : Value} {t : TypeId} (h : w.heap[N]? = some (.cells #[v] t (0, 0))) : (w.setCell ⟨N, 0, none⟩ u).heap[N]? = some (.cells #[u] t (0, 0)) := by
  simp [World.setCell, Array.getElem?_modify, h]
end Go.Proofs.YtbhcmnfeeogdhaaGreatDoor

/-
  Memory that has only grown, but for one block.
-/
namespace Go.Proofs.YtbhcmnfeeogdhaaGreatDoor
open Go.RowKit

/-- as Below, but for one block -/
structure But (n : Nat) (x : Option Nat) (w w' : World) : Prop where
  os : w'.os = w.os
  tape : w'.tape = w.tape
  output : w'.output = w.output
  size : w.heap.size ≤ w'.heap.size
  block : ∀ b, b < n → some b ≠ x → w'.heap[b]? = w.heap[b]?
theorem But.refl (n : Nat) (x : Option Nat) (w : World) : But n x w w := ⟨rfl, rfl, rfl, Nat.le_refl _, fun _ _ _ => rfl⟩
theorem But.trans {n : Nat} {x : Option Nat} {a b c : World} (h : But n x a b) (k : But n x b c) : But n x a c := ⟨k.os.trans h.os, k.tape.trans h.tape, k.output.trans h.output, Nat.le_trans h.size k.size, fun i hi hx => (k.block i hi hx).trans (h.block i hi hx)⟩
theorem But.mono {n m : Nat} {x : Option Nat} {a b : World} (h : But n x a b) (hm : m ≤ n) : But m x a b := ⟨h.os, h.tape, h.output, h.size, fun i hi hx => h.block i (by omega) hx⟩
theorem But.of {n : Nat} {x : Option Nat} {a b : World} (h : Below n a b) : But n x a b := ⟨h.os, h.tape, h.output, h.size, fun i hi _ => h.block i hi⟩
theorem But.below {n m : Nat} {a b : World} {x : Option Nat} (h : But n x a b) (hm : m ≤ n) (hx : ∀ k, x = some k → m ≤ k) : Below m a b := ⟨h.os, h.tape, h.output, h.size, fun i hi => h.block i (by omega) fun e => by have := hx i e.symm; omega⟩

end Go.Proofs.YtbhcmnfeeogdhaaGreatDoor

/-
  Waves in memory, and the source that reads one: what its box holds.
-/
namespace Go.Proofs.YtbhcmnfeeogdhaaGreatDoor
open Go.RowKit

structure Chg where
  time : Int
  val : ByteArray
def cChg (c : Chg) : List Value := [.int .i64 c.time, .string c.val]
structure Sgn where
  kind : Int
  width : Int
  CA : Option Addr
  cc : Nat
  chs : List Chg
def cSgn (s : Sgn) : List Value := [.int .i64 s.kind, .int .i64 s.width, .slice s.CA s.chs.length s.cc]
/-- a list of signals with their changes -/
structure SigsAt (w : World) (P : Nat → Prop) (A : Option Addr) (l : List Sgn) : Prop where
  row : Row w P 3 cSgn A l
  each : ∀ s ∈ l, Row w P 2 cChg s.CA s.chs
theorem SigsAt.stay {w w' : World} {P : Nat → Prop} {A : Option Addr} {l : List Sgn} (h : SigsAt w P A l) (hs : Stay P w w') : SigsAt w' P A l := ⟨h.row.stay hs, fun s hm => (h.each s hm).stay hs⟩
theorem SigsAt.more {w : World} {P P' : Nat → Prop} {A : Option Addr} {l : List Sgn} (h : SigsAt w P A l) (hp : ∀ b, P b → P' b) : SigsAt w P' A l := ⟨h.row.more hp, fun s hm => (h.each s hm).more hp⟩
/-- a wave -/
structure Wv where
  A : Option Addr
  cA : Nat
  sigs : List Sgn
  G : Option Addr
  gn : Nat
  cG : Nat
  fin : Int
def cWv (v : Wv) : List Value := [.slice v.A v.sigs.length v.cA, .slice v.G v.gn v.cG, .int .i64 v.fin]
def memO (v : Wv) (L c : Int) : Obj := .cells #[.slice v.A v.sigs.length v.cA, .slice v.G v.gn v.cG, .int .i64 v.fin, .int .i64 L, .int .i64 c] 47 (0, 0)
/-- the source: its box M, the wave below, its limit, the calls so far -/
structure SourceAt (w : World) (M : Nat) (v : Wv) (L c : Int) : Prop where
  box : w.heap[M]? = some (memO v L c)
  sig : SigsAt w (Lo M) v.A v.sigs
def srcV (M : Nat) : Value := .iface 36 (.pointer (some ⟨M, 0, none⟩))
section
variable {w w' : World} {M : Nat} {v : Wv} {L c : Int}
theorem SourceAt.lt (h : SourceAt w M v L c) : M < w.heap.size := box_lt h.box
theorem SourceAt.cells (h : SourceAt w M v L c) : w.cell? ⟨M, 0, none⟩ = some (.slice v.A v.sigs.length v.cA) ∧ w.cell? ⟨M, 1, none⟩ = some (.slice v.G v.gn v.cG) ∧ w.cell? ⟨M, 2, none⟩ = some (.int .i64 v.fin) ∧ w.cell? ⟨M, 3, none⟩ = some (.int .i64 L) ∧ w.cell? ⟨M, 4, none⟩ = some (.int .i64 c) ∧ w.frozen? ⟨M, 4, none⟩ = false := by
  have hb := h.box
  unfold memO at hb
  exact ⟨by rw [cell_of_row w M _ _ _ (0, 0) hb]; rfl, by rw [cell_of_row w M _ _ _ (0, 0) hb]; rfl, by rw [cell_of_row w M _ _ _ (0, 0) hb]; rfl, by rw [cell_of_row w M _ _ _ (0, 0) hb]; rfl, by rw [cell_of_row w M _ _ _ (0, 0) hb]; rfl, by simp [World.frozen?, hb]⟩
theorem SourceAt.keep (h : SourceAt w M v L c) (hk : ∀ b, b ≤ M → w'.heap[b]? = w.heap[b]?) : SourceAt w' M v L c :=
  ⟨(hk M (Nat.le_refl _)).trans h.box, h.sig.stay fun b hb => hk b (Nat.le_of_lt hb)⟩
theorem SourceAt.below (h : SourceAt w M v L c) (hb : Below w.heap.size w w') : SourceAt w' M v L c := h.keep fun b hl => hb.block b (Nat.lt_of_le_of_lt hl h.lt)
theorem SourceAt.but (h : SourceAt w M v L c) {x : Nat} (hb : But w.heap.size (some x) w w') (hx : M < x) : SourceAt w' M v L c := h.keep fun b hl => hb.block b (Nat.lt_of_le_of_lt hl h.lt) (fun e => by injection e with e; omega)
theorem But.drawn {n : Nat} {x : Option Nat} {a w : World} (h : But n x a w) (q : Nat) : But n x a (w.drewN q) := ⟨h.os, h.tape, h.output, h.size, h.block⟩
theorem but_cell {w : World} {M j : Nat} {u : Value} {n : Nat} : But n (some M) w (w.setCell ⟨M, j, none⟩ u) :=
  ⟨rfl, rfl, rfl, by simp [World.setCell], fun b _ hx => by
    simp [World.setCell, Array.getElem?_modify]
    intro e; subst e; exact absurd rfl hx⟩
/-- a call counted -/
theorem SourceAt.count (h : SourceAt w M v L c) (c' : Int) : SourceAt (w.setCell ⟨M, 4, none⟩ (.int .i64 c')) M v L c' := by
  refine ⟨?_, h.sig.stay fun b hb => ?_⟩
  · have hb := h.box
    unfold memO at hb
    simp [World.setCell, Array.getElem?_modify, hb, memO]
  · have : b ≠ M := fun e => by subst e; exact Nat.lt_irrefl _ hb
    simp [World.setCell, Array.getElem?_modify]
    intro e; exact absurd e.symm this
end
/-- the world behind calls of the source: only the count has changed, and new blocks -/
def SrcTo (w : World) (M : Nat) (v : Wv) (L c : Int) (w' : World) : Prop := SourceAt w' M v L c ∧ But w.heap.size (some M) w w'
theorem SrcTo.trans {w w' w'' : World} {M : Nat} {v : Wv} {L c d : Int} (h : SrcTo w M v L c w') (h' : SrcTo w' M v L d w'') : SrcTo w M v L d w'' := ⟨h'.1, h.2.trans (h'.2.mono h.2.size)⟩
theorem SrcTo.below {w w' w'' : World} {M : Nat} {v : Wv} {L c : Int} (h : SrcTo w M v L c w') (hb : Below w'.heap.size w' w'') : SrcTo w M v L c w'' := ⟨h.1.below hb, h.2.trans ((But.of hb).mono h.2.size)⟩
theorem SrcTo.start {w : World} {M : Nat} {v : Wv} {L c : Int} (h : SourceAt w M v L c) {w' : World} (hb : Below w.heap.size w w') : SrcTo w M v L c w' := ⟨h.below hb, But.of hb⟩

end Go.Proofs.YtbhcmnfeeogdhaaGreatDoor

/-
  Bits as bytes, and what operators make of them: plain definitions and facts, no program.
-/
namespace Go.Proofs.YtbhcmnfeeogdhaaGreatDoor

def bitC (c : UInt8) : Bool := c == 48 || c == 49 || c == 120 || c == 122
def bitsB (l : List UInt8) : Bool := !l.isEmpty && l.all bitC
def knC (c : UInt8) : Bool := c == 48 || c == 49
def knownB (l : List UInt8) : Bool := l.all knC
def codeC (c : UInt8) : Nat := if c == 48 then 0 else if c == 49 then 1 else 2
def invC (c : UInt8) : UInt8 := if c == 48 then 49 else if c == 49 then 48 else 120
def zxC (c : UInt8) : UInt8 := if c == 48 then 48 else if c == 49 then 49 else 120
def andC (a b : UInt8) : UInt8 := if a == 48 || b == 48 then 48 else if knC a && knC b then 49 else 120
def orC (a b : UInt8) : UInt8 := if a == 49 || b == 49 then 49 else if knC a && knC b then 48 else 120
def xorC (a b : UInt8) : UInt8 := if knC a && knC b then (if a == b then 48 else 49) else 120
/-- the operator of a kind: 9 and, 10 or, 11 xor -/
def opC (k : Int) (a b : UInt8) : UInt8 := if k = 9 then andC a b else if k = 10 then orC a b else xorC a b
/-- the numeral of a known bit -/
def nb (c : UInt8) : Nat := if c == 49 then 1 else 0
/-- sums from the right: the bits so far, the carry -/
def addR : List UInt8 → List UInt8 → Nat → List UInt8 × Nat
  | x :: xs, y :: ys, c => let r := addR xs ys c; (UInt8.ofNat (48 + (nb x + nb y + r.2) % 2) :: r.1, (nb x + nb y + r.2) / 2)
  | _, _, c => ([], c)
def sumL (xs ys : List UInt8) (minus : Bool) : List UInt8 := if minus then (addR xs (ys.map invC) 1).1 else (addR xs ys 0).1
def bothL (k : Int) (xs ys : List UInt8) : List UInt8 :=
  if k = 12 ∨ k = 13 then (if knownB xs && knownB ys then sumL xs ys (k == 13) else List.replicate xs.length 120) else List.zipWith (opC k) xs ys
def sliceL (xs : List UInt8) (hi lo : Int) : List UInt8 := if lo < 0 ∨ lo > hi ∨ hi ≥ xs.length then [] else (xs.drop (xs.length - 1 - hi.toNat)).take (hi.toNat - lo.toNat + 1)
def redL (k : Int) (xs : List UInt8) : List UInt8 := match xs with | [] => [] | x :: xs => [xs.foldl (opC (k - 5)) (zxC x)]
def oneL (k a b : Int) (xs : List UInt8) : List UInt8 := if k = 8 then xs.map invC else if k = 6 then sliceL xs a b else if 14 ≤ k ∧ k ≤ 16 then redL k xs else []
def applyL (k a b : Int) (vs : List (List UInt8)) : List UInt8 :=
  if vs.any (fun v => !bitsB v) then [] else if k = 7 then vs.flatten
  else if 9 ≤ k ∧ k ≤ 13 then (match vs with | [x, y] => if x.length = y.length then bothL k x y else [] | _ => [])
  else (match vs with | [x] => oneL k a b x | _ => [])

theorem addR_len : ∀ (xs ys : List UInt8) (c : Nat), xs.length = ys.length → (addR xs ys c).1.length = xs.length
  | [], [], _, _ => rfl
  | x :: xs, y :: ys, c, h => by simp only [addR, List.length_cons]; rw [addR_len xs ys c (by simpa using h)]
  | [], _ :: _, _, h => by simp at h
  | _ :: _, [], _, h => by simp at h
theorem nb_le (c : UInt8) : nb c ≤ 1 := by unfold nb; split <;> omega
theorem addR_carry : ∀ (xs ys : List UInt8) (c : Nat), c ≤ 1 → (addR xs ys c).2 ≤ 1
  | [], _, c, h => by simpa [addR] using h
  | _ :: _, [], c, h => by simpa [addR] using h
  | x :: xs, y :: ys, c, h => by
    have := addR_carry xs ys c h
    have := nb_le x
    have := nb_le y
    simp only [addR]
    omega
theorem addR_drop (xs ys : List UInt8) (c : Nat) (h : xs.length = ys.length) (i : Nat) (hi : i < xs.length) :
    addR (xs.drop i) (ys.drop i) c = (UInt8.ofNat (48 + (nb xs[i] + nb (ys[i]'(by omega)) + (addR (xs.drop (i + 1)) (ys.drop (i + 1)) c).2) % 2) :: (addR (xs.drop (i + 1)) (ys.drop (i + 1)) c).1, (nb xs[i] + nb (ys[i]'(by omega)) + (addR (xs.drop (i + 1)) (ys.drop (i + 1)) c).2) / 2) := by
  rw [List.drop_eq_getElem_cons hi, List.drop_eq_getElem_cons (by omega : i < ys.length)]
  rfl
end Go.Proofs.YtbhcmnfeeogdhaaGreatDoor

/-
  condition.code, inverted, tableOf; byte slices in memory.
-/
namespace Go.Proofs.YtbhcmnfeeogdhaaGreatDoor
open Go.RowKit

theorem byte_lt (c : UInt8) : c.toNat < 256 := c.toNat_lt
theorem code_any (c : UInt8) (w : World) : Calls Tryz.prog 132 #[.int .u8 (c.toNat : Int)] w fun e w' => e = .returned (.int .i64 (codeC c : Int)) ∧ w = w' := by
  have hc := byte_lt c
  by_cases h0 : c = 48
  · subst h0
    go_enter Tryz.func132, Tryz.ntmps132
    go_wp2_with fail
    go_ret
    exact ⟨rfl, rfl⟩
  · by_cases h1 : c = 49
    · subst h1
      go_enter Tryz.func132, Tryz.ntmps132
      go_wp2_with fail
      go_ret
      exact ⟨rfl, rfl⟩
    · have n0 : c.toNat ≠ 48 := fun e => h0 (UInt8.toNat_inj.1 e)
      have n1 : c.toNat ≠ 49 := fun e => h1 (UInt8.toNat_inj.1 e)
      have t0 : ((c.toNat : Int) == 48) = false := beq_eq_false_iff_ne.2 (by omega)
      have t1 : ((c.toNat : Int) == 49) = false := beq_eq_false_iff_ne.2 (by omega)
      have hk : codeC c = 2 := by unfold codeC; simp [h0, h1]
      have HK := hide hk
      clear hk h0 h1
      go_enter Tryz.func132, Tryz.ntmps132
      go_wp2_with fail
      go_ret
      exact ⟨by rw [HK.out]; rfl, rfl⟩

theorem codeC_le (c : UInt8) : codeC c ≤ 2 := by unfold codeC; (split; omega); (split <;> omega)
theorem inv_code (c : UInt8) : invC c = ([49, 48, 120] : List UInt8).getD (codeC c) 0 := by unfold invC codeC; (split; rfl); (split <;> rfl)
theorem zx_code (c : UInt8) : zxC c = ([48, 49, 120] : List UInt8).getD (codeC c) 0 := by unfold zxC codeC; (split; rfl); (split <;> rfl)

theorem inverted_any (c : UInt8) (w : World) : Calls Tryz.prog 129 #[.int .u8 (c.toNat : Int)] w fun e w' => e = .returned (.int .u8 ((invC c).toNat : Int)) ∧ w = w' := by
  have hk := inv_code c
  have hle := codeC_le c
  have hx : codeC c = 0 ∨ codeC c = 1 ∨ codeC c = 2 := by omega
  have HX := hide hx
  have HK := hide hk
  clear hx hk
  go_enter Tryz.func129, Tryz.ntmps129
  go_wp2_with fail
  refine (code_any c _).mono ?_
  rintro e w1 ⟨rfl, rfl⟩
  have hx := HX.out
  generalize codeC c = n at *
  clear HX
  rcases hx with rfl | rfl | rfl
  all_goals
    go_wp2_with fail
    go_ret
    exact ⟨by rw [HK.out]; rfl, rfl⟩

/-- the table of an operator, written out -/
def tabOf (k : Int) : List UInt8 := if k = 9 ∨ k = 14 then [48, 48, 48, 48, 49, 120, 48, 120, 120] else if k = 10 ∨ k = 15 then [48, 49, 120, 49, 49, 49, 120, 49, 120] else if k = 11 ∨ k = 16 then [48, 49, 120, 49, 48, 120, 120, 120, 120] else [0, 0, 0, 0, 0, 0, 0, 0, 0]
def tabV (l : List UInt8) : Array Value := (l.map fun c => Value.int .u8 (c.toNat : Int)).toArray
def isTab (k : Int) : Bool := decide ((9 ≤ k ∧ k ≤ 11) ∨ (14 ≤ k ∧ k ≤ 16))
theorem op_tab (k : Int) (hk : k = 9 ∨ k = 10 ∨ k = 11) (a b : UInt8) : opC k a b = (tabOf k).getD (codeC a * 3 + codeC b) 0 ∧ opC k a b = (tabOf (k + 5)).getD (codeC a * 3 + codeC b) 0 := by
  unfold opC tabOf andC orC xorC codeC knC
  rcases hk with rfl | rfl | rfl <;> by_cases a0 : a = 48 <;> by_cases a1 : a = 49 <;> by_cases b0 : b = 48 <;> by_cases b1 : b = 49 <;> simp_all
theorem tabOf_len (k : Int) : (tabOf k).length = 9 := by unfold tabOf; (split; rfl); (split; rfl); (split <;> rfl)
set_option maxRecDepth 100000 in
set_option maxHeartbeats 4000000 in
theorem tableOf_any (k : Int) (w : World) : Calls Tryz.prog 125 #[.int .i64 k] w fun e w' => e = .returned (.tuple #[.agg (tabV (tabOf k)), .bool (isTab k)]) ∧ Below w.heap.size w w' := by
  by_cases h : k = 9 ∨ k = 10 ∨ k = 11 ∨ k = 14 ∨ k = 15 ∨ k = 16
  · rcases h with rfl | rfl | rfl | rfl | rfl | rfl
    all_goals
      go_enter Tryz.func125, Tryz.ntmps125
      go_wp2_with fail
    · exact bodyPost_ret (v := .tuple #[.agg (tabV (tabOf 9)), .bool (isTab 9)]) (by simp [results, Tryz.results125, go_sem, tabV, tabOf, isTab]) rfl ⟨rfl, (Below.refl _ _).alloc (Nat.le_refl _) _⟩
    · exact bodyPost_ret (v := .tuple #[.agg (tabV (tabOf 10)), .bool (isTab 10)]) (by simp [results, Tryz.results125, go_sem, tabV, tabOf, isTab]) rfl ⟨rfl, (Below.refl _ _).alloc (Nat.le_refl _) _⟩
    · exact bodyPost_ret (v := .tuple #[.agg (tabV (tabOf 11)), .bool (isTab 11)]) (by simp [results, Tryz.results125, go_sem, tabV, tabOf, isTab]) rfl ⟨rfl, (Below.refl _ _).alloc (Nat.le_refl _) _⟩
    · exact bodyPost_ret (v := .tuple #[.agg (tabV (tabOf 14)), .bool (isTab 14)]) (by simp [results, Tryz.results125, go_sem, tabV, tabOf, isTab]) rfl ⟨rfl, (Below.refl _ _).alloc (Nat.le_refl _) _⟩
    · exact bodyPost_ret (v := .tuple #[.agg (tabV (tabOf 15)), .bool (isTab 15)]) (by simp [results, Tryz.results125, go_sem, tabV, tabOf, isTab]) rfl ⟨rfl, (Below.refl _ _).alloc (Nat.le_refl _) _⟩
    · exact bodyPost_ret (v := .tuple #[.agg (tabV (tabOf 16)), .bool (isTab 16)]) (by simp [results, Tryz.results125, go_sem, tabV, tabOf, isTab]) rfl ⟨rfl, (Below.refl _ _).alloc (Nat.le_refl _) _⟩
  · have e9 : (k == 9) = false := beq_eq_false_iff_ne.2 (by omega)
    have e10 : (k == 10) = false := beq_eq_false_iff_ne.2 (by omega)
    have e11 : (k == 11) = false := beq_eq_false_iff_ne.2 (by omega)
    have e14 : (k == 14) = false := beq_eq_false_iff_ne.2 (by omega)
    have e15 : (k == 15) = false := beq_eq_false_iff_ne.2 (by omega)
    have e16 : (k == 16) = false := beq_eq_false_iff_ne.2 (by omega)
    have h1 : tabOf k = [0, 0, 0, 0, 0, 0, 0, 0, 0] := by unfold tabOf; rw [if_neg (by omega), if_neg (by omega), if_neg (by omega)]
    have h2 : isTab k = false := by unfold isTab; exact decide_eq_false (by omega)
    rw [h1, h2]
    clear h h1 h2
    go_enter Tryz.func125, Tryz.ntmps125
    go_wp2_with fail
    exact bodyPost_ret (v := .tuple #[.agg (tabV [0, 0, 0, 0, 0, 0, 0, 0, 0]), .bool false]) (by simp [results, Tryz.results125, go_sem, tabV]) rfl ⟨rfl, (Below.refl _ _).alloc (Nat.le_refl _) _⟩

end Go.Proofs.YtbhcmnfeeogdhaaGreatDoor

/-
  condition.fold and mapped, at whatever function of a byte.
-/
namespace Go.Proofs.YtbhcmnfeeogdhaaGreatDoor
open Go.RowKit

abbrev bv (c : UInt8) : Value := .int .u8 (c.toNat : Int)
def OwnBy (w : World) (base : Nat) (A : Option Addr) (c : Nat) (l : List UInt8) : Prop := w.ownsRow base 5 1 (.slice A l.length c) l.length (l.map bv)
theorem infoBy : (Tryz.prog.info? 5).map (fun i => (i.zero, i.size, i.bytes)) = some (some (.int .u8 0), 1, 1) := by kernel_rfl

/-- what a function of a byte does, called one after the other on the bytes of l: I says what it has in its own cells -/
def StepBy (ID : Nat) (caps : Array Value) (x : Option Nat) (l : List UInt8) (g : Nat → UInt8) (I : Nat → World → Prop) : Prop :=
  ∀ (k : Nat) (c : UInt8) (W : World), l[k]? = some c → I k W → Calls Tryz.prog ID (#[bv c] ++ caps) W fun e W' => e = .returned (bv (g k)) ∧ I (k + 1) W' ∧ But W.heap.size x W W'
def EntersF (ID : Nat) : Prop := ∀ (args : Array Value) (w : World), (callFunc ID args).run Tryz.prog w = .ok (.enter ID args) w
def KeepsI (base : Nat) (I : Nat → World → Prop) : Prop := ∀ (k : Nat) (W W' : World), Below base W W' → I k W → I k W'

theorem ownBy_row {w : World} {base : Nat} {v : Value} {l : List UInt8} (h : w.ownsRow base 5 1 v l.length (l.map bv)) : ∃ A c, v = .slice A l.length c ∧ OwnBy w base A c l := by
  rcases Joins.ownsRow_forms h with ⟨rfl, h0⟩ | ⟨g, cap, rfl⟩
  · exact ⟨none, 0, by rw [h0], by unfold OwnBy; rw [h0] at h ⊢; exact h⟩
  · exact ⟨_, cap, rfl, h⟩
theorem bv_one (l : List UInt8) : ∀ u ∈ l.map bv, u.oneCell' = true := by
  intro u hu
  obtain ⟨c, _, rfl⟩ := List.mem_map.1 hu
  rfl

def MapEnd (base : Nat) (x : Option Nat) (I : Nat → World → Prop) (k : Nat) (out : List UInt8) (w : World) (e : Ending) (w' : World) : Prop :=
  ∃ A c, e = .returned (.slice A out.length c) ∧ OwnBy w' base A c out ∧ I k w' ∧ But base x w w'

set_option maxRecDepth 100000 in
theorem mapped1_any (ID : Nat) (caps : Array Value) (x : Option Nat) (l : List UInt8) (g : Nat → UInt8) (I : Nat → World → Prop) (base : Nat) (hE : EntersF ID) (hs : StepBy ID caps x l g I) (hI : KeepsI base I) (hx : ∀ n, x = some n → n < base)
    (A : Option Addr) (cap : Nat) (out : List UInt8) (c : UInt8) (k b : Nat) (w : World) (hc : l[k]? = some c) (hb : base ≤ w.heap.size) (hf : w.cell? ⟨b, 0, none⟩ = some (.func (.func ID) #[] caps)) (ho : OwnBy w base A cap out) (hi : I k w) (hl : out.length ≤ 1000) :
    Calls Tryz.prog 167 #[.slice A out.length cap, bv c, .pointer (some ⟨b, 0, none⟩)] w (MapEnd base x I (k + 1) (out ++ [g k]) w) := by
  obtain ⟨i0, hi0, hz0, hz1, hz2⟩ := info_parts infoBy
  have HI := hide hI
  have HX := hide hx
  have HC := hide hc
  unfold EntersF at hE
  clear hI hx hc
  go_enter Tryz.func167, Tryz.ntmps167
  go_wp2_with fail
  refine (hs k c w HC.out hi).mono ?_
  rintro e w1 ⟨rfl, hi1, b1⟩
  have ho1 : OwnBy w1 base A cap out := own_block ho fun n hn => b1.block n (own_ob ho n hn).2 fun e => by have := HX.out n e.symm; have := (own_ob ho n hn).1; omega
  have HO1 := hide (World.ownsRow.alloc ho1 (.cells #[bv (g k)] 5))
  have HB1 := hide (heap_alloc_new w1 (.cells #[bv (g k)] 5))
  have hsz := b1.size
  clear ho1
  generalize hg : g k = y at *
  clear hg
  go_wp2_with (at_builtin; (refine append_src rfl _ _ 174 rfl base 5 i0 _ 1 1 Tryz.underlying174 hi0 hz0 hz1 hz2 rfl (by decide) (.slice A out.length cap) out.length (out.map bv) rfl HO1.out (some ⟨w1.heap.size, 0, none⟩) 1 1 [bv y] rfl rfl (src_block (t := 5) (fr := (0, 0)) HB1.out) (bv_one [y]) (by simp only [maxLen]; omega) (by omega) (by simp; omega) ?_); intro v' w3 hown3 hg3)
  obtain ⟨A3, c3, rfl, ho3⟩ := ownBy_row (l := out ++ [y]) (by rw [List.map_append, List.length_append]; exact hown3)
  have hbel : Below base w1 w3 := ((Below.refl _ w1).alloc (by omega) _).grown hg3 (by simp; omega) (fun n hn => (own_ob HO1.out n (by rw [ob_eq] at hn; exact hn)).1)
  go_ret
  exact ⟨A3, c3, rfl, ho3, HI.out _ _ _ hbel hi1, (b1.mono (by omega)).trans (But.of hbel)⟩

def upto (g : Nat → UInt8) (k : Nat) : List UInt8 := (List.range k).map g
theorem upto_len (g : Nat → UInt8) (k : Nat) : (upto g k).length = k := by simp [upto]
theorem upto_succ (g : Nat → UInt8) (k : Nat) : upto g (k + 1) = upto g k ++ [g k] := by simp [upto, List.range_succ]

def FoldRel (base : Nat) (x : Option Nat) (I : Nat → World → Prop) (g : Nat → UInt8) (w : World) (n : Nat) (out i : Value) (wr : World) : Prop :=
  ∃ (k : Nat) (A : Option Addr) (c : Nat), k ≤ n ∧ i = .int .i64 k ∧ out = .slice A k c ∧ OwnBy wr base A c (upto g k) ∧ I k wr ∧ But base x w wr

set_option maxRecDepth 100000 in
set_option maxHeartbeats 1000000 in
theorem foldb_any (ID : Nat) (caps : Array Value) (x : Option Nat) (l : List UInt8) (g : Nat → UInt8) (I : Nat → World → Prop) (base : Nat) (hE : EntersF ID) (hs : StepBy ID caps x l g I) (hI : KeepsI base I) (hx : ∀ n, x = some n → n < base)
    (bb off cb : Nat) (A : Option Addr) (cap b : Nat) (w : World) (hbb : bb < base) (hxb : x ≠ some bb) (hby : ∀ i c, l[i]? = some c → w.cell? ⟨bb, off + i, none⟩ = some (bv c)) (hb : base ≤ w.heap.size) (hlb : b < base) (hxf : x ≠ some b) (hf : w.cell? ⟨b, 0, none⟩ = some (.func (.func ID) #[] caps)) (ho : OwnBy w base A cap []) (hi : I 0 w) (hl : l.length ≤ 1000) :
    Calls Tryz.prog 166 #[.slice (some ⟨bb, off, none⟩) l.length cb, .slice A 0 cap, .func (.func 167) #[] #[.pointer (some ⟨b, 0, none⟩)]] w (MapEnd base x I l.length (upto g l.length) w) := by
  have HBY := hide hby
  have HX := hide hx
  have HI := hide hI
  have HXB := hide hxb
  have HXF := hide hxf
  clear hby hx hI hxb hxf
  go_enter Tryz.func166, Tryz.ntmps166
  go_wp2_with fail
  go_loopw [1, 11] (fun out i wr => FoldRel base x I g w l.length out i wr) (fun _ i _ => l.length - (intOf i).toNat)
  case atStart => exact ⟨0, A, cap, Nat.zero_le _, rfl, rfl, ho, hi, But.refl _ _ _⟩
  case round =>
    obtain ⟨k, A1, c1, hk, rfl, rfl, ho1, hi1, hb1⟩ := hrel
    by_cases hlt : k < l.length
    · have q1 : wr.cell? ⟨bb, off + k, none⟩ = some (bv l[k]) := (World.cell?_of_block (a := ⟨bb, off + k, none⟩) (hb1.block bb hbb (fun e => HXB.out e.symm))).trans (HBY.out k _ (List.getElem?_eq_getElem hlt))
      have q2 : wr.cell? ⟨b, 0, none⟩ = some (.func (.func ID) #[] caps) := (World.cell?_of_block (a := ⟨b, 0, none⟩) (hb1.block b hlb (fun e => HXF.out e.symm))).trans hf
      have HC := hide (List.getElem?_eq_getElem hlt)
      have HUS := hide (upto_succ g k)
      have hbk := hb1.size
      have hul : (upto g k).length = k := upto_len g k
      have HUL := hide hul
      clear hul
      generalize l[k] = c at *
      go_wp2_with fail
      have h := mapped1_any ID caps x l g I base hE hs HI.out HX.out A1 c1 (upto g k) c k b wr HC.out (by omega) q2 ho1 hi1 (by rw [HUL.out]; omega)
      rw [HUL.out] at h
      refine h.mono ?_
      rintro e w1 ⟨A2, c2, rfl, ho2, hi2, hb2⟩
      have HL2 : (upto g k ++ [g k]).length = k + 1 := by rw [List.length_append, HUL.out]; rfl
      rw [HL2]
      go_wp2_with fail
      go_roundw
      case rel => exact ⟨k + 1, A2, c2, by omega, by go_num, rfl, by rw [HUS.out]; exact ho2, hi2, hb1.trans hb2⟩
      case measure => simp [intOf]; omega
    · have hke : k = l.length := by omega
      subst hke
      have hul : (upto g l.length).length = l.length := upto_len g _
      go_wp2_with fail
      go_ret
      exact ⟨A1, c1, by rw [upto_len]; rfl, ho1, hi1, hb1⟩

end Go.Proofs.YtbhcmnfeeogdhaaGreatDoor

/-
  wavestoreref51.known, isBits, inverted, bit, sum.
-/
namespace Go.Proofs.YtbhcmnfeeogdhaaGreatDoor
open Go.RowKit

theorem conv_one (w : World) (c : UInt8) : (convert 174 9 (.slice (some ⟨w.heap.size, 0, none⟩) 1 1)).run Tryz.prog (w.alloc (.cells #[bv c] 5)) = .ok (.string ⟨#[c]⟩) (w.alloc (.cells #[bv c] 5)) := by
  have hb : Lib.Bytes (w.alloc (.cells #[bv c] 5)) w.heap.size 0 ⟨#[c]⟩ := fun i hi => by
    have : i = 0 := by have : i < 1 := hi; omega
    subst this
    rw [cell_of_row _ _ _ _ _ (0, 0) (heap_alloc_new w _)]
    rfl
  exact Lib.run_convert_whole (P := Tryz.prog) _ 174 5 9 Tryz.underlying174 Tryz.underlying5 Tryz.underlying9 w.heap.size 0 ⟨#[c]⟩ hb 1

end Go.Proofs.YtbhcmnfeeogdhaaGreatDoor

/-
  Exact decimals as texts: the form of a text, its parts, canonical texts, and the comparison; plain definitions and facts, no program.
-/
namespace Go.Proofs.YtbhcmnfeeogdhaaGreatDoor

def dgC (c : UInt8) : Bool := decide (48 ≤ c.toNat) && decide (c.toNat ≤ 57)
def zC (c : UInt8) : Bool := c == 48
def dgs (l : List UInt8) : List UInt8 := l.takeWhile dgC
def rst (l : List UInt8) : List UInt8 := l.dropWhile dgC
/-- a sign at the front -/
def sgn1 : List UInt8 → Bool × List UInt8
  | [] => (false, [])
  | c :: r => if c = 45 then (true, r) else if c = 43 then (false, r) else (false, c :: r)
/-- what a text says: sign, digits ahead of and behind the point, sign and digits of the exponent -/
structure Raw where
  neg : Bool
  whole : List UInt8
  frac : List UInt8
  down : Bool
  expo : List UInt8
def fracR : List UInt8 → Option (List UInt8 × List UInt8)
  | [] => some ([], [])
  | c :: r => if c = 46 then (if dgs r = [] then none else some (dgs r, rst r)) else some ([], c :: r)
def expR : List UInt8 → Option (Bool × List UInt8 × List UInt8)
  | [] => some (false, [], [])
  | c :: r => if c = 101 ∨ c = 69 then (if dgs (sgn1 r).2 = [] then none else some ((sgn1 r).1, dgs (sgn1 r).2, rst (sgn1 r).2)) else some (false, [], c :: r)
def readR (s : List UInt8) : Option Raw :=
  if 64 < s.length then none
  else if dgs (sgn1 s).2 = [] then none
  else match fracR (rst (sgn1 s).2) with
    | none => none
    | some (fs, l3) => match expR l3 with
      | none => none
      | some (dn, es, l4) => if l4 = [] then some ⟨(sgn1 s).1, dgs (sgn1 s).2, fs, dn, es⟩ else none
def dv (c : UInt8) : Nat := c.toNat - 48
def clampE (C : Nat) (es : List UInt8) : Nat := es.foldl (fun e c => min C (10 * e + dv c)) 0
def expV (C : Nat) (r : Raw) : Int := if r.down then -(clampE C r.expo : Int) else (clampE C r.expo : Int)

/-- a number: its sign, its digits without zeros at the ends, the exponent of the first one -/
structure Dec where
  neg : Bool
  ds : List UInt8
  fst : Int
def dec0 : Dec := ⟨false, [], 0⟩
def rdrop (l : List UInt8) : List UInt8 := (l.reverse.dropWhile zC).reverse
def nrm (neg : Bool) (ds : List UInt8) (f : Int) : Dec :=
  if rdrop (ds.dropWhile zC) = [] then dec0 else ⟨neg, rdrop (ds.dropWhile zC), f - ((ds.length : Int) - (ds.dropWhile zC).length)⟩
def decOf (C : Nat) (r : Raw) : Dec := nrm r.neg (r.whole ++ r.frac) ((r.whole.length : Int) - 1 + expV C r)

def decN (n : Nat) : List UInt8 := if n < 10 then [UInt8.ofNat (48 + n)] else decN (n / 10) ++ [UInt8.ofNat (48 + n % 10)]
termination_by n
def decI (f : Int) : List UInt8 := if f < 0 then 45 :: decN f.natAbs else decN f.natAbs
def txt (d : Dec) : List UInt8 := match d.ds with
  | [] => [48]
  | c :: cs => (if d.neg then [45] else []) ++ (c :: ((if cs = [] then [] else 46 :: cs) ++ 101 :: decI d.fst))
/-- a number that has a text -/
def fitB (d : Dec) : Bool := d.ds.isEmpty || (decide (d.ds.length ≤ 17) && decide (-400 ≤ d.fst) && decide (d.fst ≤ 400))
def canonC (C : Nat) (s : List UInt8) : Option Dec := match readR s with
  | none => none
  | some r => if fitB (decOf C r) = true ∧ txt (decOf C r) = s then some (decOf C r) else none
/-! ## the decimal text of a small number -/
/-! ## the comparison -/
def lexC : List UInt8 → List UInt8 → Int
  | [], [] => 0
  | [], _ :: _ => -1
  | _ :: _, [] => 1
  | x :: p, y :: q => if x < y then -1 else if y < x then 1 else lexC p q
def cmpI (a b : Int) : Int := if a < b then -1 else if b < a then 1 else 0
def sgnD (d : Dec) : Int := if d.ds = [] then 0 else if d.neg then -1 else 1
def magD (a b : Dec) : Int := if a.ds = [] ∨ b.ds = [] then cmpI a.ds.length b.ds.length else if a.fst = b.fst then lexC a.ds b.ds else cmpI a.fst b.fst
def cmpD (a b : Dec) : Int := if sgnD a = sgnD b then sgnD a * magD a b else cmpI (sgnD a) (sgnD b)
section
variable {a b : Dec}
end

end Go.Proofs.YtbhcmnfeeogdhaaGreatDoor

/-
  wavestoreref03.Decimal, strip, Text.
-/
namespace Go.Proofs.YtbhcmnfeeogdhaaGreatDoor
open Go.RowKit

def bs (l : List UInt8) : ByteArray := ⟨l.toArray⟩

theorem bs_app (a b : List UInt8) : bs a ++ bs b = bs (a ++ b) := by
  apply ByteArray.ext
  simp [bs]
theorem bs_size (l : List UInt8) : (bs l).size = l.length := by simp [bs, ByteArray.size]
/-- a number's parts -/
def pv (neg : Bool) (ds : List UInt8) (f : Int) : Value := .agg #[.bool neg, .string (bs ds), .int .i64 f]
end Go.Proofs.YtbhcmnfeeogdhaaGreatDoor
