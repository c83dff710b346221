/-
  Several texts in one: Row, WavM, Src, RefV. Each says at its head what it holds.
-/
import Derived.Test.YtaaplalfggofiaaGreatDoorEC3
import Derived.Test.YtaaplalfggofiaaGreatDoorEC7
import Derived.Test.YtaaplalfggofiaaGreatDoorEC4
import Derived.Test.YtaaplalfggofiaaGreatDoorEC8
import Derived.Test.YtaaplalfggofiaaGreatDoorShelf

/-
  Rows of whatever elements in memory; automata: their edges, final states and lists of trees.
-/
namespace Go.Proofs.YtaaplalfggofiaaGreatDoor
open Go.RowKit

/-- a row of elements in blocks that P names -/
def Row {α : Type} (w : World) (P : Nat → Prop) (size : Nat) (cells : α → List Value) (A : Option Addr) (xs : List α) : Prop :=
  xs ≠ [] → ∃ b off, A = some ⟨b, off, none⟩ ∧ P b ∧ ∀ i x, xs[i]? = some x → ∀ j, j < size → w.cell? ⟨b, off + i * size + j, none⟩ = (cells x)[j]?

section
variable {α : Type} {w w' : World} {P P' : Nat → Prop} {size : Nat} {cells : α → List Value} {A : Option Addr} {xs : List α}
theorem Row.stay (h : Row w P size cells A xs) (hs : Stay P w w') : Row w' P size cells A xs := fun hx => by
  obtain ⟨b, off, e, hb, hc⟩ := h hx
  exact ⟨b, off, e, hb, fun i x hi j hj => (hs.cell hb).trans (hc i x hi j hj)⟩
theorem Row.more (h : Row w P size cells A xs) (hp : ∀ b, P b → P' b) : Row w P' size cells A xs := fun hx => by
  obtain ⟨b, off, e, hb, hc⟩ := h hx
  exact ⟨b, off, e, hp b hb, hc⟩
theorem Row.nil : Row w P size cells A ([] : List α) := fun h => absurd rfl h
theorem Row.at_ (h : Row w P size cells A xs) {k : Nat} (hk : k < xs.length) : ∃ b off, A = some ⟨b, off, none⟩ ∧ P b ∧ ∀ j, j < size → w.cell? ⟨b, off + k * size + j, none⟩ = (cells xs[k])[j]? := by
  obtain ⟨b, off, e, hb, hc⟩ := h (fun e => by subst e; simp at hk)
  exact ⟨b, off, e, hb, hc k _ (List.getElem?_eq_getElem hk)⟩
/-- below the heap's end, where the world has grown -/
theorem Row.grow (h : Row w (Lo w.heap.size) size cells A xs) (hb : Below w.heap.size w w') : Row w' (Lo w'.heap.size) size cells A xs :=
  (h.stay (stay_below hb fun _ h => h)).more fun _ hb' => Nat.lt_of_lt_of_le hb' hb.size
end

end Go.Proofs.YtaaplalfggofiaaGreatDoor

/-
  Waves in memory, and the source that reads one: what its box holds.
-/
namespace Go.Proofs.YtaaplalfggofiaaGreatDoor
open Go.RowKit

structure Chg where
  time : Int
  val : ByteArray
def cChg (c : Chg) : List Value := [.int .i64 c.time, .string c.val]
structure Sgn where
  kind : Int
  width : Int
  CA : Option Addr
  cc : Nat
  chs : List Chg
def cSgn (s : Sgn) : List Value := [.int .i64 s.kind, .int .i64 s.width, .slice s.CA s.chs.length s.cc]
/-- a list of signals with their changes -/
structure SigsAt (w : World) (P : Nat → Prop) (A : Option Addr) (l : List Sgn) : Prop where
  row : Row w P 3 cSgn A l
  each : ∀ s ∈ l, Row w P 2 cChg s.CA s.chs
theorem SigsAt.stay {w w' : World} {P : Nat → Prop} {A : Option Addr} {l : List Sgn} (h : SigsAt w P A l) (hs : Stay P w w') : SigsAt w' P A l := ⟨h.row.stay hs, fun s hm => (h.each s hm).stay hs⟩
theorem SigsAt.more {w : World} {P P' : Nat → Prop} {A : Option Addr} {l : List Sgn} (h : SigsAt w P A l) (hp : ∀ b, P b → P' b) : SigsAt w P' A l := ⟨h.row.more hp, fun s hm => (h.each s hm).more hp⟩
/-- a wave -/
structure Wv where
  A : Option Addr
  cA : Nat
  sigs : List Sgn
  G : Option Addr
  gn : Nat
  cG : Nat
  fin : Int
def cWv (v : Wv) : List Value := [.slice v.A v.sigs.length v.cA, .slice v.G v.gn v.cG, .int .i64 v.fin]
def memO (v : Wv) (L c : Int) : Obj := .cells #[.slice v.A v.sigs.length v.cA, .slice v.G v.gn v.cG, .int .i64 v.fin, .int .i64 L, .int .i64 c] 55 (0, 0)
/-- the source: its box M, the wave below, its limit, the calls so far -/
structure SourceAt (w : World) (M : Nat) (v : Wv) (L c : Int) : Prop where
  box : w.heap[M]? = some (memO v L c)
  sig : SigsAt w (Lo M) v.A v.sigs
def srcV (M : Nat) : Value := .iface 38 (.pointer (some ⟨M, 0, none⟩))
section
variable {w w' : World} {M : Nat} {v : Wv} {L c : Int}
theorem SourceAt.lt (h : SourceAt w M v L c) : M < w.heap.size := box_lt h.box
theorem SourceAt.cells (h : SourceAt w M v L c) : w.cell? ⟨M, 0, none⟩ = some (.slice v.A v.sigs.length v.cA) ∧ w.cell? ⟨M, 1, none⟩ = some (.slice v.G v.gn v.cG) ∧ w.cell? ⟨M, 2, none⟩ = some (.int .i64 v.fin) ∧ w.cell? ⟨M, 3, none⟩ = some (.int .i64 L) ∧ w.cell? ⟨M, 4, none⟩ = some (.int .i64 c) ∧ w.frozen? ⟨M, 4, none⟩ = false := by
  have hb := h.box
  unfold memO at hb
  exact ⟨by rw [cell_of_row w M _ _ _ (0, 0) hb]; rfl, by rw [cell_of_row w M _ _ _ (0, 0) hb]; rfl, by rw [cell_of_row w M _ _ _ (0, 0) hb]; rfl, by rw [cell_of_row w M _ _ _ (0, 0) hb]; rfl, by rw [cell_of_row w M _ _ _ (0, 0) hb]; rfl, by simp [World.frozen?, hb]⟩
theorem SourceAt.keep (h : SourceAt w M v L c) (hk : ∀ b, b ≤ M → w'.heap[b]? = w.heap[b]?) : SourceAt w' M v L c :=
  ⟨(hk M (Nat.le_refl _)).trans h.box, h.sig.stay fun b hb => hk b (Nat.le_of_lt hb)⟩
theorem SourceAt.below (h : SourceAt w M v L c) (hb : Below w.heap.size w w') : SourceAt w' M v L c := h.keep fun b hl => hb.block b (Nat.lt_of_le_of_lt hl h.lt)
theorem SourceAt.but (h : SourceAt w M v L c) {x : Nat} (hb : But w.heap.size (some x) w w') (hx : M < x) : SourceAt w' M v L c := h.keep fun b hl => hb.block b (Nat.lt_of_le_of_lt hl h.lt) (fun e => by injection e with e; omega)
theorem But.drawn {n : Nat} {x : Option Nat} {a w : World} (h : But n x a w) (q : Nat) : But n x a (w.drewN q) := ⟨h.os, h.tape, h.output, h.size, h.block⟩
theorem but_cell {w : World} {M j : Nat} {u : Value} {n : Nat} : But n (some M) w (w.setCell ⟨M, j, none⟩ u) :=
  ⟨rfl, rfl, rfl, by simp [World.setCell], fun b _ hx => by
    simp [World.setCell, Array.getElem?_modify]
    intro e; subst e; exact absurd rfl hx⟩
/-- a call counted -/
theorem SourceAt.count (h : SourceAt w M v L c) (c' : Int) : SourceAt (w.setCell ⟨M, 4, none⟩ (.int .i64 c')) M v L c' := by
  refine ⟨?_, h.sig.stay fun b hb => ?_⟩
  · have hb := h.box
    unfold memO at hb
    simp [World.setCell, Array.getElem?_modify, hb, memO]
  · have : b ≠ M := fun e => by subst e; exact Nat.lt_irrefl _ hb
    simp [World.setCell, Array.getElem?_modify]
    intro e; exact absurd e.symm this
end
/-- the world behind calls of the source: only the count has changed, and new blocks -/
def SrcTo (w : World) (M : Nat) (v : Wv) (L c : Int) (w' : World) : Prop := SourceAt w' M v L c ∧ But w.heap.size (some M) w w'
theorem SrcTo.trans {w w' w'' : World} {M : Nat} {v : Wv} {L c d : Int} (h : SrcTo w M v L c w') (h' : SrcTo w' M v L d w'') : SrcTo w M v L d w'' := ⟨h'.1, h.2.trans (h'.2.mono h.2.size)⟩
theorem SrcTo.below {w w' w'' : World} {M : Nat} {v : Wv} {L c : Int} (h : SrcTo w M v L c w') (hb : Below w'.heap.size w' w'') : SrcTo w M v L c w'' := ⟨h.1.below hb, h.2.trans ((But.of hb).mono h.2.size)⟩
theorem SrcTo.start {w : World} {M : Nat} {v : Wv} {L c : Int} (h : SourceAt w M v L c) {w' : World} (hb : Below w.heap.size w w') : SrcTo w M v L c w' := ⟨h.below hb, But.of hb⟩

end Go.Proofs.YtaaplalfggofiaaGreatDoor

/-
  The source of wavestorelaw47: call, End, Kind.
-/
namespace Go.Proofs.YtaaplalfggofiaaGreatDoor
open Go.RowKit

/-- the error of a call -/
def callC (L c x : Int) (n : Nat) : Int := if 0 ≤ L ∧ L < c + 1 then 14 else if x < 0 ∨ (n : Int) ≤ x then 2 else 0
set_option maxRecDepth 100000 in
set_option maxHeartbeats 1000000 in
theorem call_any (M : Nat) (v : Wv) (L c x : Int) (w : World) (h : SourceAt w M v L c) (h0 : 0 ≤ c) (h1 : c ≤ 1000000) :
    Calls Tryz.prog 411 #[.pointer (some ⟨M, 0, none⟩), .int .i64 x] w fun e w' => e = .returned (.int .i64 (callC L c x v.sigs.length)) ∧ SrcTo w M v L (c + 1) w' := by
  obtain ⟨a0, a1, a2, a3, a4, a5⟩ := h.cells
  have HS := hide (h.count (c + 1))
  have HB := hide (but_cell (w := w) (M := M) (j := 4) (u := .int .i64 (c + 1)) (n := w.heap.size))
  have HC := hide (show callC L c x v.sigs.length = if 0 ≤ L ∧ L < c + 1 then 14 else if x < 0 ∨ (v.sigs.length : Int) ≤ x then 2 else 0 from rfl)
  clear h
  go_enter Tryz.func411, Tryz.ntmps411
  go_upto_region 2 with (fail)
  generalize hW : World.setCell _ _ _ = W at HS HB ⊢
  clear hW a0 a1 a2 a3 a4 a5
  obtain ⟨a0, a1, a2, a3, a4, a5⟩ := HS.out.cells
  have HFin := hide (fun (q : Nat) => (show SrcTo w M v L (c + 1) (W.drewN q) from ⟨HS.out.below (below_drewN (Below.refl _ _) q), HB.out.drawn q⟩))
  by_cases hL : 0 ≤ L
  · have d1 : decide (0 ≤ L) = true := decide_eq_true hL
    by_cases hl : L < c + 1
    · have d2 : decide (L < c + 1) = true := decide_eq_true hl
      have HR := hide (show callC L c x v.sigs.length = 14 by rw [HC.out, if_pos ⟨hL, hl⟩])
      clear hL hl
      go_quiet (fail)
      go_wp2_with fail
      go_ret
      exact ⟨by rw [HR.out]; rfl, HFin.out _⟩
    · have d2 : decide (L < c + 1) = false := decide_eq_false hl
      have HR := hide (show callC L c x v.sigs.length = if x < 0 ∨ (v.sigs.length : Int) ≤ x then 2 else 0 by rw [HC.out, if_neg (fun h => hl h.2)])
      clear hL hl
      go_quiet (fail)
      by_cases hx : x < 0
      · have HR2 := hide (show callC L c x v.sigs.length = 2 by rw [HR.out, if_pos (.inl hx)])
        go_wp2_with fail
        go_ret
        exact ⟨by rw [HR2.out]; rfl, HFin.out _⟩
      · by_cases hn : (v.sigs.length : Int) ≤ x
        · have HR2 := hide (show callC L c x v.sigs.length = 2 by rw [HR.out, if_pos (.inr hn)])
          go_wp2_with fail
          go_ret
          exact ⟨by rw [HR2.out]; rfl, HFin.out _⟩
        · have HR2 := hide (show callC L c x v.sigs.length = 0 by rw [HR.out, if_neg (fun h => h.elim hx hn)])
          go_wp2_with fail
          go_ret
          exact ⟨by rw [HR2.out]; rfl, HFin.out _⟩
  · have d1 : decide (0 ≤ L) = false := decide_eq_false hL
    have HR := hide (show callC L c x v.sigs.length = if x < 0 ∨ (v.sigs.length : Int) ≤ x then 2 else 0 by rw [HC.out, if_neg (fun h => hL h.1)])
    clear hL
    go_quiet (fail)
    by_cases hx : x < 0
    · have HR2 := hide (show callC L c x v.sigs.length = 2 by rw [HR.out, if_pos (.inl hx)])
      go_wp2_with fail
      go_ret
      exact ⟨by rw [HR2.out]; rfl, HFin.out _⟩
    · by_cases hn : (v.sigs.length : Int) ≤ x
      · have HR2 := hide (show callC L c x v.sigs.length = 2 by rw [HR.out, if_pos (.inr hn)])
        go_wp2_with fail
        go_ret
        exact ⟨by rw [HR2.out]; rfl, HFin.out _⟩
      · have HR2 := hide (show callC L c x v.sigs.length = 0 by rw [HR.out, if_neg (fun h => h.elim hx hn)])
        go_wp2_with fail
        go_ret
        exact ⟨by rw [HR2.out]; rfl, HFin.out _⟩

set_option maxRecDepth 100000 in
theorem end_any (M : Nat) (v : Wv) (L c : Int) (w : World) (h : SourceAt w M v L c) : Calls Tryz.prog 405 #[.pointer (some ⟨M, 0, none⟩)] w fun e w' => e = .returned (.int .i64 v.fin) ∧ w = w' := by
  obtain ⟨a0, a1, a2, a3, a4, a5⟩ := h.cells
  clear h
  go_enter Tryz.func405, Tryz.ntmps405
  go_wp2_with fail
  go_ret
  exact ⟨rfl, rfl⟩

/-- what Kind answers -/
def kindV (L c x : Int) (v : Wv) : Value := if callC L c x v.sigs.length = 0 then (match v.sigs[x.toNat]? with | some s => .tuple #[.int .i64 s.kind, .int .i64 s.width, .int .i64 0] | none => .tuple #[.int .i64 0, .int .i64 0, .int .i64 0]) else .tuple #[.int .i64 0, .int .i64 0, .int .i64 (callC L c x v.sigs.length)]
theorem callC_ok {L c x : Int} {n : Nat} (h : callC L c x n = 0) : 0 ≤ x ∧ x < n := by
  unfold callC at h
  split at h
  · omega
  · split at h
    · omega
    · omega
set_option maxRecDepth 100000 in
set_option maxHeartbeats 1000000 in
theorem kind_any (M : Nat) (v : Wv) (L c x : Int) (w : World) (h : SourceAt w M v L c) (h0 : 0 ≤ c) (h1 : c ≤ 1000000) :
    Calls Tryz.prog 407 #[.pointer (some ⟨M, 0, none⟩), .int .i64 x] w fun e w' => e = .returned (kindV L c x v) ∧ SrcTo w M v L (c + 1) w' := by
  have HCA := hide (call_any M v L c x w h h0 h1)
  have HV := hide (show kindV L c x v = if callC L c x v.sigs.length = 0 then (match v.sigs[x.toNat]? with | some s => .tuple #[.int .i64 s.kind, .int .i64 s.width, .int .i64 0] | none => .tuple #[.int .i64 0, .int .i64 0, .int .i64 0]) else .tuple #[.int .i64 0, .int .i64 0, .int .i64 (callC L c x v.sigs.length)] from rfl)
  have HO := hide (fun h => callC_ok (L := L) (c := c) (x := x) (n := v.sigs.length) h)
  generalize callC L c x v.sigs.length = q at *
  clear h
  by_cases hq : q = 0
  · subst hq
    obtain ⟨x0, x1⟩ := HO.out rfl
    obtain ⟨k, rfl⟩ : ∃ k : Nat, x = k := ⟨x.toNat, by omega⟩
    have hk : k < v.sigs.length := by omega
    rw [if_pos rfl, Int.toNat_natCast, List.getElem?_eq_getElem hk] at HV
    go_enter Tryz.func407, Tryz.ntmps407
    go_wp2_with fail
    refine HCA.out.mono ?_
    rintro e w1 ⟨rfl, hs⟩
    obtain ⟨a0, a1, a2, a3, a4, a5⟩ := hs.1.cells
    obtain ⟨b, off, hA, hb, hc⟩ := hs.1.sig.row.at_ hk
    have HS := hide hs
    rw [hA] at a0
    generalize hsg : v.sigs[k] = sg at *
    obtain ⟨kk, ww, CA, cc, chs⟩ := sg
    have c0 := hc 0 (by omega)
    have c1 := hc 1 (by omega)
    have c2 := hc 2 (by omega)
    simp only [cSgn, List.getElem?_cons_zero, List.getElem?_cons_succ, Nat.add_zero] at c0 c1 c2
    have HA := hide hA

    clear hs hc hA hsg
    have hb2 : Below w1.heap.size w1 (w1.alloc (.cells #[.int .i64 kk, .int .i64 ww, .slice CA chs.length cc] 49)) := (Below.refl _ _).alloc (Nat.le_refl _) _
    have HS2 := hide (HS.out.below hb2)
    clear hb2
    go_upto_region 5 with (fail)
    go_quiet (fail)
    go_wp2_with fail
    go_ret3
    refine ⟨by rw [HV.out]; rfl, HS2.out.below (below_drewN (Below.refl _ _) _)⟩
  · have HV2 := hide (show kindV L c x v = .tuple #[.int .i64 0, .int .i64 0, .int .i64 q] by rw [HV.out, if_neg hq])
    have t1 : (q != 0) = true := bne_iff_ne.2 hq
    clear hq
    go_enter Tryz.func407, Tryz.ntmps407
    go_wp2_with fail
    refine HCA.out.mono ?_
    rintro e w1 ⟨rfl, hs⟩
    go_wp2_with fail
    go_ret3
    exact ⟨by rw [HV2.out]; rfl, hs⟩

end Go.Proofs.YtaaplalfggofiaaGreatDoor

/-
  wavestoreref47.Initial and Value.
-/
namespace Go.Proofs.YtaaplalfggofiaaGreatDoor
open Go.RowKit

/-- the value of a signal before its first change -/
def initL (kind width : Int) : List UInt8 := if kind = 1 then [48] else if kind = 0 then List.replicate width.toNat 120 else []
def initB (s : Sgn) : List UInt8 := initL s.kind s.width
def foldV (t : Int) (cs : List Chg) (v : ByteArray) : ByteArray := cs.foldl (fun v c => if c.time ≤ t then c.val else v) v
/-- the value of a signal at a time -/
def valS (s : Sgn) (t : Int) : ByteArray := if s.kind = 3 then bs (initB s) else foldV t s.chs (bs (initB s))
theorem foldV_take (t : Int) {cs : List Chg} {k : Nat} (hk : k < cs.length) (v : ByteArray) : foldV t (cs.take (k + 1)) v = if cs[k].time ≤ t then cs[k].val else foldV t (cs.take k) v := by
  rw [List.take_succ_eq_append_getElem hk]
  unfold foldV
  rw [List.foldl_append]
  rfl

def InRel (k : Int) (v i : Value) : Prop := ∃ j : Nat, (j : Int) ≤ max k 0 ∧ i = .int .i64 (j : Int) ∧ v = .string (bs (List.replicate j 120))
theorem rep_snoc_x (j : Nat) : bs (List.replicate j 120) ++ bs [120] = bs (List.replicate (j + 1) 120) := by rw [bs_app, List.replicate_succ']
set_option maxRecDepth 100000 in
theorem initial_any (kind width : Int) (CA : Option Addr) (n cc : Nat) (w : World) (hw : kind = 0 → width ≤ 1000) :
    Calls Tryz.prog 74 #[.agg #[.int .i64 kind, .int .i64 width, .slice CA n cc]] w fun e w' => e = .returned (.string (bs (initL kind width))) ∧ Below w.heap.size w w' := by
  by_cases k1 : kind = 1
  · subst k1
    clear hw
    go_enter Tryz.func74, Tryz.ntmps74
    go_wp2_with fail
    go_ret
    exact ⟨rfl, (Below.refl _ _).alloc (Nat.le_refl _) _⟩
  · have t1 : (kind == 1) = false := beq_eq_false_iff_ne.2 k1
    by_cases k0 : kind = 0
    · subst k0
      have hwd := hw rfl
      clear hw k1
      go_enter Tryz.func74, Tryz.ntmps74
      go_wp2_with fail
      go_loop [3, 4] (fun v i => InRel width v i) (fun _ i => width.toNat - (intOf i).toNat)
      case atStart => exact ⟨0, by omega, rfl, rfl⟩
      case round =>
        obtain ⟨j, hj, rfl, rfl⟩ := hrel
        have hsz : (bs (List.replicate j 120)).size = j := by rw [bs_size, List.length_replicate]
        by_cases hlt : (j : Int) < width
        · have HT := hide (rep_snoc_x j)
          go_wp2_with fail
          refine ⟨⟨j + 1, by omega, by go_num, by rw [← HT.out]; rfl⟩, by simp [intOf]; omega⟩
        · have hje : width.toNat = j := by omega
          have HJ := hide (show initL 0 width = List.replicate j 120 by rw [← hje]; rfl)
          clear hje
          go_wp2_with fail
          go_ret
          exact ⟨by rw [HJ.out]; rfl, (Below.refl _ _).alloc (Nat.le_refl _) _⟩
    · have t0 : (kind == 0) = false := beq_eq_false_iff_ne.2 k0
      have HV := hide (show initL kind width = [] by unfold initL; rw [if_neg k1, if_neg k0])
      clear hw k0 k1
      go_enter Tryz.func74, Tryz.ntmps74
      go_wp2_with fail
      go_ret
      exact ⟨by rw [HV.out]; rfl, (Below.refl _ _).alloc (Nat.le_refl _) _⟩

def RvRel (t : Int) (cs : List Chg) (v0 : ByteArray) (v i : Value) : Prop := ∃ j : Nat, j ≤ cs.length ∧ i = .int .i64 (j : Int) ∧ v = .string (foldV t (cs.take j) v0)
set_option maxRecDepth 100000 in
set_option maxHeartbeats 1000000 in
theorem rvalue_any (s : Sgn) (t : Int) (w : World) (hw : s.kind = 0 → s.width ≤ 1000) (hl : s.chs.length ≤ 1000) (hr : Row w (Lo w.heap.size) 2 cChg s.CA s.chs) :
    Calls Tryz.prog 75 #[.agg #[.int .i64 s.kind, .int .i64 s.width, .slice s.CA s.chs.length s.cc], .int .i64 t] w fun e w' => e = .returned (.string (valS s t)) ∧ Below w.heap.size w w' := by
  obtain ⟨kind, width, CA, cc, chs⟩ := s
  dsimp only at *
  have HI := hide (fun W => initial_any kind width CA chs.length cc W hw)
  have HVS := hide (show valS ⟨kind, width, CA, cc, chs⟩ t = if kind = 3 then bs (initL kind width) else foldV t chs (bs (initL kind width)) from rfl)
  generalize initL kind width = l0 at *
  have HR := hide hr
  clear hw hr
  go_enter Tryz.func75, Tryz.ntmps75
  go_wp2_with fail
  have hbx := heap_alloc_new w (.cells #[.int .i64 kind, .int .i64 width, .slice CA chs.length cc] 49)
  refine (HI.out _).mono ?_
  rintro e w1 ⟨rfl, b1⟩
  have hx1 := box_below b1 hbx
  have HB1 := hide (bstep ((Below.refl _ _).alloc (Nat.le_refl _) _) b1)
  have HR1 := hide (HR.out.grow HB1.out)
  have z0 : w1.cell? ⟨w.heap.size, 0, none⟩ = some (.int .i64 kind) := by rw [cell_of_row w1 _ _ _ _ (0, 0) hx1]; rfl
  have z2 : w1.cell? ⟨w.heap.size, 2, none⟩ = some (.slice CA chs.length cc) := by rw [cell_of_row w1 _ _ _ _ (0, 0) hx1]; rfl
  clear b1 hbx hx1
  by_cases k3 : kind = 3
  · have t3 : (kind != 3) = false := by rw [k3]; rfl
    rw [if_pos k3] at HVS
    clear k3
    go_wp2_with fail
    go_loop [5, 6] (fun v i => v = .string (bs l0) ∧ i = .int .i64 0) (fun _ _ => 0)
    case atStart => exact ⟨rfl, rfl⟩
    case round =>
      obtain ⟨rfl, rfl⟩ := hrel
      by_cases hl0 : 0 < chs.length
      · go_wp2_with fail
        go_ret
        exact ⟨by rw [HVS.out]; rfl, HB1.out⟩
      · go_wp2_with fail
        go_ret
        exact ⟨by rw [HVS.out]; rfl, HB1.out⟩
  · have t3 : (kind != 3) = true := bne_iff_ne.2 k3
    rw [if_neg k3] at HVS
    clear k3
    go_wp2_with fail
    go_loop [5, 6] (fun v i => RvRel t chs (bs l0) v i) (fun _ i => chs.length - (intOf i).toNat)
    case atStart => exact ⟨0, Nat.zero_le _, rfl, rfl⟩
    case round =>
      obtain ⟨j, hj, rfl, rfl⟩ := hrel
      by_cases hlt : j < chs.length
      · obtain ⟨b, off, hA, hlo, hc⟩ := HR1.out.at_ hlt
        have HT := hide (foldV_take t hlt (bs l0))
        rw [hA] at z2
        have c0 := hc 0 (by omega)
        have c1 := hc 1 (by omega)
        generalize chs[j] = cg at *
        obtain ⟨ct, cv⟩ := cg
        simp only [cChg, List.getElem?_cons_zero, List.getElem?_cons_succ, Nat.add_zero] at c0 c1
        have HA := hide hA
        clear hc hA
        by_cases hle : ct ≤ t
        · have HT2 := hide (show foldV t (chs.take (j + 1)) (bs l0) = cv by rw [HT.out, if_pos hle])
          go_wp2_with fail
          exact ⟨⟨j + 1, hlt, by go_num, by rw [HT2.out]⟩, by simp [intOf]; omega⟩
        · have HT2 := hide (show foldV t (chs.take (j + 1)) (bs l0) = foldV t (chs.take j) (bs l0) by rw [HT.out, if_neg hle])
          go_wp2_with fail
          exact ⟨⟨j + 1, hlt, by go_num, by rw [HT2.out]⟩, by simp [intOf]; omega⟩
      · have hje : j = chs.length := by omega
        have HE := hide (show foldV t (chs.take j) (bs l0) = foldV t chs (bs l0) by rw [hje, List.take_length])
        clear hje
        go_wp2_with fail
        go_ret
        exact ⟨by rw [HVS.out, ← HE.out]; rfl, HB1.out⟩

end Go.Proofs.YtaaplalfggofiaaGreatDoor
