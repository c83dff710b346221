/-
  Several texts in one: Src, RefV, Src2, Add47, SpV. Each says at its head what it holds.
-/
import Derived.Test.YtbhcmnfeeogdhaaGreatDoorEK3
import Derived.Test.YtbhcmnfeeogdhaaGreatDoorShelf
import Derived.Test.YtbhcmnfeeogdhaaGreatDoorEK2
import Derived.Deep.DeepCutAuto
import Derived.Deep.QuietTactic
import Derived.BigQuiet
import Derived.IntWalk

/-
  The source of wavestorelaw47: call, End, Kind.
-/
namespace Go.Proofs.YtbhcmnfeeogdhaaGreatDoor
open Go.RowKit

/-- the error of a call -/
def callC (L c x : Int) (n : Nat) : Int := if 0 ≤ L ∧ L < c + 1 then 14 else if x < 0 ∨ (n : Int) ≤ x then 2 else 0
set_option maxRecDepth 100000 in
set_option maxHeartbeats 1000000 in
theorem call_any (M : Nat) (v : Wv) (L c x : Int) (w : World) (h : SourceAt w M v L c) (h0 : 0 ≤ c) (h1 : c ≤ 1000000) :
    Calls Tryz.prog 324 #[.pointer (some ⟨M, 0, none⟩), .int .i64 x] w fun e w' => e = .returned (.int .i64 (callC L c x v.sigs.length)) ∧ SrcTo w M v L (c + 1) w' := by
  obtain ⟨a0, a1, a2, a3, a4, a5⟩ := h.cells
  have HS := hide (h.count (c + 1))
  have HB := hide (but_cell (w := w) (M := M) (j := 4) (u := .int .i64 (c + 1)) (n := w.heap.size))
  have HC := hide (show callC L c x v.sigs.length = if 0 ≤ L ∧ L < c + 1 then 14 else if x < 0 ∨ (v.sigs.length : Int) ≤ x then 2 else 0 from rfl)
  clear h
  go_enter Tryz.func324, Tryz.ntmps324
  go_upto_region 2 with (fail)
  generalize hW : World.setCell _ _ _ = W at HS HB ⊢
  clear hW a0 a1 a2 a3 a4 a5
  obtain ⟨a0, a1, a2, a3, a4, a5⟩ := HS.out.cells
  have HFin := hide (fun (q : Nat) => (show SrcTo w M v L (c + 1) (W.drewN q) from ⟨HS.out.below (below_drewN (Below.refl _ _) q), HB.out.drawn q⟩))
  by_cases hL : 0 ≤ L
  · have d1 : decide (0 ≤ L) = true := decide_eq_true hL
    by_cases hl : L < c + 1
    · have d2 : decide (L < c + 1) = true := decide_eq_true hl
      have HR := hide (show callC L c x v.sigs.length = 14 by rw [HC.out, if_pos ⟨hL, hl⟩])
      clear hL hl
      go_quiet (fail)
      go_wp2_with fail
      go_ret
      exact ⟨by rw [HR.out]; rfl, HFin.out _⟩
    · have d2 : decide (L < c + 1) = false := decide_eq_false hl
      have HR := hide (show callC L c x v.sigs.length = if x < 0 ∨ (v.sigs.length : Int) ≤ x then 2 else 0 by rw [HC.out, if_neg (fun h => hl h.2)])
      clear hL hl
      go_quiet (fail)
      by_cases hx : x < 0
      · have HR2 := hide (show callC L c x v.sigs.length = 2 by rw [HR.out, if_pos (.inl hx)])
        go_wp2_with fail
        go_ret
        exact ⟨by rw [HR2.out]; rfl, HFin.out _⟩
      · by_cases hn : (v.sigs.length : Int) ≤ x
        · have HR2 := hide (show callC L c x v.sigs.length = 2 by rw [HR.out, if_pos (.inr hn)])
          go_wp2_with fail
          go_ret
          exact ⟨by rw [HR2.out]; rfl, HFin.out _⟩
        · have HR2 := hide (show callC L c x v.sigs.length = 0 by rw [HR.out, if_neg (fun h => h.elim hx hn)])
          go_wp2_with fail
          go_ret
          exact ⟨by rw [HR2.out]; rfl, HFin.out _⟩
  · have d1 : decide (0 ≤ L) = false := decide_eq_false hL
    have HR := hide (show callC L c x v.sigs.length = if x < 0 ∨ (v.sigs.length : Int) ≤ x then 2 else 0 by rw [HC.out, if_neg (fun h => hL h.1)])
    clear hL
    go_quiet (fail)
    by_cases hx : x < 0
    · have HR2 := hide (show callC L c x v.sigs.length = 2 by rw [HR.out, if_pos (.inl hx)])
      go_wp2_with fail
      go_ret
      exact ⟨by rw [HR2.out]; rfl, HFin.out _⟩
    · by_cases hn : (v.sigs.length : Int) ≤ x
      · have HR2 := hide (show callC L c x v.sigs.length = 2 by rw [HR.out, if_pos (.inr hn)])
        go_wp2_with fail
        go_ret
        exact ⟨by rw [HR2.out]; rfl, HFin.out _⟩
      · have HR2 := hide (show callC L c x v.sigs.length = 0 by rw [HR.out, if_neg (fun h => h.elim hx hn)])
        go_wp2_with fail
        go_ret
        exact ⟨by rw [HR2.out]; rfl, HFin.out _⟩

set_option maxRecDepth 100000 in
theorem end_any (M : Nat) (v : Wv) (L c : Int) (w : World) (h : SourceAt w M v L c) : Calls Tryz.prog 319 #[.pointer (some ⟨M, 0, none⟩)] w fun e w' => e = .returned (.int .i64 v.fin) ∧ w = w' := by
  obtain ⟨a0, a1, a2, a3, a4, a5⟩ := h.cells
  clear h
  go_enter Tryz.func319, Tryz.ntmps319
  go_wp2_with fail
  go_ret
  exact ⟨rfl, rfl⟩

/-- what Kind answers -/
def kindV (L c x : Int) (v : Wv) : Value := if callC L c x v.sigs.length = 0 then (match v.sigs[x.toNat]? with | some s => .tuple #[.int .i64 s.kind, .int .i64 s.width, .int .i64 0] | none => .tuple #[.int .i64 0, .int .i64 0, .int .i64 0]) else .tuple #[.int .i64 0, .int .i64 0, .int .i64 (callC L c x v.sigs.length)]
theorem callC_ok {L c x : Int} {n : Nat} (h : callC L c x n = 0) : 0 ≤ x ∧ x < n := by
  unfold callC at h
  split at h
  · omega
  · split at h
    · omega
    · omega
set_option maxRecDepth 100000 in
set_option maxHeartbeats 1000000 in
theorem kind_any (M : Nat) (v : Wv) (L c x : Int) (w : World) (h : SourceAt w M v L c) (h0 : 0 ≤ c) (h1 : c ≤ 1000000) :
    Calls Tryz.prog 320 #[.pointer (some ⟨M, 0, none⟩), .int .i64 x] w fun e w' => e = .returned (kindV L c x v) ∧ SrcTo w M v L (c + 1) w' := by
  have HCA := hide (call_any M v L c x w h h0 h1)
  have HV := hide (show kindV L c x v = if callC L c x v.sigs.length = 0 then (match v.sigs[x.toNat]? with | some s => .tuple #[.int .i64 s.kind, .int .i64 s.width, .int .i64 0] | none => .tuple #[.int .i64 0, .int .i64 0, .int .i64 0]) else .tuple #[.int .i64 0, .int .i64 0, .int .i64 (callC L c x v.sigs.length)] from rfl)
  have HO := hide (fun h => callC_ok (L := L) (c := c) (x := x) (n := v.sigs.length) h)
  generalize callC L c x v.sigs.length = q at *
  clear h
  by_cases hq : q = 0
  · subst hq
    obtain ⟨x0, x1⟩ := HO.out rfl
    obtain ⟨k, rfl⟩ : ∃ k : Nat, x = k := ⟨x.toNat, by omega⟩
    have hk : k < v.sigs.length := by omega
    rw [if_pos rfl, Int.toNat_natCast, List.getElem?_eq_getElem hk] at HV
    go_enter Tryz.func320, Tryz.ntmps320
    go_wp2_with fail
    refine HCA.out.mono ?_
    rintro e w1 ⟨rfl, hs⟩
    obtain ⟨a0, a1, a2, a3, a4, a5⟩ := hs.1.cells
    obtain ⟨b, off, hA, hb, hc⟩ := hs.1.sig.row.at_ hk
    have HS := hide hs
    rw [hA] at a0
    generalize hsg : v.sigs[k] = sg at *
    obtain ⟨kk, ww, CA, cc, chs⟩ := sg
    have c0 := hc 0 (by omega)
    have c1 := hc 1 (by omega)
    have c2 := hc 2 (by omega)
    simp only [cSgn, List.getElem?_cons_zero, List.getElem?_cons_succ, Nat.add_zero] at c0 c1 c2
    have HA := hide hA

    clear hs hc hA hsg
    have hb2 : Below w1.heap.size w1 (w1.alloc (.cells #[.int .i64 kk, .int .i64 ww, .slice CA chs.length cc] 70)) := (Below.refl _ _).alloc (Nat.le_refl _) _
    have HS2 := hide (HS.out.below hb2)
    clear hb2
    go_upto_region 5 with (fail)
    go_quiet (fail)
    go_wp2_with fail
    go_ret3
    refine ⟨by rw [HV.out]; rfl, HS2.out.below (below_drewN (Below.refl _ _) _)⟩
  · have HV2 := hide (show kindV L c x v = .tuple #[.int .i64 0, .int .i64 0, .int .i64 q] by rw [HV.out, if_neg hq])
    have t1 : (q != 0) = true := bne_iff_ne.2 hq
    clear hq
    go_enter Tryz.func320, Tryz.ntmps320
    go_wp2_with fail
    refine HCA.out.mono ?_
    rintro e w1 ⟨rfl, hs⟩
    go_wp2_with fail
    go_ret3
    exact ⟨by rw [HV2.out]; rfl, hs⟩

end Go.Proofs.YtbhcmnfeeogdhaaGreatDoor

/-
  wavestoreref47.Initial and Value.
-/
namespace Go.Proofs.YtbhcmnfeeogdhaaGreatDoor
open Go.RowKit

/-- the value of a signal before its first change -/
def initL (kind width : Int) : List UInt8 := if kind = 1 then [48] else if kind = 0 then List.replicate width.toNat 120 else []
def initB (s : Sgn) : List UInt8 := initL s.kind s.width
def foldV (t : Int) (cs : List Chg) (v : ByteArray) : ByteArray := cs.foldl (fun v c => if c.time ≤ t then c.val else v) v
/-- the value of a signal at a time -/
def valS (s : Sgn) (t : Int) : ByteArray := if s.kind = 3 then bs (initB s) else foldV t s.chs (bs (initB s))
theorem foldV_take (t : Int) {cs : List Chg} {k : Nat} (hk : k < cs.length) (v : ByteArray) : foldV t (cs.take (k + 1)) v = if cs[k].time ≤ t then cs[k].val else foldV t (cs.take k) v := by
  rw [List.take_succ_eq_append_getElem hk]
  unfold foldV
  rw [List.foldl_append]
  rfl

def InRel (k : Int) (v i : Value) : Prop := ∃ j : Nat, (j : Int) ≤ max k 0 ∧ i = .int .i64 (j : Int) ∧ v = .string (bs (List.replicate j 120))
theorem rep_snoc_x (j : Nat) : bs (List.replicate j 120) ++ bs [120] = bs (List.replicate (j + 1) 120) := by rw [bs_app, List.replicate_succ']
set_option maxRecDepth 100000 in
theorem initial_any (kind width : Int) (CA : Option Addr) (n cc : Nat) (w : World) (hw : kind = 0 → width ≤ 1000) :
    Calls Tryz.prog 59 #[.agg #[.int .i64 kind, .int .i64 width, .slice CA n cc]] w fun e w' => e = .returned (.string (bs (initL kind width))) ∧ Below w.heap.size w w' := by
  by_cases k1 : kind = 1
  · subst k1
    clear hw
    go_enter Tryz.func59, Tryz.ntmps59
    go_wp2_with fail
    go_ret
    exact ⟨rfl, (Below.refl _ _).alloc (Nat.le_refl _) _⟩
  · have t1 : (kind == 1) = false := beq_eq_false_iff_ne.2 k1
    by_cases k0 : kind = 0
    · subst k0
      have hwd := hw rfl
      clear hw k1
      go_enter Tryz.func59, Tryz.ntmps59
      go_wp2_with fail
      go_loop [3, 4] (fun v i => InRel width v i) (fun _ i => width.toNat - (intOf i).toNat)
      case atStart => exact ⟨0, by omega, rfl, rfl⟩
      case round =>
        obtain ⟨j, hj, rfl, rfl⟩ := hrel
        have hsz : (bs (List.replicate j 120)).size = j := by rw [bs_size, List.length_replicate]
        by_cases hlt : (j : Int) < width
        · have HT := hide (rep_snoc_x j)
          go_wp2_with fail
          refine ⟨⟨j + 1, by omega, by go_num, by rw [← HT.out]; rfl⟩, by simp [intOf]; omega⟩
        · have hje : width.toNat = j := by omega
          have HJ := hide (show initL 0 width = List.replicate j 120 by rw [← hje]; rfl)
          clear hje
          go_wp2_with fail
          go_ret
          exact ⟨by rw [HJ.out]; rfl, (Below.refl _ _).alloc (Nat.le_refl _) _⟩
    · have t0 : (kind == 0) = false := beq_eq_false_iff_ne.2 k0
      have HV := hide (show initL kind width = [] by unfold initL; rw [if_neg k1, if_neg k0])
      clear hw k0 k1
      go_enter Tryz.func59, Tryz.ntmps59
      go_wp2_with fail
      go_ret
      exact ⟨by rw [HV.out]; rfl, (Below.refl _ _).alloc (Nat.le_refl _) _⟩

def RvRel (t : Int) (cs : List Chg) (v0 : ByteArray) (v i : Value) : Prop := ∃ j : Nat, j ≤ cs.length ∧ i = .int .i64 (j : Int) ∧ v = .string (foldV t (cs.take j) v0)
set_option maxRecDepth 100000 in
set_option maxHeartbeats 1000000 in
theorem rvalue_any (s : Sgn) (t : Int) (w : World) (hw : s.kind = 0 → s.width ≤ 1000) (hl : s.chs.length ≤ 1000) (hr : Row w (Lo w.heap.size) 2 cChg s.CA s.chs) :
    Calls Tryz.prog 92 #[.agg #[.int .i64 s.kind, .int .i64 s.width, .slice s.CA s.chs.length s.cc], .int .i64 t] w fun e w' => e = .returned (.string (valS s t)) ∧ Below w.heap.size w w' := by
  obtain ⟨kind, width, CA, cc, chs⟩ := s
  dsimp only at *
  have HI := hide (fun W => initial_any kind width CA chs.length cc W hw)
  have HVS := hide (show valS ⟨kind, width, CA, cc, chs⟩ t = if kind = 3 then bs (initL kind width) else foldV t chs (bs (initL kind width)) from rfl)
  generalize initL kind width = l0 at *
  have HR := hide hr
  clear hw hr
  go_enter Tryz.func92, Tryz.ntmps92
  go_wp2_with fail
  have hbx := heap_alloc_new w (.cells #[.int .i64 kind, .int .i64 width, .slice CA chs.length cc] 70)
  refine (HI.out _).mono ?_
  rintro e w1 ⟨rfl, b1⟩
  have hx1 := box_below b1 hbx
  have HB1 := hide (bstep ((Below.refl _ _).alloc (Nat.le_refl _) _) b1)
  have HR1 := hide (HR.out.grow HB1.out)
  have z0 : w1.cell? ⟨w.heap.size, 0, none⟩ = some (.int .i64 kind) := by rw [cell_of_row w1 _ _ _ _ (0, 0) hx1]; rfl
  have z2 : w1.cell? ⟨w.heap.size, 2, none⟩ = some (.slice CA chs.length cc) := by rw [cell_of_row w1 _ _ _ _ (0, 0) hx1]; rfl
  clear b1 hbx hx1
  by_cases k3 : kind = 3
  · have t3 : (kind != 3) = false := by rw [k3]; rfl
    rw [if_pos k3] at HVS
    clear k3
    go_wp2_with fail
    go_loop [5, 6] (fun v i => v = .string (bs l0) ∧ i = .int .i64 0) (fun _ _ => 0)
    case atStart => exact ⟨rfl, rfl⟩
    case round =>
      obtain ⟨rfl, rfl⟩ := hrel
      by_cases hl0 : 0 < chs.length
      · go_wp2_with fail
        go_ret
        exact ⟨by rw [HVS.out]; rfl, HB1.out⟩
      · go_wp2_with fail
        go_ret
        exact ⟨by rw [HVS.out]; rfl, HB1.out⟩
  · have t3 : (kind != 3) = true := bne_iff_ne.2 k3
    rw [if_neg k3] at HVS
    clear k3
    go_wp2_with fail
    go_loop [5, 6] (fun v i => RvRel t chs (bs l0) v i) (fun _ i => chs.length - (intOf i).toNat)
    case atStart => exact ⟨0, Nat.zero_le _, rfl, rfl⟩
    case round =>
      obtain ⟨j, hj, rfl, rfl⟩ := hrel
      by_cases hlt : j < chs.length
      · obtain ⟨b, off, hA, hlo, hc⟩ := HR1.out.at_ hlt
        have HT := hide (foldV_take t hlt (bs l0))
        rw [hA] at z2
        have c0 := hc 0 (by omega)
        have c1 := hc 1 (by omega)
        generalize chs[j] = cg at *
        obtain ⟨ct, cv⟩ := cg
        simp only [cChg, List.getElem?_cons_zero, List.getElem?_cons_succ, Nat.add_zero] at c0 c1
        have HA := hide hA
        clear hc hA
        by_cases hle : ct ≤ t
        · have HT2 := hide (show foldV t (chs.take (j + 1)) (bs l0) = cv by rw [HT.out, if_pos hle])
          go_wp2_with fail
          exact ⟨⟨j + 1, hlt, by go_num, by rw [HT2.out]⟩, by simp [intOf]; omega⟩
        · have HT2 := hide (show foldV t (chs.take (j + 1)) (bs l0) = foldV t (chs.take j) (bs l0) by rw [HT.out, if_neg hle])
          go_wp2_with fail
          exact ⟨⟨j + 1, hlt, by go_num, by rw [HT2.out]⟩, by simp [intOf]; omega⟩
      · have hje : j = chs.length := by omega
        have HE := hide (show foldV t (chs.take j) (bs l0) = foldV t chs (bs l0) by rw [hje, List.take_length])
        clear hje
        go_wp2_with fail
        go_ret
        exact ⟨by rw [HVS.out, ← HE.out]; rfl, HB1.out⟩

end Go.Proofs.YtbhcmnfeeogdhaaGreatDoor

/-
  The source of wavestorelaw47: Value, Next, New.
-/
namespace Go.Proofs.YtbhcmnfeeogdhaaGreatDoor
open Go.RowKit

set_option maxRecDepth 100000 in
theorem kind_err (M : Nat) (v : Wv) (L c x : Int) (w : World) (h : SourceAt w M v L c) (h0 : 0 ≤ c) (h1 : c ≤ 1000000) (q : Int) (hq : callC L c x v.sigs.length = q) (hne : q ≠ 0) :
    Calls Tryz.prog 320 #[.pointer (some ⟨M, 0, none⟩), .int .i64 x] w fun e w' => e = .returned (.tuple #[.int .i64 0, .int .i64 0, .int .i64 q]) ∧ SrcTo w M v L (c + 1) w' := by
  have := kind_any M v L c x w h h0 h1
  unfold kindV at this
  rw [if_neg (by rw [hq]; exact hne), hq] at this
  exact this
theorem kind_ok (M : Nat) (v : Wv) (L c : Int) (k : Nat) (w : World) (h : SourceAt w M v L c) (h0 : 0 ≤ c) (h1 : c ≤ 1000000) (hq : callC L c k v.sigs.length = 0) (s : Sgn) (hs : v.sigs[k]? = some s) :
    Calls Tryz.prog 320 #[.pointer (some ⟨M, 0, none⟩), .int .i64 (k : Int)] w fun e w' => e = .returned (.tuple #[.int .i64 s.kind, .int .i64 s.width, .int .i64 0]) ∧ SrcTo w M v L (c + 1) w' := by
  have := kind_any M v L c k w h h0 h1
  unfold kindV at this
  rw [if_pos hq, Int.toNat_natCast, hs] at this
  exact this

set_option maxRecDepth 100000 in
set_option maxHeartbeats 1000000 in
theorem value_err (M : Nat) (v : Wv) (L c x t : Int) (w : World) (h : SourceAt w M v L c) (h0 : 0 ≤ c) (h1 : c ≤ 1000000) (q : Int) (hq : callC L c x v.sigs.length = q) (hne : q ≠ 0) :
    Calls Tryz.prog 322 #[.pointer (some ⟨M, 0, none⟩), .int .i64 x, .int .i64 t] w fun e w' => e = .returned (.tuple #[.string ⟨#[]⟩, .int .i64 q]) ∧ SrcTo w M v L (c + 1) w' := by
  have HCA := hide (by have hc := call_any M v L c x w h h0 h1; rw [hq] at hc; exact hc)
  have t1 : (q != 0) = true := bne_iff_ne.2 hne
  clear h hq hne
  go_enter Tryz.func322, Tryz.ntmps322
  go_wp2_with fail
  refine HCA.out.mono ?_
  rintro e w1 ⟨rfl, hs⟩
  go_wp2_with fail
  go_ret2
  exact ⟨rfl, hs⟩
set_option maxRecDepth 100000 in
set_option maxHeartbeats 1000000 in
theorem value_ok (M : Nat) (v : Wv) (L c t : Int) (k : Nat) (w : World) (h : SourceAt w M v L c) (h0 : 0 ≤ c) (h1 : c ≤ 1000000) (hq : callC L c k v.sigs.length = 0) (s : Sgn) (hs : v.sigs[k]? = some s)
    (ht0 : 0 ≤ t) (ht1 : t ≤ v.fin) (hw : s.kind = 0 → s.width ≤ 1000) (hl : s.chs.length ≤ 1000) :
    Calls Tryz.prog 322 #[.pointer (some ⟨M, 0, none⟩), .int .i64 (k : Int), .int .i64 t] w fun e w' => e = .returned (.tuple #[.string (valS s t), .int .i64 0]) ∧ SrcTo w M v L (c + 1) w' := by
  have HCA := hide (by have hc := call_any M v L c k w h h0 h1; rw [hq] at hc; exact hc)
  have hk : k < v.sigs.length := (List.getElem?_eq_some_iff.1 hs).1
  have hsk : v.sigs[k] = s := (List.getElem?_eq_some_iff.1 hs).2
  have HSK := hide hsk
  clear h hq hs hsk
  go_enter Tryz.func322, Tryz.ntmps322
  go_wp2_with fail
  refine HCA.out.mono ?_
  rintro e w1 ⟨rfl, hs⟩
  obtain ⟨a0, a1, a2, a3, a4, a5⟩ := hs.1.cells
  obtain ⟨b, off, hA, hb, hc⟩ := hs.1.sig.row.at_ hk
  have hrow := (hs.1.sig.each _ (List.getElem_mem hk)).more (P' := Lo w1.heap.size) (fun b hb => Nat.lt_trans hb hs.1.lt)
  rw [HSK.out] at hc hrow
  have HRV := hide (rvalue_any s t w1 hw hl hrow)
  have HS := hide hs
  rw [hA] at a0
  have c0 := hc 0 (by omega)
  have c1 := hc 1 (by omega)
  have c2 := hc 2 (by omega)
  simp only [cSgn, List.getElem?_cons_zero, List.getElem?_cons_succ, Nat.add_zero] at c0 c1 c2
  have HA := hide hA
  clear hs hc hA hrow hw
  go_wp2_with fail
  refine HRV.out.mono ?_
  rintro e w2 ⟨rfl, b2⟩
  go_wp2_with fail
  go_ret2
  exact ⟨rfl, HS.out.below b2⟩

/-- the first change behind a time -/
def nextC (t : Int) (cs : List Chg) : Option Chg := cs.find? fun c => decide (t < c.time)
def nextV (t : Int) (cs : List Chg) : Value := match nextC t cs with
  | some c => .tuple #[.agg #[.int .i64 c.time, .string c.val], .int .i64 0]
  | none => .tuple #[.agg #[.int .i64 0, .string ⟨#[]⟩], .int .i64 6]
theorem nextC_hit {t : Int} {cs : List Chg} {j : Nat} (hj : j < cs.length) (hno : ∀ c ∈ cs.take j, c.time ≤ t) (h : t < cs[j].time) : nextC t cs = some cs[j] := by
  unfold nextC
  rw [List.find?_eq_some_iff_getElem]
  refine ⟨decide_eq_true h, j, hj, rfl, fun i hi => ?_⟩
  have := hno (cs[i]'(by omega)) (by rw [List.mem_take_iff_getElem]; exact ⟨i, by omega, rfl⟩)
  simpa using this
theorem nextC_none {t : Int} {cs : List Chg} (hno : ∀ c ∈ cs, c.time ≤ t) : nextC t cs = none := by
  unfold nextC
  rw [List.find?_eq_none]
  intro c hc
  simpa using hno c hc
/-- a change in a box -/
def chO (a : Int) (b : ByteArray) : Obj := .cells #[.int .i64 a, .string b] 67 (0, 0)
theorem chO_set {W W9 : World} {N : Nat} {a a' : Int} {b b' : ByteArray} (h : W.heap[N]? = some (chO a b)) (hW : (W.setCell ⟨N, 0, none⟩ (.int .i64 a')).setCell ⟨N, 1, none⟩ (.string b') = W9) : W9.heap[N]? = some (chO a' b') ∧ ∀ B, B ≤ N → Below B W W9 := by
  subst hW
  unfold chO at h ⊢
  refine ⟨by simp [World.setCell, Array.getElem?_modify, h], fun B hB => ((Below.refl _ _).setCell (p := ⟨N, 0, none⟩) hB _).setCell (p := ⟨N, 1, none⟩) hB _⟩
theorem SrcTo.set {w w' w'' : World} {M N : Nat} {v : Wv} {L c : Int} (h : SrcTo w M v L c w') (hN : w.heap.size ≤ N) (hM : M < w.heap.size) (hb : Below N w' w'') : SrcTo w M v L c w'' :=
  ⟨h.1.keep fun b hl => hb.block b (by omega), h.2.trans ((But.of hb).mono hN)⟩
def NxRel (t : Int) (cs : List Chg) (M : Nat) (v : Wv) (L c : Int) (w : World) (i : Value) (wr : World) : Prop := ∃ j : Nat, j ≤ cs.length ∧ i = .int .i64 (j : Int) ∧ (∀ c ∈ cs.take j, c.time ≤ t) ∧ SrcTo w M v L c wr ∧ wr.heap[w.heap.size]? = some (chO 0 ⟨#[]⟩)
theorem take_more {t : Int} {cs : List Chg} {j : Nat} (hj : j < cs.length) (hno : ∀ c ∈ cs.take j, c.time ≤ t) (h : cs[j].time ≤ t) : ∀ c ∈ cs.take (j + 1), c.time ≤ t := by
  rw [List.take_succ_eq_append_getElem hj]
  intro c hc
  rcases List.mem_append.1 hc with hc | hc
  · exact hno c hc
  · rw [List.mem_singleton.1 hc]; exact h

set_option maxRecDepth 100000 in
set_option maxHeartbeats 1000000 in
theorem next_err (M : Nat) (v : Wv) (L c x t : Int) (w : World) (h : SourceAt w M v L c) (h0 : 0 ≤ c) (h1 : c ≤ 1000000) (q : Int) (hq : callC L c x v.sigs.length = q) (hne : q ≠ 0) :
    Calls Tryz.prog 321 #[.pointer (some ⟨M, 0, none⟩), .int .i64 x, .int .i64 t] w fun e w' => e = .returned (.tuple #[.agg #[.int .i64 0, .string ⟨#[]⟩], .int .i64 q]) ∧ SrcTo w M v L (c + 1) w' := by
  have hlt := h.lt
  have HCA := hide (fun W (hb : Below w.heap.size w W) => by have hc := call_any M v L c x W (h.below hb) h0 h1; rw [hq] at hc; exact hc)
  have t1 : (q != 0) = true := bne_iff_ne.2 hne
  clear h hq hne
  go_enter Tryz.func321, Tryz.ntmps321
  go_wp2_with fail
  have hb0 : Below w.heap.size w (w.alloc (.cells #[.int .i64 0, .string ⟨#[]⟩] 67)) := (Below.refl _ _).alloc (Nat.le_refl _) _
  have hg0 := heap_alloc_new w (.cells #[.int .i64 0, .string ⟨#[]⟩] 67)
  refine (HCA.out _ hb0).mono ?_
  rintro e w1 ⟨rfl, hs⟩
  have hg1 : w1.heap[w.heap.size]? = some (.cells #[.int .i64 0, .string ⟨#[]⟩] 67 (0, 0)) := (hs.2.block w.heap.size (by simp) (fun e => by injection e with e; omega)).trans hg0
  obtain ⟨z0, z1, y0, y1⟩ := box2 hg1
  have HG := hide hg1
  have HS := hide hs
  clear hs hg0 hg1 hb0
  go_wp2_with fail
  generalize hW9 : World.setCell _ _ _ = W9
  obtain ⟨q1, q2⟩ := chO_set HG.out hW9
  obtain ⟨x0, x1, _, _⟩ := box2 q1
  have hto : SrcTo w M v L (c + 1) w1 := ⟨HS.out.1, (But.of ((Below.refl _ _).alloc (Nat.le_refl _) _)).trans (HS.out.2.mono (by simp))⟩
  exact bodyPost_ret (v := .tuple #[.agg #[.int .i64 0, .string ⟨#[]⟩], .int .i64 q]) (by simp [results, Tryz.results321, go_sem, x0, x1]) rfl ⟨rfl, hto.set (Nat.le_refl _) hlt (q2 _ (Nat.le_refl _))⟩

set_option maxRecDepth 100000 in
set_option maxHeartbeats 1000000 in
theorem next_ok (M : Nat) (v : Wv) (L c t : Int) (k : Nat) (w : World) (h : SourceAt w M v L c) (h0 : 0 ≤ c) (h1 : c ≤ 1000000) (hq : callC L c k v.sigs.length = 0) (s : Sgn) (hs : v.sigs[k]? = some s)
    (ht0 : -1 ≤ t) (ht1 : t ≤ v.fin) (hl : s.chs.length ≤ 1000) :
    Calls Tryz.prog 321 #[.pointer (some ⟨M, 0, none⟩), .int .i64 (k : Int), .int .i64 t] w fun e w' => e = .returned (nextV t s.chs) ∧ SrcTo w M v L (c + 1) w' := by
  have hlt := h.lt
  have HCA := hide (fun W (hb : Below w.heap.size w W) => by have hc := call_any M v L c k W (h.below hb) h0 h1; rw [hq] at hc; exact hc)
  have hk : k < v.sigs.length := (List.getElem?_eq_some_iff.1 hs).1
  have hsk : v.sigs[k] = s := (List.getElem?_eq_some_iff.1 hs).2
  have HSK := hide hsk
  clear h hq hs hsk
  go_enter Tryz.func321, Tryz.ntmps321
  go_wp2_with fail
  have hb0 : Below w.heap.size w (w.alloc (.cells #[.int .i64 0, .string ⟨#[]⟩] 67)) := (Below.refl _ _).alloc (Nat.le_refl _) _
  have hg0 := heap_alloc_new w (.cells #[.int .i64 0, .string ⟨#[]⟩] 67)
  refine (HCA.out _ hb0).mono ?_
  rintro e w1 ⟨rfl, hs⟩
  have hg1 : w1.heap[w.heap.size]? = some (chO 0 ⟨#[]⟩) := (hs.2.block w.heap.size (by simp) (fun e => by injection e with e; omega)).trans hg0
  have HG := hide hg1
  have HS := hide (show SrcTo w M v L (c + 1) w1 from ⟨hs.1, (But.of ((Below.refl _ _).alloc (Nat.le_refl _) _)).trans (hs.2.mono (by simp))⟩)
  obtain ⟨a0, a1, a2, a3, a4, a5⟩ := hs.1.cells
  obtain ⟨b, off, hA, hb, hc⟩ := hs.1.sig.row.at_ hk
  rw [HSK.out] at hc
  rw [hA] at a0
  have c0 := hc 0 (by omega)
  have c1 := hc 1 (by omega)
  have c2 := hc 2 (by omega)
  simp only [cSgn, List.getElem?_cons_zero, List.getElem?_cons_succ, Nat.add_zero] at c0 c1 c2
  have HA := hide hA
  clear hs hc hA hg0 hg1 hb0 hb
  go_wp2_with fail
  go_loopw [40] (fun i wr => NxRel t s.chs M v L (c + 1) w i wr) (fun i _ => s.chs.length - (intOf i).toNat)
  case atStart => exact ⟨0, Nat.zero_le _, rfl, by simp, HS.out, HG.out⟩
  case round =>
    obtain ⟨j, hj, rfl, hno, hto, hg⟩ := hrel
    have HNO := hide hno
    have HTO := hide hto
    have HGR := hide hg
    clear hno hto hg a0 a1 a2 a3 a4 a5 c0 c1 c2
    by_cases hjl : j < s.chs.length
    · have hrow := HTO.out.1.sig.each _ (List.getElem_mem hk)
      rw [HSK.out] at hrow
      obtain ⟨b2, off2, hA2, hb2, hc2⟩ := hrow.at_ hjl
      have HHIT := hide (fun h => nextC_hit hjl HNO.out h)
      have HMORE := hide (fun h => take_more hjl HNO.out h)
      have d0 := hc2 0 (by omega)
      have d1 := hc2 1 (by omega)
      generalize hcg : s.chs[j] = cg at *
      obtain ⟨ct, cv⟩ := cg
      simp only [cChg, List.getElem?_cons_zero, List.getElem?_cons_succ, Nat.add_zero] at d0 d1
      have HA2 := hide hA2
      rw [hA2]
      clear hc2 hA2 hrow hcg
      obtain ⟨z0, z1, y0, y1⟩ := box2 (show wr.heap[w.heap.size]? = some (.cells #[.int .i64 0, .string ⟨#[]⟩] 67 (0, 0)) from HGR.out)
      have hltr := box_lt HGR.out
      by_cases htl : t < ct
      · have HV := hide (show nextV t s.chs = .tuple #[.agg #[.int .i64 ct, .string cv], .int .i64 0] by unfold nextV; rw [HHIT.out htl])
        go_wp2_with fail
        generalize hW9 : World.setCell _ _ _ = W9
        obtain ⟨q1, q2⟩ := chO_set HGR.out hW9
        obtain ⟨x0, x1, _, _⟩ := box2 q1
        have hl9 := box_lt q1
        have hto := HTO.out.set (Nat.le_refl _) hlt (q2 _ (Nat.le_refl _))
        exact bodyPost_ret (v := .tuple #[.agg #[.int .i64 ct, .string cv], .int .i64 0]) (by simp [results, Tryz.results321, go_sem, x0, x1, hl9]) rfl ⟨by rw [HV.out], hto.below ((Below.refl _ _).alloc (Nat.le_refl _) _)⟩
      · have HN2 := hide (HMORE.out (by show ct ≤ t; omega))
        go_wp2_with fail
        exact ⟨⟨j + 1, hjl, by go_num, HN2.out, HTO.out.below ((Below.refl _ _).alloc (Nat.le_refl _) _), box_alloc HGR.out⟩, by simp [intOf]; omega⟩
    · have hje : j = s.chs.length := by omega
      have HV := hide (show nextV t s.chs = .tuple #[.agg #[.int .i64 0, .string ⟨#[]⟩], .int .i64 6] by
        have h := HNO.out
        rw [hje, List.take_length] at h
        unfold nextV; rw [nextC_none h])
      obtain ⟨z0, z1, y0, y1⟩ := box2 (show wr.heap[w.heap.size]? = some (.cells #[.int .i64 0, .string ⟨#[]⟩] 67 (0, 0)) from HGR.out)
      clear hje
      go_wp2_with fail
      generalize hW9 : World.setCell _ _ _ = W9
      obtain ⟨q1, q2⟩ := chO_set HGR.out hW9
      obtain ⟨x0, x1, _, _⟩ := box2 q1
      exact bodyPost_ret (v := .tuple #[.agg #[.int .i64 0, .string ⟨#[]⟩], .int .i64 6]) (by simp [results, Tryz.results321, go_sem, x0, x1]) rfl ⟨by rw [HV.out], HTO.out.set (Nat.le_refl _) hlt (q2 _ (Nat.le_refl _))⟩

end Go.Proofs.YtbhcmnfeeogdhaaGreatDoor

/-
  runs.add and end: lists of spans of the call's own.
-/
namespace Go.Proofs.YtbhcmnfeeogdhaaGreatDoor
open Go.RowKit

def encSp (x : Spn) : List Value := [.int .i64 x.f, .int .i64 x.t, .string x.v]
def encSps (l : List Spn) : List Value := l.flatMap encSp
theorem encSps_len (l : List Spn) : (encSps l).length = l.length * 3 := flat_len encSp 3 (fun _ => rfl) l
theorem encSps_app (l m : List Spn) : encSps (l ++ m) = encSps l ++ encSps m := by simp [encSps]
theorem infoSp : (Tryz.prog.info? 63).map (fun i => (i.zero, i.size, i.bytes)) = some (some (.agg #[.int .i64 0, .int .i64 0, .string ByteArray.empty]), 3, 32) := by kernel_rfl
/-- a list of spans that the call itself has made -/
def OwnSp (w : World) (base : Nat) (A : Option Addr) (c : Nat) (l : List Spn) : Prop := w.ownsRow base 63 3 (.slice A l.length c) l.length (encSps l)
theorem OwnSp.nil (w : World) (base : Nat) : OwnSp w base none 0 [] := World.ownsRow_nil w base _ 3
theorem OwnSp.of_row {w : World} {base : Nat} {v : Value} {n : Nat} {vs : List Value} {l : List Spn} (h : w.ownsRow base 63 3 v n vs) (hn : n = l.length) (hv : vs = encSps l) : ∃ A c, v = .slice A l.length c ∧ OwnSp w base A c l := by
  subst hn hv
  rcases Joins.ownsRow_forms h with ⟨rfl, h0⟩ | ⟨g, cap, rfl⟩
  · exact ⟨none, 0, by rw [h0], by unfold OwnSp; rw [h0] at h ⊢; exact h⟩
  · exact ⟨_, cap, rfl, h⟩
theorem OwnSp.place {w : World} {base : Nat} {A : Option Addr} {c : Nat} {l : List Spn} (h : OwnSp w base A c l) (hne : l ≠ []) : ∃ g, A = some ⟨g, 0, none⟩ ∧ base ≤ g ∧ g < w.heap.size := by
  obtain ⟨g, rfl, h1⟩ := own_place h (List.length_pos_iff.2 hne)
  exact ⟨g, rfl, own_ob h g rfl⟩
theorem OwnSp.cell {w : World} {base g c : Nat} {l : List Spn} (h : OwnSp w base (some ⟨g, 0, none⟩) c l) {i : Nat} {x : Spn} (hi : l[i]? = some x) : w.cell? ⟨g, i * 3, none⟩ = some (.int .i64 x.f) ∧ w.cell? ⟨g, i * 3 + 1, none⟩ = some (.int .i64 x.t) ∧ w.cell? ⟨g, i * 3 + 2, none⟩ = some (.string x.v) := by
  have hlt : i < l.length := (List.getElem?_eq_some_iff.1 hi).1
  have e0 := flat_at encSp 3 (fun _ => rfl) hi (j := 0) (by omega)
  have e1 := flat_at encSp 3 (fun _ => rfl) hi (j := 1) (by omega)
  have e2 := flat_at encSp 3 (fun _ => rfl) hi (j := 2) (by omega)
  exact ⟨(World.ownsRow.cellAt h _ (by omega)).trans e0, (World.ownsRow.cellAt h _ (by omega)).trans e1, (World.ownsRow.cellAt h _ (by omega)).trans e2⟩
/-- the end of the last span set -/
theorem OwnSp.setTo {w : World} {base g c : Nat} {l : List Spn} {x : Spn} (h : OwnSp w base (some ⟨g, 0, none⟩) c (l ++ [x])) (t : Int) : OwnSp (w.setCell ⟨g, l.length * 3 + 1, none⟩ (.int .i64 t)) base (some ⟨g, 0, none⟩) c (l ++ [⟨x.f, t, x.v⟩]) := by
  have h1 := World.ownsRow.stored h (l.length * 3 + 1) (.int .i64 t)
  unfold OwnSp
  have e : (encSps (l ++ [x])).set (l.length * 3 + 1) (.int .i64 t) = encSps (l ++ [⟨x.f, t, x.v⟩]) := by
    rw [encSps_app, encSps_app, List.set_append_right _ _ (by rw [encSps_len]; omega), encSps_len]
    have : l.length * 3 + 1 - l.length * 3 = 1 := by omega
    rw [this]
    rfl
  have hl : (l ++ [x]).length = (l ++ [(⟨x.f, t, x.v⟩ : Spn)]).length := by simp
  rw [e, hl] at h1
  exact h1.1

/-- a list of spans up to a time, and a value behind it -/
def addL (l : List Spn) (f : Int) (v : ByteArray) : List Spn := match l.getLast? with
  | none => [⟨f, 0, v⟩]
  | some x => if x.v = v then l else l.dropLast ++ [⟨x.f, wrap64 (f - 1), x.v⟩] ++ [⟨f, 0, v⟩]
theorem addL_wrap (l : List Spn) (x : Spn) (f : Int) (v : ByteArray) : addL (l ++ [x]) f v = if x.v = v then l ++ [x] else l ++ [⟨x.f, wrap64 (f - 1), x.v⟩] ++ [⟨f, 0, v⟩] := by
  unfold addL
  rw [List.getLast?_append]
  simp
theorem addL_snoc (l : List Spn) (x : Spn) (f : Int) (v : ByteArray) (f0 : -1000 ≤ f) (f1 : f ≤ 4398046511104) : addL (l ++ [x]) f v = if x.v = v then l ++ [x] else l ++ [⟨x.f, f - 1, x.v⟩] ++ [⟨f, 0, v⟩] := by
  rw [addL_wrap]
  have : wrap64 (f - 1) = f - 1 := by unfold wrap64; omega
  rw [this]
def AddPost (base : Nat) (A : Option Addr) (m : List Spn) (w : World) (e : Ending) (w' : World) : Prop := ∃ A' c', e = .returned (.slice A' m.length c') ∧ OwnSp w' base A' c' m ∧ But w.heap.size (ob A) w w'
theorem sp_one (x : Spn) : ∀ u ∈ encSp x, u.oneCell' = true := by
  intro u hu
  simp only [encSp, List.mem_cons, List.not_mem_nil, or_false] at hu
  rcases hu with rfl | rfl | rfl <;> rfl
theorem But.set {w : World} {g j n : Nat} {u : Value} : But n (some g) w (w.setCell ⟨g, j, none⟩ u) := but_cell
theorem But.grown {n : Nat} {w w' : World} {x : Option Nat} (h : w.grownBy w' x) (hn : n ≤ w.heap.size) : But n x w w' := ⟨h.os, h.tape, h.output, h.size, fun b hb hx => h.block b (by omega) hx⟩

set_option maxRecDepth 100000 in
set_option maxHeartbeats 1000000 in
theorem add_any (base : Nat) (A : Option Addr) (c : Nat) (l : List Spn) (f : Int) (v : ByteArray) (w : World) (ho : OwnSp w base A c l) (hb : base ≤ w.heap.size) (hl : l.length ≤ 5000) :
    Calls Tryz.prog 102 #[.slice A l.length c, .int .i64 f, .string v] w (AddPost base A (addL l f v) w) := by
  obtain ⟨i0, hi0, hz0, hz1, hz2⟩ := info_parts infoSp
  rcases List.eq_nil_or_concat l with rfl | ⟨l, x, rfl⟩
  · have HA := hide (show addL [] f v = [⟨f, 0, v⟩] from rfl)
    have HO := hide (World.ownsRow.alloc ho (.cells #[.int .i64 f, .int .i64 0, .string v] 63))
    have HB := hide (heap_alloc_new w (.cells #[.int .i64 f, .int .i64 0, .string v] 63))
    clear ho hl
    go_enter Tryz.func102, Tryz.ntmps102
    go_wp2_with (at_builtin; (refine append_src rfl _ _ 58 rfl base 63 i0 _ 3 32 Tryz.underlying58 hi0 hz0 hz1 hz2 rfl (by decide) (.slice A 0 c) 0 [] rfl HO.out (some ⟨w.heap.size, 0, none⟩) 1 1 (encSp ⟨f, 0, v⟩) rfl rfl (src_block (t := 63) (fr := (0, 0)) HB.out) (sp_one _) (by simp only [maxLen]; omega) (by omega) (by simp; omega) ?_); intro v' w3 hown3 hg3)
    obtain ⟨A3, c3, rfl, ho3⟩ := OwnSp.of_row (l := [⟨f, 0, v⟩]) hown3 rfl rfl
    go_ret
    refine ⟨A3, c3, by rw [HA.out]; rfl, by rw [HA.out]; exact ho3, ?_⟩
    have h1 := But.grown hg3 (n := w.heap.size) (by simp)
    rw [ob_eq] at h1
    exact (But.of ((Below.refl _ _).alloc (Nat.le_refl _) _)).trans h1
  · rw [List.concat_eq_append] at *
    obtain ⟨g, rfl, hg1, hg2⟩ := ho.place (by simp)
    have hlen : (l ++ [x]).length = l.length + 1 := by simp
    rw [hlen] at hl
    obtain ⟨c0, c1, c2⟩ := ho.cell (i := l.length) (x := x) (by simp)
    have fz := World.ownsRow.frozenAt ho (l.length * 3 + 1)
    have HAD := hide (addL_wrap l x f v)
    have HO := hide ho
    clear ho
    rw [hlen]
    have hi : ((l.length + 1 : Nat) : Int) - 1 = (l.length : Int) := by omega
    by_cases hv : x.v = v
    · have HA := hide (show addL (l ++ [x]) f v = l ++ [x] by rw [HAD.out, if_pos hv])
      have tv : (x.v.toList == v.toList) = true := by rw [hv]; simp
      clear hv
      go_enter Tryz.func102, Tryz.ntmps102
      go_wp2_with fail
      go_ret
      exact ⟨_, c, by rw [HA.out, hlen]; rfl, by rw [HA.out]; exact HO.out, But.refl _ _ _⟩
    · have HA := hide (show addL (l ++ [x]) f v = l ++ [⟨x.f, wrap64 (f - 1), x.v⟩] ++ [⟨f, 0, v⟩] by rw [HAD.out, if_neg hv])
      have tv : (x.v.toList == v.toList) = false := beq_eq_false_iff_ne.2 (fun e => hv (by rw [ByteArray.toList_eq, ByteArray.toList_eq] at e; exact ByteArray.ext (Array.toList_inj.1 e)))
      clear hv
      go_enter Tryz.func102, Tryz.ntmps102
      go_upto_region 6 with (fail)
      generalize hW1 : World.setCell _ _ _ = W1
      have ho1 : OwnSp W1 base (some ⟨g, 0, none⟩) c (l ++ [⟨x.f, wrap64 (f - 1), x.v⟩]) := by rw [← hW1]; exact HO.out.setTo (wrap64 (f - 1))
      have hb1 : But w.heap.size (some g) w W1 := by rw [← hW1]; exact but_cell
      have hz1' : w.heap.size ≤ W1.heap.size := by rw [← hW1]; simp [World.setCell]
      have HO1 := hide (World.ownsRow.alloc ho1 (.cells #[.int .i64 f, .int .i64 0, .string v] 63))
      have HB1 := hide (heap_alloc_new W1 (.cells #[.int .i64 f, .int .i64 0, .string v] 63))
      have HBU := hide hb1
      have hl1 : (l ++ [(⟨x.f, wrap64 (f - 1), x.v⟩ : Spn)]).length = l.length + 1 := by simp
      have hn1 : (l ++ [(⟨x.f, wrap64 (f - 1), x.v⟩ : Spn)] ++ [(⟨f, 0, v⟩ : Spn)]).length = l.length + 1 + 1 := by simp
      rw [hl1] at HO1
      clear hW1 ho1 hb1 c0 c1 c2 fz
      go_wp2_with (at_builtin; (refine append_src rfl _ _ 58 rfl base 63 i0 _ 3 32 Tryz.underlying58 hi0 hz0 hz1 hz2 rfl (by decide) (.slice (some ⟨g, 0, none⟩) (l.length + 1) c) (l.length + 1) (encSps (l ++ [⟨x.f, wrap64 (f - 1), x.v⟩])) rfl HO1.out (some ⟨W1.heap.size, 0, none⟩) 1 1 (encSp ⟨f, 0, v⟩) rfl rfl (src_block (t := 63) (fr := (0, 0)) HB1.out) (sp_one _) (by simp only [maxLen]; omega) (by omega) (by simp; omega) ?_); intro v' w3 hown3 hg3)
      obtain ⟨A3, c3, rfl, ho3⟩ := OwnSp.of_row (l := l ++ [⟨x.f, wrap64 (f - 1), x.v⟩] ++ [⟨f, 0, v⟩]) hown3 hn1.symm (by rw [encSps_app (l ++ [_]) [_]]; rfl)
      go_ret
      refine ⟨A3, c3, by rw [HA.out]; rfl, by rw [HA.out]; exact ho3, ?_⟩
      have h1 := But.grown hg3 (n := w.heap.size) (by simp; omega)
      exact HBU.out.trans ((But.of ((Below.refl _ _).alloc (by omega) _)).trans h1)

set_option maxRecDepth 100000 in
theorem end_sp (base g c : Nat) (l : List Spn) (x : Spn) (t : Int) (w : World) (ho : OwnSp w base (some ⟨g, 0, none⟩) c (l ++ [x])) (hl : l.length ≤ 5000) :
    Calls Tryz.prog 104 #[.slice (some ⟨g, 0, none⟩) (l.length + 1) c, .int .i64 t] w fun e w' => e = .returned (.slice (some ⟨g, 0, none⟩) (l.length + 1) c) ∧ OwnSp w' base (some ⟨g, 0, none⟩) c (l ++ [⟨x.f, t, x.v⟩]) ∧ But w.heap.size (some g) w w' := by
  obtain ⟨c0, c1, c2⟩ := ho.cell (i := l.length) (x := x) (by simp)
  have fz := World.ownsRow.frozenAt ho (l.length * 3 + 1)
  have hi : ((l.length + 1 : Nat) : Int) - 1 = (l.length : Int) := by omega
  have HO := hide (ho.setTo t)
  clear ho
  go_enter Tryz.func104, Tryz.ntmps104
  go_wp2_with fail
  go_ret
  exact ⟨rfl, HO.out, but_cell⟩

end Go.Proofs.YtbhcmnfeeogdhaaGreatDoor

/-
  Lists of spans that the program reads; runs.Valid at the spans of a function.
-/
namespace Go.Proofs.YtbhcmnfeeogdhaaGreatDoor
open Go.RowKit

/-- a list of spans in memory, at its place -/
structure SpL where
  A : Option Addr
  c : Nat
  l : List Spn
def celSp (s : SpL) : Value := .slice s.A s.l.length s.c
/-- the three cells of a span -/
def SpAt (w : World) (b o : Nat) (x : Spn) : Prop := w.cell? ⟨b, o, none⟩ = some (.int .i64 x.f) ∧ w.cell? ⟨b, o + 1, none⟩ = some (.int .i64 x.t) ∧ w.cell? ⟨b, o + 2, none⟩ = some (.string x.v)
theorem Row.sp_at {w : World} {P : Nat → Prop} {A : Option Addr} {l : List Spn} (h : Row w P 3 encSp A l) (hne : l ≠ []) : ∃ b off, A = some ⟨b, off, none⟩ ∧ P b ∧ ∀ i x, l[i]? = some x → SpAt w b (off + i * 3) x := by
  obtain ⟨b, off, e, hb, hc⟩ := h hne
  exact ⟨b, off, e, hb, fun i x hi => ⟨hc i x hi 0 (by omega), hc i x hi 1 (by omega), hc i x hi 2 (by omega)⟩⟩
theorem SpAt.stay {w w' : World} {b o : Nat} {x : Spn} (h : SpAt w b o x) (hb : w'.heap[b]? = w.heap[b]?) : SpAt w' b o x := by
  obtain ⟨h1, h2, h3⟩ := h
  have e : ∀ j, w'.cell? ⟨b, j, none⟩ = w.cell? ⟨b, j, none⟩ := fun j => by simp [World.cell?, hb]
  exact ⟨(e _).trans h1, (e _).trans h2, (e _).trans h3⟩
/-- an own list, read -/
theorem OwnSp.row {w : World} {base c : Nat} {A : Option Addr} {l : List Spn} (h : OwnSp w base A c l) : Row w (fun b => base ≤ b ∧ b < w.heap.size ∧ ob A = some b) 3 encSp A l := fun hne => by
  obtain ⟨g, rfl, h1, h2⟩ := h.place hne
  refine ⟨g, 0, rfl, ⟨h1, h2, rfl⟩, fun i x hi j hj => ?_⟩
  obtain ⟨c0, c1, c2⟩ := h.cell hi
  rw [Nat.zero_add]
  match j, hj with
  | 0, _ => exact c0
  | 1, _ => exact c1
  | 2, _ => exact c2

theorem sp_box {w : World} {N : Nat} {x : Spn} (h : w.heap[N]? = some (.cells #[.int .i64 x.f, .int .i64 x.t, .string x.v] 63 (0, 0))) : SpAt w N 0 x := by
  refine ⟨?_, ?_, ?_⟩ <;> (rw [cell_of_row w N _ _ _ (0, 0) h]; rfl)
def VaRel (n : Nat) (w : World) (i : Value) (wr : World) : Prop := ∃ j : Nat, j ≤ n ∧ i = .int .i64 (j : Int) ∧ Below w.heap.size w wr

set_option maxRecDepth 100000 in
set_option maxHeartbeats 4000000 in
theorem valid_sp (g : Int → ByteArray) (a z : Int) (A : Option Addr) (c : Nat) (l : List Spn) (w : World) (h : Row w (Lo w.heap.size) 3 encSp A l) (hs : Spans g a z l) (h0 : 0 ≤ a) (hz : z ≤ 1099511627776) (hl : l.length ≤ 1000000) :
    Calls Tryz.prog 123 #[.slice A l.length c] w (RetV (.bool true) w) := by
  obtain ⟨b, off, rfl, hb, hc⟩ := h.sp_at hs.ne
  have HS := hide hs
  have hc0 : ∃ x0, l[0]? = some x0 := ⟨l[0]'(List.length_pos_iff.2 hs.ne), List.getElem?_eq_getElem _⟩
  have hc1 : ∃ x1, l[l.length - 1]? = some x1 := ⟨l[l.length - 1]'(by have := List.length_pos_iff.2 hs.ne; omega), List.getElem?_eq_getElem _⟩
  have hlp := List.length_pos_iff.2 hs.ne
  obtain ⟨x0, hx0⟩ := hc0
  obtain ⟨x1, hx1⟩ := hc1
  obtain ⟨k0, k1, k2⟩ := hc 0 x0 hx0
  obtain ⟨m0, m1, m2⟩ := hc _ x1 hx1
  have e0 := hs.mem (List.mem_of_getElem? hx0)
  have e1 := hs.mem (List.mem_of_getElem? hx1)
  have d0 : decide (x0.f < 0) = false := decide_eq_false (by omega)
  have d1 : decide (1099511627776 < x1.t) = false := decide_eq_false (by omega)
  have hi : ((l.length : Nat) : Int) - 1 = ((l.length - 1 : Nat) : Int) := by omega
  have hlt : l.length - 1 < l.length := by omega
  have T0 : ((l.length : Int) == 0) = false := beq_eq_false_iff_ne.2 (by omega)
  have HC := hide hc
  have HB := hide hb
  simp only [Nat.zero_mul, Nat.add_zero] at k0 k1 k2
  clear hs hc hx0 hx1 e0 e1 h
  go_enter Tryz.func123, Tryz.ntmps123
  go_upto_region 4 with (fail)
  go_loopw [27] (fun i wr => VaRel l.length w i wr) (fun i _ => l.length - (intOf i).toNat)
  case atStart => exact ⟨0, Nat.zero_le _, rfl, Below.refl _ _⟩
  case round =>
    obtain ⟨j, hj, rfl, hbr⟩ := hrel
    by_cases hlt : j < l.length
    · have hx : l[j]? = some l[j] := List.getElem?_eq_getElem hlt
      have s1 := (HC.out j _ hx).stay (hbr.block _ HB.out)
      have hj1 := HS.out.mem (List.mem_of_getElem? hx)
      have hprev : ∀ i, j = i + 1 → ∃ y, SpAt wr b (off + i * 3) y ∧ l[j].f = y.t + 1 ∧ y.v ≠ l[j].v ∧ y.t ≤ 1099511627776 ∧ 0 ≤ y.t := fun i e => by
        have hy : l[i]? = some l[i] := List.getElem?_eq_getElem (by omega)
        obtain ⟨n1, n2⟩ := HS.out.next hy (by rw [← e]; exact hx)
        have hm := HS.out.mem (List.mem_of_getElem? hy)
        exact ⟨_, (HC.out i _ hy).stay (hbr.block _ HB.out), n1, n2, by omega, by omega⟩
      generalize l[j] = x at *
      obtain ⟨s2, s3, s4⟩ := s1
      have d2 : decide (x.t < x.f) = false := decide_eq_false (by omega)
      have HBR := hide hbr
      have HQ := hide (bstep hbr ((Below.refl wr.heap.size wr).alloc (Nat.le_refl _) (.cells #[.int .i64 x.f, .int .i64 x.t, .string x.v] 63)))
      have g1 := heap_alloc_new wr (.cells #[.int .i64 x.f, .int .i64 x.t, .string x.v] 63)
      have hold : ∀ b, b < wr.heap.size → (wr.alloc (.cells #[.int .i64 x.f, .int .i64 x.t, .string x.v] 63)).heap[b]? = wr.heap[b]? := fun b hb => Below.heap_alloc _ _ _ hb
      have hbw : b < wr.heap.size := Nat.lt_of_lt_of_le HB.out hbr.size
      have HW := hide (show wr.alloc (.cells #[.int .i64 x.f, .int .i64 x.t, .string x.v] 63) = wr.alloc (.cells #[.int .i64 x.f, .int .i64 x.t, .string x.v] 63) from rfl)
      obtain ⟨W1, hW1⟩ : ∃ W1, wr.alloc (.cells #[.int .i64 x.f, .int .i64 x.t, .string x.v] 63) = W1 := ⟨_, rfl⟩
      rw [hW1] at HQ g1 hold
      have HW1 := hide hW1
      clear hbr hW1 HW
      go_upto_region 6 with (fail)
      rw [HW1.out]
      clear HW1 s2 s3 s4
      obtain ⟨z0, z1, z2⟩ : SpAt W1 wr.heap.size 0 x := sp_box g1
      clear g1
      rcases Nat.eq_zero_or_pos j with rfl | hjp
      · clear hprev
        go_quiet (fail)
        go_wp2_with fail
        exact ⟨⟨1, by omega, rfl, below_drewN HQ.out _⟩, by simp [intOf]; omega⟩
      · obtain ⟨i, rfl⟩ : ∃ i, j = i + 1 := ⟨j - 1, by omega⟩
        obtain ⟨y, hy, n1, n2, n3, n4⟩ := hprev i rfl
        obtain ⟨y0, y1, y2⟩ := hy.stay (hold _ hbw)
        have hi1 : (((i + 1 : Nat) : Int)) - 1 = (i : Int) := by omega
        have T1 : decide (0 < ((i + 1 : Nat) : Int)) = true := decide_eq_true (by omega)
        have T2 : (x.f != y.t + 1) = false := by simp [n1]
        have T3 : (x.v.toList == y.v.toList) = false := beq_eq_false_iff_ne.2 (fun e => n2 (by rw [ByteArray.toList_eq, ByteArray.toList_eq] at e; exact (ByteArray.ext (Array.toList_inj.1 e)).symm))
        clear hprev n1 n2
        go_quiet (fail)
        go_wp2_with fail
        exact ⟨⟨i + 1 + 1, by omega, by go_num, below_drewN HQ.out _⟩, by simp [intOf]; omega⟩
    · have HBR := hide hbr
      go_wp2_with fail
      go_ret
      exact ⟨rfl, HBR.out⟩

end Go.Proofs.YtbhcmnfeeogdhaaGreatDoor
