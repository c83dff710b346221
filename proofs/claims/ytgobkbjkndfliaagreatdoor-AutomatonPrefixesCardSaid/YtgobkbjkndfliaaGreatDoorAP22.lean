/-
  Several texts in one: CJoin. Each says at its head what it holds.
-/
import Derived.Test.YtgobkbjkndfliaaGreatDoorAP21
import Derived.Deep.RegionHeld3

/-
  compiler.join of two parts, each of one state.
-/
namespace Go.Proofs.YtgobkbjkndfliaaGreatDoor
open Go.RowKit

theorem infoEdgC : (Tryz.prog.info? 39).map (fun i => (i.zero, i.size, i.bytes)) = some (some (.agg #[.int .i64 0, .int .i64 0, .int .i64 0, .int .i64 0, .int .i64 0, .int .i64 0]), 6, 48) := by kernel_rfl
def JoinE (base B ne : Nat) (E : List Edg) (sts : List Int) (F : Nat → Prop) (w : World) (e : Ending) (w' : World) : Prop := e = .returned (.tuple #[]) ∧ CSt w' base B ne E sts F ∧ Kp F w w'

set_option maxRecDepth 100000 in
set_option maxHeartbeats 4000000 in
theorem join_one (xa ya : Option Addr) (xn xc yn yc p q cx cy k f : Nat) (xe ye : Bool) (low high wh ev : Int) (base B ne : Nat) (E : List Edg) (sts : List Int) (F : Nat → Prop) (w : World) (hc : CSt w base B ne E sts F) (hE : E.length ≤ 1000)
    (hp : w.cell? ⟨p, 0, none⟩ = some (.int .i64 (f : Int))) (hFp : F p) (hq : w.cell? ⟨q, 0, none⟩ = some (.int .i64 ((k : Int) + 1))) (hFq : F q) (hk : k < sts.length) (hk2 : sts.length ≤ 1000) (hev : sts[k] = ev) :
    Calls Tryz.prog 60 #[.pointer (some ⟨B, 0, none⟩), .agg #[.slice xa xn xc, .slice (some ⟨p, 0, none⟩) 1 cx, .bool xe], .agg #[.slice (some ⟨q, 0, none⟩) 1 cy, .slice ya yn yc, .bool ye], .agg #[.int .i64 low, .int .i64 high, .int .i64 wh]] w (JoinE base B ne (E ++ [⟨f, (k : Int) + 1, ev, wh, low, high⟩]) sts F w) := by
  obtain ⟨AE, cE, evl, AX, cX, AS, cS, hcr⟩ := hc
  have HCR := hide hcr
  have HFP := hide hFp
  have HFQ := hide hFq
  clear hcr hFp hFq
  go_enter Tryz.func60, Tryz.ntmps60
  go_upto_region 1 with (fail)
  obtain ⟨W0, hW0⟩ : ∃ W0, ((w.alloc (.cells #[.slice xa xn xc, .slice (some ⟨p, 0, none⟩) 1 cx, .bool xe] 61)).alloc (.cells #[.slice (some ⟨q, 0, none⟩) 1 cy, .slice ya yn yc, .bool ye] 61)).alloc (.cells #[.int .i64 low, .int .i64 high, .int .i64 wh] 92) = W0 := ⟨_, rfl⟩
  rw [hW0]
  obtain ⟨p0, p1, p2, hbW, hsW⟩ := chain3 _ _ _ _ hW0
  have HC0 := hide (HCR.out.new (F' := fun b => F b ∨ (w.heap.size ≤ b ∧ b < w.heap.size + 1 + 1 + 1)) hbW (fun b hb => hb.imp_right fun h => by omega))
  have HKP0 := hide (show Kp F w W0 from Kp.of hbW fun b hb => (HCR.out.fr b hb).1)
  have hw0 : w.heap.size < W0.heap.size := by omega
  have hw01 : w.heap.size + 1 < W0.heap.size := by omega
  have hw02 : w.heap.size + 1 + 1 < W0.heap.size := by omega
  have hw2 : B < W0.heap.size := HC0.out.lt
  have hwp : p < W0.heap.size := (HC0.out.fr p (Or.inl HFP.out)).1
  have hwq : q < W0.heap.size := (HC0.out.fr q (Or.inl HFQ.out)).1
  obtain ⟨x0, x1, x2⟩ := box3 p0
  obtain ⟨y0, y1, y2⟩ := box3 p1
  obtain ⟨l0, l1, l2⟩ := box3 p2
  obtain ⟨b0, b1, b2, b3, b4⟩ := box5 HC0.out.box
  have ep := (hbW.cell (p := ⟨p, 0, none⟩) (HCR.out.fr p HFP.out).1).trans hp
  have eq := (hbW.cell (p := ⟨q, 0, none⟩) (HCR.out.fr q HFQ.out).1).trans hq
  obtain ⟨gS, rfl, hg1, hg2⟩ := own_place HC0.out.st (by omega)
  have es := HC0.out.st.cellAt k (by omega)
  rw [List.getElem?_map, List.getElem?_eq_getElem hk, hev] at es
  simp only [Option.map_some] at es
  have hk3 : (k : Int) < (sts.length : Int) := by omega
  have hk4 : (0 : Int) ≤ (k : Int) := by omega
  have hkw : IntKind.i64.wrap (k : Int) = (k : Int) := IntWalk.i64_in _ (by omega)
  clear hp hq hW0 p0 p1 p2 hbW hsW hev
  go_wp2_with fail
  refine wp_loop_rounds 2 ?_
  rw [rounds_succ]
  go_wp2_with fail
  refine wp_loop_rounds 2 ?_
  rw [rounds_succ]
  go_upto_region 7 with (fail)
  obtain ⟨i0, hi0, hz0, hz1, hz2⟩ := info_parts infoEdgC
  obtain ⟨Wz, hWz⟩ : ∃ Wz, W0.drew.alloc (.cells #[.int .i64 (f : Int), .int .i64 ((k : Int) + 1), .int .i64 ev, .int .i64 wh, .int .i64 low, .int .i64 high] 39) = Wz := ⟨_, rfl⟩
  have gz := new_at hWz
  have hbz : Below W0.drew.heap.size W0.drew Wz := by rw [← hWz]; exact (Below.refl _ _).alloc (Nat.le_refl _) _
  have hCz := HC0.out.keep (w' := Wz) hbz.size (hbz.block _ HC0.out.lt) (fun b hb => hbz.block b (HC0.out.row_lt hb).2)
  obtain ⟨A', c', W2, hap, how, hgr, hpl, g, rfl⟩ := app_at 28 Tryz.underlying28 hi0 hz0 hz1 hz2 rfl (by decide) hCz.ed [.int .i64 (f : Int), .int .i64 ((k : Int) + 1), .int .i64 ev, .int .i64 wh, .int .i64 low, .int .i64 high] rfl (by simp [Value.oneCell']) (by omega) (by omega) (by have := hCz.bB; have := hCz.lt; omega) ⟨W0.drew.heap.size, 0, none⟩ (fun j u hu => by rw [addr_add, Nat.zero_add, cell_of_row Wz _ j _ _ (0, 0) gz]; simpa using hu)
  rw [← hWz] at hap
  have hap2 : (Builtin.append_ #[28, 28] 28 #[.slice AX E.length cX, .slice (some ⟨W0.heap.size, 0, none⟩) 1 1]).run Tryz.prog ((W0.alloc (.cells #[.int .i64 (f : Int), .int .i64 ((k : Int) + 1), .int .i64 ev, .int .i64 wh, .int .i64 low, .int .i64 high] 39)).drew) = .ok (.slice (some ⟨g, 0, none⟩) (E.length + 1) c') W2 := hap
  clear hap
  have hbox2 := (hgr.block B hCz.lt (fun e => hCz.row_ne (.inr (.inl e.symm)) rfl)).trans hCz.box
  obtain ⟨d0, d1', d2', d3, d4⟩ := box5 hbox2
  have d5 := box_froz (j := 3) hbox2
  have hcd : CR W0.drew base B AE ne cE evl AX cX E (some ⟨gS, 0, none⟩) cS sts (fun b => F b ∨ (w.heap.size ≤ b ∧ b < w.heap.size + 1 + 1 + 1)) := HC0.out.keep (Nat.le_refl _) rfl fun _ _ => rfl
  have hgr2 := hgr
  rw [← hWz] at hgr2
  have hpl2 : ob (some ⟨g, 0, none⟩) = ob AX ∨ ob (some ⟨g, 0, none⟩) = some (W0.drew.heap.size + 1) := by
    rw [← hWz] at hpl
    simpa using hpl
  have hl1 : (E ++ [(⟨f, (k : Int) + 1, ev, wh, low, high⟩ : Edg)]).length = E.length + 1 := by simp
  have hpush := hcd.push_ed (E' := E ++ [(⟨f, (k : Int) + 1, ev, wh, low, high⟩ : Edg)]) hgr2 (by rw [hl1, List.flatMap_append]; exact how) hpl2
  rw [hl1] at hpush
  have HEA := hide (show CSt (W2.setCell ⟨B, 3, none⟩ (.slice (some ⟨g, 0, none⟩) (E.length + 1) c')) base B ne (E ++ [(⟨f, (k : Int) + 1, ev, wh, low, high⟩ : Edg)]) sts F ∧ Kp F w (W2.setCell ⟨B, 3, none⟩ (.slice (some ⟨g, 0, none⟩) (E.length + 1) c')) from ⟨⟨_, _, _, _, _, _, _, hpush.1.sub fun b h => Or.inl h⟩, HKP0.out.trans ⟨hgr2.os, hgr2.tape, hgr2.output, by have := hgr2.size; simp at this ⊢; omega, fun b h => hpush.2 b (Or.inl h)⟩⟩)
  have hfb : ∀ b, (F b ∨ (w.heap.size ≤ b ∧ b < w.heap.size + 1 + 1 + 1)) → W2.heap[b]? = W0.heap[b]? := fun b hb => by
    obtain ⟨h1, h2, h3, h4, h5⟩ := hCz.fr b hb
    exact (hgr.block b h1 (fun e => h4 e.symm)).trans (hbz.block b (HC0.out.fr b hb).1)
  have m0 : W2.cell? ⟨w.heap.size + 1 + 1, 0, none⟩ = some (.int .i64 low) := (World.cell?_of_block (a := ⟨w.heap.size + 1 + 1, 0, none⟩) (hfb (w.heap.size + 1 + 1) (Or.inr (by omega)))).trans l0
  have m1 : W2.cell? ⟨w.heap.size + 1 + 1, 1, none⟩ = some (.int .i64 high) := (World.cell?_of_block (a := ⟨w.heap.size + 1 + 1, 1, none⟩) (hfb (w.heap.size + 1 + 1) (Or.inr (by omega)))).trans l1
  have m2 : W2.cell? ⟨w.heap.size + 1 + 1, 2, none⟩ = some (.int .i64 wh) := (World.cell?_of_block (a := ⟨w.heap.size + 1 + 1, 2, none⟩) (hfb (w.heap.size + 1 + 1) (Or.inr (by omega)))).trans l2
  have ms : W2.cell? ⟨gS, k, none⟩ = some (.int .i64 ev) := (World.cell?_of_block (a := ⟨gS, k, none⟩) ((hgr.block gS (hCz.row_lt (.inr (.inr (ob_some gS)))).2 (rows_apart hCz.ed hCz.st tEI gS (ob_some gS)).symm).trans (hbz.block gS (HC0.out.row_lt (.inr (.inr (ob_some gS)))).2))).trans es
  clear hi0 hz0 hz1 hz2 gz hbz hCz how hgr hpl hbox2 hWz hgr2 hpl2 hcd hpush hl1
  have hgB : ¬ gS = B := HC0.out.row_ne (.inr (.inr (ob_some gS)))
  have hgT : ¬ w.heap.size + 1 + 1 = B := fun e => by have := HCR.out.lt; omega
  have sf : ∀ (a : Addr), a.block ≠ B → (W2.setCell ⟨B, 3, none⟩ (.slice (some ⟨g, 0, none⟩) (E.length + 1) c')).cell? a = W2.cell? a := fun a ha => World.cell?_setCell_far _ _ _ _ (fun e => ha e.symm)
  have n0 := (sf ⟨w.heap.size + 1 + 1, 0, none⟩ hgT).trans m0
  have n1 := (sf ⟨w.heap.size + 1 + 1, 1, none⟩ hgT).trans m1
  have n2 := (sf ⟨w.heap.size + 1 + 1, 2, none⟩ hgT).trans m2
  have ns := (sf ⟨gS, k, none⟩ hgB).trans ms
  have n4 : (W2.setCell ⟨B, 3, none⟩ (.slice (some ⟨g, 0, none⟩) (E.length + 1) c')).cell? ⟨B, 4, none⟩ = some (.slice (some ⟨gS, 0, none⟩) sts.length cS) := (World.cell?_setCell_other _ _ _ _ (by simp)).trans d4
  clear sf
  have k0 : W0.drew.cell? ⟨B, 4, none⟩ = some (.slice (some ⟨gS, 0, none⟩) sts.length cS) ∧ W0.drew.cell? ⟨gS, k, none⟩ = some (.int .i64 ev) ∧ W0.drew.cell? ⟨w.heap.size + 1 + 1, 0, none⟩ = some (.int .i64 low) ∧ W0.drew.cell? ⟨w.heap.size + 1 + 1, 1, none⟩ = some (.int .i64 high) ∧ W0.drew.cell? ⟨w.heap.size + 1 + 1, 2, none⟩ = some (.int .i64 wh) := ⟨b4, es, l0, l1, l2⟩
  have hbm : Below W0.heap.size W0 ((W0.alloc (.cells #[.int .i64 (f : Int), .int .i64 ((k : Int) + 1), .int .i64 ev, .int .i64 wh, .int .i64 low, .int .i64 high] 39)).drew) := below_drew ((Below.refl _ _).alloc (Nat.le_refl _) _)
  have hgS : gS < W0.heap.size := (HC0.out.row_lt (.inr (.inr (ob_some gS)))).2
  have k1 : ((W0.alloc (.cells #[.int .i64 (f : Int), .int .i64 ((k : Int) + 1), .int .i64 ev, .int .i64 wh, .int .i64 low, .int .i64 high] 39)).drew).cell? ⟨B, 4, none⟩ = some (.slice (some ⟨gS, 0, none⟩) sts.length cS) ∧ ((W0.alloc (.cells #[.int .i64 (f : Int), .int .i64 ((k : Int) + 1), .int .i64 ev, .int .i64 wh, .int .i64 low, .int .i64 high] 39)).drew).cell? ⟨gS, k, none⟩ = some (.int .i64 ev) ∧ ((W0.alloc (.cells #[.int .i64 (f : Int), .int .i64 ((k : Int) + 1), .int .i64 ev, .int .i64 wh, .int .i64 low, .int .i64 high] 39)).drew).cell? ⟨w.heap.size + 1 + 1, 0, none⟩ = some (.int .i64 low) ∧ ((W0.alloc (.cells #[.int .i64 (f : Int), .int .i64 ((k : Int) + 1), .int .i64 ev, .int .i64 wh, .int .i64 low, .int .i64 high] 39)).drew).cell? ⟨w.heap.size + 1 + 1, 1, none⟩ = some (.int .i64 high) ∧ ((W0.alloc (.cells #[.int .i64 (f : Int), .int .i64 ((k : Int) + 1), .int .i64 ev, .int .i64 wh, .int .i64 low, .int .i64 high] 39)).drew).cell? ⟨w.heap.size + 1 + 1, 2, none⟩ = some (.int .i64 wh) := ⟨(hbm.cell (p := ⟨B, 4, none⟩) hw2).trans b4, (hbm.cell (p := ⟨gS, k, none⟩) hgS).trans es, (hbm.cell (p := ⟨w.heap.size + 1 + 1, 0, none⟩) hw02).trans l0, (hbm.cell (p := ⟨w.heap.size + 1 + 1, 1, none⟩) hw02).trans l1, (hbm.cell (p := ⟨w.heap.size + 1 + 1, 2, none⟩) hw02).trans l2⟩
  have k2 : W2.cell? ⟨B, 4, none⟩ = some (.slice (some ⟨gS, 0, none⟩) sts.length cS) ∧ W2.cell? ⟨gS, k, none⟩ = some (.int .i64 ev) ∧ W2.cell? ⟨w.heap.size + 1 + 1, 0, none⟩ = some (.int .i64 low) ∧ W2.cell? ⟨w.heap.size + 1 + 1, 1, none⟩ = some (.int .i64 high) ∧ W2.cell? ⟨w.heap.size + 1 + 1, 2, none⟩ = some (.int .i64 wh) := ⟨d4, ms, m0, m1, m2⟩
  have k3 : (W2.setCell ⟨B, 3, none⟩ (.slice (some ⟨g, 0, none⟩) (E.length + 1) c')).cell? ⟨B, 4, none⟩ = some (.slice (some ⟨gS, 0, none⟩) sts.length cS) ∧ (W2.setCell ⟨B, 3, none⟩ (.slice (some ⟨g, 0, none⟩) (E.length + 1) c')).cell? ⟨gS, k, none⟩ = some (.int .i64 ev) ∧ (W2.setCell ⟨B, 3, none⟩ (.slice (some ⟨g, 0, none⟩) (E.length + 1) c')).cell? ⟨w.heap.size + 1 + 1, 0, none⟩ = some (.int .i64 low) ∧ (W2.setCell ⟨B, 3, none⟩ (.slice (some ⟨g, 0, none⟩) (E.length + 1) c')).cell? ⟨w.heap.size + 1 + 1, 1, none⟩ = some (.int .i64 high) ∧ (W2.setCell ⟨B, 3, none⟩ (.slice (some ⟨g, 0, none⟩) (E.length + 1) c')).cell? ⟨w.heap.size + 1 + 1, 2, none⟩ = some (.int .i64 wh) := ⟨n4, ns, n0, n1, n2⟩
  clear hbm n0 n1 n2 ns n4
  refine wp_region_held_drew (S := fun wx => wx.cell? ⟨B, 4, none⟩ = some (.slice (some ⟨gS, 0, none⟩) sts.length cS) ∧ wx.cell? ⟨gS, k, none⟩ = some (.int .i64 ev) ∧ wx.cell? ⟨w.heap.size + 1 + 1, 0, none⟩ = some (.int .i64 low) ∧ wx.cell? ⟨w.heap.size + 1 + 1, 1, none⟩ = some (.int .i64 high) ∧ wx.cell? ⟨w.heap.size + 1 + 1, 2, none⟩ = some (.int .i64 wh)) (by kernel_rfl) k0 (fun hHeld => ?_)
  refine wpAnyH_take (i := 0) (v := ?v0) (by simp only [List.getElem?_toArray, List.getElem?_cons_zero]; rfl) (by kernel_rfl) (by kernel_rfl) (by kernel_rfl) (by exact fun _ _ _ h => h) (Or.inl ⟨by rfl, ?hy0⟩) hHeld ?rest0
  case hy0 =>
    intro w hSw
    try dsimp only at hSw
    go_simp
    try with_reducible rfl
  try simp only [Act.put, List.setIfInBounds_toArray, List.set_cons_zero, List.set_cons_succ]
  refine wpAnyH_take (i := 1) (v := ?v1) (by simp only [List.getElem?_toArray, List.getElem?_cons_succ, List.getElem?_cons_zero]; rfl) (by kernel_rfl) (by kernel_rfl) (by kernel_rfl) (by exact fun _ _ _ h => h) (Or.inl ⟨by rfl, ?hy1⟩) hHeld ?rest1
  case hy1 =>
    intro w hSw
    try dsimp only at hSw
    go_simp
    try with_reducible rfl
  try simp only [Act.put, List.setIfInBounds_toArray, List.set_cons_zero, List.set_cons_succ]
  refine wpAnyH_take (i := 2) (v := ?v2) (by simp only [List.getElem?_toArray, List.getElem?_cons_succ, List.getElem?_cons_zero]; rfl) (by kernel_rfl) (by kernel_rfl) (by kernel_rfl) (by exact fun _ _ _ h => h) (Or.inl ⟨by rfl, ?hy2⟩) hHeld ?rest2
  case hy2 =>
    intro w hSw
    try dsimp only at hSw
    go_simp
    try with_reducible rfl
  try simp only [Act.put, List.setIfInBounds_toArray, List.set_cons_zero, List.set_cons_succ]
  refine wpAnyH_take (i := 3) (v := ?v3) (by simp only [List.getElem?_toArray, List.getElem?_cons_succ, List.getElem?_cons_zero]; rfl) (by kernel_rfl) (by kernel_rfl) (by kernel_rfl) (by exact fun _ _ _ h => h) (Or.inl ⟨by rfl, ?hy3⟩) hHeld ?rest3
  case hy3 =>
    intro w hSw
    try dsimp only at hSw
    go_simp
    try with_reducible rfl
  try simp only [Act.put, List.setIfInBounds_toArray, List.set_cons_zero, List.set_cons_succ]
  refine wpAnyH_take (i := 4) (v := ?v4) (by simp only [List.getElem?_toArray, List.getElem?_cons_succ, List.getElem?_cons_zero]; rfl) (by kernel_rfl) (by kernel_rfl) (by kernel_rfl) (by exact fun _ _ _ h => h) (Or.inl ⟨by rfl, ?hy4⟩) hHeld ?rest4
  case hy4 =>
    intro w hSw
    try dsimp only at hSw
    go_simp
    try with_reducible rfl
  try simp only [Act.put, List.setIfInBounds_toArray, List.set_cons_zero, List.set_cons_succ]
  refine wpAnyH_take (i := 6) (v := ?v6) (by simp only [List.getElem?_toArray, List.getElem?_cons_succ, List.getElem?_cons_zero]; rfl) (by kernel_rfl) (by kernel_rfl) (by kernel_rfl) (by exact fun _ _ _ h => h) (Or.inl ⟨by rfl, ?hy6⟩) hHeld ?rest6
  case hy6 =>
    intro w hSw
    try dsimp only at hSw
    go_simp
    try with_reducible rfl
  try simp only [Act.put, List.setIfInBounds_toArray, List.set_cons_zero, List.set_cons_succ]
  refine wpAnyH_take (i := 7) (v := ?v7) (by simp only [List.getElem?_toArray, List.getElem?_cons_succ, List.getElem?_cons_zero]; rfl) (by kernel_rfl) (by kernel_rfl) (by kernel_rfl) (by exact fun _ _ _ h => h) (Or.inl ⟨by rfl, ?hy7⟩) hHeld ?rest7
  case hy7 =>
    intro w hSw
    try dsimp only at hSw
    go_simp
    try with_reducible rfl
  try simp only [Act.put, List.setIfInBounds_toArray, List.set_cons_zero, List.set_cons_succ]
  refine wpAnyH_take (i := 8) (v := ?v8) (by simp only [List.getElem?_toArray, List.getElem?_cons_succ, List.getElem?_cons_zero]; rfl) (by kernel_rfl) (by kernel_rfl) (by kernel_rfl) (by exact fun _ _ _ h => h) (Or.inl ⟨by rfl, ?hy8⟩) hHeld ?rest8
  case hy8 =>
    intro w hSw
    try dsimp only at hSw
    go_simp
    try with_reducible rfl
  try simp only [Act.put, List.setIfInBounds_toArray, List.set_cons_zero, List.set_cons_succ]
  refine wpAnyH_take (i := 9) (v := ?v9) (by simp only [List.getElem?_toArray, List.getElem?_cons_succ, List.getElem?_cons_zero]; rfl) (by kernel_rfl) (by kernel_rfl) (by kernel_rfl) (by exact fun _ _ _ h => h) (Or.inl ⟨by rfl, ?hy9⟩) hHeld ?rest9
  case hy9 =>
    intro w hSw
    try dsimp only at hSw
    go_simp
    try with_reducible rfl
  try simp only [Act.put, List.setIfInBounds_toArray, List.set_cons_zero, List.set_cons_succ]
  refine wpAnyH_take (i := 10) (v := ?v10) (by simp only [List.getElem?_toArray, List.getElem?_cons_succ, List.getElem?_cons_zero]; rfl) (by kernel_rfl) (by kernel_rfl) (by kernel_rfl) (by exact fun _ _ _ h => h) (Or.inl ⟨by rfl, ?hy10⟩) hHeld ?rest10
  case hy10 =>
    intro w hSw
    try dsimp only at hSw
    go_simp
    try with_reducible rfl
  try simp only [Act.put, List.setIfInBounds_toArray, List.set_cons_zero, List.set_cons_succ]
  refine wpAnyH_take (i := 11) (v := ?v11) (by simp only [List.getElem?_toArray, List.getElem?_cons_succ, List.getElem?_cons_zero]; rfl) (by kernel_rfl) (by kernel_rfl) (by kernel_rfl) (by exact fun _ _ _ h => h) (Or.inl ⟨by rfl, ?hy11⟩) hHeld ?rest11
  case hy11 =>
    intro w hSw
    try dsimp only at hSw
    go_simp
    try with_reducible rfl
  try simp only [Act.put, List.setIfInBounds_toArray, List.set_cons_zero, List.set_cons_succ]
  refine wpAnyH_take (i := 12) (v := ?v12) (by simp only [List.getElem?_toArray, List.getElem?_cons_succ, List.getElem?_cons_zero]; rfl) (by kernel_rfl) (by kernel_rfl) (by kernel_rfl) (by exact fun _ _ _ h => h) (Or.inl ⟨by rfl, ?hy12⟩) hHeld ?rest12
  case hy12 =>
    intro w hSw
    try dsimp only at hSw
    go_simp
    try with_reducible rfl
  try simp only [Act.put, List.setIfInBounds_toArray, List.set_cons_zero, List.set_cons_succ]
  refine wpAnyH_take (i := 13) (v := ?v13) (by simp only [List.getElem?_toArray, List.getElem?_cons_succ, List.getElem?_cons_zero]; rfl) (by kernel_rfl) (by kernel_rfl) (by kernel_rfl) (by exact fun _ _ _ h => h) (Or.inl ⟨by rfl, ?hy13⟩) hHeld ?rest13
  case hy13 =>
    intro w hSw
    try dsimp only at hSw
    go_simp
    try with_reducible rfl
  try simp only [Act.put, List.setIfInBounds_toArray, List.set_cons_zero, List.set_cons_succ]
  refine wpAnyH_take (i := 14) (v := ?v14) (by simp only [List.getElem?_toArray, List.getElem?_cons_succ, List.getElem?_cons_zero]; rfl) (by kernel_rfl) (by kernel_rfl) (by kernel_rfl) (by exact fun _ _ _ h => h) (Or.inl ⟨by rfl, ?hy14⟩) hHeld ?rest14
  case hy14 =>
    intro w hSw
    try dsimp only at hSw
    go_simp
    try with_reducible rfl
  try simp only [Act.put, List.setIfInBounds_toArray, List.set_cons_zero, List.set_cons_succ]
  refine wpAnyH_take (i := 15) (v := ?v15) (by simp only [List.getElem?_toArray, List.getElem?_cons_succ, List.getElem?_cons_zero]; rfl) (by kernel_rfl) (by kernel_rfl) (by kernel_rfl) (by exact fun _ _ _ h => h) (Or.inl ⟨by rfl, ?hy15⟩) hHeld ?rest15
  case hy15 =>
    intro w hSw
    try dsimp only at hSw
    go_simp
    try with_reducible rfl
  try simp only [Act.put, List.setIfInBounds_toArray, List.set_cons_zero, List.set_cons_succ]
  refine wpAnyH_take (i := 16) (v := ?v16) (by simp only [List.getElem?_toArray, List.getElem?_cons_succ, List.getElem?_cons_zero]; rfl) (by kernel_rfl) (by kernel_rfl) (by kernel_rfl) (by exact fun _ _ _ h => h) (Or.inl ⟨by rfl, ?hy16⟩) hHeld ?rest16
  case hy16 =>
    intro w hSw
    try dsimp only at hSw
    go_simp
    try with_reducible rfl
  try simp only [Act.put, List.setIfInBounds_toArray, List.set_cons_zero, List.set_cons_succ]
  refine wpAnyH_take (i := 17) (v := ?v17) (by simp only [List.getElem?_toArray, List.getElem?_cons_succ, List.getElem?_cons_zero]; rfl) (by kernel_rfl) (by kernel_rfl) (by kernel_rfl) (by exact fun _ _ _ h => h) (Or.inl ⟨by rfl, ?hy17⟩) hHeld ?rest17
  case hy17 =>
    intro w hSw
    try dsimp only at hSw
    go_simp
    try with_reducible rfl
  try simp only [Act.put, List.setIfInBounds_toArray, List.set_cons_zero, List.set_cons_succ]
  refine wpAnyH_take (i := 18) (v := ?v18) (by simp only [List.getElem?_toArray, List.getElem?_cons_succ, List.getElem?_cons_zero]; rfl) (by kernel_rfl) (by kernel_rfl) (by kernel_rfl) (by exact fun _ _ _ h => h) (Or.inl ⟨by rfl, ?hy18⟩) hHeld ?rest18
  case hy18 =>
    intro w hSw
    try dsimp only at hSw
    go_simp
    try with_reducible rfl
  try simp only [Act.put, List.setIfInBounds_toArray, List.set_cons_zero, List.set_cons_succ]
  refine wpAnyH_take (i := 19) (v := ?v19) (by simp only [List.getElem?_toArray, List.getElem?_cons_succ, List.getElem?_cons_zero]; rfl) (by kernel_rfl) (by kernel_rfl) (by kernel_rfl) (by exact fun _ _ _ h => h) (Or.inl ⟨by rfl, ?hy19⟩) hHeld ?rest19
  case hy19 =>
    intro w hSw
    try dsimp only at hSw
    go_simp
    try with_reducible rfl
  try simp only [Act.put, List.setIfInBounds_toArray, List.set_cons_zero, List.set_cons_succ]
  refine wpAnyH_take (i := 20) (v := ?v20) (by simp only [List.getElem?_toArray, List.getElem?_cons_succ, List.getElem?_cons_zero]; rfl) (by kernel_rfl) (by kernel_rfl) (by kernel_rfl) (by exact fun _ _ _ h => h) (Or.inl ⟨by rfl, ?hy20⟩) hHeld ?rest20
  case hy20 =>
    intro w hSw
    try dsimp only at hSw
    go_simp
    try with_reducible rfl
  try simp only [Act.put, List.setIfInBounds_toArray, List.set_cons_zero, List.set_cons_succ]
  refine wpAnyH_take (i := 21) (v := ?v21) (by simp only [List.getElem?_toArray, List.getElem?_cons_succ, List.getElem?_cons_zero]; rfl) (by kernel_rfl) (by kernel_rfl) (by kernel_rfl) (by exact fun _ _ _ h => h) (Or.inl ⟨by rfl, ?hy21⟩) hHeld ?rest21
  case hy21 =>
    intro w hSw
    try dsimp only at hSw
    go_simp
    try with_reducible rfl
  try simp only [Act.put, List.setIfInBounds_toArray, List.set_cons_zero, List.set_cons_succ]
  refine wpAnyH_take (i := 22) (v := ?v22) (by simp only [List.getElem?_toArray, List.getElem?_cons_succ, List.getElem?_cons_zero]; rfl) (by kernel_rfl) (by kernel_rfl) (by kernel_rfl) (by exact fun _ _ _ h => h) (Or.inl ⟨by rfl, ?hy22⟩) hHeld ?rest22
  case hy22 =>
    intro w hSw
    try dsimp only at hSw
    go_simp
    try with_reducible rfl
  try simp only [Act.put, List.setIfInBounds_toArray, List.set_cons_zero, List.set_cons_succ]
  refine wpAnyH_ready (rs := [5, 23]) (by kernel_rfl) (by simp) ?_
  refine AllReadyH.cons (o := ?_) (by simp only [List.getElem?_toArray, List.getElem?_cons_succ, List.getElem?_cons_zero]; rfl) (fun K hK => ?b5) ?more
  case b5 =>
    go_simp
    refine hK.out _ _ k0 (fun hHeld => ?_)
    clear hK K
    try simp only [Act.put, List.setIfInBounds_toArray, List.set_cons_zero, List.set_cons_succ]
    refine wpAnyH_ready (rs := [23]) (by kernel_rfl) (by simp) ?_
    refine AllReadyH.cons (o := ?_) (by simp only [List.getElem?_toArray, List.getElem?_cons_succ, List.getElem?_cons_zero]; rfl) (fun K hK => ?_) AllReadyH.nil
    go_simp
    refine hK.out _ _ k1 (fun hHeld => ?_)
    clear hK K
    try simp only [Act.put, List.setIfInBounds_toArray, List.set_cons_zero, List.set_cons_succ]
    refine wpAnyH_ready (rs := [24]) (by kernel_rfl) (by simp) ?_
    refine AllReadyH.cons (o := ?_) (by simp only [List.getElem?_toArray, List.getElem?_cons_succ, List.getElem?_cons_zero]; rfl) (fun K hK => ?_) AllReadyH.nil
    refine step_app_eq rfl (.tmp 31) (.tmp 49) rfl rfl rfl hap2 ?_
    refine hK.out _ _ k2 (fun hHeld => ?_)
    clear hK K
    try simp only [Act.put, List.setIfInBounds_toArray, List.set_cons_zero, List.set_cons_succ]
    refine wpAnyH_take (i := 25) (v := ?v25a) (by simp only [List.getElem?_toArray, List.getElem?_cons_succ, List.getElem?_cons_zero]; rfl) (by kernel_rfl) (by kernel_rfl) (by kernel_rfl) (by exact fun _ _ _ h => h) (Or.inl ⟨by rfl, ?hy25a⟩) hHeld ?rest25a
    case hy25a =>
      intro w hSw
      try dsimp only at hSw
      go_simp
      try with_reducible rfl
    try simp only [Act.put, List.setIfInBounds_toArray, List.set_cons_zero, List.set_cons_succ]
    refine wpAnyH_take (i := 26) (v := ?v26a) (by simp only [List.getElem?_toArray, List.getElem?_cons_succ, List.getElem?_cons_zero]; rfl) (by kernel_rfl) (by kernel_rfl) (by kernel_rfl) (by exact fun _ _ _ h => h) (Or.inl ⟨by rfl, ?hy26a⟩) hHeld ?rest26a
    case hy26a =>
      intro w hSw
      try dsimp only at hSw
      go_simp
      try with_reducible rfl
    try simp only [Act.put, List.setIfInBounds_toArray, List.set_cons_zero, List.set_cons_succ]
    refine wpAnyH_take (i := 27) (v := ?v27a) (by simp only [List.getElem?_toArray, List.getElem?_cons_succ, List.getElem?_cons_zero]; rfl) (by kernel_rfl) (by kernel_rfl) (by kernel_rfl) (by exact fun _ _ _ h => h) (Or.inl ⟨by rfl, ?hy27a⟩) hHeld ?rest27a
    case hy27a =>
      intro w hSw
      try dsimp only at hSw
      go_simp
      try with_reducible rfl
    try simp only [Act.put, List.setIfInBounds_toArray, List.set_cons_zero, List.set_cons_succ]
    refine wpAnyH_ready (rs := [28]) (by kernel_rfl) (by simp) ?_
    refine AllReadyH.cons (o := ?_) (by simp only [List.getElem?_toArray, List.getElem?_cons_succ, List.getElem?_cons_zero]; rfl) (fun K hK => ?_) AllReadyH.nil
    go_simp
    refine hK.out _ _ k3 (fun hHeld => ?_)
    clear hK K
    try simp only [Act.put, List.setIfInBounds_toArray, List.set_cons_zero, List.set_cons_succ]
    refine wpAnyH_done (by kernel_rfl) ?_ _
    clear k0 k1 k2 k3 hap2 m0 m1 m2 ms d0 d1' d2' d3 d4 d5 x0 x1 x2 y0 y1 y2 l0 l1 l2 b0 b1 b2 b3 b4 ep eq es
    go_wp2_with fail
    rw [rounds_succ]
    go_wp2_with fail
    rw [rounds_succ]
    go_wp2_with fail
    go_end0
    exact ⟨rfl, HEA.out⟩
  refine AllReadyH.cons (o := ?_) (by simp only [List.getElem?_toArray, List.getElem?_cons_succ, List.getElem?_cons_zero]; rfl) (fun K hK => ?_) AllReadyH.nil
  go_simp
  refine hK.out _ _ k1 (fun hHeld => ?_)
  clear hK K
  try simp only [Act.put, List.setIfInBounds_toArray, List.set_cons_zero, List.set_cons_succ]
  refine wpAnyH_ready (rs := [5]) (by kernel_rfl) (by simp) ?_
  refine AllReadyH.cons (o := ?_) (by simp only [List.getElem?_toArray, List.getElem?_cons_succ, List.getElem?_cons_zero]; rfl) (fun K hK => ?_) AllReadyH.nil
  go_simp
  refine hK.out _ _ k1 (fun hHeld => ?_)
  clear hK K
  try simp only [Act.put, List.setIfInBounds_toArray, List.set_cons_zero, List.set_cons_succ]
  refine wpAnyH_ready (rs := [24]) (by kernel_rfl) (by simp) ?_
  refine AllReadyH.cons (o := ?_) (by simp only [List.getElem?_toArray, List.getElem?_cons_succ, List.getElem?_cons_zero]; rfl) (fun K hK => ?_) AllReadyH.nil
  refine step_app_eq rfl (.tmp 31) (.tmp 49) rfl rfl rfl hap2 ?_
  refine hK.out _ _ k2 (fun hHeld => ?_)
  clear hK K
  try simp only [Act.put, List.setIfInBounds_toArray, List.set_cons_zero, List.set_cons_succ]
  refine wpAnyH_take (i := 25) (v := ?v25b) (by simp only [List.getElem?_toArray, List.getElem?_cons_succ, List.getElem?_cons_zero]; rfl) (by kernel_rfl) (by kernel_rfl) (by kernel_rfl) (by exact fun _ _ _ h => h) (Or.inl ⟨by rfl, ?hy25b⟩) hHeld ?rest25b
  case hy25b =>
    intro w hSw
    try dsimp only at hSw
    go_simp
    try with_reducible rfl
  try simp only [Act.put, List.setIfInBounds_toArray, List.set_cons_zero, List.set_cons_succ]
  refine wpAnyH_take (i := 26) (v := ?v26b) (by simp only [List.getElem?_toArray, List.getElem?_cons_succ, List.getElem?_cons_zero]; rfl) (by kernel_rfl) (by kernel_rfl) (by kernel_rfl) (by exact fun _ _ _ h => h) (Or.inl ⟨by rfl, ?hy26b⟩) hHeld ?rest26b
  case hy26b =>
    intro w hSw
    try dsimp only at hSw
    go_simp
    try with_reducible rfl
  try simp only [Act.put, List.setIfInBounds_toArray, List.set_cons_zero, List.set_cons_succ]
  refine wpAnyH_take (i := 27) (v := ?v27b) (by simp only [List.getElem?_toArray, List.getElem?_cons_succ, List.getElem?_cons_zero]; rfl) (by kernel_rfl) (by kernel_rfl) (by kernel_rfl) (by exact fun _ _ _ h => h) (Or.inl ⟨by rfl, ?hy27b⟩) hHeld ?rest27b
  case hy27b =>
    intro w hSw
    try dsimp only at hSw
    go_simp
    try with_reducible rfl
  try simp only [Act.put, List.setIfInBounds_toArray, List.set_cons_zero, List.set_cons_succ]
  refine wpAnyH_ready (rs := [28]) (by kernel_rfl) (by simp) ?_
  refine AllReadyH.cons (o := ?_) (by simp only [List.getElem?_toArray, List.getElem?_cons_succ, List.getElem?_cons_zero]; rfl) (fun K hK => ?_) AllReadyH.nil
  go_simp
  refine hK.out _ _ k3 (fun hHeld => ?_)
  clear hK K
  try simp only [Act.put, List.setIfInBounds_toArray, List.set_cons_zero, List.set_cons_succ]
  refine wpAnyH_done (by kernel_rfl) ?_ _
  clear k0 k1 k2 k3 hap2 m0 m1 m2 ms d0 d1' d2' d3 d4 d5 x0 x1 x2 y0 y1 y2 l0 l1 l2 b0 b1 b2 b3 b4 ep eq es
  go_wp2_with fail
  rw [rounds_succ]
  go_wp2_with fail
  rw [rounds_succ]
  go_wp2_with fail
  go_end0
  exact ⟨rfl, HEA.out⟩

end Go.Proofs.YtgobkbjkndfliaaGreatDoor
