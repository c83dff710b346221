/-
  Several texts in one: SortE. Each says at its head what it holds.
-/
import Derived.Test.YtgobkbjkndfliaaGreatDoorAP23
import Derived.Test.YtgobkbjkndfliaaGreatDoorAP21
import Derived.Test.YtgobkbjkndfliaaGreatDoorAP4
import Derived.Test.YtgobkbjkndfliaaGreatDoorShelf
import Derived.Shelf.GgSortFunc.SmallK
import Derived.Lib.OwnBridge
import Derived.Handy
import Derived.Deep.RegionHeld3

/-
  sort.Slice as Compile calls it: a row of edges of the compiler; 'less' lays boxes of its own.
-/
namespace Go.Proofs.YtgobkbjkndfliaaGreatDoor
open Go.Shelf Go.RowKit Go.Lib Go.Sort Go.Joins

instance : Inhabited Edg := ⟨⟨0, 0, 0, 0, 0, 0⟩⟩
theorem flatE_get (d : List Edg) : ∀ t, t < d.length * 6 → (d.flatMap cEdg)[t]? = some ((cEdg d[t / 6]!)[t % 6]!) := by
  induction d with
  | nil => intro t ht; simp at ht
  | cons x r ih =>
    intro t ht
    match t, ht with
    | 0, _ => simp [cEdg]
    | 1, _ => simp [cEdg]
    | 2, _ => simp [cEdg]
    | 3, _ => simp [cEdg]
    | 4, _ => simp [cEdg]
    | 5, _ => simp [cEdg]
    | t + 6, ht =>
      have := ih t (by simp at ht; omega)
      have e1 : (t + 6) / 6 = t / 6 + 1 := by omega
      have e2 : (t + 6) % 6 = t % 6 := by omega
      rw [e1, e2]
      simp only [List.flatMap_cons] at this ⊢
      rw [List.getElem?_append_right (by simp [cEdg])]
      simpa [cEdg] using this
theorem flatE_len (d : List Edg) : (d.flatMap cEdg).length = d.length * 6 := by
  induction d with
  | nil => rfl
  | cons x r ih => rw [List.flatMap_cons, List.length_append, ih, List.length_cons]; simp [cEdg]; omega
theorem flat_encE (d : List Edg) : (flatK cEdg 6 d.toArray).toList = d.flatMap cEdg := by
  apply List.ext_getElem?
  intro t
  by_cases ht : t < d.length * 6
  · rw [flatE_get d t ht]
    have hs : t < (flatK cEdg 6 d.toArray).size := by simpa using ht
    rw [Array.getElem?_toList, Array.getElem?_eq_getElem hs]
    have := get_flatK cEdg 6 d.toArray t (by simpa using ht)
    rw [getElem!_pos _ t hs] at this
    rw [this]
    simp
  · rw [List.getElem?_eq_none (by simp; omega), List.getElem?_eq_none (by rw [flatE_len]; omega)]
theorem holdsE {w : World} {base g cap : Nat} {d : List Edg} (h : w.ownsRow base 39 6 (.slice (some ⟨g, 0, none⟩) d.length cap) d.length (d.flatMap cEdg)) : HoldsK cEdg 6 w g 0 d.toArray := by
  intro j hj
  have hj' : j < d.length * 6 := by simpa using hj
  have hs : (flatK cEdg 6 d.toArray)[j]! = (d.flatMap cEdg)[j]'(by rw [flatE_len]; omega) := by
    rw [getElem!_pos _ j (by simpa using hj), ← Array.getElem_toList (by simpa using hj)]
    simp only [flat_encE]
  constructor
  · rw [Nat.zero_add, h.cellAt j hj', hs, List.getElem?_eq_getElem (by rw [flatE_len]; omega)]
    rfl
  · rw [Nat.zero_add]; exact h.frozenAt j
theorem own_putE {w : World} {base g cap : Nat} {d d' : List Edg} (h : w.ownsRow base 39 6 (.slice (some ⟨g, 0, none⟩) d.length cap) d.length (d.flatMap cEdg)) (hl : d'.length = d.length) :
    (putRowK cEdg 6 w g 0 d'.toArray).ownsRow base 39 6 (.slice (some ⟨g, 0, none⟩) d'.length cap) d'.length (d'.flatMap cEdg) := by
  obtain ⟨_, h2⟩ := h
  refine ⟨flatE_len d', ?_⟩
  rcases h2 with ⟨h3, _⟩ | ⟨g', cap', cur, hv, hb, hg, hn, hm, hs, ht⟩
  · cases h3
  · injection hv with hv1 _ hv3
    injection hv1 with hv1
    injection hv1 with hv1
    subst hv1 hv3
    refine .inr ⟨g, cap, putCells id 0 (flatK cEdg 6 d'.toArray) cur, rfl, hb, ?_, by omega, hm, by simp [putCells, hs], ?_⟩
    · simp only [putRowK, putRow, mapBlock, Array.getElem?_modify, if_true, hg, Option.map_some, onCells]
    · rw [← flat_encE d']
      apply List.ext_getElem?
      intro t
      rw [List.getElem?_take]
      by_cases ht' : t < d'.length * 6
      · rw [if_pos ht', Array.getElem?_toList, Array.getElem?_toList]
        have hc : t < cur.size := by rw [hs]; omega
        simp only [putCells, Array.getElem?_mapIdx]
        rw [Array.getElem?_eq_getElem hc, Option.map_some, if_pos ⟨by omega, by simp; omega⟩, Array.getElem?_eq_getElem (by simp; exact ht')]
        simp only [id, Nat.sub_zero]
        rw [getElem!_pos _ t (by simp; exact ht')]
      · rw [if_neg ht', List.getElem?_eq_none (by simp; omega)]

/-- what stands in memory while the three edges are sorted -/
structure SSt (base Bc B g c : Nat) (w0 : World) (d : List Edg) (w : World) : Prop where
  row : w.ownsRow base 39 6 (.slice (some ⟨g, 0, none⟩) d.length c) d.length (d.flatMap cEdg)
  len : d.length = 3
  cB : w.cell? ⟨B, 3, none⟩ = some (.slice (some ⟨g, 0, none⟩) 3 c)
  cC : w.cell? ⟨Bc, 0, none⟩ = some (.pointer (some ⟨B, 0, none⟩))
  bg : B ≠ g
  cg : Bc ≠ g
  bl : B < w.heap.size
  cl : Bc < w.heap.size
  kp : Kp (fun b => b < w0.heap.size ∧ b ≠ g) w0 w
section
variable {base Bc B g c : Nat} {w0 w w' : World} {d d' : List Edg}
theorem SSt.below (h : SSt base Bc B g c w0 d w) (hb : Below w.heap.size w w') : SSt base Bc B g c w0 d w' :=
  ⟨own_block h.row fun x hx => hb.block x (own_ob h.row x hx).2, h.len, (hb.cell (p := ⟨B, 3, none⟩) h.bl).trans h.cB, (hb.cell (p := ⟨Bc, 0, none⟩) h.cl).trans h.cC, h.bg, h.cg, Nat.lt_of_lt_of_le h.bl hb.size, Nat.lt_of_lt_of_le h.cl hb.size,
    h.kp.trans (Kp.of hb fun _ hb' => Nat.lt_of_lt_of_le hb'.1 h.kp.size)⟩
theorem SSt.self (h : SSt base Bc B g c w0 d w) : SSt base Bc B g c w d w := ⟨h.row, h.len, h.cB, h.cC, h.bg, h.cg, h.bl, h.cl, Kp.refl _ _⟩
theorem SSt.over (h : Kp (fun b => b < w0.heap.size ∧ b ≠ g) w0 w) (k : SSt base Bc B g c w d w') : SSt base Bc B g c w0 d w' :=
  ⟨k.row, k.len, k.cB, k.cC, k.bg, k.cg, k.bl, k.cl, h.trans (k.kp.sub fun _ hb => ⟨Nat.lt_of_lt_of_le hb.1 h.size, hb.2⟩)⟩
theorem SSt.put (h : SSt base Bc B g c w0 d w) (hl : d'.length = d.length) : SSt base Bc B g c w0 d' (putRowK cEdg 6 w g 0 d'.toArray) := by
  have hh : ∀ b, b ≠ g → (putRowK cEdg 6 w g 0 d'.toArray).heap[b]? = w.heap[b]? := fun b hb => by
    simp only [putRowK, putRow, mapBlock, Array.getElem?_modify]
    rw [if_neg (fun e => hb e.symm)]
  have hz : (putRowK cEdg 6 w g 0 d'.toArray).heap.size = w.heap.size := by simp [putRowK, putRow, mapBlock]
  refine ⟨own_putE h.row hl, hl.trans h.len, ?_, ?_, h.bg, h.cg, by rw [hz]; exact h.bl, by rw [hz]; exact h.cl, ?_⟩
  · exact (World.cell?_of_block (a := ⟨B, 3, none⟩) (hh B h.bg)).trans h.cB
  · exact (World.cell?_of_block (a := ⟨Bc, 0, none⟩) (hh Bc h.cg)).trans h.cC
  · exact h.kp.trans ⟨rfl, rfl, rfl, by rw [hz]; exact Nat.le_refl _, fun b hb => hh b hb.2⟩
end

noncomputable def edT : TypeInfo := (Tryz.prog.info? 28).get (by kernel_rfl)
noncomputable def edE : TypeInfo := (Tryz.prog.info? 39).get (by kernel_rfl)
theorem edP : edE.hasPointers = false := by kernel_rfl
theorem edB : edE.bytes = 48 := by kernel_rfl
theorem edK : Lib.swapperK 3 edE 25 = 9 := by
  simp [Lib.swapperK, edP, edB]
/-- the literal that swaps two of the edges -/
theorem swap_run {base Bc B g c : Nat} {w0 w : World} {d : List Edg} (h : SSt base Bc B g c w0 d w) (i j : Nat) (hi : i < 3) (hj : j < 3) (d' : List Edg) (he : (swp d.toArray i j) = d'.toArray) :
    ∃ w', (callFunc 85 (#[.int .i64 i, .int .i64 j] ++ #[.slice (some ⟨g, 0, none⟩) 3 c, typeHandle Tryz.prog 39])).run Tryz.prog w = .ok (.value (.tuple #[])) w' ∧ SSt base Bc B g c w0 d' w' := by
  have hs := swapSwapsK_of_literal (P := Tryz.prog) false 85 (fun args W => run_callFunc_extern Tryz.func85 (by kernel_rfl) (by kernel_rfl) (by kernel_rfl) (e := Extern.ReflectliteSwapper.swap false) (by kernel_rfl) args W)
    39 edE (by kernel_rfl) cEdg 6 (fun _ => rfl) (by kernel_rfl) (fun _ => by kernel_rfl) (fun x v hv => by simp [cEdg] at hv; rcases hv with rfl | rfl | rfl | rfl | rfl | rfl <;> rfl) g 0 3 c
  have hH := holdsE h.row
  have hr := hs w d.toArray hH (by simpa using h.len) i j hi hj
  have hw := swap_worldK cEdg 6 (fun _ => rfl) w 0 0 g 0 d.toArray i j (by simpa using (by rw [h.len]; exact hi)) (by simpa using (by rw [h.len]; exact hj))
  rw [ahead_zero, putRowK_self _ _ _ _ _ _ hH] at hw
  refine ⟨_, hr, ?_⟩
  have e0 : (w.drewN 0) = w := rfl
  rw [e0] at hw
  rw [hw, he]
  have hl : d'.length = d.length := by
    have := congrArg Array.size he
    simpa [swp] using this.symm
  exact h.put hl

theorem six {w : World} {N : Nat} {a b c d e f : Value} {t : TypeId} (h : w.heap[N]? = some (.cells #[a, b, c, d, e, f] t (0, 0))) : w.cell? ⟨N, 0, none⟩ = some a ∧ w.cell? ⟨N, 1, none⟩ = some b ∧ w.cell? ⟨N, 2, none⟩ = some c ∧ w.cell? ⟨N, 3, none⟩ = some d ∧ w.cell? ⟨N, 4, none⟩ = some e ∧ w.cell? ⟨N, 5, none⟩ = some f := by
  refine ⟨?_, ?_, ?_, ?_, ?_, ?_⟩ <;> (rw [cell_of_row w N _ _ t (0, 0) h]; rfl)
theorem bel_alloc {a b : World} (o : Obj) (h : Below a.heap.size a b) : Below a.heap.size a (b.alloc o) := h.alloc h.size _
set_option maxRecDepth 100000 in
set_option maxHeartbeats 4000000 in
/-- 'less' of two of the edges -/
theorem less_edge {base Bc B g c : Nat} {w0 w : World} {d : List Edg} (h : SSt base Bc B g c w0 d w) (i j : Nat) (hi : i < 3) (hj : j < 3) :
    Calls Tryz.prog 38 #[.int .i64 i, .int .i64 j, .pointer (some ⟨Bc, 0, none⟩)] w fun e w' => e = .returned (.bool (ordB d[i]! d[j]!)) ∧ SSt base Bc B g c w0 d w' := by
  have hH := holdsE h.row
  have hz : d.toArray.size = 3 := by simpa using h.len
  have i0 := (hH.cell (i := i) (c := 0) (by omega) (by omega)).1
  have i1 := (hH.cell (i := i) (c := 1) (by omega) (by omega)).1
  have i2 := (hH.cell (i := i) (c := 2) (by omega) (by omega)).1
  have i3 := (hH.cell (i := i) (c := 3) (by omega) (by omega)).1
  have i4 := (hH.cell (i := i) (c := 4) (by omega) (by omega)).1
  have i5 := (hH.cell (i := i) (c := 5) (by omega) (by omega)).1
  have j0 := (hH.cell (i := j) (c := 0) (by omega) (by omega)).1
  have j1 := (hH.cell (i := j) (c := 1) (by omega) (by omega)).1
  have j2 := (hH.cell (i := j) (c := 2) (by omega) (by omega)).1
  have j3 := (hH.cell (i := j) (c := 3) (by omega) (by omega)).1
  have j4 := (hH.cell (i := j) (c := 4) (by omega) (by omega)).1
  have j5 := (hH.cell (i := j) (c := 5) (by omega) (by omega)).1
  have ei : d.toArray[i]! = d[i]! := by simp
  have ej : d.toArray[j]! = d[j]! := by simp
  rw [ei] at i0 i1 i2 i3 i4 i5
  rw [ej] at j0 j1 j2 j3 j4 j5
  generalize d[i]! = x at *
  generalize d[j]! = y at *
  obtain ⟨x0, x1, x2, x3, x4, x5⟩ := x
  obtain ⟨y0, y1, y2, y3, y4, y5⟩ := y
  simp [cEdg] at i0 i1 i2 i3 i4 i5 j0 j1 j2 j3 j4 j5
  have cB := h.cB
  have cC := h.cC
  have HH := hide h
  clear h hH hz ei ej
  go_enter Tryz.func38, Tryz.ntmps38
  have hgl : g < w.heap.size := (own_ob HH.out.row g (ob_some g)).2
  have hBl := HH.out.bl
  have hCl := HH.out.cl
  have KC := hide (show ∀ wx, Below w.heap.size w wx → (wx.cell? ⟨g, i * 6, none⟩ = some (.int .i64 x0) ∧ wx.cell? ⟨g, i * 6 + 1, none⟩ = some (.int .i64 x1) ∧ wx.cell? ⟨g, i * 6 + 2, none⟩ = some (.int .i64 x2) ∧ wx.cell? ⟨g, i * 6 + 3, none⟩ = some (.int .i64 x3) ∧ wx.cell? ⟨g, i * 6 + 4, none⟩ = some (.int .i64 x4) ∧ wx.cell? ⟨g, i * 6 + 5, none⟩ = some (.int .i64 x5) ∧ wx.cell? ⟨g, j * 6, none⟩ = some (.int .i64 y0) ∧ wx.cell? ⟨g, j * 6 + 1, none⟩ = some (.int .i64 y1) ∧ wx.cell? ⟨g, j * 6 + 2, none⟩ = some (.int .i64 y2) ∧ wx.cell? ⟨g, j * 6 + 3, none⟩ = some (.int .i64 y3) ∧ wx.cell? ⟨g, j * 6 + 4, none⟩ = some (.int .i64 y4) ∧ wx.cell? ⟨g, j * 6 + 5, none⟩ = some (.int .i64 y5) ∧ wx.cell? ⟨B, 3, none⟩ = some (.slice (some ⟨g, 0, none⟩) 3 c) ∧ wx.cell? ⟨Bc, 0, none⟩ = some (.pointer (some ⟨B, 0, none⟩)) ∧ Below w.heap.size w wx) from fun wx hb => ⟨(hb.cell (p := ⟨g, i * 6, none⟩) hgl).trans i0, (hb.cell (p := ⟨g, i * 6 + 1, none⟩) hgl).trans i1, (hb.cell (p := ⟨g, i * 6 + 2, none⟩) hgl).trans i2, (hb.cell (p := ⟨g, i * 6 + 3, none⟩) hgl).trans i3, (hb.cell (p := ⟨g, i * 6 + 4, none⟩) hgl).trans i4, (hb.cell (p := ⟨g, i * 6 + 5, none⟩) hgl).trans i5, (hb.cell (p := ⟨g, j * 6, none⟩) hgl).trans j0, (hb.cell (p := ⟨g, j * 6 + 1, none⟩) hgl).trans j1, (hb.cell (p := ⟨g, j * 6 + 2, none⟩) hgl).trans j2, (hb.cell (p := ⟨g, j * 6 + 3, none⟩) hgl).trans j3, (hb.cell (p := ⟨g, j * 6 + 4, none⟩) hgl).trans j4, (hb.cell (p := ⟨g, j * 6 + 5, none⟩) hgl).trans j5, (hb.cell (p := ⟨B, 3, none⟩) hBl).trans cB, (hb.cell (p := ⟨Bc, 0, none⟩) hCl).trans cC, hb⟩)
  have hi1 : (i : Int) < 3 := by omega
  have hi2 : (0 : Int) ≤ (i : Int) := by omega
  have hj1 : (j : Int) < 3 := by omega
  have hj2 : (0 : Int) ≤ (j : Int) := by omega
  have k0 := KC.out w.drew (below_drew (Below.refl _ _))
  clear i0 i1 i2 i3 i4 i5 j0 j1 j2 j3 j4 j5 cB cC hgl hBl hCl
  go_upto_region 1 with (fail)
  go_cut [6, 7] (fun a b wx => ∃ P Q : Nat, a = .pointer (some ⟨P, 0, none⟩) ∧ b = .pointer (some ⟨Q, 0, none⟩) ∧ wx.heap[P]? = some (.cells #[.int .i64 x0, .int .i64 x1, .int .i64 x2, .int .i64 x3, .int .i64 x4, .int .i64 x5] 39 (0, 0)) ∧ wx.heap[Q]? = some (.cells #[.int .i64 y0, .int .i64 y1, .int .i64 y2, .int .i64 y3, .int .i64 y4, .int .i64 y5] 39 (0, 0)) ∧ Below w.heap.size w wx)
  case first =>
    go_region_held3 (fun wx => wx.cell? ⟨g, i * 6, none⟩ = some (.int .i64 x0) ∧ wx.cell? ⟨g, i * 6 + 1, none⟩ = some (.int .i64 x1) ∧ wx.cell? ⟨g, i * 6 + 2, none⟩ = some (.int .i64 x2) ∧ wx.cell? ⟨g, i * 6 + 3, none⟩ = some (.int .i64 x3) ∧ wx.cell? ⟨g, i * 6 + 4, none⟩ = some (.int .i64 x4) ∧ wx.cell? ⟨g, i * 6 + 5, none⟩ = some (.int .i64 x5) ∧ wx.cell? ⟨g, j * 6, none⟩ = some (.int .i64 y0) ∧ wx.cell? ⟨g, j * 6 + 1, none⟩ = some (.int .i64 y1) ∧ wx.cell? ⟨g, j * 6 + 2, none⟩ = some (.int .i64 y2) ∧ wx.cell? ⟨g, j * 6 + 3, none⟩ = some (.int .i64 y3) ∧ wx.cell? ⟨g, j * 6 + 4, none⟩ = some (.int .i64 y4) ∧ wx.cell? ⟨g, j * 6 + 5, none⟩ = some (.int .i64 y5) ∧ wx.cell? ⟨B, 3, none⟩ = some (.slice (some ⟨g, 0, none⟩) 3 c) ∧ wx.cell? ⟨Bc, 0, none⟩ = some (.pointer (some ⟨B, 0, none⟩)) ∧ Below w.heap.size w wx)
      (first | (with_reducible assumption) | (exact KC.out _ (by repeat' (first | (with_reducible exact (Below.refl _ _)) | (with_reducible refine below_drew ?_) | (with_reducible refine bel_alloc _ ?_)))))
      (fail)
    all_goals go_wp2_with fail
    all_goals go_meet
    all_goals first
      | exact ⟨_, _, rfl, rfl, (chain2 w _ _ rfl).1, (chain2 w _ _ rfl).2.1, below_drew (chain2 w _ _ rfl).2.2.1⟩
      | exact ⟨_, _, rfl, rfl, (chain2 w _ _ rfl).2.1, (chain2 w _ _ rfl).1, below_drew (chain2 w _ _ rfl).2.2.1⟩
  case rest =>
    obtain ⟨P, Q, rfl, rfl, hP, hQ, hb⟩ := hcut
    have HB := hide hb
    clear hb k0
    obtain ⟨p0, p1, p2, p3, p4, p5⟩ := six hP
    obtain ⟨q0, q1, q2, q3, q4, q5⟩ := six hQ
    have HE := hide (show ordB ⟨x0, x1, x2, x3, x4, x5⟩ ⟨y0, y1, y2, y3, y4, y5⟩ = decide (x0 < y0 ∨ (x0 = y0 ∧ x1 < y1)) from rfl)
    clear hP hQ
    by_cases c1 : x0 < y0
    · have T1 : decide (x0 < y0) = true := decide_eq_true c1
      have HR := hide (HE.out.trans (decide_eq_true (Or.inl c1)))
      clear c1
      go_wp2_with fail
      go_ret
      exact ⟨by rw [HR.out]; rfl, HH.out.below HB.out⟩
    · have T1 : decide (x0 < y0) = false := decide_eq_false c1
      by_cases c2 : x0 = y0
      · have T2 : (x0 == y0) = true := by simp [c2]
        by_cases c3 : x1 < y1
        · have T3 : decide (x1 < y1) = true := decide_eq_true c3
          have HR := hide (HE.out.trans (decide_eq_true (Or.inr ⟨c2, c3⟩)))
          clear c1 c2 c3
          go_wp2_with fail
          go_ret
          exact ⟨by rw [HR.out]; rfl, HH.out.below HB.out⟩
        · have T3 : decide (x1 < y1) = false := decide_eq_false c3
          have HR := hide (HE.out.trans (decide_eq_false (fun h => h.elim c1 fun h => c3 h.2)))
          clear c1 c2 c3
          go_wp2_with fail
          go_ret
          exact ⟨by rw [HR.out]; rfl, HH.out.below HB.out⟩
      · have T2 : (x0 == y0) = false := by simp [c2]
        have HR := hide (HE.out.trans (decide_eq_false (fun h => h.elim c1 fun h => c2 h.1)))
        clear c1 c2
        go_wp2_with fail
        go_ret
        exact ⟨by rw [HR.out]; rfl, HH.out.below HB.out⟩

theorem box2c {w : World} {N : Nat} {a b : Value} {t : TypeId} (h : w.heap[N]? = some (.cells #[a, b] t (0, 0))) : w.cell? ⟨N, 0, none⟩ = some a ∧ w.cell? ⟨N, 1, none⟩ = some b := by
  refine ⟨?_, ?_⟩ <;> (rw [cell_of_row w N _ _ t (0, 0) h]; rfl)
theorem less_true {base Bc B g c : Nat} {w0 w : World} {d : List Edg} (h : SSt base Bc B g c w0 d w) (i j : Nat) (hi : i < 3) (hj : j < 3) (ho : ordB d[i]! d[j]! = true) (x y : Int) (hx : x = (i : Int)) (hy : y = (j : Int)) :
    Calls Tryz.prog 38 #[.int .i64 x, .int .i64 y, .pointer (some ⟨Bc, 0, none⟩)] w fun e w' => e = .returned (.bool true) ∧ SSt base Bc B g c w0 d w' := by
  subst hx hy
  refine (less_edge h i j hi hj).mono ?_
  rintro e w' ⟨he, hs⟩
  rw [ho] at he
  exact ⟨he, hs⟩
/-- what the literal that swaps does -/
def SwapOk (base Bc B g c : Nat) (w0 : World) (th : Value) : Prop := ∀ (w : World) (d d' : List Edg) (i j : Nat), SSt base Bc B g c w0 d w → i < 3 → j < 3 → swp d.toArray i j = d'.toArray → ∀ x y : Int, x = (i : Int) → y = (j : Int) → ∃ w', (callFunc 85 #[.int .i64 x, .int .i64 y, .slice (some ⟨g, 0, none⟩) 3 c, th]).run Tryz.prog w = .ok (.value (.tuple #[])) w' ∧ SSt base Bc B g c w0 d' w'

set_option maxRecDepth 100000 in
set_option maxHeartbeats 4000000 in
/-- insertion sort of three edges, each less than the ones ahead of it -/
theorem ins_three {base Bc B g c : Nat} {w : World} {a b e : Edg} (h : SSt base Bc B g c w [a, b, e] w) (h1 : ordB b a = true) (h2 : ordB e a = true) (h3 : ordB e b = true) (th : Value) (hsw : ∀ w0, SwapOk base Bc B g c w0 th) :
    Calls Tryz.prog 88 #[.agg #[.func (.func 38) #[] #[.pointer (some ⟨Bc, 0, none⟩)], .func (.func 85) #[] #[.slice (some ⟨g, 0, none⟩) 3 c, th]], .int .i64 0, .int .i64 3] w fun r w' => r = .returned (.tuple #[]) ∧ SSt base Bc B g c w [e, b, a] w' := by
  have hgl := (own_ob h.row g (ob_some g)).2
  go_enter Tryz.func88, Tryz.ntmps88
  go_upto_region 1 with (fail)
  obtain ⟨W0, hW0⟩ : ∃ W0, w.alloc (.cells #[.func (.func 38) #[] #[.pointer (some ⟨Bc, 0, none⟩)], .func (.func 85) #[] #[.slice (some ⟨g, 0, none⟩) 3 c, th]] 105) = W0 := ⟨_, rfl⟩
  rw [hW0]
  have gN := new_at hW0
  have hb0 : Below w.heap.size w W0 := by rw [← hW0]; exact (Below.refl _ _).alloc (Nat.le_refl _) _
  have S0 := hide ((h.below hb0).self)
  have HKW := hide (show Kp (fun b => b < w.heap.size ∧ b ≠ g) w W0 from Kp.of hb0 fun b hb => hb.1)
  have HSW := hide (hsw W0)
  have HGN := hide gN
  have HNG := hide (show w.heap.size < W0.heap.size ∧ w.heap.size ≠ g from ⟨box_lt gN, by omega⟩)
  have HO1 := hide h1
  have HO2 := hide h2
  have HO3 := hide h3
  clear h hb0 hW0 hsw gN hgl h1 h2 h3
  have BX := fun (d : List Edg) (wx : World) (hs : SSt base Bc B g c W0 d wx) => (hs.kp.block w.heap.size HNG.out).trans HGN.out
  have HBX := hide BX
  clear BX
  obtain ⟨f0, f1⟩ := box2c HGN.out
  go_wp2_with fail
  refine wp_loop_rounds 3 ?_
  rw [rounds_succ]
  go_wp2_with fail
  refine wp_loop_rounds 2 ?_
  rw [rounds_succ]
  go_upto_region 7 with
    (go_at_call 38
     refine (less_true S0.out 1 0 (by omega) (by omega) HO1.out 1 0 rfl rfl).mono ?_
     rintro r w1 ⟨rfl, hs⟩
     have S1 := hide hs
     clear hs)
  clear f0 f1
  obtain ⟨f0, f1⟩ := box2c (HBX.out _ _ S1.out)
  obtain ⟨w2, hq, hs⟩ := HSW.out _ _ [b, a, e] 1 0 S1.out (by omega) (by omega) (by rfl) 1 0 rfl rfl
  have S2 := hide hs
  clear hs
  go_wp2_with fail
  clear f0 f1 hq
  obtain ⟨f0, f1⟩ := box2c (HBX.out _ _ S2.out)
  rw [rounds_succ]
  go_wp2_with fail
  rw [rounds_succ]
  go_wp2_with fail
  refine wp_loop_rounds 3 ?_
  rw [rounds_succ]
  go_upto_region 7 with
    (go_at_call 38
     refine (less_true S2.out 2 1 (by omega) (by omega) HO2.out 2 1 rfl rfl).mono ?_
     rintro r w3 ⟨rfl, hs⟩
     have S3 := hide hs
     clear hs)
  clear f0 f1
  obtain ⟨f0, f1⟩ := box2c (HBX.out _ _ S3.out)
  obtain ⟨w4, hq, hs⟩ := HSW.out _ _ [b, e, a] 2 1 S3.out (by omega) (by omega) (by rfl) 2 1 rfl rfl
  have S4 := hide hs
  clear hs
  go_wp2_with fail
  clear f0 f1 hq
  obtain ⟨f0, f1⟩ := box2c (HBX.out _ _ S4.out)
  rw [rounds_succ]
  go_upto_region 7 with
    (go_at_call 38
     refine (less_true S4.out 1 0 (by omega) (by omega) HO3.out 1 0 rfl rfl).mono ?_
     rintro r w5 ⟨rfl, hs⟩
     have S5 := hide hs
     clear hs)
  clear f0 f1
  obtain ⟨f0, f1⟩ := box2c (HBX.out _ _ S5.out)
  obtain ⟨w6, hq, hs⟩ := HSW.out _ _ [e, b, a] 1 0 S5.out (by omega) (by omega) (by rfl) 1 0 rfl rfl
  have S6 := hide hs
  clear hs
  go_wp2_with fail
  clear f0 f1 hq
  obtain ⟨f0, f1⟩ := box2c (HBX.out _ _ S6.out)
  rw [rounds_succ]
  go_wp2_with fail
  rw [rounds_succ]
  go_wp2_with fail
  go_end0
  exact ⟨rfl, SSt.over HKW.out S6.out⟩

set_option maxRecDepth 100000 in
set_option maxHeartbeats 4000000 in
theorem pdq_three {base Bc B g c : Nat} {w : World} {a b e : Edg} (h : SSt base Bc B g c w [a, b, e] w) (h1 : ordB b a = true) (h2 : ordB e a = true) (h3 : ordB e b = true) (th : Value) (lim : Int) (hsw : ∀ w0, SwapOk base Bc B g c w0 th) :
    Calls Tryz.prog 66 #[.agg #[.func (.func 38) #[] #[.pointer (some ⟨Bc, 0, none⟩)], .func (.func 85) #[] #[.slice (some ⟨g, 0, none⟩) 3 c, th]], .int .i64 0, .int .i64 3, .int .i64 lim] w fun r w' => r = .returned (.tuple #[]) ∧ SSt base Bc B g c w [e, b, a] w' := by
  have hgl := (own_ob h.row g (ob_some g)).2
  go_enter Tryz.func66, Tryz.ntmps66
  go_upto_region 1 with (fail)
  obtain ⟨W0, hW0⟩ : ∃ W0, w.alloc (.cells #[.func (.func 38) #[] #[.pointer (some ⟨Bc, 0, none⟩)], .func (.func 85) #[] #[.slice (some ⟨g, 0, none⟩) 3 c, th]] 105) = W0 := ⟨_, rfl⟩
  rw [hW0]
  have gN := new_at hW0
  have hb0 : Below w.heap.size w W0 := by rw [← hW0]; exact (Below.refl _ _).alloc (Nat.le_refl _) _
  have S0 := hide ((h.below hb0).self)
  have HKW := hide (show Kp (fun b => b < w.heap.size ∧ b ≠ g) w W0 from Kp.of hb0 fun b hb => hb.1)
  have HIN := hide (ins_three S0.out h1 h2 h3 th hsw)
  obtain ⟨f0, f1⟩ := box2c gN
  clear h hb0 hW0 hsw gN hgl h1 h2 h3
  go_wp2_with fail
  refine wp_loop_rounds 1 ?_
  rw [rounds_succ]
  go_wp2_with
    (go_at_call 88
     refine HIN.out.mono ?_
     rintro r w1 ⟨rfl, hs⟩
     have S1 := hide hs
     clear hs)
  refine bodyPost_ret (results_none rfl _ _ _) rfl ?_
  exact ⟨rfl, SSt.over HKW.out S1.out⟩
theorem swap_ok (base Bc B g c : Nat) (w0 : World) : SwapOk base Bc B g c w0 (typeHandle Tryz.prog 39) := fun w d d' i j h hi hj he x y hx hy => by
  subst hx hy
  exact swap_run h i j hi hj d' he
/-- sort.Slice as Compile calls it, at three edges -/
theorem sort_three {base Bc B g c : Nat} {w : World} {a b e : Edg} (h : SSt base Bc B g c w [a, b, e] w) (h1 : ordB b a = true) (h2 : ordB e a = true) (h3 : ordB e b = true) :
    Calls Tryz.prog 37 #[.iface 28 (.slice (some ⟨g, 0, none⟩) 3 c), .func (.func 38) #[] #[.pointer (some ⟨Bc, 0, none⟩)]] w fun r w' => r = .returned (.tuple #[]) ∧ SSt base Bc B g c w [e, b, a] w' := by
  refine Any.sort_Slice_of_pdq Tryz.laysGg6 28 39 edT edE (by kernel_rfl) (by kernel_rfl) (by kernel_rfl) (by kernel_rfl) 25 (fun _ => by kernel_rfl) (some ⟨g, 0, none⟩) 3 c (by omega) 85 (by rw [edK]; kernel_rfl) (.func 38) #[] #[.pointer (some ⟨Bc, 0, none⟩)] w _ ?_
  have hB : sliceBound Tryz.prog 39 edE 25 (some ⟨g, 0, none⟩) 3 c = #[.slice (some ⟨g, 0, none⟩) 3 c, typeHandle Tryz.prog 39] := by
    unfold sliceBound; rw [edK]; rfl
  rw [hB]
  have hbw : Below w.heap.size w (sliceWorld Tryz.prog Tryz.laysGg6_ren 28 (some ⟨g, 0, none⟩) 3 c w) := by
    unfold sliceWorld
    exact ((Below.refl _ _).alloc (Nat.le_refl _) _).alloc (by simp) _
  generalize sliceWorld Tryz.prog Tryz.laysGg6_ren 28 (some ⟨g, 0, none⟩) 3 c w = W at *
  refine (pdq_three (w := W) ((h.below hbw).self) h1 h2 h3 _ _ (fun w0 => swap_ok base Bc B g c w0)).mono ?_
  rintro r w' ⟨hr, hs⟩
  exact ⟨hr, SSt.over (Kp.of hbw fun b hb => hb.1) hs⟩

end Go.Proofs.YtgobkbjkndfliaaGreatDoor
