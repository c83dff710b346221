/-
  Several texts in one: Awake54. Each says at its head what it holds.
-/
import Derived.Test.YtgobkbjkndfliaaGreatDoorAP36
import Derived.Test.YtgobkbjkndfliaaGreatDoorAP19

/-
  wavestorelaw54's example: true.
-/
namespace Go.Proofs.YtgobkbjkndfliaaGreatDoor
open Go.RowKit

theorem row_one {w : World} {b : Nat} {n : Nd} {t : TypeId} (h : w.heap[b]? = some (.cells (cNd n).toArray t (0, 0))) : Row w (Lo w.heap.size) 9 cNd (some ⟨b, 0, none⟩) [n] := fun _ => by
  refine ⟨b, 0, rfl, box_lt h, fun i x hi j hj => ?_⟩
  have hl : i < 1 := (List.getElem?_eq_some_iff.1 hi).1
  have : i = 0 := by omega
  subst this
  injection hi with hi
  subst hi
  rw [cell_of_row w b _ _ t (0, 0) h]
  simp
theorem row_two {w : World} {b : Nat} {n m : Nd} {t : TypeId} (h : w.heap[b]? = some (.cells (cNd n ++ cNd m).toArray t (0, 0))) : Row w (Lo w.heap.size) 9 cNd (some ⟨b, 0, none⟩) [n, m] := fun _ => by
  refine ⟨b, 0, rfl, box_lt h, fun i x hi j hj => ?_⟩
  have hl : i < 2 := (List.getElem?_eq_some_iff.1 hi).1
  have hn : (cNd n).length = 9 := by cases n; rfl
  rw [cell_of_row w b _ _ t (0, 0) h, List.getElem?_toArray]
  rcases i with _ | _ | i
  · injection hi with hi
    subst hi
    rw [List.getElem?_append_left (by omega)]
    simp
  · injection hi with hi
    subst hi
    rw [List.getElem?_append_right (by omega)]
    congr 1
    omega
  · omega
/-- the ways of the example -/
theorem way3 {f : Edg → Int} {t c : Int} (h : Way exE f 3 t c) : t = 3 ∧ c = 0 := by
  rcases h.front with ⟨h1, h2⟩ | ⟨e, c', h1, h2, _⟩
  · exact ⟨h1.symm, h2⟩
  · simp [exE] at h1
    rcases h1 with rfl | rfl | rfl <;> simp at h2
theorem way2 {f : Edg → Int} {t c : Int} (h : Way exE f 2 t c) : (t = 2 ∧ c = 0) ∨ (t = 3 ∧ c = f ⟨2, 3, 1, -1, 0, 3⟩) := by
  rcases h.front with ⟨h1, h2⟩ | ⟨e, c', h1, h2, h3, h4⟩
  · exact .inl ⟨h1.symm, h2⟩
  · simp [exE] at h1
    rcases h1 with rfl | rfl | rfl
    · simp at h2
    · simp at h2
    · obtain ⟨h5, h6⟩ := way3 h3
      exact .inr ⟨h5, by omega⟩
theorem way1 {f : Edg → Int} {t c : Int} (h : Way exE f 1 t c) : (t = 1 ∧ c = 0) ∨ (t = 2 ∧ c = f ⟨1, 2, 1, -1, 1, 5⟩) ∨ (t = 3 ∧ c = f ⟨1, 2, 1, -1, 1, 5⟩ + f ⟨2, 3, 1, -1, 0, 3⟩) := by
  rcases h.front with ⟨h1, h2⟩ | ⟨e, c', h1, h2, h3, h4⟩
  · exact .inl ⟨h1.symm, h2⟩
  · simp [exE] at h1
    rcases h1 with rfl | rfl | rfl
    · simp at h2
    · rcases way2 h3 with ⟨h5, h6⟩ | ⟨h5, h6⟩
      · exact .inr (.inl ⟨h5, by omega⟩)
      · exact .inr (.inr ⟨h5, by omega⟩)
    · simp at h2
theorem way0 {f : Edg → Int} {t c : Int} (h : Way exE f 0 t c) : (t = 0 ∧ c = 0) ∨ (t = 1 ∧ c = f ⟨0, 1, 0, -1, 0, 0⟩) ∨ (t = 2 ∧ c = f ⟨0, 1, 0, -1, 0, 0⟩ + f ⟨1, 2, 1, -1, 1, 5⟩) ∨ (t = 3 ∧ c = f ⟨0, 1, 0, -1, 0, 0⟩ + f ⟨1, 2, 1, -1, 1, 5⟩ + f ⟨2, 3, 1, -1, 0, 3⟩) := by
  rcases h.front with ⟨h1, h2⟩ | ⟨e, c', h1, h2, h3, h4⟩
  · exact .inl ⟨h1.symm, h2⟩
  · simp [exE] at h1
    rcases h1 with rfl | rfl | rfl
    · rcases way1 h3 with ⟨h5, h6⟩ | ⟨h5, h6⟩ | ⟨h5, h6⟩
      · exact .inr (.inl ⟨h5, by omega⟩)
      · exact .inr (.inr (.inl ⟨h5, by omega⟩))
      · exact .inr (.inr (.inr ⟨h5, by omega⟩))
    · simp at h2
    · simp at h2
theorem way_to2 (f : Edg → Int) : Way exE f 0 2 (f ⟨0, 1, 0, -1, 0, 0⟩ + (f ⟨1, 2, 1, -1, 1, 5⟩ + 0)) := .cons ⟨0, 1, 0, -1, 0, 0⟩ _ _ (by simp [exE]) (.cons ⟨1, 2, 1, -1, 1, 5⟩ _ _ (by simp [exE]) (.nil 2))
theorem way_to3 (f : Edg → Int) : Way exE f 0 3 (f ⟨0, 1, 0, -1, 0, 0⟩ + (f ⟨1, 2, 1, -1, 1, 5⟩ + (f ⟨2, 3, 1, -1, 0, 3⟩ + 0))) := .cons ⟨0, 1, 0, -1, 0, 0⟩ _ _ (by simp [exE]) (.cons ⟨1, 2, 1, -1, 1, 5⟩ _ _ (by simp [exE]) (.cons ⟨2, 3, 1, -1, 0, 3⟩ _ _ (by simp [exE]) (.nil 3)))
theorem back_ex {f : Edg → Int} {c : Int} (h : BackS exE [false, false, true, true] f 0 c) : c = f ⟨0, 1, 0, -1, 0, 0⟩ + f ⟨1, 2, 1, -1, 1, 5⟩ ∨ c = f ⟨0, 1, 0, -1, 0, 0⟩ + f ⟨1, 2, 1, -1, 1, 5⟩ + f ⟨2, 3, 1, -1, 0, 3⟩ := by
  obtain ⟨t, h1, h2⟩ := h
  rcases way0 h2 with ⟨rfl, _⟩ | ⟨rfl, _⟩ | ⟨rfl, h3⟩ | ⟨rfl, h3⟩
  · exact absurd h1 (by unfold FinT; decide)
  · exact absurd h1 (by unfold FinT; decide)
  · exact .inl h3
  · exact .inr h3
theorem len_ex : LenOf exE [false, false, true, true] 1 8 := by
  refine ⟨true, fun _ => ⟨⟨⟨2, by unfold FinT; decide, ?_⟩, fun t ht => ?_⟩, ⟨⟨3, by unfold FinT; decide, ?_⟩, fun t ht => ?_⟩⟩, fun e => by cases e⟩
  · exact way_to2 Edg.low
  · rcases back_ex ht with h | h <;> (dsimp only at h; omega)
  · exact way_to3 Edg.high
  · rcases back_ex ht with h | h <;> (dsimp only at h; omega)

set_option maxRecDepth 100000 in
set_option maxHeartbeats 8000000 in
theorem awake54 : Awake54 := fun w => by
  go_enter Tryz.func10, Tryz.ntmps10
  go_upto_region 2 with (fail)
  obtain ⟨W0, hW0⟩ : ∃ W0, w.alloc (.cells #[.int .i64 1, .int .i64 0, .string { data := #[] }, .string { data := #[] }, .int .i64 0, .int .i64 1, .int .i64 0, .int .i64 0, .slice none 0 0] 24) = W0 := ⟨_, rfl⟩
  rw [hW0]
  have g0 := new_at hW0
  have hb0 : Below w.heap.size w W0 := by rw [← hW0]; exact (Below.refl _ _).alloc (Nat.le_refl _) _
  have hl := box_lt g0
  have HB0 := hide hb0
  obtain ⟨y0, y1, y2, y3, y4, y5, y6, y7, y8⟩ := box9 g0
  have KC := hide (show ∀ wx, Below W0.heap.size W0 wx → (wx.cell? ⟨w.heap.size, 0, none⟩ = some (.int .i64 1) ∧ wx.cell? ⟨w.heap.size, 1, none⟩ = some (.int .i64 0) ∧ wx.cell? ⟨w.heap.size, 2, none⟩ = some (.string { data := #[] }) ∧ wx.cell? ⟨w.heap.size, 3, none⟩ = some (.string { data := #[] }) ∧ wx.cell? ⟨w.heap.size, 4, none⟩ = some (.int .i64 0) ∧ wx.cell? ⟨w.heap.size, 5, none⟩ = some (.int .i64 1) ∧ wx.cell? ⟨w.heap.size, 6, none⟩ = some (.int .i64 0) ∧ wx.cell? ⟨w.heap.size, 7, none⟩ = some (.int .i64 0) ∧ wx.cell? ⟨w.heap.size, 8, none⟩ = some (.slice none 0 0) ∧ Below W0.heap.size W0 wx) from fun wx hb => ⟨(hb.cell (p := ⟨w.heap.size, 0, none⟩) hl).trans y0, (hb.cell (p := ⟨w.heap.size, 1, none⟩) hl).trans y1, (hb.cell (p := ⟨w.heap.size, 2, none⟩) hl).trans y2, (hb.cell (p := ⟨w.heap.size, 3, none⟩) hl).trans y3, (hb.cell (p := ⟨w.heap.size, 4, none⟩) hl).trans y4, (hb.cell (p := ⟨w.heap.size, 5, none⟩) hl).trans y5, (hb.cell (p := ⟨w.heap.size, 6, none⟩) hl).trans y6, (hb.cell (p := ⟨w.heap.size, 7, none⟩) hl).trans y7, (hb.cell (p := ⟨w.heap.size, 8, none⟩) hl).trans y8, hb⟩)
  clear hW0 g0 hb0 hl y0 y1 y2 y3 y4 y5 y6 y7 y8
  go_cut [2, 3] (fun a b wx => ∃ P Q a1 a2 : Nat, a = .pointer (some ⟨P, 0, none⟩) ∧ b = .pointer (some ⟨Q, 0, none⟩) ∧ wx.heap[P]? = some (.cells #[.int .i64 37, .int .i64 0, .string { data := #[] }, .string { data := #[] }, .int .i64 0, .int .i64 0, .int .i64 0, .int .i64 0, .slice (some ⟨a1, 0, none⟩) 1 1] 24 (0, 0)) ∧ wx.heap[Q]? = some (.cells #[.int .i64 38, .int .i64 0, .string { data := #[] }, .string { data := #[] }, .int .i64 0, .int .i64 0, .int .i64 0, .int .i64 0, .slice (some ⟨a2, 0, none⟩) 1 1] 24 (0, 0)) ∧ wx.heap[a1]? = some (.cells #[.int .i64 1, .int .i64 0, .string { data := #[] }, .string { data := #[] }, .int .i64 0, .int .i64 1, .int .i64 0, .int .i64 0, .slice none 0 0] 24 (0, 0)) ∧ wx.heap[a2]? = some (.cells #[.int .i64 1, .int .i64 0, .string { data := #[] }, .string { data := #[] }, .int .i64 0, .int .i64 1, .int .i64 0, .int .i64 0, .slice none 0 0] 24 (0, 0)) ∧ Below W0.heap.size W0 wx)
  case first =>
    have k0 := KC.out W0.drew (below_drew (Below.refl _ _))
    go_region_held3 (fun wx => wx.cell? ⟨w.heap.size, 0, none⟩ = some (.int .i64 1) ∧ wx.cell? ⟨w.heap.size, 1, none⟩ = some (.int .i64 0) ∧ wx.cell? ⟨w.heap.size, 2, none⟩ = some (.string { data := #[] }) ∧ wx.cell? ⟨w.heap.size, 3, none⟩ = some (.string { data := #[] }) ∧ wx.cell? ⟨w.heap.size, 4, none⟩ = some (.int .i64 0) ∧ wx.cell? ⟨w.heap.size, 5, none⟩ = some (.int .i64 1) ∧ wx.cell? ⟨w.heap.size, 6, none⟩ = some (.int .i64 0) ∧ wx.cell? ⟨w.heap.size, 7, none⟩ = some (.int .i64 0) ∧ wx.cell? ⟨w.heap.size, 8, none⟩ = some (.slice none 0 0) ∧ Below W0.heap.size W0 wx)
      (first | (with_reducible assumption) | (exact KC.out _ (by repeat' (first | (with_reducible exact (Below.refl _ _)) | (with_reducible refine below_drew ?_) | (with_reducible refine bel_alloc _ ?_)))))
      (fail)
    all_goals go_wp2_with fail
    all_goals go_meet
    all_goals
      refine ⟨_, _, ?_, ?_, rfl, rfl, ?_, ?_, ?_, ?_, below_drew (chain4 W0 _ _ _ _ rfl).2.2.2.2.1⟩
      rotate_left 2
      · first | exact (chain4 W0 _ _ _ _ rfl).1 | exact (chain4 W0 _ _ _ _ rfl).2.1 | exact (chain4 W0 _ _ _ _ rfl).2.2.1 | exact (chain4 W0 _ _ _ _ rfl).2.2.2.1
      · first | exact (chain4 W0 _ _ _ _ rfl).1 | exact (chain4 W0 _ _ _ _ rfl).2.1 | exact (chain4 W0 _ _ _ _ rfl).2.2.1 | exact (chain4 W0 _ _ _ _ rfl).2.2.2.1
      · first | exact (chain4 W0 _ _ _ _ rfl).1 | exact (chain4 W0 _ _ _ _ rfl).2.1 | exact (chain4 W0 _ _ _ _ rfl).2.2.1 | exact (chain4 W0 _ _ _ _ rfl).2.2.2.1
      · first | exact (chain4 W0 _ _ _ _ rfl).1 | exact (chain4 W0 _ _ _ _ rfl).2.1 | exact (chain4 W0 _ _ _ _ rfl).2.2.1 | exact (chain4 W0 _ _ _ _ rfl).2.2.2.1
  case rest =>
    obtain ⟨P, Q, a1, a2, rfl, rfl, hP, hQ, h1, h2, hb⟩ := hcut
    have HB := hide (bstep HB0.out hb)
    obtain ⟨p0, p1, p2, p3, p4, p5, p6, p7, p8⟩ := box9 hP
    obtain ⟨q0, q1, q2, q3, q4, q5, q6, q7, q8⟩ := box9 hQ
    obtain ⟨r1, r2, hb3, -⟩ := chain2 wc (Obj.cells #[.int .i64 38, .int .i64 0, .string { data := #[] }, .string { data := #[] }, .int .i64 0, .int .i64 0, .int .i64 0, .int .i64 0, .slice (some ⟨a2, 0, none⟩) 1 1] 24) (Obj.cells #[.int .i64 37, .int .i64 0, .string { data := #[] }, .string { data := #[] }, .int .i64 0, .int .i64 0, .int .i64 0, .int .i64 0, .slice (some ⟨a1, 0, none⟩) 1 1, .int .i64 47, .int .i64 0, .string { data := #[] }, .string { data := #[] }, .int .i64 1, .int .i64 2, .int .i64 0, .int .i64 3, .slice (some ⟨wc.heap.size, 0, none⟩) 1 1] 24) rfl
    have k1 := (hb3.block _ (box_lt h1)).trans h1
    have k2 := (hb3.block _ (box_lt h2)).trans h2
    have HB3 := hide (bstep HB.out hb3)
    have HCO := hide (comp_then (some ⟨wc.heap.size + 1, 0, none⟩) (some ⟨a1, 0, none⟩) (some ⟨a2, 0, none⟩) (some ⟨wc.heap.size, 0, none⟩) 1 1 ((wc.alloc (Obj.cells #[.int .i64 38, .int .i64 0, .string { data := #[] }, .string { data := #[] }, .int .i64 0, .int .i64 0, .int .i64 0, .int .i64 0, .slice (some ⟨a2, 0, none⟩) 1 1] 24)).alloc (Obj.cells #[.int .i64 37, .int .i64 0, .string { data := #[] }, .string { data := #[] }, .int .i64 0, .int .i64 0, .int .i64 0, .int .i64 0, .slice (some ⟨a1, 0, none⟩) 1 1, .int .i64 47, .int .i64 0, .string { data := #[] }, .string { data := #[] }, .int .i64 1, .int .i64 2, .int .i64 0, .int .i64 3, .slice (some ⟨wc.heap.size, 0, none⟩) 1 1] 24))
      (TreesAt.mk _ _ (by simp) (row_two (n := evN 37 (some ⟨a1, 0, none⟩) 1) (m := repN (some ⟨wc.heap.size, 0, none⟩) 1 (some ⟨a2, 0, none⟩) 1) r2) (fun n hn => by
        rcases List.mem_cons.1 hn with rfl | hn
        · exact TreesAt.mk _ _ (by simp [evN, Nd.kids]) (row_one (n := sigN) k1) (fun m hm => by
            have : m = sigN := List.mem_singleton.1 hm
            subst this
            exact TreesAt.nil)
        · have : n = repN (some ⟨wc.heap.size, 0, none⟩) 1 (some ⟨a2, 0, none⟩) 1 := List.mem_singleton.1 hn
          subst this
          exact TreesAt.mk _ _ (by simp [repN, Nd.kids]) (row_one (n := evN 38 (some ⟨a2, 0, none⟩) 1) r1) (fun m hm => by
            have : m = evN 38 (some ⟨a2, 0, none⟩) 1 := List.mem_singleton.1 hm
            subst this
            exact TreesAt.mk _ _ (by simp [evN, Nd.kids]) (row_one (n := sigN) k2) (fun m hm => by
              have : m = sigN := List.mem_singleton.1 hm
              subst this
              exact TreesAt.nil)))))
    clear KC hP hQ h1 h2 hb r1 r2 hb3 k1 k2
    go_upto_region 4 with
      (go_at_call 11
       refine HCO.out.mono ?_
       rintro e w5 ⟨⟨AE, nE, cE, AC, nC, cC, AF, cF, fin, AX, cX, edges⟩, he, hat, e1, e2, e3, e4, hb5⟩
       unfold exE at e2
       dsimp only at e1 e2 e3 e4
       subst e1 e2 e3 e4
       unfold encA at he
       dsimp only [List.length] at he
       subst he
       have HAT := hide hat
       have HB5 := hide (bstep HB3.out hb5)
       clear hat hb5)
    obtain ⟨W6, hW6⟩ : ∃ W6, w5.alloc (.cells #[.slice AE 2 cE, .slice AC 0 cC, .slice AF 4 cF, .slice AX 3 cX] 30) = W6 := ⟨_, rfl⟩
    rw [hW6]
    have g6 := new_at hW6
    have hb6 : Below w5.heap.size w5 W6 := by rw [← hW6]; exact (Below.refl _ _).alloc (Nat.le_refl _) _
    have HA6 := hide (HAT.out.grow hb6)
    have HG6 := hide g6
    have HB6 := hide (bstep HB5.out hb6)
    have HLE := hide (length_any (⟨AE, 2, cE, AC, 0, cC, AF, cF, [false, false, true, true], AX, cX, [⟨0, 1, 0, -1, 0, 0⟩, ⟨1, 2, 1, -1, 1, 5⟩, ⟨2, 3, 1, -1, 0, 3⟩]⟩ : Aut) W6 HA6.out ⟨by simp, by simp, by simp, by simp, fun x hx => by
      simp only [List.mem_cons, List.not_mem_nil, or_false] at hx
      rcases hx with rfl | rfl | rfl <;> (unfold I64E I64; simp)⟩)
    unfold encA at HLE
    dsimp only [List.length] at HLE
    obtain ⟨y0, y1, y2, y3⟩ := box4p g6
    clear hW6 g6 hb6 p0 p1 p2 p3 p4 p5 p6 p7 p8 q0 q1 q2 q3 q4 q5 q6 q7 q8 HCO
    go_upto_region 5 with
      (go_at_call 17
       refine HLE.out.mono ?_
       rintro e w7 ⟨lo, hi, rfl, hx, hb7⟩
       have HX7 := hide hx
       have HB7 := hide hb7
       clear hx hb7)
    have hv : validB (⟨AE, 2, cE, AC, 0, cC, AF, cF, [false, false, true, true], AX, cX, [⟨0, 1, 0, -1, 0, 0⟩, ⟨1, 2, 1, -1, 1, 5⟩, ⟨2, 3, 1, -1, 0, 3⟩]⟩ : Aut) = true := by rfl
    have hlen : lo = 1 ∧ hi = 8 := by
      rcases HX7.out with ⟨h1, _⟩ | ⟨_, h2⟩
      · rw [hv] at h1; cases h1
      · exact LenOf.uniq h2 len_ex
    obtain ⟨rfl, rfl⟩ := hlen
    have hat := HA6.out.grow HB7.out
    obtain ⟨bf, of, hf, -, hfc⟩ := hat.fin (by simp)
    obtain ⟨bx, ox, hx, -, hxc⟩ := hat.edges (by simp)
    dsimp only at hf hx
    subst hf hx
    have c1 := hfc 1 false rfl 0 (by omega)
    have c2 := hfc 2 true rfl 0 (by omega)
    have c3 := hfc 3 true rfl 0 (by omega)
    have x0 := hxc 1 ⟨1, 2, 1, -1, 1, 5⟩ rfl 0 (by omega)
    have x1 := hxc 1 ⟨1, 2, 1, -1, 1, 5⟩ rfl 1 (by omega)
    have x2 := hxc 1 ⟨1, 2, 1, -1, 1, 5⟩ rfl 2 (by omega)
    have x3 := hxc 1 ⟨1, 2, 1, -1, 1, 5⟩ rfl 3 (by omega)
    have x4 := hxc 1 ⟨1, 2, 1, -1, 1, 5⟩ rfl 4 (by omega)
    have x5 := hxc 1 ⟨1, 2, 1, -1, 1, 5⟩ rfl 5 (by omega)
    simp only [cBool, cEdg, List.getElem?_cons_zero, List.getElem?_cons_succ, Nat.one_mul, Nat.mul_one, Nat.add_zero] at c1 c2 c3 x0 x1 x2 x3 x4 x5
    obtain ⟨y0', y1', y2', y3'⟩ := box4p ((HB7.out.block _ (box_lt HG6.out)).trans HG6.out)
    clear hv hat hfc hxc y0 y1 y2 y3 HLE
    go_wp2_with fail
    go_ret
    exact ⟨rfl, bstep HB6.out HB7.out⟩

end Go.Proofs.YtgobkbjkndfliaaGreatDoor
