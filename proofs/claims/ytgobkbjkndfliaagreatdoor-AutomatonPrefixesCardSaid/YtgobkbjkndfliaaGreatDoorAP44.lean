/-
  Several texts in one: PathsA. Each says at its head what it holds.
-/
import Derived.Test.YtgobkbjkndfliaaGreatDoorAP43
import Derived.Laws.EntriesVeiled

/-
  automaton.Paths: the paths with at most so many edges.
-/
namespace Go.Proofs.YtgobkbjkndfliaaGreatDoor
open Go.RowKit

def PathsOk (a : Aut) (len most : Int) : Prop := validB a = true ∧ (0 ≤ len ∧ len ≤ 32) ∧ 0 ≤ most ∧ most ≤ 1024
def psUp (a : Aut) (len : Int) : List (List Int) := (pathsF a.edges a.fin len.toNat 0).map up
/-- the lists of paths, or an error -/
def PathsPost (a : Aut) (len most : Int) (w : World) (e : Ending) (w' : World) : Prop := Below w.heap.size w w' ∧
  ((¬ PathsOk a len most ∧ e = .returned (.tuple #[.slice none 0 0, .int .i64 1])) ∨ (PathsOk a len most ∧ most < (psUp a len).length ∧ e = .returned (.tuple #[.slice none 0 0, .int .i64 9])) ∨
    (PathsOk a len most ∧ ((psUp a len).length : Int) ≤ most ∧ ∃ A c rows, e = .returned (.tuple #[.slice A rows.length c, .int .i64 0]) ∧ rows.map SlI.xs = psUp a len ∧ EvAt w' A rows))
theorem psUp_eq {X : PEn} {len : Int} (h : X.len = len.toNat) : psAll X X.len 0 [] = psUp X.a len := by
  unfold psAll psUp
  rw [h]
  simp

theorem row_ints {w : World} {P : Nat → Prop} {A : Option Addr} {xs : List Int} (h : Row w P 1 cInt A xs) (hp : ∀ b, P b → b < w.heap.size) : IntsAt w w.heap.size A xs := fun hx => by
  obtain ⟨b, off, e, hb, hc⟩ := h hx
  refine ⟨b, off, e, hp b hb, fun i x hi => ?_⟩
  have := hc i x hi 0 (by omega)
  rw [Nat.mul_one, Nat.add_zero] at this
  exact this
theorem PthSt.evAt {Bo base c : Nat} {A : Option Addr} {rows : List SlI} {W : World} (h : PthSt Bo base A c rows W) : EvAt W A rows := by
  refine ⟨fun hx => ?_, fun s hs => row_ints (h.each s hs) fun b hb => hb.1⟩
  obtain ⟨g, rfl, h1, h2⟩ := own_place h.own (List.length_pos_iff.2 hx)
  refine ⟨g, 0, rfl, h2, fun i x hi j hj => ?_⟩
  have hlt : i < rows.length := (List.getElem?_eq_some_iff.1 hi).1
  have : j = 0 := by omega
  subst this
  rw [Nat.zero_add, Nat.mul_one, Nat.add_zero, World.ownsRow.cellAt h.own _ (by omega), List.getElem?_map, hi]
  rfl

set_option maxRecDepth 100000 in
set_option maxHeartbeats 4000000 in
theorem paths_any (a : Aut) (len most : Int) (w : World) (ha : AutAt w (Lo w.heap.size) a) (hle : AutLe a) (hed : a.edges.length ≤ 1000) :
    Calls Tryz.prog 23 #[.agg (encA a).toArray, .int .i64 len, .int .i64 most] w (PathsPost a len most w) := by
  obtain ⟨a', ha'⟩ : ∃ a', a = a' := ⟨_, rfl⟩
  obtain ⟨W0, hW0⟩ : ∃ W0, ((w.alloc (.cells (encA a).toArray 30)).alloc (.cells #[.int .i64 len] 3)).alloc (.cells #[.int .i64 most] 3) = W0 := ⟨_, rfl⟩
  have g0 : W0.heap[w.heap.size]? = some (.cells (encA a).toArray 30 (0, 0)) := by rw [← hW0]; exact box_alloc (box_alloc (heap_alloc_new w _))
  have g1 : W0.heap[w.heap.size + 1]? = some (.cells #[.int .i64 len] 3 (0, 0)) := by
    rw [← hW0]; have := box_alloc (o' := .cells #[.int .i64 most] 3) (heap_alloc_new (w.alloc (.cells (encA a).toArray 30)) (.cells #[.int .i64 len] 3)); simpa using this
  have g2 : W0.heap[w.heap.size + 1 + 1]? = some (.cells #[.int .i64 most] 3 (0, 0)) := by
    rw [← hW0]; have := heap_alloc_new ((w.alloc (.cells (encA a).toArray 30)).alloc (.cells #[.int .i64 len] 3)) (.cells #[.int .i64 most] 3); simpa using this
  have hb0 : Below w.heap.size w W0 := by rw [← hW0]; exact (((Below.refl _ _).alloc (Nat.le_refl _) _).alloc (by simp) _).alloc (by simp; omega) _
  have hz0 : W0.heap.size = w.heap.size + 3 := by rw [← hW0]; simp
  have hv := valid_any a W0 (ha.grow hb0) hle
  have HA := hide (ha.grow hb0)
  have HLE := hide hle
  have HB0 := hide hb0
  rw [ha'] at hv hW0 g0 HA HLE hed ⊢
  obtain ⟨AE, nE, cE, AC, nC, cC, AF, cF, fin, AX, cX, edges⟩ := a
  have HAA := hide (show a' = ⟨AE, nE, cE, AC, nC, cC, AF, cF, fin, AX, cX, edges⟩ from ha'.symm)
  have hX : encA a' = [.slice AE nE cE, .slice AC nC cC, .slice AF fin.length cF, .slice AX edges.length cX] := by rw [← ha']; rfl
  have HX := hide hX
  rw [hX] at hv hW0 g0 ⊢
  have HV := hide hv
  have HW0 := hide hW0
  have HG0 := hide g0
  have HG1 := hide g1
  have HG2 := hide g2
  have HERR := hide (fun (h : ¬ PathsOk a' len most) (wx : World) (hb : Below W0.heap.size W0 wx) => (show PathsPost a' len most w (.returned (.tuple #[.slice none 0 0, .int .i64 1])) wx from ⟨bstep hb0 hb, .inl ⟨h, rfl⟩⟩))
  obtain ⟨y0, y1, y2, y3, -⟩ := box4 g0
  have c1 := box_cell g1
  have c2 := box_cell g2
  clear ha' hX hv g0 g1 g2 hb0 ha hle
  go_enter Tryz.func23, Tryz.ntmps23
  go_upto_region 1 with (fail)
  cases hvb : validB a' with
  | false =>
    have HN := hide (HERR.out (fun h => by have h1 := h.1; rw [hvb] at h1; cases h1))
    rw [hvb] at HV
    clear hvb
    go_wp2_with (go_at_call 14; refine HV.out.mono ?_; rintro e w2 ⟨rfl, hb2⟩; have HB2 := hide hb2; clear hb2)
    go_ret2
    exact HN.out _ HB2.out
  | true =>
    have HVB := hide hvb
    rw [hvb] at HV
    clear hvb
    by_cases hcond : (0 ≤ len ∧ len ≤ 32) ∧ 0 ≤ most ∧ most ≤ 1024
    · obtain ⟨L, hL⟩ := Int.eq_ofNat_of_zero_le hcond.1.1
      obtain ⟨M, hM⟩ := Int.eq_ofNat_of_zero_le hcond.2.1
      subst hL hM
      have hLb : L ≤ 32 := by omega
      have hMb : M ≤ 1024 := by omega
      have T1 : decide ((L : Int) < 0) = false := decide_eq_false (by omega)
      have T2 : decide (32 < (L : Int)) = false := decide_eq_false (by omega)
      have T3 : decide ((M : Int) < 0) = false := decide_eq_false (by omega)
      have T4 : decide (1024 < (M : Int)) = false := decide_eq_false (by omega)
      have HOK := hide (show PathsOk a' (L : Int) (M : Int) from ⟨HVB.out, hcond⟩)
      go_upto_region 3 with (go_at_call 14; refine HV.out.mono ?_; rintro e w2 ⟨rfl, hb2⟩; have HB2 := hide hb2; have c1' := box_cell ((hb2.block _ (box_lt HG1.out)).trans HG1.out); have c2' := box_cell ((hb2.block _ (box_lt HG2.out)).trans HG2.out); clear hb2)
      clear y0 y1 y2 y3
      obtain ⟨y0, y1, y2, y3, -⟩ := box4 ((HB2.out.block _ (box_lt HG0.out)).trans HG0.out)
      have hlst := least_any a' w2 (HA.out.grow HB2.out) HVB.out HLE.out
      rw [HX.out] at hlst
      have HLST := hide hlst
      clear hlst hcond T1 T2 T3 T4 HERR c1 c2
      go_upto_region 4 with (go_at_call 51; refine HLST.out.mono ?_; rintro e w3 ⟨g, ls, rfl, ar3, hll, hlb, hgg, hlf, hb3⟩; have HB3 := hide (bstep HB2.out hb3); have HAR3 := hide ar3; have HLL := hide hll; have HLB := hide hlb; have HLF := hide hlf; clear ar3 hll hlb hlf hb3)
      clear y0 y1 y2 y3 HLST c1' c2'
      go_upto_region 7 with (fail)
      obtain ⟨X, hX⟩ : ∃ X : PEn, X = ⟨a', ls, L, M⟩ := ⟨_, rfl⟩
      obtain ⟨B, hB⟩ : ∃ B : PBx, B = ⟨w.heap.size, w3.heap.size + 1, w.heap.size + 1 + 1, w3.heap.size, w.heap.size + 1, w3.heap.size + 1 + 1, g⟩ := ⟨_, rfl⟩
      have hcaps : B.caps = #[.pointer (some ⟨w.heap.size, 0, none⟩), .pointer (some ⟨w3.heap.size + 1, 0, none⟩), .pointer (some ⟨w.heap.size + 1 + 1, 0, none⟩), .pointer (some ⟨w3.heap.size, 0, none⟩), .pointer (some ⟨w.heap.size + 1, 0, none⟩), .pointer (some ⟨w3.heap.size + 1 + 1, 0, none⟩)] := by rw [hB]; rfl
      obtain ⟨W4, hW4⟩ : ∃ W4, w3.alloc (.cells #[.slice (some ⟨g, 0, none⟩) a'.fin.length a'.fin.length] 43) = W4 := ⟨_, rfl⟩
      obtain ⟨W5, hW5⟩ : ∃ W5, W4.alloc (.cells #[.slice none 0 0] 45) = W5 := ⟨_, rfl⟩
      obtain ⟨W7, hW7⟩ : ∃ W7, W5.alloc (.cells #[.func (.func 52) #[] B.caps] 81) = W7 := ⟨_, rfl⟩
      rw [hcaps] at hW7
      rw [hW4, hW5, hW7]
      have hz4 : W4.heap.size = w3.heap.size + 1 := by rw [← hW4]; simp
      have hz5 : W5.heap.size = w3.heap.size + 1 + 1 := by rw [← hW5]; simp [hz4]
      have hz7 : W7.heap.size = w3.heap.size + 3 := by rw [← hW7]; simp [hz5]
      have b4 : Below w3.heap.size w3 W4 := by rw [← hW4]; exact (Below.refl _ _).alloc (Nat.le_refl _) _
      have b5 : Below W4.heap.size W4 W5 := by rw [← hW5]; exact (Below.refl _ _).alloc (Nat.le_refl _) _
      have b7 : Below W5.heap.size W5 W7 := by rw [← hW7]; exact (Below.refl _ _).alloc (Nat.le_refl _) _
      have b37 := bstep (bstep b4 b5) b7
      have p4 : W7.heap[w3.heap.size]? = some (.cells #[.slice (some ⟨g, 0, none⟩) a'.fin.length a'.fin.length] 43 (0, 0)) := box_below b7 (box_below b5 (by rw [← hW4]; exact heap_alloc_new w3 _))
      have p5 : W7.heap[w3.heap.size + 1]? = some (.cells #[.slice none 0 0] 45 (0, 0)) := box_below b7 (by rw [← hW5, ← hz4]; exact heap_alloc_new W4 _)
      have p7 : W7.heap[w3.heap.size + 1 + 1]? = some (.cells #[.func (.func 52) #[] B.caps] 81 (0, 0)) := by rw [hcaps, ← hW7, ← hz5]; exact heap_alloc_new W5 _
      have b07 := bstep HB3.out b37
      have hz3 : W0.heap.size ≤ w3.heap.size := HB3.out.size
      have hg3 := HAR3.out.lt
      have hbase : ∀ b, b < W0.heap.size → b < w3.heap.size + 3 ∧ b ≠ w3.heap.size + 1 := fun b hb => ⟨by omega, by omega⟩
      have hlow : (w.heap.size < w3.heap.size + 3 ∧ w.heap.size + 1 + 1 < w3.heap.size + 3 ∧ w3.heap.size < w3.heap.size + 3 ∧ w.heap.size + 1 < w3.heap.size + 3 ∧ w3.heap.size + 1 + 1 < w3.heap.size + 3 ∧ g < w3.heap.size + 3) ∧ (w.heap.size ≠ w3.heap.size + 1 ∧ w.heap.size + 1 + 1 ≠ w3.heap.size + 1 ∧ w3.heap.size ≠ w3.heap.size + 1 ∧ w.heap.size + 1 ≠ w3.heap.size + 1 ∧ w3.heap.size + 1 + 1 ≠ w3.heap.size + 1 ∧ g ≠ w3.heap.size + 1) := by have := hz0; omega
      have henv : PEnv X B (w3.heap.size + 3) W7 := by
        rw [hX, hB]
        rw [hB] at p7
        exact ⟨by rw [HX.out]; exact (b07.block _ (box_lt HG0.out)).trans HG0.out, (b07.block _ (box_lt HG2.out)).trans HG2.out, p4, (b07.block _ (box_lt HG1.out)).trans HG1.out, p7, HAR3.out.below b37,
          (HA.out.stay (P := Lo W0.heap.size) fun b hb => b07.block b hb).more hbase, hlow⟩
      have hst : PthSt B.o (w3.heap.size + 3) none 0 [] W7 := by
        rw [hB]
        exact ⟨p5, World.ownsRow_nil _ _ _ _, (fun s hs => by cases hs), (by show w3.heap.size + 1 < _; omega), by omega⟩
      have hok : POk X := by
        rw [hX]
        exact ⟨HVB.out, hed, HLL.out, HLB.out, HLF.out, (by show L ≤ 1000; omega), by show M ≤ 100000; omega⟩
      have hq0 : 0 < X.a.fin.length := by rw [hX]; have := (valid_states HVB.out).2.1; show 0 < a'.fin.length; omega
      have hwk := pwalk_any X B (w3.heap.size + 3) hok L 0 [] none 0 none 0 [] W7 hq0 (by rw [hX]; simp) henv hst (Nat.zero_le _) Row.nil (Nat.le_refl _)
      have cw := box_cell p7
      rw [hcaps] at cw
      have HWK := hide (show Calls Tryz.prog 52 #[.int .i64 0, .slice none 0 0, .pointer (some ⟨w.heap.size, 0, none⟩), .pointer (some ⟨w3.heap.size + 1, 0, none⟩), .pointer (some ⟨w.heap.size + 1 + 1, 0, none⟩), .pointer (some ⟨w3.heap.size, 0, none⟩), .pointer (some ⟨w.heap.size + 1, 0, none⟩), .pointer (some ⟨w3.heap.size + 1 + 1, 0, none⟩)] W7 (WalkPost B (w3.heap.size + 3) none [] (psAll X L 0 []) M W7) from by
        rw [hB] at hwk ⊢
        rw [hX] at hwk ⊢
        exact hwk)
      have HPS := hide (show psAll X L 0 [] = psUp a' (L : Int) from by rw [hX]; unfold psAll psUp; simp)
      have HBo := hide (show B.o = w3.heap.size + 1 from by rw [hB])
      have HB7 := hide b07
      have HB37 := hide b37
      have hz07 := hz0
      clear hwk henv hst hok hq0 hlow hcaps hW4 hW5 hW7 hz4 hz5 b4 b5 b7 p4 p5 p7 hbase b07 b37 hX hB
      go_upto_if 35 with (go_at_call 52; refine HWK.out.mono ?_; rintro e w8 ⟨A8, c8, rows8, b8, rfl, st8, k8, m8, r8, x8, t8⟩; have HS8 := hide st8; have HK8 := hide k8; have HX8 := hide x8; have HT8 := hide t8; clear st8 k8 m8 x8 t8)
      have HB8 := hide (show Below w.heap.size w w8 from (bstep HB0.out HB7.out).trans ⟨HK8.out.os, HK8.out.tape, HK8.out.output, HK8.out.size, fun b hb => HK8.out.block b ⟨by have := HB37.out.size; omega, by rw [HBo.out]; omega, fun e => by cases e⟩⟩)
      cases b8 with
      | true =>
        have hx := HX8.out rfl
        have ht := HT8.out.1 rfl
        rw [HPS.out] at hx ht
        have HFIN := hide (show PathsPost a' (L : Int) (M : Int) w (.returned (.tuple #[.slice A8 rows8.length c8, .int .i64 0])) w8 from
          ⟨HB8.out, .inr (.inr ⟨HOK.out, by simp at ht; omega, A8, c8, rows8, rfl, by simpa using hx, HS8.out.evAt⟩)⟩)
        have bx := HS8.out.box
        rw [HBo.out] at bx
        have cx := box_cell bx
        clear hx ht bx
        go_wp2_with fail
        go_ret2
        exact HFIN.out
      | false =>
        have HFIN := hide (show PathsPost a' (L : Int) (M : Int) w (.returned (.tuple #[.slice none 0 0, .int .i64 9])) w8 from
          ⟨HB8.out, .inr (.inl ⟨HOK.out, by
            have h1 : ¬ ([] : List SlI).length + (psAll X L 0 []).length ≤ M := fun h => by have := HT8.out.2 h; cases this
            rw [HPS.out] at h1
            simp at h1
            omega, rfl⟩)⟩)
        go_wp2_with fail
        go_ret2
        exact HFIN.out
    · have HN := hide (HERR.out (fun h => hcond h.2))
      have hcase : len < 0 ∨ (¬ len < 0 ∧ 32 < len) ∨ (¬ len < 0 ∧ ¬ 32 < len ∧ most < 0) ∨ (¬ len < 0 ∧ ¬ 32 < len ∧ ¬ most < 0 ∧ 1024 < most) := by omega
      clear hcond
      rcases hcase with h1 | ⟨h1, h2⟩ | ⟨h1, h2, h3⟩ | ⟨h1, h2, h3, h4⟩
      · have T1 : decide (len < 0) = true := decide_eq_true h1
        clear h1
        go_wp2_with (go_at_call 14; refine HV.out.mono ?_; rintro e w2 ⟨rfl, hb2⟩; have HB2 := hide hb2; have c1' := box_cell ((hb2.block _ (box_lt HG1.out)).trans HG1.out); have c2' := box_cell ((hb2.block _ (box_lt HG2.out)).trans HG2.out); clear hb2)
        go_ret2
        exact HN.out _ HB2.out
      · have T1 : decide (len < 0) = false := decide_eq_false h1
        have T2 : decide (32 < len) = true := decide_eq_true h2
        clear h1 h2
        go_wp2_with (go_at_call 14; refine HV.out.mono ?_; rintro e w2 ⟨rfl, hb2⟩; have HB2 := hide hb2; have c1' := box_cell ((hb2.block _ (box_lt HG1.out)).trans HG1.out); have c2' := box_cell ((hb2.block _ (box_lt HG2.out)).trans HG2.out); clear hb2)
        go_ret2
        exact HN.out _ HB2.out
      · have T1 : decide (len < 0) = false := decide_eq_false h1
        have T2 : decide (32 < len) = false := decide_eq_false h2
        have T3 : decide (most < 0) = true := decide_eq_true h3
        clear h1 h2 h3
        go_wp2_with (go_at_call 14; refine HV.out.mono ?_; rintro e w2 ⟨rfl, hb2⟩; have HB2 := hide hb2; have c1' := box_cell ((hb2.block _ (box_lt HG1.out)).trans HG1.out); have c2' := box_cell ((hb2.block _ (box_lt HG2.out)).trans HG2.out); clear hb2)
        go_ret2
        exact HN.out _ HB2.out
      · have T1 : decide (len < 0) = false := decide_eq_false h1
        have T2 : decide (32 < len) = false := decide_eq_false h2
        have T3 : decide (most < 0) = false := decide_eq_false h3
        have T4 : decide (1024 < most) = true := decide_eq_true h4
        clear h1 h2 h3 h4
        go_wp2_with (go_at_call 14; refine HV.out.mono ?_; rintro e w2 ⟨rfl, hb2⟩; have HB2 := hide hb2; have c1' := box_cell ((hb2.block _ (box_lt HG1.out)).trans HG1.out); have c2' := box_cell ((hb2.block _ (box_lt HG2.out)).trans HG2.out); clear hb2)
        go_ret2
        exact HN.out _ HB2.out

end Go.Proofs.YtgobkbjkndfliaaGreatDoor
