/-
  Several texts in one: Prep. Each says at its head what it holds.
-/
import Derived.Test.YtkbiefklilelmaaMR22

/-
  match.prepare: a checked input, with the normal lists of the conditions; printed by wip/genprep.py.
-/
namespace Go.Proofs.Ytkbiefklilelmaa
open Go.RowKit

set_option maxRecDepth 100000 in
set_option maxHeartbeats 8000000 in
theorem prepare_any (a : Aut) (AV : Option Addr) (cV : Nat) (ev : List SlI) (AC' : Option Addr) (cC' : Nat) (cs : List SlV) (f t en : Int) (w : World) (ha : AutAt w (Lo w.heap.size) a) (hle : AutLe a) (hev : EvAt w AV ev) (hcs : CsAt w AC' cs)
    (hel : ev.length ≤ 1000000) (hcl : cs.length ≤ 1000000) (hes : ∀ s ∈ ev, s.xs.length ≤ 1000000) (hcc : ∀ s ∈ cs, s.xs.length ≤ 1000000000000) :
    Calls Try.prog 56 #[.agg (encA a).toArray, .slice AV ev.length cV, .slice AC' cs.length cC', .int .i64 f, .int .i64 t, .int .i64 en] w (PrepPost a AV cV ev cs f t en w) := by
  obtain ⟨a', ha'⟩ : ∃ a', a = a' := ⟨_, rfl⟩
  have n1 := hle.nE
  have n2 := hle.nC
  obtain ⟨WA, hWA⟩ : ∃ WA, w.alloc (.cells (encA a).toArray 50) = WA := ⟨_, rfl⟩
  obtain ⟨W0, hW0⟩ : ∃ W0, WA.alloc (.cells #[.slice none 0 0, .slice none 0 0, .slice none 0 0, .slice none 0 0, .slice none 0 0, .slice none 0 0, .int .i64 0] 83) = W0 := ⟨_, rfl⟩
  have gA := new_at hWA
  have gR := new_at hW0
  have hbA : Below w.heap.size w WA := by rw [← hWA]; exact (Below.refl _ _).alloc (Nat.le_refl _) _
  have hbR : Below WA.heap.size WA W0 := by rw [← hW0]; exact (Below.refl _ _).alloc (Nat.le_refl _) _
  have hzA : WA.heap.size = w.heap.size + 1 := by rw [← hWA]; simp
  rw [hzA] at gR
  have gA0 := (hbR.block _ (box_lt gA)).trans gA
  have hb0 := bstep hbA hbR
  have hv := valid_any a W0 (ha.grow hb0) hle
  have HEV := hide (hev.step hb0)
  have HCS := hide (hcs.step hb0)
  have HES := hide hes
  have HCC := hide hcc
  have HB0 := hide hb0
  have hsz0 : w.heap.size + 1 < W0.heap.size := box_lt gR
  rw [ha'] at hv gA0 hWA ⊢
  obtain ⟨AE, nE, cE, AC, nC, cC, AF, cF, fin, AX, cX, edges⟩ := a
  dsimp only at n1 n2
  have HA := hide ha'
  have hX : encA a' = [.slice AE nE cE, .slice AC nC cC, .slice AF fin.length cF, .slice AX edges.length cX] := by rw [← ha']; rfl
  have HEX := hide hX
  rw [hX] at hv gA0 hWA ⊢
  have HV := hide hv
  have HGA := hide gA0
  have HGR := hide gR
  have HPB := hide (show ∀ b, prepB (validB a') ev.length a'.nE cs.length a'.nC f t en = b → prepB (validB a') ev.length nE cs.length nC f t en = b from fun b hb => by rw [← hb, ← HA.out])
  have HNE := hide (show a'.nE = nE ∧ a'.nC = nC by rw [← ha']; exact ⟨rfl, rfl⟩)
  have HWA := hide hWA
  have HW0 := hide hW0
  obtain ⟨k0, k1, k2, k3, -⟩ := box4 gA0
  clear hv hX ha' hWA hW0 gA gR gA0 hbA hbR hb0 ha hle hev hcs hes hcc hzA
  go_enter Try.func56, Try.ntmps56
  go_upto_region 1 with (fail)
  rw [HWA.out, HW0.out]
  cases hvb : validB a' with
  | false =>
    have HPN := hide (show ¬ PrepOk a' ev cs.length f t en from fun h => by have h1 := h.1; unfold prepB at h1; rw [hvb] at h1; cases h1)
    rw [hvb] at HV
    clear hvb
    go_upto_region 2 with (go_at_call 77; refine HV.out.mono ?_; rintro e w2 ⟨rfl, hb2⟩)
    have gR2 := (hb2.block _ (box_lt HGR.out)).trans HGR.out
    obtain ⟨r0, r1, r2, r3, r4, r5, r6⟩ := box7 gR2
    obtain ⟨q0, q1, q2, q3, q4, q5, q6⟩ := froz7 gR2
    go_wp2_with fail
    refine (show bodyPost _ _ _ Exit.ret _ (put7 w2 (w.heap.size + 1) (.slice none 0 0) (.slice none 0 0) (.slice none 0 0) (.slice none 0 0) (.slice none 0 0) (.slice none 0 0) (.int .i64 0)) from ?_)
    have HF := hide (show PrepPost a' AV cV ev cs f t en w (.returned (.tuple #[.agg #[.slice none 0 0, .slice none 0 0, .slice none 0 0, .slice none 0 0, .slice none 0 0, .slice none 0 0, .int .i64 0], .int .i64 1])) (put7 w2 (w.heap.size + 1) (.slice none 0 0) (.slice none 0 0) (.slice none 0 0) (.slice none 0 0) (.slice none 0 0) (.slice none 0 0) (.int .i64 0)) from ⟨put7_below (bstep HB0.out hb2) (by omega), .inl ⟨HPN.out, _, rfl, rfl⟩⟩)
    obtain ⟨s0, s1, s2, s3, s4, s5, s6⟩ := box7 (put7_at (a := .slice none 0 0) (b := .slice none 0 0) (c := .slice none 0 0) (d := .slice none 0 0) (e := .slice none 0 0) (f := .slice none 0 0) (g := .int .i64 0) gR2)
    generalize put7 w2 (w.heap.size + 1) (.slice none 0 0) (.slice none 0 0) (.slice none 0 0) (.slice none 0 0) (.slice none 0 0) (.slice none 0 0) (.int .i64 0) = Wf at *
    exact bodyPost_ret (v := .tuple #[.agg #[.slice none 0 0, .slice none 0 0, .slice none 0 0, .slice none 0 0, .slice none 0 0, .slice none 0 0, .int .i64 0], .int .i64 1]) (by simp [results, Try.results56, go_sem, s0, s1, s2, s3, s4, s5, s6]) rfl HF.out
  | true =>
    rw [hvb] at HV HPB
    have HVB := hide hvb
    clear hvb
    go_cut [55] (fun v wx => v = .bool (!(prepB true ev.length nE cs.length nC f t en)) ∧ Below W0.heap.size W0 wx)
    case first =>
      as_aux_lemma =>
        by_cases c1 : ev.length = nE
        · by_cases c2 : cs.length = nC
          · by_cases c3 : 0 ≤ f
            · by_cases c4 : f ≤ t
              · by_cases c5 : t ≤ en
                · by_cases c6 : en ≤ 1099511627776
                  · have T1 : ((ev.length : Int) != (nE : Int)) = false := by simp [c1]
                    have T2 : ((cs.length : Int) != (nC : Int)) = false := by simp [c2]
                    have T3 : decide (f < 0) = false := decide_eq_false (by omega)
                    have T4 : decide (t < f) = false := decide_eq_false (by omega)
                    have T5 : decide (en < t) = false := decide_eq_false (by omega)
                    have T6 : decide (1099511627776 < en) = false := decide_eq_false (by omega)
                    have HEB := hide (show prepB true ev.length nE cs.length nC f t en = true from by unfold prepB; rw [Bool.true_and]; exact decide_eq_true (by omega))
                    clear c1 c2 c3 c4 c5 c6
                    as_aux_lemma =>
                      go_wp2_with (go_at_call 77; refine HV.out.mono ?_; rintro e w2 ⟨rfl, hb2⟩; have k0 := (hb2.cell (p := ⟨w.heap.size, 0, none⟩) (by show w.heap.size < _; omega)).trans k0; have k1 := (hb2.cell (p := ⟨w.heap.size, 1, none⟩) (by show w.heap.size < _; omega)).trans k1)
                      go_meet
                      exact ⟨by rw [HEB.out]; rfl, hb2⟩
                  · have T1 : ((ev.length : Int) != (nE : Int)) = false := by simp [c1]
                    have T2 : ((cs.length : Int) != (nC : Int)) = false := by simp [c2]
                    have T3 : decide (f < 0) = false := decide_eq_false (by omega)
                    have T4 : decide (t < f) = false := decide_eq_false (by omega)
                    have T5 : decide (en < t) = false := decide_eq_false (by omega)
                    have T6 : decide (1099511627776 < en) = true := decide_eq_true (by omega)
                    have HEB := hide (show prepB true ev.length nE cs.length nC f t en = false from by unfold prepB; rw [Bool.true_and]; exact decide_eq_false (by omega))
                    clear c1 c2 c3 c4 c5 c6
                    as_aux_lemma =>
                      go_wp2_with (go_at_call 77; refine HV.out.mono ?_; rintro e w2 ⟨rfl, hb2⟩; have k0 := (hb2.cell (p := ⟨w.heap.size, 0, none⟩) (by show w.heap.size < _; omega)).trans k0; have k1 := (hb2.cell (p := ⟨w.heap.size, 1, none⟩) (by show w.heap.size < _; omega)).trans k1)
                      go_meet
                      exact ⟨by rw [HEB.out]; rfl, hb2⟩
                · have T1 : ((ev.length : Int) != (nE : Int)) = false := by simp [c1]
                  have T2 : ((cs.length : Int) != (nC : Int)) = false := by simp [c2]
                  have T3 : decide (f < 0) = false := decide_eq_false (by omega)
                  have T4 : decide (t < f) = false := decide_eq_false (by omega)
                  have T5 : decide (en < t) = true := decide_eq_true (by omega)
                  have HEB := hide (show prepB true ev.length nE cs.length nC f t en = false from by unfold prepB; rw [Bool.true_and]; exact decide_eq_false (by omega))
                  clear c1 c2 c3 c4 c5
                  as_aux_lemma =>
                    go_wp2_with (go_at_call 77; refine HV.out.mono ?_; rintro e w2 ⟨rfl, hb2⟩; have k0 := (hb2.cell (p := ⟨w.heap.size, 0, none⟩) (by show w.heap.size < _; omega)).trans k0; have k1 := (hb2.cell (p := ⟨w.heap.size, 1, none⟩) (by show w.heap.size < _; omega)).trans k1)
                    go_meet
                    exact ⟨by rw [HEB.out]; rfl, hb2⟩
              · have T1 : ((ev.length : Int) != (nE : Int)) = false := by simp [c1]
                have T2 : ((cs.length : Int) != (nC : Int)) = false := by simp [c2]
                have T3 : decide (f < 0) = false := decide_eq_false (by omega)
                have T4 : decide (t < f) = true := decide_eq_true (by omega)
                have HEB := hide (show prepB true ev.length nE cs.length nC f t en = false from by unfold prepB; rw [Bool.true_and]; exact decide_eq_false (by omega))
                clear c1 c2 c3 c4
                as_aux_lemma =>
                  go_wp2_with (go_at_call 77; refine HV.out.mono ?_; rintro e w2 ⟨rfl, hb2⟩; have k0 := (hb2.cell (p := ⟨w.heap.size, 0, none⟩) (by show w.heap.size < _; omega)).trans k0; have k1 := (hb2.cell (p := ⟨w.heap.size, 1, none⟩) (by show w.heap.size < _; omega)).trans k1)
                  go_meet
                  exact ⟨by rw [HEB.out]; rfl, hb2⟩
            · have T1 : ((ev.length : Int) != (nE : Int)) = false := by simp [c1]
              have T2 : ((cs.length : Int) != (nC : Int)) = false := by simp [c2]
              have T3 : decide (f < 0) = true := decide_eq_true (by omega)
              have HEB := hide (show prepB true ev.length nE cs.length nC f t en = false from by unfold prepB; rw [Bool.true_and]; exact decide_eq_false (by omega))
              clear c1 c2 c3
              as_aux_lemma =>
                go_wp2_with (go_at_call 77; refine HV.out.mono ?_; rintro e w2 ⟨rfl, hb2⟩; have k0 := (hb2.cell (p := ⟨w.heap.size, 0, none⟩) (by show w.heap.size < _; omega)).trans k0; have k1 := (hb2.cell (p := ⟨w.heap.size, 1, none⟩) (by show w.heap.size < _; omega)).trans k1)
                go_meet
                exact ⟨by rw [HEB.out]; rfl, hb2⟩
          · have T1 : ((ev.length : Int) != (nE : Int)) = false := by simp [c1]
            have T2 : ((cs.length : Int) != (nC : Int)) = true := by rw [bne_iff_ne]; omega
            have HEB := hide (show prepB true ev.length nE cs.length nC f t en = false from by unfold prepB; rw [Bool.true_and]; exact decide_eq_false (by omega))
            clear c1 c2
            as_aux_lemma =>
              go_wp2_with (go_at_call 77; refine HV.out.mono ?_; rintro e w2 ⟨rfl, hb2⟩; have k0 := (hb2.cell (p := ⟨w.heap.size, 0, none⟩) (by show w.heap.size < _; omega)).trans k0; have k1 := (hb2.cell (p := ⟨w.heap.size, 1, none⟩) (by show w.heap.size < _; omega)).trans k1)
              go_meet
              exact ⟨by rw [HEB.out]; rfl, hb2⟩
        · have T1 : ((ev.length : Int) != (nE : Int)) = true := by rw [bne_iff_ne]; omega
          have HEB := hide (show prepB true ev.length nE cs.length nC f t en = false from by unfold prepB; rw [Bool.true_and]; exact decide_eq_false (by omega))
          clear c1
          as_aux_lemma =>
            go_wp2_with (go_at_call 77; refine HV.out.mono ?_; rintro e w2 ⟨rfl, hb2⟩; have k0 := (hb2.cell (p := ⟨w.heap.size, 0, none⟩) (by show w.heap.size < _; omega)).trans k0; have k1 := (hb2.cell (p := ⟨w.heap.size, 1, none⟩) (by show w.heap.size < _; omega)).trans k1)
            go_meet
            exact ⟨by rw [HEB.out]; rfl, hb2⟩
    case rest =>
      obtain ⟨rfl, hbc⟩ := hcut
      clear k0 k1 k2 k3
      cases hpb : prepB true ev.length nE cs.length nC f t en with
      | false =>
        have HPN := hide (show ¬ PrepOk a' ev cs.length f t en from fun h => by have h1 := h.1; rw [HVB.out] at h1; have h2 := HPB.out _ h1; rw [hpb] at h2; cases h2)
        clear hpb
        have gR2 := (hbc.block _ (box_lt HGR.out)).trans HGR.out
        obtain ⟨r0, r1, r2, r3, r4, r5, r6⟩ := box7 gR2
        obtain ⟨q0, q1, q2, q3, q4, q5, q6⟩ := froz7 gR2
        go_wp2_with fail
        refine (show bodyPost _ _ _ Exit.ret _ (put7 wc (w.heap.size + 1) (.slice none 0 0) (.slice none 0 0) (.slice none 0 0) (.slice none 0 0) (.slice none 0 0) (.slice none 0 0) (.int .i64 0)) from ?_)
        have HF := hide (show PrepPost a' AV cV ev cs f t en w (.returned (.tuple #[.agg #[.slice none 0 0, .slice none 0 0, .slice none 0 0, .slice none 0 0, .slice none 0 0, .slice none 0 0, .int .i64 0], .int .i64 1])) (put7 wc (w.heap.size + 1) (.slice none 0 0) (.slice none 0 0) (.slice none 0 0) (.slice none 0 0) (.slice none 0 0) (.slice none 0 0) (.int .i64 0)) from ⟨put7_below (bstep HB0.out hbc) (by omega), .inl ⟨HPN.out, _, rfl, rfl⟩⟩)
        obtain ⟨s0, s1, s2, s3, s4, s5, s6⟩ := box7 (put7_at (a := .slice none 0 0) (b := .slice none 0 0) (c := .slice none 0 0) (d := .slice none 0 0) (e := .slice none 0 0) (f := .slice none 0 0) (g := .int .i64 0) gR2)
        generalize put7 wc (w.heap.size + 1) (.slice none 0 0) (.slice none 0 0) (.slice none 0 0) (.slice none 0 0) (.slice none 0 0) (.slice none 0 0) (.int .i64 0) = Wf at *
        exact bodyPost_ret (v := .tuple #[.agg #[.slice none 0 0, .slice none 0 0, .slice none 0 0, .slice none 0 0, .slice none 0 0, .slice none 0 0, .int .i64 0], .int .i64 1]) (by simp [results, Try.results56, go_sem, s0, s1, s2, s3, s4, s5, s6]) rfl HF.out
      | true =>
        simp only [Bool.not_true]
        have HPT := hide hpb
        have HBC := hide hbc
        clear hpb hbc
        go_wp2_with fail
        go_loopw [59] (fun i wr => PrepRel ev W0 i wr) (fun i _ => ev.length - (intOf i).toNat)
        case atStart => exact ⟨0, Nat.zero_le _, rfl, (fun j s hj => absurd hj (Nat.not_lt_zero _)), HBC.out⟩
        case round =>
          obtain ⟨k, hk, rfl, hinc, hbr⟩ := hrel
          have HINC := hide hinc
          have HBR := hide hbr
          clear hinc hbr
          by_cases hlt : k < ev.length
          · obtain ⟨bv, ov, rfl, hbv, e0, hi⟩ := (HEV.out.step HBR.out).at_ hlt
            have hsl := HES.out _ (List.getElem_mem hlt)
            have hx : ev[k]? = some ev[k] := List.getElem?_eq_getElem hlt
            generalize ev[k] = s at *
            obtain ⟨sA, sc, l⟩ := s
            dsimp only at hi hsl e0
            have HX := hide hx
            have hinr := increasing_any sA sc l wr hi (by omega)
            have HINR := hide hinr
            clear hinr hi hx
            go_wp2_with fail
            refine HINR.out.mono ?_
            rintro e w2 ⟨b, rfl, hb, hb2⟩
            have hbw := bstep HBR.out hb2
            cases b with
            | false =>
              have HPN := hide (show ¬ PrepOk a' ev cs.length f t en from fun h => by have h1 := hb.2 (h.2 _ (List.mem_of_getElem? HX.out)); cases h1)
              clear hb
              have gR2 := (hbw.block _ (box_lt HGR.out)).trans HGR.out
              obtain ⟨r0, r1, r2, r3, r4, r5, r6⟩ := box7 gR2
              obtain ⟨q0, q1, q2, q3, q4, q5, q6⟩ := froz7 gR2
              go_wp2_with fail
              refine (show bodyPost _ _ _ Exit.ret _ (put7 w2 (w.heap.size + 1) (.slice none 0 0) (.slice none 0 0) (.slice none 0 0) (.slice none 0 0) (.slice none 0 0) (.slice none 0 0) (.int .i64 0)) from ?_)
              have HF := hide (show PrepPost a' (some ⟨bv, ov, none⟩) cV ev cs f t en w (.returned (.tuple #[.agg #[.slice none 0 0, .slice none 0 0, .slice none 0 0, .slice none 0 0, .slice none 0 0, .slice none 0 0, .int .i64 0], .int .i64 1])) (put7 w2 (w.heap.size + 1) (.slice none 0 0) (.slice none 0 0) (.slice none 0 0) (.slice none 0 0) (.slice none 0 0) (.slice none 0 0) (.int .i64 0)) from ⟨put7_below (bstep HB0.out hbw) (by omega), .inl ⟨HPN.out, _, rfl, rfl⟩⟩)
              obtain ⟨s0, s1, s2, s3, s4, s5, s6⟩ := box7 (put7_at (a := .slice none 0 0) (b := .slice none 0 0) (c := .slice none 0 0) (d := .slice none 0 0) (e := .slice none 0 0) (f := .slice none 0 0) (g := .int .i64 0) gR2)
              generalize put7 w2 (w.heap.size + 1) (.slice none 0 0) (.slice none 0 0) (.slice none 0 0) (.slice none 0 0) (.slice none 0 0) (.slice none 0 0) (.int .i64 0) = Wf at *
              exact bodyPost_ret (v := .tuple #[.agg #[.slice none 0 0, .slice none 0 0, .slice none 0 0, .slice none 0 0, .slice none 0 0, .slice none 0 0, .int .i64 0], .int .i64 1]) (by simp [results, Try.results56, go_sem, s0, s1, s2, s3, s4, s5, s6]) rfl HF.out
            | true =>
              have HN := hide (show ∀ j s, j < k + 1 → ev[j]? = some s → Incr s.xs from fun j s hj hs => by
                rcases Nat.lt_or_ge j k with h1 | h1
                · exact HINC.out j s h1 hs
                · have : j = k := by omega
                  subst this
                  rw [HX.out] at hs
                  injection hs with hs
                  subst hs
                  exact hb.1 rfl)
              clear hb
              go_wp2_with fail
              exact ⟨⟨k + 1, hlt, by go_num, HN.out, hbw⟩, by simp [intOf]; omega⟩
          · have hke : k = ev.length := by omega
            subst hke
            have hpb2 : prepB true ev.length a'.nE cs.length a'.nC f t en = true := by rw [HNE.out.1, HNE.out.2]; exact HPT.out
            have HOKP := hide (show PrepOk a' ev cs.length f t en from ⟨by rw [HVB.out]; exact hpb2, fun s hs => by obtain ⟨j, hj⟩ := List.getElem?_of_mem hs; exact HINC.out j s (List.getElem?_eq_some_iff.1 hj).1 hj⟩)
            have gA2 := (HBR.out.block _ (box_lt HGA.out)).trans HGA.out
            obtain ⟨k0, k1, k2, k3, -⟩ := box4 gA2
            obtain ⟨Wx, hWx⟩ : ∃ Wx, wr.alloc (.cells #[.slice AE nE cE, .slice AC nC cC, .slice AF fin.length cF, .slice AX edges.length cX, .slice AV ev.length cV, .slice none 0 0, .int .i64 en] 83) = Wx := ⟨_, rfl⟩
            have gx := new_at hWx
            have hbx : Below wr.heap.size wr Wx := by rw [← hWx]; exact (Below.refl _ _).alloc (Nat.le_refl _) _
            have HWX := hide hWx
            have HGX := hide gx
            have HBX := hide (bstep HBR.out hbx)
            clear hWx gx hbx gA2
            go_upto_region 10 with (fail)
            rw [HWX.out]
            clear k0 k1 k2 k3 hpb2 HINC
            have hcx := (HCS.out.step HBX.out)
            have hzb : wr.heap.size < Wx.heap.size := box_lt HGX.out
            have HBZ := hide HBR.out.size
            generalize wr.heap.size = Bx at *
            go_wp2_with fail
            go_loopw [74] (fun i wr => PrepCs cs (fun AS cS n => #[.slice AE nE cE, .slice AC nC cC, .slice AF fin.length cF, .slice AX edges.length cX, .slice AV ev.length cV, .slice AS n cS, .int .i64 en]) Bx W0 Wx i wr) (fun i _ => cs.length - (intOf i).toNat)
            case atStart => exact ⟨0, none, 0, [], Nat.zero_le _, rfl, rfl, HGX.out, World.ownsRow_nil _ _ _ 1, (fun s hs => by simp at hs), ⟨fun k s s' _ h => by simp at h, Nat.le_refl _, HBX.out⟩⟩
            case round =>
              obtain ⟨k, AS2, cS2, cs2, hk, rfl, hl2, hgx, hown, hin2, hsm, hszr, hbr2⟩ := hrel
              have HIN2 := hide hin2
              have HSM := hide hsm
              have HBR2 := hide hbr2
              have HL2 := hide hl2
              have HGX2 := hide hgx
              have HOWN := hide hown
              have HWXR := hide (show Wx.heap.size ≤ wr.heap.size from hszr)
              clear hszr
              clear hin2 hsm hbr2 hl2 hown
              by_cases hlt : k < cs.length
              · obtain ⟨bc, oc, rfl, hbc', e0, hi⟩ := (HCS.out.step HBR2.out).at_ hlt
                have hsl := HCC.out _ (List.getElem_mem hlt)
                have hx : cs[k]? = some cs[k] := List.getElem?_eq_getElem hlt
                generalize cs[k] = s at *
                obtain ⟨sA, sc, l⟩ := s
                dsimp only at hi hsl e0
                have HX := hide hx
                have hnrm := normal_any sA sc l wr.drew hi (by omega)
                have HNRM := hide hnrm
                obtain ⟨-, -, -, -, -, x5, -⟩ := box7 hgx
                obtain ⟨-, -, -, -, -, fr5, -⟩ := froz7 hgx
                obtain ⟨i0, hi0, hz0, hz1, hz2⟩ := info_parts infoSl
                clear hnrm hi hx hgx
                go_upto_region 13 with (fail)
                have hlB : Bx < wr.heap.size := box_lt HGX2.out
                have hszX : Wx.heap.size ≤ wr.heap.size := HWXR.out
                go_region_law
                  (first
                    | (refine step_append_src rfl (.tmp 79) (.tmp 82) 52 rfl Wx.heap.size 22 i0 _ 1 24 Try.underlying52 hi0 hz0 hz1 hz2 rfl (by decide) (.slice AS2 cs2.length cS2) cs2.length (cs2.flatMap cSlV) rfl HO4.out (some ⟨w4.heap.size, 0, none⟩) 1 1 [.slice A1 ys.length c1] rfl rfl (src_block (t := 22) (fr := (0, 0)) HBX4.out) (by simp [Value.oneCell']) (by have := HL2.out; simp only [maxLen]; omega) (by have := HL2.out; omega) (by have := hb4.size; simp at this ⊢; omega) ?_
                       intro v' w5 hown5 hg5
                       obtain ⟨A5, c5, rfl⟩ := slice_forms hown5
                       have HW5 := hide (box_grown (box_alloc (HP4.out Bx _ HGX2.out)) hg5 (by rw [ob_eq]; exact row_ne HO4.out (box_alloc (HP4.out Bx _ HGX2.out)) (fun cur e => by injection e with _ e; exact typesS e)))
                       have fr55 := (froz7 HW5.out).2.2.2.2.2.1
                       have x55 := (box7 HW5.out).2.2.2.2.2.1
                       have HO5 := hide hown5
                       have HG5 := hide hg5
                       clear hown5 hg5)
                    | (go_simp
                       go_at_call 45
                       refine HNRM.out.mono ?_
                       rintro e w4 ⟨A1, c1, ys, rfl, hownN, hb4, ny, my⟩
                       have HP4 := hide (show ∀ n o, wr.heap[n]? = some o → w4.heap[n]? = some o from fun n o h => (hb4.block n (Array.getElem?_eq_some_iff.1 h).1).trans h)
                       have x54 := (box7 (HP4.out Bx _ HGX2.out)).2.2.2.2.2.1
                       have x56 : (w4.alloc (.cells #[.slice A1 ys.length c1] 22)).cell? ⟨Bx, 5, none⟩ = some (.slice AS2 cs2.length cS2) := (box7 (box_alloc (HP4.out Bx _ HGX2.out))).2.2.2.2.2.1
                       have HO4 := hide (World.ownsRow.alloc (own_block HOWN.out fun g hg => (hb4.block g (own_ob HOWN.out g hg).2 : w4.heap[g]? = wr.heap[g]?)) (.cells #[.slice A1 ys.length c1] 22))
                       have HBX4 := hide (heap_alloc_new w4 (.cells #[.slice A1 ys.length c1] 22))
                       have HON := hide hownN
                       have HB4 := hide hb4
                       have HNY := hide (And.intro ny my)
                       clear hownN ny my)
                    | fail)
                all_goals
                  go_wp2_with fail
                  refine ⟨prep_next (sA := sA) (sc := sc) (l := l) ?_ hlt HL2.out HX.out hzb HWXR.out HBZ.out HIN2.out HSM.out HBR2.out HOWN.out HON.out ⟨HB4.out.os, HB4.out.tape, HB4.out.output, HB4.out.size, HB4.out.block⟩ HNY.out HO5.out HG5.out, by simp [intOf]; omega⟩
                  simp [World.setCell, Array.getElem?_modify, HW5.out]
              · have hke : k = cs.length := by omega
                clear hcx
                have hX5 := box7 hgx
                obtain ⟨x0, x1, x2, x3, x4, x5, x6⟩ := hX5
                have gR2 := (HBR2.out.block _ (box_lt HGR.out)).trans HGR.out
                obtain ⟨r0, r1, r2, r3, r4, r5, r6⟩ := box7 gR2
                obtain ⟨q0, q1, q2, q3, q4, q5, q6⟩ := froz7 gR2
                clear hgx
                go_wp2_with fail
                refine (show bodyPost _ _ _ Exit.ret _ (put7 wr (w.heap.size + 1) (.slice AE nE cE) (.slice AC nC cC) (.slice AF fin.length cF) (.slice AX edges.length cX) (.slice AV ev.length cV) (.slice AS2 cs2.length cS2) (.int .i64 en)) from ?_)
                have hbf := put7_below (N := w.heap.size + 1) (a := .slice AE nE cE) (b := .slice AC nC cC) (c := .slice AF fin.length cF) (d := .slice AX edges.length cX) (e := .slice AV ev.length cV) (f := .slice AS2 cs2.length cS2) (g := .int .i64 en) (bstep HB0.out HBR2.out) (by omega)
                have hcf := prep_cs (own_block (w' := put7 wr (w.heap.size + 1) (.slice AE nE cE) (.slice AC nC cC) (.slice AF fin.length cF) (.slice AX edges.length cX) (.slice AV ev.length cV) (.slice AS2 cs2.length cS2) (.int .i64 en)) HOWN.out fun g hg => put7_other (by have := (own_ob HOWN.out g hg).1; have := HBZ.out; omega)) (fun s hs => own_block (HIN2.out s hs) fun g hg => put7_other (by have := (own_ob (HIN2.out s hs) g hg).1; have := HBZ.out; omega))
                have hsf : SameSets cs cs2 := ⟨HL2.out.trans hke, HSM.out⟩
                have HF := hide (show PrepPost a' AV cV ev cs f t en w (.returned (.tuple #[.agg #[.slice AE nE cE, .slice AC nC cC, .slice AF fin.length cF, .slice AX edges.length cX, .slice AV ev.length cV, .slice AS2 cs2.length cS2, .int .i64 en], .int .i64 0])) (put7 wr (w.heap.size + 1) (.slice AE nE cE) (.slice AC nC cC) (.slice AF fin.length cF) (.slice AX edges.length cX) (.slice AV ev.length cV) (.slice AS2 cs2.length cS2) (.int .i64 en)) from ⟨hbf, .inr ⟨HOKP.out, AS2, cS2, cs2, by unfold encX; rw [HEX.out]; rfl, hcf, hsf⟩⟩)
                clear hbf hcf hsf
                obtain ⟨s0, s1, s2, s3, s4, s5, s6⟩ := box7 (put7_at (a := .slice AE nE cE) (b := .slice AC nC cC) (c := .slice AF fin.length cF) (d := .slice AX edges.length cX) (e := .slice AV ev.length cV) (f := .slice AS2 cs2.length cS2) (g := .int .i64 en) gR2)
                generalize put7 wr (w.heap.size + 1) (.slice AE nE cE) (.slice AC nC cC) (.slice AF fin.length cF) (.slice AX edges.length cX) (.slice AV ev.length cV) (.slice AS2 cs2.length cS2) (.int .i64 en) = Wf at *
                exact bodyPost_ret (v := .tuple #[.agg #[.slice AE nE cE, .slice AC nC cC, .slice AF fin.length cF, .slice AX edges.length cX, .slice AV ev.length cV, .slice AS2 cs2.length cS2, .int .i64 en], .int .i64 0]) (by simp [results, Try.results56, go_sem, s0, s1, s2, s3, s4, s5, s6]) rfl HF.out

end Go.Proofs.Ytkbiefklilelmaa
