/-
  Several texts in one: Valid54. Each says at its head what it holds.
-/
import Derived.Test.YtgobkbjkndfliaaGreatDoorAP4
import Derived.Test.YtgobkbjkndfliaaGreatDoorAP12

/-
  automaton.delay and Valid.
-/
namespace Go.Proofs.YtgobkbjkndfliaaGreatDoor
open Go.RowKit

set_option maxRecDepth 100000 in
theorem delay_true (a b : Int) (h : 0 ≤ a ∧ a ≤ b ∧ b ≤ 1099511627776) (w : World) : Calls Tryz.prog 48 #[.int .i64 a, .int .i64 b] w fun e w' => e = .returned (.bool true) ∧ w = w' := by
  have T1 : decide (0 ≤ a) = true := decide_eq_true h.1
  have T2 : decide (a ≤ b) = true := decide_eq_true h.2.1
  have T3 : decide (b ≤ 1099511627776) = true := decide_eq_true h.2.2
  clear h
  go_enter Tryz.func48, Tryz.ntmps48
  go_wp2_with fail
  go_ret
  exact ⟨rfl, rfl⟩
set_option maxRecDepth 100000 in
theorem delay_false (a b : Int) (h : ¬ (0 ≤ a ∧ a ≤ b ∧ b ≤ 1099511627776)) (w : World) : Calls Tryz.prog 48 #[.int .i64 a, .int .i64 b] w fun e w' => e = .returned (.bool false) ∧ w = w' := by
  by_cases h1 : 0 ≤ a
  · by_cases h2 : a ≤ b
    · have T1 : decide (0 ≤ a) = true := decide_eq_true h1
      have T2 : decide (a ≤ b) = true := decide_eq_true h2
      have T3 : decide (b ≤ 1099511627776) = false := decide_eq_false fun h3 => h ⟨h1, h2, h3⟩
      clear h h1 h2
      go_enter Tryz.func48, Tryz.ntmps48
      go_wp2_with fail
      go_ret
      exact ⟨rfl, rfl⟩
    · have T1 : decide (0 ≤ a) = true := decide_eq_true h1
      have T2 : decide (a ≤ b) = false := decide_eq_false h2
      clear h h1 h2
      go_enter Tryz.func48, Tryz.ntmps48
      go_wp2_with fail
      go_ret
      exact ⟨rfl, rfl⟩
  · have T1 : decide (0 ≤ a) = false := decide_eq_false h1
    clear h h1
    go_enter Tryz.func48, Tryz.ntmps48
    go_wp2_with fail
    go_ret
    exact ⟨rfl, rfl⟩

/-- how far the loop over the edges has come -/
def ViRel (a : Aut) (W : World) (i : Value) (wr : World) : Prop := ∃ k : Nat, k ≤ a.edges.length ∧ i = .int .i64 k ∧ (∀ i, i < k → fitsB a.fin.length a.nE a.nC a.edges i = true) ∧ Below W.heap.size W wr ∧ MapII wr W.heap.size k (mapK a.edges k)

set_option maxRecDepth 100000 in
set_option maxHeartbeats 8000000 in
theorem valid_any (a : Aut) (w : World) (h : AutAt w (Lo w.heap.size) a) (hle : AutLe a) :
    Calls Tryz.prog 14 #[.agg (encA a).toArray] w fun e w' => e = .returned (.bool (validB a)) ∧ Below w.heap.size w w' := by
  obtain ⟨AE, nE, cE, AC, nC, cC, AF, cF, fin, AX, cX, edges⟩ := a
  have HLE := hide hle.i64
  have l1 := hle.nE
  have l2 := hle.nC
  have l3 := hle.fin
  have l4 := hle.edges
  have HV := hide (fun (k : Nat) (hk : k < edges.length) (hb : fitsB fin.length nE nC edges k = false) => valid_bad (a := ⟨AE, nE, cE, AC, nC, cC, AF, cF, fin, AX, cX, edges⟩) hk hb)
  have HG := hide (fun h0 hf => valid_good (a := ⟨AE, nE, cE, AC, nC, cC, AF, cF, fin, AX, cX, edges⟩) h0 hf)
  have HH := hide (fun h0 => valid_head (a := ⟨AE, nE, cE, AC, nC, cC, AF, cF, fin, AX, cX, edges⟩) h0)
  obtain ⟨hfin, hedg⟩ := h
  clear hle
  dsimp only [encA] at *
  have hmm := @run_makeMap Tryz.prog
  go_enter Tryz.func14, Tryz.ntmps14
  go_upto_region 1 with (fail)
  obtain ⟨W0, hW0⟩ : ∃ W0 : World, w.alloc (.cells #[.slice AE nE cE, .slice AC nC cC, .slice AF fin.length cF, .slice AX edges.length cX] 30) = W0 := ⟨_, rfl⟩
  have gN : W0.heap[w.heap.size]? = some (.cells #[.slice AE nE cE, .slice AC nC cC, .slice AF fin.length cF, .slice AX edges.length cX] 30 (0, 0)) := by rw [← hW0]; exact heap_alloc_new w _
  have hb0 : Below w.heap.size w W0 := by rw [← hW0]; exact (Below.refl _ _).alloc (Nat.le_refl _) _
  rw [hW0]
  clear hW0
  have hzN := box_lt gN
  have hfin0 := hfin.grow hb0
  have hedg0 := hedg.grow hb0
  obtain ⟨k0, k1, k2, k3, _⟩ := box4 gN
  have HK := hide (show ∀ W : World, Below W0.heap.size W0 W → W.cell? ⟨w.heap.size, 0, none⟩ = some (.slice AE nE cE) ∧ W.cell? ⟨w.heap.size, 1, none⟩ = some (.slice AC nC cC) ∧ W.cell? ⟨w.heap.size, 2, none⟩ = some (.slice AF fin.length cF) ∧ W.cell? ⟨w.heap.size, 3, none⟩ = some (.slice AX edges.length cX) from fun W hb => by
    obtain ⟨k0, k1, k2, k3, _⟩ := box4 (t := 30) ((hb.block _ hzN).trans gN)
    exact ⟨k0, k1, k2, k3⟩)
  clear hfin hedg gN
  have hcases := head_cases fin
  rcases hcases with ⟨h1, h2⟩ | ⟨h1, h2⟩ | ⟨h1, h1', h3, h2⟩ | ⟨h1, h1', h3, h2⟩
  · have HR := hide (HH.out h2)
    have t1 : decide ((fin.length : Int) < 2) = true := decide_eq_true (by omega)
    clear h2
    go_wp2_with fail
    go_ret
    exact ⟨by rw [HR.out]; rfl, hb0⟩
  · have HR := hide (HH.out h2)
    have t1 : decide ((fin.length : Int) < 2) = false := decide_eq_false (by omega)
    have t2 : decide (33 < (fin.length : Int)) = true := decide_eq_true (by omega)
    clear h2
    go_wp2_with fail
    go_ret
    exact ⟨by rw [HR.out]; rfl, hb0⟩
  all_goals
    have hl0 : 0 < fin.length := by omega
    have hf0 : fin[0]? = some fin[0] := List.getElem?_eq_getElem hl0
    rw [hf0] at h3
    injection h3 with h3
    obtain ⟨b0, o0, hAe, _, q0⟩ := hfin0.bool_at hl0
    subst hAe
    rw [h3, Nat.add_zero] at q0
    have t1 : decide ((fin.length : Int) < 2) = false := decide_eq_false (by omega)
    have t2 : decide (33 < (fin.length : Int)) = false := decide_eq_false (by omega)
    have HH2 := hide h2
    clear h2 hf0 h3
  · have HR := hide (HH.out HH2.out)
    go_wp2_with fail
    go_ret
    exact ⟨by rw [HR.out]; rfl, hb0⟩
  have HM0 := hide (MapII.made W0)
  have HBM := hide (show Below W0.heap.size W0 (W0.alloc (.map #[] 0)) from (Below.refl _ _).alloc (Nat.le_refl _) _)
  go_wp2_with fail
  go_loopw [29] (fun i wr => ViRel ⟨AE, nE, cE, AC, nC, cC, some ⟨b0, o0, none⟩, cF, fin, AX, cX, edges⟩ W0 i wr) (fun i _ => edges.length - (intOf i).toNat)
  case atStart => exact ⟨0, Nat.zero_le _, rfl, fun i hi => absurd hi (Nat.not_lt_zero _), HBM.out, HM0.out⟩
  case round =>
    obtain ⟨k, hk, rfl, hgood, hbr, hmap⟩ := hrel
    have HGD := hide hgood
    have HMP := hide hmap
    clear hgood hmap
    dsimp only at hk
    obtain ⟨k0, k1, k2, k3⟩ := HK.out wr hbr
    by_cases hlt : k < edges.length
    · have hedg1 := (hedg0.stay (stay_below hbr fun _ h => h)).more fun b hb' => Nat.lt_of_lt_of_le hb' hbr.size
      obtain ⟨be, oe, hAe, hbe, e0, e1, e2, e3, e4, e5⟩ := hedg1.edg_at hlt
      subst hAe
      have HF := hide (fits_at (n := fin.length) (nE := nE) (nC := nC) hlt)
      have HBAD := hide (HV.out k hlt)
      have HUP := hide (fun hb => valid_upto (a := ⟨AE, nE, cE, AC, nC, cC, some ⟨b0, o0, none⟩, cF, fin, some ⟨be, oe, none⟩, cX, edges⟩) HGD.out hb)
      have hi6 := HLE.out _ (List.getElem_mem hlt)
      have hx : edges[k]? = some edges[k] := List.getElem?_eq_getElem hlt
      generalize edges[k] = x at *
      have HX := hide hx
      have HI6 := hide hi6
      clear hx hi6
      obtain ⟨f, t, ev, wh, lo, hi⟩ := x
      dsimp only at *
      obtain ⟨W1, hW1⟩ : ∃ W1 : World, wr.alloc (.cells #[.int .i64 f, .int .i64 t, .int .i64 ev, .int .i64 wh, .int .i64 lo, .int .i64 hi] 39) = W1 := ⟨_, rfl⟩
      have g1 : W1.heap[wr.heap.size]? = some (.cells #[.int .i64 f, .int .i64 t, .int .i64 ev, .int .i64 wh, .int .i64 lo, .int .i64 hi] 39 (0, 0)) := by rw [← hW1]; exact heap_alloc_new wr _
      have hb1 : Below W0.heap.size W0 W1 := by rw [← hW1]; exact hbr.alloc hbr.size _
      have HM1 := hide (show MapII W1 W0.heap.size k (mapK edges k) by rw [← hW1]; exact HMP.out.alloc _)
      have HW1 := hide hW1
      clear hW1
      generalize hNF : fin.length = NF at *
      have HNF := hide hNF
      clear hNF
      go_upto_region 7 with (fail)
      rw [HW1.out]
      clear k0 k1 k2 k3 e0 e1 e2 e3 e4 e5
      obtain ⟨k0, k1, k2, k3⟩ := HK.out W1 hb1
      obtain ⟨f0, f1, f2, f3, f4, f5⟩ := box6 g1
      have hlX : wr.heap.size < W1.heap.size := box_lt g1
      have HG1 := hide g1
      clear g1 HW1 HMP
      generalize wr.heap.size = XB at *
      obtain ⟨ob, hob⟩ : ∃ ob : Bool, (if h : 0 < k then ordB (edges[k - 1]'(by omega)) ⟨f, t, ev, wh, lo, hi⟩ else true) = ob := ⟨_, rfl⟩
      rw [hob] at HF
      have HOB := hide hob
      clear hob
      go_upto_if 35 with (fail)
      go_cut [6] (fun _ wx => ob = true ∧ Below W1.heap.size W1 wx)
      case first =>
        by_cases hk0 : 0 < k
        · have T0 : decide (0 < k) = true := decide_eq_true hk0
          have hob := HOB.out
          rw [dif_pos hk0] at hob
          have hlk : k - 1 < edges.length := by omega
          have hedgW := (hedg0.stay (stay_below hb1 fun _ h => h))
          obtain ⟨be', oe', hAe', _, y0, y1, y2, y3, y4, y5⟩ := hedgW.edg_at hlk
          injection hAe' with hAe'
          injection hAe' with e1 e2
          subst e1 e2
          generalize edges[k - 1] = y at *
          obtain ⟨yf, yt, yev, ywh, ylo, yhi⟩ := y
          dsimp only at *
          have hw : IntKind.i64.wrap ((k : Int) - 1) = ((k - 1 : Nat) : Int) := by rw [IntWalk.i64_in _ (by omega)]; omega
          have hj1 : ((k - 1 : Nat) : Int) < (edges.length : Int) := by omega
          have hj0 : (0 : Int) ≤ ((k - 1 : Nat) : Int) := by omega
          have hk1 : (1 : Int) ≤ (k : Int) := by omega
          have HOBX := hide hob
          clear hob hk0 hedgW hlk
          obtain ⟨W2, hW2⟩ : ∃ W2 : World, W1.alloc (.cells #[.int .i64 yf, .int .i64 yt, .int .i64 yev, .int .i64 ywh, .int .i64 ylo, .int .i64 yhi] 39) = W2 := ⟨_, rfl⟩
          have u1 : W2.heap[W1.heap.size]? = some (.cells #[.int .i64 yf, .int .i64 yt, .int .i64 yev, .int .i64 ywh, .int .i64 ylo, .int .i64 yhi] 39 (0, 0)) := by rw [← hW2]; exact heap_alloc_new W1 _
          have hbU : Below W1.heap.size W1 W2 := by rw [← hW2]; exact (Below.refl _ _).alloc (Nat.le_refl _) _
          have HW2 := hide hW2
          clear hW2
          go_upto_region 9 with (fail)
          rw [HW2.out]
          obtain ⟨v0, v1, _, _, _, _⟩ := box6 u1
          obtain ⟨x0, x1, _, _, _, _⟩ := box6 ((hbU.block _ hlX).trans HG1.out)
          clear u1 HW2 k0 k1 k2 k3 f0 f1 f2 f3 f4 f5 y0 y1 y2 y3 y4 y5
          by_cases s1 : f < yf
          · have T1 : decide (f < yf) = true := decide_eq_true s1
            have HO := hide (show ob = false by rw [← HOBX.out]; exact decide_eq_false (by dsimp only; omega))
            have HB := hide (HBAD.out (by rw [HF.out, HO.out]; simp))
            clear s1
            go_wp2_with fail
            go_ret
            exact ⟨by rw [HB.out]; rfl, bstep hb0 (bstep hb1 hbU)⟩
          · have T1 : decide (f < yf) = false := decide_eq_false s1
            by_cases s2 : f = yf
            · have T2 : (f == yf) = true := beq_iff_eq.2 s2
              by_cases s3 : t ≤ yt
              · have T3 : decide (t ≤ yt) = true := decide_eq_true s3
                have HO := hide (show ob = false by rw [← HOBX.out]; exact decide_eq_false (by dsimp only; omega))
                have HB := hide (HBAD.out (by rw [HF.out, HO.out]; simp))
                clear s1 s2 s3
                go_wp2_with fail
                go_ret
                exact ⟨by rw [HB.out]; rfl, bstep hb0 (bstep hb1 hbU)⟩
              · have T3 : decide (t ≤ yt) = false := decide_eq_false s3
                have HO := hide (show ob = true by rw [← HOBX.out]; exact decide_eq_true (by dsimp only; omega))
                clear s1 s2 s3
                go_wp2_with fail
                go_meet
                exact ⟨HO.out, hbU⟩
            · have T2 : (f == yf) = false := beq_eq_false_iff_ne.2 s2
              have HO := hide (show ob = true by rw [← HOBX.out]; exact decide_eq_true (by dsimp only; omega))
              clear s1 s2
              go_wp2_with fail
              go_meet
              exact ⟨HO.out, hbU⟩
        · have T0 : decide (0 < k) = false := decide_eq_false hk0
          have HO := hide (show ob = true by rw [← HOB.out, dif_neg hk0])
          go_wp2_with fail
          go_meet
          exact ⟨HO.out, Below.refl _ _⟩
      case rest =>
        obtain ⟨hob1, hbc⟩ := hcut
        rw [hob1, Bool.and_true] at HF
        have hb2 : Below W0.heap.size W0 wc := bstep hb1 hbc
        have HM2 := hide (HM1.out.block (hbc.block _ HM1.out.lt))
        have HG2 := hide ((hbc.block _ hlX).trans HG1.out)
        clear hob1 HOB k0 k1 k2 k3 f0 f1 f2 f3 f4 f5 HG1 HM1 hlX
        clear hbc hb1
        generalize wc = V at *
        obtain ⟨k0, k1, k2, k3⟩ := HK.out V hb2
        obtain ⟨f0, f1, f2, f3, f4, f5⟩ := box6 HG2.out
        go_upto_region 11 with (fail)
        go_cut [112] (fun v wx => v = .bool (!(edgeB NF nE nC ⟨f, t, ev, wh, lo, hi⟩)) ∧ V = wx)
        case first =>
          by_cases c1 : 0 ≤ f
          · by_cases c2 : f < t
            · by_cases c3 : t < (NF : Int)
              · by_cases c4 : 0 ≤ ev
                · by_cases c5 : ev < (nE : Int)
                  · by_cases c6 : -1 ≤ wh
                    · by_cases c7 : wh < (nC : Int)
                      · by_cases c8 : 0 ≤ lo ∧ lo ≤ hi ∧ hi ≤ 1099511627776
                        · have T1 : decide (f < 0) = false := decide_eq_false (by omega)
                          have T2 : decide (t ≤ f) = false := decide_eq_false (by omega)
                          have T3 : decide ((NF : Int) ≤ t) = false := decide_eq_false (by omega)
                          have T4 : decide (ev < 0) = false := decide_eq_false (by omega)
                          have T5 : decide ((nE : Int) ≤ ev) = false := decide_eq_false (by omega)
                          have T6 : decide (wh < -1) = false := decide_eq_false (by omega)
                          have T7 : decide ((nC : Int) ≤ wh) = false := decide_eq_false (by omega)
                          have HEB := hide (show edgeB NF nE nC ⟨f, t, ev, wh, lo, hi⟩ = true from decide_eq_true (by dsimp only; omega))
                          have HC8 := hide c8
                          clear c1 c2 c3 c4 c5 c6 c7 c8
                          as_aux_lemma =>
                            go_wp2_with (go_at_call 48; refine (delay_true lo hi HC8.out _).mono ?_; rintro e w2 ⟨rfl, rfl⟩)
                            go_meet
                            exact ⟨by rw [HEB.out]; rfl, rfl⟩
                        · have T1 : decide (f < 0) = false := decide_eq_false (by omega)
                          have T2 : decide (t ≤ f) = false := decide_eq_false (by omega)
                          have T3 : decide ((NF : Int) ≤ t) = false := decide_eq_false (by omega)
                          have T4 : decide (ev < 0) = false := decide_eq_false (by omega)
                          have T5 : decide ((nE : Int) ≤ ev) = false := decide_eq_false (by omega)
                          have T6 : decide (wh < -1) = false := decide_eq_false (by omega)
                          have T7 : decide ((nC : Int) ≤ wh) = false := decide_eq_false (by omega)
                          have HEB := hide (show edgeB NF nE nC ⟨f, t, ev, wh, lo, hi⟩ = false from decide_eq_false (by dsimp only; omega))
                          have HC8 := hide c8
                          clear c1 c2 c3 c4 c5 c6 c7 c8
                          as_aux_lemma =>
                            go_wp2_with (go_at_call 48; refine (delay_false lo hi HC8.out _).mono ?_; rintro e w2 ⟨rfl, rfl⟩)
                            go_meet
                            exact ⟨by rw [HEB.out]; rfl, rfl⟩
                      · have T1 : decide (f < 0) = false := decide_eq_false (by omega)
                        have T2 : decide (t ≤ f) = false := decide_eq_false (by omega)
                        have T3 : decide ((NF : Int) ≤ t) = false := decide_eq_false (by omega)
                        have T4 : decide (ev < 0) = false := decide_eq_false (by omega)
                        have T5 : decide ((nE : Int) ≤ ev) = false := decide_eq_false (by omega)
                        have T6 : decide (wh < -1) = false := decide_eq_false (by omega)
                        have T7 : decide ((nC : Int) ≤ wh) = true := decide_eq_true (by omega)
                        have HEB := hide (show edgeB NF nE nC ⟨f, t, ev, wh, lo, hi⟩ = false from decide_eq_false (by dsimp only; omega))
                        clear c1 c2 c3 c4 c5 c6 c7
                        as_aux_lemma =>
                          go_wp2_with fail
                          go_meet
                          exact ⟨by rw [HEB.out]; rfl, rfl⟩
                    · have T1 : decide (f < 0) = false := decide_eq_false (by omega)
                      have T2 : decide (t ≤ f) = false := decide_eq_false (by omega)
                      have T3 : decide ((NF : Int) ≤ t) = false := decide_eq_false (by omega)
                      have T4 : decide (ev < 0) = false := decide_eq_false (by omega)
                      have T5 : decide ((nE : Int) ≤ ev) = false := decide_eq_false (by omega)
                      have T6 : decide (wh < -1) = true := decide_eq_true (by omega)
                      have HEB := hide (show edgeB NF nE nC ⟨f, t, ev, wh, lo, hi⟩ = false from decide_eq_false (by dsimp only; omega))
                      clear c1 c2 c3 c4 c5 c6
                      as_aux_lemma =>
                        go_wp2_with fail
                        go_meet
                        exact ⟨by rw [HEB.out]; rfl, rfl⟩
                  · have T1 : decide (f < 0) = false := decide_eq_false (by omega)
                    have T2 : decide (t ≤ f) = false := decide_eq_false (by omega)
                    have T3 : decide ((NF : Int) ≤ t) = false := decide_eq_false (by omega)
                    have T4 : decide (ev < 0) = false := decide_eq_false (by omega)
                    have T5 : decide ((nE : Int) ≤ ev) = true := decide_eq_true (by omega)
                    have HEB := hide (show edgeB NF nE nC ⟨f, t, ev, wh, lo, hi⟩ = false from decide_eq_false (by dsimp only; omega))
                    clear c1 c2 c3 c4 c5
                    as_aux_lemma =>
                      go_wp2_with fail
                      go_meet
                      exact ⟨by rw [HEB.out]; rfl, rfl⟩
                · have T1 : decide (f < 0) = false := decide_eq_false (by omega)
                  have T2 : decide (t ≤ f) = false := decide_eq_false (by omega)
                  have T3 : decide ((NF : Int) ≤ t) = false := decide_eq_false (by omega)
                  have T4 : decide (ev < 0) = true := decide_eq_true (by omega)
                  have HEB := hide (show edgeB NF nE nC ⟨f, t, ev, wh, lo, hi⟩ = false from decide_eq_false (by dsimp only; omega))
                  clear c1 c2 c3 c4
                  as_aux_lemma =>
                    go_wp2_with fail
                    go_meet
                    exact ⟨by rw [HEB.out]; rfl, rfl⟩
              · have T1 : decide (f < 0) = false := decide_eq_false (by omega)
                have T2 : decide (t ≤ f) = false := decide_eq_false (by omega)
                have T3 : decide ((NF : Int) ≤ t) = true := decide_eq_true (by omega)
                have HEB := hide (show edgeB NF nE nC ⟨f, t, ev, wh, lo, hi⟩ = false from decide_eq_false (by dsimp only; omega))
                clear c1 c2 c3
                as_aux_lemma =>
                  go_wp2_with fail
                  go_meet
                  exact ⟨by rw [HEB.out]; rfl, rfl⟩
            · have T1 : decide (f < 0) = false := decide_eq_false (by omega)
              have T2 : decide (t ≤ f) = true := decide_eq_true (by omega)
              have HEB := hide (show edgeB NF nE nC ⟨f, t, ev, wh, lo, hi⟩ = false from decide_eq_false (by dsimp only; omega))
              clear c1 c2
              as_aux_lemma =>
                go_wp2_with fail
                go_meet
                exact ⟨by rw [HEB.out]; rfl, rfl⟩
          · have T1 : decide (f < 0) = true := decide_eq_true (by omega)
            have HEB := hide (show edgeB NF nE nC ⟨f, t, ev, wh, lo, hi⟩ = false from decide_eq_false (by dsimp only; omega))
            clear c1
            as_aux_lemma =>
              go_wp2_with fail
              go_meet
              exact ⟨by rw [HEB.out]; rfl, rfl⟩
        case rest =>
          obtain ⟨rfl, rfl⟩ := hcut
          cases hE : edgeB NF nE nC ⟨f, t, ev, wh, lo, hi⟩ with
          | false =>
            have HB := hide (HBAD.out (by rw [HF.out, hE]; rfl))
            clear hE
            as_aux_lemma =>
              go_wp2_with fail
              go_ret
              exact ⟨by rw [HB.out]; rfl, bstep hb0 hb2⟩
          | true =>
            rw [hE, Bool.true_and] at HF
            clear hE
            go_upto_region 13 with (fail)
            go_cut [125] (fun v wx => v = .bool (!(startB ⟨f, t, ev, wh, lo, hi⟩)) ∧ V = wx)
            case first =>
              by_cases s1 : f = 0
              · by_cases s2 : hi = 0
                · by_cases s3 : wh = -1
                  · have T1 : (f == 0) = true := beq_iff_eq.2 s1
                    have T2 : (hi != 0) = false := by simp [s2]
                    have T3 : (wh != -1) = false := by simp [s3]
                    have HEB := hide (show startB ⟨f, t, ev, wh, lo, hi⟩ = true from decide_eq_true fun _ => ⟨s2, s3⟩)
                    clear s1 s2 s3
                    as_aux_lemma =>
                      go_wp2_with fail
                      go_meet
                      exact ⟨by rw [HEB.out]; rfl, rfl⟩
                  · have T1 : (f == 0) = true := beq_iff_eq.2 s1
                    have T2 : (hi != 0) = false := by simp [s2]
                    have T3 : (wh != -1) = true := by rw [bne_iff_ne]; exact s3
                    have HEB := hide (show startB ⟨f, t, ev, wh, lo, hi⟩ = false from decide_eq_false fun h => s3 (h s1).2)
                    clear s1 s2 s3
                    as_aux_lemma =>
                      go_wp2_with fail
                      go_meet
                      exact ⟨by rw [HEB.out]; rfl, rfl⟩
                · have T1 : (f == 0) = true := beq_iff_eq.2 s1
                  have T2 : (hi != 0) = true := by rw [bne_iff_ne]; exact s2
                  have HEB := hide (show startB ⟨f, t, ev, wh, lo, hi⟩ = false from decide_eq_false fun h => s2 (h s1).1)
                  clear s1 s2
                  as_aux_lemma =>
                    go_wp2_with fail
                    go_meet
                    exact ⟨by rw [HEB.out]; rfl, rfl⟩
              · have T1 : (f == 0) = false := beq_eq_false_iff_ne.2 s1
                have HEB := hide (show startB ⟨f, t, ev, wh, lo, hi⟩ = true from decide_eq_true fun h => absurd h s1)
                clear s1
                as_aux_lemma =>
                  go_wp2_with fail
                  go_meet
                  exact ⟨by rw [HEB.out]; rfl, rfl⟩
            case rest =>
              obtain ⟨rfl, rfl⟩ := hcut
              cases hE : startB ⟨f, t, ev, wh, lo, hi⟩ with
              | false =>
                have HB := hide (HBAD.out (by rw [HF.out, hE]; rfl))
                clear hE
                as_aux_lemma =>
                  go_wp2_with fail
                  go_ret
                  exact ⟨by rw [HB.out]; rfl, bstep hb0 hb2⟩
              | true =>
                rw [hE, Bool.true_and] at HF
                clear hE
                have hlk := HM2.out.look (i := t) HI6.out.2.1
                obtain ⟨D, hown, hDm⟩ := HM2.out
                have HPUT := hide (show ∀ V2 : World, V2.ownsMap Tryz.prog 3 (plainElem Tryz.prog 3) W0.heap.size (k + 1) (D.put (.int .i64 t) (.lit (.int .i64 ev))) → V.grownBy V2 (some W0.heap.size) → Below W0.heap.size W0 V2 ∧ MapII V2 W0.heap.size (k + 1) (mapK edges (k + 1)) from fun V2 hm3 hg3 => ⟨hb2.grown hg3 hb2.size (fun n hn => by injection hn with hn; omega), by rw [mapK_succ HX.out]; exact map_put hm3 hown.isMap hDm⟩)
                have hkm : k < maxLen := by unfold maxLen; omega
                have HKEY := hide (Maps.keyOf_int_mk Tryz.underlying3 (i64_wf (i := t) HI6.out.2.1))
                have HVAL := hide (plainElem_int (H := Unit) Tryz.underlying3 (i64_wf (i := ev) HI6.out.2.2.1))
                clear hDm
                cases hmk : mapK edges k t with
                | none =>
                  rw [hmk] at hlk
                  simp only [Option.getD, Option.isSome] at hlk
                  have HNX := hide (HUP.out (by rw [HF.out]; exact mapK_all_none (x := ⟨f, t, ev, wh, lo, hi⟩) hmk))
                  clear hmk
                  go_wp2_with (at_mapUpdate; (refine wpList_mapUpdate_own _ rfl _ _ _ 78 rfl 3 3 intKey Tryz.underlying78 _ W0.heap.size k D rfl hown hkm _ _ (.int .i64 t) rfl rfl HKEY.out (.lit (.int .i64 ev)) [] HVAL.out ?_); intro V2 hm3 hg3)
                  obtain ⟨hb3, hm4⟩ := HPUT.out _ hm3 hg3
                  clear hm3 hg3
                  exact ⟨⟨k + 1, by dsimp only; omega, by go_num, fun i hi => by have h := HNX.out i hi; rw [← HNF.out] at h; exact h, hb3, hm4⟩, by simp [intOf]; omega⟩
                | some e =>
                  rw [hmk] at hlk
                  simp only [Option.getD, Option.isSome] at hlk
                  by_cases he : e = ev
                  · have T1 : (e != ev) = false := by simp [he]
                    have HNX := hide (HUP.out (by rw [HF.out]; exact mapK_all_some (x := ⟨f, t, ev, wh, lo, hi⟩) HGD.out hmk he))
                    clear hmk he
                    go_wp2_with (at_mapUpdate; (refine wpList_mapUpdate_own _ rfl _ _ _ 78 rfl 3 3 intKey Tryz.underlying78 _ W0.heap.size k D rfl hown hkm _ _ (.int .i64 t) rfl rfl HKEY.out (.lit (.int .i64 ev)) [] HVAL.out ?_); intro V2 hm3 hg3)
                    obtain ⟨hb3, hm4⟩ := HPUT.out _ hm3 hg3
                    clear hm3 hg3
                    exact ⟨⟨k + 1, by dsimp only; omega, by go_num, fun i hi => by have h := HNX.out i hi; rw [← HNF.out] at h; exact h, hb3, hm4⟩, by simp [intOf]; omega⟩
                  · have T1 : (e != ev) = true := by rw [bne_iff_ne]; exact he
                    have HB := hide (HBAD.out (by rw [HF.out]; exact mapK_all_bad (x := ⟨f, t, ev, wh, lo, hi⟩) hmk he))
                    clear hmk he
                    go_wp2_with fail
                    go_ret
                    exact ⟨by rw [HB.out]; rfl, bstep hb0 hb2⟩
    · have hke : k = edges.length := by omega
      subst hke
      have HR := hide (HG.out HH2.out HGD.out)
      go_wp2_with fail
      go_ret
      exact ⟨by rw [HR.out]; rfl, bstep hb0 hbr⟩



end Go.Proofs.YtgobkbjkndfliaaGreatDoor
