/-
  Several texts in one: RefValid54. Each says at its head what it holds.
-/
import Derived.Test.YtgobkbjkndfliaaGreatDoorAP4

/-
  wavestoreref54.Valid.
-/
namespace Go.Proofs.YtgobkbjkndfliaaGreatDoor
open Go.RowKit

/-- how far the loop over the edges has come -/
def VaRel (a : Aut) (W : World) (i : Value) (wr : World) : Prop := ∃ k : Nat, k ≤ a.edges.length ∧ i = .int .i64 k ∧ (∀ i, i < k → fitsB a.fin.length a.nE a.nC a.edges i = true) ∧ Below W.heap.size W wr
/-- the inner loop: the edges ahead that have the same end have the same event -/
def OnRel (xs : List Edg) (k : Nat) (x : Edg) (W : World) (i : Value) (wr : World) : Prop := ∃ m : Nat, m ≤ k ∧ i = .int .i64 m ∧ (∀ i y, i < m → xs[i]? = some y → oneB y x = true) ∧ Below W.heap.size W wr

set_option maxRecDepth 100000 in
set_option maxHeartbeats 8000000 in
theorem rvalid_any (a : Aut) (w : World) (h : AutAt w (Lo w.heap.size) a) (hle : AutLe a) :
    Calls Tryz.prog 15 #[.agg (encA a).toArray] w fun e w' => e = .returned (.bool (validB a)) ∧ Below w.heap.size w w' := by
  obtain ⟨AE, nE, cE, AC, nC, cC, AF, cF, fin, AX, cX, edges⟩ := a
  have HLE := hide hle.i64
  have l1 := hle.nE
  have l2 := hle.nC
  have l3 := hle.fin
  have l4 := hle.edges
  have HV := hide (fun (k : Nat) (hk : k < edges.length) (hb : fitsB fin.length nE nC edges k = false) => valid_bad (a := ⟨AE, nE, cE, AC, nC, cC, AF, cF, fin, AX, cX, edges⟩) hk hb)
  have HG := hide (fun h0 hf => valid_good (a := ⟨AE, nE, cE, AC, nC, cC, AF, cF, fin, AX, cX, edges⟩) h0 hf)
  have HH := hide (fun h0 => valid_head (a := ⟨AE, nE, cE, AC, nC, cC, AF, cF, fin, AX, cX, edges⟩) h0)
  obtain ⟨hfin, hedg⟩ := h
  clear hle
  dsimp only [encA] at *
  go_enter Tryz.func15, Tryz.ntmps15
  go_upto_region 1 with (fail)
  obtain ⟨W0, hW0⟩ : ∃ W0 : World, w.alloc (.cells #[.slice AE nE cE, .slice AC nC cC, .slice AF fin.length cF, .slice AX edges.length cX] 30) = W0 := ⟨_, rfl⟩
  have gN : W0.heap[w.heap.size]? = some (.cells #[.slice AE nE cE, .slice AC nC cC, .slice AF fin.length cF, .slice AX edges.length cX] 30 (0, 0)) := by rw [← hW0]; exact heap_alloc_new w _
  have hb0 : Below w.heap.size w W0 := by rw [← hW0]; exact (Below.refl _ _).alloc (Nat.le_refl _) _
  rw [hW0]
  clear hW0
  have hzN := box_lt gN
  have hfin0 := hfin.grow hb0
  have hedg0 := hedg.grow hb0
  obtain ⟨k0, k1, k2, k3, _⟩ := box4 gN
  have HK := hide (show ∀ W : World, Below W0.heap.size W0 W → W.cell? ⟨w.heap.size, 0, none⟩ = some (.slice AE nE cE) ∧ W.cell? ⟨w.heap.size, 1, none⟩ = some (.slice AC nC cC) ∧ W.cell? ⟨w.heap.size, 3, none⟩ = some (.slice AX edges.length cX) from fun W hb => by
    obtain ⟨k0, k1, k2, k3, _⟩ := box4 (t := 30) ((hb.block _ hzN).trans gN)
    exact ⟨k0, k1, k3⟩)
  clear hfin hedg gN
  have hcases := head_cases fin
  rcases hcases with ⟨h1, h2⟩ | ⟨h1, h2⟩ | ⟨h1, h1', h3, h2⟩ | ⟨h1, h1', h3, h2⟩
  · have HR := hide (HH.out h2)
    have t1 : decide ((fin.length : Int) < 2) = true := decide_eq_true (by omega)
    clear h2
    go_wp2_with fail
    go_ret
    exact ⟨by rw [HR.out]; rfl, hb0⟩
  · have HR := hide (HH.out h2)
    have t1 : decide ((fin.length : Int) < 2) = false := decide_eq_false (by omega)
    have t2 : decide (33 < (fin.length : Int)) = true := decide_eq_true (by omega)
    clear h2
    go_wp2_with fail
    go_ret
    exact ⟨by rw [HR.out]; rfl, hb0⟩
  all_goals
    have hl0 : 0 < fin.length := by omega
    have hf0 : fin[0]? = some fin[0] := List.getElem?_eq_getElem hl0
    rw [hf0] at h3
    injection h3 with h3
    obtain ⟨b0, o0, hAe, _, q0⟩ := hfin0.bool_at hl0
    subst hAe
    rw [h3, Nat.add_zero] at q0
    have t1 : decide ((fin.length : Int) < 2) = false := decide_eq_false (by omega)
    have t2 : decide (33 < (fin.length : Int)) = false := decide_eq_false (by omega)
    have HH2 := hide h2
    clear h2 hf0 h3
  · have HR := hide (HH.out HH2.out)
    go_wp2_with fail
    go_ret
    exact ⟨by rw [HR.out]; rfl, hb0⟩
  go_wp2_with fail
  go_loopw [4] (fun i wr => VaRel ⟨AE, nE, cE, AC, nC, cC, some ⟨b0, o0, none⟩, cF, fin, AX, cX, edges⟩ W0 i wr) (fun i _ => edges.length - (intOf i).toNat)
  case atStart => exact ⟨0, Nat.zero_le _, rfl, fun i hi => absurd hi (Nat.not_lt_zero _), Below.refl _ _⟩
  case round =>
    obtain ⟨k, hk, rfl, hgood, hbr⟩ := hrel
    have HGD := hide hgood
    clear hgood
    dsimp only at hk
    obtain ⟨k0, k1, k3⟩ := HK.out wr hbr
    by_cases hlt : k < edges.length
    · have hedg1 := (hedg0.stay (stay_below hbr fun _ h => h)).more fun b hb' => Nat.lt_of_lt_of_le hb' hbr.size
      obtain ⟨be, oe, hAe, hbe, e0, e1, e2, e3, e4, e5⟩ := hedg1.edg_at hlt
      subst hAe
      have HF := hide (fits_at (n := fin.length) (nE := nE) (nC := nC) hlt)
      have HBAD := hide (HV.out k hlt)
      have HUP := hide (fun hb => valid_upto (a := ⟨AE, nE, cE, AC, nC, cC, some ⟨b0, o0, none⟩, cF, fin, some ⟨be, oe, none⟩, cX, edges⟩) HGD.out hb)
      obtain ⟨x, hx⟩ : ∃ x : Edg, edges[k] = x := ⟨_, rfl⟩
      rw [hx] at e0 e1 e2 e3 e4 e5 HF
      have HX := hide hx
      clear hx
      obtain ⟨f, t, ev, wh, lo, hi⟩ := x
      dsimp only at *
      obtain ⟨W1, hW1⟩ : ∃ W1 : World, wr.alloc (.cells #[.int .i64 f, .int .i64 t, .int .i64 ev, .int .i64 wh, .int .i64 lo, .int .i64 hi] 39) = W1 := ⟨_, rfl⟩
      have g1 : W1.heap[wr.heap.size]? = some (.cells #[.int .i64 f, .int .i64 t, .int .i64 ev, .int .i64 wh, .int .i64 lo, .int .i64 hi] 39 (0, 0)) := by rw [← hW1]; exact heap_alloc_new wr _
      have hb1 : Below W0.heap.size W0 W1 := by rw [← hW1]; exact hbr.alloc hbr.size _
      have HW1 := hide hW1
      clear hW1
      generalize hNF : fin.length = NF at *
      have HNF := hide hNF
      clear hNF
      go_upto_region 8 with (fail)
      rw [HW1.out]
      clear k0 k1 k3 e0 e1 e2 e3 e4 e5
      obtain ⟨k0, k1, k3⟩ := HK.out W1 hb1
      obtain ⟨f0, f1, f2, f3, f4, f5⟩ := box6 g1
      have HG1 := hide g1
      clear g1


      go_cut [92] (fun v wx => v = .bool (!(edgeB NF nE nC ⟨f, t, ev, wh, lo, hi⟩)) ∧ W1 = wx)
      case first =>
        by_cases c1 : 0 ≤ f
        · by_cases c2 : f < t
          · by_cases c3 : t < (NF : Int)
            · by_cases c4 : 0 ≤ ev
              · by_cases c5 : ev < (nE : Int)
                · by_cases c6 : -1 ≤ wh
                  · by_cases c7 : wh < (nC : Int)
                    · by_cases c8 : 0 ≤ lo
                      · by_cases c9 : lo ≤ hi
                        · by_cases c10 : hi ≤ 1099511627776
                          · have T1 : decide (f < 0) = false := decide_eq_false (by omega)
                            have T2 : decide (t ≤ f) = false := decide_eq_false (by omega)
                            have T3 : decide ((NF : Int) ≤ t) = false := decide_eq_false (by omega)
                            have T4 : decide (ev < 0) = false := decide_eq_false (by omega)
                            have T5 : decide ((nE : Int) ≤ ev) = false := decide_eq_false (by omega)
                            have T6 : decide (wh < -1) = false := decide_eq_false (by omega)
                            have T7 : decide ((nC : Int) ≤ wh) = false := decide_eq_false (by omega)
                            have T8 : decide (lo < 0) = false := decide_eq_false (by omega)
                            have T9 : decide (hi < lo) = false := decide_eq_false (by omega)
                            have T10 : decide (1099511627776 < hi) = false := decide_eq_false (by omega)
                            have HEB := hide (show edgeB NF nE nC ⟨f, t, ev, wh, lo, hi⟩ = true from decide_eq_true (by dsimp only; omega))
                            clear c1 c2 c3 c4 c5 c6 c7 c8 c9 c10
                            as_aux_lemma =>
                              go_wp2_with fail
                              go_meet
                              exact ⟨by rw [HEB.out]; rfl, rfl⟩
                          · have T1 : decide (f < 0) = false := decide_eq_false (by omega)
                            have T2 : decide (t ≤ f) = false := decide_eq_false (by omega)
                            have T3 : decide ((NF : Int) ≤ t) = false := decide_eq_false (by omega)
                            have T4 : decide (ev < 0) = false := decide_eq_false (by omega)
                            have T5 : decide ((nE : Int) ≤ ev) = false := decide_eq_false (by omega)
                            have T6 : decide (wh < -1) = false := decide_eq_false (by omega)
                            have T7 : decide ((nC : Int) ≤ wh) = false := decide_eq_false (by omega)
                            have T8 : decide (lo < 0) = false := decide_eq_false (by omega)
                            have T9 : decide (hi < lo) = false := decide_eq_false (by omega)
                            have T10 : decide (1099511627776 < hi) = true := decide_eq_true (by omega)
                            have HEB := hide (show edgeB NF nE nC ⟨f, t, ev, wh, lo, hi⟩ = false from decide_eq_false (by dsimp only; omega))
                            clear c1 c2 c3 c4 c5 c6 c7 c8 c9 c10
                            as_aux_lemma =>
                              go_wp2_with fail
                              go_meet
                              exact ⟨by rw [HEB.out]; rfl, rfl⟩
                        · have T1 : decide (f < 0) = false := decide_eq_false (by omega)
                          have T2 : decide (t ≤ f) = false := decide_eq_false (by omega)
                          have T3 : decide ((NF : Int) ≤ t) = false := decide_eq_false (by omega)
                          have T4 : decide (ev < 0) = false := decide_eq_false (by omega)
                          have T5 : decide ((nE : Int) ≤ ev) = false := decide_eq_false (by omega)
                          have T6 : decide (wh < -1) = false := decide_eq_false (by omega)
                          have T7 : decide ((nC : Int) ≤ wh) = false := decide_eq_false (by omega)
                          have T8 : decide (lo < 0) = false := decide_eq_false (by omega)
                          have T9 : decide (hi < lo) = true := decide_eq_true (by omega)
                          have HEB := hide (show edgeB NF nE nC ⟨f, t, ev, wh, lo, hi⟩ = false from decide_eq_false (by dsimp only; omega))
                          clear c1 c2 c3 c4 c5 c6 c7 c8 c9
                          as_aux_lemma =>
                            go_wp2_with fail
                            go_meet
                            exact ⟨by rw [HEB.out]; rfl, rfl⟩
                      · have T1 : decide (f < 0) = false := decide_eq_false (by omega)
                        have T2 : decide (t ≤ f) = false := decide_eq_false (by omega)
                        have T3 : decide ((NF : Int) ≤ t) = false := decide_eq_false (by omega)
                        have T4 : decide (ev < 0) = false := decide_eq_false (by omega)
                        have T5 : decide ((nE : Int) ≤ ev) = false := decide_eq_false (by omega)
                        have T6 : decide (wh < -1) = false := decide_eq_false (by omega)
                        have T7 : decide ((nC : Int) ≤ wh) = false := decide_eq_false (by omega)
                        have T8 : decide (lo < 0) = true := decide_eq_true (by omega)
                        have HEB := hide (show edgeB NF nE nC ⟨f, t, ev, wh, lo, hi⟩ = false from decide_eq_false (by dsimp only; omega))
                        clear c1 c2 c3 c4 c5 c6 c7 c8
                        as_aux_lemma =>
                          go_wp2_with fail
                          go_meet
                          exact ⟨by rw [HEB.out]; rfl, rfl⟩
                    · have T1 : decide (f < 0) = false := decide_eq_false (by omega)
                      have T2 : decide (t ≤ f) = false := decide_eq_false (by omega)
                      have T3 : decide ((NF : Int) ≤ t) = false := decide_eq_false (by omega)
                      have T4 : decide (ev < 0) = false := decide_eq_false (by omega)
                      have T5 : decide ((nE : Int) ≤ ev) = false := decide_eq_false (by omega)
                      have T6 : decide (wh < -1) = false := decide_eq_false (by omega)
                      have T7 : decide ((nC : Int) ≤ wh) = true := decide_eq_true (by omega)
                      have HEB := hide (show edgeB NF nE nC ⟨f, t, ev, wh, lo, hi⟩ = false from decide_eq_false (by dsimp only; omega))
                      clear c1 c2 c3 c4 c5 c6 c7
                      as_aux_lemma =>
                        go_wp2_with fail
                        go_meet
                        exact ⟨by rw [HEB.out]; rfl, rfl⟩
                  · have T1 : decide (f < 0) = false := decide_eq_false (by omega)
                    have T2 : decide (t ≤ f) = false := decide_eq_false (by omega)
                    have T3 : decide ((NF : Int) ≤ t) = false := decide_eq_false (by omega)
                    have T4 : decide (ev < 0) = false := decide_eq_false (by omega)
                    have T5 : decide ((nE : Int) ≤ ev) = false := decide_eq_false (by omega)
                    have T6 : decide (wh < -1) = true := decide_eq_true (by omega)
                    have HEB := hide (show edgeB NF nE nC ⟨f, t, ev, wh, lo, hi⟩ = false from decide_eq_false (by dsimp only; omega))
                    clear c1 c2 c3 c4 c5 c6
                    as_aux_lemma =>
                      go_wp2_with fail
                      go_meet
                      exact ⟨by rw [HEB.out]; rfl, rfl⟩
                · have T1 : decide (f < 0) = false := decide_eq_false (by omega)
                  have T2 : decide (t ≤ f) = false := decide_eq_false (by omega)
                  have T3 : decide ((NF : Int) ≤ t) = false := decide_eq_false (by omega)
                  have T4 : decide (ev < 0) = false := decide_eq_false (by omega)
                  have T5 : decide ((nE : Int) ≤ ev) = true := decide_eq_true (by omega)
                  have HEB := hide (show edgeB NF nE nC ⟨f, t, ev, wh, lo, hi⟩ = false from decide_eq_false (by dsimp only; omega))
                  clear c1 c2 c3 c4 c5
                  as_aux_lemma =>
                    go_wp2_with fail
                    go_meet
                    exact ⟨by rw [HEB.out]; rfl, rfl⟩
              · have T1 : decide (f < 0) = false := decide_eq_false (by omega)
                have T2 : decide (t ≤ f) = false := decide_eq_false (by omega)
                have T3 : decide ((NF : Int) ≤ t) = false := decide_eq_false (by omega)
                have T4 : decide (ev < 0) = true := decide_eq_true (by omega)
                have HEB := hide (show edgeB NF nE nC ⟨f, t, ev, wh, lo, hi⟩ = false from decide_eq_false (by dsimp only; omega))
                clear c1 c2 c3 c4
                as_aux_lemma =>
                  go_wp2_with fail
                  go_meet
                  exact ⟨by rw [HEB.out]; rfl, rfl⟩
            · have T1 : decide (f < 0) = false := decide_eq_false (by omega)
              have T2 : decide (t ≤ f) = false := decide_eq_false (by omega)
              have T3 : decide ((NF : Int) ≤ t) = true := decide_eq_true (by omega)
              have HEB := hide (show edgeB NF nE nC ⟨f, t, ev, wh, lo, hi⟩ = false from decide_eq_false (by dsimp only; omega))
              clear c1 c2 c3
              as_aux_lemma =>
                go_wp2_with fail
                go_meet
                exact ⟨by rw [HEB.out]; rfl, rfl⟩
          · have T1 : decide (f < 0) = false := decide_eq_false (by omega)
            have T2 : decide (t ≤ f) = true := decide_eq_true (by omega)
            have HEB := hide (show edgeB NF nE nC ⟨f, t, ev, wh, lo, hi⟩ = false from decide_eq_false (by dsimp only; omega))
            clear c1 c2
            as_aux_lemma =>
              go_wp2_with fail
              go_meet
              exact ⟨by rw [HEB.out]; rfl, rfl⟩
        · have T1 : decide (f < 0) = true := decide_eq_true (by omega)
          have HEB := hide (show edgeB NF nE nC ⟨f, t, ev, wh, lo, hi⟩ = false from decide_eq_false (by dsimp only; omega))
          clear c1
          as_aux_lemma =>
            go_wp2_with fail
            go_meet
            exact ⟨by rw [HEB.out]; rfl, rfl⟩
      case rest =>
        obtain ⟨rfl, rfl⟩ := hcut
        cases hE : edgeB NF nE nC ⟨f, t, ev, wh, lo, hi⟩ with
        | false =>
          have HB := hide (HBAD.out (by rw [HF.out, hE]; rfl))
          clear hE
          as_aux_lemma =>
            go_wp2_with fail
            go_ret
            exact ⟨by rw [HB.out]; rfl, bstep hb0 hb1⟩
        | true =>
          rw [hE, Bool.true_and] at HF
          clear hE
          go_upto_region 10 with (fail)
          go_cut [105] (fun v wx => v = .bool (!(startB ⟨f, t, ev, wh, lo, hi⟩)) ∧ W1 = wx)
          case first =>
            by_cases s1 : f = 0
            · by_cases s2 : hi = 0
              · by_cases s3 : wh = -1
                · have T1 : (f == 0) = true := beq_iff_eq.2 s1
                  have T2 : (hi != 0) = false := by simp [s2]
                  have T3 : (wh != -1) = false := by simp [s3]
                  have HEB := hide (show startB ⟨f, t, ev, wh, lo, hi⟩ = true from decide_eq_true fun _ => ⟨s2, s3⟩)
                  clear s1 s2 s3
                  as_aux_lemma =>
                    go_wp2_with fail
                    go_meet
                    exact ⟨by rw [HEB.out]; rfl, rfl⟩
                · have T1 : (f == 0) = true := beq_iff_eq.2 s1
                  have T2 : (hi != 0) = false := by simp [s2]
                  have T3 : (wh != -1) = true := by rw [bne_iff_ne]; exact s3
                  have HEB := hide (show startB ⟨f, t, ev, wh, lo, hi⟩ = false from decide_eq_false fun h => s3 (h s1).2)
                  clear s1 s2 s3
                  as_aux_lemma =>
                    go_wp2_with fail
                    go_meet
                    exact ⟨by rw [HEB.out]; rfl, rfl⟩
              · have T1 : (f == 0) = true := beq_iff_eq.2 s1
                have T2 : (hi != 0) = true := by rw [bne_iff_ne]; exact s2
                have HEB := hide (show startB ⟨f, t, ev, wh, lo, hi⟩ = false from decide_eq_false fun h => s2 (h s1).1)
                clear s1 s2
                as_aux_lemma =>
                  go_wp2_with fail
                  go_meet
                  exact ⟨by rw [HEB.out]; rfl, rfl⟩
            · have T1 : (f == 0) = false := beq_eq_false_iff_ne.2 s1
              have HEB := hide (show startB ⟨f, t, ev, wh, lo, hi⟩ = true from decide_eq_true fun h => absurd h s1)
              clear s1
              as_aux_lemma =>
                go_wp2_with fail
                go_meet
                exact ⟨by rw [HEB.out]; rfl, rfl⟩
          case rest =>
            obtain ⟨rfl, rfl⟩ := hcut
            cases hE : startB ⟨f, t, ev, wh, lo, hi⟩ with
            | false =>
              have HB := hide (HBAD.out (by rw [HF.out, hE]; rfl))
              clear hE
              as_aux_lemma =>
                go_wp2_with fail
                go_ret
                exact ⟨by rw [HB.out]; rfl, bstep hb0 hb1⟩
            | true =>
              rw [hE, Bool.true_and] at HF
              clear hE
              obtain ⟨ob, hob⟩ : ∃ ob : Bool, (if h : 0 < k then ordB (edges[k - 1]'(by omega)) ⟨f, t, ev, wh, lo, hi⟩ else true) = ob := ⟨_, rfl⟩
              rw [hob] at HF
              have HOB := hide hob
              clear hob
              go_upto_region 12 with (fail)
              go_cut [143] (fun v wx => v = .bool (!ob) ∧ ∃ n, wx = W1.drewN n)
              case first =>
                by_cases hk0 : 0 < k
                · have T0 : decide (0 < k) = true := decide_eq_true hk0
                  have hob := HOB.out
                  rw [dif_pos hk0] at hob
                  have hlk : k - 1 < edges.length := by omega
                  have hedgW := (hedg0.stay (stay_below hb1 fun _ h => h))
                  obtain ⟨be', oe', hAe', _, y0, y1, _, _, _, _⟩ := hedgW.edg_at hlk
                  injection hAe' with hAe'
                  injection hAe' with e1 e2
                  subst e1 e2
                  generalize edges[k - 1] = y at *
                  obtain ⟨yf, yt, yev, ywh, ylo, yhi⟩ := y
                  dsimp only at *
                  have hw : IntKind.i64.wrap ((k : Int) - 1) = ((k - 1 : Nat) : Int) := by rw [IntWalk.i64_in _ (by omega)]; omega
                  have hj1 : ((k - 1 : Nat) : Int) < (edges.length : Int) := by omega
                  have hj0 : (0 : Int) ≤ ((k - 1 : Nat) : Int) := by omega
                  have hk1 : (1 : Int) ≤ (k : Int) := by omega
                  have HOBX := hide hob
                  clear hob hk0 hedgW hlk
                  by_cases s1 : f < yf
                  · have T1 : decide (f < yf) = true := decide_eq_true s1
                    have HO := hide (show ob = false by rw [← HOBX.out]; exact decide_eq_false (by dsimp only; omega))
                    clear s1
                    as_aux_lemma =>
                      go_quiet (fail)
                      go_wp2_with fail
                      go_meet
                      exact ⟨by rw [HO.out]; rfl, nq, rfl⟩
                  · have T1 : decide (f < yf) = false := decide_eq_false s1
                    by_cases s2 : yf = f
                    · have T2 : (yf == f) = true := beq_iff_eq.2 s2
                      by_cases s3 : t ≤ yt
                      · have T3 : decide (t ≤ yt) = true := decide_eq_true s3
                        have HO := hide (show ob = false by rw [← HOBX.out]; exact decide_eq_false (by dsimp only; omega))
                        clear s1 s2 s3
                        as_aux_lemma =>
                          go_quiet (fail)
                          go_wp2_with fail
                          go_meet
                          exact ⟨by rw [HO.out]; rfl, nq, rfl⟩
                      · have T3 : decide (t ≤ yt) = false := decide_eq_false s3
                        have HO := hide (show ob = true by rw [← HOBX.out]; exact decide_eq_true (by dsimp only; omega))
                        clear s1 s2 s3
                        as_aux_lemma =>
                          go_quiet (fail)
                          go_wp2_with fail
                          go_meet
                          exact ⟨by rw [HO.out]; rfl, nq, rfl⟩
                    · have T2 : (yf == f) = false := beq_eq_false_iff_ne.2 s2
                      have HO := hide (show ob = true by rw [← HOBX.out]; exact decide_eq_true (by dsimp only; omega))
                      clear s1 s2
                      as_aux_lemma =>
                        go_quiet (fail)
                        go_wp2_with fail
                        go_meet
                        exact ⟨by rw [HO.out]; rfl, nq, rfl⟩
                · have T0 : decide (0 < k) = false := decide_eq_false hk0
                  have HO := hide (show ob = true by rw [← HOB.out, dif_neg hk0])
                  as_aux_lemma =>
                    go_quiet (fail)
                    go_wp2_with fail
                    go_meet
                    exact ⟨by rw [HO.out]; rfl, nq, rfl⟩
              case rest =>
                obtain ⟨rfl, n0, hwc⟩ := hcut
                have hb2 : Below W0.heap.size W0 wc := by rw [hwc]; exact below_drewN hb1 n0
                have g2 : wc.heap[wr.heap.size]? = some (.cells #[.int .i64 f, .int .i64 t, .int .i64 ev, .int .i64 wh, .int .i64 lo, .int .i64 hi] 39 (0, 0)) := by rw [hwc]; exact HG1.out
                have HG2 := hide g2
                clear hwc g2 k0 k1 k3 f0 f1 f2 f3 f4 f5
                have hb3 := bstep hb0 hb2
                have hlX : wr.heap.size < wc.heap.size := box_lt HG2.out
                clear HW1 HG1 hb1
                generalize wr.heap.size = XB at *
                cases ob with
                | false =>
                  have HB := hide (HBAD.out (by rw [HF.out]; rfl))
                  as_aux_lemma =>
                    go_wp2_with fail
                    go_ret
                    exact ⟨by rw [HB.out]; rfl, bstep hb0 hb2⟩
                | true =>
                  rw [Bool.true_and] at HF
                  go_wp2_with fail
                  go_loopw [6] (fun i wx => OnRel edges k ⟨f, t, ev, wh, lo, hi⟩ wc i wx) (fun i _ => k - (intOf i).toNat)
                  case atStart => exact ⟨0, Nat.zero_le _, rfl, fun i y hi => absurd hi (Nat.not_lt_zero _), Below.refl _ _⟩
                  case round =>
                    obtain ⟨m, hm, rfl, hone, hbm⟩ := hrel
                    have HON := hide hone
                    clear hone
                    have hb4 : Below W0.heap.size W0 wr := bstep hb2 hbm
                    obtain ⟨k0, k1, k3⟩ := HK.out wr hb4
                    obtain ⟨f0, f1, f2, _, _, _⟩ := box6 ((hbm.block _ hlX).trans HG2.out)
                    by_cases hlm : m < k
                    · have hlm2 : m < edges.length := by omega
                      have hedgW := (hedg0.stay (stay_below hb4 fun _ h => h))
                      obtain ⟨be', oe', hAe', _, y0, y1, y2, _, _, _⟩ := hedgW.edg_at hlm2
                      injection hAe' with hAe'
                      injection hAe' with e1 e2
                      subst e1 e2
                      have HY := hide (List.getElem?_eq_getElem hlm2)
                      generalize edges[m] = y at *
                      obtain ⟨yf, yt, yev, ywh, ylo, yhi⟩ := y
                      dsimp only at *
                      have T0 : decide (m < k) = true := decide_eq_true hlm
                      have hj1 : (m : Int) < (edges.length : Int) := by omega
                      have hj0 : (0 : Int) ≤ (m : Int) := by omega
                      by_cases s1 : yt = t
                      · have T1 : (yt == t) = true := beq_iff_eq.2 s1
                        by_cases s2 : yev = ev
                        · have T2 : (yev != ev) = false := by simp [s2]
                          have HO := hide (show oneB ⟨yf, yt, yev, ywh, ylo, yhi⟩ ⟨f, t, ev, wh, lo, hi⟩ = true from decide_eq_true fun _ => s2)
                          have HN := hide (one_next HON.out HY.out HO.out)
                          clear s1 s2 hedgW
                          as_aux_lemma =>
                            go_upto_region 17 with (fail)
                            go_quiet (fail)
                            go_wp2_with fail
                            go_roundw
                            case rel => exact ⟨m + 1, by omega, by go_num, HN.out, below_drewN hbm nq⟩
                            case measure => simp [intOf]; omega
                        · have T2 : (yev != ev) = true := by rw [bne_iff_ne]; exact s2
                          have HO := hide (show oneB ⟨yf, yt, yev, ywh, ylo, yhi⟩ ⟨f, t, ev, wh, lo, hi⟩ = false from decide_eq_false fun h => s2 (h s1))
                          have HB := hide (HBAD.out (by rw [HF.out]; exact one_bad hlm HY.out HO.out))
                          clear s1 s2 hedgW
                          as_aux_lemma =>
                            go_upto_region 17 with (fail)
                            go_quiet (fail)
                            go_wp2_with fail
                            go_ret
                            exact ⟨by rw [HB.out]; rfl, below_drewN (bstep hb0 hb4) nq⟩
                      · have T1 : (yt == t) = false := beq_eq_false_iff_ne.2 s1
                        have HO := hide (show oneB ⟨yf, yt, yev, ywh, ylo, yhi⟩ ⟨f, t, ev, wh, lo, hi⟩ = true from decide_eq_true fun h => absurd h s1)
                        have HN := hide (one_next HON.out HY.out HO.out)
                        clear s1 hedgW
                        as_aux_lemma =>
                          go_upto_region 17 with (fail)
                          go_quiet (fail)
                          go_wp2_with fail
                          go_roundw
                          case rel => exact ⟨m + 1, by omega, by go_num, HN.out, below_drewN hbm nq⟩
                          case measure => simp [intOf]; omega
                    · have hmk : m = k := by omega
                      subst hmk
                      have HNX := hide (HUP.out (by rw [HF.out]; exact one_all HON.out))
                      as_aux_lemma =>
                        go_wp2_with fail
                        go_roundw
                        case rel => exact ⟨m + 1, by dsimp only; omega, by go_num, fun i hi => by have h := HNX.out i hi; rw [← HNF.out] at h; exact h, hb4⟩
                        case measure => simp [intOf]; omega
    · have hke : k = edges.length := by omega
      subst hke
      have HR := hide (HG.out HH2.out HGD.out)
      go_wp2_with fail
      go_ret
      exact ⟨by rw [HR.out]; rfl, bstep hb0 hbr⟩

end Go.Proofs.YtgobkbjkndfliaaGreatDoor
