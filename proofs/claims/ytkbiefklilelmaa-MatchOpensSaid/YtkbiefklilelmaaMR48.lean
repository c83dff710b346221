/-
  Several texts in one: RefFits. Each says at its head what it holds.
-/
import Derived.Test.YtkbiefklilelmaaMR47
import Derived.Test.YtkbiefklilelmaaMR22
import Derived.Test.YtkbiefklilelmaaMR19

/-
  wavestoreref55.fits: whether the arguments of Run fit together.
-/
namespace Go.Proofs.Ytkbiefklilelmaa
open Go.RowKit

def rngB (f t m : Int) : Bool := decide (0 ≤ f) && decide (f ≤ t) && decide (t ≤ m)
theorem range47_any (f t m : Int) (w : World) : Calls Try.prog 88 #[.int .i64 f, .int .i64 t, .int .i64 m] w (fun e w' => e = .returned (.bool (rngB f t m)) ∧ w = w') := by
  obtain ⟨t1, T1⟩ : ∃ b, decide (0 ≤ f) = b := ⟨_, rfl⟩
  obtain ⟨t2, T2⟩ : ∃ b, decide (f ≤ t) = b := ⟨_, rfl⟩
  obtain ⟨t3, T3⟩ : ∃ b, decide (t ≤ m) = b := ⟨_, rfl⟩
  have HE := hide (show rngB f t m = (t1 && t2 && t3) from by unfold rngB; rw [T1, T2, T3])
  cases t1 <;> cases t2 <;> cases t3 <;>
    (go_enter Try.func88, Try.ntmps88
     go_wp2_with fail
     go_ret
     exact ⟨by rw [HE.out]; rfl, rfl⟩)

def FitRel (ev : List SlI) (W : World) (i : Value) (wr : World) : Prop := ∃ k : Nat, k ≤ ev.length ∧ i = .int .i64 k ∧ (∀ j s, j < k → ev[j]? = some s → Incr s.xs) ∧ Below W.heap.size W wr
def FitPost (P : Prop) (w : World) (e : Ending) (w' : World) : Prop := ∃ b : Bool, e = .returned (.bool b) ∧ (b = true ↔ P) ∧ Below w.heap.size w w'

set_option maxRecDepth 100000 in
set_option maxHeartbeats 4000000 in
theorem rfits_any (a : Aut) (AV : Option Addr) (cV : Nat) (ev : List SlI) (AC' : Option Addr) (cC' : Nat) (n : Nat) (f t en : Int) (w : World) (ha : AutAt w (Lo w.heap.size) a) (hle : AutLe a) (hev : EvAt w AV ev)
    (hel : ev.length ≤ 1000000) (_hcl : n ≤ 1000000) (hes : ∀ s ∈ ev, s.xs.length ≤ 1000000) :
    Calls Try.prog 60 #[.agg (encA a).toArray, .slice AV ev.length cV, .slice AC' n cC', .int .i64 f, .int .i64 t, .int .i64 en] w (FitPost (PrepOk a ev n f t en) w) := by
  obtain ⟨a', ha'⟩ : ∃ a', a = a' := ⟨_, rfl⟩
  have n1 := hle.nE
  have n2 := hle.nC
  obtain ⟨W0, hW0⟩ : ∃ W0, w.alloc (.cells (encA a).toArray 50) = W0 := ⟨_, rfl⟩
  have g0 := new_at hW0
  have hb0 : Below w.heap.size w W0 := by rw [← hW0]; exact (Below.refl _ _).alloc (Nat.le_refl _) _
  have HB0 := hide hb0
  have HEV := hide (hev.step hb0)
  have HES := hide hes
  have hv := rvalid_any a W0 (ha.grow hb0) hle
  rw [ha'] at hv hW0 g0 ⊢
  obtain ⟨AE, nE, cE, AC, nC, cC, AF, cF, fin, AX, cX, edges⟩ := a
  dsimp only at n1 n2
  have hX : encA a' = [.slice AE nE cE, .slice AC nC cC, .slice AF fin.length cF, .slice AX edges.length cX] := by rw [← ha']; rfl
  rw [hX] at hv hW0 g0 ⊢
  have HV := hide hv
  have HW0 := hide hW0
  have HG0 := hide g0
  have HNE := hide (show a'.nE = nE ∧ a'.nC = nC by rw [← ha']; exact ⟨rfl, rfl⟩)
  obtain ⟨y0, y1, y2, y3, -⟩ := box4 g0
  have HNO := hide (show ¬ PrepOk a' ev n f t en → FitPost (PrepOk a' ev n f t en) w (.returned (.bool false)) W0 from fun h => ⟨false, rfl, ⟨(fun e => by cases e), fun e => absurd e h⟩, HB0.out⟩)
  clear ha' hX hv hW0 g0 hb0 ha hle hev hes
  go_enter Try.func60, Try.ntmps60
  go_upto_region 1 with (fail)
  rw [HW0.out]
  cases hvb : validB a' with
  | false =>
    have HPN := hide (show ¬ PrepOk a' ev n f t en from fun h => by have h1 := h.1; unfold prepB at h1; rw [hvb] at h1; cases h1)
    rw [hvb] at HV
    clear hvb
    go_wp2_with (go_at_call 86; refine HV.out.mono ?_; rintro e w2 ⟨rfl, hb2⟩; have HB2 := hide hb2; clear hb2)
    go_ret
    exact ⟨false, rfl, ⟨(fun e => by cases e), fun e => absurd e HPN.out⟩, bstep HB0.out HB2.out⟩
  | true =>
    rw [hvb] at HV
    have HVB := hide hvb
    clear hvb
    by_cases c1 : ev.length = nE
    · by_cases c2 : n = nC
      · have T1 : ((ev.length : Int) != (nE : Int)) = false := by simp [c1]
        have T2 : ((n : Int) != (nC : Int)) = false := by simp [c2]
        have HC := hide (show ev.length = nE ∧ n = nC from ⟨c1, c2⟩)
        clear c1 c2
        go_upto_region 3 with (go_at_call 86; refine HV.out.mono ?_; rintro e w2 ⟨rfl, hb2⟩; have HB2 := hide hb2; have y0 := (hb2.cell (p := ⟨w.heap.size, 0, none⟩) (box_lt HG0.out)).trans y0; have y1 := (hb2.cell (p := ⟨w.heap.size, 1, none⟩) (box_lt HG0.out)).trans y1; clear hb2)
        clear y0 y1 y2 y3 T1 T2
        go_wp2_with fail
        go_loopw [13] (fun i wr => FitRel ev W0 i wr) (fun i _ => ev.length - (intOf i).toNat)
        case atStart => exact ⟨0, Nat.zero_le _, rfl, (fun j s hj => absurd hj (Nat.not_lt_zero _)), HB2.out⟩
        case round =>
          obtain ⟨wr1, rfl⟩ : ∃ w2 : World, w2 = wr := ⟨_, rfl⟩
          obtain ⟨k, hk, rfl, hinc, hbr⟩ := hrel
          have HINC := hide hinc
          have HBR := hide hbr
          clear hinc hbr
          by_cases hlt : k < ev.length
          · obtain ⟨be, oe, rfl, hbe, e0, hints⟩ := (HEV.out.step HBR.out).at_ hlt
            have hse := HES.out _ (List.getElem_mem hlt)
            have hx : ev[k]? = some ev[k] := List.getElem?_eq_getElem hlt
            have HX := hide hx
            clear hx
            generalize ev[k] = s at *
            obtain ⟨sA, sc, l⟩ := s
            dsimp only at e0 hints hse
            have HT := hide (rtimes_any sA sc l wr1 hints (by omega))
            clear hints
            by_cases hi : Incr l
            · have HTT := hide (HT.out.mono fun e w' h => (show e = .returned (.bool true) ∧ Below wr1.heap.size wr1 w' from by obtain ⟨b, rfl, hb, hb2⟩ := h; rw [hb.2 hi]; exact ⟨rfl, hb2⟩))
              have HN := hide (show ∀ j s, j < k + 1 → ev[j]? = some s → Incr s.xs from fun j s hj hs => by
                rcases Nat.lt_or_ge j k with h | h
                · exact HINC.out j s h hs
                · have : j = k := by omega
                  subst this
                  rw [HX.out] at hs
                  injection hs with hs
                  subst hs
                  exact hi)
              clear hi HT
              go_wp2_with (go_at_call 87; refine HTT.out.mono ?_; rintro e w3 ⟨rfl, hb3⟩; have HB3 := hide (bstep HBR.out hb3); clear hb3)
              exact ⟨⟨k + 1, hlt, by go_num, HN.out, HB3.out⟩, by simp [intOf]; omega⟩
            · have HTT := hide (HT.out.mono fun e w' h => (show e = .returned (.bool false) ∧ Below wr1.heap.size wr1 w' from by
                obtain ⟨b, rfl, hb, hb2⟩ := h
                cases b with
                | false => exact ⟨rfl, hb2⟩
                | true => exact absurd (hb.1 rfl) hi))
              have HPN := hide (show ¬ PrepOk a' ev n f t en from fun h => hi (h.2 _ (List.mem_of_getElem? HX.out)))
              clear hi HT
              go_wp2_with (go_at_call 87; refine HTT.out.mono ?_; rintro e w3 ⟨rfl, hb3⟩; have HB3 := hide (bstep HBR.out hb3); clear hb3)
              go_ret
              exact ⟨false, rfl, ⟨(fun e => by cases e), fun e => absurd e HPN.out⟩, bstep HB0.out HB3.out⟩
          · have hke : k = ev.length := by omega
            subst hke
            have HALL := hide (show ∀ s ∈ ev, Incr s.xs from fun s hs => by
              obtain ⟨j, hj⟩ := List.getElem?_of_mem hs
              exact HINC.out j s (List.getElem?_eq_some_iff.1 hj).1 hj)
            have HPI := hide (show PrepOk a' ev n f t en ↔ (rngB f t en = true ∧ en ≤ 1099511627776) from by
              unfold PrepOk prepB rngB
              rw [HVB.out, Bool.true_and, Bool.and_eq_true, Bool.and_eq_true, HNE.out.1, HNE.out.2]
              constructor
              · rintro ⟨h1, _⟩
                have h1 := of_decide_eq_true h1
                exact ⟨⟨⟨decide_eq_true h1.2.2.1, decide_eq_true h1.2.2.2.1⟩, decide_eq_true h1.2.2.2.2.1⟩, h1.2.2.2.2.2⟩
              · rintro ⟨⟨⟨h1, h2⟩, h3⟩, h4⟩
                exact ⟨decide_eq_true ⟨HC.out.1, HC.out.2, of_decide_eq_true h1, of_decide_eq_true h2, of_decide_eq_true h3, h4⟩, HALL.out⟩)
            have HRG := hide (range47_any f t en wr1)
            generalize rngB f t en = rb at *
            cases rb with
            | false =>
              go_wp2_with (go_at_call 88; refine HRG.out.mono ?_; rintro e w3 ⟨rfl, rfl⟩)
              go_ret
              exact ⟨false, rfl, ⟨(fun e => by cases e), fun e => by have := (HPI.out.1 e).1; cases this⟩, bstep HB0.out HBR.out⟩
            | true =>
              by_cases h6 : en ≤ 1099511627776
              · have T6 : decide (en ≤ 1099511627776) = true := decide_eq_true h6
                have HPT := hide (HPI.out.2 ⟨rfl, h6⟩)
                clear h6
                go_wp2_with (go_at_call 88; refine HRG.out.mono ?_; rintro e w3 ⟨rfl, rfl⟩)
                go_ret
                exact ⟨true, rfl, ⟨fun _ => HPT.out, fun _ => rfl⟩, bstep HB0.out HBR.out⟩
              · have T6 : decide (en ≤ 1099511627776) = false := decide_eq_false h6
                have HPN := hide (fun h => h6 (HPI.out.1 h).2)
                clear h6
                go_wp2_with (go_at_call 88; refine HRG.out.mono ?_; rintro e w3 ⟨rfl, rfl⟩)
                go_ret
                exact ⟨false, rfl, ⟨(fun e => by cases e), fun e => absurd e HPN.out⟩, bstep HB0.out HBR.out⟩
      · have T1 : ((ev.length : Int) != (nE : Int)) = false := by simp [c1]
        have T2 : ((n : Int) != (nC : Int)) = true := by rw [bne_iff_ne]; omega
        have HPN := hide (show ¬ PrepOk a' ev n f t en from fun h => by
          have h1 := h.1
          unfold prepB at h1
          rw [Bool.and_eq_true] at h1
          have h2 := (of_decide_eq_true h1.2).2.1
          rw [HNE.out.2] at h2
          exact c2 h2)
        clear c1 c2
        go_wp2_with (go_at_call 86; refine HV.out.mono ?_; rintro e w2 ⟨rfl, hb2⟩; have HB2 := hide hb2; have y0 := (hb2.cell (p := ⟨w.heap.size, 0, none⟩) (box_lt HG0.out)).trans y0; have y1 := (hb2.cell (p := ⟨w.heap.size, 1, none⟩) (box_lt HG0.out)).trans y1; clear hb2)
        go_ret
        exact ⟨false, rfl, ⟨(fun e => by cases e), fun e => absurd e HPN.out⟩, bstep HB0.out HB2.out⟩
    · have T1 : ((ev.length : Int) != (nE : Int)) = true := by rw [bne_iff_ne]; omega
      have HPN := hide (show ¬ PrepOk a' ev n f t en from fun h => by
        have h1 := h.1
        unfold prepB at h1
        rw [Bool.and_eq_true] at h1
        have h2 := (of_decide_eq_true h1.2).1
        rw [HNE.out.1] at h2
        exact c1 h2)
      clear c1
      go_wp2_with (go_at_call 86; refine HV.out.mono ?_; rintro e w2 ⟨rfl, hb2⟩; have HB2 := hide hb2; have y0 := (hb2.cell (p := ⟨w.heap.size, 0, none⟩) (box_lt HG0.out)).trans y0; have y1 := (hb2.cell (p := ⟨w.heap.size, 1, none⟩) (box_lt HG0.out)).trans y1; clear hb2)
      go_ret
      exact ⟨false, rfl, ⟨(fun e => by cases e), fun e => absurd e HPN.out⟩, bstep HB0.out HB2.out⟩

end Go.Proofs.Ytkbiefklilelmaa
