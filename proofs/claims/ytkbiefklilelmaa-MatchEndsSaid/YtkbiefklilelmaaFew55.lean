/-
  wavestoreref54.Few ends, whatever the automaton; wavestorelaw55.few: what it lets in.
-/
import Derived.Test.YtkbiefklilelmaaTree
import Derived.Test.YtkbiefklilelmaaSame55
namespace Go.Proofs.Ytkbiefklilelmaa
open Go.RowKit

/-- the lists of trees of an automaton -/
structure AutTrees (w : World) (a : Aut) (evs cds : List Nd) : Prop where
  nE : a.nE = evs.length
  nC : a.nC = cds.length
  ev : TreesAt w (Lo w.heap.size) a.AE evs
  cd : TreesAt w (Lo w.heap.size) a.AC cds
theorem AutTrees.grow {w w' : World} {a : Aut} {evs cds : List Nd} (h : AutTrees w a evs cds) (hb : Below w.heap.size w w') : AutTrees w' a evs cds := ⟨h.nE, h.nC, h.ev.grow hb, h.cd.grow hb⟩

set_option maxRecDepth 100000 in
set_option maxHeartbeats 4000000 in
theorem few54_any (a : Aut) (evs cds : List Nd) (w : World) (ht : AutTrees w a evs cds) (hle : AutLe a) : Calls Try.prog 54 #[.agg (encA a).toArray] w (BoolPost w) := by
  obtain ⟨AE, nE, cE, AC, nC, cC, AF, cF, fin, AX, cX, edges⟩ := a
  obtain ⟨hE, hC, hev, hcd⟩ := ht
  have n1 := hle.nE
  have n2 := hle.nC
  have n3 := hle.fin
  have n4 := hle.edges
  dsimp only at hE hC hev hcd n1 n2 n3 n4
  subst hE hC
  obtain ⟨W0, hW0⟩ : ∃ W0, w.alloc (.cells #[.slice AE evs.length cE, .slice AC cds.length cC, .slice AF fin.length cF, .slice AX edges.length cX] 50) = W0 := ⟨_, rfl⟩
  have g0 := new_at hW0
  have hb0 : Below w.heap.size w W0 := by rw [← hW0]; exact (Below.refl _ _).alloc (Nat.le_refl _) _
  have HE := hide (hev.grow hb0)
  have HC := hide (hcd.grow hb0)
  have HG0 := hide g0
  have HB0 := hide hb0
  have HW0 := hide hW0
  have HNO := hide (show ∀ wr, Below W0.heap.size W0 wr → BoolPost w (.returned (.bool false)) wr from fun wr hb => ⟨false, rfl, bstep hb0 hb⟩)
  obtain ⟨y0, y1, y2, y3, -⟩ := box4 g0
  clear g0 hb0 hW0 hev hcd hle
  show Calls _ _ #[.agg #[.slice AE evs.length cE, .slice AC cds.length cC, .slice AF fin.length cF, .slice AX edges.length cX]] w (BoolPost w)
  go_enter Try.func54, Try.ntmps54
  go_upto_region 1 with (fail)
  rw [HW0.out]
  go_cut [26] (fun v wx => ∃ b : Bool, v = .bool b ∧ Below W0.heap.size W0 wx)
  case first =>
    obtain ⟨t1, T1⟩ : ∃ t1, decide ((40 : Int) < (evs.length : Int)) = t1 := ⟨_, rfl⟩
    obtain ⟨t2, T2⟩ : ∃ t2, decide ((40 : Int) < (cds.length : Int)) = t2 := ⟨_, rfl⟩
    obtain ⟨t3, T3⟩ : ∃ t3, decide ((40 : Int) < (fin.length : Int)) = t3 := ⟨_, rfl⟩
    obtain ⟨t4, T4⟩ : ∃ t4, decide ((200 : Int) < (edges.length : Int)) = t4 := ⟨_, rfl⟩
    cases t1 <;> cases t2 <;> cases t3 <;> cases t4 <;> (go_wp2_with fail; go_meet; exact ⟨_, rfl, Below.refl _ _⟩)
  case rest =>
    obtain ⟨bt, rfl, hbc⟩ := hcut
    have HBC := hide hbc
    clear hbc y0 y1 y2 y3
    cases bt with
    | true =>
      go_wp2_with fail
      go_ret
      exact HNO.out _ HBC.out
    | false =>
      go_wp2_with fail
      go_loopw [3] (fun i wr => FewRel evs.length W0 i wr) (fun i _ => evs.length - (intOf i).toNat)
      case atStart => exact ⟨0, Nat.zero_le _, rfl, HBC.out⟩
      case round =>
        obtain ⟨j, hj, rfl, hbr⟩ := hrel
        have HBR := hide hbr
        obtain ⟨x0, x1, -, -, -⟩ := box4 ((hbr.block _ (box_lt HG0.out)).trans HG0.out)
        clear hbr
        by_cases hlt : j < evs.length
        · have hT := HE.out.grow HBR.out
          obtain ⟨bk, ok, rfl, hbk, hc⟩ := hT.row.at_ hlt
          have hcall := few49_any 20 evs[j] wr (hT.each _ (List.getElem_mem hlt))
          generalize evs[j] = m at *
          obtain ⟨m1, m2, m3, m4, m5, m6, m7, m8, mK, mc, ml⟩ := m
          unfold cNd at hc hcall
          have HCL := hide hcall
          have c0 := hc 0 (by omega)
          have c1 := hc 1 (by omega)
          have c2 := hc 2 (by omega)
          have c3 := hc 3 (by omega)
          have c4 := hc 4 (by omega)
          have c5 := hc 5 (by omega)
          have c6 := hc 6 (by omega)
          have c7 := hc 7 (by omega)
          have c8 := hc 8 (by omega)
          simp only [List.getElem?_cons_zero, List.getElem?_cons_succ, Nat.add_zero] at c0 c1 c2 c3 c4 c5 c6 c7 c8
          clear hc hcall hT
          go_upto_if 40 with (go_at_call 76; refine HCL.out.mono ?_; rintro e w2 ⟨y, rfl, hb2⟩; have HB2 := hide hb2; clear hb2)
          cases y with
          | true =>
            go_wp2_with fail
            exact ⟨⟨j + 1, hlt, by go_num, bstep HBR.out HB2.out⟩, by simp [intOf]; omega⟩
          | false =>
            go_wp2_with fail
            go_ret
            exact HNO.out _ (bstep HBR.out HB2.out)
        · clear x0 x1
          obtain ⟨x0, x1, -, -, -⟩ := box4 ((HBR.out.block _ (box_lt HG0.out)).trans HG0.out)
          go_wp2_with fail
          clear x0 x1
          go_loopw [4] (fun i wr => FewRel cds.length W0 i wr) (fun i _ => cds.length - (intOf i).toNat)
          case atStart => exact ⟨0, Nat.zero_le _, rfl, HBR.out⟩
          case round =>
            obtain ⟨j2, hj2, rfl, hbr⟩ := hrel
            have HBR2 := hide hbr
            obtain ⟨x0, x1, -, -, -⟩ := box4 ((hbr.block _ (box_lt HG0.out)).trans HG0.out)
            clear hbr
            by_cases hlt2 : j2 < cds.length
            · have hT := HC.out.grow HBR2.out
              obtain ⟨bk, ok, rfl, hbk, hc⟩ := hT.row.at_ hlt2
              have hcall := few49_any 20 cds[j2] wr (hT.each _ (List.getElem_mem hlt2))
              generalize cds[j2] = m at *
              obtain ⟨m1, m2, m3, m4, m5, m6, m7, m8, mK, mc, ml⟩ := m
              unfold cNd at hc hcall
              have HCL := hide hcall
              have c0 := hc 0 (by omega)
              have c1 := hc 1 (by omega)
              have c2 := hc 2 (by omega)
              have c3 := hc 3 (by omega)
              have c4 := hc 4 (by omega)
              have c5 := hc 5 (by omega)
              have c6 := hc 6 (by omega)
              have c7 := hc 7 (by omega)
              have c8 := hc 8 (by omega)
              simp only [List.getElem?_cons_zero, List.getElem?_cons_succ, Nat.add_zero] at c0 c1 c2 c3 c4 c5 c6 c7 c8
              clear hc hcall hT
              go_upto_if 54 with (go_at_call 76; refine HCL.out.mono ?_; rintro e w2 ⟨y, rfl, hb2⟩; have HB2 := hide hb2; clear hb2)
              cases y with
              | true =>
                go_wp2_with fail
                exact ⟨⟨j2 + 1, hlt2, by go_num, bstep HBR2.out HB2.out⟩, by simp [intOf]; omega⟩
              | false =>
                go_wp2_with fail
                go_ret
                exact HNO.out _ (bstep HBR2.out HB2.out)
            · have HF := hide (show BoolPost w (.returned (.bool true)) wr from ⟨true, rfl, bstep HB0.out HBR2.out⟩)
              go_wp2_with fail
              go_ret
              exact HF.out

/-- what the law's few lets in -/
def FewAll (a : Aut) (ev : List SlI) (cs : List SlV) : Prop := a.edges.length ≤ 40 ∧ FewEv ev cs
set_option maxRecDepth 100000 in
set_option maxHeartbeats 4000000 in
theorem few_any (a : Aut) (evs cds : List Nd) (AV AC' : Option Addr) (cV cC' : Nat) (ev : List SlI) (cs : List SlV) (w : World) (ht : AutTrees w a evs cds) (hle : AutLe a) (hev : EvAt w AV ev) (hcs : CsAt w AC' cs) (b1 : ev.length ≤ 140737488355328) (b2 : cs.length ≤ 140737488355328) (b3 : ∀ s ∈ ev, s.xs.length ≤ 140737488355328) (b4 : ∀ s ∈ cs, s.xs.length ≤ 140737488355328) :
    Calls Try.prog 30 #[.agg (encA a).toArray, .slice AV ev.length cV, .slice AC' cs.length cC'] w (FewPost (FewAll a ev cs) w) := by
  obtain ⟨W0, hW0⟩ : ∃ W0, w.alloc (.cells (encA a).toArray 50) = W0 := ⟨_, rfl⟩
  have g0 := new_at hW0
  have hb0 : Below w.heap.size w W0 := by rw [← hW0]; exact (Below.refl _ _).alloc (Nat.le_refl _) _
  have HF := hide (few54_any a evs cds W0 (ht.grow hb0) hle)
  have HF2 := hide (show ∀ w2, Below W0.heap.size W0 w2 → _ from fun w2 hb => few55_any AV AC' cV cC' ev cs w2 ((hev.step hb0).step hb) ((hcs.step hb0).step hb) b1 b2 b3 b4)
  have HB0 := hide hb0
  have n4 := hle.edges
  obtain ⟨AE, nE, cE, AC, nC, cC, AF, cF, fin, AX, cX, edges⟩ := a
  dsimp only at n4
  have hX : ∀ a b c d : Value, ([a, b, c, d] : List Value).toArray = #[a, b, c, d] := fun _ _ _ _ => rfl
  unfold encA at HF hW0 g0 ⊢
  dsimp only at HF hW0 g0 ⊢
  have HW0 := hide hW0
  have HG0 := hide g0
  obtain ⟨y0, y1, y2, y3, -⟩ := box4 g0
  clear hW0 g0 hb0 ht hle hev hcs b1 b2 b3 b4 hX
  go_enter Try.func30, Try.ntmps30
  go_upto_region 1 with (fail)
  rw [HW0.out]
  go_cut [6] (fun v wx => ∃ b : Bool, v = .bool b ∧ Below W0.heap.size W0 wx ∧ (b = true → edges.length ≤ 40 ∧ FewEv ev cs))
  case first =>
    by_cases h40 : edges.length ≤ 40
    · have T1 : decide ((edges.length : Int) ≤ 40) = true := decide_eq_true (by omega)
      go_wp2_with (first
        | (go_at_call 54
           refine HF.out.mono ?_
           rintro e w2 ⟨y, rfl, hb2⟩
           have HB2 := hide hb2
           have y3 := (hb2.cell (p := ⟨w.heap.size, 3, none⟩) (box_lt HG0.out)).trans y3
           clear hb2
           cases y)
        | (go_at_call 55
           refine (HF2.out _ HB2.out).mono ?_
           rintro e w3 ⟨z, rfl, hb3, hz⟩
           have HB3 := hide hb3
           have HZ := hide hz
           clear hb3 hz))
      all_goals go_meet
      · exact ⟨false, rfl, HB2.out, fun e => by cases e⟩
      · exact ⟨z, rfl, bstep HB2.out HB3.out, fun e => ⟨h40, HZ.out e⟩⟩
    · have T1 : decide ((edges.length : Int) ≤ 40) = false := decide_eq_false (by omega)
      go_wp2_with (
           go_at_call 54
           refine HF.out.mono ?_
           rintro e w2 ⟨y, rfl, hb2⟩
           have HB2 := hide hb2
           have y3 := (hb2.cell (p := ⟨w.heap.size, 3, none⟩) (box_lt HG0.out)).trans y3
           clear hb2
           cases y)
      all_goals go_meet
      all_goals exact ⟨false, rfl, HB2.out, fun e => by cases e⟩
  case rest =>
    obtain ⟨bt, rfl, hbc, hbt⟩ := hcut
    have HE := hide (show FewPost (FewAll ⟨AE, nE, cE, AC, nC, cC, AF, cF, fin, AX, cX, edges⟩ ev cs) w (.returned (.bool bt)) wc from ⟨bt, rfl, bstep HB0.out hbc, hbt⟩)
    clear hbc hbt
    go_wp2_with fail
    go_ret
    exact HE.out

end Go.Proofs.Ytkbiefklilelmaa
