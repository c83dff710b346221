/-
  Several texts in one: LawValid54. Each says at its head what it holds.
-/
import Derived.Test.YtgobkbjkndfliaaGreatDoorAP18
import Derived.Test.YtgobkbjkndfliaaGreatDoorAP5

/-
  wavestorelaw54.AutomatonValid: true, where its example holds.
-/
namespace Go.Proofs.YtgobkbjkndfliaaGreatDoor
open Go.RowKit

/-- what the law's example answers -/
def Awake54 : Prop := ∀ w : World, Calls Tryz.prog 10 #[] w fun e w' => e = .returned (.bool true) ∧ Below w.heap.size w w'
noncomputable def accD (a : Aut) (path : List Int) : Bool := @decide (AccOk a path) (Classical.propDecidable _)
theorem Says54.d {a : Aut} {path : List Int} {w w' : World} {e : Ending} (h : Says54 (AccOk a path) w e w') : e = .returned (.bool (accD a path)) ∧ Below w.heap.size w w' := by
  obtain ⟨b, rfl, h1, h2⟩ := h
  refine ⟨?_, h2⟩
  have : b = accD a path := by
    unfold accD
    by_cases hp : AccOk a path
    · rw [h1.2 hp]; exact (@decide_eq_true _ (Classical.propDecidable _) hp).symm
    · have hb : b = false := by
        cases b
        · rfl
        · exact absurd (h1.1 rfl) hp
      rw [hb]; exact (@decide_eq_false _ (Classical.propDecidable _) hp).symm
  rw [this]

set_option maxRecDepth 100000 in
set_option maxHeartbeats 8000000 in
theorem lawValid (HAW : Awake54) (a : Aut) (evs cds : List Nd) (AP : Option Addr) (cP : Nat) (path : List Int) (w : World) (ha : AutAt w (Lo w.heap.size) a) (ht : AutTrees w a evs cds) (hle : AutLe a) (hp : IntsAt w w.heap.size AP path) (hl : path.length ≤ 140737488355328) :
    Calls Tryz.prog 5 #[.agg (encA a).toArray, .slice AP path.length cP] w (fun e w' => e = .returned (.bool true) ∧ Below w.heap.size w w') := by
  obtain ⟨W0, hW0⟩ : ∃ W0, w.alloc (.cells (encA a).toArray 30) = W0 := ⟨_, rfl⟩
  have g0 := new_at hW0
  have hb0 : Below w.heap.size w W0 := by rw [← hW0]; exact (Below.refl _ _).alloc (Nat.le_refl _) _
  have HB0 := hide hb0
  have HFEW := hide (few54_any a evs cds W0 (ht.grow hb0) hle)
  have HLEN := hide (fun (U : World) (hU : Below W0.heap.size W0 U) => length_any a U ((ha.grow hb0).grow hU) hle)
  have HRLEN := hide (fun (U : World) (hU : Below W0.heap.size W0 U) => rlength_any a U ((ha.grow hb0).grow hU) hle)
  have HVAL := hide (fun (U : World) (hU : Below W0.heap.size W0 U) => valid_any a U ((ha.grow hb0).grow hU) hle)
  have HRVAL := hide (fun (U : World) (hU : Below W0.heap.size W0 U) => rvalid_any a U ((ha.grow hb0).grow hU) hle)
  have HACC := hide (fun (U : World) (hU : Below W0.heap.size W0 U) => (accepts_any a AP cP path U ((ha.grow hb0).grow hU) hle ((hp.step hb0).step hU) hl).mono fun e w' h => Says54.d h)
  have HRACC := hide (fun (U : World) (hU : Below W0.heap.size W0 U) => (raccepts_any a AP cP path U ((ha.grow hb0).grow hU) hle ((hp.step hb0).step hU) hl).mono fun e w' h => Says54.d h)
  have HAWK := hide HAW
  obtain ⟨a', ha'⟩ : ∃ a', a = a' := ⟨_, rfl⟩
  rw [ha'] at HFEW HLEN HRLEN HVAL HRVAL HACC HRACC hW0 g0 ⊢
  obtain ⟨AE, nE, cE, AC, nC, cC, AF, cF, fin, AX, cX, edges⟩ := a
  have hX : encA a' = [.slice AE nE cE, .slice AC nC cC, .slice AF fin.length cF, .slice AX edges.length cX] := by rw [← ha']; rfl
  rw [hX] at HFEW HLEN HRLEN HVAL HRVAL HACC HRACC hW0 g0 ⊢
  have HW0 := hide hW0
  have HG0 := hide g0
  obtain ⟨y0, y1, y2, y3, -⟩ := box4 g0
  clear ha' hX hW0 g0 hb0 ha ht hle hp HAW
  go_enter Tryz.func5, Tryz.ntmps5
  go_upto_region 1 with (fail)
  rw [HW0.out]
  go_cut [16] (fun v wx => ∃ z : Bool, v = .bool z ∧ Below W0.heap.size W0 wx)
  case first =>
    obtain ⟨t1, T1⟩ : ∃ t1, decide ((40 : Int) < (path.length : Int)) = t1 := ⟨_, rfl⟩
    cases t1 <;>
      (go_wp2_with (
         go_at_call 19
         refine HFEW.out.mono ?_
         rintro e w2 ⟨y, rfl, hb2⟩
         have HB2 := hide hb2
         clear hb2
         cases y))
    all_goals go_meet
    all_goals exact ⟨_, rfl, HB2.out⟩
  case rest =>
    obtain ⟨z, rfl, hbc⟩ := hcut
    have HBC := hide hbc
    clear hbc y0 y1 y2 y3
    cases z with
    | true =>
      go_wp2_with (go_at_call 10; refine (HAWK.out _).mono ?_; rintro e w3 ⟨rfl, hb3⟩; have HB3 := hide (bstep (bstep HB0.out HBC.out) hb3); clear hb3)
      go_ret
      exact ⟨rfl, HB3.out⟩
    | false =>
      have HL1 := hide (HLEN.out wc HBC.out)
      obtain ⟨y0, y1, y2, y3, -⟩ := box4 ((HBC.out.block _ (box_lt HG0.out)).trans HG0.out)
      go_upto_region 4 with (go_at_call 17; refine HL1.out.mono ?_; rintro e u1 ⟨lo1, hi1, rfl, hx1, hb1⟩; have HX1 := hide hx1; have HB1 := hide (bstep HBC.out hb1); clear hx1 hb1)
      have HL2 := hide (HRLEN.out u1 HB1.out)
      clear y0 y1 y2 y3 HL1
      obtain ⟨y0, y1, y2, y3, -⟩ := box4 ((HB1.out.block _ (box_lt HG0.out)).trans HG0.out)
      go_upto_region 5 with (go_at_call 20; refine HL2.out.mono ?_; rintro e u2 ⟨lo2, hi2, rfl, hx2, hb2⟩; have HX2 := hide hx2; have HB2 := hide (bstep HB1.out hb2); clear hx2 hb2)
      have heq : lo1 = lo2 ∧ hi1 = hi2 := by
        rcases HX1.out with ⟨h1, h2, h3⟩ | ⟨h1, h2⟩
        · rcases HX2.out with ⟨h4, h5, h6⟩ | ⟨h4, h5⟩
          · omega
          · rw [h1] at h4; cases h4
        · rcases HX2.out with ⟨h4, h5, h6⟩ | ⟨h4, h5⟩
          · rw [h1] at h4; cases h4
          · exact LenOf.uniq h2 h5
      obtain ⟨rfl, rfl⟩ := heq
      clear y0 y1 y2 y3 HL2 HX1 HX2 HLEN HRLEN HFEW
      obtain ⟨y0, y1, y2, y3, -⟩ := box4 ((HB2.out.block _ (box_lt HG0.out)).trans HG0.out)
      have hzB : w.heap.size < u2.heap.size := Nat.lt_of_lt_of_le (box_lt HG0.out) HB2.out.size
      have KC := hide (show ∀ wx, Below u2.heap.size u2.drew wx → (wx.cell? ⟨w.heap.size, 0, none⟩ = some (.slice AE nE cE) ∧ wx.cell? ⟨w.heap.size, 1, none⟩ = some (.slice AC nC cC) ∧ wx.cell? ⟨w.heap.size, 2, none⟩ = some (.slice AF fin.length cF) ∧ wx.cell? ⟨w.heap.size, 3, none⟩ = some (.slice AX edges.length cX) ∧ Below u2.heap.size u2.drew wx) from fun wx hb => ⟨(hb.cell (p := ⟨w.heap.size, 0, none⟩) hzB).trans y0, (hb.cell (p := ⟨w.heap.size, 1, none⟩) hzB).trans y1, (hb.cell (p := ⟨w.heap.size, 2, none⟩) hzB).trans y2, (hb.cell (p := ⟨w.heap.size, 3, none⟩) hzB).trans y3, hb⟩)
      have HBU := hide (show ∀ wx, Below u2.heap.size u2.drew wx → Below W0.heap.size W0 wx from fun wx hb => HB2.out.trans (((below_drew (Below.refl _ u2)).trans hb).mono HB2.out.size))
      have kl := KC.out u2.drew (Below.refl _ _)
      have HXL := hide (show Below u2.heap.size u2.drew u2.drew from Below.refl _ _)
      go_region_held3 (fun wx => wx.cell? ⟨w.heap.size, 0, none⟩ = some (.slice AE nE cE) ∧ wx.cell? ⟨w.heap.size, 1, none⟩ = some (.slice AC nC cC) ∧ wx.cell? ⟨w.heap.size, 2, none⟩ = some (.slice AF fin.length cF) ∧ wx.cell? ⟨w.heap.size, 3, none⟩ = some (.slice AX edges.length cX) ∧ Below u2.heap.size u2.drew wx)
        (first | (with_reducible assumption) | exact kl)
        (first
          | (go_at_call 14
             refine (HVAL.out _ (HBU.out _ HXL.out)).mono ?_
             rintro e w1 ⟨rfl, hb⟩
             have hn := HXL.out.trans (hb.mono HXL.out.size)
             clear HXL kl hb
             have HXL := hide hn
             have kl := KC.out _ hn
             clear hn)
          | (go_at_call 15
             refine (HRVAL.out _ (HBU.out _ HXL.out)).mono ?_
             rintro e w2 ⟨rfl, hb⟩
             have hn := HXL.out.trans (hb.mono HXL.out.size)
             clear HXL kl hb
             have HXL := hide hn
             have kl := KC.out _ hn
             clear hn)
          | (go_at_call 21
             refine (HACC.out _ (HBU.out _ HXL.out)).mono ?_
             rintro e w3 ⟨rfl, hb⟩
             have hn := HXL.out.trans (hb.mono HXL.out.size)
             clear HXL kl hb
             have HXL := hide hn
             have kl := KC.out _ hn
             clear hn)
          | (go_at_call 22
             refine (HRACC.out _ (HBU.out _ HXL.out)).mono ?_
             rintro e w4 ⟨rfl, hb⟩
             have hn := HXL.out.trans (hb.mono HXL.out.size)
             clear HXL kl hb
             have HXL := hide hn
             have kl := KC.out _ hn
             clear hn)
          | (go_at_call 10
             refine (HAWK.out _).mono ?_
             rintro e w5 ⟨rfl, hb⟩
             have hn := HXL.out.trans (hb.mono HXL.out.size)
             clear HXL kl hb
             have HXL := hide hn
             have kl := KC.out _ hn
             clear hn)
        )
      all_goals go_wp2_with fail
      all_goals go_ret
      all_goals exact ⟨by simp, bstep HB0.out (HBU.out _ HXL.out)⟩

end Go.Proofs.YtgobkbjkndfliaaGreatDoor
