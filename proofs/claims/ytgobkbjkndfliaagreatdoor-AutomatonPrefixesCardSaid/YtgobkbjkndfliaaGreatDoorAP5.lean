/-
  Several texts in one: Few54. Each says at its head what it holds.
-/
import Derived.Test.YtgobkbjkndfliaaGreatDoorAP4
import Derived.Deep.DeepCutAuto
import Derived.Deep.QuietTactic
import Derived.BigQuiet
import Derived.IntWalk

/-
  wavestoreref49.Nodes and Few, wavestoreref54.Few end, whatever the tree, the automaton.
-/
namespace Go.Proofs.YtgobkbjkndfliaaGreatDoor
open Go.RowKit

def NumPost (w : World) (e : Ending) (w' : World) : Prop := ∃ z : Int, e = .returned (.int .i64 z) ∧ I64 z ∧ Below w.heap.size w w'
def NodesRel (len : Nat) (w : World) (k i : Value) (wr : World) : Prop := ∃ (j : Nat) (z : Int), j ≤ len ∧ i = .int .i64 j ∧ k = .int .i64 z ∧ I64 z ∧ Below w.heap.size w wr
theorem wrap_64 (z : Int) : I64 (wrap64 z) := by unfold I64 wrap64; omega

set_option maxRecDepth 100000 in
set_option maxHeartbeats 4000000 in
theorem nodes_any (n : Nd) : ∀ w : World, TreesAt w (Lo w.heap.size) n.KA n.kids → Calls Tryz.prog 31 #[.agg (cNd n).toArray] w (NumPost w) := by
  induction n using Nd.ind with
  | h n ih =>
  intro w ht
  obtain ⟨kind, at_, name, value, a, b, c, d, KA, kc, kids⟩ := n
  have IH := hide ih
  unfold Nd.KA Nd.kids at ht
  unfold cNd
  have hl := ht.len
  obtain ⟨W0, hW0⟩ : ∃ W0, w.alloc (.cells #[.int .i64 kind, .int .i64 at_, .string name, .string value, .int .i64 a, .int .i64 b, .int .i64 c, .int .i64 d, .slice KA kids.length kc] 24) = W0 := ⟨_, rfl⟩
  have g0 := new_at hW0
  have hb0 : Below w.heap.size w W0 := by rw [← hW0]; exact (Below.refl _ _).alloc (Nat.le_refl _) _
  have HT := hide (ht.grow hb0)
  have HG0 := hide g0
  have HB0 := hide hb0
  have HW0 := hide hW0
  clear ih ht g0 hb0 hW0
  go_enter Tryz.func31, Tryz.ntmps31
  go_upto_region 1 with (fail)
  rw [HW0.out]
  go_wp2_with fail
  go_loopw [3, 4] (fun k i wr => NodesRel kids.length W0 k i wr) (fun _ i _ => kids.length - (intOf i).toNat)
  case atStart => exact ⟨0, 1, Nat.zero_le _, rfl, rfl, by unfold I64; omega, Below.refl _ _⟩
  case round =>
    obtain ⟨j, z, hj, rfl, rfl, hz, hbr⟩ := hrel
    have HBR := hide hbr
    have HZ := hide hz
    obtain ⟨-, -, -, -, -, -, -, -, x8⟩ := box9 ((hbr.block _ (box_lt HG0.out)).trans HG0.out)
    clear hbr hz
    by_cases hlt : j < kids.length
    · have hT := HT.out.grow HBR.out
      obtain ⟨bk, ok, rfl, hbk, hc⟩ := hT.row.at_ hlt
      have hkid := hT.each _ (List.getElem_mem hlt)
      have hcall := IH.out _ (show kids[j] ∈ Nd.kids (.mk kind at_ name value a b c d (some ⟨bk, ok, none⟩) kc kids) from List.getElem_mem hlt) wr hkid
      generalize kids[j] = m at *
      obtain ⟨m1, m2, m3, m4, m5, m6, m7, m8, mK, mc, ml⟩ := m
      unfold cNd at hc hcall
      have HC := hide hcall
      have c0 := hc 0 (by omega)
      have c1 := hc 1 (by omega)
      have c2 := hc 2 (by omega)
      have c3 := hc 3 (by omega)
      have c4 := hc 4 (by omega)
      have c5 := hc 5 (by omega)
      have c6 := hc 6 (by omega)
      have c7 := hc 7 (by omega)
      have c8 := hc 8 (by omega)
      simp only [List.getElem?_cons_zero, List.getElem?_cons_succ, Nat.add_zero] at c0 c1 c2 c3 c4 c5 c6 c7 c8
      clear hc hcall hkid hT
      go_wp2_with (go_at_call 31; refine HC.out.mono ?_; rintro e w2 ⟨y, rfl, hy, hb2⟩; have HB2 := hide hb2; clear hb2)
      exact ⟨⟨j + 1, _, hlt, by go_num, rfl, wrap_64 _, bstep HBR.out HB2.out⟩, by simp [intOf]; omega⟩
    · have HE := hide (show NumPost w (.returned (.int .i64 z)) wr from ⟨z, rfl, HZ.out, bstep HB0.out HBR.out⟩)
      go_wp2_with fail
      go_ret
      exact HE.out

def BoolPost (w : World) (e : Ending) (w' : World) : Prop := ∃ b : Bool, e = .returned (.bool b) ∧ Below w.heap.size w w'
def FewRel (len : Nat) (w : World) (i : Value) (wr : World) : Prop := ∃ j : Nat, j ≤ len ∧ i = .int .i64 j ∧ Below w.heap.size w wr

set_option maxRecDepth 100000 in
set_option maxHeartbeats 4000000 in
theorem few49_any (most : Int) (n : Nd) : ∀ w : World, TreesAt w (Lo w.heap.size) n.KA n.kids → Calls Tryz.prog 9 #[.agg (cNd n).toArray, .int .i64 most] w (BoolPost w) := by
  induction n using Nd.ind with
  | h n ih =>
  intro w ht
  have hn := nodes_any n
  obtain ⟨kind, at_, name, value, a, b, c, d, KA, kc, kids⟩ := n
  have IH := hide ih
  unfold Nd.KA Nd.kids at ht hn
  unfold cNd at hn ⊢
  dsimp only at hn
  have hl := ht.len
  obtain ⟨W0, hW0⟩ : ∃ W0, w.alloc (.cells #[.int .i64 kind, .int .i64 at_, .string name, .string value, .int .i64 a, .int .i64 b, .int .i64 c, .int .i64 d, .slice KA kids.length kc] 24) = W0 := ⟨_, rfl⟩
  have g0 := new_at hW0
  have hb0 : Below w.heap.size w W0 := by rw [← hW0]; exact (Below.refl _ _).alloc (Nat.le_refl _) _
  have HT := hide (ht.grow hb0)
  have HN := hide (hn W0 HT.out)
  have HG0 := hide g0
  have HB0 := hide hb0
  have HW0 := hide hW0
  have HNO := hide (show ∀ wr, Below W0.heap.size W0 wr → BoolPost w (.returned (.bool false)) wr from fun wr hb => ⟨false, rfl, bstep hb0 hb⟩)
  obtain ⟨y0, y1, y2, y3, y4, y5, y6, y7, y8⟩ := box9 g0
  clear ih ht g0 hb0 hW0 hn
  by_cases h1 : name.size ≤ 60
  · have T1 : decide ((60 : Int) < (name.size : Int)) = false := decide_eq_false (by omega)
    by_cases h2 : value.size ≤ 130
    · have T2 : decide ((130 : Int) < (value.size : Int)) = false := decide_eq_false (by omega)
      go_enter Tryz.func9, Tryz.ntmps9
      go_upto_region 1 with (fail)
      rw [HW0.out]
      go_cut [21] (fun v wx => ∃ b : Bool, v = .bool b ∧ Below W0.heap.size W0 wx)
      case first =>
        go_wp2_with (go_at_call 31; refine HN.out.mono ?_; rintro e w2 ⟨y, rfl, hy, hb2⟩; have HB2 := hide hb2; clear hb2)
        go_meet
        exact ⟨_, rfl, HB2.out⟩
      case rest =>
        obtain ⟨bt, rfl, hbc⟩ := hcut
        have HBC := hide hbc
        clear hbc y0 y1 y2 y3 y4 y5 y6 y7 y8
        cases bt with
        | true =>
          go_wp2_with fail
          go_ret
          exact HNO.out _ HBC.out
        | false =>
          go_wp2_with fail
          go_loopw [5] (fun i wr => FewRel kids.length W0 i wr) (fun i _ => kids.length - (intOf i).toNat)
          case atStart => exact ⟨0, Nat.zero_le _, rfl, HBC.out⟩
          case round =>
            obtain ⟨j, hj, rfl, hbr⟩ := hrel
            have HBR := hide hbr
            obtain ⟨-, -, -, -, -, -, -, -, x8⟩ := box9 ((hbr.block _ (box_lt HG0.out)).trans HG0.out)
            clear hbr
            by_cases hlt : j < kids.length
            · have hT := HT.out.grow HBR.out
              obtain ⟨bk, ok, rfl, hbk, hc⟩ := hT.row.at_ hlt
              have hkid := hT.each _ (List.getElem_mem hlt)
              have hcall := IH.out _ (show kids[j] ∈ Nd.kids (.mk kind at_ name value a b c d (some ⟨bk, ok, none⟩) kc kids) from List.getElem_mem hlt) wr hkid
              generalize kids[j] = m at *
              obtain ⟨m1, m2, m3, m4, m5, m6, m7, m8, mK, mc, ml⟩ := m
              unfold cNd at hc hcall
              have HC := hide hcall
              have c0 := hc 0 (by omega)
              have c1 := hc 1 (by omega)
              have c2 := hc 2 (by omega)
              have c3 := hc 3 (by omega)
              have c4 := hc 4 (by omega)
              have c5 := hc 5 (by omega)
              have c6 := hc 6 (by omega)
              have c7 := hc 7 (by omega)
              have c8 := hc 8 (by omega)
              simp only [List.getElem?_cons_zero, List.getElem?_cons_succ, Nat.add_zero] at c0 c1 c2 c3 c4 c5 c6 c7 c8
              clear hc hcall hkid hT
              go_upto_if 36 with (go_at_call 9; refine HC.out.mono ?_; rintro e w2 ⟨y, rfl, hb2⟩; have HB2 := hide hb2; clear hb2)
              cases y with
              | true =>
                go_wp2_with fail
                exact ⟨⟨j + 1, hlt, by go_num, bstep HBR.out HB2.out⟩, by simp [intOf]; omega⟩
              | false =>
                go_wp2_with fail
                go_ret
                exact HNO.out _ (bstep HBR.out HB2.out)
            · have HE := hide (show BoolPost w (.returned (.bool true)) wr from ⟨true, rfl, bstep HB0.out HBR.out⟩)
              go_wp2_with fail
              go_ret
              exact HE.out
    · have T2 : decide ((130 : Int) < (value.size : Int)) = true := decide_eq_true (by omega)
      go_enter Tryz.func9, Tryz.ntmps9
      go_upto_region 1 with (fail)
      rw [HW0.out]
      go_wp2_with fail
      go_ret
      exact HNO.out _ (Below.refl _ _)
  · have T1 : decide ((60 : Int) < (name.size : Int)) = true := decide_eq_true (by omega)
    go_enter Tryz.func9, Tryz.ntmps9
    go_upto_region 1 with (fail)
    rw [HW0.out]
    go_wp2_with fail
    go_ret
    exact HNO.out _ (Below.refl _ _)

/-- the lists of trees of an automaton -/
structure AutTrees (w : World) (a : Aut) (evs cds : List Nd) : Prop where
  nE : a.nE = evs.length
  nC : a.nC = cds.length
  ev : TreesAt w (Lo w.heap.size) a.AE evs
  cd : TreesAt w (Lo w.heap.size) a.AC cds
theorem AutTrees.grow {w w' : World} {a : Aut} {evs cds : List Nd} (h : AutTrees w a evs cds) (hb : Below w.heap.size w w') : AutTrees w' a evs cds := ⟨h.nE, h.nC, h.ev.grow hb, h.cd.grow hb⟩

set_option maxRecDepth 100000 in
set_option maxHeartbeats 4000000 in
theorem few54_any (a : Aut) (evs cds : List Nd) (w : World) (ht : AutTrees w a evs cds) (hle : AutLe a) : Calls Tryz.prog 19 #[.agg (encA a).toArray] w (BoolPost w) := by
  obtain ⟨AE, nE, cE, AC, nC, cC, AF, cF, fin, AX, cX, edges⟩ := a
  obtain ⟨hE, hC, hev, hcd⟩ := ht
  have n1 := hle.nE
  have n2 := hle.nC
  have n3 := hle.fin
  have n4 := hle.edges
  dsimp only at hE hC hev hcd n1 n2 n3 n4
  subst hE hC
  obtain ⟨W0, hW0⟩ : ∃ W0, w.alloc (.cells #[.slice AE evs.length cE, .slice AC cds.length cC, .slice AF fin.length cF, .slice AX edges.length cX] 30) = W0 := ⟨_, rfl⟩
  have g0 := new_at hW0
  have hb0 : Below w.heap.size w W0 := by rw [← hW0]; exact (Below.refl _ _).alloc (Nat.le_refl _) _
  have HE := hide (hev.grow hb0)
  have HC := hide (hcd.grow hb0)
  have HG0 := hide g0
  have HB0 := hide hb0
  have HW0 := hide hW0
  have HNO := hide (show ∀ wr, Below W0.heap.size W0 wr → BoolPost w (.returned (.bool false)) wr from fun wr hb => ⟨false, rfl, bstep hb0 hb⟩)
  obtain ⟨y0, y1, y2, y3, -⟩ := box4 g0
  clear g0 hb0 hW0 hev hcd hle
  show Calls _ _ #[.agg #[.slice AE evs.length cE, .slice AC cds.length cC, .slice AF fin.length cF, .slice AX edges.length cX]] w (BoolPost w)
  go_enter Tryz.func19, Tryz.ntmps19
  go_upto_region 1 with (fail)
  rw [HW0.out]
  go_cut [26] (fun v wx => ∃ b : Bool, v = .bool b ∧ Below W0.heap.size W0 wx)
  case first =>
    obtain ⟨t1, T1⟩ : ∃ t1, decide ((40 : Int) < (evs.length : Int)) = t1 := ⟨_, rfl⟩
    obtain ⟨t2, T2⟩ : ∃ t2, decide ((40 : Int) < (cds.length : Int)) = t2 := ⟨_, rfl⟩
    obtain ⟨t3, T3⟩ : ∃ t3, decide ((40 : Int) < (fin.length : Int)) = t3 := ⟨_, rfl⟩
    obtain ⟨t4, T4⟩ : ∃ t4, decide ((200 : Int) < (edges.length : Int)) = t4 := ⟨_, rfl⟩
    cases t1 <;> cases t2 <;> cases t3 <;> cases t4 <;> (go_wp2_with fail; go_meet; exact ⟨_, rfl, Below.refl _ _⟩)
  case rest =>
    obtain ⟨bt, rfl, hbc⟩ := hcut
    have HBC := hide hbc
    clear hbc y0 y1 y2 y3
    cases bt with
    | true =>
      go_wp2_with fail
      go_ret
      exact HNO.out _ HBC.out
    | false =>
      go_wp2_with fail
      go_loopw [3] (fun i wr => FewRel evs.length W0 i wr) (fun i _ => evs.length - (intOf i).toNat)
      case atStart => exact ⟨0, Nat.zero_le _, rfl, HBC.out⟩
      case round =>
        obtain ⟨j, hj, rfl, hbr⟩ := hrel
        have HBR := hide hbr
        obtain ⟨x0, x1, -, -, -⟩ := box4 ((hbr.block _ (box_lt HG0.out)).trans HG0.out)
        clear hbr
        by_cases hlt : j < evs.length
        · have hT := HE.out.grow HBR.out
          obtain ⟨bk, ok, rfl, hbk, hc⟩ := hT.row.at_ hlt
          have hcall := few49_any 20 evs[j] wr (hT.each _ (List.getElem_mem hlt))
          generalize evs[j] = m at *
          obtain ⟨m1, m2, m3, m4, m5, m6, m7, m8, mK, mc, ml⟩ := m
          unfold cNd at hc hcall
          have HCL := hide hcall
          have c0 := hc 0 (by omega)
          have c1 := hc 1 (by omega)
          have c2 := hc 2 (by omega)
          have c3 := hc 3 (by omega)
          have c4 := hc 4 (by omega)
          have c5 := hc 5 (by omega)
          have c6 := hc 6 (by omega)
          have c7 := hc 7 (by omega)
          have c8 := hc 8 (by omega)
          simp only [List.getElem?_cons_zero, List.getElem?_cons_succ, Nat.add_zero] at c0 c1 c2 c3 c4 c5 c6 c7 c8
          clear hc hcall hT
          go_upto_if 40 with (go_at_call 9; refine HCL.out.mono ?_; rintro e w2 ⟨y, rfl, hb2⟩; have HB2 := hide hb2; clear hb2)
          cases y with
          | true =>
            go_wp2_with fail
            exact ⟨⟨j + 1, hlt, by go_num, bstep HBR.out HB2.out⟩, by simp [intOf]; omega⟩
          | false =>
            go_wp2_with fail
            go_ret
            exact HNO.out _ (bstep HBR.out HB2.out)
        · clear x0 x1
          obtain ⟨x0, x1, -, -, -⟩ := box4 ((HBR.out.block _ (box_lt HG0.out)).trans HG0.out)
          go_wp2_with fail
          clear x0 x1
          go_loopw [4] (fun i wr => FewRel cds.length W0 i wr) (fun i _ => cds.length - (intOf i).toNat)
          case atStart => exact ⟨0, Nat.zero_le _, rfl, HBR.out⟩
          case round =>
            obtain ⟨j2, hj2, rfl, hbr⟩ := hrel
            have HBR2 := hide hbr
            obtain ⟨x0, x1, -, -, -⟩ := box4 ((hbr.block _ (box_lt HG0.out)).trans HG0.out)
            clear hbr
            by_cases hlt2 : j2 < cds.length
            · have hT := HC.out.grow HBR2.out
              obtain ⟨bk, ok, rfl, hbk, hc⟩ := hT.row.at_ hlt2
              have hcall := few49_any 20 cds[j2] wr (hT.each _ (List.getElem_mem hlt2))
              generalize cds[j2] = m at *
              obtain ⟨m1, m2, m3, m4, m5, m6, m7, m8, mK, mc, ml⟩ := m
              unfold cNd at hc hcall
              have HCL := hide hcall
              have c0 := hc 0 (by omega)
              have c1 := hc 1 (by omega)
              have c2 := hc 2 (by omega)
              have c3 := hc 3 (by omega)
              have c4 := hc 4 (by omega)
              have c5 := hc 5 (by omega)
              have c6 := hc 6 (by omega)
              have c7 := hc 7 (by omega)
              have c8 := hc 8 (by omega)
              simp only [List.getElem?_cons_zero, List.getElem?_cons_succ, Nat.add_zero] at c0 c1 c2 c3 c4 c5 c6 c7 c8
              clear hc hcall hT
              go_upto_if 54 with (go_at_call 9; refine HCL.out.mono ?_; rintro e w2 ⟨y, rfl, hb2⟩; have HB2 := hide hb2; clear hb2)
              cases y with
              | true =>
                go_wp2_with fail
                exact ⟨⟨j2 + 1, hlt2, by go_num, bstep HBR2.out HB2.out⟩, by simp [intOf]; omega⟩
              | false =>
                go_wp2_with fail
                go_ret
                exact HNO.out _ (bstep HBR2.out HB2.out)
            · have HF := hide (show BoolPost w (.returned (.bool true)) wr from ⟨true, rfl, bstep HB0.out HBR2.out⟩)
              go_wp2_with fail
              go_ret
              exact HF.out

end Go.Proofs.YtgobkbjkndfliaaGreatDoor
