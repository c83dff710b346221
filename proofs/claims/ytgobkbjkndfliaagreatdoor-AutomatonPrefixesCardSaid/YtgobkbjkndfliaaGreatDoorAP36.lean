/-
  Several texts in one: CComp. Each says at its head what it holds.
-/
import Derived.Test.YtgobkbjkndfliaaGreatDoorAP28
import Derived.Test.YtgobkbjkndfliaaGreatDoorAP29
import Derived.Test.YtgobkbjkndfliaaGreatDoorAP35
import Derived.Test.YtgobkbjkndfliaaGreatDoorAP15

/-
  automaton.Compile at the pattern of the law's example.
-/
namespace Go.Proofs.YtgobkbjkndfliaaGreatDoor
open Go.RowKit

/-- the automaton of the example -/
def exE : List Edg := [⟨0, 1, 0, -1, 0, 0⟩, ⟨1, 2, 1, -1, 1, 5⟩, ⟨2, 3, 1, -1, 0, 3⟩]
def CompE (w : World) (e : Ending) (w' : World) : Prop := ∃ a : Aut, e = .returned (.tuple #[.agg (encA a).toArray, .int .i64 0]) ∧ AutAt w' (Lo w'.heap.size) a ∧ a.fin = [false, false, true, true] ∧ a.edges = exE ∧ a.nE = 2 ∧ a.nC = 0 ∧ Below w.heap.size w w'

theorem rows_gx {w w' : World} {kb g c n : Nat} {xs : List Value} (h : w.ownsRow kb 65 12 (.slice (some ⟨g, 0, none⟩) n c) n xs) (hb : Below w.heap.size w w') : w'.ownsRow kb 65 12 (.slice (some ⟨g, 0, none⟩) n c) n xs := own_block h fun b hb' => hb.block b (own_ob h b hb').2
/-- behind the expansion: the first and the last states of the pattern in a box of their own -/
structure ExMid (w w4 W5 : World) (E : List Edg) (X p q cq : Nat) (wx : World) : Prop where
  bx : wx.heap[X]? = some (.cells #[.slice (some ⟨p, 0, none⟩) 1 1, .slice (some ⟨q, 0, none⟩) 2 cq, .bool false] 61 (0, 0))
  hp : wx.heap[p]? = some (.cells #[.int .i64 1] 3 (0, 0))
  hq0 : wx.cell? ⟨q, 0, none⟩ = some (.int .i64 2)
  hq1 : wx.cell? ⟨q, 1, none⟩ = some (.int .i64 3)
  cs : CSt wx w.heap.size w4.heap.size 2 E [0, 1, 1] (fun b => (b < w4.heap.size ∨ b = w4.heap.size + 1) ∨ b = X ∨ b = p ∨ b = q)
  kp : Kp (fun b => b < w4.heap.size ∨ b = w4.heap.size + 1) W5 wx
theorem ex_mid {w w4 W5 w3 v : World} {G : Nat → Prop} {X p q cq : Nat} (hc : CSt w3 w.heap.size w4.heap.size 2 [⟨2, 3, 1, -1, 0, 3⟩, ⟨1, 2, 1, -1, 1, 5⟩] [0, 1, 1] G) (hk : Kp (fun b => b < w4.heap.size ∨ b = w4.heap.size + 1) W5 w3) (hF : ∀ b, (b < w4.heap.size ∨ b = w4.heap.size + 1) → G b)
    (hp : w3.heap[p]? = some (.cells #[.int .i64 1] 3 (0, 0))) (gp : G p) (hq0 : w3.cell? ⟨q, 0, none⟩ = some (.int .i64 2)) (hq1 : w3.cell? ⟨q, 1, none⟩ = some (.int .i64 3)) (gq : G q) (hX0 : W5.heap.size ≤ X) (h5 : ∀ b, (b < w4.heap.size ∨ b = w4.heap.size + 1) → b < W5.heap.size)
    (h : (BxIn G w3 X (.cells #[.slice none 0 0, .slice none 0 0, .bool false] 61) ∧ v = ((w3.setCell ⟨X, 0, none⟩ (.slice (some ⟨p, 0, none⟩) 1 1)).setCell ⟨X, 1, none⟩ (.slice (some ⟨q, 0, none⟩) 2 cq)).setCell ⟨X, 2, none⟩ (.bool false)) ∨ (X = w3.heap.size ∧ v = w3.alloc (.cells #[.slice (some ⟨p, 0, none⟩) 1 1, .slice (some ⟨q, 0, none⟩) 2 cq, .bool false] 61))) : ExMid w w4 W5 [⟨2, 3, 1, -1, 0, 3⟩, ⟨1, 2, 1, -1, 1, 5⟩] X p q cq v := by
  have hl := hc.lt.1
  have key : v.heap[X]? = some (.cells #[.slice (some ⟨p, 0, none⟩) 1 1, .slice (some ⟨q, 0, none⟩) 2 cq, .bool false] 61 (0, 0)) ∧ (∀ b, b < w3.heap.size → b ≠ X → v.heap[b]? = w3.heap[b]?) ∧ w3.heap.size ≤ v.heap.size ∧ v.os = w3.os ∧ v.tape = w3.tape ∧ v.output = w3.output ∧ (G X ∨ w3.heap.size ≤ X) ∧ p ≠ X ∧ q ≠ X := by
    rcases h with ⟨hX, rfl⟩ | ⟨rfl, rfl⟩
    · obtain ⟨a1, a2, a3, a4, a5, a6⟩ := set3_all (x0 := .slice (some ⟨p, 0, none⟩) 1 1) (x1 := .slice (some ⟨q, 0, none⟩) 2 cq) (x2 := .bool false) hX.2 rfl
      exact ⟨a1, fun b _ h => a2 b h, by omega, a4, a5, a6, Or.inl hX.1, cells_ne hp hX.2 (by decide), q_ne hq0 hX.2⟩
    · exact ⟨heap_alloc_new _ _, fun b hb _ => Below.heap_alloc _ _ _ hb, by simp, rfl, rfl, rfl, Or.inr (Nat.le_refl _), by have := hl p gp; omega, by have := hl q gq; omega⟩
  obtain ⟨k1, k2, k3, k4, k5, k6, k7, k8, k9⟩ := key
  refine ⟨k1, (k2 p (box_lt hp) k8).trans hp, (World.cell?_of_block (a := ⟨q, 0, none⟩) (k2 q (hl q gq) k9)).trans hq0, (World.cell?_of_block (a := ⟨q, 1, none⟩) (k2 q (hl q gq) k9)).trans hq1, hc.step k3 (fun b h1 h2 => k2 b h1 (fun e => ?_)) (fun b hb => ?_), hk.trans ⟨k4, k5, k6, k3, fun b hb => k2 b (hl b (hF b hb)) (fun e => by have := h5 b hb; omega)⟩⟩
  · subst e
    rcases k7 with h3 | h3
    · exact h2 h3
    · omega
  · rcases hb with hb | rfl | rfl | rfl
    · exact Or.inl (hF b hb)
    · exact k7.imp id fun h3 => ⟨h3, box_lt k1⟩
    · exact Or.inl gp
    · exact Or.inl gq

/-- the final states being marked: a block of bools behind w6 whose place stands in the compiler's box -/
structure FinMid (w6 : World) (B : Nat) (box : Array Value) (gf : Nat) (l : List Bool) (wx : World) : Prop where
  bb : wx.heap[B]? = some (.cells box 59 (0, 0))
  ar : ArB wx gf l
  ge : w6.heap.size ≤ gf
  oth : ∀ b, b < w6.heap.size → b ≠ B → wx.heap[b]? = w6.heap[b]?
  size : w6.heap.size ≤ wx.heap.size
  os : wx.os = w6.os
  tape : wx.tape = w6.tape
  output : wx.output = w6.output
theorem FinMid.mark {w6 wx : World} {B gf k : Nat} {box : Array Value} {l : List Bool} (h : FinMid w6 B box gf l wx) (hB : B < w6.heap.size) (x : Bool) : FinMid w6 B box gf (l.set k x) (wx.setCell ⟨gf, k, none⟩ (.bool x)) := by
  have h1 := h.ge
  exact ⟨(Below.heap_setCell _ _ _ _ (by simp; omega)).trans h.bb, h.ar.set x, h.ge, fun b hb hn => (Below.heap_setCell _ _ _ _ (by simp; omega)).trans (h.oth b hb hn), by simp; exact h.size, h.os, h.tape, h.output⟩
theorem box4p {w : World} {N : Nat} {a b c d : Value} {t : TypeId} (h : w.heap[N]? = some (.cells #[a, b, c, d] t (0, 0))) : w.cell? ⟨N, 0, none⟩ = some a ∧ w.cell? ⟨N, 1, none⟩ = some b ∧ w.cell? ⟨N, 2, none⟩ = some c ∧ w.cell? ⟨N, 3, none⟩ = some d := by
  refine ⟨?_, ?_, ?_, ?_⟩ <;> (rw [cell_of_row w N _ _ t (0, 0) h]; rfl)
theorem four_box {w : World} {N : Nat} {a b c d : Value} {t : TypeId} (hN : w.heap[N]? = some (.cells #[a, b, c, d] t (0, 0))) (v0 v1 v2 v3 : Value) : ((((w.setCell ⟨N, 0, none⟩ v0).setCell ⟨N, 1, none⟩ v1).setCell ⟨N, 2, none⟩ v2).setCell ⟨N, 3, none⟩ v3).heap[N]? = some (.cells #[v0, v1, v2, v3] t (0, 0)) := by
  have h0 := set_cells (k := 0) (v := v0) hN
  simp only [List.setIfInBounds_toArray, List.set] at h0
  have h1 := set_cells (k := 1) (v := v1) h0
  simp only [List.setIfInBounds_toArray, List.set] at h1
  have h2 := set_cells (k := 2) (v := v2) h1
  simp only [List.setIfInBounds_toArray, List.set] at h2
  have h3 := set_cells (k := 3) (v := v3) h2
  simp only [List.setIfInBounds_toArray, List.set] at h3
  with_reducible exact h3
theorem row_exE {w : World} {base g c : Nat} (h : w.ownsRow base 39 6 (.slice (some ⟨g, 0, none⟩) 3 c) 3 (exE.flatMap cEdg)) (P : Nat → Prop) (hP : P g) : Row w P 6 cEdg (some ⟨g, 0, none⟩) exE := fun _ => by
  refine ⟨g, 0, rfl, hP, fun i x hi j hj => ?_⟩
  have hl : i < 3 := (List.getElem?_eq_some_iff.1 hi).1
  rw [Nat.zero_add, h.cellAt (i * 6 + j) (by omega)]
  have hx : x = exE[i] := ((List.getElem?_eq_some_iff.1 hi).2).symm
  subst hx
  rcases i with _ | _ | _ | i
  · rcases j with _ | _ | _ | _ | _ | _ | j <;> first | rfl | omega
  · rcases j with _ | _ | _ | _ | _ | _ | j <;> first | rfl | omega
  · rcases j with _ | _ | _ | _ | _ | _ | j <;> first | rfl | omega
  · omega
theorem row_fin {w : World} {g : Nat} {l : List Bool} (h : ArB w g l) (P : Nat → Prop) (hP : P g) : Row w P 1 cBool (some ⟨g, 0, none⟩) l := fun _ => by
  refine ⟨g, 0, rfl, hP, fun i x hi j hj => ?_⟩
  have : j = 0 := by omega
  subst this
  rw [Nat.zero_add, Nat.mul_one, Nat.add_zero, h.cell hi]
  rfl

set_option maxRecDepth 100000 in
set_option maxHeartbeats 8000000 in
theorem comp_then (A A1 A2 A3 : Option Addr) (c1 c2 : Nat) (w : World) (ht : TreesAt w (Lo w.heap.size) A [evN 37 A1 c1, repN A3 1 A2 c2]) :
    Calls Tryz.prog 11 #[.agg #[.int .i64 45, .int .i64 0, .string ByteArray.empty, .string ByteArray.empty, .int .i64 1, .int .i64 5, .int .i64 0, .int .i64 0, .slice A 2 2]] w (CompE w) := by
  have HT := hide ht
  go_enter Tryz.func11, Tryz.ntmps11
  go_upto_region 1 with (fail)
  obtain ⟨W0, hW0⟩ : ∃ W0, (w.alloc (.cells #[.int .i64 45, .int .i64 0, .string ByteArray.empty, .string ByteArray.empty, .int .i64 1, .int .i64 5, .int .i64 0, .int .i64 0, .slice A 2 2] 24)).alloc (.cells #[.slice none 0 0, .slice none 0 0, .slice none 0 0, .slice none 0 0] 30) = W0 := ⟨_, rfl⟩
  rw [hW0]
  obtain ⟨p0, p1, hbW, hsW⟩ := chain2 _ _ _ hW0
  have HB0 := hide hbW
  have HP0 := hide p0
  have HP1 := hide p1
  have HSW := hide hsW
  have HN0 := hide (show w.heap.size < W0.heap.size from by omega)
  obtain ⟨y0, y1, y2, y3, y4, y5, y6, y7, y8⟩ := box9 p0
  clear ht hW0 p0 p1 hbW hsW
  go_upto_region 7 with
    (first
      | (go_at_call 32
         with_reducible refine (pat_then A A1 A2 A3 2 c1 c2 1 (by omega) (by omega) _ (HT.out.grow HB0.out)).mono ?_
         rintro e w1 ⟨rfl, hb⟩
         have HB1 := hide hb
         have HV1 := hide (bstep HB0.out HB1.out)
         clear hb y0 y1 y2 y3 y4 y5 y6 y7 y8
         obtain ⟨y0, y1, y2, y3, y4, y5, y6, y7, y8⟩ := box9 ((HB1.out.block _ HN0.out).trans HP0.out))
      | (go_at_call 33
         with_reducible refine (nul_then A A1 A2 A3 2 c1 c2 1 _ (HT.out.grow HV1.out)).mono ?_
         rintro e w2 ⟨rfl, hb⟩
         have HB2 := hide (bstep HB1.out hb)
         have HV2 := hide (bstep HB0.out HB2.out)
         clear hb y0 y1 y2 y3 y4 y5 y6 y7 y8
         obtain ⟨y0, y1, y2, y3, y4, y5, y6, y7, y8⟩ := box9 ((HB2.out.block _ HN0.out).trans HP0.out))
      | (go_at_call 34
         with_reducible refine (hol_then A A1 A2 A3 2 c1 c2 1 _ (HT.out.grow HV2.out)).mono ?_
         rintro e w3 ⟨rfl, hb⟩
         have HB3 := hide (bstep HB2.out hb)
         have HV3 := hide (bstep HB0.out HB3.out)
         clear hb y0 y1 y2 y3 y4 y5 y6 y7 y8
         obtain ⟨y0, y1, y2, y3, y4, y5, y6, y7, y8⟩ := box9 ((HB3.out.block _ HN0.out).trans HP0.out))
      | (go_at_call 16
         with_reducible refine (stp_then A A1 A2 A3 2 c1 c2 1 _ (HT.out.grow HV3.out)).mono ?_
         rintro e w4 ⟨rfl, hb⟩
         have HB4 := hide (bstep HB3.out hb)
         have HV4 := hide (bstep HB0.out HB4.out)
         clear hb y0 y1 y2 y3 y4 y5 y6 y7 y8
         obtain ⟨y0, y1, y2, y3, y4, y5, y6, y7, y8⟩ := box9 ((HB4.out.block _ HN0.out).trans HP0.out))
      | fail)
  go_upto_region 8 with (fail)
  obtain ⟨W5, hW5⟩ : ∃ W5, (w4.alloc (.cells #[.slice none 0 0, .slice none 0 0, .slice none 0 0, .slice none 0 0, .slice none 0 0] 59)).alloc (.cells #[.pointer (some ⟨w4.heap.size, 0, none⟩)] 57) = W5 := ⟨_, rfl⟩
  rw [hW5]
  obtain ⟨q0, q1, hb5, hs5⟩ := chain2 _ _ _ hW5
  have hz4 := HV4.out.size
  have HNW := hide (show w.heap.size < w4.heap.size from Nat.lt_of_lt_of_le HN0.out HB4.out.size)
  have HG0 := hide (show ∀ b, (b < w4.heap.size ∨ b = w4.heap.size + 1) → b < W5.heap.size from fun b h => by rcases h with h | h <;> omega)
  have HV5 := hide (bstep HV4.out hb5)
  have HB5 := hide hb5
  have HS5 := hide hs5
  have b0 : W5.cell? ⟨w4.heap.size + 1, 0, none⟩ = some (.pointer (some ⟨w4.heap.size, 0, none⟩)) := by rw [cell_of_row _ _ 0 _ _ (0, 0) q1]; rfl
  obtain ⟨n0, n1, n2, n3, n4, n5, n6, n7, n8⟩ := box9 ((hb5.block _ HNW.out).trans ((HB4.out.block _ HN0.out).trans HP0.out))
  have HC0 := hide (show CSt W5 w.heap.size w4.heap.size 0 [] [] (Gx (fun b => b < w4.heap.size ∨ b = w4.heap.size + 1) W5.heap.size W5) from
    ⟨none, 0, [], none, 0, none, 0, ⟨q0, World.ownsRow_nil _ _ _ _, World.ownsRow_nil _ _ _ _, World.ownsRow_nil _ _ _ _, fun b hb => by
      have hb2 : b < w4.heap.size ∨ b = w4.heap.size + 1 := hb.elim id fun h => absurd h.1 (by omega)
      exact ⟨by rcases hb2 with h | h <;> omega, by omega, fun e => (by cases e), fun e => (by cases e), fun e => (by cases e)⟩, hz4⟩⟩)
  have HNU := hide (fun (wx : World) (hk : Kp (fun b => b < w4.heap.size ∨ b = w4.heap.size + 1) W5 wx) (hx : CSt wx w.heap.size w4.heap.size 0 [] [] (Gx (fun b => b < w4.heap.size ∨ b = w4.heap.size + 1) W5.heap.size wx)) => num_then A A1 A2 A3 c1 c2 w.heap.size w4.heap.size 0 [] [] (Gx (fun b => b < w4.heap.size ∨ b = w4.heap.size + 1) W5.heap.size wx) wx ((HT.out.stay (w' := wx) (fun b hb => (hk.block b (Or.inl (Nat.lt_of_lt_of_le hb hz4))).trans (HV5.out.block b hb))).more (fun b hb => Or.inl (Or.inl (Nat.lt_of_lt_of_le hb hz4)))) hx (by omega))
  have HEX := hide (fun (g cg g2 c2' : Nat) (F2 : Nat → Prop) (m : Nat) (wx : World) (kb : Nat) (hx : CSt wx w.heap.size w4.heap.size 2 [] [] (Gx F2 m wx)) (hr : wx.ownsRow kb 65 12 (.slice (some ⟨g, 0, none⟩) 2 cg) 2 (cNumEv 37 A1 c1 0 ++ cNumRep A3 1 g2 c2')) (hr2 : wx.ownsRow kb 65 12 (.slice (some ⟨g2, 0, none⟩) 1 c2') 1 (cNumEv 38 A2 c2 (0 + 1))) (hg : F2 g) (hg2 : F2 g2) => exp_then A A1 A2 A3 c1 c2 g cg g2 c2' 0 kb w.heap.size w4.heap.size 2 [] [] (Gx F2 m wx) wx hx hr hr2 (Or.inl hg) (Or.inl hg2) (by simp) (by simp))
  unfold cNumThen at HEX
  have KC := hide (show ∀ wx, Kp (fun b => b < w4.heap.size ∨ b = w4.heap.size + 1) W5 wx → (wx.cell? ⟨w4.heap.size + 1, 0, none⟩ = some (.pointer (some ⟨w4.heap.size, 0, none⟩)) ∧ wx.cell? ⟨w.heap.size, 0, none⟩ = some (.int .i64 45) ∧ wx.cell? ⟨w.heap.size, 1, none⟩ = some (.int .i64 0) ∧ wx.cell? ⟨w.heap.size, 2, none⟩ = some (.string ByteArray.empty) ∧ wx.cell? ⟨w.heap.size, 3, none⟩ = some (.string ByteArray.empty) ∧ wx.cell? ⟨w.heap.size, 4, none⟩ = some (.int .i64 1) ∧ wx.cell? ⟨w.heap.size, 5, none⟩ = some (.int .i64 5) ∧ wx.cell? ⟨w.heap.size, 6, none⟩ = some (.int .i64 0) ∧ wx.cell? ⟨w.heap.size, 7, none⟩ = some (.int .i64 0) ∧ wx.cell? ⟨w.heap.size, 8, none⟩ = some (.slice A 2 2) ∧ Kp (fun b => b < w4.heap.size ∨ b = w4.heap.size + 1) W5 wx) from fun wx h => ⟨(World.cell?_of_block (a := ⟨w4.heap.size + 1, 0, none⟩) (h.block (w4.heap.size + 1) (Or.inr rfl))).trans b0, (World.cell?_of_block (a := ⟨w.heap.size, 0, none⟩) (h.block w.heap.size (Or.inl HNW.out))).trans n0, (World.cell?_of_block (a := ⟨w.heap.size, 1, none⟩) (h.block w.heap.size (Or.inl HNW.out))).trans n1, (World.cell?_of_block (a := ⟨w.heap.size, 2, none⟩) (h.block w.heap.size (Or.inl HNW.out))).trans n2, (World.cell?_of_block (a := ⟨w.heap.size, 3, none⟩) (h.block w.heap.size (Or.inl HNW.out))).trans n3, (World.cell?_of_block (a := ⟨w.heap.size, 4, none⟩) (h.block w.heap.size (Or.inl HNW.out))).trans n4, (World.cell?_of_block (a := ⟨w.heap.size, 5, none⟩) (h.block w.heap.size (Or.inl HNW.out))).trans n5, (World.cell?_of_block (a := ⟨w.heap.size, 6, none⟩) (h.block w.heap.size (Or.inl HNW.out))).trans n6, (World.cell?_of_block (a := ⟨w.heap.size, 7, none⟩) (h.block w.heap.size (Or.inl HNW.out))).trans n7, (World.cell?_of_block (a := ⟨w.heap.size, 8, none⟩) (h.block w.heap.size (Or.inl HNW.out))).trans n8, h⟩)
  clear hW5 q0 q1 hb5 hs5 hz4 b0 n0 n1 n2 n3 n4 n5 n6 n7 n8 y0 y1 y2 y3 y4 y5 y6 y7 y8
  go_cut [5] (fun a wx => ∃ X p q cq : Nat, a = .pointer (some ⟨X, 0, none⟩) ∧ ExMid w w4 W5 [⟨2, 3, 1, -1, 0, 3⟩, ⟨1, 2, 1, -1, 1, 5⟩] X p q cq wx)
  case first =>
    have k0 := KC.out W5.drew (Kp.refl _ _).drew
    go_region_held3 (fun wx => wx.cell? ⟨w4.heap.size + 1, 0, none⟩ = some (.pointer (some ⟨w4.heap.size, 0, none⟩)) ∧ wx.cell? ⟨w.heap.size, 0, none⟩ = some (.int .i64 45) ∧ wx.cell? ⟨w.heap.size, 1, none⟩ = some (.int .i64 0) ∧ wx.cell? ⟨w.heap.size, 2, none⟩ = some (.string ByteArray.empty) ∧ wx.cell? ⟨w.heap.size, 3, none⟩ = some (.string ByteArray.empty) ∧ wx.cell? ⟨w.heap.size, 4, none⟩ = some (.int .i64 1) ∧ wx.cell? ⟨w.heap.size, 5, none⟩ = some (.int .i64 5) ∧ wx.cell? ⟨w.heap.size, 6, none⟩ = some (.int .i64 0) ∧ wx.cell? ⟨w.heap.size, 7, none⟩ = some (.int .i64 0) ∧ wx.cell? ⟨w.heap.size, 8, none⟩ = some (.slice A 2 2) ∧ Kp (fun b => b < w4.heap.size ∨ b = w4.heap.size + 1) W5 wx)
      (first | (with_reducible assumption) | (exact KC.out _ (by repeat' (first | (with_reducible exact HK2.out) | (with_reducible exact HK1.out) | (with_reducible exact (Kp.refl _ _)) | (with_reducible refine kp_drew ?_) | (with_reducible refine kp_alloc _ HG0.out ?_) | (with_reducible refine kp_set (fun h => absurd (HG0.out _ h) (Nat.not_lt.2 ?_)) ?_) | (with_reducible exact Nat.le_refl _) | (with_reducible exact Nat.le_add_right _ 1) | (with_reducible exact HSZ1.out) | (with_reducible exact Nat.le_add_right_of_le HSZ1.out) | (with_reducible exact HSZ2.out) | (with_reducible exact Nat.le_add_right_of_le HSZ2.out)))))
      (first
        | (go_at_call 36
           with_reducible refine (HNU.out _ ?_ ?_).mono ?_
           (focus ((repeat' (first | (with_reducible exact HK2.out) | (with_reducible exact HK1.out) | (with_reducible exact (Kp.refl _ _)) | (with_reducible refine kp_drew ?_) | (with_reducible refine kp_alloc _ HG0.out ?_)))))
           (focus (repeat' (first | (with_reducible exact HC0.out) | (with_reducible refine cp_drew ?_) | (with_reducible refine cp_alloc _ ?_))))
           rintro e v2 ⟨g, c', g2, c2', he, hr1, hr2, hc2, hk2⟩
           unfold cNumThen at he
           subst he
           have HC1 := hide (cp_new hc2)
           have HR1 := hide hr1
           have HR2 := hide hr2
           have HK1 := hide (show Kp (fun b => b < w4.heap.size ∨ b = w4.heap.size + 1) W5 v2 from by
             refine Kp.trans ?_ (hk2.sub fun b hb => Or.inl hb)
             (repeat' (first | (with_reducible exact HK2.out) | (with_reducible exact HK1.out) | (with_reducible exact (Kp.refl _ _)) | (with_reducible refine kp_drew ?_) | (with_reducible refine kp_alloc _ HG0.out ?_))))
           try with_reducible have HXa := hide (bx_call (p := g) (q := g2) hk2 (bxA (.cells #[.slice none 0 0, .slice none 0 0, .bool false] 61) (Nat.le_refl _)))
           try (have ka := box_lt HXa.out.2; have kan := Nat.ne_of_lt ka; have kam := Nat.ne_of_lt (Nat.lt_succ_of_lt ka); have kao := kan.symm; have kap := kam.symm)
           have HSZ1 := hide HK1.out.size
           have kk := KC.out _ HK1.out
           clear hr1 hr2 hc2)
        | (go_at_call 35
           (first | (with_reducible refine (HEX.out g c' g2 c2' _ v2.heap.size _ _ HC1.out (rows_gx HR1.out (Below.refl _ _)) (rows_gx HR2.out (Below.refl _ _)) (Or.inr (Or.inl rfl)) (Or.inr (Or.inr rfl))).mono ?_) | (with_reducible refine (HEX.out g c' g2 c2' _ v2.heap.size _ _ (cp_alloc _ HC1.out) (rows_gx HR1.out ((Below.refl _ _).alloc (Nat.le_refl _) _)) (rows_gx HR2.out ((Below.refl _ _).alloc (Nat.le_refl _) _)) (Or.inr (Or.inl rfl)) (Or.inr (Or.inr rfl))).mono ?_))
           rintro e v3 ⟨p, q, cq, rfl, hp, hq0, hq1, hc3, hk3⟩
           have HC2 := hide (cp_new hc3)
           have HPP := hide hp
           have HQ0 := hide hq0
           have HQ1 := hide hq1
           have HK2 := hide (show Kp (fun b => b < w4.heap.size ∨ b = w4.heap.size + 1) W5 v3 from by
             refine Kp.trans ?_ (hk3.sub fun b hb => Or.inl (Or.inl (Or.inl hb)))
             (repeat' (first | (with_reducible exact HK2.out) | (with_reducible exact HK1.out) | (with_reducible exact (Kp.refl _ _)) | (with_reducible refine kp_drew ?_) | (with_reducible refine kp_alloc _ HG0.out ?_))))
           try with_reducible have HYa := hide (bx_call (p := p) (q := q) hk3 HXa.out)
           try with_reducible have HYc := hide (bx_call (p := p) (q := q) hk3 (bx_new _ v2.heap.size v2 (.cells #[.slice none 0 0, .slice none 0 0, .bool false] 61) (Nat.le_refl _)))
           try (have ya := box3 HYa.out.2; obtain ⟨ya0, ya1, ya2⟩ := ya)
           try have yaf0 := box_froz (j := 0) HYa.out.2
           try have yaf1 := box_froz (j := 1) HYa.out.2
           try have yaf2 := box_froz (j := 2) HYa.out.2
           try (have yc := box3 HYc.out.2; obtain ⟨yc0, yc1, yc2⟩ := yc)
           try have ycf0 := box_froz (j := 0) HYc.out.2
           try have ycf1 := box_froz (j := 1) HYc.out.2
           try have ycf2 := box_froz (j := 2) HYc.out.2
           try (have la := box_lt HYa.out.2; have lan := Nat.ne_of_lt la; have lam := Nat.ne_of_lt (Nat.lt_succ_of_lt la); have lao := lan.symm; have lap := lam.symm)
           try (have lc := box_lt HYc.out.2; have lcn := Nat.ne_of_lt lc; have lcm := Nat.ne_of_lt (Nat.lt_succ_of_lt lc); have lco := lcn.symm; have lcp := lcm.symm)
           have HSZ2 := hide HK2.out.size
           have kk := KC.out _ HK2.out
           clear hp hq0 hq1 hc3)
        | fail)
    all_goals go_wp2_with fail
    all_goals go_meet
    all_goals
      have hs0 := HSZ1.out
      have hs1 := HSZ2.out
      refine ⟨_, p, q, cq, rfl, ex_mid (show CSt v3 w.heap.size w4.heap.size 2 [⟨2, 3, 1, -1, 0, 3⟩, ⟨1, 2, 1, -1, 1, 5⟩] [0, 1, 1] _ from HC2.out) HK2.out (fun b hb => Or.inl (Or.inl (Or.inl (Or.inl (Or.inl hb))))) HPP.out (Or.inl (Or.inr (Or.inl rfl))) HQ0.out HQ1.out (Or.inl (Or.inr (Or.inr rfl))) (by omega) HG0.out ?_⟩
      first
        | exact Or.inr ⟨rfl, rfl⟩
        | exact Or.inl ⟨HYc.out, rfl⟩
        | exact Or.inl ⟨HYa.out, rfl⟩
  case rest =>
    obtain ⟨X, p, q, cq, rfl, hm⟩ := hcut
    have HM := hide hm
    have HBC := hide (show ∀ wx, Kp (fun b => b < w4.heap.size ∨ b = w4.heap.size + 1) W5 wx → wx.cell? ⟨w4.heap.size + 1, 0, none⟩ = some (.pointer (some ⟨w4.heap.size, 0, none⟩)) from fun wx h => (KC.out wx h).1)
    clear hm KC HEX HNU HC0
    obtain ⟨x0, x1, x2⟩ := box3 HM.out.bx
    have ep : wc.cell? ⟨p, 0, none⟩ = some (.int .i64 1) := by rw [cell_of_row _ _ 0 _ _ (0, 0) HM.out.hp]; rfl
    have bc := HBC.out wc HM.out.kp
    go_wp2_with fail
    refine wp_loop_rounds 2 ?_
    rw [rounds_succ]
    go_upto_block 2 with (fail)
    go_cut [39] (fun _ wx => ExMid w w4 W5 [⟨2, 3, 1, -1, 0, 3⟩, ⟨1, 2, 1, -1, 1, 5⟩, ⟨0, 1, 0, -1, 0, 0⟩] X p q cq wx)
    case first =>
      clear x0 x1 x2
      go_upto_region 12 with (fail)
      obtain ⟨AE, cE, evl, AX, cX, AS, cS, hcr⟩ := HM.out.cs
      have HC0 := hide hcr
      clear hcr
      obtain ⟨b0, b1, b2, b3, b4⟩ := box5 HC0.out.box
      simp only [List.length_cons, List.length_nil, Nat.zero_add, Nat.reduceAdd] at b3 b4
      obtain ⟨gS, rfl, hg1, hg2⟩ := own_place HC0.out.st (by decide)
      have es := HC0.out.st.cellAt 0 (by decide)
      simp only [List.map_cons, List.getElem?_cons_zero] at es
      have hw2 : w4.heap.size < wc.heap.size := HC0.out.lt
      have hwb : w4.heap.size + 1 < wc.heap.size := HC0.out.fr (w4.heap.size + 1) (Or.inl (Or.inr rfl)) |>.1
      obtain ⟨i0, hi0, hz0, hz1, hz2⟩ := info_parts infoEdgC
      obtain ⟨Wz, hWz⟩ : ∃ Wz, wc.drew.alloc (.cells #[.int .i64 0, .int .i64 1, .int .i64 0, .int .i64 (-1), .int .i64 0, .int .i64 0] 39) = Wz := ⟨_, rfl⟩
      have gz := new_at hWz
      have hbz : Below wc.drew.heap.size wc.drew Wz := by rw [← hWz]; exact (Below.refl _ _).alloc (Nat.le_refl _) _
      have hCz := HC0.out.keep (w' := Wz) hbz.size (hbz.block _ HC0.out.lt) (fun b hb => hbz.block b (HC0.out.row_lt hb).2)
      obtain ⟨A', c', W2, hap, how, hgr, hpl, g, rfl⟩ := app_at 28 Tryz.underlying28 hi0 hz0 hz1 hz2 rfl (by decide) hCz.ed [.int .i64 0, .int .i64 1, .int .i64 0, .int .i64 (-1), .int .i64 0, .int .i64 0] rfl (by simp [Value.oneCell']) (by simp) (by omega) (by have := hCz.bB; have := hCz.lt; omega) ⟨wc.drew.heap.size, 0, none⟩ (fun j u hu => by rw [addr_add, Nat.zero_add, cell_of_row Wz _ j _ _ (0, 0) gz]; simpa using hu)
      rw [← hWz] at hap
      have hap2 : (Builtin.append_ #[28, 28] 28 #[.slice AX 2 cX, .slice (some ⟨wc.heap.size, 0, none⟩) 1 1]).run Tryz.prog ((wc.alloc (.cells #[.int .i64 0, .int .i64 1, .int .i64 0, .int .i64 (-1), .int .i64 0, .int .i64 0] 39)).drew) = .ok (.slice (some ⟨g, 0, none⟩) 3 c') W2 := hap
      clear hap
      have hbox2 := (hgr.block w4.heap.size hCz.lt (fun e => hCz.row_ne (.inr (.inl e.symm)) rfl)).trans hCz.box
      obtain ⟨d0, d1', d2', d3, d4⟩ := box5 hbox2
      simp only [List.length_cons, List.length_nil, Nat.zero_add, Nat.reduceAdd] at d3 d4
      have d5 := box_froz (j := 3) hbox2
      have hcd : CR wc.drew w.heap.size w4.heap.size AE 2 cE evl AX cX [⟨2, 3, 1, -1, 0, 3⟩, ⟨1, 2, 1, -1, 1, 5⟩] (some ⟨gS, 0, none⟩) cS [0, 1, 1] (fun b => (b < w4.heap.size ∨ b = w4.heap.size + 1) ∨ b = X ∨ b = p ∨ b = q) := HC0.out.keep (Nat.le_refl _) rfl fun _ _ => rfl
      have hgr2 := hgr
      rw [← hWz] at hgr2
      have hpl2 : ob (some ⟨g, 0, none⟩) = ob AX ∨ ob (some ⟨g, 0, none⟩) = some (wc.drew.heap.size + 1) := by
        rw [← hWz] at hpl
        simpa using hpl
      have hpush := hcd.push_ed (E' := [⟨2, 3, 1, -1, 0, 3⟩, ⟨1, 2, 1, -1, 1, 5⟩, ⟨0, 1, 0, -1, 0, 0⟩]) hgr2 how hpl2
      have hfb : ∀ b, ((b < w4.heap.size ∨ b = w4.heap.size + 1) ∨ b = X ∨ b = p ∨ b = q) → W2.heap[b]? = wc.heap[b]? := fun b hb => by
        obtain ⟨h1, h2, h3, h4, h5⟩ := hCz.fr b hb
        exact (hgr.block b h1 (fun e => h4 e.symm)).trans (hbz.block b (HC0.out.fr b hb).1)
      have HEA := hide (show ExMid w w4 W5 [⟨2, 3, 1, -1, 0, 3⟩, ⟨1, 2, 1, -1, 1, 5⟩, ⟨0, 1, 0, -1, 0, 0⟩] X p q cq (W2.setCell ⟨w4.heap.size, 3, none⟩ (.slice (some ⟨g, 0, none⟩) 3 c')) from by
        have kk := hpush.2
        refine ⟨(kk X (Or.inr (Or.inl rfl))).trans HM.out.bx, (kk p (Or.inr (Or.inr (Or.inl rfl)))).trans HM.out.hp, (World.cell?_of_block (a := ⟨q, 0, none⟩) (kk q (Or.inr (Or.inr (Or.inr rfl))))).trans HM.out.hq0, (World.cell?_of_block (a := ⟨q, 1, none⟩) (kk q (Or.inr (Or.inr (Or.inr rfl))))).trans HM.out.hq1, ⟨_, _, _, _, _, _, _, hpush.1⟩, HM.out.kp.trans ⟨hgr2.os, hgr2.tape, hgr2.output, ?_, fun b hb => kk b (Or.inl hb)⟩⟩
        have := hgr2.size
        simp at this ⊢
        omega)
      have ms : W2.cell? ⟨gS, 0, none⟩ = some (.int .i64 0) := (World.cell?_of_block (a := ⟨gS, 0, none⟩) ((hgr.block gS (hCz.row_lt (.inr (.inr (ob_some gS)))).2 (rows_apart hCz.ed hCz.st tEI gS (ob_some gS)).symm).trans (hbz.block gS (HC0.out.row_lt (.inr (.inr (ob_some gS)))).2))).trans es
      have mb : W2.cell? ⟨w4.heap.size + 1, 0, none⟩ = some (.pointer (some ⟨w4.heap.size, 0, none⟩)) := (World.cell?_of_block (a := ⟨w4.heap.size + 1, 0, none⟩) (hfb (w4.heap.size + 1) (Or.inl (Or.inr rfl)))).trans bc
      clear hi0 hz0 hz1 hz2 gz hbz hCz how hgr hpl hbox2 hWz hgr2 hpl2 hcd hpush hfb
      have hgB : ¬ gS = w4.heap.size := HC0.out.row_ne (.inr (.inr (ob_some gS)))
      have hgT : ¬ w4.heap.size + 1 = w4.heap.size := by omega
      have sf : ∀ (a : Addr), a.block ≠ w4.heap.size → (W2.setCell ⟨w4.heap.size, 3, none⟩ (.slice (some ⟨g, 0, none⟩) 3 c')).cell? a = W2.cell? a := fun a ha => World.cell?_setCell_far _ _ _ _ (fun e => ha e.symm)
      have ns := (sf ⟨gS, 0, none⟩ hgB).trans ms
      have nb := (sf ⟨w4.heap.size + 1, 0, none⟩ hgT).trans mb
      have n4 : (W2.setCell ⟨w4.heap.size, 3, none⟩ (.slice (some ⟨g, 0, none⟩) 3 c')).cell? ⟨w4.heap.size, 4, none⟩ = some (.slice (some ⟨gS, 0, none⟩) 3 cS) := (World.cell?_setCell_other _ _ _ _ (by simp)).trans d4
      clear sf
      have k0 : wc.drew.cell? ⟨w4.heap.size, 4, none⟩ = some (.slice (some ⟨gS, 0, none⟩) 3 cS) ∧ wc.drew.cell? ⟨gS, 0, none⟩ = some (.int .i64 0) ∧ wc.drew.cell? ⟨w4.heap.size + 1, 0, none⟩ = some (.pointer (some ⟨w4.heap.size, 0, none⟩)) := ⟨b4, es, bc⟩
      have hbm : Below wc.heap.size wc ((wc.alloc (.cells #[.int .i64 0, .int .i64 1, .int .i64 0, .int .i64 (-1), .int .i64 0, .int .i64 0] 39)).drew) := below_drew ((Below.refl _ _).alloc (Nat.le_refl _) _)
      have hgS : gS < wc.heap.size := (HC0.out.row_lt (.inr (.inr (ob_some gS)))).2
      have k1 : ((wc.alloc (.cells #[.int .i64 0, .int .i64 1, .int .i64 0, .int .i64 (-1), .int .i64 0, .int .i64 0] 39)).drew).cell? ⟨w4.heap.size, 4, none⟩ = some (.slice (some ⟨gS, 0, none⟩) 3 cS) ∧ ((wc.alloc (.cells #[.int .i64 0, .int .i64 1, .int .i64 0, .int .i64 (-1), .int .i64 0, .int .i64 0] 39)).drew).cell? ⟨gS, 0, none⟩ = some (.int .i64 0) ∧ ((wc.alloc (.cells #[.int .i64 0, .int .i64 1, .int .i64 0, .int .i64 (-1), .int .i64 0, .int .i64 0] 39)).drew).cell? ⟨w4.heap.size + 1, 0, none⟩ = some (.pointer (some ⟨w4.heap.size, 0, none⟩)) := ⟨(hbm.cell (p := ⟨w4.heap.size, 4, none⟩) hw2).trans b4, (hbm.cell (p := ⟨gS, 0, none⟩) hgS).trans es, (hbm.cell (p := ⟨w4.heap.size + 1, 0, none⟩) hwb).trans bc⟩
      have k2 : W2.cell? ⟨w4.heap.size, 4, none⟩ = some (.slice (some ⟨gS, 0, none⟩) 3 cS) ∧ W2.cell? ⟨gS, 0, none⟩ = some (.int .i64 0) ∧ W2.cell? ⟨w4.heap.size + 1, 0, none⟩ = some (.pointer (some ⟨w4.heap.size, 0, none⟩)) := ⟨d4, ms, mb⟩
      have k3 : (W2.setCell ⟨w4.heap.size, 3, none⟩ (.slice (some ⟨g, 0, none⟩) 3 c')).cell? ⟨w4.heap.size, 4, none⟩ = some (.slice (some ⟨gS, 0, none⟩) 3 cS) ∧ (W2.setCell ⟨w4.heap.size, 3, none⟩ (.slice (some ⟨g, 0, none⟩) 3 c')).cell? ⟨gS, 0, none⟩ = some (.int .i64 0) ∧ (W2.setCell ⟨w4.heap.size, 3, none⟩ (.slice (some ⟨g, 0, none⟩) 3 c')).cell? ⟨w4.heap.size + 1, 0, none⟩ = some (.pointer (some ⟨w4.heap.size, 0, none⟩)) := ⟨n4, ns, nb⟩
      clear hbm ns nb n4
      have hkw : IntKind.i64.wrap (0 : Int) = 0 := IntWalk.i64_in _ (by omega)
      refine wp_region_held_drew (S := fun wx => wx.cell? ⟨w4.heap.size, 4, none⟩ = some (.slice (some ⟨gS, 0, none⟩) 3 cS) ∧ wx.cell? ⟨gS, 0, none⟩ = some (.int .i64 0) ∧ wx.cell? ⟨w4.heap.size + 1, 0, none⟩ = some (.pointer (some ⟨w4.heap.size, 0, none⟩))) (by kernel_rfl) k0 (fun hHeld => ?_)
      refine wpAnyH_take (i := 0) (v := ?v0) (by simp only [List.getElem?_toArray, List.getElem?_cons_zero]; rfl) (by kernel_rfl) (by kernel_rfl) (by kernel_rfl) (by exact fun _ _ _ h => h) (Or.inl ⟨by rfl, ?hy0⟩) hHeld ?rest0
      case hy0 =>
        intro w hSw
        try dsimp only at hSw
        go_simp
        try with_reducible rfl
      try simp only [Act.put, List.setIfInBounds_toArray, List.set_cons_zero, List.set_cons_succ]
      refine wpAnyH_take (i := 1) (v := ?v1) (by simp only [List.getElem?_toArray, List.getElem?_cons_succ, List.getElem?_cons_zero]; rfl) (by kernel_rfl) (by kernel_rfl) (by kernel_rfl) (by exact fun _ _ _ h => h) (Or.inl ⟨by rfl, ?hy1⟩) hHeld ?rest1
      case hy1 =>
        intro w hSw
        try dsimp only at hSw
        go_simp
        try with_reducible rfl
      try simp only [Act.put, List.setIfInBounds_toArray, List.set_cons_zero, List.set_cons_succ]
      refine wpAnyH_take (i := 2) (v := ?v2) (by simp only [List.getElem?_toArray, List.getElem?_cons_succ, List.getElem?_cons_zero]; rfl) (by kernel_rfl) (by kernel_rfl) (by kernel_rfl) (by exact fun _ _ _ h => h) (Or.inl ⟨by rfl, ?hy2⟩) hHeld ?rest2
      case hy2 =>
        intro w hSw
        try dsimp only at hSw
        go_simp
        try with_reducible rfl
      try simp only [Act.put, List.setIfInBounds_toArray, List.set_cons_zero, List.set_cons_succ]
      refine wpAnyH_take (i := 3) (v := ?v3) (by simp only [List.getElem?_toArray, List.getElem?_cons_succ, List.getElem?_cons_zero]; rfl) (by kernel_rfl) (by kernel_rfl) (by kernel_rfl) (by exact fun _ _ _ h => h) (Or.inl ⟨by rfl, ?hy3⟩) hHeld ?rest3
      case hy3 =>
        intro w hSw
        try dsimp only at hSw
        go_simp
        try with_reducible rfl
      try simp only [Act.put, List.setIfInBounds_toArray, List.set_cons_zero, List.set_cons_succ]
      refine wpAnyH_take (i := 4) (v := ?v4) (by simp only [List.getElem?_toArray, List.getElem?_cons_succ, List.getElem?_cons_zero]; rfl) (by kernel_rfl) (by kernel_rfl) (by kernel_rfl) (by exact fun _ _ _ h => h) (Or.inl ⟨by rfl, ?hy4⟩) hHeld ?rest4
      case hy4 =>
        intro w hSw
        try dsimp only at hSw
        go_simp
        try with_reducible rfl
      try simp only [Act.put, List.setIfInBounds_toArray, List.set_cons_zero, List.set_cons_succ]
      refine wpAnyH_take (i := 6) (v := ?v6) (by simp only [List.getElem?_toArray, List.getElem?_cons_succ, List.getElem?_cons_zero]; rfl) (by kernel_rfl) (by kernel_rfl) (by kernel_rfl) (by exact fun _ _ _ h => h) (Or.inl ⟨by rfl, ?hy6⟩) hHeld ?rest6
      case hy6 =>
        intro w hSw
        try dsimp only at hSw
        go_simp
        try with_reducible rfl
      try simp only [Act.put, List.setIfInBounds_toArray, List.set_cons_zero, List.set_cons_succ]
      refine wpAnyH_take (i := 7) (v := ?v7) (by simp only [List.getElem?_toArray, List.getElem?_cons_succ, List.getElem?_cons_zero]; rfl) (by kernel_rfl) (by kernel_rfl) (by kernel_rfl) (by exact fun _ _ _ h => h) (Or.inl ⟨by rfl, ?hy7⟩) hHeld ?rest7
      case hy7 =>
        intro w hSw
        try dsimp only at hSw
        go_simp
        try with_reducible rfl
      try simp only [Act.put, List.setIfInBounds_toArray, List.set_cons_zero, List.set_cons_succ]
      refine wpAnyH_take (i := 8) (v := ?v8) (by simp only [List.getElem?_toArray, List.getElem?_cons_succ, List.getElem?_cons_zero]; rfl) (by kernel_rfl) (by kernel_rfl) (by kernel_rfl) (by exact fun _ _ _ h => h) (Or.inl ⟨by rfl, ?hy8⟩) hHeld ?rest8
      case hy8 =>
        intro w hSw
        try dsimp only at hSw
        go_simp
        try with_reducible rfl
      try simp only [Act.put, List.setIfInBounds_toArray, List.set_cons_zero, List.set_cons_succ]
      refine wpAnyH_take (i := 9) (v := ?v9) (by simp only [List.getElem?_toArray, List.getElem?_cons_succ, List.getElem?_cons_zero]; rfl) (by kernel_rfl) (by kernel_rfl) (by kernel_rfl) (by exact fun _ _ _ h => h) (Or.inl ⟨by rfl, ?hy9⟩) hHeld ?rest9
      case hy9 =>
        intro w hSw
        try dsimp only at hSw
        go_simp
        try with_reducible rfl
      try simp only [Act.put, List.setIfInBounds_toArray, List.set_cons_zero, List.set_cons_succ]
      refine wpAnyH_take (i := 10) (v := ?v10) (by simp only [List.getElem?_toArray, List.getElem?_cons_succ, List.getElem?_cons_zero]; rfl) (by kernel_rfl) (by kernel_rfl) (by kernel_rfl) (by exact fun _ _ _ h => h) (Or.inl ⟨by rfl, ?hy10⟩) hHeld ?rest10
      case hy10 =>
        intro w hSw
        try dsimp only at hSw
        go_simp
        try with_reducible rfl
      try simp only [Act.put, List.setIfInBounds_toArray, List.set_cons_zero, List.set_cons_succ]
      refine wpAnyH_take (i := 11) (v := ?v11) (by simp only [List.getElem?_toArray, List.getElem?_cons_succ, List.getElem?_cons_zero]; rfl) (by kernel_rfl) (by kernel_rfl) (by kernel_rfl) (by exact fun _ _ _ h => h) (Or.inl ⟨by rfl, ?hy11⟩) hHeld ?rest11
      case hy11 =>
        intro w hSw
        try dsimp only at hSw
        go_simp
        try with_reducible rfl
      try simp only [Act.put, List.setIfInBounds_toArray, List.set_cons_zero, List.set_cons_succ]
      refine wpAnyH_take (i := 12) (v := ?v12) (by simp only [List.getElem?_toArray, List.getElem?_cons_succ, List.getElem?_cons_zero]; rfl) (by kernel_rfl) (by kernel_rfl) (by kernel_rfl) (by exact fun _ _ _ h => h) (Or.inl ⟨by rfl, ?hy12⟩) hHeld ?rest12
      case hy12 =>
        intro w hSw
        try dsimp only at hSw
        go_simp
        try with_reducible rfl
      try simp only [Act.put, List.setIfInBounds_toArray, List.set_cons_zero, List.set_cons_succ]
      refine wpAnyH_take (i := 13) (v := ?v13) (by simp only [List.getElem?_toArray, List.getElem?_cons_succ, List.getElem?_cons_zero]; rfl) (by kernel_rfl) (by kernel_rfl) (by kernel_rfl) (by exact fun _ _ _ h => h) (Or.inl ⟨by rfl, ?hy13⟩) hHeld ?rest13
      case hy13 =>
        intro w hSw
        try dsimp only at hSw
        go_simp
        try with_reducible rfl
      try simp only [Act.put, List.setIfInBounds_toArray, List.set_cons_zero, List.set_cons_succ]
      refine wpAnyH_take (i := 14) (v := ?v14) (by simp only [List.getElem?_toArray, List.getElem?_cons_succ, List.getElem?_cons_zero]; rfl) (by kernel_rfl) (by kernel_rfl) (by kernel_rfl) (by exact fun _ _ _ h => h) (Or.inl ⟨by rfl, ?hy14⟩) hHeld ?rest14
      case hy14 =>
        intro w hSw
        try dsimp only at hSw
        go_simp
        try with_reducible rfl
      try simp only [Act.put, List.setIfInBounds_toArray, List.set_cons_zero, List.set_cons_succ]
      refine wpAnyH_take (i := 15) (v := ?v15) (by simp only [List.getElem?_toArray, List.getElem?_cons_succ, List.getElem?_cons_zero]; rfl) (by kernel_rfl) (by kernel_rfl) (by kernel_rfl) (by exact fun _ _ _ h => h) (Or.inl ⟨by rfl, ?hy15⟩) hHeld ?rest15
      case hy15 =>
        intro w hSw
        try dsimp only at hSw
        go_simp
        try with_reducible rfl
      try simp only [Act.put, List.setIfInBounds_toArray, List.set_cons_zero, List.set_cons_succ]
      refine wpAnyH_ready (rs := [5, 16]) (by kernel_rfl) (by simp) ?_
      refine AllReadyH.cons (o := ?_) (by simp only [List.getElem?_toArray, List.getElem?_cons_succ, List.getElem?_cons_zero]; rfl) (fun K hK => ?b5) ?more
      case b5 =>
        go_simp
        refine hK.out _ _ k0 (fun hHeld => ?_)
        clear hK K
        try simp only [Act.put, List.setIfInBounds_toArray, List.set_cons_zero, List.set_cons_succ]
        refine wpAnyH_ready (rs := [16]) (by kernel_rfl) (by simp) ?_
        refine AllReadyH.cons (o := ?_) (by simp only [List.getElem?_toArray, List.getElem?_cons_succ, List.getElem?_cons_zero]; rfl) (fun K hK => ?_) AllReadyH.nil
        go_simp
        refine hK.out _ _ k1 (fun hHeld => ?_)
        clear hK K
        try simp only [Act.put, List.setIfInBounds_toArray, List.set_cons_zero, List.set_cons_succ]
        refine wpAnyH_ready (rs := [17]) (by kernel_rfl) (by simp) ?_
        refine AllReadyH.cons (o := ?_) (by simp only [List.getElem?_toArray, List.getElem?_cons_succ, List.getElem?_cons_zero]; rfl) (fun K hK => ?_) AllReadyH.nil
        refine step_app_eq rfl (.tmp 47) (.tmp 58) rfl rfl rfl hap2 ?_
        refine hK.out _ _ k2 (fun hHeld => ?_)
        clear hK K
        try simp only [Act.put, List.setIfInBounds_toArray, List.set_cons_zero, List.set_cons_succ]
        refine wpAnyH_take (i := 18) (v := ?v18a) (by simp only [List.getElem?_toArray, List.getElem?_cons_succ, List.getElem?_cons_zero]; rfl) (by kernel_rfl) (by kernel_rfl) (by kernel_rfl) (by exact fun _ _ _ h => h) (Or.inl ⟨by rfl, ?hy18a⟩) hHeld ?rest18a
        case hy18a =>
          intro w hSw
          try dsimp only at hSw
          go_simp
          try with_reducible rfl
        try simp only [Act.put, List.setIfInBounds_toArray, List.set_cons_zero, List.set_cons_succ]
        refine wpAnyH_take (i := 19) (v := ?v19a) (by simp only [List.getElem?_toArray, List.getElem?_cons_succ, List.getElem?_cons_zero]; rfl) (by kernel_rfl) (by kernel_rfl) (by kernel_rfl) (by exact fun _ _ _ h => h) (Or.inl ⟨by rfl, ?hy19a⟩) hHeld ?rest19a
        case hy19a =>
          intro w hSw
          try dsimp only at hSw
          go_simp
          try with_reducible rfl
        try simp only [Act.put, List.setIfInBounds_toArray, List.set_cons_zero, List.set_cons_succ]
        refine wpAnyH_take (i := 20) (v := ?v20a) (by simp only [List.getElem?_toArray, List.getElem?_cons_succ, List.getElem?_cons_zero]; rfl) (by kernel_rfl) (by kernel_rfl) (by kernel_rfl) (by exact fun _ _ _ h => h) (Or.inl ⟨by rfl, ?hy20a⟩) hHeld ?rest20a
        case hy20a =>
          intro w hSw
          try dsimp only at hSw
          go_simp
          try with_reducible rfl
        try simp only [Act.put, List.setIfInBounds_toArray, List.set_cons_zero, List.set_cons_succ]
        refine wpAnyH_ready (rs := [21]) (by kernel_rfl) (by simp) ?_
        refine AllReadyH.cons (o := ?_) (by simp only [List.getElem?_toArray, List.getElem?_cons_succ, List.getElem?_cons_zero]; rfl) (fun K hK => ?_) AllReadyH.nil
        go_simp
        refine hK.out _ _ k3 (fun hHeld => ?_)
        clear hK K
        try simp only [Act.put, List.setIfInBounds_toArray, List.set_cons_zero, List.set_cons_succ]
        refine wpAnyH_done (by kernel_rfl) ?_ _
        clear k0 k1 k2 k3 hap2 ms mb d0 d1' d2' d3 d4 d5 b0 b1 b2 b3 b4 es
        go_wp2_with fail
        go_meet
        exact HEA.out
      refine AllReadyH.cons (o := ?_) (by simp only [List.getElem?_toArray, List.getElem?_cons_succ, List.getElem?_cons_zero]; rfl) (fun K hK => ?_) AllReadyH.nil
      go_simp
      refine hK.out _ _ k1 (fun hHeld => ?_)
      clear hK K
      try simp only [Act.put, List.setIfInBounds_toArray, List.set_cons_zero, List.set_cons_succ]
      refine wpAnyH_ready (rs := [5]) (by kernel_rfl) (by simp) ?_
      refine AllReadyH.cons (o := ?_) (by simp only [List.getElem?_toArray, List.getElem?_cons_succ, List.getElem?_cons_zero]; rfl) (fun K hK => ?_) AllReadyH.nil
      go_simp
      refine hK.out _ _ k1 (fun hHeld => ?_)
      clear hK K
      try simp only [Act.put, List.setIfInBounds_toArray, List.set_cons_zero, List.set_cons_succ]
      refine wpAnyH_ready (rs := [17]) (by kernel_rfl) (by simp) ?_
      refine AllReadyH.cons (o := ?_) (by simp only [List.getElem?_toArray, List.getElem?_cons_succ, List.getElem?_cons_zero]; rfl) (fun K hK => ?_) AllReadyH.nil
      refine step_app_eq rfl (.tmp 47) (.tmp 58) rfl rfl rfl hap2 ?_
      refine hK.out _ _ k2 (fun hHeld => ?_)
      clear hK K
      try simp only [Act.put, List.setIfInBounds_toArray, List.set_cons_zero, List.set_cons_succ]
      refine wpAnyH_take (i := 18) (v := ?v18b) (by simp only [List.getElem?_toArray, List.getElem?_cons_succ, List.getElem?_cons_zero]; rfl) (by kernel_rfl) (by kernel_rfl) (by kernel_rfl) (by exact fun _ _ _ h => h) (Or.inl ⟨by rfl, ?hy18b⟩) hHeld ?rest18b
      case hy18b =>
        intro w hSw
        try dsimp only at hSw
        go_simp
        try with_reducible rfl
      try simp only [Act.put, List.setIfInBounds_toArray, List.set_cons_zero, List.set_cons_succ]
      refine wpAnyH_take (i := 19) (v := ?v19b) (by simp only [List.getElem?_toArray, List.getElem?_cons_succ, List.getElem?_cons_zero]; rfl) (by kernel_rfl) (by kernel_rfl) (by kernel_rfl) (by exact fun _ _ _ h => h) (Or.inl ⟨by rfl, ?hy19b⟩) hHeld ?rest19b
      case hy19b =>
        intro w hSw
        try dsimp only at hSw
        go_simp
        try with_reducible rfl
      try simp only [Act.put, List.setIfInBounds_toArray, List.set_cons_zero, List.set_cons_succ]
      refine wpAnyH_take (i := 20) (v := ?v20b) (by simp only [List.getElem?_toArray, List.getElem?_cons_succ, List.getElem?_cons_zero]; rfl) (by kernel_rfl) (by kernel_rfl) (by kernel_rfl) (by exact fun _ _ _ h => h) (Or.inl ⟨by rfl, ?hy20b⟩) hHeld ?rest20b
      case hy20b =>
        intro w hSw
        try dsimp only at hSw
        go_simp
        try with_reducible rfl
      try simp only [Act.put, List.setIfInBounds_toArray, List.set_cons_zero, List.set_cons_succ]
      refine wpAnyH_ready (rs := [21]) (by kernel_rfl) (by simp) ?_
      refine AllReadyH.cons (o := ?_) (by simp only [List.getElem?_toArray, List.getElem?_cons_succ, List.getElem?_cons_zero]; rfl) (fun K hK => ?_) AllReadyH.nil
      go_simp
      refine hK.out _ _ k3 (fun hHeld => ?_)
      clear hK K
      try simp only [Act.put, List.setIfInBounds_toArray, List.set_cons_zero, List.set_cons_succ]
      refine wpAnyH_done (by kernel_rfl) ?_ _
      clear k0 k1 k2 k3 hap2 ms mb d0 d1' d2' d3 d4 d5 b0 b1 b2 b3 b4 es
      go_wp2_with fail
      go_meet
      exact HEA.out
    case rest =>
      have HM2 := hide hcut
      clear hcut HM x0 x1 x2 ep bc
      obtain ⟨AE, cE, evl, AX, cX, AS, cS, hcr⟩ := HM2.out.cs
      have HC3 := hide hcr
      obtain ⟨b0, b1, b2, b3, b4⟩ := box5 hcr.box
      simp only [List.length_cons, List.length_nil, Nat.zero_add, Nat.reduceAdd] at b3 b4
      obtain ⟨gX, rfl, hx1, hx2⟩ := own_place HC3.out.ed (by decide)
      obtain ⟨gS, rfl, hs1, hs2⟩ := own_place HC3.out.st (by decide)
      have bc := HBC.out wc HM2.out.kp
      have hfr := HC3.out.fr
      have HKF := hide (show ∀ b, ((b < w4.heap.size ∨ b = w4.heap.size + 1) ∨ b = X ∨ b = p ∨ b = q) → b < wc.heap.size ∧ b ≠ gX from fun b hb => ⟨(hfr b hb).1, fun e => (hfr b hb).2.2.2.1 (by rw [e]; exact ob_some gX)⟩)
      have HSRT := hide (sort_three (base := w.heap.size) (Bc := w4.heap.size + 1) (B := w4.heap.size) (g := gX) (c := cX) (w := wc) (a := ⟨2, 3, 1, -1, 0, 3⟩) (b := ⟨1, 2, 1, -1, 1, 5⟩) (e := ⟨0, 1, 0, -1, 0, 0⟩) ⟨HC3.out.ed, rfl, b3, bc, fun e => HC3.out.row_ne (.inr (.inl (ob_some gX))) e.symm, (HKF.out _ (Or.inl (Or.inr rfl))).2, HC3.out.lt, (HKF.out _ (Or.inl (Or.inr rfl))).1, Kp.refl _ _⟩ (by decide) (by decide) (by decide))
      have HGB := hide (show gX ≠ w4.heap.size from HC3.out.row_ne (.inr (.inl (ob_some gX))))
      clear hcr hx1 hx2 hs1 hs2 hfr
      go_wp2_with fail
      rw [rounds_succ]
      go_upto_region 15 with
        (go_at_call 37
         refine HSRT.out.mono ?_
         rintro e w6 ⟨rfl, hs⟩
         have HS := hide hs
         clear hs)
      have BB := hide (show w6.heap[w4.heap.size]? = some (.cells #[.slice AE 2 cE, .slice none 0 0, .slice none 0 0, .slice (some ⟨gX, 0, none⟩) 3 cX, .slice (some ⟨gS, 0, none⟩) 3 cS] 59 (0, 0)) from (HS.out.kp.block w4.heap.size ⟨HC3.out.lt, HGB.out.symm⟩).trans HC3.out.box)
      have K6 := hide (show ∀ b, ((b < w4.heap.size ∨ b = w4.heap.size + 1) ∨ b = X ∨ b = p ∨ b = q) → w6.heap[b]? = wc.heap[b]? from fun b hb => HS.out.kp.block b (HKF.out b hb))
      have ROW := hide (show w6.ownsRow w.heap.size 39 6 (.slice (some ⟨gX, 0, none⟩) 3 cX) 3 (exE.flatMap cEdg) from HS.out.row)
      have BXX := hide ((K6.out X (Or.inr (Or.inl rfl))).trans HM2.out.bx)
      have Q0 := hide ((World.cell?_of_block (a := ⟨q, 0, none⟩) (K6.out q (Or.inr (Or.inr (Or.inr rfl))))).trans HM2.out.hq0)
      have Q1 := hide ((World.cell?_of_block (a := ⟨q, 1, none⟩) (K6.out q (Or.inr (Or.inr (Or.inr rfl))))).trans HM2.out.hq1)
      have BC := hide HS.out.cC
      have hn1 : w.heap.size + 1 < W0.heap.size := by have := HSW.out; omega
      have P1 := hide ((K6.out (w.heap.size + 1) (Or.inl (Or.inl (Nat.lt_of_lt_of_le hn1 HB4.out.size)))).trans ((HM2.out.kp.block (w.heap.size + 1) (Or.inl (Nat.lt_of_lt_of_le hn1 HB4.out.size))).trans ((HB5.out.block (w.heap.size + 1) (Nat.lt_of_lt_of_le hn1 HB4.out.size)).trans ((HB4.out.block (w.heap.size + 1) hn1).trans HP1.out))))
      have KW := hide (show Kp (fun b => b < w.heap.size) w w6 from by
        have h1 : Kp (fun b => b < w.heap.size) w W5 := Kp.of HV5.out fun b hb => hb
        have hz := HNW.out
        refine (h1.trans (HM2.out.kp.sub fun b hb => Or.inl (by omega))).trans (HS.out.kp.sub fun b hb => HKF.out b (Or.inl (Or.inl (by omega)))))
      have LT := hide (show w4.heap.size < w6.heap.size ∧ X < w6.heap.size ∧ q < w6.heap.size ∧ w4.heap.size + 1 < w6.heap.size ∧ gX < w6.heap.size ∧ gX ≠ w4.heap.size ∧ X ≠ w4.heap.size ∧ q ≠ w4.heap.size ∧ w.heap.size + 1 < w4.heap.size ∧ w.heap.size + 1 ≠ gX ∧ w.heap.size ≤ gX from by
        have z := HS.out.kp.size
        have f := HC3.out.fr
        have a1 := f X (Or.inr (Or.inl rfl))
        have a2 := f q (Or.inr (Or.inr (Or.inr rfl)))
        have a3 := f (w4.heap.size + 1) (Or.inl (Or.inr rfl))
        have a4 := (own_ob HS.out.row gX (ob_some gX))
        have a5 := HS.out.bl
        have a6 := (HKF.out (w.heap.size + 1) (Or.inl (Or.inl (Nat.lt_of_lt_of_le hn1 HB4.out.size)))).2
        have a7 := HB4.out.size
        exact ⟨a5, by omega, by omega, by omega, a4.2, HGB.out, a1.2.1, a2.2.1, by omega, a6, a4.1⟩)
      clear hn1 b0 b1 b2 b3 b4 bc
      obtain ⟨fb, hmk, hMB⟩ := mk_bools 4 (by omega)
      have hmk4 : ∀ w, (Instr.makeSlice 27 (.int .i64 4) (.int .i64 4)).run Tryz.prog w = .ok (.slice (some ⟨w.heap.size, 0, none⟩) 4 4) (fb w) := hmk
      have hfb := hMB.bl w6.drew
      have har := hMB.ar w6.drew
      have hLT := LT.out
      have e0 := (hfb.block w4.heap.size hLT.1).trans BB.out
      obtain ⟨b0, b1, b2, b3, b4⟩ := box5 BB.out
      obtain ⟨d0, d1, d2, d3, d4⟩ := box5 e0
      have zf := box_froz (j := 2) e0
      have k0 : w6.drew.cell? ⟨w4.heap.size + 1, 0, none⟩ = some (.pointer (some ⟨w4.heap.size, 0, none⟩)) ∧ w6.drew.cell? ⟨w4.heap.size, 4, none⟩ = some (.slice (some ⟨gS, 0, none⟩) 3 cS) := ⟨BC.out, b4⟩
      have k1 : (fb w6.drew).cell? ⟨w4.heap.size + 1, 0, none⟩ = some (.pointer (some ⟨w4.heap.size, 0, none⟩)) ∧ (fb w6.drew).cell? ⟨w4.heap.size, 4, none⟩ = some (.slice (some ⟨gS, 0, none⟩) 3 cS) := ⟨(hfb.cell (p := ⟨w4.heap.size + 1, 0, none⟩) hLT.2.2.2.1).trans BC.out, d4⟩
      have k2 : ((fb w6.drew).setCell ⟨w4.heap.size, 2, none⟩ (.slice (some ⟨w6.heap.size, 0, none⟩) 4 4)).cell? ⟨w4.heap.size + 1, 0, none⟩ = some (.pointer (some ⟨w4.heap.size, 0, none⟩)) ∧ ((fb w6.drew).setCell ⟨w4.heap.size, 2, none⟩ (.slice (some ⟨w6.heap.size, 0, none⟩) 4 4)).cell? ⟨w4.heap.size, 4, none⟩ = some (.slice (some ⟨gS, 0, none⟩) 3 cS) := ⟨(World.cell?_setCell_far _ _ _ _ (by simp)).trans k1.1, (World.cell?_setCell_other _ _ _ _ (by simp)).trans d4⟩
      have HFM := hide (show FinMid w6 w4.heap.size #[.slice AE 2 cE, .slice none 0 0, .slice (some ⟨w6.heap.size, 0, none⟩) 4 4, .slice (some ⟨gX, 0, none⟩) 3 cX, .slice (some ⟨gS, 0, none⟩) 3 cS] w6.heap.size (List.replicate 4 false) ((fb w6.drew).setCell ⟨w4.heap.size, 2, none⟩ (.slice (some ⟨w6.heap.size, 0, none⟩) 4 4)) from by
        have hs := set_cells (k := 2) (v := .slice (some ⟨w6.heap.size, 0, none⟩) 4 4) e0
        simp only [List.setIfInBounds_toArray, List.set] at hs
        exact ⟨hs, har.other (fun e => by have : w6.heap.size = w4.heap.size := e; omega), Nat.le_refl _, fun b hb hn => (Below.heap_setCell _ _ _ _ (by simpa using hn)).trans (hfb.block b hb), by simp; exact hfb.size, hfb.os, hfb.tape, hfb.output⟩)
      clear hmk hMB hfb har hLT e0
      go_cut [79] (fun _ wx => ∃ gf : Nat, FinMid w6 w4.heap.size #[.slice AE 2 cE, .slice none 0 0, .slice (some ⟨gf, 0, none⟩) 4 4, .slice (some ⟨gX, 0, none⟩) 3 cX, .slice (some ⟨gS, 0, none⟩) 3 cS] gf (List.replicate 4 false) wx)
      case first =>
        obtain ⟨e1, e4⟩ := k1
        have bc := BC.out
        clear k0 k2
        go_region
        all_goals go_wp2_with fail
        all_goals go_meet
        all_goals exact ⟨_, HFM.out⟩
      case rest =>
        obtain ⟨gf, hfm⟩ := hcut
        have HF := hide hfm
        clear hfm k0 k1 k2 HFM hmk4 b0 b1 b2 b3 b4 d0 d1 d2 d3 d4 zf
        have hbb := HF.out.bb
        obtain ⟨c0, c1', c2', c3', c4⟩ := box5 hbb
        have bc := (World.cell?_of_block (a := ⟨w4.heap.size + 1, 0, none⟩) (HF.out.oth (w4.heap.size + 1) LT.out.2.2.2.1 (by omega))).trans BC.out
        have q0 := (World.cell?_of_block (a := ⟨q, 0, none⟩) (HF.out.oth q LT.out.2.2.1 LT.out.2.2.2.2.2.2.2.1)).trans Q0.out
        have q1 := (World.cell?_of_block (a := ⟨q, 1, none⟩) (HF.out.oth q LT.out.2.2.1 LT.out.2.2.2.2.2.2.2.1)).trans Q1.out
        obtain ⟨x0, x1, x2⟩ := box3 ((HF.out.oth X LT.out.2.1 LT.out.2.2.2.2.2.2.1).trans BXX.out)
        have a2 := HF.out.ar.cell (k := 2) (x := false) rfl
        have z2 := HF.out.ar.froz (k := 2)
        clear hbb
        go_wp2_with fail
        refine wp_loop_rounds 3 ?_
        rw [rounds_succ]
        go_upto_region 20 with (fail)
        obtain ⟨W7, hW7⟩ : ∃ W7, wc.setCell ⟨gf, 2, none⟩ (.bool true) = W7 := ⟨_, rfl⟩
        rw [hW7]
        have HF7 := hide (show FinMid w6 w4.heap.size #[.slice AE 2 cE, .slice none 0 0, .slice (some ⟨gf, 0, none⟩) 4 4, .slice (some ⟨gX, 0, none⟩) 3 cX, .slice (some ⟨gS, 0, none⟩) 3 cS] gf [false, false, true, false] W7 from by rw [← hW7]; exact HF.out.mark (k := 2) LT.out.1 true)
        clear hW7 bc q0 q1 x0 x1 x2 a2 z2 c0 c1' c2' c3' c4
        have hbb := HF7.out.bb
        obtain ⟨c0, c1', c2', c3', c4⟩ := box5 hbb
        have bc := (World.cell?_of_block (a := ⟨w4.heap.size + 1, 0, none⟩) (HF7.out.oth (w4.heap.size + 1) LT.out.2.2.2.1 (by omega))).trans BC.out
        have q0 := (World.cell?_of_block (a := ⟨q, 0, none⟩) (HF7.out.oth q LT.out.2.2.1 LT.out.2.2.2.2.2.2.2.1)).trans Q0.out
        have q1 := (World.cell?_of_block (a := ⟨q, 1, none⟩) (HF7.out.oth q LT.out.2.2.1 LT.out.2.2.2.2.2.2.2.1)).trans Q1.out
        obtain ⟨x0, x1, x2⟩ := box3 ((HF7.out.oth X LT.out.2.1 LT.out.2.2.2.2.2.2.1).trans BXX.out)
        have a2 := HF7.out.ar.cell (k := 3) (x := false) rfl
        have z2 := HF7.out.ar.froz (k := 3)
        clear hbb
        go_wp2_with fail
        rw [rounds_succ]
        go_upto_region 20 with (fail)
        obtain ⟨W8, hW8⟩ : ∃ W8, W7.setCell ⟨gf, 3, none⟩ (.bool true) = W8 := ⟨_, rfl⟩
        rw [hW8]
        have HF8 := hide (show FinMid w6 w4.heap.size #[.slice AE 2 cE, .slice none 0 0, .slice (some ⟨gf, 0, none⟩) 4 4, .slice (some ⟨gX, 0, none⟩) 3 cX, .slice (some ⟨gS, 0, none⟩) 3 cS] gf [false, false, true, true] W8 from by rw [← hW8]; exact HF7.out.mark (k := 3) LT.out.1 true)
        clear hW8 bc q0 q1 x0 x1 x2 a2 z2 c0 c1' c2' c3' c4
        have hbb := HF8.out.bb
        obtain ⟨c0, c1', c2', c3', c4⟩ := box5 hbb
        have bc := (World.cell?_of_block (a := ⟨w4.heap.size + 1, 0, none⟩) (HF8.out.oth (w4.heap.size + 1) LT.out.2.2.2.1 (by omega))).trans BC.out
        have hP := (HF8.out.oth (w.heap.size + 1) (by have := LT.out; omega) (by have := LT.out; omega)).trans P1.out
        have HP8 := hide hP
        obtain ⟨r0, r1, r2, r3⟩ := box4p hP
        have zf : ∀ j, W8.frozen? ⟨w.heap.size + 1, j, none⟩ = false := fun j => box_froz HP8.out
        have z0 := zf 0
        have z1 := zf 1
        have z2 := zf 2
        have z3 := zf 3
        clear zf hbb hP
        go_wp2_with fail
        rw [rounds_succ]
        go_wp2_with fail
        refine name_body fun wf hwf => ?_
        have hbf := four_box HP8.out (.slice AE 2 cE) (.slice none 0 0) (.slice (some ⟨gf, 0, none⟩) 4 4) (.slice (some ⟨gX, 0, none⟩) 3 cX)
        rw [hwf] at hbf
        obtain ⟨v0, v1, v2, v3⟩ := box4p hbf
        have hL := LT.out
        have hge := HF8.out.ge
        have h2 : ∀ b, b ≠ w.heap.size + 1 → wf.heap[b]? = W8.heap[b]? := fun b g1 => by
          rw [← hwf]
          have k : ∀ (u : World) (j : Nat) (v : Value), (u.setCell ⟨w.heap.size + 1, j, none⟩ v).heap[b]? = u.heap[b]? := fun u j v => Below.heap_setCell _ _ _ _ (by simpa using g1)
          rw [k, k, k, k]
        have hsz : wf.heap.size = W8.heap.size := by rw [← hwf]; simp
        have hos : wf.os = W8.os ∧ wf.tape = W8.tape ∧ wf.output = W8.output := by rw [← hwf]; exact ⟨rfl, rfl, rfl⟩
        have har : ArB wf gf [false, false, true, true] := (h2 gf (by omega)).trans HF8.out.ar
        have hro : wf.ownsRow w.heap.size 39 6 (.slice (some ⟨gX, 0, none⟩) 3 cX) 3 (exE.flatMap cEdg) := own_block ROW.out fun b hb => by
          have e : b = gX := by rw [ob_some] at hb; injection hb with hb; exact hb.symm
          rw [e]
          exact (h2 gX (by omega)).trans (HF8.out.oth gX (by omega) (by omega))
        have hbl : Below w.heap.size w wf := by
          have hk := KW.out
          refine ⟨hos.1.trans (HF8.out.os.trans hk.os), hos.2.1.trans (HF8.out.tape.trans hk.tape), hos.2.2.trans (HF8.out.output.trans hk.output), by have := HF8.out.size; have := hk.size; omega, fun b hb => ?_⟩
          exact (h2 b (by omega)).trans ((HF8.out.oth b (by have := hk.size; omega) (by omega)).trans (hk.block b hb))
        have hfl : gf < wf.heap.size := har.lt
        have hgl : gX < wf.heap.size := by have := HF8.out.size; omega
        clear hwf hbf bc c0 c1' c2' c3' c4 r0 r1 r2 r3 z0 z1 z2 z3
        refine bodyPost_ret (v := .tuple #[.agg #[.slice AE 2 cE, .slice none 0 0, .slice (some ⟨gf, 0, none⟩) 4 4, .slice (some ⟨gX, 0, none⟩) 3 cX], .int .i64 0]) (by simp [results, Tryz.results11, go_sem, v0, v1, v2, v3]) rfl ?_
        exact ⟨⟨AE, 2, cE, none, 0, 0, some ⟨gf, 0, none⟩, 4, [false, false, true, true], some ⟨gX, 0, none⟩, cX, exE⟩, rfl, ⟨row_fin har _ hfl, row_exE hro _ hgl⟩, rfl, rfl, rfl, rfl, hbl⟩

end Go.Proofs.YtgobkbjkndfliaaGreatDoor
