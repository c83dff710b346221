/-
  Several texts in one: CExpT. Each says at its head what it holds.
-/
import Derived.Test.YtgobkbjkndfliaaGreatDoorAP26
import Derived.Test.YtgobkbjkndfliaaGreatDoorAP27

/-
  compiler.expand at the repetition and at the pattern of the law's example.
-/
namespace Go.Proofs.YtgobkbjkndfliaaGreatDoor
open Go.RowKit

set_option maxRecDepth 100000 in
set_option maxHeartbeats 4000000 in
theorem exp_rep (A3 A2 : Option Addr) (c3 c2 g2 c2' ev kb : Nat) (base B ne : Nat) (E : List Edg) (sts : List Int) (F : Nat → Prop) (w : World) (hc : CSt w base B ne E sts F)
    (hr : w.ownsRow kb 65 12 (.slice (some ⟨g2, 0, none⟩) 1 c2') 1 (cNumEv 38 A2 c2 ev)) (hg : F g2) (hs : sts.length ≤ 900) (hE : E.length ≤ 900) :
    Calls Tryz.prog 35 #[.pointer (some ⟨B, 0, none⟩), .agg #[.int .i64 47, .int .i64 0, .string ByteArray.empty, .string ByteArray.empty, .int .i64 1, .int .i64 2, .int .i64 0, .int .i64 3, .slice A3 1 c3, .int .i64 0, .int .i64 (-1), .slice (some ⟨g2, 0, none⟩) 1 c2']] w (RepE sts.length base B ne (E ++ [⟨(sts.length + 1 : Nat), (sts.length + 1 : Nat) + 1, ev, -1, 0, 3⟩]) (sts ++ [(ev : Int), (ev : Int)]) F w) := by
  have HCR := hide hc
  have HFG := hide hg
  go_enter Tryz.func35, Tryz.ntmps35
  go_upto_region 1 with (fail)
  obtain ⟨W0, hW0⟩ : ∃ W0, (w.alloc (.cells #[.int .i64 47, .int .i64 0, .string ByteArray.empty, .string ByteArray.empty, .int .i64 1, .int .i64 2, .int .i64 0, .int .i64 3, .slice A3 1 c3, .int .i64 0, .int .i64 (-1), .slice (some ⟨g2, 0, none⟩) 1 c2'] 65)).alloc (.cells #[.slice none 0 0, .slice none 0 0, .bool false] 61) = W0 := ⟨_, rfl⟩
  rw [hW0]
  obtain ⟨p0, p1, hbW, hsW⟩ := chain2 _ _ _ hW0
  have hltw := HCR.out.lt
  have HRUN := hide (rep_run A3 A2 c3 c2 g2 c2' ev kb base B ne E sts (fun b => F b ∨ (w.heap.size ≤ b ∧ b < w.heap.size + 1 + 1)) W0 (hc.new hbW (fun b hb => hb.imp_right fun h => by omega)) (own_block hr fun b hb => hbW.block b (own_ob hr b hb).2) (Or.inl hg) hs hE)
  unfold cNumRep at HRUN
  have HKP0 := hide (show Kp F w W0 from Kp.of hbW fun b hb => hltw.1 b hb)
  have HP0 := hide p0
  have HP1 := hide p1
  obtain ⟨y0, y1, y2, y3, y4, y5, y6, y7, y8, y9, y10, y11⟩ := box12 p0
  clear hc hr hg hltw hW0 hbW hsW p0 p1
  go_wp2_with
    (go_at_call 61
     refine HRUN.out.mono ?_
     rintro e w2 ⟨p, q, cq, rfl, hp, hq0, hq1, hc2, hk2⟩
     have HPP := hide hp
     have HQ0 := hide hq0
     have HQ1 := hide hq1
     have HC2 := hide hc2
     have HK2 := hide hk2
     have hp1 := (hk2.block (w.heap.size + 1) (Or.inr (by omega))).trans HP1.out
     have HP2 := hide hp1
     obtain ⟨x0, x1, x2⟩ := box3 hp1
     have zf : ∀ j, w2.frozen? ⟨w.heap.size + 1, j, none⟩ = false := fun j => box_froz HP2.out
     have z0 := zf 0
     have z1 := zf 1
     have z2 := zf 2
     clear zf hp hq0 hq1 hc2 hk2 hp1)
  refine name_body fun wf hwf => ?_
  have hbf := three_box HP2.out (.slice (some ⟨p, 0, none⟩) 1 1) (.slice (some ⟨q, 0, none⟩) 2 cq) (.bool false)
  rw [hwf] at hbf
  obtain ⟨v0, v1, v2⟩ := box3 hbf
  have h2 : ∀ b, b ≠ w.heap.size + 1 → wf.heap[b]? = w2.heap[b]? := fun b g1 => by
    rw [← hwf]
    have k : ∀ (u : World) (j : Nat) (v : Value), (u.setCell ⟨w.heap.size + 1, j, none⟩ v).heap[b]? = u.heap[b]? := fun u j v => Below.heap_setCell _ _ _ _ (by simpa using g1)
    rw [k, k, k]
  have hcf := ((HC2.out.set (N := w.heap.size + 1) (k := 0) (Or.inl (Or.inr (by omega))) (.slice (some ⟨p, 0, none⟩) 1 1)).set (N := w.heap.size + 1) (k := 1) (Or.inl (Or.inr (by omega))) (.slice (some ⟨q, 0, none⟩) 2 cq)).set (N := w.heap.size + 1) (k := 2) (Or.inl (Or.inr (by omega))) (.bool false)
  rw [hwf] at hcf
  have hkf : Kp F w wf := by
    have g1 : ¬ F (w.heap.size + 1) := fun h => by have := HCR.out.lt.1 _ h; omega
    rw [← hwf]
    exact (((HKP0.out.trans (HK2.out.sub fun b h => Or.inl h)).set g1 _).set g1 _).set g1 _
  have hne : p ≠ w.heap.size + 1 := cells_ne HPP.out HP2.out (by decide)
  have hqb : ∀ j v, w2.cell? ⟨q, j, none⟩ = some (.int .i64 v) → wf.cell? ⟨q, j, none⟩ = some (.int .i64 v) := fun j v h => by
    rw [← hwf]
    have hq : q ≠ w.heap.size + 1 := fun e => by
      subst e
      rcases j with _ | _ | _ | j
      · rw [cell_of_row _ _ 0 _ _ (0, 0) HP2.out] at h; simp at h
      · rw [cell_of_row _ _ 1 _ _ (0, 0) HP2.out] at h; simp at h
      · rw [cell_of_row _ _ 2 _ _ (0, 0) HP2.out] at h; simp at h
      · rw [cell_of_row _ _ (j + 3) _ _ (0, 0) HP2.out] at h; simp at h
    have k : ∀ (u : World) (i : Nat) (x : Value), (u.setCell ⟨w.heap.size + 1, i, none⟩ x).cell? ⟨q, j, none⟩ = u.cell? ⟨q, j, none⟩ := fun u i x => World.cell?_setCell_far _ _ _ _ (fun e => hq e.symm)
    rw [k, k, k, h]
  clear hwf hbf x0 x1 x2 y0 y1 y2 y3 y4 y5 y6 y7 y8 y9 y10 y11 z0 z1 z2
  refine bodyPost_ret (v := .agg #[.slice (some ⟨p, 0, none⟩) 1 1, .slice (some ⟨q, 0, none⟩) 2 cq, .bool false]) (by simp [results, Tryz.results35, go_sem, v0, v1, v2]) rfl ?_
  exact ⟨p, q, cq, rfl, (h2 p hne).trans HPP.out, hqb 0 _ HQ0.out, hqb 1 _ HQ1.out, hcf.sub fun b h => h.imp_left Or.inl, hkf⟩

/-- blocks of F, and those from n on -/
def Gx (F : Nat → Prop) (n : Nat) (w : World) : Nat → Prop := fun b => F b ∨ (n ≤ b ∧ b < w.heap.size)
section
variable {base B ne : Nat} {E : List Edg} {sts : List Int} {F : Nat → Prop} {n : Nat} {w w' : World}
theorem cp_below (h : CSt w base B ne E sts (Gx F n w)) (hb : Below w.heap.size w w') : CSt w' base B ne E sts (Gx F n w') :=
  h.new hb fun b h1 => h1.elim (fun h2 => Or.inl (Or.inl h2)) fun h2 => by
    rcases Nat.lt_or_ge b w.heap.size with h3 | h3
    · exact Or.inl (Or.inr ⟨h2.1, h3⟩)
    · exact Or.inr ⟨h3, h2.2⟩
theorem cp_alloc (o : Obj) (h : CSt w base B ne E sts (Gx F n w)) : CSt (w.alloc o) base B ne E sts (Gx F n (w.alloc o)) := cp_below h ((Below.refl _ _).alloc (Nat.le_refl _) _)
theorem cp_drew (h : CSt w base B ne E sts (Gx F n w)) : CSt w.drew base B ne E sts (Gx F n w.drew) := h.drew
theorem cp_new (h : CSt w base B ne E sts F) : CSt w base B ne E sts (Gx F w.heap.size w) := h.sub fun b h1 => h1.elim id fun h2 => absurd h2.1 (by omega)
theorem kp_alloc {G : Nat → Prop} {a b : World} (o : Obj) (hf : ∀ i, G i → i < a.heap.size) (h : Kp G a b) : Kp G a (b.alloc o) := h.trans (Kp.of ((Below.refl _ _).alloc (Nat.le_refl _) _) fun i hi => Nat.lt_of_lt_of_le (hf i hi) h.size)
theorem kp_set {G : Nat → Prop} {a b : World} {N k : Nat} {v : Value} (hN : ¬ G N) (h : Kp G a b) : Kp G a (b.setCell ⟨N, k, none⟩ v) := h.set hN v
theorem kp_drew {G : Nat → Prop} {a b : World} (h : Kp G a b) : Kp G a b.drew := h.drew
end
theorem row_kp {w w' : World} {kb g c n : Nat} {xs : List Value} {F : Nat → Prop} (h : w.ownsRow kb 65 12 (.slice (some ⟨g, 0, none⟩) n c) n xs) (hg : F g) (hk : Kp F w w') : w'.ownsRow kb 65 12 (.slice (some ⟨g, 0, none⟩) n c) n xs := own_block h fun b hb => hk.block b (f_of hg hb)

/-- a block of G, and what lies there -/
def BxIn (G : Nat → Prop) (w : World) (X : Nat) (o : Obj) : Prop := G X ∧ w.heap[X]? = some o
section
variable {F : Nat → Prop} {n X p q : Nat} {w w' : World} {o : Obj}
theorem gx_in {F : Nat → Prop} {n b : Nat} {w : World} (h : F b) : Gx F n w b := Or.inl h
theorem bx_new (F : Nat → Prop) (n : Nat) (w : World) (o : Obj) (hn : n ≤ w.heap.size) : BxIn (Gx F n (w.alloc o)) (w.alloc o) w.heap.size o := ⟨Or.inr ⟨hn, by simp⟩, heap_alloc_new w o⟩
theorem bx_alloc (o' : Obj) (h : BxIn (Gx F n w) w X o) : BxIn (Gx F n (w.alloc o')) (w.alloc o') X o := ⟨h.1.imp_right fun h1 => ⟨h1.1, by simp; omega⟩, box_alloc h.2⟩
theorem bx_p (_ : Kp (Gx F n w) w w') (h : w'.heap[p]? = some o) : BxIn (Gx (fun b => Gx F n w b ∨ b = p ∨ b = q) w'.heap.size w') w' p o := ⟨Or.inl (Or.inr (Or.inl rfl)), h⟩
theorem bx_q (_ : Kp (Gx F n w) w w') (h : w'.heap[q]? = some o) : BxIn (Gx (fun b => Gx F n w b ∨ b = p ∨ b = q) w'.heap.size w') w' q o := ⟨Or.inl (Or.inr (Or.inr rfl)), h⟩
theorem bx_call (hk : Kp (Gx F n w) w w') (h : BxIn (Gx F n w) w X o) : BxIn (Gx (fun b => Gx F n w b ∨ b = p ∨ b = q) w'.heap.size w') w' X o := ⟨Or.inl (Or.inl h.1), (hk.block X h.1).trans h.2⟩
end
theorem bxA {F : Nat → Prop} {n : Nat} {W : World} (o : Obj) (hn : n ≤ W.heap.size) : BxIn (Gx F n (W.drew.alloc o)) (W.drew.alloc o) W.heap.size o := bx_new F n W.drew o hn
theorem bxB {F : Nat → Prop} {n : Nat} {W : World} (o o' : Obj) (hn : n ≤ W.heap.size) : BxIn (Gx F n ((W.drew.alloc o).alloc o')) ((W.drew.alloc o).alloc o') (W.heap.size + 1) o' := by
  have h := bx_new F n (W.drew.alloc o) o' (by simp; omega)
  simpa using h
theorem bxC {F : Nat → Prop} {n : Nat} {W : World} (o o' : Obj) (hn : n ≤ W.heap.size) : BxIn (Gx F n ((W.alloc o).alloc o')) ((W.alloc o).alloc o') (W.heap.size + 1) o' := by
  have h := bx_new F n (W.alloc o) o' (by simp; omega)
  simpa using h
theorem ca {w : World} {a : Addr} {v : Value} (o : Obj) (h : w.cell? a = some v) : (w.alloc o).cell? a = some v := by
  refine (World.cell?_of_block (a := a) ?_).trans h
  refine Below.heap_alloc _ _ _ ?_
  rcases Nat.lt_or_ge a.block w.heap.size with h1 | h1
  · exact h1
  · have h2 : w.heap[a.block]? = none := by simpa using h1
    unfold World.cell? at h
    rw [h2] at h
    cases h
/-- two parts stored in boxes of their own -/
structure ThenMid (w W0 : World) (F : Nat → Prop) (base B ne : Nat) (E : List Edg) (sts : List Int) (s s2 : Nat) (X Y p q p2 q2 cq : Nat) (wx : World) : Prop where
  bx : wx.heap[X]? = some (.cells #[.slice (some ⟨p, 0, none⟩) 1 1, .slice (some ⟨q, 0, none⟩) 1 1, .bool false] 61 (0, 0))
  by_ : wx.heap[Y]? = some (.cells #[.slice (some ⟨p2, 0, none⟩) 1 1, .slice (some ⟨q2, 0, none⟩) 2 cq, .bool false] 61 (0, 0))
  hp : wx.heap[p]? = some (.cells #[.int .i64 ((s + 1 : Nat) : Int)] 3 (0, 0))
  hq : wx.heap[q]? = some (.cells #[.int .i64 ((s + 1 : Nat) : Int)] 3 (0, 0))
  hp2 : wx.heap[p2]? = some (.cells #[.int .i64 ((s2 + 1 : Nat) : Int)] 3 (0, 0))
  hq0 : wx.cell? ⟨q2, 0, none⟩ = some (.int .i64 ((s2 + 1 : Nat) : Int))
  hq1 : wx.cell? ⟨q2, 1, none⟩ = some (.int .i64 ((s2 + 2 : Nat) : Int))
  cs : CSt wx base B ne E sts (fun b => (F b ∨ b = w.heap.size ∨ b = w.heap.size + 1) ∨ b = X ∨ b = Y ∨ b = p ∨ b = q ∨ b = p2 ∨ b = q2)
  kp : Kp (fun b => F b ∨ b = w.heap.size ∨ b = w.heap.size + 1) W0 wx
theorem set3_other {w : World} {X b : Nat} {v0 v1 v2 : Value} (h : b ≠ X) : (((w.setCell ⟨X, 0, none⟩ v0).setCell ⟨X, 1, none⟩ v1).setCell ⟨X, 2, none⟩ v2).heap[b]? = w.heap[b]? := by
  have k : ∀ (u : World) (j : Nat) (v : Value), (u.setCell ⟨X, j, none⟩ v).heap[b]? = u.heap[b]? := fun u j v => Below.heap_setCell _ _ _ _ (by simpa using h)
  rw [k, k, k]
/-- two boxes filled, each an old one of G or a new one; all else as it was -/
structure TwoFill (w : World) (G : Nat → Prop) (X Y : Nat) (x y : Array Value) (w' : World) : Prop where
  bx : w'.heap[X]? = some (.cells x 61 (0, 0))
  by_ : w'.heap[Y]? = some (.cells y 61 (0, 0))
  oth : ∀ b, b < w.heap.size → b ≠ X → b ≠ Y → w'.heap[b]? = w.heap[b]?
  gx : (G X ∧ w.heap[X]? = some (.cells #[.slice none 0 0, .slice none 0 0, .bool false] 61 (0, 0))) ∨ w.heap.size ≤ X
  gy : (G Y ∧ w.heap[Y]? = some (.cells #[.slice none 0 0, .slice none 0 0, .bool false] 61 (0, 0))) ∨ w.heap.size ≤ Y
  size : w.heap.size ≤ w'.heap.size
  os : w'.os = w.os
  tape : w'.tape = w.tape
  output : w'.output = w.output
section
variable {w : World} {G : Nat → Prop} {X Y : Nat} {x0 x1 x2 y0 y1 y2 : Value}
theorem set3_all {c : Array Value} (hc : w.heap[X]? = some (.cells c 61 (0, 0))) (h3 : c.size = 3) : (((w.setCell ⟨X, 0, none⟩ x0).setCell ⟨X, 1, none⟩ x1).setCell ⟨X, 2, none⟩ x2).heap[X]? = some (.cells #[x0, x1, x2] 61 (0, 0)) ∧ (∀ b, b ≠ X → (((w.setCell ⟨X, 0, none⟩ x0).setCell ⟨X, 1, none⟩ x1).setCell ⟨X, 2, none⟩ x2).heap[b]? = w.heap[b]?) ∧ (((w.setCell ⟨X, 0, none⟩ x0).setCell ⟨X, 1, none⟩ x1).setCell ⟨X, 2, none⟩ x2).heap.size = w.heap.size ∧ (((w.setCell ⟨X, 0, none⟩ x0).setCell ⟨X, 1, none⟩ x1).setCell ⟨X, 2, none⟩ x2).os = w.os ∧ (((w.setCell ⟨X, 0, none⟩ x0).setCell ⟨X, 1, none⟩ x1).setCell ⟨X, 2, none⟩ x2).tape = w.tape ∧ (((w.setCell ⟨X, 0, none⟩ x0).setCell ⟨X, 1, none⟩ x1).setCell ⟨X, 2, none⟩ x2).output = w.output := by
  refine ⟨?_, fun b h => set3_other h, by simp, rfl, rfl, rfl⟩
  match c, h3 with
  | ⟨[a, b, d]⟩, _ => exact three_box hc x0 x1 x2
theorem tf_ss (hX : BxIn G w X (.cells #[.slice none 0 0, .slice none 0 0, .bool false] 61)) (hY : BxIn G w Y (.cells #[.slice none 0 0, .slice none 0 0, .bool false] 61)) (hXY : X ≠ Y) : TwoFill w G X Y #[x0, x1, x2] #[y0, y1, y2] ((((((w.setCell ⟨X, 0, none⟩ x0).setCell ⟨X, 1, none⟩ x1).setCell ⟨X, 2, none⟩ x2).setCell ⟨Y, 0, none⟩ y0).setCell ⟨Y, 1, none⟩ y1).setCell ⟨Y, 2, none⟩ y2) := by
  obtain ⟨a1, a2, a3, a4, a5, a6⟩ := set3_all (x0 := x0) (x1 := x1) (x2 := x2) hX.2 rfl
  generalize ((w.setCell ⟨X, 0, none⟩ x0).setCell ⟨X, 1, none⟩ x1).setCell ⟨X, 2, none⟩ x2 = u at *
  obtain ⟨b1, b2, b3, b4, b5, b6⟩ := set3_all (w := u) (x0 := y0) (x1 := y1) (x2 := y2) ((a2 Y hXY.symm).trans hY.2) rfl
  generalize ((u.setCell ⟨Y, 0, none⟩ y0).setCell ⟨Y, 1, none⟩ y1).setCell ⟨Y, 2, none⟩ y2 = v at *
  exact ⟨(b2 X hXY).trans a1, b1, fun b _ h1 h2 => (b2 b h2).trans (a2 b h1), Or.inl hX, Or.inl hY, by omega, b4.trans a4, b5.trans a5, b6.trans a6⟩
theorem tf_sa (hX : BxIn G w X (.cells #[.slice none 0 0, .slice none 0 0, .bool false] 61)) : TwoFill w G X w.heap.size #[x0, x1, x2] #[y0, y1, y2] ((((w.setCell ⟨X, 0, none⟩ x0).setCell ⟨X, 1, none⟩ x1).setCell ⟨X, 2, none⟩ x2).alloc (.cells #[y0, y1, y2] 61)) := by
  obtain ⟨h1, hn, hs, ho⟩ := set3_all (x0 := x0) (x1 := x1) (x2 := x2) hX.2 rfl
  generalize ((w.setCell ⟨X, 0, none⟩ x0).setCell ⟨X, 1, none⟩ x1).setCell ⟨X, 2, none⟩ x2 = u at *
  have h2 := heap_alloc_new u (.cells #[y0, y1, y2] 61)
  rw [hs] at h2
  exact ⟨box_alloc h1, h2, fun b hb h3 _ => (Below.heap_alloc _ _ _ (by omega)).trans (hn b h3), Or.inl hX, Or.inr (Nat.le_refl _), by simp; omega, ho.1, ho.2.1, ho.2.2⟩
theorem tf_as (hY : BxIn G w Y (.cells #[.slice none 0 0, .slice none 0 0, .bool false] 61)) : TwoFill w G w.heap.size Y #[x0, x1, x2] #[y0, y1, y2] ((((w.setCell ⟨Y, 0, none⟩ y0).setCell ⟨Y, 1, none⟩ y1).setCell ⟨Y, 2, none⟩ y2).alloc (.cells #[x0, x1, x2] 61)) := by
  have h := tf_sa (x0 := y0) (x1 := y1) (x2 := y2) (y0 := x0) (y1 := x1) (y2 := x2) hY
  exact ⟨h.by_, h.bx, fun b hb h1 h2 => h.oth b hb h2 h1, h.gy, h.gx, h.size, h.os, h.tape, h.output⟩
theorem tf_aa : TwoFill w G w.heap.size (w.heap.size + 1) #[x0, x1, x2] #[y0, y1, y2] ((w.alloc (.cells #[x0, x1, x2] 61)).alloc (.cells #[y0, y1, y2] 61)) := by
  obtain ⟨h1, h2, h3, h4⟩ := chain2 w (Obj.cells #[x0, x1, x2] 61) (Obj.cells #[y0, y1, y2] 61) rfl
  exact ⟨h1, h2, fun b hb _ _ => h3.block b hb, Or.inr (Nat.le_refl _), Or.inr (by omega), h3.size, h3.os, h3.tape, h3.output⟩
theorem tf_bb : TwoFill w G (w.heap.size + 1) w.heap.size #[x0, x1, x2] #[y0, y1, y2] ((w.alloc (.cells #[y0, y1, y2] 61)).alloc (.cells #[x0, x1, x2] 61)) := by
  have h := tf_aa (w := w) (G := G) (x0 := y0) (x1 := y1) (x2 := y2) (y0 := x0) (y1 := x1) (y2 := x2)
  exact ⟨h.by_, h.bx, fun b hb h1 h2 => h.oth b hb h2 h1, h.gy, h.gx, h.size, h.os, h.tape, h.output⟩
end
theorem q_ne {w : World} {q X : Nat} {b : Value} {A : Option Addr} {n c : Nat} {v : Int} {d : Bool} {t : TypeId} (h : w.cell? ⟨q, 0, none⟩ = some (.int .i64 v)) (k : w.heap[X]? = some (.cells #[.slice A n c, b, .bool d] t (0, 0))) : q ≠ X := by
  rintro rfl
  rw [cell_of_row _ _ 0 _ _ (0, 0) k] at h
  simp at h
theorem then_mid {w W0 w3 w4 : World} {F G : Nat → Prop} {base B ne : Nat} {E : List Edg} {sts : List Int} {s s2 X Y p q p2 q2 cq : Nat} (hc : CSt w3 base B ne E sts G) (hk : Kp (fun b => F b ∨ b = w.heap.size ∨ b = w.heap.size + 1) W0 w3)
    (hX0 : W0.heap.size ≤ X) (hY0 : W0.heap.size ≤ Y) (hF0 : ∀ b, (F b ∨ b = w.heap.size ∨ b = w.heap.size + 1) → b < W0.heap.size) (hF : ∀ b, (F b ∨ b = w.heap.size ∨ b = w.heap.size + 1) → G b)
    (hp : BxIn G w3 p (.cells #[.int .i64 ((s + 1 : Nat) : Int)] 3)) (hq : BxIn G w3 q (.cells #[.int .i64 ((s + 1 : Nat) : Int)] 3)) (hp2 : BxIn G w3 p2 (.cells #[.int .i64 ((s2 + 1 : Nat) : Int)] 3))
    (hq0 : w3.cell? ⟨q2, 0, none⟩ = some (.int .i64 ((s2 + 1 : Nat) : Int))) (hq1 : w3.cell? ⟨q2, 1, none⟩ = some (.int .i64 ((s2 + 2 : Nat) : Int))) (hq2 : G q2)
    (h : TwoFill w3 G X Y #[.slice (some ⟨p, 0, none⟩) 1 1, .slice (some ⟨q, 0, none⟩) 1 1, .bool false] #[.slice (some ⟨p2, 0, none⟩) 1 1, .slice (some ⟨q2, 0, none⟩) 2 cq, .bool false] w4) :
    ThenMid w W0 F base B ne E sts s s2 X Y p q p2 q2 cq w4 := by
  have hl := hc.lt.1
  have nX : ∀ (b : Nat) (z : Int), w3.heap[b]? = some (.cells #[.int .i64 z] 3 (0, 0)) → b ≠ X ∧ b ≠ Y := fun b z h1 => ⟨fun e => by
      rcases h.gx with ⟨_, h2⟩ | h2
      · exact cells_ne h1 h2 (by decide) e
      · have := box_lt h1; omega, fun e => by
      rcases h.gy with ⟨_, h2⟩ | h2
      · exact cells_ne h1 h2 (by decide) e
      · have := box_lt h1; omega⟩
  have o : ∀ (b : Nat) (z : Int), w3.heap[b]? = some (.cells #[.int .i64 z] 3 (0, 0)) → w4.heap[b]? = some (.cells #[.int .i64 z] 3 (0, 0)) := fun b z h1 => (h.oth b (box_lt h1) (nX b z h1).1 (nX b z h1).2).trans h1
  have nq : q2 ≠ X ∧ q2 ≠ Y := ⟨fun e => by
      rcases h.gx with ⟨_, h2⟩ | h2
      · exact q_ne hq0 h2 e
      · have := hl q2 hq2; omega, fun e => by
      rcases h.gy with ⟨_, h2⟩ | h2
      · exact q_ne hq0 h2 e
      · have := hl q2 hq2; omega⟩
  have oq := h.oth q2 (hl q2 hq2) nq.1 nq.2
  refine ⟨h.bx, h.by_, o p _ hp.2, o q _ hq.2, o p2 _ hp2.2, (World.cell?_of_block (a := ⟨q2, 0, none⟩) oq).trans hq0, (World.cell?_of_block (a := ⟨q2, 1, none⟩) oq).trans hq1, hc.step h.size (fun b h1 h2 => h.oth b h1 (fun e => ?_) (fun e => ?_)) (fun b hb => ?_), hk.trans ⟨h.os, h.tape, h.output, h.size, fun b hb => h.oth b (hl b (hF b hb)) (fun e => ?_) (fun e => ?_)⟩⟩
  · subst e
    rcases h.gx with h3 | h3
    · exact h2 h3.1
    · omega
  · subst e
    rcases h.gy with h3 | h3
    · exact h2 h3.1
    · omega
  · rcases hb with hb | rfl | rfl | rfl | rfl | rfl | rfl
    · exact Or.inl (hF b hb)
    · exact h.gx.imp (fun h3 => h3.1) fun h3 => ⟨h3, box_lt h.bx⟩
    · exact h.gy.imp (fun h3 => h3.1) fun h3 => ⟨h3, box_lt h.by_⟩
    · exact Or.inl hp.1
    · exact Or.inl hq.1
    · exact Or.inl hp2.1
    · exact Or.inl hq2
  · have := hF0 b hb; omega
  · have := hF0 b hb; omega

/-- what expand answers at the pattern -/
def ThenE (s s2 base B ne : Nat) (E : List Edg) (sts : List Int) (F : Nat → Prop) (w : World) (e : Ending) (w' : World) : Prop :=
  ∃ p q cq : Nat, e = .returned (.agg #[.slice (some ⟨p, 0, none⟩) 1 1, .slice (some ⟨q, 0, none⟩) 2 cq, .bool false]) ∧ w'.heap[p]? = some (.cells #[.int .i64 ((s + 1 : Nat) : Int)] 3 (0, 0)) ∧ w'.cell? ⟨q, 0, none⟩ = some (.int .i64 ((s2 + 1 : Nat) : Int)) ∧ w'.cell? ⟨q, 1, none⟩ = some (.int .i64 ((s2 + 2 : Nat) : Int)) ∧ CSt w' base B ne E sts (fun b => F b ∨ b = p ∨ b = q) ∧ Kp F w w'
set_option maxRecDepth 100000 in
set_option maxHeartbeats 8000000 in
theorem exp_then (A A1 A2 A3 : Option Addr) (c1 c2 g cg g2 c2' ev kb : Nat) (base B ne : Nat) (E : List Edg) (sts : List Int) (F : Nat → Prop) (w : World) (hc : CSt w base B ne E sts F)
    (hr : w.ownsRow kb 65 12 (.slice (some ⟨g, 0, none⟩) 2 cg) 2 (cNumEv 37 A1 c1 ev ++ cNumRep A3 1 g2 c2')) (hr2 : w.ownsRow kb 65 12 (.slice (some ⟨g2, 0, none⟩) 1 c2') 1 (cNumEv 38 A2 c2 (ev + 1))) (hg : F g) (hg2 : F g2) (hs : sts.length ≤ 800) (hE : E.length ≤ 800) :
    Calls Tryz.prog 35 #[.pointer (some ⟨B, 0, none⟩), .agg (cNumThen A g cg).toArray] w (ThenE sts.length (sts ++ [(ev : Int)]).length base B ne ((E ++ [⟨((sts ++ [(ev : Int)]).length + 1 : Nat), ((sts ++ [(ev : Int)]).length + 1 : Nat) + 1, ((ev + 1 : Nat) : Int), -1, 0, 3⟩]) ++ [⟨(sts.length + 1 : Nat), ((sts ++ [(ev : Int)]).length : Int) + 1, ((ev + 1 : Nat) : Int), -1, 1, 5⟩]) (sts ++ [(ev : Int)] ++ [((ev + 1 : Nat) : Int), ((ev + 1 : Nat) : Int)]) F w) := by
  unfold cNumThen
  have HCR := hide hc
  have HFG := hide hg
  have HFG2 := hide hg2
  have HR2 := hide hr2
  go_enter Tryz.func35, Tryz.ntmps35
  go_upto_region 1 with (fail)
  obtain ⟨W0, hW0⟩ : ∃ W0, (w.alloc (.cells #[.int .i64 45, .int .i64 0, .string ByteArray.empty, .string ByteArray.empty, .int .i64 1, .int .i64 5, .int .i64 0, .int .i64 0, .slice A 2 2, .int .i64 0, .int .i64 (-1), .slice (some ⟨g, 0, none⟩) 2 cg] 65)).alloc (.cells #[.slice none 0 0, .slice none 0 0, .bool false] 61) = W0 := ⟨_, rfl⟩
  rw [hW0]
  obtain ⟨p0, p1, hbW, hsW⟩ := chain2 _ _ _ hW0
  have hrow := own_block (w' := W0) hr fun b hb => hbW.block b (own_ob hr b hb).2
  have n0 := hrow.cellAt 0 (by omega)
  have n1 := hrow.cellAt 1 (by omega)
  have n2 := hrow.cellAt 2 (by omega)
  have n3 := hrow.cellAt 3 (by omega)
  have n4 := hrow.cellAt 4 (by omega)
  have n5 := hrow.cellAt 5 (by omega)
  have n6 := hrow.cellAt 6 (by omega)
  have n7 := hrow.cellAt 7 (by omega)
  have n8 := hrow.cellAt 8 (by omega)
  have n9 := hrow.cellAt 9 (by omega)
  have n10 := hrow.cellAt 10 (by omega)
  have n11 := hrow.cellAt 11 (by omega)
  have n12 := hrow.cellAt 12 (by omega)
  have n13 := hrow.cellAt 13 (by omega)
  have n14 := hrow.cellAt 14 (by omega)
  have n15 := hrow.cellAt 15 (by omega)
  have n16 := hrow.cellAt 16 (by omega)
  have n17 := hrow.cellAt 17 (by omega)
  have n18 := hrow.cellAt 18 (by omega)
  have n19 := hrow.cellAt 19 (by omega)
  have n20 := hrow.cellAt 20 (by omega)
  have n21 := hrow.cellAt 21 (by omega)
  have n22 := hrow.cellAt 22 (by omega)
  have n23 := hrow.cellAt 23 (by omega)
  simp only [cNumEv, cNumRep, List.cons_append, List.nil_append, List.getElem?_cons_zero, List.getElem?_cons_succ] at n0 n1 n2 n3 n4 n5 n6 n7 n8 n9 n10 n11 n12 n13 n14 n15 n16 n17 n18 n19 n20 n21 n22 n23
  obtain ⟨y0, y1, y2, y3, y4, y5, y6, y7, y8, y9, y10, y11⟩ := box12 p0
  have HLT := hide (show ∀ b, F b → b < w.heap.size from hc.lt.1)
  have HC0 := hide (show CSt W0 base B ne E sts (Gx F w.heap.size W0) from hc.new hbW fun b h => h)
  have HKP0 := hide (show Kp F w W0 from Kp.of hbW fun b hb => hc.lt.1 b hb)
  have HG0 := hide (show ∀ b, (F b ∨ b = w.heap.size ∨ b = w.heap.size + 1) → b < W0.heap.size from fun b h => by
    rcases h with h | h | h
    · have := hc.lt.1 b h; omega
    · omega
    · omega)
  have HSW := hide hsW
  have HP0 := hide p0
  have HP1 := hide p1
  have KC := hide (show ∀ wx, Kp (fun b => F b ∨ b = w.heap.size ∨ b = w.heap.size + 1) W0 wx → (wx.cell? ⟨w.heap.size, 11, none⟩ = some (.slice (some ⟨g, 0, none⟩) 2 cg) ∧ wx.cell? ⟨g, 0, none⟩ = some (.int .i64 37) ∧ wx.cell? ⟨g, 1, none⟩ = some (.int .i64 0) ∧ wx.cell? ⟨g, 2, none⟩ = some (.string ByteArray.empty) ∧ wx.cell? ⟨g, 3, none⟩ = some (.string ByteArray.empty) ∧ wx.cell? ⟨g, 4, none⟩ = some (.int .i64 0) ∧ wx.cell? ⟨g, 5, none⟩ = some (.int .i64 0) ∧ wx.cell? ⟨g, 6, none⟩ = some (.int .i64 0) ∧ wx.cell? ⟨g, 7, none⟩ = some (.int .i64 0) ∧ wx.cell? ⟨g, 8, none⟩ = some (.slice A1 1 c1) ∧ wx.cell? ⟨g, 9, none⟩ = some (.int .i64 (ev : Int)) ∧ wx.cell? ⟨g, 10, none⟩ = some (.int .i64 (-1)) ∧ wx.cell? ⟨g, 11, none⟩ = some (.slice none 0 0) ∧ wx.cell? ⟨g, 12, none⟩ = some (.int .i64 47) ∧ wx.cell? ⟨g, 13, none⟩ = some (.int .i64 0) ∧ wx.cell? ⟨g, 14, none⟩ = some (.string ByteArray.empty) ∧ wx.cell? ⟨g, 15, none⟩ = some (.string ByteArray.empty) ∧ wx.cell? ⟨g, 16, none⟩ = some (.int .i64 1) ∧ wx.cell? ⟨g, 17, none⟩ = some (.int .i64 2) ∧ wx.cell? ⟨g, 18, none⟩ = some (.int .i64 0) ∧ wx.cell? ⟨g, 19, none⟩ = some (.int .i64 3) ∧ wx.cell? ⟨g, 20, none⟩ = some (.slice A3 1 1) ∧ wx.cell? ⟨g, 21, none⟩ = some (.int .i64 0) ∧ wx.cell? ⟨g, 22, none⟩ = some (.int .i64 (-1)) ∧ wx.cell? ⟨g, 23, none⟩ = some (.slice (some ⟨g2, 0, none⟩) 1 c2') ∧ Kp (fun b => F b ∨ b = w.heap.size ∨ b = w.heap.size + 1) W0 wx) from fun wx h => by
    have e0 := h.block w.heap.size (Or.inr (Or.inl rfl))
    have eg := h.block g (Or.inl hg)
    exact ⟨(World.cell?_of_block (a := ⟨w.heap.size, 11, none⟩) e0).trans y11, (World.cell?_of_block (a := ⟨g, 0, none⟩) eg).trans n0, (World.cell?_of_block (a := ⟨g, 1, none⟩) eg).trans n1, (World.cell?_of_block (a := ⟨g, 2, none⟩) eg).trans n2, (World.cell?_of_block (a := ⟨g, 3, none⟩) eg).trans n3, (World.cell?_of_block (a := ⟨g, 4, none⟩) eg).trans n4, (World.cell?_of_block (a := ⟨g, 5, none⟩) eg).trans n5, (World.cell?_of_block (a := ⟨g, 6, none⟩) eg).trans n6, (World.cell?_of_block (a := ⟨g, 7, none⟩) eg).trans n7, (World.cell?_of_block (a := ⟨g, 8, none⟩) eg).trans n8, (World.cell?_of_block (a := ⟨g, 9, none⟩) eg).trans n9, (World.cell?_of_block (a := ⟨g, 10, none⟩) eg).trans n10, (World.cell?_of_block (a := ⟨g, 11, none⟩) eg).trans n11, (World.cell?_of_block (a := ⟨g, 12, none⟩) eg).trans n12, (World.cell?_of_block (a := ⟨g, 13, none⟩) eg).trans n13, (World.cell?_of_block (a := ⟨g, 14, none⟩) eg).trans n14, (World.cell?_of_block (a := ⟨g, 15, none⟩) eg).trans n15, (World.cell?_of_block (a := ⟨g, 16, none⟩) eg).trans n16, (World.cell?_of_block (a := ⟨g, 17, none⟩) eg).trans n17, (World.cell?_of_block (a := ⟨g, 18, none⟩) eg).trans n18, (World.cell?_of_block (a := ⟨g, 19, none⟩) eg).trans n19, (World.cell?_of_block (a := ⟨g, 20, none⟩) eg).trans n20, (World.cell?_of_block (a := ⟨g, 21, none⟩) eg).trans n21, (World.cell?_of_block (a := ⟨g, 22, none⟩) eg).trans n22, (World.cell?_of_block (a := ⟨g, 23, none⟩) eg).trans n23, h⟩)
  clear hc hr hr2 hg hg2 hW0 hbW hsW p0 p1 hrow n0 n1 n2 n3 n4 n5 n6 n7 n8 n9 n10 n11 n12 n13 n14 n15 n16 n17 n18 n19 n20 n21 n22 n23
  have HN0 := hide (show w.heap.size ≤ W0.heap.size from by have := HSW.out; omega)
  have HEX1 := hide (fun (wx : World) (hx : CSt wx base B ne E sts (Gx F w.heap.size wx)) => exp_ev 37 A1 c1 ev (.inl rfl) base B ne E sts (Gx F w.heap.size wx) wx hx (by omega))
  have HEX2 := hide (fun (F2 : Nat → Prop) (m : Nat) (wx : World) (hx : CSt wx base B ne E (sts ++ [(ev : Int)]) (Gx F2 m wx)) (hk : Kp F W0 wx) (hf : F2 g2) => exp_rep A3 A2 1 c2 g2 c2' (ev + 1) kb base B ne E (sts ++ [(ev : Int)]) (Gx F2 m wx) wx hx (row_kp HR2.out HFG2.out (HKP0.out.trans hk)) (Or.inl hf) (by simp; omega) (by omega))
  go_upto_region 6 with (fail)
  go_cut [7, 8] (fun a b wx => ∃ X Y p q p2 q2 cq : Nat, a = .pointer (some ⟨X, 0, none⟩) ∧ b = .pointer (some ⟨Y, 0, none⟩) ∧ ThenMid w W0 F base B ne (E ++ [⟨((sts ++ [(ev : Int)]).length + 1 : Nat), ((sts ++ [(ev : Int)]).length + 1 : Nat) + 1, ((ev + 1 : Nat) : Int), -1, 0, 3⟩]) (sts ++ [(ev : Int)] ++ [((ev + 1 : Nat) : Int), ((ev + 1 : Nat) : Int)]) sts.length (sts ++ [(ev : Int)]).length X Y p q p2 q2 cq wx)
  case first =>
    have k0 := KC.out W0.drew (Kp.refl _ _).drew
    go_region_held3 (fun wx => wx.cell? ⟨w.heap.size, 11, none⟩ = some (.slice (some ⟨g, 0, none⟩) 2 cg) ∧ wx.cell? ⟨g, 0, none⟩ = some (.int .i64 37) ∧ wx.cell? ⟨g, 1, none⟩ = some (.int .i64 0) ∧ wx.cell? ⟨g, 2, none⟩ = some (.string ByteArray.empty) ∧ wx.cell? ⟨g, 3, none⟩ = some (.string ByteArray.empty) ∧ wx.cell? ⟨g, 4, none⟩ = some (.int .i64 0) ∧ wx.cell? ⟨g, 5, none⟩ = some (.int .i64 0) ∧ wx.cell? ⟨g, 6, none⟩ = some (.int .i64 0) ∧ wx.cell? ⟨g, 7, none⟩ = some (.int .i64 0) ∧ wx.cell? ⟨g, 8, none⟩ = some (.slice A1 1 c1) ∧ wx.cell? ⟨g, 9, none⟩ = some (.int .i64 (ev : Int)) ∧ wx.cell? ⟨g, 10, none⟩ = some (.int .i64 (-1)) ∧ wx.cell? ⟨g, 11, none⟩ = some (.slice none 0 0) ∧ wx.cell? ⟨g, 12, none⟩ = some (.int .i64 47) ∧ wx.cell? ⟨g, 13, none⟩ = some (.int .i64 0) ∧ wx.cell? ⟨g, 14, none⟩ = some (.string ByteArray.empty) ∧ wx.cell? ⟨g, 15, none⟩ = some (.string ByteArray.empty) ∧ wx.cell? ⟨g, 16, none⟩ = some (.int .i64 1) ∧ wx.cell? ⟨g, 17, none⟩ = some (.int .i64 2) ∧ wx.cell? ⟨g, 18, none⟩ = some (.int .i64 0) ∧ wx.cell? ⟨g, 19, none⟩ = some (.int .i64 3) ∧ wx.cell? ⟨g, 20, none⟩ = some (.slice A3 1 1) ∧ wx.cell? ⟨g, 21, none⟩ = some (.int .i64 0) ∧ wx.cell? ⟨g, 22, none⟩ = some (.int .i64 (-1)) ∧ wx.cell? ⟨g, 23, none⟩ = some (.slice (some ⟨g2, 0, none⟩) 1 c2') ∧ Kp (fun b => F b ∨ b = w.heap.size ∨ b = w.heap.size + 1) W0 wx)
      (first | (with_reducible assumption) | (exact KC.out _ (by repeat' (first | (with_reducible assumption) | (with_reducible exact HK1.out) | (with_reducible exact HK2.out) | (with_reducible exact (Kp.refl _ _)) | (with_reducible refine kp_drew ?_) | (with_reducible refine kp_alloc _ HG0.out ?_) | (with_reducible refine kp_set (fun h => absurd (HG0.out _ h) (Nat.not_lt.2 ?_)) ?_) | (with_reducible exact Nat.le_refl _) | (with_reducible exact Nat.le_add_right _ 1) | (with_reducible exact HSZ1.out) | (with_reducible exact Nat.le_add_right_of_le HSZ1.out) | (with_reducible exact HSZ2.out) | (with_reducible exact Nat.le_add_right_of_le HSZ2.out)))))
      (first
        | (go_at_call 35
           with_reducible refine (HEX1.out _ ?_).mono ?_
           (focus (repeat' (first | (with_reducible exact HC1.out) | (with_reducible exact HC0.out) | (with_reducible refine cp_drew ?_) | (with_reducible refine cp_alloc _ ?_))))
           rintro e w2 ⟨p, q, rfl, hp, hq, hc2, hk2⟩
           have HL1 := hide hk2
           have HC1 := hide (cp_new hc2)
           have HP1 := hide (bx_p (q := q) hk2 hp)
           have HQ1 := hide (bx_q (p := p) hk2 hq)
           have HK1 := hide (show Kp (fun b => F b ∨ b = w.heap.size ∨ b = w.heap.size + 1) W0 w2 from by
             refine Kp.trans ?_ (hk2.sub fun b hb => ?_)
             · (repeat' (first | (with_reducible exact HK1.out) | (with_reducible exact (Kp.refl _ _)) | (with_reducible refine kp_drew ?_) | (with_reducible refine kp_alloc _ HG0.out ?_)))
             · have := HSW.out
               rcases hb with hb | rfl | rfl
               · exact Or.inl hb
               · exact Or.inr ⟨by omega, by simp; omega⟩
               · exact Or.inr ⟨by omega, by simp; omega⟩)
           try with_reducible have HXa := hide (bx_call (p := p) (q := q) hk2 (bxA (.cells #[.slice none 0 0, .slice none 0 0, .bool false] 61) HN0.out))
           try with_reducible have HXa := hide (bx_call (p := p) (q := q) hk2 (bx_alloc _ (bxA (.cells #[.slice none 0 0, .slice none 0 0, .bool false] 61) HN0.out)))
           try with_reducible have HXb := hide (bx_call (p := p) (q := q) hk2 (bxB (.cells #[.slice none 0 0, .slice none 0 0, .bool false] 61) (.cells #[.slice none 0 0, .slice none 0 0, .bool false] 61) HN0.out))
           try (have ka := box_lt HXa.out.2; have kan := Nat.ne_of_lt ka; have kam := Nat.ne_of_lt (Nat.lt_succ_of_lt ka); have kao := kan.symm; have kap := kam.symm)
           try (have kb := box_lt HXb.out.2; have kbn := Nat.ne_of_lt kb; have kbm := Nat.ne_of_lt (Nat.lt_succ_of_lt kb); have kbo := kbn.symm; have kbp := kbm.symm)
           have HSZ1 := hide HK1.out.size
           have kk := KC.out _ HK1.out
           clear hp hq hc2)
        | (go_at_call 35
           (first | (with_reducible refine (HEX2.out _ w2.heap.size _ HC1.out (by refine Kp.sub (F := fun b => F b ∨ b = w.heap.size ∨ b = w.heap.size + 1) ?_ (fun b h => Or.inl h); (repeat' (first | (with_reducible exact HK1.out) | (with_reducible exact (Kp.refl _ _)) | (with_reducible refine kp_drew ?_) | (with_reducible refine kp_alloc _ HG0.out ?_)))) (Or.inl (gx_in HFG2.out))).mono ?_) | (with_reducible refine (HEX2.out _ w2.heap.size _ (cp_alloc _ HC1.out) (by refine Kp.sub (F := fun b => F b ∨ b = w.heap.size ∨ b = w.heap.size + 1) ?_ (fun b h => Or.inl h); (repeat' (first | (with_reducible exact HK1.out) | (with_reducible exact (Kp.refl _ _)) | (with_reducible refine kp_drew ?_) | (with_reducible refine kp_alloc _ HG0.out ?_)))) (Or.inl (gx_in HFG2.out))).mono ?_) | (with_reducible refine (HEX2.out _ w2.heap.size _ (cp_alloc _ (cp_alloc _ HC1.out)) (by refine Kp.sub (F := fun b => F b ∨ b = w.heap.size ∨ b = w.heap.size + 1) ?_ (fun b h => Or.inl h); (repeat' (first | (with_reducible exact HK1.out) | (with_reducible exact (Kp.refl _ _)) | (with_reducible refine kp_drew ?_) | (with_reducible refine kp_alloc _ HG0.out ?_)))) (Or.inl (gx_in HFG2.out))).mono ?_))
           rintro e w3 ⟨p2, q2, cq, rfl, hp, hq0, hq1, hc3, hk3⟩
           have HL2 := hide hk3
           have HC2 := hide (cp_new hc3)
           have HP2 := hide (bx_p (q := q2) hk3 hp)
           have HQ20 := hide hq0
           have HQ21 := hide hq1
           have HK2 := hide (show Kp (fun b => F b ∨ b = w.heap.size ∨ b = w.heap.size + 1) W0 w3 from by
             refine Kp.trans ?_ (hk3.sub fun b hb => ?_)
             · (repeat' (first | (with_reducible exact HK1.out) | (with_reducible exact (Kp.refl _ _)) | (with_reducible refine kp_drew ?_) | (with_reducible refine kp_alloc _ HG0.out ?_)))
             · have := HSW.out
               have := HK1.out.size
               rcases hb with hb | rfl | rfl
               · exact Or.inl (Or.inl (Or.inl hb))
               · exact Or.inl (Or.inl (Or.inr ⟨by omega, by simp; omega⟩))
               · exact Or.inl (Or.inl (Or.inr ⟨by omega, by simp; omega⟩)))
           try with_reducible have HYa := hide (bx_call (p := p2) (q := q2) hk3 HXa.out)
           try with_reducible have HYa := hide (bx_call (p := p2) (q := q2) hk3 (bx_alloc _ HXa.out))
           try with_reducible have HYb := hide (bx_call (p := p2) (q := q2) hk3 HXb.out)
           try with_reducible have HYc := hide (bx_call (p := p2) (q := q2) hk3 (bx_new _ w2.heap.size w2 (.cells #[.slice none 0 0, .slice none 0 0, .bool false] 61) (Nat.le_refl _)))
           try with_reducible have HYc := hide (bx_call (p := p2) (q := q2) hk3 (bx_alloc _ (bx_new _ w2.heap.size w2 (.cells #[.slice none 0 0, .slice none 0 0, .bool false] 61) (Nat.le_refl _))))
           try with_reducible have HYd := hide (bx_call (p := p2) (q := q2) hk3 (bxC (.cells #[.slice none 0 0, .slice none 0 0, .bool false] 61) (.cells #[.slice none 0 0, .slice none 0 0, .bool false] 61) (Nat.le_refl _)))
           try with_reducible have HRP := hide (bx_call (p := p2) (q := q2) hk3 HP1.out)
           try with_reducible have HRP := hide (bx_call (p := p2) (q := q2) hk3 (bx_alloc _ HP1.out))
           try with_reducible have HRP := hide (bx_call (p := p2) (q := q2) hk3 (bx_alloc _ (bx_alloc _ HP1.out)))
           try with_reducible have HRQ := hide (bx_call (p := p2) (q := q2) hk3 HQ1.out)
           try with_reducible have HRQ := hide (bx_call (p := p2) (q := q2) hk3 (bx_alloc _ HQ1.out))
           try with_reducible have HRQ := hide (bx_call (p := p2) (q := q2) hk3 (bx_alloc _ (bx_alloc _ HQ1.out)))
           try (have ya := box3 HYa.out.2; obtain ⟨ya0, ya1, ya2⟩ := ya)
           try have yaf0 := box_froz (j := 0) HYa.out.2
           try have yaf1 := box_froz (j := 1) HYa.out.2
           try have yaf2 := box_froz (j := 2) HYa.out.2
           try (have yb := box3 HYb.out.2; obtain ⟨yb0, yb1, yb2⟩ := yb)
           try have ybf0 := box_froz (j := 0) HYb.out.2
           try have ybf1 := box_froz (j := 1) HYb.out.2
           try have ybf2 := box_froz (j := 2) HYb.out.2
           try (have yc := box3 HYc.out.2; obtain ⟨yc0, yc1, yc2⟩ := yc)
           try have ycf0 := box_froz (j := 0) HYc.out.2
           try have ycf1 := box_froz (j := 1) HYc.out.2
           try have ycf2 := box_froz (j := 2) HYc.out.2
           try (have yd := box3 HYd.out.2; obtain ⟨yd0, yd1, yd2⟩ := yd)
           try have ydf0 := box_froz (j := 0) HYd.out.2
           try have ydf1 := box_froz (j := 1) HYd.out.2
           try have ydf2 := box_froz (j := 2) HYd.out.2
           try (have la := box_lt HYa.out.2; have lan := Nat.ne_of_lt la; have lam := Nat.ne_of_lt (Nat.lt_succ_of_lt la); have lao := lan.symm; have lap := lam.symm)
           try (have lb := box_lt HYb.out.2; have lbn := Nat.ne_of_lt lb; have lbm := Nat.ne_of_lt (Nat.lt_succ_of_lt lb); have lbo := lbn.symm; have lbp := lbm.symm)
           try (have lc := box_lt HYc.out.2; have lcn := Nat.ne_of_lt lc; have lcm := Nat.ne_of_lt (Nat.lt_succ_of_lt lc); have lco := lcn.symm; have lcp := lcm.symm)
           try (have ld := box_lt HYd.out.2; have ldn := Nat.ne_of_lt ld; have ldm := Nat.ne_of_lt (Nat.lt_succ_of_lt ld); have ldo := ldn.symm; have ldp := ldm.symm)
           have HSZ2 := hide HK2.out.size
           have kk := KC.out _ HK2.out
           clear hp hq0 hq1 hc3)
        | fail)
    all_goals go_wp2_with fail
    all_goals go_meet
    all_goals
      have hs0 := HSZ1.out
      have hs1 := HSZ2.out
      have hsw := HSW.out
      refine ⟨_, _, p, q, p2, q2, cq, rfl, rfl, then_mid HC2.out HK2.out ?_ ?_ HG0.out ?_ HRP.out HRQ.out HP2.out HQ20.out HQ21.out (Or.inl (Or.inr (Or.inr rfl))) ?_⟩
      · omega
      · omega
      · intro b hb
        refine Or.inl (Or.inl (Or.inl (Or.inl ?_)))
        rcases hb with hb | rfl | rfl
        · exact Or.inl hb
        · exact Or.inr ⟨by omega, by simp; omega⟩
        · exact Or.inr ⟨by omega, by simp; omega⟩
      · first
          | (with_reducible exact tf_aa)
          | (with_reducible exact tf_bb)
          | (with_reducible exact tf_sa HYa.out)
          | (with_reducible exact tf_sa HYb.out)
          | (with_reducible exact tf_sa HYc.out)
          | (with_reducible exact tf_sa HYd.out)
          | (with_reducible exact tf_as HYa.out)
          | (with_reducible exact tf_as HYb.out)
          | (with_reducible exact tf_as HYc.out)
          | (with_reducible exact tf_as HYd.out)
          | (with_reducible exact tf_ss HYa.out HYb.out (by omega))
          | (with_reducible exact tf_ss HYa.out HYc.out (by omega))
          | (with_reducible exact tf_ss HYa.out HYd.out (by omega))
          | (with_reducible exact tf_ss HYb.out HYa.out (by omega))
          | (with_reducible exact tf_ss HYb.out HYc.out (by omega))
          | (with_reducible exact tf_ss HYb.out HYd.out (by omega))
          | (with_reducible exact tf_ss HYc.out HYa.out (by omega))
          | (with_reducible exact tf_ss HYc.out HYb.out (by omega))
          | (with_reducible exact tf_ss HYc.out HYd.out (by omega))
          | (with_reducible exact tf_ss HYd.out HYa.out (by omega))
          | (with_reducible exact tf_ss HYd.out HYb.out (by omega))
          | (with_reducible exact tf_ss HYd.out HYc.out (by omega))
  case rest =>
    obtain ⟨X, Y, p, q, p2, q2, cq, rfl, rfl, hm⟩ := hcut
    have HM := hide hm
    clear hm y0 y1 y2 y3 y4 y5 y6 y7 y8 y9 y10 y11
    have M0 := (HM.out.kp.block w.heap.size (Or.inr (Or.inl rfl))).trans HP0.out
    have M1 := hide ((HM.out.kp.block (w.heap.size + 1) (Or.inr (Or.inr rfl))).trans HP1.out)
    have MQ := HM.out.hq
    have MP2 := HM.out.hp2
    have ec : (((sts ++ [(ev : Int)]).length + 1 : Nat) : Int) = ((sts ++ [(ev : Int)]).length : Int) + 1 := by omega
    rw [ec] at MP2
    have HJ := hide (join_one (some ⟨p, 0, none⟩) (some ⟨q2, 0, none⟩) 1 1 2 cq q p2 1 1 (sts ++ [(ev : Int)]).length (sts.length + 1) false false 1 5 (-1) ((ev + 1 : Nat) : Int) base B ne (E ++ [⟨((sts ++ [(ev : Int)]).length + 1 : Nat), ((sts ++ [(ev : Int)]).length + 1 : Nat) + 1, ((ev + 1 : Nat) : Int), -1, 0, 3⟩]) (sts ++ [(ev : Int)] ++ [((ev + 1 : Nat) : Int), ((ev + 1 : Nat) : Int)]) (fun b => (F b ∨ b = w.heap.size ∨ b = w.heap.size + 1) ∨ b = X ∨ b = Y ∨ b = p ∨ b = q ∨ b = p2 ∨ b = q2) wc HM.out.cs (by simp; omega)
      (by rw [cell_of_row _ _ 0 _ _ (0, 0) MQ]; rfl) (Or.inr (Or.inr (Or.inr (Or.inr (Or.inl rfl))))) (by rw [cell_of_row _ _ 0 _ _ (0, 0) MP2]; rfl) (Or.inr (Or.inr (Or.inr (Or.inr (Or.inr (Or.inl rfl)))))) (by simp) (by simp; omega) (by simp))
    obtain ⟨y0, y1, y2, y3, y4, y5, y6, y7, y8, y9, y10, y11⟩ := box12 M0
    obtain ⟨x0, x1, x2⟩ := box3 HM.out.bx
    obtain ⟨o0, o1, o2⟩ := box3 HM.out.by_
    clear M0 MQ MP2 ec
    go_upto_region 8 with
      (go_at_call 60
       refine HJ.out.mono ?_
       rintro e w3 ⟨rfl, hc3, hk3⟩
       have HC3 := hide hc3
       have HK3 := hide hk3
       clear hc3 hk3)
    clear y0 y1 y2 y3 y4 y5 y6 y7 y8 y9 y10 y11 x0 x1 x2 o0 o1 o2
    have K := HK3.out.block
    obtain ⟨x0, x1, x2⟩ := box3 ((K X (Or.inr (Or.inl rfl))).trans HM.out.bx)
    obtain ⟨o0, o1, o2⟩ := box3 ((K Y (Or.inr (Or.inr (Or.inl rfl)))).trans HM.out.by_)
    have hp1 := (K (w.heap.size + 1) (Or.inl (Or.inr (Or.inr rfl)))).trans M1.out
    have HP3 := hide hp1
    have MP := hide ((K p (Or.inr (Or.inr (Or.inr (Or.inl rfl))))).trans HM.out.hp)
    have MQ0 := hide ((World.cell?_of_block (a := ⟨q2, 0, none⟩) (K q2 (Or.inr (Or.inr (Or.inr (Or.inr (Or.inr (Or.inr rfl)))))))).trans HM.out.hq0)
    have MQ1 := hide ((World.cell?_of_block (a := ⟨q2, 1, none⟩) (K q2 (Or.inr (Or.inr (Or.inr (Or.inr (Or.inr (Or.inr rfl)))))))).trans HM.out.hq1)
    obtain ⟨r0, r1, r2⟩ := box3 hp1
    have zf : ∀ j, w3.frozen? ⟨w.heap.size + 1, j, none⟩ = false := fun j => box_froz HP3.out
    have z0 := zf 0
    have z1 := zf 1
    have z2 := zf 2
    clear zf hp1 K
    go_wp2_with fail
    refine name_body fun wf hwf => ?_
    have hbf := three_box HP3.out (.slice (some ⟨p, 0, none⟩) 1 1) (.slice (some ⟨q2, 0, none⟩) 2 cq) (.bool false)
    rw [hwf] at hbf
    obtain ⟨v0, v1, v2⟩ := box3 hbf
    have h2 : ∀ b, b ≠ w.heap.size + 1 → wf.heap[b]? = w3.heap[b]? := fun b g1 => by
      rw [← hwf]
      exact set3_other g1
    have hcf := ((HC3.out.set (N := w.heap.size + 1) (k := 0) (Or.inl (Or.inr (Or.inr rfl))) (.slice (some ⟨p, 0, none⟩) 1 1)).set (N := w.heap.size + 1) (k := 1) (Or.inl (Or.inr (Or.inr rfl))) (.slice (some ⟨q2, 0, none⟩) 2 cq)).set (N := w.heap.size + 1) (k := 2) (Or.inl (Or.inr (Or.inr rfl))) (.bool false)
    rw [hwf] at hcf
    have hkf : Kp F w wf := by
      have g1 : ¬ F (w.heap.size + 1) := fun h => by have := HLT.out _ h; omega
      rw [← hwf]
      exact ((((HKP0.out.trans (HM.out.kp.sub fun b h => Or.inl h)).trans (HK3.out.sub fun b h => Or.inl (Or.inl h))).set g1 _).set g1 _).set g1 _
    have hne : p ≠ w.heap.size + 1 := cells_ne MP.out HP3.out (by decide)
    have hnq : q2 ≠ w.heap.size + 1 := q_ne MQ0.out HP3.out
    clear hwf hbf x0 x1 x2 o0 o1 o2 r0 r1 r2 z0 z1 z2
    refine bodyPost_ret (v := .agg #[.slice (some ⟨p, 0, none⟩) 1 1, .slice (some ⟨q2, 0, none⟩) 2 cq, .bool false]) (by simp [results, Tryz.results35, go_sem, v0, v1, v2]) rfl ?_
    refine ⟨p, q2, cq, rfl, (h2 p hne).trans MP.out, (World.cell?_of_block (a := ⟨q2, 0, none⟩) (h2 q2 hnq)).trans MQ0.out, (World.cell?_of_block (a := ⟨q2, 1, none⟩) (h2 q2 hnq)).trans MQ1.out, hcf.sub fun b h => ?_, hkf⟩
    rcases h with h | rfl | rfl
    · exact Or.inl (Or.inl h)
    · exact Or.inr (Or.inr (Or.inr (Or.inl rfl)))
    · exact Or.inr (Or.inr (Or.inr (Or.inr (Or.inr (Or.inr rfl)))))

end Go.Proofs.YtgobkbjkndfliaaGreatDoor
