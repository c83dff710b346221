/-
  Several texts in one: Resd. Each says at its head what it holds.
-/
import Derived.Test.YtdlebcijgdkfjaaGreatDoorCR35

/-
  condition.resolved: which trees are resolved conditions.
-/
namespace Go.Proofs.YtdlebcijgdkfjaaGreatDoor
open Go.RowKit

theorem resF_mk (kind at_ : Int) (name value : ByteArray) (a b c d : Int) (KA : Option Addr) (kc : Nat) (kids : List Nd) : resF (.mk kind at_ name value a b c d KA kc kids) =
  if kind = 17 ∨ kind = 18 then kids.isEmpty
  else if 19 ≤ kind ∧ kind ≤ 26 then (kids.length == 2 && (match typedK kids with | some k => decide (k ≠ 2 ∨ kind ≤ 22) | none => false))
  else if kind = 27 then (kids.length == 1 && (match typedK kids with | some k => decide (k = 0) | none => false))
  else if kind = 28 then (match kids.map resF with | [x] => x | _ => false)
  else if kind = 29 ∨ kind = 30 then (match kids.map resF with | [x, y] => x && y | _ => false)
  else decide (typeF (.mk kind at_ name value a b c d KA kc kids) = some (0, 1)) := resF_eq _
theorem dec_beq (k z : Int) : decide (k = z) = (k == z) := by
  by_cases h : k = z
  · subst h; simp
  · rw [decide_eq_false h, beq_eq_false_iff_ne.2 h]
theorem two_of {α : Type} {l : List α} (h : l.length = 2) : ∃ x y, l = [x, y] := by
  match l, h with
  | [x, y], _ => exact ⟨x, y, rfl⟩
theorem empty_len (l : List Nd) : ((l.length : Int) == 0) = l.isEmpty := by
  cases l with
  | nil => rfl
  | cons x l => simp; omega

def ResC (n : Nd) : Prop := ∀ w : World, TreesAt w (Lo w.heap.size) n.KA n.kids → Calls Tryz.prog 59 #[.agg (cNd n).toArray] w (RetV (.bool (resF n)) w)

set_option maxRecDepth 100000 in
set_option maxHeartbeats 8000000 in
theorem resolved_any (n : Nd) : ResC n := by
  induction n using Nd.ind with
  | h n ih =>
  intro w ht
  have hself := type_any n
  have IH := hide ih
  clear ih
  obtain ⟨kind, at_, name, value, a, b, c, d, KA, kc, kids⟩ := n
  unfold Nd.KA Nd.kids at ht
  unfold cNd
  have hl := ht.len
  obtain ⟨W0, hW0⟩ : ∃ W0, w.alloc (.cells #[.int .i64 kind, .int .i64 at_, .string name, .string value, .int .i64 a, .int .i64 b, .int .i64 c, .int .i64 d, .slice KA kids.length kc] 32) = W0 := ⟨_, rfl⟩
  have g0 := new_at hW0
  have hb0 : Below w.heap.size w W0 := by rw [← hW0]; exact (Below.refl _ _).alloc (Nat.le_refl _) _
  have HT := hide (ht.grow hb0)
  have hself := hself W0 HT.out
  unfold cNd at hself
  have HSELF := hide hself
  have HG0 := hide g0
  have HB0 := hide hb0
  have HW0 := hide hW0
  obtain ⟨y0, y1, y2, y3, y4, y5, y6, y7, y8⟩ := box9 g0
  clear ht g0 hb0 hW0 hself
  have HQ := hide (show ∀ (o : Bool) (wr : World), resF (.mk kind at_ name value a b c d KA kc kids) = o → Below W0.heap.size W0 wr → RetV (.bool (resF (.mk kind at_ name value a b c d KA kc kids))) w (.returned (.bool o)) wr from fun o wr h hb => ⟨by rw [h], bstep HB0.out hb⟩)
  have HEQ := hide (resF_mk kind at_ name value a b c d KA kc kids)
  go_enter Tryz.func59, Tryz.ntmps59
  go_upto_region 1 with (fail)
  rw [HW0.out]
  by_cases k1 : kind = 17 ∨ kind = 18
  · rw [if_pos k1] at HEQ
    have HR := hide (HQ.out _ W0 (HEQ.out.trans (empty_len kids).symm) (Below.refl _ _))
    clear HQ HEQ HSELF
    rcases k1 with rfl | rfl
    · go_wp2_with fail
      go_ret
      exact HR.out
    · go_wp2_with fail
      go_ret
      exact HR.out
  rw [if_neg k1] at HEQ
  have T17 : (kind == 17) = false := beq_eq_false_iff_ne.2 fun h => k1 (.inl h)
  have T18 : (kind == 18) = false := beq_eq_false_iff_ne.2 fun h => k1 (.inr h)
  by_cases kc1 : 19 ≤ kind ∧ kind ≤ 26
  · rw [if_pos kc1] at HEQ
    have T19 : decide (19 ≤ kind) = true := decide_eq_true kc1.1
    have T26 : decide (kind ≤ 26) = true := decide_eq_true kc1.2
    by_cases h2 : kids.length = 2
    · have T2 : ((kids.length : Int) != 2) = false := by simp [h2]
      have HTD := hide (typed_any KA kc kids W0 HT.out (by intro e; rw [e] at h2; cases h2))
      have h2' : (kids.length == 2) = true := by simp [h2]
      rw [h2', Bool.true_and] at HEQ
      clear h2' h2 k1 kc1
      cases htk : typedK kids with
      | none =>
        rw [htk] at HTD HEQ
        unfold typdV at HTD
        dsimp only at HTD HEQ
        have HR := hide (fun wr hb => HQ.out false wr HEQ.out hb)
        clear HQ HEQ HSELF htk
        go_wp2_with (go_at_call 106; refine HTD.out.mono ?_; rintro e w2 ⟨rfl, hb2⟩; have HB2 := hide hb2; clear hb2)
        go_ret
        exact HR.out _ HB2.out
      | some k =>
        rw [htk] at HTD HEQ
        unfold typdV at HTD
        dsimp only at HTD HEQ
        by_cases q1 : k = 2
        · subst q1
          have HR := hide (fun wr hb => HQ.out (decide (kind ≤ 22)) wr (HEQ.out.trans (by simp)) hb)
          clear HQ HEQ HSELF htk
          go_wp2_with (go_at_call 106; refine HTD.out.mono ?_; rintro e w2 ⟨rfl, hb2⟩; have HB2 := hide hb2; clear hb2)
          go_ret
          exact HR.out _ HB2.out
        · have T3 : (k != 2) = true := by simp [q1]
          have HR := hide (fun wr hb => HQ.out true wr (HEQ.out.trans (by simp [q1])) hb)
          clear HQ HEQ HSELF htk q1
          go_wp2_with (go_at_call 106; refine HTD.out.mono ?_; rintro e w2 ⟨rfl, hb2⟩; have HB2 := hide hb2; clear hb2)
          go_ret
          exact HR.out _ HB2.out
    · have T2 : ((kids.length : Int) != 2) = true := by simp; omega
      have HR := hide (HQ.out false W0 (HEQ.out.trans (by simp [h2])) (Below.refl _ _))
      clear HQ HEQ HSELF k1 kc1 h2
      go_wp2_with fail
      go_ret
      exact HR.out
  rw [if_neg kc1] at HEQ
  by_cases k27 : kind = 27
  · subst k27
    rw [if_pos rfl] at HEQ
    by_cases h2 : kids.length = 1
    · have T2 : ((kids.length : Int) != 1) = false := by simp [h2]
      have HTD := hide (typed_any KA kc kids W0 HT.out (by intro e; rw [e] at h2; cases h2))
      have h2' : (kids.length == 1) = true := by simp [h2]
      rw [h2', Bool.true_and] at HEQ
      clear h2' h2 k1 kc1
      cases htk : typedK kids with
      | none =>
        rw [htk] at HTD HEQ
        unfold typdV at HTD
        dsimp only at HTD HEQ
        have HR := hide (fun wr hb => HQ.out false wr HEQ.out hb)
        clear HQ HEQ HSELF htk
        go_wp2_with (go_at_call 106; refine HTD.out.mono ?_; rintro e w2 ⟨rfl, hb2⟩; have HB2 := hide hb2; clear hb2)
        go_ret
        exact HR.out _ HB2.out
      | some k =>
        rw [htk] at HTD HEQ
        unfold typdV at HTD
        dsimp only at HTD HEQ
        have HR := hide (fun wr hb => HQ.out (k == 0) wr (HEQ.out.trans (dec_beq k 0)) hb)
        clear HQ HEQ HSELF htk
        go_wp2_with (go_at_call 106; refine HTD.out.mono ?_; rintro e w2 ⟨rfl, hb2⟩; have HB2 := hide hb2; clear hb2)
        go_ret
        exact HR.out _ HB2.out
    · have T2 : ((kids.length : Int) != 1) = true := by simp; omega
      have HR := hide (HQ.out false W0 (HEQ.out.trans (by simp [h2])) (Below.refl _ _))
      clear HQ HEQ HSELF k1 kc1 h2
      go_wp2_with fail
      go_ret
      exact HR.out
  rw [if_neg k27] at HEQ
  by_cases k28 : kind = 28
  · subst k28
    rw [if_pos rfl] at HEQ
    by_cases h2 : kids.length = 1
    · obtain ⟨x, rfl⟩ : ∃ x, kids = [x] := List.length_eq_one_iff.1 h2
      have HR := hide (fun wr hb => HQ.out (resF x) wr HEQ.out hb)
      obtain ⟨bk, ok, rfl, hbk, hc⟩ := HT.out.row.at_ (k := 0) (by simp)
      have hcall := IH.out x (by simp [Nd.kids]) W0 (HT.out.each x (by simp))
      have hx0 : [x][0] = x := rfl
      rw [hx0] at hc
      clear HQ HEQ HSELF k1 kc1 h2 hx0
      generalize resF x = rx at *
      obtain ⟨m1, m2, m3, m4, m5, m6, m7, m8, mK, mc, ml⟩ := x
      unfold cNd at hc hcall
      obtain ⟨c0, c1, c2, c3, c4, c5, c6, c7, c8⟩ := nine hc
      simp only [Nat.zero_mul, Nat.add_zero] at c0 c1 c2 c3 c4 c5 c6 c7 c8
      have HC := hide hcall
      clear hc hcall
      go_wp2_with (go_at_call 59; refine HC.out.mono ?_; rintro e w2 ⟨rfl, hb2⟩; have HB2 := hide hb2; clear hb2)
      go_ret
      exact HR.out _ HB2.out
    · have T2 : ((kids.length : Int) == 1) = false := by simp; omega
      have HR := hide (HQ.out false W0 (HEQ.out.trans (by
        cases kids with
        | nil => rfl
        | cons x r => cases r with
          | nil => exact absurd rfl h2
          | cons _ _ => rfl)) (Below.refl _ _))
      clear HQ HEQ HSELF k1 kc1 h2
      go_wp2_with fail
      go_ret
      exact HR.out
  rw [if_neg k28] at HEQ
  by_cases k29 : kind = 29 ∨ kind = 30
  · rw [if_pos k29] at HEQ
    by_cases h2 : kids.length = 2
    · obtain ⟨x, y, rfl⟩ : ∃ x y, kids = [x, y] := two_of h2
      have HR := hide (fun wr hb => HQ.out (resF x && resF y) wr HEQ.out hb)
      obtain ⟨bk, ok, rfl, hbk, hc⟩ := HT.out.row.at_ (k := 0) (by simp)
      obtain ⟨bk', ok', e, hbk', hd⟩ := HT.out.row.at_ (k := 1) (by simp)
      injection e with e
      injection e with e1 e2
      subst e1 e2
      have hx0 : [x, y][0] = x := rfl
      have hy0 : [x, y][1] = y := rfl
      rw [hx0] at hc
      rw [hy0] at hd
      have hcx := IH.out x (by simp [Nd.kids]) W0 (HT.out.each x (by simp))
      have HCY := hide (fun wr (hb : Below W0.heap.size W0 wr) => IH.out y (by simp [Nd.kids]) wr ((HT.out.each y (by simp)).grow hb))
      clear HQ HEQ HSELF k1 kc1 h2 hx0 hy0
      generalize resF x = rx at *
      generalize resF y = ry at *
      obtain ⟨m1, m2, m3, m4, m5, m6, m7, m8, mK, mc, ml⟩ := x
      obtain ⟨n1, n2, n3, n4, n5, n6, n7, n8, nK, nc, nl⟩ := y
      unfold cNd at hc hd hcx HCY
      obtain ⟨c0, c1, c2, c3, c4, c5, c6, c7, c8⟩ := nine hc
      obtain ⟨d0, d1, d2, d3, d4, d5, d6, d7, d8⟩ := nine hd
      simp only [Nat.zero_mul, Nat.one_mul, Nat.add_zero] at c0 c1 c2 c3 c4 c5 c6 c7 c8 d0 d1 d2 d3 d4 d5 d6 d7 d8
      have HC := hide hcx
      clear hc hd hcx
      have hT29 : (kind == 29) = true ∨ ((kind == 29) = false ∧ (kind == 30) = true) := by rcases k29 with rfl | rfl <;> simp
      cases rx with
      | false =>
        rcases k29 with rfl | rfl
        all_goals
          clear hT29
          go_wp2_with (go_at_call 59; refine HC.out.mono ?_; rintro e w2 ⟨rfl, hb2⟩; have HB2 := hide hb2; clear hb2)
          go_ret
          exact HR.out _ HB2.out
      | true =>
        rcases k29 with rfl | rfl
        all_goals
          clear hT29
          go_wp2_with (go_at_call 59; first | (refine (HCY.out _ HB2.out).mono ?_; rintro e w3 ⟨rfl, hb3⟩; have HB3 := hide hb3; clear hb3) | (refine HC.out.mono ?_; rintro e w2 ⟨rfl, hb2⟩; have HB2 := hide hb2; clear hb2; obtain ⟨u0, u1, u2, u3, u4, u5, u6, u7, u8⟩ := box9 ((HB2.out.block _ (box_lt HG0.out)).trans HG0.out); (have v0 := cell_later HB2.out d0; have v1 := cell_later HB2.out d1; have v2 := cell_later HB2.out d2; have v3 := cell_later HB2.out d3; have v4 := cell_later HB2.out d4; have v5 := cell_later HB2.out d5; have v6 := cell_later HB2.out d6; have v7 := cell_later HB2.out d7; have v8 := cell_later HB2.out d8); clear y0 y1 y2 y3 y4 y5 y6 y7 y8 c0 c1 c2 c3 c4 c5 c6 c7 c8 d0 d1 d2 d3 d4 d5 d6 d7 d8))
          go_ret
          exact HR.out _ (bstep HB2.out HB3.out)
    · have T2 : ((kids.length : Int) == 2) = false := by simp; omega
      have HR := hide (HQ.out false W0 (HEQ.out.trans (by
        cases kids with
        | nil => rfl
        | cons x r => cases r with
          | nil => rfl
          | cons y s => cases s with
            | nil => exact absurd rfl h2
            | cons _ _ => rfl)) (Below.refl _ _))
      clear HQ HEQ HSELF k1 kc1 h2
      rcases k29 with rfl | rfl
      all_goals
        go_wp2_with fail
        go_ret
        exact HR.out
  rw [if_neg k29] at HEQ
  have T27 : (kind == 27) = false := beq_eq_false_iff_ne.2 k27
  have T28 : (kind == 28) = false := beq_eq_false_iff_ne.2 k28
  have T29 : (kind == 29) = false := beq_eq_false_iff_ne.2 fun h => k29 (.inl h)
  have T30 : (kind == 30) = false := beq_eq_false_iff_ne.2 fun h => k29 (.inr h)
  have hT : decide (19 ≤ kind) = false ∨ (decide (19 ≤ kind) = true ∧ decide (kind ≤ 26) = false) := by
    by_cases h : 19 ≤ kind
    · exact .inr ⟨decide_eq_true h, decide_eq_false fun h2 => kc1 ⟨h, h2⟩⟩
    · exact .inl (decide_eq_false h)
  clear k1 kc1 k27 k28 k29
  cases hty : typeF (.mk kind at_ name value a b c d KA kc kids) with
  | none =>
    rw [hty] at HEQ HSELF
    unfold typV at HSELF
    dsimp only at HSELF
    have HR := hide (fun wr hb => HQ.out false wr HEQ.out hb)
    clear HQ HEQ hty
    rcases hT with T19 | ⟨T19, T26⟩
    all_goals
      go_wp2_with (go_at_call 48; refine HSELF.out.mono ?_; rintro e w2 ⟨rfl, hb2⟩; have HB2 := hide hb2; clear hb2)
      go_ret
      exact HR.out _ HB2.out
  | some p =>
    obtain ⟨k, v⟩ := p
    rw [hty] at HEQ HSELF
    unfold typV at HSELF
    dsimp only at HSELF
    by_cases q0 : k = 0
    · subst q0
      have HR := hide (fun wr hb => HQ.out (v == 1) wr (HEQ.out.trans ((by simp : decide (some (0, v) = some ((0 : Int), (1 : Int))) = decide (v = 1)).trans (dec_beq v 1))) hb)
      clear HQ HEQ hty
      rcases hT with T19 | ⟨T19, T26⟩
      all_goals
        go_wp2_with (go_at_call 48; refine HSELF.out.mono ?_; rintro e w2 ⟨rfl, hb2⟩; have HB2 := hide hb2; clear hb2)
        go_ret
        exact HR.out _ HB2.out
    · have T0 : (k == 0) = false := beq_eq_false_iff_ne.2 q0
      have HR := hide (fun wr hb => HQ.out false wr (HEQ.out.trans (by simp [q0])) hb)
      clear HQ HEQ hty q0
      rcases hT with T19 | ⟨T19, T26⟩
      all_goals
        go_wp2_with (go_at_call 48; refine HSELF.out.mono ?_; rintro e w2 ⟨rfl, hb2⟩; have HB2 := hide hb2; clear hb2)
        go_ret
        exact HR.out _ HB2.out

end Go.Proofs.YtdlebcijgdkfjaaGreatDoor
