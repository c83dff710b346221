/-
  Several texts in one: CRep. Each says at its head what it holds.
-/
import Derived.Test.YtgobkbjkndfliaaGreatDoorAP22
import Derived.Test.YtgobkbjkndfliaaGreatDoorAP25
import Derived.Deep.CutBlock

/-
  compiler.repeat at the repetition of the law's example.
-/
namespace Go.Proofs.YtgobkbjkndfliaaGreatDoor
open Go.RowKit

theorem chain4 (w1 : World) (a b c d : Obj) {V : World} (hV : (((w1.alloc a).alloc b).alloc c).alloc d = V) : V.heap[w1.heap.size]? = some a ∧ V.heap[w1.heap.size + 1]? = some b ∧ V.heap[w1.heap.size + 1 + 1]? = some c ∧ V.heap[w1.heap.size + 1 + 1 + 1]? = some d ∧ Below w1.heap.size w1 V ∧ V.heap.size = w1.heap.size + 1 + 1 + 1 + 1 := by
  obtain ⟨h1, h2, h3, h4, h5⟩ := chain3 w1 a b c rfl
  have h6 := heap_alloc_new (((w1.alloc a).alloc b).alloc c) d
  rw [h5, hV] at h6
  have hb : Below (((w1.alloc a).alloc b).alloc c).heap.size (((w1.alloc a).alloc b).alloc c) V := by rw [← hV]; exact (Below.refl _ _).alloc (Nat.le_refl _) _
  refine ⟨(hb.block _ (by omega)).trans h1, (hb.block _ (by omega)).trans h2, (hb.block _ (by omega)).trans h3, h6, bstep h4 hb, ?_⟩
  rw [← hV]
  simp [h5]
/-- what repeat answers: its first state, and both as the last ones -/
def RepE (s base B ne : Nat) (E : List Edg) (sts : List Int) (F : Nat → Prop) (w : World) (e : Ending) (w' : World) : Prop :=
  ∃ p q cq : Nat, e = .returned (.agg #[.slice (some ⟨p, 0, none⟩) 1 1, .slice (some ⟨q, 0, none⟩) 2 cq, .bool false]) ∧ w'.heap[p]? = some (.cells #[.int .i64 ((s + 1 : Nat) : Int)] 3 (0, 0)) ∧ w'.cell? ⟨q, 0, none⟩ = some (.int .i64 ((s + 1 : Nat) : Int)) ∧ w'.cell? ⟨q, 1, none⟩ = some (.int .i64 ((s + 2 : Nat) : Int)) ∧ CSt w' base B ne E sts (fun b => F b ∨ b = p ∨ b = q) ∧ Kp F w w'

/-- an append whose answer is known, at a step of a region that keeps its order -/
theorem wpList_app_eq {P : Program} {ops : Array Oper} {rest : List Oper} {o : Oper} {a : Act} {Q : Exit → Act → World → Prop} {w w' : World} {r v u : Value} {t : TypeId} (hgd : o.guard = none) (s x : Operand)
    (ho : o.op = .call { callee := .builtin .append, args := #[s, x], argTypes := #[t, t] }) (hs : a.eval s = v) (hx : a.eval x = u) (hrun : (Builtin.append_ #[t, t] o.type #[v, u]).run P w = .ok r w') (h : wpList P ops Q rest (a.put o.dst r) w') :
    wpList P ops Q (o :: rest) a w := by
  refine wpList_plain hgd fun K hK => ?_
  unfold Oper.wp execOp
  simp only [ho, resolve, invoke, builtin, Sem.run_bind, Sem.run_pure, Result.andThen_ok, List.map_toArray, List.map_cons, List.map_nil, hs, hx, hrun]
  exact hK _ _ h
theorem f_of {F : Nat → Prop} {g b : Nat} (h : F g) (hb : ob (some ⟨g, 0, none⟩) = some b) : F b := by
  rw [ob_some] at hb
  injection hb with hb
  rw [← hb]
  exact h
theorem cells_ne {w : World} {a b : Nat} {x y : Array Value} {t u : TypeId} {f g : Nat × Nat} (h : w.heap[a]? = some (.cells x t f)) (k : w.heap[b]? = some (.cells y u g)) (ht : t ≠ u) : a ≠ b := by
  rintro rfl
  rw [h] at k
  injection k with k
  injection k with _ k
  exact ht k
theorem box12_of {w : World} {base g cap : Nat} {xs : List Value} (h : w.ownsRow base 65 12 (.slice (some ⟨g, 0, none⟩) 1 cap) 1 xs) (j : Nat) (hj : j < 12) : w.cell? ⟨g, j, none⟩ = xs[j]? := h.cellAt j (by omega)

set_option maxRecDepth 100000 in
set_option maxHeartbeats 4000000 in
theorem rep_run (A3 A2 : Option Addr) (c3 c2 g2 c2' ev kb : Nat) (base B ne : Nat) (E : List Edg) (sts : List Int) (F : Nat → Prop) (w : World) (hc : CSt w base B ne E sts F)
    (hr : w.ownsRow kb 65 12 (.slice (some ⟨g2, 0, none⟩) 1 c2') 1 (cNumEv 38 A2 c2 ev)) (hg : F g2) (hs : sts.length ≤ 900) (hE : E.length ≤ 900) :
    Calls Tryz.prog 61 #[.pointer (some ⟨B, 0, none⟩), .agg (cNumRep A3 c3 g2 c2').toArray] w (RepE sts.length base B ne (E ++ [⟨(sts.length + 1 : Nat), (sts.length + 1 : Nat) + 1, ev, -1, 0, 3⟩]) (sts ++ [(ev : Int), (ev : Int)]) F w) := by
  unfold cNumRep
  have HCR := hide hc
  have HROW := hide hr
  have HFG := hide hg
  clear hc hr hg
  go_enter Tryz.func61, Tryz.ntmps61
  go_upto_region 2 with (fail)
  obtain ⟨W0, hW0⟩ : ∃ W0, (((w.alloc (.cells #[.int .i64 47, .int .i64 0, .string ByteArray.empty, .string ByteArray.empty, .int .i64 1, .int .i64 2, .int .i64 0, .int .i64 3, .slice A3 1 c3, .int .i64 0, .int .i64 (-1), .slice (some ⟨g2, 0, none⟩) 1 c2'] 65)).alloc (.cells #[.slice none 0 0, .slice none 0 0, .bool false] 61)).alloc (.cells #[.slice none 0 0, .slice none 0 0, .bool false] 61)).alloc (.cells #[.slice none 0 0, .slice none 0 0, .bool false] 61) = W0 := ⟨_, rfl⟩
  rw [hW0]
  obtain ⟨p0, p1, p2, p3, hbW, hsW⟩ := chain4 _ _ _ _ _ hW0
  have hltw := HCR.out.lt
  have HC0 := hide (HCR.out.new (F' := fun b => F b ∨ (w.heap.size ≤ b ∧ b < w.heap.size + 1 + 1 + 1 + 1)) hbW (fun b hb => hb.imp_right fun h => by omega))
  have HKP0 := hide (show Kp F w W0 from Kp.of hbW fun b hb => hltw.1 b hb)
  have HROW0 := hide (own_block HROW.out fun b hb => hbW.block b (own_ob HROW.out b hb).2)
  have n0 := box12_of HROW0.out 0 (by omega)
  have n1 := box12_of HROW0.out 1 (by omega)
  have n2 := box12_of HROW0.out 2 (by omega)
  have n3 := box12_of HROW0.out 3 (by omega)
  have n4 := box12_of HROW0.out 4 (by omega)
  have n5 := box12_of HROW0.out 5 (by omega)
  have n6 := box12_of HROW0.out 6 (by omega)
  have n7 := box12_of HROW0.out 7 (by omega)
  have n8 := box12_of HROW0.out 8 (by omega)
  have n9 := box12_of HROW0.out 9 (by omega)
  have n10 := box12_of HROW0.out 10 (by omega)
  have n11 := box12_of HROW0.out 11 (by omega)
  simp only [cNumEv, List.getElem?_cons_zero, List.getElem?_cons_succ] at n0 n1 n2 n3 n4 n5 n6 n7 n8 n9 n10 n11
  obtain ⟨y0, y1, y2, y3, y4, y5, y6, y7, y8, y9, y10, y11⟩ := box12 p0
  have HEX := hide (exp_ev 38 A2 c2 ev (.inr rfl) base B ne E sts _ W0 HC0.out (by omega))
  have HP0 := hide p0
  have HP1 := hide p1
  have HP2 := hide p2
  have HP3 := hide p3
  have HSW := hide hsW
  clear hW0 hltw hbW hsW p0 p1 p2 p3
  have HROWS := hide (show ∀ wx : World, Kp F w wx → wx.ownsRow kb 65 12 (.slice (some ⟨g2, 0, none⟩) 1 c2') 1 (cNumEv 38 A2 c2 ev) from fun wx h => own_block HROW.out fun b hb => h.block b (f_of HFG.out hb))
  clear HROW HROW0
  go_wp2_with fail
  refine wp_loop_rounds 3 ?_
  rw [rounds_succ]
  go_upto_block 1 with (fail)
  go_cut [13] (fun _ wx => ∃ p q gl cl : Nat, wx.heap[w.heap.size]? = some (.cells #[.int .i64 47, .int .i64 0, .string ByteArray.empty, .string ByteArray.empty, .int .i64 1, .int .i64 2, .int .i64 0, .int .i64 3, .slice A3 1 c3, .int .i64 0, .int .i64 (-1), .slice (some ⟨g2, 0, none⟩) 1 c2'] 65 (0, 0)) ∧ wx.heap[w.heap.size + 1]? = some (.cells #[.slice none 0 0, .slice none 0 0, .bool false] 61 (0, 0)) ∧ wx.heap[w.heap.size + 1 + 1]? = some (.cells #[.slice (some ⟨p, 0, none⟩) 1 1, .slice (some ⟨gl, 0, none⟩) 1 cl, .bool false] 61 (0, 0)) ∧ wx.heap[w.heap.size + 1 + 1 + 1]? = some (.cells #[.slice (some ⟨p, 0, none⟩) 1 1, .slice (some ⟨q, 0, none⟩) 1 1, .bool false] 61 (0, 0)) ∧ wx.heap[p]? = some (.cells #[(.int .i64 ((sts.length + 1 : Nat) : Int))] 3 (0, 0)) ∧ wx.heap[q]? = some (.cells #[(.int .i64 ((sts.length + 1 : Nat) : Int))] 3 (0, 0)) ∧ wx.ownsRow (w.heap.size + 1 + 1 + 1 + 1) 3 1 (.slice (some ⟨gl, 0, none⟩) 1 cl) 1 [(.int .i64 ((sts.length + 1 : Nat) : Int))] ∧ CSt wx base B ne E (sts ++ [(ev : Int)]) (fun b => (F b ∨ b = p ∨ b = q ∨ b = gl) ∨ (w.heap.size ≤ b ∧ b < w.heap.size + 1 + 1 + 1 + 1)) ∧ Kp F w wx ∧ p < gl ∧ w.heap.size + 1 + 1 + 1 + 1 ≤ gl)
  case first =>
    go_upto_region 6 with
      (go_at_call 35
       refine HEX.out.mono ?_
       rintro e w2 ⟨p, q, rfl, hp, hq, hc2, hk2⟩
       have HPP := hide hp
       have HQQ := hide hq
       have HC2 := hide hc2
       have HK2 := hide hk2
       clear hp hq hc2 hk2)
    obtain ⟨W2, hW2⟩ : ∃ W2, w2.alloc (.cells #[.slice (some ⟨p, 0, none⟩) 1 1, .slice (some ⟨q, 0, none⟩) 1 1, .bool false] 61) = W2 := ⟨_, rfl⟩
    rw [hW2]
    have gX := new_at hW2
    have hb2 : Below w2.heap.size w2 W2 := by rw [← hW2]; exact (Below.refl _ _).alloc (Nat.le_refl _) _
    have hz2 : W2.heap.size = w2.heap.size + 1 := by rw [← hW2]; simp
    have hk0 := HK2.out
    have hsw := HSW.out
    have hzw := hk0.size
    have a0 := (hk0.block w.heap.size (Or.inr (by omega))).trans HP0.out
    have a1 := (hk0.block (w.heap.size + 1) (Or.inr (by omega))).trans HP1.out
    have a2 := (hk0.block (w.heap.size + 1 + 1) (Or.inr (by omega))).trans HP2.out
    have a3 := (hk0.block (w.heap.size + 1 + 1 + 1) (Or.inr (by omega))).trans HP3.out
    have hpl := box_lt HPP.out
    have hql := box_lt HQQ.out
    have hpn : p ≠ w.heap.size + 1 + 1 := cells_ne HPP.out a2 (by decide)
    have hqn : q ≠ w.heap.size + 1 + 1 := cells_ne HQQ.out a2 (by decide)
    have hpn3 : p ≠ w.heap.size + 1 + 1 + 1 := cells_ne HPP.out a3 (by decide)
    have hqn3 : q ≠ w.heap.size + 1 + 1 + 1 := cells_ne HQQ.out a3 (by decide)
    have A0 := hide ((hb2.block _ (by omega)).trans a0)
    have A1 := hide ((hb2.block _ (by omega)).trans a1)
    have A2' := hide ((hb2.block _ (by omega)).trans a2)
    have A3' := hide ((hb2.block _ (by omega)).trans a3)
    have APQ := hide (show p < w2.heap.size ∧ q < w2.heap.size ∧ p ≠ w.heap.size + 1 + 1 ∧ q ≠ w.heap.size + 1 + 1 ∧ p ≠ w.heap.size + 1 + 1 + 1 ∧ q ≠ w.heap.size + 1 + 1 + 1 ∧ W2.heap.size = w2.heap.size + 1 ∧ w.heap.size + 1 + 1 + 1 + 1 ≤ w2.heap.size from ⟨hpl, hql, hpn, hqn, hpn3, hqn3, hz2, by omega⟩)
    have HB2 := hide hb2
    have HGX := hide gX
    clear hW2 gX hb2 hz2 hk0 hsw hzw a0 a1 a2 a3 hpl hql hpn hqn hpn3 hqn3 n0 n1 n2 n3 n4 n5 n6 n7 n8 n9 n10 n11 y0 y1 y2 y3 y4 y5 y6 y7 y8 y9 y10 y11
    obtain ⟨y0, y1, y2, y3, y4, y5, y6, y7, y8, y9, y10, y11⟩ := box12 A0.out
    obtain ⟨x0, x1, x2⟩ := box3 HGX.out
    obtain ⟨o0, o1, o2⟩ := box3 A2'.out
    have zf0 := box_froz (j := 0) A2'.out
    have hNX : ¬ w.heap.size + 1 + 1 = w2.heap.size := by have := APQ.out; omega
    go_upto_region 10 with (fail)
    obtain ⟨W3, hW3⟩ : ∃ W3, W2.setCell ⟨w.heap.size + 1 + 1, 0, none⟩ (.slice (some ⟨p, 0, none⟩) 1 1) = W3 := ⟨_, rfl⟩
    rw [hW3]
    have H32 := hide (show ∀ b, b ≠ w.heap.size + 1 + 1 → W3.heap[b]? = W2.heap[b]? from fun b hb => by rw [← hW3]; exact Below.heap_setCell _ _ _ _ (by simpa using hb))
    have H3S := hide (show W3.heap.size = W2.heap.size from by rw [← hW3]; simp)
    have HK3 := hide (show Kp (fun b => b ≠ w.heap.size + 1 + 1) W2 W3 from by rw [← hW3]; exact (Kp.refl _ _).set (fun h => h rfl) _)
    have b2 := set_cells (k := 0) (v := .slice (some ⟨p, 0, none⟩) 1 1) A2'.out
    rw [hW3] at b2
    simp only [List.setIfInBounds_toArray, List.set] at b2
    have B2 := hide b2
    have hq3 := (H32.out q APQ.out.2.2.2.1).trans ((HB2.out.block q APQ.out.2.1).trans HQQ.out)
    have hx3 := (H32.out w2.heap.size (by have := APQ.out; omega)).trans HGX.out
    have HX3 := hide hx3
    obtain ⟨i0, hi0, hz0, hz1, hz2⟩ := info_parts infoIntC
    obtain ⟨A', cl, W4, hap, how, hgr, hplc, gl, rfl⟩ := app_at 43 Tryz.underlying43 hi0 hz0 hz1 hz2 rfl (by decide) (World.ownsRow_nil W3 (w.heap.size + 1 + 1 + 1 + 1) 3 1) [.int .i64 ((sts.length + 1 : Nat) : Int)] rfl (by simp [Value.oneCell']) (by omega) (by omega) (by have := APQ.out; have := H3S.out; omega) ⟨q, 0, none⟩ (fun j u hu => by rw [addr_add, Nat.zero_add, cell_of_row W3 _ j _ _ (0, 0) hq3]; simpa using hu)
    have hap2 : (Builtin.append_ #[43, 43] 43 #[.slice none 0 0, .slice (some ⟨q, 0, none⟩) 1 1]).run Tryz.prog W3 = .ok (.slice (some ⟨gl, 0, none⟩) 1 cl) W4 := hap
    have HGL := hide (show gl = W3.heap.size from by
      rcases hplc with e | e
      · cases e
      · rw [ob_some] at e; injection e)
    have H43 := hide (show ∀ b, b < W3.heap.size → W4.heap[b]? = W3.heap[b]? from fun b hb => hgr.block b hb (fun e => by cases e))
    have HK4 := hide (show Kp (fun b => b < W3.heap.size) W3 W4 from ⟨hgr.os, hgr.tape, hgr.output, hgr.size, fun b hb => H43.out b hb⟩)
    have HOW := hide how
    have hb24 := (H43.out _ (box_lt b2)).trans b2
    have HB24 := hide hb24
    clear hap hi0 hz0 hz1 hz2 how hgr hplc hq3 b2 hW3 x0 x1 x2 o0 o1 o2 zf0
    obtain ⟨x0, x1, x2⟩ := box3 hx3
    obtain ⟨o0, o1, o2⟩ := box3 B2.out
    have zf1 := box_froz (j := 1) hb24
    obtain ⟨v0, v1, v2⟩ := box3 hb24
    clear hx3 hb24
    go_upto_region 11 with (at_builtin; refine wpList_app_eq rfl (.tmp 46) (.tmp 48) rfl rfl rfl hap2 ?_)
    obtain ⟨W5, hW5⟩ : ∃ W5, W4.setCell ⟨w.heap.size + 1 + 1, 1, none⟩ (.slice (some ⟨gl, 0, none⟩) 1 cl) = W5 := ⟨_, rfl⟩
    rw [hW5]
    have H54 := hide (show ∀ b, b ≠ w.heap.size + 1 + 1 → W5.heap[b]? = W4.heap[b]? from fun b hb => by rw [← hW5]; exact Below.heap_setCell _ _ _ _ (by simpa using hb))
    have H5S := hide (show W5.heap.size = W4.heap.size from by rw [← hW5]; simp)
    have HK5 := hide (show Kp (fun b => b ≠ w.heap.size + 1 + 1) W4 W5 from by rw [← hW5]; exact (Kp.refl _ _).set (fun h => h rfl) _)
    have b2 := set_cells (k := 1) (v := .slice (some ⟨gl, 0, none⟩) 1 cl) HB24.out
    rw [hW5] at b2
    simp only [List.setIfInBounds_toArray, List.set] at b2
    have B5 := hide b2
    have hz := APQ.out
    have hz3 := H3S.out
    have H52 := hide (show ∀ b, b < W2.heap.size → b ≠ w.heap.size + 1 + 1 → W5.heap[b]? = W2.heap[b]? from fun b h1 h2 => ((H54.out b h2).trans (H43.out b (by omega))).trans (H32.out b h2))
    have hx5 := (H52.out w2.heap.size (by omega) (by omega)).trans HGX.out
    have ha5 := (H52.out (w.heap.size + 1 + 1 + 1) (by omega) (by omega)).trans A3'.out
    have HA5 := hide ha5
    clear hz hz3 hW5 b2 hap2 x0 x1 x2 o0 o1 o2 zf1 v0 v1 v2
    obtain ⟨x0, x1, x2⟩ := box3 hx5
    obtain ⟨o0, o1, o2⟩ := box3 ha5
    have zf : ∀ j, W5.frozen? ⟨w.heap.size + 1 + 1 + 1, j, none⟩ = false := fun j => box_froz HA5.out
    have z0 := zf 0
    have z1 := zf 1
    have z2 := zf 2
    clear zf hx5 ha5
    go_wp2_with fail
    go_meet
    obtain ⟨W6, hW6⟩ : ∃ W6, ((W5.setCell ⟨w.heap.size + 1 + 1 + 1, 0, none⟩ (.slice (some ⟨p, 0, none⟩) 1 1)).setCell ⟨w.heap.size + 1 + 1 + 1, 1, none⟩ (.slice (some ⟨q, 0, none⟩) 1 1)).setCell ⟨w.heap.size + 1 + 1 + 1, 2, none⟩ (.bool false) = W6 := ⟨_, rfl⟩
    rw [hW6]
    have hk6 : Kp (fun b => b ≠ w.heap.size + 1 + 1 + 1) W5 W6 := by rw [← hW6]; exact (((Kp.refl _ _).set (fun h => h rfl) _).set (fun h => h rfl) _).set (fun h => h rfl) _
    have h6s : W6.heap.size = W5.heap.size := by rw [← hW6]; simp
    have b3 := three_box HA5.out (.slice (some ⟨p, 0, none⟩) 1 1) (.slice (some ⟨q, 0, none⟩) 1 1) (.bool false)
    rw [hW6] at b3
    clear hW6
    obtain ⟨e1, e2, e3, e4, e5, e6, e7, e8⟩ := APQ.out
    have s3 := H3S.out
    have s5 := H5S.out
    have sg := HGL.out
    have s4 := HK4.out.size
    have og := own_ob HOW.out gl (ob_some gl)
    have h62 : ∀ b, b < W2.heap.size → b ≠ w.heap.size + 1 + 1 → b ≠ w.heap.size + 1 + 1 + 1 → W6.heap[b]? = W2.heap[b]? := fun b h1 h2 h3 => (hk6.block b h3).trans (H52.out b h1 h2)
    have h6w : ∀ b, b < w2.heap.size → b ≠ w.heap.size + 1 + 1 → b ≠ w.heap.size + 1 + 1 + 1 → W6.heap[b]? = w2.heap[b]? := fun b h1 h2 h3 => (h62 b (by omega) h2 h3).trans (HB2.out.block b h1)
    have hcf := HC2.out.step (w' := W6) (F' := fun b => (F b ∨ b = p ∨ b = q ∨ b = gl) ∨ (w.heap.size ≤ b ∧ b < w.heap.size + 1 + 1 + 1 + 1)) (by omega) (fun b h1 h2 => h6w b h1 (fun e => h2 (Or.inl (Or.inr (by omega)))) (fun e => h2 (Or.inl (Or.inr (by omega))))) (fun b hb => by
      rcases hb with (hb | hb | hb | rfl) | hb
      · exact Or.inl (Or.inl (Or.inl hb))
      · exact Or.inl (Or.inr (Or.inl hb))
      · exact Or.inl (Or.inr (Or.inr hb))
      · exact Or.inr (by omega)
      · exact Or.inl (Or.inl (Or.inr hb)))
    have hkf : Kp F w W6 := by
      have hf : ∀ b, F b → b < w.heap.size := HCR.out.lt.1
      exact (((((HKP0.out.trans (HK2.out.sub fun b h => Or.inl h)).trans (Kp.of HB2.out fun b h => by have := hf b h; omega)).trans (HK3.out.sub fun b h => by have := hf b h; omega)).trans (HK4.out.sub fun b h => by have := hf b h; omega)).trans (HK5.out.sub fun b h => by have := hf b h; omega)).trans (hk6.sub fun b h => by have := hf b h; omega)
    refine ⟨p, q, gl, cl, (h62 _ (by omega) (by omega) (by omega)).trans A0.out, (h62 _ (by omega) (by omega) (by omega)).trans A1.out, (hk6.block _ (by omega)).trans B5.out, b3, (h6w p e1 e3 e5).trans HPP.out, (h6w q e2 e4 e6).trans HQQ.out, own_block HOW.out fun b hb => ?_, hcf, hkf, by omega, by omega⟩
    have hb2 : b = gl := by rw [ob_some] at hb; injection hb with hb; exact hb.symm
    subst hb2
    exact (hk6.block _ (by omega)).trans (H54.out _ (by omega))
  case rest =>
    obtain ⟨p, q, gl, cl, m0, m1, m2, m3, mp, mq, mrow, mc, mk, mpg, mg⟩ := hcut
    have HRN := hide (HROWS.out wc mk)
    have HEX2 := hide (exp_ev 38 A2 c2 ev (.inr rfl) base B ne E (sts ++ [(ev : Int)]) (fun b => (F b ∨ b = p ∨ b = q ∨ b = gl) ∨ (w.heap.size ≤ b ∧ b < w.heap.size + 1 + 1 + 1 + 1)) wc mc (by simp; omega))
    have M0 := hide m0
    have M1 := hide m1
    have M2 := hide m2
    have M3 := hide m3
    have MP := hide mp
    have MQ := hide mq
    have MROW := hide mrow
    have MC := hide mc
    have MK := hide mk
    have MG := hide (show p < gl ∧ w.heap.size + 1 + 1 + 1 + 1 ≤ gl from ⟨mpg, mg⟩)
    clear m0 m1 m2 m3 mp mq mrow mc mk mpg mg n0 n1 n2 n3 n4 n5 n6 n7 n8 n9 n10 n11 y0 y1 y2 y3 y4 y5 y6 y7 y8 y9 y10 y11 HEX HP0 HP1 HP2 HP3 HC0 HKP0 HSW
    have n0 := box12_of HRN.out 0 (by omega)
    have n1 := box12_of HRN.out 1 (by omega)
    have n2 := box12_of HRN.out 2 (by omega)
    have n3 := box12_of HRN.out 3 (by omega)
    have n4 := box12_of HRN.out 4 (by omega)
    have n5 := box12_of HRN.out 5 (by omega)
    have n6 := box12_of HRN.out 6 (by omega)
    have n7 := box12_of HRN.out 7 (by omega)
    have n8 := box12_of HRN.out 8 (by omega)
    have n9 := box12_of HRN.out 9 (by omega)
    have n10 := box12_of HRN.out 10 (by omega)
    have n11 := box12_of HRN.out 11 (by omega)
    simp only [cNumEv, List.getElem?_cons_zero, List.getElem?_cons_succ] at n0 n1 n2 n3 n4 n5 n6 n7 n8 n9 n10 n11
    obtain ⟨y0, y1, y2, y3, y4, y5, y6, y7, y8, y9, y10, y11⟩ := box12 M0.out
    go_wp2_with fail
    rw [rounds_succ]
    go_upto_block 1 with (fail)
    go_cut [13] (fun _ wx => ∃ p gl2 cl2 : Nat, wx.heap[w.heap.size]? = some (.cells #[.int .i64 47, .int .i64 0, .string ByteArray.empty, .string ByteArray.empty, .int .i64 1, .int .i64 2, .int .i64 0, .int .i64 3, .slice A3 1 c3, .int .i64 0, .int .i64 (-1), .slice (some ⟨g2, 0, none⟩) 1 c2'] 65 (0, 0)) ∧ wx.heap[w.heap.size + 1]? = some (.cells #[.slice none 0 0, .slice none 0 0, .bool false] 61 (0, 0)) ∧ wx.heap[w.heap.size + 1 + 1]? = some (.cells #[.slice (some ⟨p, 0, none⟩) 1 1, .slice (some ⟨gl2, 0, none⟩) 2 cl2, .bool false] 61 (0, 0)) ∧ wx.heap[p]? = some (.cells #[(.int .i64 ((sts.length + 1 : Nat) : Int))] 3 (0, 0)) ∧ wx.ownsRow (w.heap.size + 1 + 1 + 1 + 1) 3 1 (.slice (some ⟨gl2, 0, none⟩) 2 cl2) 2 [(.int .i64 ((sts.length + 1 : Nat) : Int)), (.int .i64 ((sts.length + 2 : Nat) : Int))] ∧ CSt wx base B ne (E ++ [⟨(sts.length + 1 : Nat), (sts.length + 1 : Nat) + 1, ev, -1, 0, 3⟩]) (sts ++ [(ev : Int), (ev : Int)]) (fun b => (F b ∨ b = p ∨ b = gl2) ∨ (w.heap.size ≤ b ∧ b < w.heap.size + 1 + 1 + 1 + 1)) ∧ Kp F w wx ∧ w.heap.size + 1 + 1 + 1 + 1 ≤ gl2)
    case first =>
      go_upto_region 6 with
        (go_at_call 35
         refine HEX2.out.mono ?_
         rintro e w2 ⟨p2, q2, rfl, hp, hq, hc2, hk2⟩
         have HPP := hide hp
         have HQQ := hide hq
         have HC2 := hide hc2
         have HK2 := hide hk2
         clear hp hq hc2 hk2)
      obtain ⟨W2, hW2⟩ : ∃ W2, w2.alloc (.cells #[.slice (some ⟨p2, 0, none⟩) 1 1, .slice (some ⟨q2, 0, none⟩) 1 1, .bool false] 61) = W2 := ⟨_, rfl⟩
      rw [hW2]
      have gX := new_at hW2
      have hb2 : Below w2.heap.size w2 W2 := by rw [← hW2]; exact (Below.refl _ _).alloc (Nat.le_refl _) _
      have hz2 : W2.heap.size = w2.heap.size + 1 := by rw [← hW2]; simp
      have hk0 := HK2.out
      have hzw := hk0.size
      have hl0 := box_lt M0.out
      have hl1 := box_lt M1.out
      have hl2 := box_lt M2.out
      have hl3 := box_lt M3.out
      have hlq := box_lt MQ.out
      have hlp := box_lt MP.out
      have hlg := (own_ob MROW.out gl (ob_some gl)).2
      have K := fun b (h : (fun b => (F b ∨ b = p ∨ b = q ∨ b = gl) ∨ (w.heap.size ≤ b ∧ b < w.heap.size + 1 + 1 + 1 + 1)) b) => (hb2.block b (Nat.lt_of_lt_of_le (MC.out.lt.1 b h) hzw)).trans (hk0.block b h)
      have A0 := hide ((K w.heap.size (Or.inr (by omega))).trans M0.out)
      have A1 := hide ((K (w.heap.size + 1) (Or.inr (by omega))).trans M1.out)
      have A2' := hide ((K (w.heap.size + 1 + 1) (Or.inr (by omega))).trans M2.out)
      have A3' := hide ((K (w.heap.size + 1 + 1 + 1) (Or.inr (by omega))).trans M3.out)
      have AQ := (K q (Or.inl (Or.inr (Or.inr (Or.inl rfl))))).trans MQ.out
      have AP := hide ((K p (Or.inl (Or.inr (Or.inl rfl)))).trans MP.out)
      have AROW := hide (own_block (w' := W2) MROW.out fun b hb => K b (by rw [ob_some] at hb; injection hb with hb; exact Or.inl (Or.inr (Or.inr (Or.inr hb.symm)))))
      have el : (sts ++ [(ev : Int)]).length + 1 = sts.length + 2 := by simp
      have hp2 := HPP.out
      have hq2 := HQQ.out
      rw [el] at hp2 hq2
      have ec : ((sts.length + 2 : Nat) : Int) = ((sts.length + 1 : Nat) : Int) + 1 := by omega
      have BP2 := (hb2.block p2 (box_lt hp2)).trans hp2
      have BQ2 := hide ((hb2.block q2 (box_lt hq2)).trans hq2)
      rw [ec] at BP2
      have hc2 := HC2.out.new (F' := (fun b => ((F b ∨ b = p ∨ b = q ∨ b = gl) ∨ (w.heap.size ≤ b ∧ b < w.heap.size + 1 + 1 + 1 + 1)) ∨ (b = p2 ∨ b = q2) ∨ b = w2.heap.size)) hb2 (fun b hb => by
        rcases hb with hb | hb | hb
        · exact Or.inl (Or.inl hb)
        · exact Or.inl (Or.inr hb)
        · exact Or.inr (by omega))
      have HJ := hide (join_one (some ⟨p, 0, none⟩) (some ⟨q2, 0, none⟩) 1 1 1 1 q p2 1 1 (sts.length + 1) (sts.length + 1) false false 0 3 (-1) ev base B ne E (sts ++ [(ev : Int)] ++ [(ev : Int)]) (fun b => ((F b ∨ b = p ∨ b = q ∨ b = gl) ∨ (w.heap.size ≤ b ∧ b < w.heap.size + 1 + 1 + 1 + 1)) ∨ (b = p2 ∨ b = q2) ∨ b = w2.heap.size) W2 hc2 (by omega)
        (by rw [cell_of_row _ _ 0 _ _ (0, 0) AQ]; rfl) (Or.inl (Or.inl (Or.inr (Or.inr (Or.inl rfl))))) (by rw [cell_of_row _ _ 0 _ _ (0, 0) BP2]; rfl) (Or.inr (Or.inl (Or.inl rfl))) (by simp) (by simp; omega) (by simp))
      have APQ := hide (show gl < w2.heap.size ∧ p < w2.heap.size ∧ W2.heap.size = w2.heap.size + 1 ∧ w.heap.size + 1 + 1 + 1 + 1 ≤ w2.heap.size ∧ q2 < w2.heap.size from ⟨by omega, by omega, hz2, by omega, box_lt hq2⟩)
      have HKP2 := hide (show Kp F w W2 from (MK.out.trans (HK2.out.sub fun b h => Or.inl (Or.inl h))).trans (Kp.of hb2 fun b h => by have := MC.out.lt.1 b (Or.inl (Or.inl h)); omega))
      have HGX := hide gX
      clear hW2 gX hb2 hz2 hk0 hzw hl0 hl1 hl2 hl3 hlq hlp hlg K AQ el hp2 hq2 ec BP2 hc2 n0 n1 n2 n3 n4 n5 n6 n7 n8 n9 n10 n11 y0 y1 y2 y3 y4 y5 y6 y7 y8 y9 y10 y11 HEX2
      obtain ⟨y0, y1, y2, y3, y4, y5, y6, y7, y8, y9, y10, y11⟩ := box12 A0.out
      obtain ⟨x0, x1, x2⟩ := box3 HGX.out
      obtain ⟨o0, o1, o2⟩ := box3 A3'.out
      go_upto_region 9 with
        (go_at_call 60
         refine HJ.out.mono ?_
         rintro e w3 ⟨rfl, hc3, hk3⟩
         have HC3 := hide hc3
         have HK3 := hide hk3
         clear hc3 hk3)
      clear y0 y1 y2 y3 y4 y5 y6 y7 y8 y9 y10 y11 x0 x1 x2 o0 o1 o2
      have K3 := HK3.out.block
      have hb0 := (K3 w.heap.size (Or.inl (Or.inr (by omega)))).trans A0.out
      have B0 := hide hb0
      have B1 := hide ((K3 (w.heap.size + 1) (Or.inl (Or.inr (by omega)))).trans A1.out)
      have hbo := (K3 (w.heap.size + 1 + 1) (Or.inl (Or.inr (by omega)))).trans A2'.out
      have B2 := hide hbo
      have B3 := hide ((K3 (w.heap.size + 1 + 1 + 1) (Or.inl (Or.inr (by omega)))).trans A3'.out)
      have BP := hide ((K3 p (Or.inl (Or.inl (Or.inr (Or.inl rfl))))).trans AP.out)
      have hq3 := (K3 q2 (Or.inr (Or.inl (Or.inr rfl)))).trans BQ2.out
      have hx3 := (K3 w2.heap.size (Or.inr (Or.inr rfl))).trans HGX.out
      have BX := hide hx3
      have BROW := hide (own_block (w' := w3) AROW.out fun b hb => K3 b (by rw [ob_some] at hb; injection hb with hb; exact Or.inl (Or.inl (Or.inr (Or.inr (Or.inr hb.symm))))))
      have hz3 := HK3.out.size
      have hz2 := APQ.out.2.2.1
      have hz4 := APQ.out.2.2.2.1
      obtain ⟨i0, hi0, hzz, hz1, hzy⟩ := info_parts infoIntC
      obtain ⟨A', cl2, W4, hap, how, hgr, hplc, gl2, rfl⟩ := app_at 43 Tryz.underlying43 hi0 hzz hz1 hzy rfl (by decide) BROW.out [.int .i64 ((sts.length + 2 : Nat) : Int)] rfl (by simp [Value.oneCell']) (by omega) (by omega) (by omega) ⟨q2, 0, none⟩ (fun j u hu => by rw [addr_add, Nat.zero_add, cell_of_row w3 _ j _ _ (0, 0) hq3]; simpa using hu)
      have hap2 : (Builtin.append_ #[43, 43] 43 #[.slice (some ⟨gl, 0, none⟩) 1 cl, .slice (some ⟨q2, 0, none⟩) 1 1]).run Tryz.prog w3 = .ok (.slice (some ⟨gl2, 0, none⟩) 2 cl2) W4 := hap
      have HGL := hide (show gl2 = gl ∨ gl2 = w3.heap.size from by
        rcases hplc with e | e
        · rw [ob_some, ob_some] at e; injection e with e; exact Or.inl e
        · rw [ob_some] at e; injection e with e; exact Or.inr e)
      have H43 := hide (show ∀ b, b < w3.heap.size → b ≠ gl → W4.heap[b]? = w3.heap[b]? from fun b hb hne => hgr.block b hb (fun e => by rw [ob_some] at e; injection e with e; exact hne e))
      have HK4 := hide (show Kp (fun b => b < w3.heap.size ∧ b ≠ gl) w3 W4 from ⟨hgr.os, hgr.tape, hgr.output, hgr.size, fun b hb => H43.out b hb.1 hb.2⟩)
      have HOW := hide how
      have hmg := MG.out
      have hb24 := (H43.out _ (box_lt hbo) (by omega)).trans hbo
      have HB24 := hide hb24
      clear hap hi0 hzz hz1 hzy how hgr hplc hq3 K3
      obtain ⟨x0, x1, x2⟩ := box3 hx3
      obtain ⟨o0, o1, o2⟩ := box3 hbo
      obtain ⟨y0, y1, y2, y3, y4, y5, y6, y7, y8, y9, y10, y11⟩ := box12 hb0
      have zf1 := box_froz (j := 1) hb24
      obtain ⟨v0, v1, v2⟩ := box3 hb24
      have hNX : ¬ w.heap.size + 1 + 1 = w2.heap.size := by omega
      clear hx3 hbo hb24 hb0 hz3 hz2 hz4 hmg
      go_upto_region 11 with (at_builtin; refine wpList_app_eq rfl (.tmp 46) (.tmp 48) rfl rfl rfl hap2 ?_)
      obtain ⟨W5, hW5⟩ : ∃ W5, W4.setCell ⟨w.heap.size + 1 + 1, 1, none⟩ (.slice (some ⟨gl2, 0, none⟩) 2 cl2) = W5 := ⟨_, rfl⟩
      rw [hW5]
      have H54 := hide (show ∀ b, b ≠ w.heap.size + 1 + 1 → W5.heap[b]? = W4.heap[b]? from fun b hb => by rw [← hW5]; exact Below.heap_setCell _ _ _ _ (by simpa using hb))
      have H5S := hide (show W5.heap.size = W4.heap.size from by rw [← hW5]; simp)
      have HK5 := hide (show Kp (fun b => b ≠ w.heap.size + 1 + 1) W4 W5 from by rw [← hW5]; exact (Kp.refl _ _).set (fun h => h rfl) _)
      have b2 := set_cells (k := 1) (v := .slice (some ⟨gl2, 0, none⟩) 2 cl2) HB24.out
      rw [hW5] at b2
      simp only [List.setIfInBounds_toArray, List.set] at b2
      have B5 := hide b2
      have hz := APQ.out
      have hmg := MG.out
      have hz3 := HK3.out.size
      have H53 := hide (show ∀ b, b < w3.heap.size → b ≠ w.heap.size + 1 + 1 → b ≠ gl → W5.heap[b]? = w3.heap[b]? from fun b h1 h2 h3 => (H54.out b h2).trans (H43.out b h1 h3))
      have hx5 := (H53.out w2.heap.size (by omega) (by omega) (by omega)).trans BX.out
      have ha5 := (H53.out (w.heap.size + 1 + 1 + 1) (by omega) (by omega) (by omega)).trans B3.out
      have HA5 := hide ha5
      clear hz hmg hz3 hW5 b2 hap2 x0 x1 x2 o0 o1 o2 zf1 v0 v1 v2 y0 y1 y2 y3 y4 y5 y6 y7 y8 y9 y10 y11
      obtain ⟨x0, x1, x2⟩ := box3 hx5
      obtain ⟨o0, o1, o2⟩ := box3 ha5
      have zf : ∀ j, W5.frozen? ⟨w.heap.size + 1 + 1 + 1, j, none⟩ = false := fun j => box_froz HA5.out
      have z0 := zf 0
      have z1 := zf 1
      have z2 := zf 2
      clear zf hx5 ha5
      go_wp2_with fail
      go_meet
      obtain ⟨W6, hW6⟩ : ∃ W6, ((W5.setCell ⟨w.heap.size + 1 + 1 + 1, 0, none⟩ (.slice (some ⟨p2, 0, none⟩) 1 1)).setCell ⟨w.heap.size + 1 + 1 + 1, 1, none⟩ (.slice (some ⟨q2, 0, none⟩) 1 1)).setCell ⟨w.heap.size + 1 + 1 + 1, 2, none⟩ (.bool false) = W6 := ⟨_, rfl⟩
      rw [hW6]
      have hk6 : Kp (fun b => b ≠ w.heap.size + 1 + 1 + 1) W5 W6 := by rw [← hW6]; exact (((Kp.refl _ _).set (fun h => h rfl) _).set (fun h => h rfl) _).set (fun h => h rfl) _
      have h6s : W6.heap.size = W5.heap.size := by rw [← hW6]; simp
      clear hW6
      obtain ⟨e1, e2, e3, e4, e5⟩ := APQ.out
      have s3 := HK3.out.size
      have s4 := HK4.out.size
      have s5 := H5S.out
      have sg := HGL.out
      have sm := MG.out
      have og := own_ob HOW.out gl2 (ob_some gl2)
      have h63 : ∀ b, b < w3.heap.size → b ≠ w.heap.size + 1 + 1 → b ≠ w.heap.size + 1 + 1 + 1 → b ≠ gl → W6.heap[b]? = w3.heap[b]? := fun b h1 h2 h3 h4 => (hk6.block b h3).trans (H53.out b h1 h2 h4)
      have hcf := HC3.out.step (w' := W6) (F' := fun b => (F b ∨ b = p ∨ b = gl2) ∨ (w.heap.size ≤ b ∧ b < w.heap.size + 1 + 1 + 1 + 1)) (by omega) (fun b h1 h2 => h63 b h1 (fun e => h2 (Or.inl (Or.inr (by omega)))) (fun e => h2 (Or.inl (Or.inr (by omega)))) (fun e => h2 (Or.inl (Or.inl (Or.inr (Or.inr (Or.inr e))))))) (fun b hb => by
        rcases hb with (hb | hb | rfl) | hb
        · exact Or.inl (Or.inl (Or.inl (Or.inl hb)))
        · exact Or.inl (Or.inl (Or.inl (Or.inr (Or.inl hb))))
        · rcases sg with e | e
          · exact Or.inl (Or.inl (Or.inl (Or.inr (Or.inr (Or.inr e)))))
          · exact Or.inr (by omega)
        · exact Or.inl (Or.inl (Or.inr hb)))
      have hkf : Kp F w W6 := by
        have hf : ∀ b, F b → b < w.heap.size := HCR.out.lt.1
        exact (((HKP2.out.trans (HK3.out.sub fun b h => Or.inl (Or.inl (Or.inl h)))).trans (HK4.out.sub fun b h => by have := hf b h; omega)).trans (HK5.out.sub fun b h => by have := hf b h; omega)).trans (hk6.sub fun b h => by have := hf b h; omega)
      have es : sts ++ [(ev : Int)] ++ [(ev : Int)] = sts ++ [(ev : Int), (ev : Int)] := by simp
      rw [es] at hcf
      refine ⟨p, gl2, cl2, (h63 _ (by omega) (by omega) (by omega) (by omega)).trans B0.out, (h63 _ (by omega) (by omega) (by omega) (by omega)).trans B1.out, (hk6.block _ (by omega)).trans B5.out, (h63 p (by omega) (fun e => ?_) (fun e => ?_) (by omega)).trans BP.out, own_block HOW.out fun b hb => ?_, hcf, hkf, by omega⟩
      · exact cells_ne BP.out B2.out (by decide) e
      · exact cells_ne BP.out B3.out (by decide) e
      · have hb2 : b = gl2 := by rw [ob_some] at hb; injection hb with hb; exact hb.symm
        subst hb2
        exact (hk6.block _ (by omega)).trans (H54.out _ (by omega))
    case rest =>
      obtain ⟨p, gl2, cl2, m0, m1, m2, mp, mrow, mc, mk, mg⟩ := hcut
      clear n0 n1 n2 n3 n4 n5 n6 n7 n8 n9 n10 n11 y0 y1 y2 y3 y4 y5 y6 y7 y8 y9 y10 y11 HEX2 M0 M1 M2 M3 MP MQ MROW MC MK MG HRN
      have M0 := hide m0
      have M1 := hide m1
      have M2 := hide m2
      have MP := hide mp
      have MROW := hide mrow
      have MC := hide mc
      have MK := hide mk
      have MG := hide mg
      obtain ⟨y0, y1, y2, y3, y4, y5, y6, y7, y8, y9, y10, y11⟩ := box12 m0
      obtain ⟨o0, o1, o2⟩ := box3 m2
      obtain ⟨v0, v1, v2⟩ := box3 m1
      have zf1 := box_froz (j := 2) m2
      have zf : ∀ j, wc.frozen? ⟨w.heap.size + 1, j, none⟩ = false := fun j => box_froz M1.out
      have z0 := zf 0
      have z1 := zf 1
      have z2 := zf 2
      clear zf m0 m1 m2 mp mrow mc mk mg
      go_wp2_with fail
      rw [rounds_succ]
      go_wp2_with fail
      refine name_body fun wf hwf => ?_
      have hs2 := set_cells (k := 2) (v := .bool false) M2.out
      have h1s : (wc.setCell ⟨w.heap.size + 1 + 1, 2, none⟩ (.bool false)).heap[w.heap.size + 1]? = wc.heap[w.heap.size + 1]? := Below.heap_setCell _ _ _ _ (by simp)
      have hbf := three_box (h1s.trans M1.out) (.slice (some ⟨p, 0, none⟩) 1 1) (.slice (some ⟨gl2, 0, none⟩) 2 cl2) (.bool false)
      rw [hwf] at hbf
      obtain ⟨x0, x1, x2⟩ := box3 hbf
      have hmg := MG.out
      have h2 : ∀ b, b ≠ w.heap.size + 1 + 1 → b ≠ w.heap.size + 1 → wf.heap[b]? = wc.heap[b]? := fun b g1 g2 => by
        rw [← hwf]
        have k : ∀ (u : World) (N j : Nat) (v : Value), b ≠ N → (u.setCell ⟨N, j, none⟩ v).heap[b]? = u.heap[b]? := fun u N j v h => Below.heap_setCell _ _ _ _ (by simpa using h)
        rw [k _ _ _ _ g2, k _ _ _ _ g2, k _ _ _ _ g2, k _ _ _ _ g1]
      have hcf : CSt wf base B ne (E ++ [⟨(sts.length + 1 : Nat), (sts.length + 1 : Nat) + 1, ev, -1, 0, 3⟩]) (sts ++ [(ev : Int), (ev : Int)]) (fun b => (F b ∨ b = p ∨ b = gl2) ∨ (w.heap.size ≤ b ∧ b < w.heap.size + 1 + 1 + 1 + 1)) := by
        rw [← hwf]
        exact (((MC.out.set (N := w.heap.size + 1 + 1) (Or.inr (by omega)) _).set (N := w.heap.size + 1) (Or.inr (by omega)) _).set (N := w.heap.size + 1) (Or.inr (by omega)) _).set (N := w.heap.size + 1) (Or.inr (by omega)) _
      have hkf : Kp F w wf := by
        have hf : ∀ b, F b → b < w.heap.size := HCR.out.lt.1
        have g1 : ¬ F (w.heap.size + 1) := fun h => by have := hf _ h; omega
        have g2 : ¬ F (w.heap.size + 1 + 1) := fun h => by have := hf _ h; omega
        rw [← hwf]
        exact (((MK.out.set g2 _).set g1 _).set g1 _).set g1 _
      have hne1 : p ≠ w.heap.size + 1 + 1 := cells_ne MP.out M2.out (by decide)
      have hne2 : p ≠ w.heap.size + 1 := cells_ne MP.out M1.out (by decide)
      have hrf := own_block (w' := wf) MROW.out fun b hb => h2 b (by rw [ob_some] at hb; injection hb with hb; omega) (by rw [ob_some] at hb; injection hb with hb; omega)
      clear hwf hbf hs2 h1s y0 y1 y2 y3 y4 y5 y6 y7 y8 y9 y10 y11 o0 o1 o2 v0 v1 v2 z0 z1 z2 zf1
      refine bodyPost_ret (v := .agg #[.slice (some ⟨p, 0, none⟩) 1 1, .slice (some ⟨gl2, 0, none⟩) 2 cl2, .bool false]) (by simp [results, Tryz.results61, go_sem, x0, x1, x2]) rfl ?_
      exact ⟨p, gl2, cl2, rfl, (h2 p hne1 hne2).trans MP.out, hrf.cellAt 0 (by omega), hrf.cellAt 1 (by omega), hcf.sub fun b h => Or.inl h, hkf⟩

end Go.Proofs.YtgobkbjkndfliaaGreatDoor
