/-
  Several texts in one: LawDuals51. Each says at its head what it holds.
-/
import Derived.Test.YtdlebcijgdkfjaaGreatDoorCD2
import Derived.Test.YtdlebcijgdkfjaaGreatDoorCR14
import Derived.Test.YtdlebcijgdkfjaaGreatDoorCR29

/-
  wavestorelaw51.ConditionDuals, walked.
-/
namespace Go.Proofs.YtdlebcijgdkfjaaGreatDoor
open Go.RowKit

/-- a wave and two trees in boxes -/
theorem wnn_held {W0 : World} {N M K : Nat} {a0 a1 a2 b0 b1 b2 b3 b4 b5 b6 b7 b8 c0 c1 c2 c3 c4 c5 c6 c7 c8 : Value} {t t' t'' : TypeId} (h0 : W0.heap[N]? = some (.cells #[a0, a1, a2] t (0, 0))) (h1 : W0.heap[M]? = some (.cells #[b0, b1, b2, b3, b4, b5, b6, b7, b8] t' (0, 0))) (h2 : W0.heap[K]? = some (.cells #[c0, c1, c2, c3, c4, c5, c6, c7, c8] t'' (0, 0))) (W : World) (hb : Below W0.heap.size W0 W) :
    Below W0.heap.size W0 W ∧ W.cell? ⟨N, 0, none⟩ = some a0 ∧ W.cell? ⟨N, 1, none⟩ = some a1 ∧ W.cell? ⟨N, 2, none⟩ = some a2 ∧ W.cell? ⟨M, 0, none⟩ = some b0 ∧ W.cell? ⟨M, 1, none⟩ = some b1 ∧ W.cell? ⟨M, 2, none⟩ = some b2 ∧ W.cell? ⟨M, 3, none⟩ = some b3 ∧ W.cell? ⟨M, 4, none⟩ = some b4 ∧ W.cell? ⟨M, 5, none⟩ = some b5 ∧ W.cell? ⟨M, 6, none⟩ = some b6 ∧ W.cell? ⟨M, 7, none⟩ = some b7 ∧ W.cell? ⟨M, 8, none⟩ = some b8 ∧ W.cell? ⟨K, 0, none⟩ = some c0 ∧ W.cell? ⟨K, 1, none⟩ = some c1 ∧ W.cell? ⟨K, 2, none⟩ = some c2 ∧ W.cell? ⟨K, 3, none⟩ = some c3 ∧ W.cell? ⟨K, 4, none⟩ = some c4 ∧ W.cell? ⟨K, 5, none⟩ = some c5 ∧ W.cell? ⟨K, 6, none⟩ = some c6 ∧ W.cell? ⟨K, 7, none⟩ = some c7 ∧ W.cell? ⟨K, 8, none⟩ = some c8 := by
  have g0 := (hb.block _ (box_lt h0)).trans h0
  have g1 := (hb.block _ (box_lt h1)).trans h1
  have g2 := (hb.block _ (box_lt h2)).trans h2
  refine ⟨hb, ?_, ?_, ?_, ?_, ?_, ?_, ?_, ?_, ?_, ?_, ?_, ?_, ?_, ?_, ?_, ?_, ?_, ?_, ?_, ?_, ?_⟩
  all_goals first | (rw [cell_of_row W N _ _ t (0, 0) g0]; rfl) | (rw [cell_of_row W M _ _ t' (0, 0) g1]; rfl) | (rw [cell_of_row W K _ _ t'' (0, 0) g2]; rfl)
/-- four boxes of conditions that lie below -/
theorem four_boxes {W0 : World} {N M K J : Nat} {a b c d e f g h : Value} {t t' t'' t3 : TypeId} (h0 : W0.heap[N]? = some (.cells #[a, b] t (0, 0))) (h1 : W0.heap[M]? = some (.cells #[c, d] t' (0, 0))) (h2 : W0.heap[K]? = some (.cells #[e, f] t'' (0, 0))) (h3 : W0.heap[J]? = some (.cells #[g, h] t3 (0, 0))) (W : World) (hb : Below W0.heap.size W0 W) :
    W.cell? ⟨N, 0, none⟩ = some a ∧ W.cell? ⟨N, 1, none⟩ = some b ∧ W.cell? ⟨M, 0, none⟩ = some c ∧ W.cell? ⟨M, 1, none⟩ = some d ∧ W.cell? ⟨K, 0, none⟩ = some e ∧ W.cell? ⟨K, 1, none⟩ = some f ∧ W.cell? ⟨J, 0, none⟩ = some g ∧ W.cell? ⟨J, 1, none⟩ = some h ∧ Below W0.heap.size W0 W :=
  ⟨(boxT2 ((hb.block _ (box_lt h0)).trans h0)).1, (boxT2 ((hb.block _ (box_lt h0)).trans h0)).2, (boxT2 ((hb.block _ (box_lt h1)).trans h1)).1, (boxT2 ((hb.block _ (box_lt h1)).trans h1)).2, (boxT2 ((hb.block _ (box_lt h2)).trans h2)).1, (boxT2 ((hb.block _ (box_lt h2)).trans h2)).2, (boxT2 ((hb.block _ (box_lt h3)).trans h3)).1, (boxT2 ((hb.block _ (box_lt h3)).trans h3)).2, hb⟩
theorem nodes_in {n : Nd} (h : FewOk 60 n) : wrap64 (nodesF n) = nodesF n := by
  have h1 := nodes_pos n
  have h2 := h.nodes
  unfold wrap64
  omega

set_option maxRecDepth 100000 in
set_option maxHeartbeats 16000000 in
theorem duals_all (v : Wv) (gs : List (Int × Int)) (n m : Nd) (f t : Int) (w : World) (hS : SigsAt w (Lo w.heap.size) v.A v.sigs) (hG : Row w (Lo w.heap.size) 2 cGp v.G gs) (hgn : v.gn = gs.length) (hsz : ∀ s ∈ v.sigs, ∀ c ∈ s.chs, c.val.size ≤ 9223372036854775807)
    (ht : TreesAt w (Lo w.heap.size) n.KA n.kids) (ht2 : TreesAt w (Lo w.heap.size) m.KA m.kids) (hok : okF n) (hok2 : okF m) (htab : Tab w) :
    Calls Tryz.prog 8 #[.agg (cWv v).toArray, .agg (cNd n).toArray, .agg (cNd m).toArray, .int .i64 f, .int .i64 t] w fun e w' => e = .returned (.bool true) ∧ Below w.heap.size w w' := by
  have HFW := hide (fun (W : World) (hb : Below w.heap.size w W) => few51_any v gs n W (hS.grow hb) (hG.grow hb) hgn hsz (ht.grow hb))
  have HFW2 := hide (fun (W : World) (hb : Below w.heap.size w W) => few51_any v gs m W (hS.grow hb) (hG.grow hb) hgn hsz (ht2.grow hb))
  have HND := hide (fun (W : World) (hb : Below w.heap.size w W) => nodes_any n W (ht.grow hb))
  have HND2 := hide (fun (W : World) (hb : Below w.heap.size w W) => nodes_any m W (ht2.grow hb))
  have HNEW := hide (fun (W : World) (hb : Below w.heap.size w W) => new_any v W (hS.grow hb))
  have HTR := hide (fun (a b : Int) (W W1 : World) (hb : Below w.heap.size w W) (hb1 : Below W.heap.size W W1) (M : Nat) (hM : W.heap.size ≤ M) (h : SourceAt W1 M v (-1) 0) (hv : SmallOk v ∧ FewOk 60 n) => truth_res v n a b M W W1 hb1 hM h hv.1 hv.2 (ht.grow hb) hok (htab.below hb))
  have HTR2 := hide (fun (a b : Int) (W W1 : World) (hb : Below w.heap.size w W) (hb1 : Below W.heap.size W W1) (M : Nat) (hM : W.heap.size ≤ M) (h : SourceAt W1 M v (-1) 0) (hv : SmallOk v ∧ FewOk 60 m) => truth_res v m a b M W W1 hb1 hM h hv.1 hv.2 (ht2.grow hb) hok2 (htab.below hb))
  have HTA := hide (fun (d : DuOk w v n m) (X : World) (M K KB : Nat) (hb : Below w.heap.size w X) (hM : w.heap.size ≤ M) => truth_a v n m f t w X M K KB d ht ht2 hok hok2 htab hb hM)
  have HTB := hide (fun (d : DuOk w v n m) (X : World) (M K1 K2 KB : Nat) (hb : Below w.heap.size w X) (hM : w.heap.size ≤ M) => truth_b v n m f t w X M K1 K2 KB d ht ht2 hok hok2 htab hb hM)
  have HNA := hide (fun (K : Nat) (X : World) => notD_any (binN 29 K n m) X)
  have HN1 := hide (fun (X : World) => notD_any n X)
  have HN2 := hide (fun (X : World) => notD_any m X)
  unfold srcV at HTR HTR2 HTA HTB
  clear hS hG hgn hsz ht ht2 hok hok2 htab
  obtain ⟨A, cA, sigs, G, gn, cG, fin⟩ := v
  obtain ⟨kind, at_, name, value, a, b, c, d, KA, kc, kids⟩ := n
  obtain ⟨kind2, at2, name2, value2, a2, b2, c2, d2, KA2, kc2, kids2⟩ := m
  unfold cWv cNd at *
  dsimp only at *
  generalize hvv : Wv.mk A cA sigs G gn cG fin = v at *
  generalize hnn : Nd.mk kind at_ name value a b c d KA kc kids = n at *
  generalize hmm : Nd.mk kind2 at2 name2 value2 a2 b2 c2 d2 KA2 kc2 kids2 = m at *
  clear hvv hnn hmm
  unfold notN binN at HTA HTB HNA
  unfold notN at HN1 HN2
  dsimp only [List.cons_append, List.nil_append, List.length_cons, List.length_nil, Nat.reduceAdd] at HTA HTB HNA HN1 HN2
  obtain ⟨W0, hW0⟩ : ∃ W0, ((w.alloc (.cells #[.slice A sigs.length cA, .slice G gn cG, .int .i64 fin] 29)).alloc (.cells #[.int .i64 kind, .int .i64 at_, .string name, .string value, .int .i64 a, .int .i64 b, .int .i64 c, .int .i64 d, .slice KA kids.length kc] 32)).alloc (.cells #[.int .i64 kind2, .int .i64 at2, .string name2, .string value2, .int .i64 a2, .int .i64 b2, .int .i64 c2, .int .i64 d2, .slice KA2 kids2.length kc2] 32) = W0 := ⟨_, rfl⟩
  obtain ⟨p0, p1, p2, hb0⟩ := chain3d _ _ _ _ hW0
  have HB0 := hide hb0
  have HG0 := hide p0
  have HG1 := hide p1
  have HG2 := hide p2
  have HH := hide (wnn_held p0 p1 p2)
  obtain ⟨-, c0, c1, c2', y0, y1, y2, y3, y4, y5, y6, y7, y8, u0, u1, u2, u3, u4, u5, u6, u7, u8⟩ := HH.out W0 (Below.refl _ _)
  have HW0 := hide hW0
  clear hW0 p0 p1 p2 hb0
  go_enter Tryz.func8, Tryz.ntmps8
  go_upto_region 1 with (fail)
  rw [HW0.out]
  go_cut [39] (fun p wx => ∃ z : Bool, p = .bool z ∧ Below W0.heap.size W0 wx ∧ (z = false → DuOk w v n m))
  case first =>
    go_wp2_with fail
    refine (HFW.out W0 HB0.out).mono ?_
    rintro e w1 ⟨b1, rfl, hs1, hb1⟩
    have HS1 := hide hs1
    have HB1 := hide hb1
    clear hs1 hb1 c0 c1 c2' y0 y1 y2 y3 y4 y5 y6 y7 y8 u0 u1 u2 u3 u4 u5 u6 u7 u8
    cases b1 with
    | false =>
      go_wp2_with fail
      go_meet
      exact ⟨true, rfl, HB1.out, fun h => by cases h⟩
    | true =>
      have HF1 := hide (HS1.out rfl)
      clear HS1
      obtain ⟨-, c0, c1, c2', y0, y1, y2, y3, y4, y5, y6, y7, y8, u0, u1, u2, u3, u4, u5, u6, u7, u8⟩ := HH.out w1 HB1.out
      go_wp2_with fail
      refine (HFW2.out w1 (bstep HB0.out HB1.out)).mono ?_
      rintro e w2 ⟨b2, rfl, hs2, hb2⟩
      have HS2 := hide hs2
      have HB2 := hide (bstep HB1.out hb2)
      clear hs2 hb2 c0 c1 c2' y0 y1 y2 y3 y4 y5 y6 y7 y8 u0 u1 u2 u3 u4 u5 u6 u7 u8
      cases b2 with
      | false =>
        go_wp2_with fail
        go_meet
        exact ⟨true, rfl, HB2.out, fun h => by cases h⟩
      | true =>
        have HF2 := hide (HS2.out rfl)
        clear HS2
        have HQ1 := hide (nodes_in HF1.out.2)
        have HQ2 := hide (nodes_in HF2.out.2)
        obtain ⟨-, c0, c1, c2', y0, y1, y2, y3, y4, y5, y6, y7, y8, u0, u1, u2, u3, u4, u5, u6, u7, u8⟩ := HH.out w2 HB2.out
        go_wp2_with fail
        refine (HND.out w2 (bstep HB0.out HB2.out)).mono ?_
        rintro e w3 ⟨rfl, hb3⟩
        have HB3 := hide (bstep HB2.out hb3)
        rw [HQ1.out]
        clear hb3 c0 c1 c2' y0 y1 y2 y3 y4 y5 y6 y7 y8 u0 u1 u2 u3 u4 u5 u6 u7 u8
        have HE1 := hide (rfl : nodesF n = nodesF n)
        obtain ⟨k1, hk1⟩ : ∃ k, nodesF n = k := ⟨_, rfl⟩
        have HK1 := hide hk1
        rw [hk1]
        clear hk1
        by_cases q1 : 25 < k1
        · have d1 : decide (25 < k1) = true := decide_eq_true q1
          go_wp2_with fail
          go_meet
          exact ⟨true, rfl, HB3.out, fun h => by cases h⟩
        · have d1 : decide (25 < k1) = false := decide_eq_false q1
          obtain ⟨-, c0, c1, c2', y0, y1, y2, y3, y4, y5, y6, y7, y8, u0, u1, u2, u3, u4, u5, u6, u7, u8⟩ := HH.out w3 HB3.out
          go_wp2_with fail
          refine (HND2.out w3 (bstep HB0.out HB3.out)).mono ?_
          rintro e w4 ⟨rfl, hb4⟩
          have HB4 := hide (bstep HB3.out hb4)
          rw [HQ2.out]
          clear hb4 c0 c1 c2' y0 y1 y2 y3 y4 y5 y6 y7 y8 u0 u1 u2 u3 u4 u5 u6 u7 u8
          obtain ⟨k2, hk2⟩ : ∃ k, nodesF m = k := ⟨_, rfl⟩
          have HK2 := hide hk2
          rw [hk2]
          clear hk2
          by_cases q2 : 25 < k2
          · have d2' : decide (25 < k2) = true := decide_eq_true q2
            go_wp2_with fail
            go_meet
            exact ⟨true, rfl, HB4.out, fun h => by cases h⟩
          · have d2' : decide (25 < k2) = false := decide_eq_false q2
            go_wp2_with fail
            go_meet
            exact ⟨false, rfl, HB4.out, fun _ => ⟨HF1.out.1, HF1.out.2, HF2.out.2, by have := HK1.out; omega, by have := HK2.out; omega⟩⟩
  case rest =>
    obtain ⟨z, rfl, hb1, hz⟩ := hcut
    obtain ⟨w1, rfl⟩ : ∃ x : World, x = wc := ⟨_, rfl⟩
    have HB1 := hide hb1
    have HBB1 := hide (bstep HB0.out hb1)
    have HZ := hide hz
    clear hb1 hz c0 c1 c2' y0 y1 y2 y3 y4 y5 y6 y7 y8 u0 u1 u2 u3 u4 u5 u6 u7 u8 HFW HFW2 HND HND2
    cases z with
    | true =>
      go_wp2_with fail
      refine (awake51 _).mono ?_
      rintro e w2 ⟨rfl, hbz⟩
      have HBZ := hide (bstep HBB1.out hbz)
      clear hbz
      go_wp2_with fail
      go_ret
      exact ⟨rfl, HBZ.out⟩
    | false =>
      have HDU := hide (HZ.out rfl)
      have HSM := hide (And.intro HDU.out.small HDU.out.fn)
      have HSM2 := hide (And.intro HDU.out.small HDU.out.fm)
      clear HZ
      have HH1 := hide (wn_held ((HB1.out.block _ (box_lt HG0.out)).trans HG0.out) ((HB1.out.block _ (box_lt HG1.out)).trans HG1.out))
      go_upto_region 3 with (fail)
      go_cut [11, 12] (fun p q wx => TruBox v n f t w1 wx p q)
      case first =>
        have r0 : Below w1.heap.size w1 w1.drew := below_drew (Below.refl _ _)
        have k0 := HH1.out w1.drew r0
        have rc := below_al r0 (.cells #[.slice none 0 0, .slice none 0 0] 45)
        have gc := heap_alloc_new w1.drew (.cells #[.slice none 0 0, .slice none 0 0] 45)
        have zc : (w1.drew.alloc (.cells #[.slice none 0 0, .slice none 0 0] 45)).heap.size = w1.heap.size + 1 := World.size_alloc _ _
        go_region_held3 (fun wx => wx.cell? ⟨w.heap.size, 0, none⟩ = some (.slice A sigs.length cA) ∧ wx.cell? ⟨w.heap.size, 1, none⟩ = some (.slice G gn cG) ∧ wx.cell? ⟨w.heap.size, 2, none⟩ = some (.int .i64 fin) ∧ wx.cell? ⟨w.heap.size + 1, 0, none⟩ = some (.int .i64 kind) ∧ wx.cell? ⟨w.heap.size + 1, 1, none⟩ = some (.int .i64 at_) ∧ wx.cell? ⟨w.heap.size + 1, 2, none⟩ = some (.string name) ∧ wx.cell? ⟨w.heap.size + 1, 3, none⟩ = some (.string value) ∧ wx.cell? ⟨w.heap.size + 1, 4, none⟩ = some (.int .i64 a) ∧ wx.cell? ⟨w.heap.size + 1, 5, none⟩ = some (.int .i64 b) ∧ wx.cell? ⟨w.heap.size + 1, 6, none⟩ = some (.int .i64 c) ∧ wx.cell? ⟨w.heap.size + 1, 7, none⟩ = some (.int .i64 d) ∧ wx.cell? ⟨w.heap.size + 1, 8, none⟩ = some (.slice KA kids.length kc) ∧ Below w1.heap.size w1 wx)
          (first | (with_reducible assumption) | exact k0 | exact HH1.out _ rc | exact HH1.out _ (below_al r2 _) | exact HH1.out _ (below_al r3 _) | exact HH1.out _ (below_s2 (below_al r3 _) r3.size _ _) | exact HH1.out _ (below_s2 r3 r2.size _ _) | exact HH1.out _ (below_s2 r3 r0.size _ _))
          (first
            | (go_at_call 14; (first | (refine (HNEW.out w1.drew (bstep HBB1.out r0)).mono ?_; rintro e wa ⟨M, rfl, hM, hsrc, hb2⟩; have hU := bstep HBB1.out r0; have r2 := bstep r0 hb2; have hMW := Nat.le_trans r0.size hM) | (refine (HNEW.out (w1.drew.alloc (.cells #[.slice none 0 0, .slice none 0 0] 45)) (bstep HBB1.out rc)).mono ?_; rintro e wa ⟨M, rfl, hM, hsrc, hb2⟩; have hU := bstep HBB1.out rc; have r2 := bstep rc hb2; have hMW := Nat.le_trans rc.size hM)); have k2 := HH1.out wa r2; have hML := hsrc.lt; have hz2 := hb2.size)
            | (go_at_call 17; (first | refine (HTR.out f t _ wa hU hb2 M hM hsrc HSM.out).mono ?_ | refine (HTR.out f t _ (wa.alloc (.cells #[.slice none 0 0, .slice none 0 0] 45)) hU (hb2.alloc hb2.size _) M hM (hsrc.below ((Below.refl _ _).alloc (Nat.le_refl _) _)) HSM.out).mono ?_); rintro e wb ⟨XA, xl, xc, YA, yl, yc, er, rfl, hres, hbut⟩; have r3 : Below w1.heap.size w1 wb := (by first | exact but_step r2 hbut hMW | exact but_step (below_al r2 _) hbut hMW); have k3 := HH1.out wb r3; have gA := heap_alloc_new wb (.cells #[.slice none 0 0, .slice none 0 0] 45); obtain ⟨m0, m1⟩ := boxT2 gA; obtain ⟨m2, m3⟩ := box2_frozen gA; have m4 := box_lt gA; (try (have gB := box_mid hML hbut; obtain ⟨u0, u1⟩ := boxT2 gB; obtain ⟨u2, u3⟩ := box2_frozen gB; have u4 := box_lt gB)); (try (have gC := box_first hb2 hM hbut; obtain ⟨u0, u1⟩ := boxT2 gC; obtain ⟨u2, u3⟩ := box2_frozen gC; have u4 := box_lt gC))))
        all_goals (go_wp2_with fail; go_meet; first | exact tru_fin_al hres r3 | exact tru_fin hres gB r3 r2.size | exact tru_fin hres gC r3 r0.size)
      case rest =>
        obtain ⟨N1, XA, xl, xc, YA, yl, yc, er, rfl, rfl, hg1, hN1, hs1, hr1⟩ := hcut
        obtain ⟨w2, rfl⟩ : ∃ x : World, x = wc := ⟨_, rfl⟩
        have HB2 := hide (bstep HB1.out hr1)
        have HBB2 := hide (bstep HBB1.out hr1)
        have HS1 := hide hs1
        have HN1g := hide hg1
        clear hr1 hN1 hs1 hg1 HH1
        have HH2 := hide (wn_held ((HB2.out.block _ (box_lt HG0.out)).trans HG0.out) ((HB2.out.block _ (box_lt HG2.out)).trans HG2.out))
        go_upto_region 4 with (fail)
        go_cut [13, 14] (fun p q wx => TruBox v m f t w2 wx p q)
        case first =>
          have r0 : Below w2.heap.size w2 w2.drew := below_drew (Below.refl _ _)
          have k0 := HH2.out w2.drew r0
          have rc := below_al r0 (.cells #[.slice none 0 0, .slice none 0 0] 45)
          have gc := heap_alloc_new w2.drew (.cells #[.slice none 0 0, .slice none 0 0] 45)
          have zc : (w2.drew.alloc (.cells #[.slice none 0 0, .slice none 0 0] 45)).heap.size = w2.heap.size + 1 := World.size_alloc _ _
          go_region_held3 (fun wx => wx.cell? ⟨w.heap.size, 0, none⟩ = some (.slice A sigs.length cA) ∧ wx.cell? ⟨w.heap.size, 1, none⟩ = some (.slice G gn cG) ∧ wx.cell? ⟨w.heap.size, 2, none⟩ = some (.int .i64 fin) ∧ wx.cell? ⟨w.heap.size + 1 + 1, 0, none⟩ = some (.int .i64 kind2) ∧ wx.cell? ⟨w.heap.size + 1 + 1, 1, none⟩ = some (.int .i64 at2) ∧ wx.cell? ⟨w.heap.size + 1 + 1, 2, none⟩ = some (.string name2) ∧ wx.cell? ⟨w.heap.size + 1 + 1, 3, none⟩ = some (.string value2) ∧ wx.cell? ⟨w.heap.size + 1 + 1, 4, none⟩ = some (.int .i64 a2) ∧ wx.cell? ⟨w.heap.size + 1 + 1, 5, none⟩ = some (.int .i64 b2) ∧ wx.cell? ⟨w.heap.size + 1 + 1, 6, none⟩ = some (.int .i64 c2) ∧ wx.cell? ⟨w.heap.size + 1 + 1, 7, none⟩ = some (.int .i64 d2) ∧ wx.cell? ⟨w.heap.size + 1 + 1, 8, none⟩ = some (.slice KA2 kids2.length kc2) ∧ Below w2.heap.size w2 wx)
            (first | (with_reducible assumption) | exact k0 | exact HH2.out _ rc | exact HH2.out _ (below_al r2 _) | exact HH2.out _ (below_al r3 _) | exact HH2.out _ (below_s2 (below_al r3 _) r3.size _ _) | exact HH2.out _ (below_s2 r3 r2.size _ _) | exact HH2.out _ (below_s2 r3 r0.size _ _))
            (first
              | (go_at_call 14; (first | (refine (HNEW.out w2.drew (bstep HBB2.out r0)).mono ?_; rintro e wa ⟨M, rfl, hM, hsrc, hb2⟩; have hU := bstep HBB2.out r0; have r2 := bstep r0 hb2; have hMW := Nat.le_trans r0.size hM) | (refine (HNEW.out (w2.drew.alloc (.cells #[.slice none 0 0, .slice none 0 0] 45)) (bstep HBB2.out rc)).mono ?_; rintro e wa ⟨M, rfl, hM, hsrc, hb2⟩; have hU := bstep HBB2.out rc; have r2 := bstep rc hb2; have hMW := Nat.le_trans rc.size hM)); have k2 := HH2.out wa r2; have hML := hsrc.lt; have hz2 := hb2.size)
              | (go_at_call 17; (first | refine (HTR2.out f t _ wa hU hb2 M hM hsrc HSM2.out).mono ?_ | refine (HTR2.out f t _ (wa.alloc (.cells #[.slice none 0 0, .slice none 0 0] 45)) hU (hb2.alloc hb2.size _) M hM (hsrc.below ((Below.refl _ _).alloc (Nat.le_refl _) _)) HSM2.out).mono ?_); rintro e wb ⟨XA, xl, xc, YA, yl, yc, er, rfl, hres, hbut⟩; have r3 : Below w2.heap.size w2 wb := (by first | exact but_step r2 hbut hMW | exact but_step (below_al r2 _) hbut hMW); have k3 := HH2.out wb r3; have gA := heap_alloc_new wb (.cells #[.slice none 0 0, .slice none 0 0] 45); obtain ⟨m0, m1⟩ := boxT2 gA; obtain ⟨m2, m3⟩ := box2_frozen gA; have m4 := box_lt gA; (try (have gB := box_mid hML hbut; obtain ⟨u0, u1⟩ := boxT2 gB; obtain ⟨u2, u3⟩ := box2_frozen gB; have u4 := box_lt gB)); (try (have gC := box_first hb2 hM hbut; obtain ⟨u0, u1⟩ := boxT2 gC; obtain ⟨u2, u3⟩ := box2_frozen gC; have u4 := box_lt gC))))
          all_goals (go_wp2_with fail; go_meet; first | exact tru_fin_al hres r3 | exact tru_fin hres gB r3 r2.size | exact tru_fin hres gC r3 r0.size)
        case rest =>
          obtain ⟨N2, XA2, xl2, xc2, YA2, yl2, yc2, er2, rfl, rfl, hg2, hN2, hs2, hr2⟩ := hcut
          obtain ⟨w3, rfl⟩ : ∃ x : World, x = wc := ⟨_, rfl⟩
          have HB3 := hide (bstep HB2.out hr2)
          have HBB3 := hide (bstep HBB2.out hr2)
          have HS13 := hide (HS1.out.step hr2)
          have HG13 := hide ((hr2.block _ (box_lt HN1g.out)).trans HN1g.out)
          have HS23 := hide hs2
          have HG23 := hide hg2
          clear hr2 hN2 hs2 hg2 HH2 HS1 HN1g HTR HTR2
          rcases HS13.out with ⟨hng, her⟩ | ⟨hgd, rfl, xs, ys, rfl, rfl, ix, iy, hst⟩
          · have T1 : (er != 0) = true := by simp [her]
            clear hng her
            go_wp2_with fail
            refine (awake51 _).mono ?_
            rintro e w4 ⟨rfl, hbz⟩
            have HBZ := hide (bstep HBB3.out hbz)
            clear hbz
            go_wp2_with fail
            go_ret
            exact ⟨rfl, HBZ.out⟩
          · have HGD := hide hgd
            have HIX := hide (And.intro ix iy)
            have HST := hide hst
            clear hgd ix iy hst HS13
            rcases HS23.out with ⟨hng, her⟩ | ⟨hgd, rfl, xs2, ys2, rfl, rfl, ix, iy, hst⟩
            · have T1 : (er2 != 0) = true := by simp [her]
              clear hng her
              go_wp2_with fail
              refine (awake51 _).mono ?_
              rintro e w4 ⟨rfl, hbz⟩
              have HBZ := hide (bstep HBB3.out hbz)
              clear hbz
              go_wp2_with fail
              go_ret
              exact ⟨rfl, HBZ.out⟩
            · have HGD2 := hide hgd
              have HIX2 := hide (And.intro ix iy)
              have HST2 := hide hst
              clear hgd ix iy hst HS23
              have HH3 := hide (wnn_held ((HB3.out.block _ (box_lt HG0.out)).trans HG0.out) ((HB3.out.block _ (box_lt HG1.out)).trans HG1.out) ((HB3.out.block _ (box_lt HG2.out)).trans HG2.out))
              go_upto_region 8 with (fail)
              have HTA2 := hide (HTA.out HDU.out)
              have HTB2 := hide (HTB.out HDU.out)
              clear HTA HTB
              go_cut [16, 17] (fun p q wx => ∃ K KB : Nat, TruBox v (notN K (binN 29 KB n m)) f t w3 wx p q)
              case first =>
                have k0 := HH3.out w3.drew (below_drew (Below.refl _ _))
                go_region_held3 (fun wx => Below w3.heap.size w3 wx ∧ wx.cell? ⟨w.heap.size, 0, none⟩ = some (.slice A sigs.length cA) ∧ wx.cell? ⟨w.heap.size, 1, none⟩ = some (.slice G gn cG) ∧ wx.cell? ⟨w.heap.size, 2, none⟩ = some (.int .i64 fin) ∧ wx.cell? ⟨w.heap.size + 1, 0, none⟩ = some (.int .i64 kind) ∧ wx.cell? ⟨w.heap.size + 1, 1, none⟩ = some (.int .i64 at_) ∧ wx.cell? ⟨w.heap.size + 1, 2, none⟩ = some (.string name) ∧ wx.cell? ⟨w.heap.size + 1, 3, none⟩ = some (.string value) ∧ wx.cell? ⟨w.heap.size + 1, 4, none⟩ = some (.int .i64 a) ∧ wx.cell? ⟨w.heap.size + 1, 5, none⟩ = some (.int .i64 b) ∧ wx.cell? ⟨w.heap.size + 1, 6, none⟩ = some (.int .i64 c) ∧ wx.cell? ⟨w.heap.size + 1, 7, none⟩ = some (.int .i64 d) ∧ wx.cell? ⟨w.heap.size + 1, 8, none⟩ = some (.slice KA kids.length kc) ∧ wx.cell? ⟨w.heap.size + 1 + 1, 0, none⟩ = some (.int .i64 kind2) ∧ wx.cell? ⟨w.heap.size + 1 + 1, 1, none⟩ = some (.int .i64 at2) ∧ wx.cell? ⟨w.heap.size + 1 + 1, 2, none⟩ = some (.string name2) ∧ wx.cell? ⟨w.heap.size + 1 + 1, 3, none⟩ = some (.string value2) ∧ wx.cell? ⟨w.heap.size + 1 + 1, 4, none⟩ = some (.int .i64 a2) ∧ wx.cell? ⟨w.heap.size + 1 + 1, 5, none⟩ = some (.int .i64 b2) ∧ wx.cell? ⟨w.heap.size + 1 + 1, 6, none⟩ = some (.int .i64 c2) ∧ wx.cell? ⟨w.heap.size + 1 + 1, 7, none⟩ = some (.int .i64 d2) ∧ wx.cell? ⟨w.heap.size + 1 + 1, 8, none⟩ = some (.slice KA2 kids2.length kc2))
                  (first | (with_reducible assumption) | exact k0 | exact HH3.out _ (below_al (And.left (by with_reducible assumption)) _) | exact HH3.out _ (below_s2 (And.left (by with_reducible assumption)) (by omega) _ _))
                  (first
                    | (go_at_call 14; refine (HNEW.out _ (bstep HBB3.out (And.left (by with_reducible assumption)))).mono ?_; rintro e wa ⟨M, rfl, hM, hsrc, hba⟩; have hM3 := Nat.le_trans (Below.size (And.left (by with_reducible assumption))) hM; have ka := HH3.out wa (bstep (And.left (by with_reducible assumption)) hba); have za := ka.1.size; (first | (with_reducible have gL := blk_of hba (heap_alloc_new _ (.cells #[.slice none 0 0, .slice none 0 0] 45 (0, 0)))) | (with_reducible have gL := blk_of hba (box_alloc (o' := (.cells #[.int .i64 kind, .int .i64 at_, .string name, .string value, .int .i64 a, .int .i64 b, .int .i64 c, .int .i64 d, .slice KA kids.length kc, .int .i64 kind2, .int .i64 at2, .string name2, .string value2, .int .i64 a2, .int .i64 b2, .int .i64 c2, .int .i64 d2, .slice KA2 kids2.length kc2] 32 (0, 0))) (heap_alloc_new _ (.cells #[.slice none 0 0, .slice none 0 0] 45 (0, 0))))) | (with_reducible have gL := blk_of hba gL) | (with_reducible have gL := blk_of hba (box_alloc (o' := (.cells #[.int .i64 kind, .int .i64 at_, .string name, .string value, .int .i64 a, .int .i64 b, .int .i64 c, .int .i64 d, .slice KA kids.length kc, .int .i64 kind2, .int .i64 at2, .string name2, .string value2, .int .i64 a2, .int .i64 b2, .int .i64 c2, .int .i64 d2, .slice KA2 kids2.length kc2] 32 (0, 0))) gL)) | skip); (try simp only [World.size_alloc, drew_size] at gL); (first | (with_reducible have gF := blk_of hba (heap_alloc_new _ (.cells #[.int .i64 kind, .int .i64 at_, .string name, .string value, .int .i64 a, .int .i64 b, .int .i64 c, .int .i64 d, .slice KA kids.length kc, .int .i64 kind2, .int .i64 at2, .string name2, .string value2, .int .i64 a2, .int .i64 b2, .int .i64 c2, .int .i64 d2, .slice KA2 kids2.length kc2] 32 (0, 0)))) | (with_reducible have gF := blk_of hba (box_alloc (o' := (.cells #[.slice none 0 0, .slice none 0 0] 45 (0, 0))) (heap_alloc_new _ (.cells #[.int .i64 kind, .int .i64 at_, .string name, .string value, .int .i64 a, .int .i64 b, .int .i64 c, .int .i64 d, .slice KA kids.length kc, .int .i64 kind2, .int .i64 at2, .string name2, .string value2, .int .i64 a2, .int .i64 b2, .int .i64 c2, .int .i64 d2, .slice KA2 kids2.length kc2] 32 (0, 0))))) | (with_reducible have gF := blk_of hba gF) | (with_reducible have gF := blk_of hba (box_alloc (o' := (.cells #[.slice none 0 0, .slice none 0 0] 45 (0, 0))) gF)) | skip); (try simp only [World.size_alloc, drew_size] at gF))
                    | (go_at_call 27; refine (HNA.out _ _).mono ?_; rintro e wk ⟨K, rfl, hK, hkr, hbk⟩; have kk := HH3.out wk (bstep (And.left (by with_reducible assumption)) hbk); have zk := kk.1.size; (first | (with_reducible have hsrc := src_of hbk hsrc) | (with_reducible have hsrc := src_of hbk (src_al hsrc)) | (with_reducible have hsrc := src_of hbk (src_al (src_al hsrc)))); (first | (with_reducible have gL := blk_of hbk (heap_alloc_new _ (.cells #[.slice none 0 0, .slice none 0 0] 45 (0, 0)))) | (with_reducible have gL := blk_of hbk (box_alloc (o' := (.cells #[.int .i64 kind, .int .i64 at_, .string name, .string value, .int .i64 a, .int .i64 b, .int .i64 c, .int .i64 d, .slice KA kids.length kc, .int .i64 kind2, .int .i64 at2, .string name2, .string value2, .int .i64 a2, .int .i64 b2, .int .i64 c2, .int .i64 d2, .slice KA2 kids2.length kc2] 32 (0, 0))) (heap_alloc_new _ (.cells #[.slice none 0 0, .slice none 0 0] 45 (0, 0))))) | (with_reducible have gL := blk_of hbk gL) | (with_reducible have gL := blk_of hbk (box_alloc (o' := (.cells #[.int .i64 kind, .int .i64 at_, .string name, .string value, .int .i64 a, .int .i64 b, .int .i64 c, .int .i64 d, .slice KA kids.length kc, .int .i64 kind2, .int .i64 at2, .string name2, .string value2, .int .i64 a2, .int .i64 b2, .int .i64 c2, .int .i64 d2, .slice KA2 kids2.length kc2] 32 (0, 0))) gL)) | skip); (try simp only [World.size_alloc, drew_size] at gL); (first | (with_reducible have gF := blk_of hbk (heap_alloc_new _ (.cells #[.int .i64 kind, .int .i64 at_, .string name, .string value, .int .i64 a, .int .i64 b, .int .i64 c, .int .i64 d, .slice KA kids.length kc, .int .i64 kind2, .int .i64 at2, .string name2, .string value2, .int .i64 a2, .int .i64 b2, .int .i64 c2, .int .i64 d2, .slice KA2 kids2.length kc2] 32 (0, 0)))) | (with_reducible have gF := blk_of hbk (box_alloc (o' := (.cells #[.slice none 0 0, .slice none 0 0] 45 (0, 0))) (heap_alloc_new _ (.cells #[.int .i64 kind, .int .i64 at_, .string name, .string value, .int .i64 a, .int .i64 b, .int .i64 c, .int .i64 d, .slice KA kids.length kc, .int .i64 kind2, .int .i64 at2, .string name2, .string value2, .int .i64 a2, .int .i64 b2, .int .i64 c2, .int .i64 d2, .slice KA2 kids2.length kc2] 32 (0, 0))))) | (with_reducible have gF := blk_of hbk gF) | (with_reducible have gF := blk_of hbk (box_alloc (o' := (.cells #[.slice none 0 0, .slice none 0 0] 45 (0, 0))) gF)) | skip); (try simp only [World.size_alloc, drew_size] at gF))
                    | (go_at_call 17; refine (HTA2.out _ _ _ _ (bstep HBB3.out (And.left (by with_reducible assumption))) (Nat.le_trans HBB3.out.size hM3) (by first | with_reducible exact hsrc | with_reducible exact src_al hsrc | with_reducible exact src_al (src_al hsrc)) (by first | with_reducible exact hkr | with_reducible exact box_alloc hkr | with_reducible exact box_alloc (box_alloc hkr)) (by first | with_reducible exact gF | with_reducible exact box_alloc gF | with_reducible exact box_alloc (box_alloc gF))).mono ?_; rintro e wb ⟨XA3, xl3, xc3, YA3, yl3, yc3, er3, rfl, hres, hbut⟩; have kb := HH3.out wb (but_step (And.left (by with_reducible assumption)) hbut hM3); (first | (with_reducible have gL := but_box hbut hsrc gL (by decide)) | (with_reducible have gL := but_box hbut (src_al hsrc) (heap_alloc_new _ (.cells #[.slice none 0 0, .slice none 0 0] 45 (0, 0))) (by decide)) | (with_reducible have gL := but_box hbut (src_al (src_al hsrc)) (heap_alloc_new _ (.cells #[.slice none 0 0, .slice none 0 0] 45 (0, 0))) (by decide)) | (with_reducible have gL := but_box hbut (src_al (src_al hsrc)) (box_alloc (o' := (.cells #[.int .i64 kind, .int .i64 at_, .string name, .string value, .int .i64 a, .int .i64 b, .int .i64 c, .int .i64 d, .slice KA kids.length kc, .int .i64 kind2, .int .i64 at2, .string name2, .string value2, .int .i64 a2, .int .i64 b2, .int .i64 c2, .int .i64 d2, .slice KA2 kids2.length kc2] 32 (0, 0))) (heap_alloc_new _ (.cells #[.slice none 0 0, .slice none 0 0] 45 (0, 0)))) (by decide)) | (with_reducible have gL := but_box hbut (src_al hsrc) (box_alloc (o' := (.cells #[.int .i64 kind, .int .i64 at_, .string name, .string value, .int .i64 a, .int .i64 b, .int .i64 c, .int .i64 d, .slice KA kids.length kc, .int .i64 kind2, .int .i64 at2, .string name2, .string value2, .int .i64 a2, .int .i64 b2, .int .i64 c2, .int .i64 d2, .slice KA2 kids2.length kc2] 32 (0, 0))) gL) (by decide)) | skip); (try simp only [World.size_alloc, drew_size] at gL); (try (obtain ⟨u0, u1⟩ := boxT2 gL; obtain ⟨u2, u3⟩ := box2_frozen gL; have u4 := box_lt gL))))
                all_goals (go_wp2_with fail; go_meet; first | exact ⟨_, _, tru_fin hres gL kb.1 (by omega)⟩ | exact ⟨_, _, tru_fin_al hres kb.1⟩)
              case rest =>
                obtain ⟨K3, KB3, N3, XA3, xl3, xc3, YA3, yl3, yc3, er3, rfl, rfl, hg3, hN3, hs3, hr3⟩ := hcut
                obtain ⟨w4, rfl⟩ : ∃ x : World, x = wc := ⟨_, rfl⟩
                have HB4 := hide (bstep HB3.out hr3)
                have HBB4 := hide (bstep HBB3.out hr3)
                rcases hs3 with ⟨hng, her⟩ | ⟨-, rfl, xs3, ys3, rfl, rfl, ix3, iy3, hst3⟩
                · exact absurd (good_not (good_bin (.inl rfl) HGD.out HGD2.out)) hng
                have HIX3 := hide (And.intro ix3 iy3)
                have HD3 := hide (duals_a HGD.out.2.1 HGD2.out.2.1 HST.out HST2.out hst3)
                have HN3 := hide (And.intro hst3.nx hst3.ny)
                have HG3 := hide hg3
                have HG14 := hide ((hr3.block _ (box_lt HG13.out)).trans HG13.out)
                have HG24 := hide ((hr3.block _ (box_lt HG23.out)).trans HG23.out)
                have HIXb := hide (And.intro (HIX.out.1.step hr3) (HIX.out.2.step hr3))
                have HIX2b := hide (And.intro (HIX2.out.1.step hr3) (HIX2.out.2.step hr3))
                clear hr3 hN3 ix3 iy3 hst3 hg3 HH3 HG13 HG23 HIX HIX2
                have HH4 := hide (wnn_held ((HB4.out.block _ (box_lt HG0.out)).trans HG0.out) ((HB4.out.block _ (box_lt HG1.out)).trans HG1.out) ((HB4.out.block _ (box_lt HG2.out)).trans HG2.out))
                go_upto_region 9 with (fail)
                go_cut [18, 19] (fun p q wx => ∃ K1 K2 KB : Nat, TruBox v (binN 30 KB (notN K1 n) (notN K2 m)) f t w4 wx p q)
                case first =>
                  have k0 := HH4.out w4.drew (below_drew (Below.refl _ _))
                  go_region_held3 (fun wx => Below w4.heap.size w4 wx ∧ wx.cell? ⟨w.heap.size, 0, none⟩ = some (.slice A sigs.length cA) ∧ wx.cell? ⟨w.heap.size, 1, none⟩ = some (.slice G gn cG) ∧ wx.cell? ⟨w.heap.size, 2, none⟩ = some (.int .i64 fin) ∧ wx.cell? ⟨w.heap.size + 1, 0, none⟩ = some (.int .i64 kind) ∧ wx.cell? ⟨w.heap.size + 1, 1, none⟩ = some (.int .i64 at_) ∧ wx.cell? ⟨w.heap.size + 1, 2, none⟩ = some (.string name) ∧ wx.cell? ⟨w.heap.size + 1, 3, none⟩ = some (.string value) ∧ wx.cell? ⟨w.heap.size + 1, 4, none⟩ = some (.int .i64 a) ∧ wx.cell? ⟨w.heap.size + 1, 5, none⟩ = some (.int .i64 b) ∧ wx.cell? ⟨w.heap.size + 1, 6, none⟩ = some (.int .i64 c) ∧ wx.cell? ⟨w.heap.size + 1, 7, none⟩ = some (.int .i64 d) ∧ wx.cell? ⟨w.heap.size + 1, 8, none⟩ = some (.slice KA kids.length kc) ∧ wx.cell? ⟨w.heap.size + 1 + 1, 0, none⟩ = some (.int .i64 kind2) ∧ wx.cell? ⟨w.heap.size + 1 + 1, 1, none⟩ = some (.int .i64 at2) ∧ wx.cell? ⟨w.heap.size + 1 + 1, 2, none⟩ = some (.string name2) ∧ wx.cell? ⟨w.heap.size + 1 + 1, 3, none⟩ = some (.string value2) ∧ wx.cell? ⟨w.heap.size + 1 + 1, 4, none⟩ = some (.int .i64 a2) ∧ wx.cell? ⟨w.heap.size + 1 + 1, 5, none⟩ = some (.int .i64 b2) ∧ wx.cell? ⟨w.heap.size + 1 + 1, 6, none⟩ = some (.int .i64 c2) ∧ wx.cell? ⟨w.heap.size + 1 + 1, 7, none⟩ = some (.int .i64 d2) ∧ wx.cell? ⟨w.heap.size + 1 + 1, 8, none⟩ = some (.slice KA2 kids2.length kc2))
                    (first | (with_reducible assumption) | exact k0 | exact HH4.out _ (below_al (And.left (by with_reducible assumption)) _) | exact HH4.out _ (below_s2 (And.left (by with_reducible assumption)) (by omega) _ _))
                    (first
                      | (go_at_call 14; refine (HNEW.out _ (bstep HBB4.out (And.left (by with_reducible assumption)))).mono ?_; rintro e wa ⟨M, rfl, hM, hsrc, hba⟩; have hM3 := Nat.le_trans (Below.size (And.left (by with_reducible assumption))) hM; have ka := HH4.out wa (bstep (And.left (by with_reducible assumption)) hba); have za := ka.1.size; (first | (with_reducible have gL := blk_of hba (heap_alloc_new _ (.cells #[.slice none 0 0, .slice none 0 0] 45 (0, 0)))) | (with_reducible have gL := blk_of hba gL) | skip); (try simp only [World.size_alloc, drew_size] at gL); skip)
                      | (go_at_call_of 27 kids; refine (HN1.out _).mono ?_; rintro e wk ⟨K1, rfl, hK1, hk1, hbk⟩; have kk := HH4.out wk (bstep (And.left (by with_reducible assumption)) hbk); have zk := kk.1.size; (first | (with_reducible have hsrc := src_of hbk hsrc) | (with_reducible have hsrc := src_of hbk (src_al hsrc)) | (with_reducible have hsrc := src_of hbk (src_al (src_al hsrc)))); (first | (with_reducible have gL := blk_of hbk (heap_alloc_new _ (.cells #[.slice none 0 0, .slice none 0 0] 45 (0, 0)))) | (with_reducible have gL := blk_of hbk gL) | skip); (try simp only [World.size_alloc, drew_size] at gL); skip)
                      | (go_at_call_of 27 kids2; refine (HN2.out _).mono ?_; rintro e wl ⟨K2, rfl, hK2, hk2, hbl⟩; have kl := HH4.out wl (bstep (And.left (by with_reducible assumption)) hbl); have zl := kl.1.size; (first | (with_reducible have hsrc := src_of hbl hsrc) | (with_reducible have hsrc := src_of hbl (src_al hsrc)) | (with_reducible have hsrc := src_of hbl (src_al (src_al hsrc)))); (first | (with_reducible have gL := blk_of hbl (heap_alloc_new _ (.cells #[.slice none 0 0, .slice none 0 0] 45 (0, 0)))) | (with_reducible have gL := blk_of hbl gL) | skip); (try simp only [World.size_alloc, drew_size] at gL); skip; have hk1 := (by first | with_reducible exact blk_of hbl hk1 | with_reducible exact blk_of hbl (box_alloc hk1) : wl.heap[K1]? = _))
                      | (go_at_call 17; refine (HTB2.out _ _ _ _ _ (bstep HBB4.out (And.left (by with_reducible assumption))) (Nat.le_trans HBB4.out.size hM3) (by first | with_reducible exact hsrc | with_reducible exact src_al hsrc | with_reducible exact src_al (src_al hsrc)) (by first | with_reducible exact hk1 | with_reducible exact box_alloc hk1 | with_reducible exact box_alloc (box_alloc hk1)) (by first | with_reducible exact hk2 | with_reducible exact box_alloc hk2 | with_reducible exact box_alloc (box_alloc hk2)) (by first | with_reducible exact heap_alloc_new _ _ | with_reducible exact box_alloc (heap_alloc_new _ _) | exact heap_at (by simp [World.size_alloc]))).mono ?_; rintro e wb ⟨XA3, xl3, xc3, YA3, yl3, yc3, er3, rfl, hres, hbut⟩; have kb := HH4.out wb (but_step (And.left (by with_reducible assumption)) hbut hM3); (first | (with_reducible have gL := but_box hbut hsrc gL (by decide)) | (with_reducible have gL := but_box hbut (src_al hsrc) (heap_alloc_new _ (.cells #[.slice none 0 0, .slice none 0 0] 45 (0, 0))) (by decide)) | (with_reducible have gL := but_box hbut (src_al (src_al hsrc)) (heap_alloc_new _ (.cells #[.slice none 0 0, .slice none 0 0] 45 (0, 0))) (by decide)) | (with_reducible have gL := but_box hbut (src_al (src_al hsrc)) (box_alloc (o' := (.cells #[.int .i64 28, .int .i64 0, .string ⟨#[]⟩, .string ⟨#[]⟩, .int .i64 0, .int .i64 0, .int .i64 0, .int .i64 0, .slice (some ⟨K1, 0, none⟩) 1 1, .int .i64 28, .int .i64 0, .string ⟨#[]⟩, .string ⟨#[]⟩, .int .i64 0, .int .i64 0, .int .i64 0, .int .i64 0, .slice (some ⟨K2, 0, none⟩) 1 1] 32 (0, 0))) (heap_alloc_new _ (.cells #[.slice none 0 0, .slice none 0 0] 45 (0, 0)))) (by decide)) | (with_reducible have gL := but_box hbut (src_al hsrc) (box_alloc (o' := (.cells #[.int .i64 28, .int .i64 0, .string ⟨#[]⟩, .string ⟨#[]⟩, .int .i64 0, .int .i64 0, .int .i64 0, .int .i64 0, .slice (some ⟨K1, 0, none⟩) 1 1, .int .i64 28, .int .i64 0, .string ⟨#[]⟩, .string ⟨#[]⟩, .int .i64 0, .int .i64 0, .int .i64 0, .int .i64 0, .slice (some ⟨K2, 0, none⟩) 1 1] 32 (0, 0))) gL) (by decide)) | skip); (try simp only [World.size_alloc, drew_size] at gL); (try (obtain ⟨u0, u1⟩ := boxT2 gL; obtain ⟨u2, u3⟩ := box2_frozen gL; have u4 := box_lt gL))))
                  all_goals (go_wp2_with fail; go_meet; first | exact ⟨_, _, _, tru_fin hres gL kb.1 (by omega)⟩ | exact ⟨_, _, _, tru_fin_al hres kb.1⟩)
                case rest =>
                  obtain ⟨K4, KC4, KB4, N4, XA4, xl4, xc4, YA4, yl4, yc4, er4, rfl, rfl, hg4, hN4, hs4, hr4⟩ := hcut
                  obtain ⟨w5, rfl⟩ : ∃ x : World, x = wc := ⟨_, rfl⟩
                  have HBB5 := hide (bstep HBB4.out hr4)
                  rcases hs4 with ⟨hng, her⟩ | ⟨-, rfl, xs4, ys4, rfl, rfl, ix4, iy4, hst4⟩
                  · exact absurd (good_bin (.inr rfl) (good_not HGD.out) (good_not HGD2.out)) hng
                  have HIX4 := hide (And.intro ix4 iy4)
                  have HD4 := hide (duals_b HGD.out.2.1 HGD2.out.2.1 HST.out HST2.out hst4)
                  have HN4 := hide (And.intro hst4.nx hst4.ny)
                  have HIX1 := hide (And.intro (HIXb.out.1.step hr4) (HIXb.out.2.step hr4))
                  have HIX2 := hide (And.intro (HIX2b.out.1.step hr4) (HIX2b.out.2.step hr4))
                  have HIX3c := hide (And.intro (HIX3.out.1.step hr4) (HIX3.out.2.step hr4))
                  have HB := hide (four_boxes ((hr4.block _ (box_lt HG14.out)).trans HG14.out) ((hr4.block _ (box_lt HG24.out)).trans HG24.out) ((hr4.block _ (box_lt HG3.out)).trans HG3.out) hg4)
                  clear hr4 hN4 ix4 iy4 hst4 hg4 HH4 HG14 HG24 HG3 HIXb HIX2b HIX3
                  obtain ⟨p0, p1, p2, p3, p4, p5, p6, p7, -⟩ := HB.out w5 (Below.refl _ _)
                  have lx1 := hide (show xs.length ≤ 4398046511104 from by have := norm_len HST.out.nx; omega)
                  have ly1 := hide (show ys.length ≤ 4398046511104 from by have := norm_len HST.out.ny; omega)
                  have lx2 := hide (show xs2.length ≤ 4398046511104 from by have := norm_len HST2.out.nx; omega)
                  have ly2 := hide (show ys2.length ≤ 4398046511104 from by have := norm_len HST2.out.ny; omega)
                  clear HTA2 HTB2 HNA HN1 HN2 HNEW HB0 HB1 HB2 HB3 HB4 HG0 HG1 HG2 HH p0 p1 p2 p3 p4 p5 p6 p7
                  go_upto_region 10 with (fail)
                  have kS := HB.out w5.drew (below_drew (Below.refl _ _))
                  have r0 := below_drew (Below.refl w5.heap.size w5)
                  go_region_held3 (fun wx => wx.cell? ⟨N1, 0, none⟩ = some (.slice XA xs.length xc) ∧ wx.cell? ⟨N1, 1, none⟩ = some (.slice YA ys.length yc) ∧ wx.cell? ⟨N2, 0, none⟩ = some (.slice XA2 xs2.length xc2) ∧ wx.cell? ⟨N2, 1, none⟩ = some (.slice YA2 ys2.length yc2) ∧ wx.cell? ⟨N3, 0, none⟩ = some (.slice XA3 xs3.length xc3) ∧ wx.cell? ⟨N3, 1, none⟩ = some (.slice YA3 ys3.length yc3) ∧ wx.cell? ⟨N4, 0, none⟩ = some (.slice XA4 xs4.length xc4) ∧ wx.cell? ⟨N4, 1, none⟩ = some (.slice YA4 ys4.length yc4) ∧ Below w5.heap.size w5 wx)
                    (first | (with_reducible assumption) | exact kS)
                    (first
                      | (go_at_call_of 18 xs4; refine (tsame_true XA3 YA3 XA4 YA4 xc3 yc3 xc4 yc4 xs3 ys3 xs4 ys4 w5.drew (HIX3c.out.1.step r0) (HIX3c.out.2.step r0) (HIX4.out.1.step r0) (HIX4.out.2.step r0) HN3.out.1 HN3.out.2 HN4.out.1 HN4.out.2 (fun z => (HD3.out.1 z).trans (HD4.out.1 z).symm) (fun z => (HD3.out.2 z).trans (HD4.out.2 z).symm)).mono ?_; rintro e w6 ⟨rfl, b6⟩; have h6 := bstep r0 b6; have s6 := HB.out w6 h6)
                      | (go_at_call 29; refine (tand_any XA YA XA2 YA2 xc yc xc2 yc2 xs ys xs2 ys2 w6 (HIX1.out.1.step h6) (HIX1.out.2.step h6) (HIX2.out.1.step h6) (HIX2.out.2.step h6) lx1.out ly1.out lx2.out ly2.out).mono ?_; rintro e w7 ⟨A7, c7, x7, B7, d7, y7, rfl, ox7, oy7, b7, nx7, ny7, mx7, my7⟩; have MX7 := hide mx7; have MY7 := hide my7; clear mx7 my7; have h7 := bstep h6 b7; have s7 := HB.out w7 h7)
                      | (go_at_call 28; refine (tnot_any A7 B7 c7 d7 x7 y7 w7 ox7.ats oy7.ats (by have := norm_len nx7; omega) (by have := norm_len ny7; omega)).mono ?_; rintro e w8 ⟨A8, c8, x8, B8, d8, y8, rfl, ox8, oy8, b8, nx8, ny8, mx8, my8⟩; have MX8 := hide mx8; have MY8 := hide my8; clear mx8 my8; have h8 := bstep h7 b8; have s8 := HB.out w8 h8)
                      | (go_at_call_of 18 x8; refine (tsame_true XA3 YA3 A8 B8 xc3 yc3 c8 d8 xs3 ys3 x8 y8 w8 (HIX3c.out.1.step h8) (HIX3c.out.2.step h8) ox8.ats oy8.ats HN3.out.1 HN3.out.2 nx8 ny8 (fun z => (HD3.out.1 z).trans ((MX8.out z).trans (MY7.out z)).symm) (fun z => (HD3.out.2 z).trans ((MY8.out z).trans (MX7.out z)).symm)).mono ?_; rintro e w9 ⟨rfl, b9⟩; have h9 := bstep h8 b9; have s9 := HB.out w9 h9))
                  clear kS r0 b6 h6 s6 ox7 oy7 b7 nx7 ny7 MX7 MY7 h7 s7 ox8 oy8 b8 nx8 ny8 MX8 MY8 h8 s8 b9
                  have H9 := hide h9
                  clear h9 s9
                  go_upto_region 12 with (fail)
                  have kS := HB.out w9.drew (below_drew H9.out)
                  have r0 := below_drew H9.out
                  go_region_held3 (fun wx => wx.cell? ⟨N1, 0, none⟩ = some (.slice XA xs.length xc) ∧ wx.cell? ⟨N1, 1, none⟩ = some (.slice YA ys.length yc) ∧ wx.cell? ⟨N2, 0, none⟩ = some (.slice XA2 xs2.length xc2) ∧ wx.cell? ⟨N2, 1, none⟩ = some (.slice YA2 ys2.length yc2) ∧ wx.cell? ⟨N3, 0, none⟩ = some (.slice XA3 xs3.length xc3) ∧ wx.cell? ⟨N3, 1, none⟩ = some (.slice YA3 ys3.length yc3) ∧ wx.cell? ⟨N4, 0, none⟩ = some (.slice XA4 xs4.length xc4) ∧ wx.cell? ⟨N4, 1, none⟩ = some (.slice YA4 ys4.length yc4) ∧ Below w5.heap.size w5 wx)
                    (first | (with_reducible assumption) | exact kS)
                    (first
                      | (go_at_call_of 28 xs2; refine (tnot_any XA2 YA2 xc2 yc2 xs2 ys2 w11 (HIX2.out.1.step h11) (HIX2.out.2.step h11) lx2.out ly2.out).mono ?_; rintro e w12 ⟨A12, c12, x12, B12, d12, y12, rfl, ox12, oy12, b12, nx12, ny12, mx12, my12⟩; have MX12 := hide mx12; have MY12 := hide my12; clear mx12 my12; have h12 := bstep h11 b12; have s12 := HB.out w12 h12)
                      | (go_at_call 30; refine (tor_any A11 B11 A12 B12 c11 d11 c12 d12 x11 y11 x12 y12 w12 (ox11.ats.step b12) (oy11.ats.step b12) ox12.ats oy12.ats (by have := norm_len nx11; omega) (by have := norm_len ny11; omega) (by have := norm_len nx12; omega) (by have := norm_len ny12; omega)).mono ?_; rintro e w13 ⟨A13, c13, x13, B13, d13, y13, rfl, ox13, oy13, b13, nx13, ny13, mx13, my13⟩; have MX13 := hide mx13; have MY13 := hide my13; clear mx13 my13; have h13 := bstep h12 b13; have s13 := HB.out w13 h13)
                      | (go_at_call_of 18 x13; refine (tsame_true XA3 YA3 A13 B13 xc3 yc3 c13 d13 xs3 ys3 x13 y13 w13 (HIX3c.out.1.step h13) (HIX3c.out.2.step h13) ox13.ats oy13.ats HN3.out.1 HN3.out.2 nx13 ny13 (fun z => (HD3.out.1 z).trans ((MX13.out z).trans (or_congr (MX11.out z) (MX12.out z))).symm) (fun z => (HD3.out.2 z).trans ((MY13.out z).trans (and_congr (MY11.out z) (MY12.out z))).symm)).mono ?_; rintro e w14 ⟨rfl, b14⟩; have h14 := bstep h13 b14; have s14 := HB.out w14 h14)
                      | (go_at_call_of 28 x15; refine (tnot_any A15 B15 c15 d15 x15 y15 w15 ox15.ats oy15.ats (by have := norm_len nx15; omega) (by have := norm_len ny15; omega)).mono ?_; rintro e w16 ⟨A16, c16, x16, B16, d16, y16, rfl, ox16, oy16, b16, nx16, ny16, mx16, my16⟩; have MX16 := hide mx16; have MY16 := hide my16; clear mx16 my16; have h16 := bstep h15 b16; have s16 := HB.out w16 h16)
                      | (go_at_call_of 28 xs; refine (tnot_any XA YA xc yc xs ys w14 (HIX1.out.1.step h14) (HIX1.out.2.step h14) lx1.out ly1.out).mono ?_; rintro e w15 ⟨A15, c15, x15, B15, d15, y15, rfl, ox15, oy15, b15, nx15, ny15, mx15, my15⟩; have MX15 := hide mx15; have MY15 := hide my15; clear mx15 my15; have h15 := bstep h14 b15; have s15 := HB.out w15 h15)
                      | (go_at_call_of 28 xs; refine (tnot_any XA YA xc yc xs ys w9.drew (HIX1.out.1.step r0) (HIX1.out.2.step r0) lx1.out ly1.out).mono ?_; rintro e w11 ⟨A11, c11, x11, B11, d11, y11, rfl, ox11, oy11, b11, nx11, ny11, mx11, my11⟩; have MX11 := hide mx11; have MY11 := hide my11; clear mx11 my11; have h11 := bstep r0 b11; have s11 := HB.out w11 h11)
                      | (go_at_call_of 18 x16; refine (tsame_true A16 B16 XA YA c16 d16 xc yc x16 y16 xs ys w16 ox16.ats oy16.ats (HIX1.out.1.step h16) (HIX1.out.2.step h16) nx16 ny16 HST.out.nx HST.out.ny (fun z => (MX16.out z).trans (MY15.out z)) (fun z => (MY16.out z).trans (MX15.out z))).mono ?_; rintro e w17 ⟨rfl, b17⟩; have h17 := bstep h16 b17; have s17 := HB.out w17 h17)
                      | (go_at_call 9; refine (awake51 w17).mono ?_; rintro e w18 ⟨rfl, b18⟩; have h18 := bstep h17 b18; have s18 := HB.out w18 h18))
                  go_wp2_with fail
                  go_ret
                  exact ⟨rfl, bstep HBB5.out h18⟩

end Go.Proofs.YtdlebcijgdkfjaaGreatDoor
