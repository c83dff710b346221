/-
  Several texts in one: LawParts51. Each says at its head what it holds.
-/
import Derived.Test.YtdlebcijgdkfjaaGreatDoorCP2
import Derived.Test.YtdlebcijgdkfjaaGreatDoorCR14
import Derived.Test.YtdlebcijgdkfjaaGreatDoorCR29
import Derived.Test.YtdlebcijgdkfjaaGreatDoorCR11
import Derived.Test.YtdlebcijgdkfjaaGreatDoorCR13

/-
  wavestorelaw51.ConditionParts, walked.
-/
namespace Go.Proofs.YtdlebcijgdkfjaaGreatDoor
open Go.RowKit

theorem box3x {w : World} {N : Nat} {a b c : Value} {t : TypeId} (h : w.heap[N]? = some (.cells #[a, b, c] t (0, 0))) : w.cell? ⟨N, 0, none⟩ = some a ∧ w.cell? ⟨N, 1, none⟩ = some b ∧ w.cell? ⟨N, 2, none⟩ = some c := by
  refine ⟨?_, ?_, ?_⟩ <;> (rw [cell_of_row w N _ _ t (0, 0) h]; rfl)

/-- three boxes of conditions that lie below -/
theorem parts_boxes {W0 : World} {N M K : Nat} {a b c d e f : Value} {t t' t'' : TypeId} (h0 : W0.heap[N]? = some (.cells #[a, b] t (0, 0))) (h1 : W0.heap[M]? = some (.cells #[c, d] t' (0, 0))) (h2 : W0.heap[K]? = some (.cells #[e, f] t'' (0, 0))) (W : World) (hb : Below W0.heap.size W0 W) :
    W.cell? ⟨N, 0, none⟩ = some a ∧ W.cell? ⟨N, 1, none⟩ = some b ∧ W.cell? ⟨M, 0, none⟩ = some c ∧ W.cell? ⟨M, 1, none⟩ = some d ∧ W.cell? ⟨K, 0, none⟩ = some e ∧ W.cell? ⟨K, 1, none⟩ = some f ∧ Below W0.heap.size W0 W :=
  ⟨(boxT2 ((hb.block _ (box_lt h0)).trans h0)).1, (boxT2 ((hb.block _ (box_lt h0)).trans h0)).2, (boxT2 ((hb.block _ (box_lt h1)).trans h1)).1, (boxT2 ((hb.block _ (box_lt h1)).trans h1)).2, (boxT2 ((hb.block _ (box_lt h2)).trans h2)).1, (boxT2 ((hb.block _ (box_lt h2)).trans h2)).2, hb⟩
theorem apart_nil {v : Wv} {n : Nd} {f t : Int} {xs ys z : List Iv} (h : SetsT v n f t xs ys) (hn : Norm z) (hm : ∀ x, Mem z x ↔ Mem xs x ∧ Mem ys x) : z = [] := by
  refine norm_ext hn Norm.nil fun x => ⟨fun hx => ?_, fun hx => absurd hx (mem_nil x)⟩
  obtain ⟨h1, h2⟩ := (hm x).1 hx
  have h1 := ((h.mx x).1 h1).2.2
  have h2 := ((h.my x).1 h2).2.2
  rw [h1] at h2
  cases h2
theorem setW_part {v : Wv} {n : Nd} {f t fi la : Int} (hq : f ≤ fi ∧ fi ≤ la ∧ la ≤ t) (u : ByteArray) (x : Int) : setW v n fi la u x ↔ fi ≤ x ∧ x ≤ la ∧ setW v n f t u x :=
  ⟨fun h => ⟨h.1, h.2.1, Int.le_trans hq.1 h.1, Int.le_trans h.2.1 hq.2.2, h.2.2⟩, fun h => ⟨h.1, h.2.1, h.2.2.2.2⟩⟩
theorem part_x {v : Wv} {n : Nd} {f t fi la : Int} {xs ys xs' ys' z : List Iv} (h : SetsT v n f t xs ys) (h' : SetsT v n fi la xs' ys') (hq : f ≤ fi ∧ fi ≤ la ∧ la ≤ t) (hm : ∀ x, Mem z x ↔ fi ≤ x ∧ x ≤ la ∧ Mem xs x) (x : Int) : Mem xs' x ↔ Mem z x := by
  rw [hm, h.mx, h'.mx, setW_part hq]
theorem part_y {v : Wv} {n : Nd} {f t fi la : Int} {xs ys xs' ys' z : List Iv} (h : SetsT v n f t xs ys) (h' : SetsT v n fi la xs' ys') (hq : f ≤ fi ∧ fi ≤ la ∧ la ≤ t) (hm : ∀ x, Mem z x ↔ fi ≤ x ∧ x ≤ la ∧ Mem ys x) (x : Int) : Mem ys' x ↔ Mem z x := by
  rw [hm, h.my, h'.my, setW_part hq]
theorem single {xs : List Iv} {la : Int} (hn : Norm xs) (ho : ∀ x, Mem xs x → x = la) : (xs.length : Int) = 1 ↔ Mem xs la := by
  cases xs with
  | nil => exact ⟨(fun h => absurd h (by simp)), (fun h => absurd h (mem_nil la))⟩
  | cons a l =>
    obtain ⟨ha, hl, hn'⟩ := norm_cons.1 hn
    have m1 : Mem (a :: l) a.1 := mem_cons.2 (.inl ⟨ha.1, by have := ha.2; omega, Int.le_refl _, ha.2.1⟩)
    have e1 := ho _ m1
    cases l with
    | nil => exact ⟨fun _ => by rw [← e1]; exact m1, fun _ => rfl⟩
    | cons b l =>
      obtain ⟨hb, _, _⟩ := norm_cons.1 hn'
      have m2 : Mem (a :: b :: l) b.1 := mem_cons.2 (.inr (mem_cons.2 (.inl ⟨hb.1, by have := hb.2; omega, Int.le_refl _, hb.2.1⟩)))
      have e2 := ho _ m2
      have := hl b (by simp)
      have := ha.2.1
      omega
theorem single_x {v : Wv} {n : Nd} {f t fi la : Int} {xs ys xs' ys' : List Iv} (h : SetsT v n f t xs ys) (h' : SetsT v n la la xs' ys') (hq : f ≤ fi ∧ fi ≤ la ∧ la ≤ t) : (((xs'.length : Int) == 1) == memT xs la) = true := by
  rw [beq_iff_eq, Bool.eq_iff_iff, beq_iff_eq, single (la := la) h'.nx (fun x hx => by have := (h'.mx x).1 hx; have hh : la ≤ x ∧ x ≤ la := ⟨this.1, this.2.1⟩; omega), memT_iff, h'.mx, h.mx, setW_part ⟨Int.le_trans hq.1 hq.2.1, Int.le_refl _, hq.2.2⟩]
  exact ⟨fun h => h.2.2, fun h => ⟨Int.le_refl _, Int.le_refl _, h⟩⟩
theorem single_y {v : Wv} {n : Nd} {f t fi la : Int} {xs ys xs' ys' : List Iv} (h : SetsT v n f t xs ys) (h' : SetsT v n la la xs' ys') (hq : f ≤ fi ∧ fi ≤ la ∧ la ≤ t) : (((ys'.length : Int) == 1) == memT ys la) = true := by
  rw [beq_iff_eq, Bool.eq_iff_iff, beq_iff_eq, single (la := la) h'.ny (fun x hx => by have := (h'.my x).1 hx; have hh : la ≤ x ∧ x ≤ la := ⟨this.1, this.2.1⟩; omega), memT_iff, h'.my, h.my, setW_part ⟨Int.le_trans hq.1 hq.2.1, Int.le_refl _, hq.2.2⟩]
  exact ⟨fun h => h.2.2, fun h => ⟨Int.le_refl _, Int.le_refl _, h⟩⟩

set_option maxRecDepth 100000 in
set_option maxHeartbeats 8000000 in
theorem parts_all (v : Wv) (gs : List (Int × Int)) (n : Nd) (f t fi la : Int) (w : World) (hS : SigsAt w (Lo w.heap.size) v.A v.sigs) (hG : Row w (Lo w.heap.size) 2 cGp v.G gs) (hgn : v.gn = gs.length) (hsz : ∀ s ∈ v.sigs, ∀ c ∈ s.chs, c.val.size ≤ 9223372036854775807)
    (ht : TreesAt w (Lo w.heap.size) n.KA n.kids) (hok : okF n) (htab : Tab w) :
    Calls Tryz.prog 6 #[.agg (cWv v).toArray, .agg (cNd n).toArray, .int .i64 f, .int .i64 t, .int .i64 fi, .int .i64 la] w fun e w' => e = .returned (.bool true) ∧ Below w.heap.size w w' := by
  have HFW := hide (fun (W : World) (hb : Below w.heap.size w W) => few51_any v gs n W (hS.grow hb) (hG.grow hb) hgn hsz (ht.grow hb))
  have HNEW := hide (fun (W : World) (hb : Below w.heap.size w W) => new_any v W (hS.grow hb))
  have HTR := hide (fun (a b : Int) (W W1 : World) (hb : Below w.heap.size w W) (hb1 : Below W.heap.size W W1) (M : Nat) (hM : W.heap.size ≤ M) (h : SourceAt W1 M v (-1) 0) (hv : SmallOk v ∧ FewOk 60 n) => truth_res v n a b M W W1 hb1 hM h hv.1 hv.2 (ht.grow hb) hok (htab.below hb))
  unfold srcV at HTR
  clear hS hG hgn hsz ht hok htab
  obtain ⟨A, cA, sigs, G, gn, cG, fin⟩ := v
  obtain ⟨kind, at_, name, value, a, b, c, d, KA, kc, kids⟩ := n
  unfold cWv cNd at *
  dsimp only at *
  generalize hvv : Wv.mk A cA sigs G gn cG fin = v at *
  generalize hnn : Nd.mk kind at_ name value a b c d KA kc kids = n at *
  clear hvv hnn
  obtain ⟨W0, hW0⟩ : ∃ W0, (w.alloc (.cells #[.slice A sigs.length cA, .slice G gn cG, .int .i64 fin] 29)).alloc (.cells #[.int .i64 kind, .int .i64 at_, .string name, .string value, .int .i64 a, .int .i64 b, .int .i64 c, .int .i64 d, .slice KA kids.length kc] 32) = W0 := ⟨_, rfl⟩
  obtain ⟨p0, p1, hb0⟩ := chain2 _ _ _ hW0
  have HB0 := hide hb0
  have HG0 := hide p0
  have HG1 := hide p1
  have HH := hide (wn_held p0 p1)
  obtain ⟨c0, c1, c2, y0, y1, y2, y3, y4, y5, y6, y7, y8, -⟩ := HH.out W0 (Below.refl _ _)
  have HW0 := hide hW0
  clear hW0 p0 p1 hb0
  go_enter Tryz.func6, Tryz.ntmps6
  go_upto_region 1 with (fail)
  rw [HW0.out]
  go_wp2_with fail
  refine (HFW.out W0 HB0.out).mono ?_
  rintro e w1 ⟨b1, rfl, hs1, hb1⟩
  have HS1 := hide hs1
  have HB1 := hide hb1
  have HBB1 := hide (bstep HB0.out hb1)
  clear hs1 hb1 c0 c1 c2 y0 y1 y2 y3 y4 y5 y6 y7 y8
  cases b1 with
  | false =>
    go_wp2_with fail
    refine (awake51 _).mono ?_
    rintro e w2 ⟨rfl, hb2⟩
    have HB2 := hide (bstep HBB1.out hb2)
    clear hb2
    go_wp2_with fail
    go_ret
    exact ⟨rfl, HB2.out⟩
  | true =>
    have HSM := hide (HS1.out rfl)
    clear HS1
    have HH1 := hide (wn_held ((HB1.out.block _ (box_lt HG0.out)).trans HG0.out) ((HB1.out.block _ (box_lt HG1.out)).trans HG1.out))
    go_upto_region 3 with (fail)
    go_cut [13, 14] (fun p q wx => TruBox v n f t w1 wx p q)
    case first =>
      have r0 : Below w1.heap.size w1 w1.drew := below_drew (Below.refl _ _)
      have k0 := HH1.out w1.drew r0
      have rc := below_al r0 (.cells #[.slice none 0 0, .slice none 0 0] 45)
      have gc := heap_alloc_new w1.drew (.cells #[.slice none 0 0, .slice none 0 0] 45)
      have zc : (w1.drew.alloc (.cells #[.slice none 0 0, .slice none 0 0] 45)).heap.size = w1.heap.size + 1 := World.size_alloc _ _
      go_region_held3 (fun wx => wx.cell? ⟨w.heap.size, 0, none⟩ = some (.slice A sigs.length cA) ∧ wx.cell? ⟨w.heap.size, 1, none⟩ = some (.slice G gn cG) ∧ wx.cell? ⟨w.heap.size, 2, none⟩ = some (.int .i64 fin) ∧ wx.cell? ⟨w.heap.size + 1, 0, none⟩ = some (.int .i64 kind) ∧ wx.cell? ⟨w.heap.size + 1, 1, none⟩ = some (.int .i64 at_) ∧ wx.cell? ⟨w.heap.size + 1, 2, none⟩ = some (.string name) ∧ wx.cell? ⟨w.heap.size + 1, 3, none⟩ = some (.string value) ∧ wx.cell? ⟨w.heap.size + 1, 4, none⟩ = some (.int .i64 a) ∧ wx.cell? ⟨w.heap.size + 1, 5, none⟩ = some (.int .i64 b) ∧ wx.cell? ⟨w.heap.size + 1, 6, none⟩ = some (.int .i64 c) ∧ wx.cell? ⟨w.heap.size + 1, 7, none⟩ = some (.int .i64 d) ∧ wx.cell? ⟨w.heap.size + 1, 8, none⟩ = some (.slice KA kids.length kc) ∧ Below w1.heap.size w1 wx)
        (first | (with_reducible assumption) | exact k0 | exact HH1.out _ rc | exact HH1.out _ (below_al r2 _) | exact HH1.out _ (below_al r3 _) | exact HH1.out _ (below_s2 (below_al r3 _) r3.size _ _) | exact HH1.out _ (below_s2 r3 r2.size _ _) | exact HH1.out _ (below_s2 r3 r0.size _ _))
        (first
          | (go_at_call 14; (first | (refine (HNEW.out w1.drew (bstep HBB1.out r0)).mono ?_; rintro e wa ⟨M, rfl, hM, hsrc, hb2⟩; have hU := bstep HBB1.out r0; have r2 := bstep r0 hb2; have hMW := Nat.le_trans r0.size hM) | (refine (HNEW.out (w1.drew.alloc (.cells #[.slice none 0 0, .slice none 0 0] 45)) (bstep HBB1.out rc)).mono ?_; rintro e wa ⟨M, rfl, hM, hsrc, hb2⟩; have hU := bstep HBB1.out rc; have r2 := bstep rc hb2; have hMW := Nat.le_trans rc.size hM)); have k2 := HH1.out wa r2; have hML := hsrc.lt; have hz2 := hb2.size)
          | (go_at_call 17; (first | refine (HTR.out f t _ wa hU hb2 M hM hsrc HSM.out).mono ?_ | refine (HTR.out f t _ (wa.alloc (.cells #[.slice none 0 0, .slice none 0 0] 45)) hU (hb2.alloc hb2.size _) M hM (hsrc.below ((Below.refl _ _).alloc (Nat.le_refl _) _)) HSM.out).mono ?_); rintro e wb ⟨XA, xl, xc, YA, yl, yc, er, rfl, hres, hbut⟩; have r3 : Below w1.heap.size w1 wb := (by first | exact but_step r2 hbut hMW | exact but_step (below_al r2 _) hbut hMW); have k3 := HH1.out wb r3; have gA := heap_alloc_new wb (.cells #[.slice none 0 0, .slice none 0 0] 45); obtain ⟨m0, m1⟩ := boxT2 gA; obtain ⟨m2, m3⟩ := box2_frozen gA; have m4 := box_lt gA; (try (have gB := box_mid hML hbut; obtain ⟨u0, u1⟩ := boxT2 gB; obtain ⟨u2, u3⟩ := box2_frozen gB; have u4 := box_lt gB)); (try (have gC := box_first hb2 hM hbut; obtain ⟨u0, u1⟩ := boxT2 gC; obtain ⟨u2, u3⟩ := box2_frozen gC; have u4 := box_lt gC))))
      all_goals (go_wp2_with fail; go_meet; first | exact tru_fin_al hres r3 | exact tru_fin hres gB r3 r2.size | exact tru_fin hres gC r3 r0.size)
    case rest =>
      obtain ⟨N1, XA, xl, xc, YA, yl, yc, er, rfl, rfl, hg1, hN1, hs1, hr1⟩ := hcut
      obtain ⟨w2, rfl⟩ : ∃ x : World, x = wc := ⟨_, rfl⟩
      have HB2 := hide (bstep HB1.out hr1)
      have HBB2 := hide (bstep HBB1.out hr1)
      clear hr1 hN1
      rcases hs1 with ⟨hng, her⟩ | ⟨hgd, rfl, xs, ys, rfl, rfl, ix, iy, hst⟩
      · have T1 : (er != 0) = true := by simp [her]
        clear hng her hg1
        go_wp2_with fail
        refine (awake51 _).mono ?_
        rintro e w3 ⟨rfl, hbz⟩
        have HBZ := hide (bstep HBB2.out hbz)
        clear hbz
        go_wp2_with fail
        go_ret
        exact ⟨rfl, HBZ.out⟩
      · have HGD := hide hgd
        have HIX := hide (And.intro ix iy)
        have HST := hide hst
        have HG2 := hide hg1
        clear hgd ix iy hst hg1
        by_cases q1 : fi < f
        · have d1 : decide (fi < f) = true := decide_eq_true q1
          clear q1
          go_wp2_with fail
          refine (awake51 _).mono ?_
          rintro e w3 ⟨rfl, hbz⟩
          have HBZ := hide (bstep HBB2.out hbz)
          clear hbz
          go_wp2_with fail
          go_ret
          exact ⟨rfl, HBZ.out⟩
        · have d1 : decide (fi < f) = false := decide_eq_false q1
          by_cases q2 : la < fi
          · have d2 : decide (la < fi) = true := decide_eq_true q2
            clear q1 q2
            go_wp2_with fail
            refine (awake51 _).mono ?_
            rintro e w3 ⟨rfl, hbz⟩
            have HBZ := hide (bstep HBB2.out hbz)
            clear hbz
            go_wp2_with fail
            go_ret
            exact ⟨rfl, HBZ.out⟩
          · have d2 : decide (la < fi) = false := decide_eq_false q2
            by_cases q3 : t < la
            · have d3 : decide (t < la) = true := decide_eq_true q3
              clear q1 q2 q3
              go_wp2_with fail
              refine (awake51 _).mono ?_
              rintro e w3 ⟨rfl, hbz⟩
              have HBZ := hide (bstep HBB2.out hbz)
              clear hbz
              go_wp2_with fail
              go_ret
              exact ⟨rfl, HBZ.out⟩
            · have d3 : decide (t < la) = false := decide_eq_false q3
              have HQ := hide (show f ≤ fi ∧ fi ≤ la ∧ la ≤ t from ⟨by omega, by omega, by omega⟩)
              clear q1 q2 q3
              have HH2 := hide (wn_held ((HB2.out.block _ (box_lt HG0.out)).trans HG0.out) ((HB2.out.block _ (box_lt HG1.out)).trans HG1.out))
              go_upto_region 6 with (fail)
              clear d1 d2 d3
              go_cut [15, 16] (fun p q wx => TruBox v n fi la w2 wx p q)
              case first =>
                have r0 : Below w2.heap.size w2 w2.drew := below_drew (Below.refl _ _)
                have k0 := HH2.out w2.drew r0
                have rc := below_al r0 (.cells #[.slice none 0 0, .slice none 0 0] 45)
                have gc := heap_alloc_new w2.drew (.cells #[.slice none 0 0, .slice none 0 0] 45)
                have zc : (w2.drew.alloc (.cells #[.slice none 0 0, .slice none 0 0] 45)).heap.size = w2.heap.size + 1 := World.size_alloc _ _
                go_region_held3 (fun wx => wx.cell? ⟨w.heap.size, 0, none⟩ = some (.slice A sigs.length cA) ∧ wx.cell? ⟨w.heap.size, 1, none⟩ = some (.slice G gn cG) ∧ wx.cell? ⟨w.heap.size, 2, none⟩ = some (.int .i64 fin) ∧ wx.cell? ⟨w.heap.size + 1, 0, none⟩ = some (.int .i64 kind) ∧ wx.cell? ⟨w.heap.size + 1, 1, none⟩ = some (.int .i64 at_) ∧ wx.cell? ⟨w.heap.size + 1, 2, none⟩ = some (.string name) ∧ wx.cell? ⟨w.heap.size + 1, 3, none⟩ = some (.string value) ∧ wx.cell? ⟨w.heap.size + 1, 4, none⟩ = some (.int .i64 a) ∧ wx.cell? ⟨w.heap.size + 1, 5, none⟩ = some (.int .i64 b) ∧ wx.cell? ⟨w.heap.size + 1, 6, none⟩ = some (.int .i64 c) ∧ wx.cell? ⟨w.heap.size + 1, 7, none⟩ = some (.int .i64 d) ∧ wx.cell? ⟨w.heap.size + 1, 8, none⟩ = some (.slice KA kids.length kc) ∧ Below w2.heap.size w2 wx)
                  (first | (with_reducible assumption) | exact k0 | exact HH2.out _ rc | exact HH2.out _ (below_al r2 _) | exact HH2.out _ (below_al r3 _) | exact HH2.out _ (below_s2 (below_al r3 _) r3.size _ _) | exact HH2.out _ (below_s2 r3 r2.size _ _) | exact HH2.out _ (below_s2 r3 r0.size _ _))
                  (first
                    | (go_at_call 14; (first | (refine (HNEW.out w2.drew (bstep HBB2.out r0)).mono ?_; rintro e wa ⟨M, rfl, hM, hsrc, hb2⟩; have hU := bstep HBB2.out r0; have r2 := bstep r0 hb2; have hMW := Nat.le_trans r0.size hM) | (refine (HNEW.out (w2.drew.alloc (.cells #[.slice none 0 0, .slice none 0 0] 45)) (bstep HBB2.out rc)).mono ?_; rintro e wa ⟨M, rfl, hM, hsrc, hb2⟩; have hU := bstep HBB2.out rc; have r2 := bstep rc hb2; have hMW := Nat.le_trans rc.size hM)); have k2 := HH2.out wa r2; have hML := hsrc.lt; have hz2 := hb2.size)
                    | (go_at_call 17; (first | refine (HTR.out fi la _ wa hU hb2 M hM hsrc HSM.out).mono ?_ | refine (HTR.out fi la _ (wa.alloc (.cells #[.slice none 0 0, .slice none 0 0] 45)) hU (hb2.alloc hb2.size _) M hM (hsrc.below ((Below.refl _ _).alloc (Nat.le_refl _) _)) HSM.out).mono ?_); rintro e wb ⟨XA, xl, xc, YA, yl, yc, er, rfl, hres, hbut⟩; have r3 : Below w2.heap.size w2 wb := (by first | exact but_step r2 hbut hMW | exact but_step (below_al r2 _) hbut hMW); have k3 := HH2.out wb r3; have gA := heap_alloc_new wb (.cells #[.slice none 0 0, .slice none 0 0] 45); obtain ⟨m0, m1⟩ := boxT2 gA; obtain ⟨m2, m3⟩ := box2_frozen gA; have m4 := box_lt gA; (try (have gB := box_mid hML hbut; obtain ⟨u0, u1⟩ := boxT2 gB; obtain ⟨u2, u3⟩ := box2_frozen gB; have u4 := box_lt gB)); (try (have gC := box_first hb2 hM hbut; obtain ⟨u0, u1⟩ := boxT2 gC; obtain ⟨u2, u3⟩ := box2_frozen gC; have u4 := box_lt gC))))
                all_goals (go_wp2_with fail; go_meet; first | exact tru_fin_al hres r3 | exact tru_fin hres gB r3 r2.size | exact tru_fin hres gC r3 r0.size)
              case rest =>
                obtain ⟨N3, XA3, xl3, xc3, YA3, yl3, yc3, er3, rfl, rfl, hg3, hN3, hs3, hr3⟩ := hcut
                obtain ⟨w3, rfl⟩ : ∃ x : World, x = wc := ⟨_, rfl⟩
                have HB3 := hide (bstep HB2.out hr3)
                have HBB3 := hide (bstep HBB2.out hr3)
                rcases hs3 with ⟨hng, her⟩ | ⟨-, rfl, xs3, ys3, rfl, rfl, ix3, iy3, hst3⟩
                · exact absurd (HGD.out.sub HQ.out.1 HQ.out.2.1 HQ.out.2.2) hng
                have HIX3 := hide (And.intro ix3 iy3)
                have HST3 := hide hst3
                have HG3 := hide hg3
                have HG23 := hide ((hr3.block _ (box_lt HG2.out)).trans HG2.out)
                have HIX23 := hide (And.intro (HIX.out.1.step hr3) (HIX.out.2.step hr3))
                clear hr3 hN3 ix3 iy3 hst3 hg3 HG2 HIX
                have HH3 := hide (wn_held ((HB3.out.block _ (box_lt HG0.out)).trans HG0.out) ((HB3.out.block _ (box_lt HG1.out)).trans HG1.out))
                go_upto_region 7 with (fail)
                go_cut [17, 18] (fun p q wx => TruBox v n la la w3 wx p q)
                case first =>
                  have r0 : Below w3.heap.size w3 w3.drew := below_drew (Below.refl _ _)
                  have k0 := HH3.out w3.drew r0
                  have rc := below_al r0 (.cells #[.slice none 0 0, .slice none 0 0] 45)
                  have gc := heap_alloc_new w3.drew (.cells #[.slice none 0 0, .slice none 0 0] 45)
                  have zc : (w3.drew.alloc (.cells #[.slice none 0 0, .slice none 0 0] 45)).heap.size = w3.heap.size + 1 := World.size_alloc _ _
                  go_region_held3 (fun wx => wx.cell? ⟨w.heap.size, 0, none⟩ = some (.slice A sigs.length cA) ∧ wx.cell? ⟨w.heap.size, 1, none⟩ = some (.slice G gn cG) ∧ wx.cell? ⟨w.heap.size, 2, none⟩ = some (.int .i64 fin) ∧ wx.cell? ⟨w.heap.size + 1, 0, none⟩ = some (.int .i64 kind) ∧ wx.cell? ⟨w.heap.size + 1, 1, none⟩ = some (.int .i64 at_) ∧ wx.cell? ⟨w.heap.size + 1, 2, none⟩ = some (.string name) ∧ wx.cell? ⟨w.heap.size + 1, 3, none⟩ = some (.string value) ∧ wx.cell? ⟨w.heap.size + 1, 4, none⟩ = some (.int .i64 a) ∧ wx.cell? ⟨w.heap.size + 1, 5, none⟩ = some (.int .i64 b) ∧ wx.cell? ⟨w.heap.size + 1, 6, none⟩ = some (.int .i64 c) ∧ wx.cell? ⟨w.heap.size + 1, 7, none⟩ = some (.int .i64 d) ∧ wx.cell? ⟨w.heap.size + 1, 8, none⟩ = some (.slice KA kids.length kc) ∧ Below w3.heap.size w3 wx)
                    (first | (with_reducible assumption) | exact k0 | exact HH3.out _ rc | exact HH3.out _ (below_al r2 _) | exact HH3.out _ (below_al r3 _) | exact HH3.out _ (below_s2 (below_al r3 _) r3.size _ _) | exact HH3.out _ (below_s2 r3 r2.size _ _) | exact HH3.out _ (below_s2 r3 r0.size _ _))
                    (first
                      | (go_at_call 14; (first | (refine (HNEW.out w3.drew (bstep HBB3.out r0)).mono ?_; rintro e wa ⟨M, rfl, hM, hsrc, hb2⟩; have hU := bstep HBB3.out r0; have r2 := bstep r0 hb2; have hMW := Nat.le_trans r0.size hM) | (refine (HNEW.out (w3.drew.alloc (.cells #[.slice none 0 0, .slice none 0 0] 45)) (bstep HBB3.out rc)).mono ?_; rintro e wa ⟨M, rfl, hM, hsrc, hb2⟩; have hU := bstep HBB3.out rc; have r2 := bstep rc hb2; have hMW := Nat.le_trans rc.size hM)); have k2 := HH3.out wa r2; have hML := hsrc.lt; have hz2 := hb2.size)
                      | (go_at_call 17; (first | refine (HTR.out la la _ wa hU hb2 M hM hsrc HSM.out).mono ?_ | refine (HTR.out la la _ (wa.alloc (.cells #[.slice none 0 0, .slice none 0 0] 45)) hU (hb2.alloc hb2.size _) M hM (hsrc.below ((Below.refl _ _).alloc (Nat.le_refl _) _)) HSM.out).mono ?_); rintro e wb ⟨XA, xl, xc, YA, yl, yc, er, rfl, hres, hbut⟩; have r3 : Below w3.heap.size w3 wb := (by first | exact but_step r2 hbut hMW | exact but_step (below_al r2 _) hbut hMW); have k3 := HH3.out wb r3; have gA := heap_alloc_new wb (.cells #[.slice none 0 0, .slice none 0 0] 45); obtain ⟨m0, m1⟩ := boxT2 gA; obtain ⟨m2, m3⟩ := box2_frozen gA; have m4 := box_lt gA; (try (have gB := box_mid hML hbut; obtain ⟨u0, u1⟩ := boxT2 gB; obtain ⟨u2, u3⟩ := box2_frozen gB; have u4 := box_lt gB)); (try (have gC := box_first hb2 hM hbut; obtain ⟨u0, u1⟩ := boxT2 gC; obtain ⟨u2, u3⟩ := box2_frozen gC; have u4 := box_lt gC))))
                  all_goals (go_wp2_with fail; go_meet; first | exact tru_fin_al hres r3 | exact tru_fin hres gB r3 r2.size | exact tru_fin hres gC r3 r0.size)
                case rest =>
                  obtain ⟨N4, XA4, xl4, xc4, YA4, yl4, yc4, er4, rfl, rfl, hg4, hN4, hs4, hr4⟩ := hcut
                  obtain ⟨w4, rfl⟩ : ∃ x : World, x = wc := ⟨_, rfl⟩
                  have HBB4 := hide (bstep HBB3.out hr4)
                  rcases hs4 with ⟨hng, her⟩ | ⟨-, rfl, xs4, ys4, rfl, rfl, ix4, iy4, hst4⟩
                  · exact absurd (HGD.out.sub (Int.le_trans HQ.out.1 HQ.out.2.1) (Int.le_refl _) HQ.out.2.2) hng
                  have HST4 := hide hst4
                  have HB := hide (parts_boxes ((hr4.block _ (box_lt HG23.out)).trans HG23.out) ((hr4.block _ (box_lt HG3.out)).trans HG3.out) hg4)
                  have HIX2 := hide (And.intro (HIX23.out.1.step hr4) (HIX23.out.2.step hr4))
                  have HIX34 := hide (And.intro (HIX3.out.1.step hr4) (HIX3.out.2.step hr4))
                  clear hr4 hN4 ix4 iy4 hst4 hg4 HG23 HG3 HIX23 HIX3 HH2 HH3 HH1 HH HG0 HG1 HB1 HB2 HB3 HFW HNEW HTR
                  obtain ⟨p0, p1, p2, p3, p4, p5, -⟩ := HB.out w4 (Below.refl _ _)
                  go_wp2_with fail
                  refine (intersect_any XA YA xc yc xs ys w4 HIX2.out.1 HIX2.out.2 (by have := norm_len HST.out.nx; omega) (by have := norm_len HST.out.ny; omega)).mono ?_
                  rintro e w5 ⟨A5, c5, z5, rfl, o5, b5, n5, m5⟩
                  obtain rfl : z5 = [] := apart_nil HST.out n5 m5
                  have HW5 := hide b5
                  have HBB5 := hide (bstep HBB4.out b5)
                  clear o5 n5 m5 b5 p0 p1 p2 p3 p4 p5
                  go_upto_region 10 with (fail)
                  have kS := HB.out w5.drew (below_drew HW5.out)
                  go_region_held3 (fun wx => wx.cell? ⟨N1, 0, none⟩ = some (.slice XA xs.length xc) ∧ wx.cell? ⟨N1, 1, none⟩ = some (.slice YA ys.length yc) ∧ wx.cell? ⟨N3, 0, none⟩ = some (.slice XA3 xs3.length xc3) ∧ wx.cell? ⟨N3, 1, none⟩ = some (.slice YA3 ys3.length yc3) ∧ wx.cell? ⟨N4, 0, none⟩ = some (.slice XA4 xs4.length xc4) ∧ wx.cell? ⟨N4, 1, none⟩ = some (.slice YA4 ys4.length yc4) ∧ Below w4.heap.size w4 wx)
                    (first | (with_reducible assumption) | exact kS)
                    (first
                      | (go_at_call_of 21 xs; refine (clip_any XA xc xs fi la w5.drew (HIX2.out.1.step (below_drew HW5.out)) (by have := norm_len HST.out.nx; omega)).mono ?_; rintro e w6 ⟨A6, c6, z6, rfl, o6, b6, n6, m6⟩; have M6 := hide m6; clear m6; have h6 := bstep (below_drew HW5.out) b6; have s6 := HB.out w6 h6)
                      | (go_at_call_of 20 xs3; refine (sameR_true XA3 A6 xc3 c6 xs3 z6 w6 (HIX34.out.1.step h6) o6.ats HST3.out.nx n6 (part_x HST.out HST3.out HQ.out M6.out)).mono ?_; rintro e w7 ⟨rfl, b7⟩; have h7 := bstep h6 b7; have s7 := HB.out w7 h7)
                      | (go_at_call_of 21 ys; refine (clip_any YA yc ys fi la w7 (HIX2.out.2.step h7) (by have := norm_len HST.out.ny; omega)).mono ?_; rintro e w8 ⟨A8, c8, z8, rfl, o8, b8, n8, m8⟩; have M8 := hide m8; clear m8; have h8 := bstep h7 b8; have s8 := HB.out w8 h8)
                      | (go_at_call_of 20 ys3; refine (sameR_true YA3 A8 yc3 c8 ys3 z8 w8 (HIX34.out.2.step h8) o8.ats HST3.out.ny n8 (part_y HST.out HST3.out HQ.out M8.out)).mono ?_; rintro e w9 ⟨rfl, b9⟩; have h9 := bstep h8 b9; have s9 := HB.out w9 h9))
                  have H9 := hide h9
                  have HBB9 := hide (bstep HBB4.out h9)
                  obtain ⟨p0, p1, p2, p3, p4, p5, -⟩ := s9
                  have HIN := hide (fun (W : World) (hb : Below w9.heap.size w9 W) => in_any XA xc xs la W (HIX2.out.1.step (bstep H9.out hb)) (by have := norm_len HST.out.nx; omega))
                  have HIM := hide (fun (W : World) (hb : Below w9.heap.size w9 W) => in_any YA yc ys la W (HIX2.out.2.step (bstep H9.out hb)) (by have := norm_len HST.out.ny; omega))
                  have E1 := single_x HST.out HST4.out HQ.out
                  have E2 := single_y HST.out HST4.out HQ.out
                  generalize memT xs la = bx at *
                  generalize memT ys la = bw at *
                  clear b6 b7 b8 b9 h6 h7 h8 h9 s6 s7 s8 kS n6 n8 o6 o8 M6 M8 HST HST3 HST4 HIX2 HIX34 HQ HGD
                  go_upto_region 12 with (fail)
                  refine region_grown (W0 := w9) (by kernel_rfl) (by kernel_rfl) (Below.refl _ _) ?_
                  repeat (go_big_quiet_step (first | exact fun _ => rfl | with_reducible exact fun hw => ((HIN.out _ hw).mono fun e w2 h => ⟨h.1, bstep hw h.2⟩) | with_reducible exact fun hw => ((HIM.out _ hw).mono fun e w2 h => ⟨h.1, bstep hw h.2⟩) | with_reducible exact fun hw => ((awake51 _).mono fun e w2 h => ⟨h.1, bstep hw h.2⟩) | exact fun hw => by (first | rw [cell_later hw p0] | rw [cell_later hw p1] | rw [cell_later hw p4] | rw [cell_later hw p5]); exact ⟨rfl, rfl⟩))
                  refine wpQuiet_nil ?_
                  rintro _ ⟨⟨wx, hwx⟩, rfl⟩
                  go_wp2_with fail
                  go_ret
                  exact ⟨rfl, bstep HBB9.out hwx⟩

end Go.Proofs.YtdlebcijgdkfjaaGreatDoor
