/-
  Several texts in one: LawMono51. Each says at its head what it holds.
-/
import Derived.Test.YtdlebcijgdkfjaaGreatDoorCM28
import Derived.Test.YtdlebcijgdkfjaaGreatDoorCM8
import Derived.Test.YtdlebcijgdkfjaaGreatDoorCM17
import Derived.Test.YtdlebcijgdkfjaaGreatDoorCM30
import Derived.Deep.RegionLaw

/-
  wavestorelaw51.ConditionMonotone, walked.
-/
namespace Go.Proofs.YtdlebcijgdkfjaaGreatDoor
open Go.RowKit

theorem infoSgn : (Tryz.prog.info? 60).map (fun i => (i.zero, i.size, i.bytes)) = some (some (.agg #[.int .i64 0, .int .i64 0, .slice none 0 0]), 3, 40) := by kernel_rfl
/-- a list of signals that the call itself has made -/
def OwnSg (w : World) (base : Nat) (A : Option Addr) (c : Nat) (l : List Sgn) : Prop := w.ownsRow base 60 3 (.slice A l.length c) l.length (l.flatMap cSgn)
theorem OwnSg.nil (w : World) (base : Nat) : OwnSg w base none 0 [] := World.ownsRow_nil w base _ 3
theorem OwnSg.of_row {w : World} {base : Nat} {v : Value} {n : Nat} {vs : List Value} {l : List Sgn} (h : w.ownsRow base 60 3 v n vs) (hn : n = l.length) (hv : vs = l.flatMap cSgn) : ∃ A c, v = .slice A l.length c ∧ OwnSg w base A c l := by
  subst hn hv
  rcases Joins.ownsRow_forms h with ⟨rfl, h0⟩ | ⟨g, cap, rfl⟩
  · exact ⟨none, 0, by rw [h0], by unfold OwnSg; rw [h0] at h ⊢; exact h⟩
  · exact ⟨_, cap, rfl, h⟩
theorem OwnSg.row {w : World} {base : Nat} {A : Option Addr} {c : Nat} {l : List Sgn} (h : OwnSg w base A c l) : Row w (fun b => base ≤ b ∧ b < w.heap.size) 3 cSgn A l := fun hne => by
  obtain ⟨g, rfl, h1⟩ := own_place h (List.length_pos_iff.2 hne)
  have h2 := own_ob h g rfl
  refine ⟨g, 0, rfl, h2, fun i s hi j hj => ?_⟩
  have hlt := (List.getElem?_eq_some_iff.1 hi).1
  rw [Nat.zero_add, World.ownsRow.cellAt h _ (by omega), flat_at cSgn 3 (fun _ => rfl) hi hj]
theorem sg_one (s : Sgn) : ∀ u ∈ cSgn s, u.oneCell' = true := by
  intro u hu
  simp only [cSgn, List.mem_cons, List.not_mem_nil, or_false] at hu
  rcases hu with rfl | rfl | rfl <;> rfl
theorem res_of (ws : List UInt8) (s : Sgn) (RA : Option Addr) (rc : Nat) : ResOf ws s ⟨s.kind, s.width, RA, rc, resC ws s⟩ := ⟨rfl, rfl, rfl⟩
theorem nil_of {z a b : List Iv} (hn : Norm z) (hm : ∀ x, Mem z x ↔ Mem a x ∧ ¬ Mem b x) (h : ∀ x, Mem a x → Mem b x) : z = [] :=
  norm_ext hn Norm.nil fun x => ⟨fun hx => absurd (h x ((hm x).1 hx).1) ((hm x).1 hx).2, fun hx => absurd hx (mem_nil x)⟩
/-- a block below, or one of changes -/
def CgB (W2 W : World) (b : Nat) : Prop := b < W2.heap.size ∨ ∃ cs, W.heap[b]? = some (.cells cs 97 (0, 0))
/-- the signals resolved so far -/
structure MonoI (ws : List UInt8) (sigs : List Sgn) (W2 : World) (fin : Int) (j : Nat) (A : Option Addr) (c : Nat) (l : List Sgn) (W : World) : Prop where
  len : l.length = j
  box : W.heap[W2.heap.size]? = some (.cells #[.slice A l.length c, .slice none 0 0, .int .i64 fin] 29 (0, 0))
  own : OwnSg W (W2.heap.size + 1) A c l
  rows : ∀ s ∈ l, Row W (CgB W2 W) 2 cChg s.CA s.chs
  res : ∀ (i : Nat) (s s' : Sgn), sigs[i]? = some s → l[i]? = some s' → ResOf ws s s'
  bel : Below W2.heap.size W2 W
def MonoRel (ws : List UInt8) (sigs : List Sgn) (W2 : World) (fin : Int) (iv : Value) (wr : World) : Prop := ∃ (j : Nat) (A : Option Addr) (c : Nat) (l : List Sgn), j ≤ sigs.length ∧ iv = .int .i64 (j : Int) ∧ MonoI ws sigs W2 fin j A c l wr
theorem box3_set0 {w : World} {N : Nat} {a b c a' : Value} {t : TypeId} (h : w.heap[N]? = some (.cells #[a, b, c] t (0, 0))) : (w.setCell ⟨N, 0, none⟩ a').heap[N]? = some (.cells #[a', b, c] t (0, 0)) := by
  simp [World.setCell, Array.getElem?_modify, h]
theorem MonoI.push {ws : List UInt8} {sigs : List Sgn} {W2 W4 W5 : World} {fin : Int} {j : Nat} {A A5 : Option Addr} {c c5 : Nat} {l : List Sgn} {W : World} {o : Obj} {s s' : Sgn} (h : MonoI ws sigs W2 fin j A c l W) (hs : sigs[j]? = some s) (hr : ResOf ws s s')
    (hb : Below W.heap.size W W4) (hrow : Row W4 (CgB W2 W4) 2 cChg s'.CA s'.chs) (hg : (W4.alloc o).grownBy W5 (ob A)) (ho : OwnSg W5 (W2.heap.size + 1) A5 c5 (l ++ [s']))
    (W6 : World) (hW6 : W5.setCell ⟨W2.heap.size, 0, none⟩ (.slice A5 (l.length + 1) c5) = W6) : MonoI ws sigs W2 fin (j + 1) A5 c5 (l ++ [s']) W6 := by
  have hlb := box_lt h.box
  have obA : ∀ g, ob A = some g → W2.heap.size + 1 ≤ g ∧ g < W.heap.size := fun g hg => own_ob h.own g hg
  have hnb : ob A ≠ some W2.heap.size := fun e => by have := (obA _ e).1; omega
  have old : ∀ b, b < W4.heap.size → ob A ≠ some b → W5.heap[b]? = W4.heap[b]? := fun b h1 h2 => by
    rw [hg.block b (by simp; omega) (fun e => h2 e.symm), Below.heap_alloc _ _ _ h1]
  have h64 : ∀ b, b ≠ W2.heap.size → W6.heap[b]? = W5.heap[b]? := fun b hne => by rw [← hW6]; exact set_cell_other hne
  have hz5 : W4.heap.size ≤ W5.heap.size := by have := hg.size; simp at this; omega
  have hz6 : W6.heap.size = W5.heap.size := by rw [← hW6]; simp [World.setCell]
  have hzW := hb.size
  have hz2 := h.bel.size
  refine ⟨by rw [List.length_append, h.len]; rfl, ?_, own_block ho fun g hg => h64 g (by have := (own_ob ho g hg).1; omega), fun q hq => ?_, fun i p p' hp hp' => ?_, ?_⟩
  · rw [← hW6, List.length_append]
    exact box3_set0 ((old _ (by omega) hnb).trans ((hb.block _ hlb).trans h.box))
  · have key : ∀ b, CgB W2 W4 b → W6.heap[b]? = W4.heap[b]? := fun b hb2 => by
      rcases hb2 with h1 | ⟨cs, h1⟩
      · rw [h64 b (by omega), old b (by omega) (fun e => by have := (obA _ e).1; omega)]
      · have h2 : b ≠ W2.heap.size := fun e => by
          rw [e, hb.block _ hlb, h.box] at h1
          injection h1 with h1
          injection h1 with _ h1
          exact absurd h1 (by decide)
        refine (h64 b h2).trans (old b (box_lt h1) fun e => ?_)
        obtain ⟨cs', h3⟩ := own_cellsT h.own e
        rw [hb.block b (obA b e).2, h3] at h1
        injection h1 with h1
        injection h1 with _ h1
        exact absurd h1 (by decide)
    have up : ∀ b, CgB W2 W4 b → CgB W2 W6 b := fun b hb2 => by
      rcases hb2 with h1 | ⟨cs, h1⟩
      · exact .inl h1
      · exact .inr ⟨cs, (key b (.inr ⟨cs, h1⟩)).trans h1⟩
    have row4 : Row W4 (CgB W2 W4) 2 cChg q.CA q.chs := by
      rcases List.mem_append.1 hq with hq | hq
      · have lift : ∀ b, CgB W2 W b → W4.heap[b]? = W.heap[b]? := fun b hb2 => by
          rcases hb2 with h1 | ⟨cs, h1⟩
          · exact hb.block b (by omega)
          · exact hb.block b (box_lt h1)
        refine ((h.rows q hq).stay (w' := W4) lift).more fun b hb2 => ?_
        rcases hb2 with h1 | ⟨cs, h1⟩
        · exact .inl h1
        · exact .inr ⟨cs, (lift b (.inr ⟨cs, h1⟩)).trans h1⟩
      · simp at hq
        subst hq
        exact hrow
    exact (row4.stay (w' := W6) key).more up
  · rcases Nat.lt_trichotomy i l.length with h1 | h1 | h1
    · rw [List.getElem?_append_left h1] at hp'
      exact h.res i p p' hp hp'
    · subst h1
      rw [h.len, hs] at hp
      simp at hp hp'
      subst hp hp'
      exact hr
    · rw [List.getElem?_eq_none (by simp; omega)] at hp'
      cases hp'
  · rw [← hW6]
    exact (((bstep h.bel hb).alloc (by omega) _).grown hg (by simp; omega) (fun g hg => by have := (obA g hg).1; omega)).setCell (p := ⟨W2.heap.size, 0, none⟩) (Nat.le_refl _) _

set_option maxRecDepth 100000 in
set_option maxHeartbeats 8000000 in
theorem mono_all (v : Wv) (gs : List (Int × Int)) (n : Nd) (f t : Int) (wi : ByteArray) (w : World) (hS : SigsAt w (Lo w.heap.size) v.A v.sigs) (hG : Row w (Lo w.heap.size) 2 cGp v.G gs) (hgn : v.gn = gs.length) (hsz : ∀ s ∈ v.sigs, ∀ c ∈ s.chs, c.val.size ≤ 9223372036854775807)
    (ht : TreesAt w (Lo w.heap.size) n.KA n.kids) (hok : okF n) (hwi : wi.size ≤ 9223372036854775807) (htab : Tab w) :
    Calls Tryz.prog 7 #[.agg (cWv v).toArray, .agg (cNd n).toArray, .int .i64 f, .int .i64 t, .string wi] w fun e w' => e = .returned (.bool true) ∧ Below w.heap.size w w' := by
  have HFW := hide (fun (W : World) (hb : Below w.heap.size w W) => few51_any v gs n W (hS.grow hb) (hG.grow hb) hgn hsz (ht.grow hb))
  have HEX := hide (fun (W : World) (hb : Below w.heap.size w W) => exact_any n W (ht.grow hb))
  have HNEW := hide (fun (W : World) (hb : Below w.heap.size w W) => new_any v W (hS.grow hb))
  have HTR := hide (fun (a b : Int) (W W1 : World) (hb : Below w.heap.size w W) (hb1 : Below W.heap.size W W1) (M : Nat) (hM : W.heap.size ≤ M) (h : SourceAt W1 M v (-1) 0) (hv : SmallOk v ∧ FewOk 60 n) => truth_res v n a b M W W1 hb1 hM h hv.1 hv.2 (ht.grow hb) hok (htab.below hb))
  have HTV := hide (fun (u : Wv) (W0 : World) (hb0 : Below w.heap.size w W0) (a b : Int) (W W1 : World) (hb : Below W0.heap.size W0 W) (hb1 : Below W.heap.size W W1) (M : Nat) (hM : W.heap.size ≤ M) (h : SourceAt W1 M u (-1) 0) (hv : SmallOk u ∧ FewOk 60 n) => truth_res u n a b M W W1 hb1 hM h hv.1 hv.2 (ht.grow (bstep hb0 hb)) hok (htab.below (bstep hb0 hb)))
  unfold srcV at HTR HTV
  have HSS := hide hS
  clear hS hG hgn hsz ht hok htab
  obtain ⟨A, cA, sigs, G, gn, cG, fin⟩ := v
  obtain ⟨kind, at_, name, value, a, b, c, d, KA, kc, kids⟩ := n
  unfold cWv cNd at *
  dsimp only at *
  generalize hvv : Wv.mk A cA sigs G gn cG fin = v at *
  generalize hnn : Nd.mk kind at_ name value a b c d KA kc kids = n at *
  have HVE := hide hvv
  clear hvv hnn
  obtain ⟨W0, hW0⟩ : ∃ W0, (w.alloc (.cells #[.slice A sigs.length cA, .slice G gn cG, .int .i64 fin] 29)).alloc (.cells #[.int .i64 kind, .int .i64 at_, .string name, .string value, .int .i64 a, .int .i64 b, .int .i64 c, .int .i64 d, .slice KA kids.length kc] 32) = W0 := ⟨_, rfl⟩
  obtain ⟨p0, p1, hb0⟩ := chain2 _ _ _ hW0
  have HB0 := hide hb0
  have HG0 := hide p0
  have HG1 := hide p1
  have HH := hide (wn_held p0 p1)
  obtain ⟨c0, c1, c2, y0, y1, y2, y3, y4, y5, y6, y7, y8, -⟩ := HH.out W0 (Below.refl _ _)
  have HW0 := hide hW0
  clear hW0 p0 p1 hb0
  go_enter Tryz.func7, Tryz.ntmps7
  go_upto_region 1 with (fail)
  rw [HW0.out]
  go_cut [31] (fun p wx => ∃ z : Bool, p = .bool z ∧ Below W0.heap.size W0 wx ∧ (z = false → (SmallOk v ∧ FewOk 60 n) ∧ exactF n = true ∧ wi.size ≤ 100))
  case first =>
    go_wp2_with fail
    refine (HFW.out W0 HB0.out).mono ?_
    rintro e w1 ⟨b1, rfl, hs1, hb1⟩
    have HS1 := hide hs1
    have HB1 := hide hb1
    clear hs1 hb1 c0 c1 c2 y0 y1 y2 y3 y4 y5 y6 y7 y8
    cases b1 with
    | false =>
      go_wp2_with fail
      go_meet
      exact ⟨true, rfl, HB1.out, fun h => by cases h⟩
    | true =>
      have HSM := hide (HS1.out rfl)
      clear HS1
      obtain ⟨c0, c1, c2, y0, y1, y2, y3, y4, y5, y6, y7, y8, -⟩ := HH.out w1 HB1.out
      go_wp2_with fail
      refine (HEX.out w1 (bstep HB0.out HB1.out)).mono ?_
      rintro e w2 ⟨rfl, hb2⟩
      have HB2 := hide (bstep HB1.out hb2)
      clear hb2 c0 c1 c2 y0 y1 y2 y3 y4 y5 y6 y7 y8
      obtain ⟨x, hx⟩ : ∃ x, exactF n = x := ⟨_, rfl⟩
      have HX := hide hx
      rw [hx]
      clear hx
      cases x with
      | false =>
        go_wp2_with fail
        go_meet
        exact ⟨true, rfl, HB2.out, fun h => by cases h⟩
      | true =>
        by_cases q1 : 100 < wi.size
        · have d1 : decide (100 < (wi.size : Int)) = true := decide_eq_true (by omega)
          clear q1
          go_wp2_with fail
          go_meet
          exact ⟨true, rfl, HB2.out, fun h => by cases h⟩
        · have d1 : decide (100 < (wi.size : Int)) = false := decide_eq_false (by omega)
          have HQ := hide q1
          clear q1
          go_wp2_with fail
          go_meet
          exact ⟨false, rfl, HB2.out, fun _ => ⟨HSM.out, HX.out, by have := HQ.out; omega⟩⟩
  case rest =>
    obtain ⟨z, rfl, hb1, hz⟩ := hcut
    obtain ⟨w1, rfl⟩ : ∃ x : World, x = wc := ⟨_, rfl⟩
    have HB1 := hide hb1
    have HBB1 := hide (bstep HB0.out hb1)
    have HZ := hide hz
    clear hb1 hz c0 c1 c2 y0 y1 y2 y3 y4 y5 y6 y7 y8 HFW HEX
    cases z with
    | true =>
      go_wp2_with fail
      refine (awake51 _).mono ?_
      rintro e w2 ⟨rfl, hbz⟩
      have HBZ := hide (bstep HBB1.out hbz)
      clear hbz
      go_wp2_with fail
      go_ret
      exact ⟨rfl, HBZ.out⟩
    | false =>
      have HSM := hide (HZ.out rfl).1
      have HXT := hide (HZ.out rfl).2.1
      have hw100 := (HZ.out rfl).2.2
      clear HZ
      have HH1 := hide (wn_held ((HB1.out.block _ (box_lt HG0.out)).trans HG0.out) ((HB1.out.block _ (box_lt HG1.out)).trans HG1.out))
      go_upto_region 3 with (fail)
      go_cut [11, 12] (fun p q wx => TruBox v n f t w1 wx p q)
      case first =>
        have r0 : Below w1.heap.size w1 w1.drew := below_drew (Below.refl _ _)
        have k0 := HH1.out w1.drew r0
        have rc := below_al r0 (.cells #[.slice none 0 0, .slice none 0 0] 45)
        have gc := heap_alloc_new w1.drew (.cells #[.slice none 0 0, .slice none 0 0] 45)
        have zc : (w1.drew.alloc (.cells #[.slice none 0 0, .slice none 0 0] 45)).heap.size = w1.heap.size + 1 := World.size_alloc _ _
        go_region_held3 (fun wx => wx.cell? ⟨w.heap.size, 0, none⟩ = some (.slice A sigs.length cA) ∧ wx.cell? ⟨w.heap.size, 1, none⟩ = some (.slice G gn cG) ∧ wx.cell? ⟨w.heap.size, 2, none⟩ = some (.int .i64 fin) ∧ wx.cell? ⟨w.heap.size + 1, 0, none⟩ = some (.int .i64 kind) ∧ wx.cell? ⟨w.heap.size + 1, 1, none⟩ = some (.int .i64 at_) ∧ wx.cell? ⟨w.heap.size + 1, 2, none⟩ = some (.string name) ∧ wx.cell? ⟨w.heap.size + 1, 3, none⟩ = some (.string value) ∧ wx.cell? ⟨w.heap.size + 1, 4, none⟩ = some (.int .i64 a) ∧ wx.cell? ⟨w.heap.size + 1, 5, none⟩ = some (.int .i64 b) ∧ wx.cell? ⟨w.heap.size + 1, 6, none⟩ = some (.int .i64 c) ∧ wx.cell? ⟨w.heap.size + 1, 7, none⟩ = some (.int .i64 d) ∧ wx.cell? ⟨w.heap.size + 1, 8, none⟩ = some (.slice KA kids.length kc) ∧ Below w1.heap.size w1 wx)
          (first | (with_reducible assumption) | exact k0 | exact HH1.out _ rc | exact HH1.out _ (below_al r2 _) | exact HH1.out _ (below_al r3 _) | exact HH1.out _ (below_s2 (below_al r3 _) r3.size _ _) | exact HH1.out _ (below_s2 r3 r2.size _ _) | exact HH1.out _ (below_s2 r3 r0.size _ _))
          (first
            | (go_at_call 14; (first | (refine (HNEW.out w1.drew (bstep HBB1.out r0)).mono ?_; rintro e wa ⟨M, rfl, hM, hsrc, hb2⟩; have hU := bstep HBB1.out r0; have r2 := bstep r0 hb2; have hMW := Nat.le_trans r0.size hM) | (refine (HNEW.out (w1.drew.alloc (.cells #[.slice none 0 0, .slice none 0 0] 45)) (bstep HBB1.out rc)).mono ?_; rintro e wa ⟨M, rfl, hM, hsrc, hb2⟩; have hU := bstep HBB1.out rc; have r2 := bstep rc hb2; have hMW := Nat.le_trans rc.size hM)); have k2 := HH1.out wa r2; have hML := hsrc.lt; have hz2 := hb2.size)
            | (go_at_call 17; (first | refine (HTR.out f t _ wa hU hb2 M hM hsrc HSM.out).mono ?_ | refine (HTR.out f t _ (wa.alloc (.cells #[.slice none 0 0, .slice none 0 0] 45)) hU (hb2.alloc hb2.size _) M hM (hsrc.below ((Below.refl _ _).alloc (Nat.le_refl _) _)) HSM.out).mono ?_); rintro e wb ⟨XA, xl, xc, YA, yl, yc, er, rfl, hres, hbut⟩; have r3 : Below w1.heap.size w1 wb := (by first | exact but_step r2 hbut hMW | exact but_step (below_al r2 _) hbut hMW); have k3 := HH1.out wb r3; have gA := heap_alloc_new wb (.cells #[.slice none 0 0, .slice none 0 0] 45); obtain ⟨m0, m1⟩ := boxT2 gA; obtain ⟨m2, m3⟩ := box2_frozen gA; have m4 := box_lt gA; (try (have gB := box_mid hML hbut; obtain ⟨u0, u1⟩ := boxT2 gB; obtain ⟨u2, u3⟩ := box2_frozen gB; have u4 := box_lt gB)); (try (have gC := box_first hb2 hM hbut; obtain ⟨u0, u1⟩ := boxT2 gC; obtain ⟨u2, u3⟩ := box2_frozen gC; have u4 := box_lt gC))))
        all_goals (go_wp2_with fail; go_meet; first | exact tru_fin_al hres r3 | exact tru_fin hres gB r3 r2.size | exact tru_fin hres gC r3 r0.size)
      case rest =>
        obtain ⟨N1, XA, xl, xc, YA, yl, yc, er, rfl, rfl, hg1, hN1, hs1, hr1⟩ := hcut
        obtain ⟨w2, rfl⟩ : ∃ x : World, x = wc := ⟨_, rfl⟩
        have HB2 := hide (bstep HB1.out hr1)
        have HBB2 := hide (bstep HBB1.out hr1)
        clear hr1 hN1
        rcases hs1 with ⟨hng, her⟩ | ⟨hgd, rfl, xs, ys, rfl, rfl, ix, iy, hst⟩
        · have T1 : (er != 0) = true := by simp [her]
          clear hng her hg1
          go_wp2_with fail
          refine (awake51 _).mono ?_
          rintro e w3 ⟨rfl, hbz⟩
          have HBZ := hide (bstep HBB2.out hbz)
          clear hbz
          go_wp2_with fail
          go_ret
          exact ⟨rfl, HBZ.out⟩
        · have HGD := hide hgd
          have HIX := hide (And.intro ix iy)
          have HST := hide hst
          have HG2 := hide hg1
          clear hgd ix iy hst hg1
          obtain ⟨c0, c1, c2, -⟩ := HH.out w2 HB2.out
          obtain ⟨W3, hW3⟩ : ∃ W3, w2.alloc (.cells #[.slice none 0 0, .slice none 0 0, .int .i64 fin] 29) = W3 := ⟨_, rfl⟩
          have g3 : W3.heap[w2.heap.size]? = some (.cells #[.slice none 0 0, .slice none 0 0, .int .i64 fin] 29 (0, 0)) := by rw [← hW3]; exact heap_alloc_new w2 _
          have hb3 : Below w2.heap.size w2 W3 := by rw [← hW3]; exact (Below.refl _ _).alloc (Nat.le_refl _) _
          have HW3 := hide hW3
          have HB3 := hide hb3
          have HG3 := hide g3
          clear hW3 g3 hb3
          go_upto_region 7 with (fail)
          rw [HW3.out]
          clear c0 c1 c2
          obtain ⟨c0, c1, c2, -⟩ := HH.out W3 (bstep HB2.out HB3.out)
          go_upto_region 8 with (fail)
          have HSL := hide (show ∀ s ∈ sigs, SgOk v.fin s from fun s hs => HSM.out.1.each s (by rw [← HVE.out]; exact hs))
          have hsl8 : sigs.length ≤ 8 := by have := HSM.out.1.len; rw [← HVE.out] at this; exact this
          have HS2 := hide (HSS.out.grow HBB2.out)
          clear c0 c1 c2 HW3 HH1
          go_loopw [52] (fun iv wr => MonoRel wi.data.toList sigs w2 fin iv wr) (fun iv _ => sigs.length - (intOf iv).toNat)
          case atStart => exact ⟨0, none, 0, [], Nat.zero_le _, rfl, ⟨rfl, HG3.out, OwnSg.nil _ _, (fun s hs => by cases hs), (fun i s s' _ h => by cases h), HB3.out⟩⟩
          case round =>
            obtain ⟨V, rfl⟩ : ∃ x : World, x = wr := ⟨_, rfl⟩
            obtain ⟨j, A2, c2, sigs2, hj, rfl, hI⟩ := hrel
            have HI := hide hI
            by_cases hlt : j < sigs.length
            · have hx : sigs[j]? = some sigs[j] := List.getElem?_eq_getElem hlt
              have hsm := HSL.out _ (List.getElem_mem hlt)
              have hS3 := HS2.out.grow hI.bel
              obtain ⟨bk, ok, rfl, hbk, hc⟩ := hS3.row.at_ hlt
              have hrw := HS2.out.each _ (List.getElem_mem hlt)
              have hrs := fun (W : World) (hb : Below w2.heap.size w2 W) => resolve_any sigs[j] wi v.fin (Lo w2.heap.size) W hsm (fun b h => Nat.lt_of_lt_of_le h hb.size) (hrw.stay (stay_below hb fun _ h => h)) hw100
              generalize sigs[j] = s at *
              obtain ⟨sk, sw, sA, sc, chs⟩ := s
              unfold cSgn at hc hrs
              dsimp only at hrs
              have d0 := hc 0 (by omega)
              have d1 := hc 1 (by omega)
              have d2 := hc 2 (by omega)
              simp only [List.getElem?_cons_zero, List.getElem?_cons_succ, Nat.add_zero] at d0 d1 d2
              obtain ⟨V1, hV1⟩ : ∃ V1, V.alloc (.cells #[.int .i64 sk, .int .i64 sw, .slice sA chs.length sc] 60) = V1 := ⟨_, rfl⟩
              have hbv : Below V.heap.size V V1 := by rw [← hV1]; exact (Below.refl _ _).alloc (Nat.le_refl _) _
              have gv : V1.heap[V.heap.size]? = some (.cells #[.int .i64 sk, .int .i64 sw, .slice sA chs.length sc] 60 (0, 0)) := by rw [← hV1]; exact heap_alloc_new V _
              have HRS := hide (hrs V1.drew (below_drew (bstep hI.bel hbv)))
              have HBV := hide hbv
              have hzV := hbv.size
              have HV1 := hide hV1
              have HX := hide hx
              obtain ⟨m0, m1, m2, -, -, -⟩ := box3_all gv
              have HBX := hide ((hbv.block _ (box_lt hI.box)).trans hI.box)
              have hl2 : sigs2.length ≤ 8 := by have := hI.len; omega
              have hO := box_lt hI.box
              have HOS := hide (show OwnSg V1 (w2.heap.size + 1) A2 c2 sigs2 from own_block hI.own fun g hg => hbv.block g (own_ob hI.own g hg).2)
              obtain ⟨i0, hi0, hz0, hz1, hz2⟩ := info_parts infoSgn
              clear hc hrs hrw hS3 hsm hx hV1 hbv gv hI
              go_upto_region 10 with (fail)
              rw [HV1.out]
              clear HV1 d0 d1 d2
              obtain ⟨o0, o1, o2, fz0, -, -⟩ := box3_all HBX.out
              go_region_law
                (first
                  | (refine step_append_src rfl (.tmp 57) (.tmp 61) 26 rfl (w2.heap.size + 1) 60 i0 _ 3 40 Tryz.underlying26 hi0 hz0 hz1 hz2 rfl (by decide) (.slice A2 sigs2.length c2) sigs2.length (sigs2.flatMap cSgn) rfl HOW4.out (some ⟨w4.heap.size, 0, none⟩) 1 1 (cSgn ⟨sk, sw, RA, rc, (resC wi.data.toList ⟨sk, sw, sA, sc, chs⟩)⟩) rfl rfl (src_block (t := 60) (fr := (0, 0)) HNW4.out) (sg_one _) (by simp only [maxLen]; omega) (by omega) (by simp; omega) ?_
                     intro v' w5 hown5 hg5
                     obtain ⟨A5, c5, rfl, ho5⟩ := OwnSg.of_row (l := sigs2 ++ [⟨sk, sw, RA, rc, (resC wi.data.toList ⟨sk, sw, sA, sc, chs⟩)⟩]) hown5 (by simp) (by rw [List.flatMap_append]; rfl)
                     rw [ob_eq] at hg5
                     have hbx5 := box_grown (box_alloc (o' := (.cells #[.int .i64 sk, .int .i64 sw, .slice RA (resC wi.data.toList ⟨sk, sw, sA, sc, chs⟩).length rc] 60)) HBX4.out) hg5 (fun e => by have := (own_ob HOS.out _ e).1; omega)
                     obtain ⟨s0, -, -, s3, -, -⟩ := box3_all hbx5
                     have HO5 := hide ho5
                     have HG5 := hide hg5
                     have HBX5 := hide hbx5
                     have hle5 : (sigs2 ++ [(⟨sk, sw, RA, rc, (resC wi.data.toList ⟨sk, sw, sA, sc, chs⟩)⟩ : Sgn)]).length = sigs2.length + 1 := by simp
                     rw [hle5]
                     clear hown5 hg5 ho5 hbx5 hle5)
                  | (go_simp
                     go_at_call 24
                     refine HRS.out.mono ?_
                     rintro e w4 ⟨RA, rc, rfl, hrr, hb4⟩
                     have hb4' := bstep (below_drew (Below.refl V1.heap.size V1)) hb4
                     have HB4 := hide hb4'
                     have HBX4 := hide ((hb4'.block _ (box_lt HBX.out)).trans HBX.out)
                     obtain ⟨p0, p1, p2, -, -, -⟩ := box3_all HBX4.out
                     obtain ⟨t0, t1, t2, -, -, -⟩ := box3_all (box_alloc (o' := (.cells #[.int .i64 sk, .int .i64 sw, .slice RA (resC wi.data.toList ⟨sk, sw, sA, sc, chs⟩).length rc] 60)) HBX4.out)
                     have HOW4 := hide (World.ownsRow.alloc (own_block HOS.out fun g hg => (hb4'.block g (own_ob HOS.out g hg).2 : w4.heap[g]? = V1.heap[g]?)) (.cells #[.int .i64 sk, .int .i64 sw, .slice RA (resC wi.data.toList ⟨sk, sw, sA, sc, chs⟩).length rc] 60))
                     have HNW4 := hide (heap_alloc_new w4 (.cells #[.int .i64 sk, .int .i64 sw, .slice RA (resC wi.data.toList ⟨sk, sw, sA, sc, chs⟩).length rc] 60))
                     have HRR := hide hrr
                     have hz4 := hb4'.size
                     clear hrr hb4 hb4')
                  | fail)
              all_goals
                go_wp2_with fail
                refine ⟨⟨j + 1, A5, c5, sigs2 ++ [⟨sk, sw, RA, rc, (resC wi.data.toList ⟨sk, sw, sA, sc, chs⟩)⟩], hlt, by go_num, MonoI.push HI.out HX.out (res_of wi.data.toList ⟨sk, sw, sA, sc, chs⟩ RA rc) (bstep HBV.out HB4.out) ?_ HG5.out HO5.out _ rfl⟩, by simp [intOf]; omega⟩
                refine HRR.out.more fun b hb => ?_
                rcases hb with hb | ⟨_, _, hb⟩
                · exact .inl hb
                · exact .inr hb
            · have hlen2 : sigs2.length = sigs.length := by have := hI.len; omega
              have HWO := hide (show WaveOf wi.data.toList v ⟨A2, c2, sigs2, none, 0, 0, fin⟩ from by rw [← HVE.out]; exact ⟨hlen2, fun i s s' h1 h2 => hI.res i s s' h1 h2, rfl⟩)
              have hS2 : SigsAt V (Lo V.heap.size) A2 sigs2 := ⟨hI.own.row.more (fun b hb => hb.2), fun s hs => (hI.rows s hs).more fun b hb => by
                rcases hb with h1 | ⟨cs, h1⟩
                · exact Nat.lt_of_lt_of_le h1 hI.bel.size
                · exact box_lt h1⟩
              have HNEW2 := hide (fun (W : World) (hb : Below V.heap.size V W) => new_any ⟨A2, c2, sigs2, none, 0, 0, fin⟩ W (hS2.grow hb))
              have HTR2 := hide (HTV.out ⟨A2, c2, sigs2, none, 0, 0, fin⟩ V (bstep HBB2.out hI.bel))
              unfold cWv at HNEW2
              dsimp only at HNEW2
              generalize hv2 : Wv.mk A2 c2 sigs2 none 0 0 fin = v2 at HWO HNEW2 HTR2
              have HSM2 := hide (And.intro (HWO.out.small HSM.out.1) HSM.out.2)
              have HBV := hide (Below.refl V.heap.size V)
              have HB4 := hide (bstep HB2.out hI.bel)
              have HBB4 := hide (bstep HBB2.out hI.bel)
              have HH4 := hide (wn_held hI.box ((HB4.out.block _ (box_lt HG1.out)).trans HG1.out))
              have HG24 := hide ((hI.bel.block _ (box_lt HG2.out)).trans HG2.out)
              have HIX4 := hide (And.intro (HIX.out.1.step hI.bel) (HIX.out.2.step hI.bel))
              have hlt2 : ¬ ((j : Int) < (sigs.length : Int)) := by omega
              clear hI HI hS2 hv2 hlen2 HG2 HIX HTV HTR HNEW HSS HS2 HSL hw100 hlt hj
              go_upto_region 12 with (fail)
              go_cut [16, 17] (fun p q wx => TruBox v2 n f t V wx p q)
              case first =>
                have r0 : Below V.heap.size V V.drew := below_drew (Below.refl _ _)
                have k0 := HH4.out V.drew r0
                have rc := below_al r0 (.cells #[.slice none 0 0, .slice none 0 0] 45)
                have gc := heap_alloc_new V.drew (.cells #[.slice none 0 0, .slice none 0 0] 45)
                have zc : (V.drew.alloc (.cells #[.slice none 0 0, .slice none 0 0] 45)).heap.size = V.heap.size + 1 := World.size_alloc _ _
                go_region_held3 (fun wx => wx.cell? ⟨w2.heap.size, 0, none⟩ = some (.slice A2 sigs2.length c2) ∧ wx.cell? ⟨w2.heap.size, 1, none⟩ = some (.slice none 0 0) ∧ wx.cell? ⟨w2.heap.size, 2, none⟩ = some (.int .i64 fin) ∧ wx.cell? ⟨w.heap.size + 1, 0, none⟩ = some (.int .i64 kind) ∧ wx.cell? ⟨w.heap.size + 1, 1, none⟩ = some (.int .i64 at_) ∧ wx.cell? ⟨w.heap.size + 1, 2, none⟩ = some (.string name) ∧ wx.cell? ⟨w.heap.size + 1, 3, none⟩ = some (.string value) ∧ wx.cell? ⟨w.heap.size + 1, 4, none⟩ = some (.int .i64 a) ∧ wx.cell? ⟨w.heap.size + 1, 5, none⟩ = some (.int .i64 b) ∧ wx.cell? ⟨w.heap.size + 1, 6, none⟩ = some (.int .i64 c) ∧ wx.cell? ⟨w.heap.size + 1, 7, none⟩ = some (.int .i64 d) ∧ wx.cell? ⟨w.heap.size + 1, 8, none⟩ = some (.slice KA kids.length kc) ∧ Below V.heap.size V wx)
                  (first | (with_reducible assumption) | exact k0 | exact HH4.out _ rc | exact HH4.out _ (below_al r2 _) | exact HH4.out _ (below_al r3 _) | exact HH4.out _ (below_s2 (below_al r3 _) r3.size _ _) | exact HH4.out _ (below_s2 r3 r2.size _ _) | exact HH4.out _ (below_s2 r3 r0.size _ _))
                  (first
                    | (go_at_call 14; (first | (refine (HNEW2.out V.drew (bstep HBV.out r0)).mono ?_; rintro e wa ⟨M, rfl, hM, hsrc, hb2⟩; have hU := bstep HBV.out r0; have r2 := bstep r0 hb2; have hMW := Nat.le_trans r0.size hM) | (refine (HNEW2.out (V.drew.alloc (.cells #[.slice none 0 0, .slice none 0 0] 45)) (bstep HBV.out rc)).mono ?_; rintro e wa ⟨M, rfl, hM, hsrc, hb2⟩; have hU := bstep HBV.out rc; have r2 := bstep rc hb2; have hMW := Nat.le_trans rc.size hM)); have k2 := HH4.out wa r2; have hML := hsrc.lt; have hz2 := hb2.size)
                    | (go_at_call 17; (first | refine (HTR2.out f t _ wa hU hb2 M hM hsrc HSM2.out).mono ?_ | refine (HTR2.out f t _ (wa.alloc (.cells #[.slice none 0 0, .slice none 0 0] 45)) hU (hb2.alloc hb2.size _) M hM (hsrc.below ((Below.refl _ _).alloc (Nat.le_refl _) _)) HSM2.out).mono ?_); rintro e wb ⟨XA, xl, xc, YA, yl, yc, er, rfl, hres, hbut⟩; have r3 : Below V.heap.size V wb := (by first | exact but_step r2 hbut hMW | exact but_step (below_al r2 _) hbut hMW); have k3 := HH4.out wb r3; have gA := heap_alloc_new wb (.cells #[.slice none 0 0, .slice none 0 0] 45); obtain ⟨m0, m1⟩ := boxT2 gA; obtain ⟨m2, m3⟩ := box2_frozen gA; have m4 := box_lt gA; (try (have gB := box_mid hML hbut; obtain ⟨u0, u1⟩ := boxT2 gB; obtain ⟨u2, u3⟩ := box2_frozen gB; have u4 := box_lt gB)); (try (have gC := box_first hb2 hM hbut; obtain ⟨u0, u1⟩ := boxT2 gC; obtain ⟨u2, u3⟩ := box2_frozen gC; have u4 := box_lt gC))))
                all_goals (go_wp2_with fail; go_meet; first | exact tru_fin_al hres r3 | exact tru_fin hres gB r3 r2.size | exact tru_fin hres gC r3 r0.size)
              case rest =>
                obtain ⟨N2, XB, xl2, xc2, YB, yl2, yc2, er2, rfl, rfl, hg2, hN2, hs2, hr2⟩ := hcut
                obtain ⟨w4, rfl⟩ : ∃ x : World, x = wc := ⟨_, rfl⟩
                have HBB5 := hide (bstep HBB4.out hr2)
                rcases hs2 with ⟨hng, her⟩ | ⟨-, rfl, xs2, ys2, rfl, rfl, ix2, iy2, hst2⟩
                · exact absurd (HWO.out.good HGD.out) hng
                have HM := hide (mono_sets HWO.out HSM.out.1 HGD.out HXT.out HST.out hst2)
                have hg1 := (hr2.block _ (box_lt HG24.out)).trans HG24.out
                have HE1 := hide hg1
                have HE2 := hide hg2
                have HJ1 := hide (HIX4.out.1.step hr2)
                have HJ2 := hide (HIX4.out.2.step hr2)
                have HK2 := hide (And.intro ix2 iy2)
                have hl1 : xs.length ≤ 4398046511104 := by have := norm_len HST.out.nx; omega
                have hl2 : ys.length ≤ 4398046511104 := by have := norm_len HST.out.ny; omega
                have hl3 : xs2.length ≤ 4398046511104 := by have := norm_len hst2.nx; omega
                have hl4 : ys2.length ≤ 4398046511104 := by have := norm_len hst2.ny; omega
                have HL := hide (And.intro (And.intro hl1 hl2) (And.intro hl3 hl4))
                obtain ⟨u0, u1⟩ := boxT2 hg1
                obtain ⟨u2, u3⟩ := boxT2 hg2
                clear hg1 hg2 hr2 ix2 iy2 hst2 hl1 hl2 hl3 hl4 hN2 HIX4 HG24 HH4 HNEW2 HTR2 HSM2
                go_wp2_with fail
                refine (without_any XA XB xc xc2 xs xs2 w4 HJ1.out HK2.out.1 HL.out.1.1 HL.out.2.1).mono ?_
                rintro e w5 ⟨A5, c5, z5, rfl, o5, b5, n5, m5⟩
                obtain rfl : z5 = [] := nil_of n5 m5 HM.out.1
                have HB5 := hide b5
                obtain ⟨u4, u5⟩ := boxT2 ((b5.block _ (box_lt HE1.out)).trans HE1.out)
                obtain ⟨u6, u7⟩ := boxT2 ((b5.block _ (box_lt HE2.out)).trans HE2.out)
                clear u0 u1 u2 u3 o5 b5 n5 m5
                go_wp2_with fail
                refine (without_any YA YB yc yc2 ys ys2 w5 (HJ2.out.step HB5.out) (HK2.out.2.step HB5.out) HL.out.1.2 HL.out.2.2).mono ?_
                rintro e w6 ⟨A6, c6, z6, rfl, o6, b6, n6, m6⟩
                obtain rfl : z6 = [] := nil_of n6 m6 HM.out.2
                have HB6 := hide (bstep (bstep HBB5.out HB5.out) b6)
                clear u4 u5 u6 u7 o6 b6 n6 m6
                go_wp2_with fail
                refine (awake51 _).mono ?_
                rintro e w7 ⟨rfl, hb7⟩
                have HB7 := hide (bstep HB6.out hb7)
                clear hb7
                go_wp2_with fail
                go_ret
                exact ⟨rfl, HB7.out⟩

end Go.Proofs.YtdlebcijgdkfjaaGreatDoor
