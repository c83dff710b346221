/-
  Several texts in one: New47, CTruthN, TruCut, RFits, SampP, ETyp, CValue. Each says at its head what it holds.
-/
import Derived.Test.YtbhcmnfeeogdhaaGreatDoorES21
import Derived.Test.YtbhcmnfeeogdhaaGreatDoorES22
import Derived.Test.YtbhcmnfeeogdhaaGreatDoorES12
import Derived.Deep.RegionHeld3
import Derived.Test.YtbhcmnfeeogdhaaGreatDoorES16
import Derived.Test.YtbhcmnfeeogdhaaGreatDoorES18
import Derived.Test.YtbhcmnfeeogdhaaGreatDoorES14

/-
  wavestorelaw47.New: a source of a wave.
-/
namespace Go.Proofs.YtbhcmnfeeogdhaaGreatDoor
open Go.RowKit

set_option maxRecDepth 100000 in
theorem new_any (v : Wv) (w : World) (h : SigsAt w (Lo w.heap.size) v.A v.sigs) : Calls Tryz.prog 13 #[.agg (cWv v).toArray] w fun e w' => ∃ M, e = .returned (.pointer (some ⟨M, 0, none⟩)) ∧ w.heap.size ≤ M ∧ SourceAt w' M v (-1) 0 ∧ Below w.heap.size w w' := by
  unfold cWv
  obtain ⟨W0, hW0⟩ : ∃ W0, w.alloc (.cells #[.slice v.A v.sigs.length v.cA, .slice v.G v.gn v.cG, .int .i64 v.fin] 27) = W0 := ⟨_, rfl⟩
  have g0 : W0.heap[w.heap.size]? = some (.cells #[.slice v.A v.sigs.length v.cA, .slice v.G v.gn v.cG, .int .i64 v.fin] 27 (0, 0)) := by rw [← hW0]; exact heap_alloc_new w _
  have hb0 : Below w.heap.size w W0 := by rw [← hW0]; exact (Below.refl _ _).alloc (Nat.le_refl _) _
  have c0 := cell_of_row W0 w.heap.size 0 _ _ (0, 0) g0
  have c1 := cell_of_row W0 w.heap.size 1 _ _ (0, 0) g0
  have c2 := cell_of_row W0 w.heap.size 2 _ _ (0, 0) g0
  simp only [List.getElem?_toArray, List.getElem?_cons_zero, List.getElem?_cons_succ] at c0 c1 c2
  have HW0 := hide hW0
  have hz := hb0.size
  clear hW0 g0
  go_enter Tryz.func13, Tryz.ntmps13
  go_upto_region 1 with (fail)
  rw [HW0.out]
  go_wp2_with fail
  go_ret
  have hb1 : Below w.heap.size w (W0.alloc (memO v (-1) 0)) := hb0.alloc hz _
  exact ⟨W0.heap.size, rfl, hz, ⟨heap_alloc_new W0 (memO v (-1) 0), (h.stay (stay_below hb1 fun _ h => h)).more fun b hb => Nat.lt_of_lt_of_le hb hz⟩, hb1⟩

end Go.Proofs.YtbhcmnfeeogdhaaGreatDoor

/-
  condition.Truth at a source just made: what a law about a condition of a small wave needs.
-/
namespace Go.Proofs.YtbhcmnfeeogdhaaGreatDoor
open Go.RowKit

theorem fit_good {v : Wv} {n : Nd} {zs : List Int} (hz : SigsOf n zs) (hok : okF n) : fitE v n zs = 0 ↔ ∀ x ∈ sigF n, sigE v n x = 0 := by
  rw [fitE_ok]
  exact ⟨fun h x hx => h x ((hz.2.2.1 x (sig_I64 n hok x hx)).2 hx), fun h x hx => h x ((hz.2.2.1 x (hz.2.1 x hx)).1 hx)⟩
theorem sigs_same {n : Nd} {zs ys : List Int} (hz : SigsOf n zs) (hy : SigsOf n ys) : zs = ys := by
  have hp : zs.Perm ys := (List.perm_ext_iff_of_nodup hz.1 hy.1).2 fun x => ⟨fun h => (hy.2.2.1 x (hz.2.1 x h)).2 ((hz.2.2.1 x (hz.2.1 x h)).1 h), fun h => (hz.2.2.1 x (hy.2.1 x h)).2 ((hy.2.2.1 x (hy.2.1 x h)).1 h)⟩
  exact hp.eq_of_pairwise (fun a b _ _ h1 h2 => by omega) hz.2.2.2 hy.2.2.2
theorem few_short {most : Nat} (n : Nd) : FewOk most n → n.fold (fun m l => m.value.size ≤ 130 ∧ ∀ p ∈ l, p) := by
  induction n using Nd.ind with
  | h n ih =>
  intro h
  have h2 := (FewOk_eq most n).1 h
  rw [Nd.fold_eq]
  refine ⟨h2.2.1, fun p hp => ?_⟩
  obtain ⟨k, hk, rfl⟩ := List.mem_map.1 hp
  exact ih k hk (h2.2.2.2 k hk)
theorem tree_un {w w' : World} {M : Nat} {n : Nd} (h : TreesAt w (Lo w.heap.size) n.KA n.kids) (hb : Below w.heap.size w w') (hM : w.heap.size ≤ M) : TreesAt w' (Un M w'.heap.size) n.KA n.kids :=
  (h.stay (stay_below hb fun _ h => h)).more fun b hb2 => ⟨Nat.lt_of_lt_of_le hb2 hb.size, fun e => by subst e; exact absurd hb2 (Nat.not_lt.2 hM)⟩
end Go.Proofs.YtbhcmnfeeogdhaaGreatDoor

/-
  A region that makes a source of a wave and asks a condition of it: the words for it.
-/
namespace Go.Proofs.YtbhcmnfeeogdhaaGreatDoor
open Go.RowKit

/-- a wave and a tree in boxes -/
theorem wn_held {W0 : World} {N M : Nat} {a0 a1 a2 b0 b1 b2 b3 b4 b5 b6 b7 b8 : Value} {t t' : TypeId} (h0 : W0.heap[N]? = some (.cells #[a0, a1, a2] t (0, 0))) (h1 : W0.heap[M]? = some (.cells #[b0, b1, b2, b3, b4, b5, b6, b7, b8] t' (0, 0))) (W : World) (hb : Below W0.heap.size W0 W) :
    W.cell? ⟨N, 0, none⟩ = some a0 ∧ W.cell? ⟨N, 1, none⟩ = some a1 ∧ W.cell? ⟨N, 2, none⟩ = some a2 ∧ W.cell? ⟨M, 0, none⟩ = some b0 ∧ W.cell? ⟨M, 1, none⟩ = some b1 ∧ W.cell? ⟨M, 2, none⟩ = some b2 ∧ W.cell? ⟨M, 3, none⟩ = some b3 ∧ W.cell? ⟨M, 4, none⟩ = some b4 ∧ W.cell? ⟨M, 5, none⟩ = some b5 ∧ W.cell? ⟨M, 6, none⟩ = some b6 ∧ W.cell? ⟨M, 7, none⟩ = some b7 ∧ W.cell? ⟨M, 8, none⟩ = some b8 ∧ Below W0.heap.size W0 W := by
  have g0 := (hb.block _ (box_lt h0)).trans h0
  have g1 := (hb.block _ (box_lt h1)).trans h1
  refine ⟨?_, ?_, ?_, ?_, ?_, ?_, ?_, ?_, ?_, ?_, ?_, ?_, hb⟩
  all_goals first | (rw [cell_of_row W N _ _ t (0, 0) g0]; rfl) | (rw [cell_of_row W M _ _ t' (0, 0) g1]; rfl)
end Go.Proofs.YtbhcmnfeeogdhaaGreatDoor

/-
  wavestoreref51.Fits: the error of a tree for a wave.
-/
namespace Go.Proofs.YtbhcmnfeeogdhaaGreatDoor
open Go.RowKit

theorem sigs_of {n : Nd} (hok : okF n) {zs : List Int} (hp : zs.Pairwise (· < ·)) (hm : ∀ u, u ∈ zs ↔ u ∈ sigF n) : SigsOf n zs :=
  ⟨hp.imp (fun h e => by omega), fun x hx => sig_I64 n hok x ((hm x).1 hx), fun x _ => hm x, hp.imp (fun h => by omega)⟩
def FitPost (v : Wv) (n : Nd) (w : World) (e : Ending) (w' : World) : Prop := ∃ zs, SigsOf n zs ∧ e = .returned (.int .i64 (fitE v n zs)) ∧ Below w.heap.size w w'
def FitRel (v : Wv) (n : Nd) (zs : List Int) (w : World) (i : Value) (wr : World) : Prop := ∃ j : Nat, j ≤ zs.length ∧ i = .int .i64 (j : Int) ∧ (∀ x ∈ zs.take j, sigE v n x = 0) ∧ Below w.heap.size w wr

theorem box3_sg {w : World} {N : Nat} {a b c : Value} {t : TypeId} (h : w.heap[N]? = some (.cells #[a, b, c] t (0, 0))) : w.cell? ⟨N, 0, none⟩ = some a ∧ w.cell? ⟨N, 1, none⟩ = some b ∧ w.cell? ⟨N, 2, none⟩ = some c := by
  refine ⟨?_, ?_, ?_⟩ <;> (rw [cell_of_row w N _ _ t (0, 0) h]; rfl)
theorem box_of_cell {w : World} {b j : Nat} {v : Value} (h : w.cell? ⟨b, j, none⟩ = some v) : b < w.heap.size := World.block_lt_of_cell? _ _ h
set_option maxRecDepth 100000 in
set_option maxHeartbeats 8000000 in
theorem rfits_any (v : Wv) (n : Nd) (w : World) (hS : SigsAt w (Lo w.heap.size) v.A v.sigs) (ht : TreesAt w (Lo w.heap.size) n.KA n.kids) (hok : okF n) (hle : (sigF n).length ≤ 1000000) :
    Calls Tryz.prog 42 #[.agg (cWv v).toArray, .agg (cNd n).toArray] w (FitPost v n w) := by
  have HSG := hide (fun (W : World) (hb : Below w.heap.size w W) => rsigs_any n W (ht.grow hb) hle)
  have HTY := hide (fun (x k q : Int) (W : World) (hb : Below w.heap.size w W) => rtyped_any x k q n W (ht.grow hb))
  have HSO := hide (fun (zs : List Int) (hp : zs.Pairwise (· < ·)) (hm : ∀ u, u ∈ zs ↔ u ∈ sigF n) => sigs_of hok hp hm)
  have HS := hide hS
  obtain ⟨n', hn'⟩ : ∃ n', n' = n := ⟨_, rfl⟩
  rw [← hn'] at HTY HSO ⊢
  have HSG2 := hide (show ∀ (W : World) (hb : Below w.heap.size w W), Calls Tryz.prog 90 #[.agg (cNd n).toArray] W (RSgPost n' W) by rw [hn']; exact HSG.out)
  have HTY2 := hide (show ∀ (x k q : Int) (W : World) (hb : Below w.heap.size w W), Calls Tryz.prog 91 #[.agg (cNd n).toArray, .int .i64 x, .int .i64 k, .int .i64 q] W (RetV (.bool (agrF x k q n')) W) by rw [hn']; intro x k q W hb; exact rtyped_any x k q n W (ht.grow hb))
  rw [show (cNd n').toArray = (cNd n).toArray by rw [hn']]
  obtain ⟨v', hv'⟩ : ∃ v', v' = v := ⟨_, rfl⟩
  rw [show FitPost v n' w = FitPost v' n' w by rw [hv']]
  have HSL := hide (show v'.sigs = v.sigs by rw [hv'])
  have HLE := hide (show (sigF n').length ≤ 1000000 by rw [hn']; exact hle)
  clear HSG HTY hn' hv' hS ht hok hle
  obtain ⟨kind, at_, name, value, a, b, c, d, KA, kc, kids⟩ := n
  obtain ⟨A, cA, sigs, G, gn, cG, fin⟩ := v
  unfold cNd at *
  unfold cWv
  dsimp only at HSG2 HTY2 HS HSL ⊢
  obtain ⟨W0, hW0⟩ : ∃ W0, (w.alloc (.cells #[.slice A sigs.length cA, .slice G gn cG, .int .i64 fin] 27)).alloc (.cells #[.int .i64 kind, .int .i64 at_, .string name, .string value, .int .i64 a, .int .i64 b, .int .i64 c, .int .i64 d, .slice KA kids.length kc] 30) = W0 := ⟨_, rfl⟩
  obtain ⟨p0, p1, hb0⟩ := chain2 _ _ _ hW0
  have HS0 := hide (HS.out.up hb0)
  have HH := hide (wn_held p0 p1)
  have HB0 := hide hb0
  have HW0 := hide hW0
  obtain ⟨q0, q1, q2, y0, y1, y2, y3, y4, y5, y6, y7, y8, -⟩ := HH.out W0 (Below.refl _ _)
  clear hb0 hW0 p0 p1
  go_enter Tryz.func42, Tryz.ntmps42
  go_upto_region 1 with (fail)
  rw [HW0.out]
  go_wp2_with fail
  refine (HSG2.out W0 HB0.out).mono ?_
  rintro e w1 ⟨b1, o1, c1, zs, rfl, h1, h2, h3, h4, h5, h6⟩
  have HZ := hide (HSO.out zs h4 h5)
  have HI := hide h1
  have HB1 := hide h3
  have hzl : zs.length ≤ 1000000 := Nat.le_trans h6 HLE.out
  clear h1 h2 h3 h4 h5 h6 q0 q1 q2 y0 y1 y2 y3 y4 y5 y6 y7 y8
  go_upto_region 3 with (fail)
  go_loopw [6] (fun i wr => FitRel v' n' zs w1 i wr) (fun i _ => zs.length - (intOf i).toNat)
  case atStart => exact ⟨0, Nat.zero_le _, rfl, (fun x hx => by simp at hx), Below.refl _ _⟩
  case round =>
    obtain ⟨V, rfl⟩ : ∃ w2 : World, w2 = wr := ⟨_, rfl⟩
    obtain ⟨j, hj, rfl, hpre, hbr⟩ := hrel
    have HBR := hide hbr
    have HPRE := hide hpre
    have HBV := hide (bstep HB1.out hbr)
    clear hbr hpre
    obtain ⟨q0, q1, q2, y0, y1, y2, y3, y4, y5, y6, y7, y8, -⟩ := HH.out V HBV.out
    by_cases hlt : j < zs.length
    · obtain ⟨b2, o2, e2, hb2, hc2⟩ := (HI.out.step HBR.out).at_ hlt
      injection e2 with e2
      injection e2 with e2 e3
      subst e2 e3
      have HX := hide (show zs[j]? = some zs[j] from List.getElem?_eq_getElem hlt)
      have HTK := hide (show zs.take (j + 1) = zs.take j ++ [zs[j]] from List.take_succ_eq_append_getElem hlt)
      have HCUT := hide (take_at HX.out)
      obtain ⟨x, hxe⟩ : ∃ x, zs[j] = x := ⟨_, rfl⟩
      have HXE := hide hxe
      rw [hxe] at hc2 HX HTK HCUT
      clear hxe
      have HBAD := hide (show ∀ (q : Int), sigE v' n' x = q → q ≠ 0 → ∀ wr, Below W0.heap.size W0 wr → FitPost v' n' w (.returned (.int .i64 q)) wr from fun q h1 h2 wr h3 => by
        have hfe : fitE v' n' zs = q := by rw [HCUT.out, fitE_bad (by rw [h1]; exact h2) HPRE.out, h1]
        exact ⟨zs, HZ.out, by rw [hfe], bstep HB0.out h3⟩)
      by_cases hx0 : x < 0
      · have d1 : decide (x < 0) = true := decide_eq_true hx0
        have hsg : sigE v' n' x = 2 := by unfold sigE; rw [if_pos (.inl hx0)]
        have HP := hide (HBAD.out 2 hsg (by decide))
        clear hx0 hsg
        go_upto_region 5 with (fail)
        go_quiet (fail)
        go_wp2_with fail
        go_ret
        exact HP.out _ (below_drewN HBV.out _)
      · have d1 : decide (x < 0) = false := decide_eq_false hx0
        obtain ⟨k, rfl⟩ : ∃ k : Nat, x = (k : Int) := ⟨x.toNat, by omega⟩
        by_cases hxr : k < sigs.length
        · have d2 : decide (sigs.length ≤ k) = false := decide_eq_false (by omega)
          go_upto_region 5 with (fail)
          go_quiet (fail)
          obtain ⟨V2, hV2⟩ : ∃ V2, V.drewN nq = V2 := ⟨_, rfl⟩
          rw [hV2]
          have hbr2 : Below w1.heap.size w1 V2 := by rw [← hV2]; exact below_drewN HBR.out nq
          have HBR2 := hide hbr2
          have HBV2 := hide (bstep HB1.out hbr2)
          clear hV2 hbr2 q0 q1 q2 y0 y1 y2 y3 y4 y5 y6 y7 y8 hc2 d1 d2
          obtain ⟨q0, q1, q2, y0, y1, y2, y3, y4, y5, y6, y7, y8, -⟩ := HH.out V2 HBV2.out
          obtain ⟨b2, o2, e2, hb2', hc2⟩ := (HI.out.step HBR2.out).at_ hlt
          injection e2 with e2
          injection e2 with e2 e3
          subst e2 e3
          rw [HXE.out] at hc2
          obtain ⟨bk, ok, rfl, hbk, hc⟩ := (HS0.out.up HBV2.out).row.at_ hxr
          have hsgn : sgnAt v' (k : Int) = sigs[k] := by unfold sgnAt; rw [HSL.out]; simp [List.getElem?_eq_getElem hxr]
          have hsg : sigE v' n' (k : Int) = if agrF (k : Int) sigs[k].kind sigs[k].width n' then 0 else 7 := by
            unfold sigE
            rw [if_neg (by rw [HSL.out]; omega), hsgn]
          generalize sigs[k] = s at *
          obtain ⟨sk, sw, sA, sc, chs⟩ := s
          unfold cSgn at hc
          dsimp only at hsg
          have e0 := hc 0 (by omega)
          have e1 := hc 1 (by omega)
          have e3 := hc 2 (by omega)
          simp only [List.getElem?_cons_zero, List.getElem?_cons_succ, Nat.add_zero] at e0 e1 e3
          have HSG := hide hsg
          have hbk' : bk < V2.heap.size := hbk
          have hwv : w.heap.size < V2.heap.size := box_of_cell q0
          clear hc hsgn hsg hx0
          go_upto_region 7 with (fail)
          go_region
          obtain ⟨V4, hV4⟩ : ∃ V4, (V2.alloc (.cells #[.int .i64 sk, .int .i64 sw, .slice sA chs.length sc] 70)).drew = V4 := ⟨_, rfl⟩
          rw [hV4]
          have hb4 : Below V2.heap.size V2 V4 := by rw [← hV4]; exact below_drew ((Below.refl _ _).alloc (Nat.le_refl _) _)
          have hg4 : V4.heap[V2.heap.size]? = some (.cells #[.int .i64 sk, .int .i64 sw, .slice sA chs.length sc] 70 (0, 0)) := by rw [← hV4]; exact heap_alloc_new V2 _
          have HB4 := hide (bstep HBV2.out hb4)
          have HB41 := hide (bstep HBR2.out hb4)
          have HIX := hide (HI.out.step (bstep HBR2.out hb4))
          have HSF := hide (show ∀ (W : World), Below V4.heap.size V4 W → W.cell? ⟨w.heap.size + 1, 0, none⟩ = some (.int .i64 kind) ∧ W.cell? ⟨w.heap.size + 1, 1, none⟩ = some (.int .i64 at_) ∧ W.cell? ⟨w.heap.size + 1, 2, none⟩ = some (.string name) ∧ W.cell? ⟨w.heap.size + 1, 3, none⟩ = some (.string value) ∧ W.cell? ⟨w.heap.size + 1, 4, none⟩ = some (.int .i64 a) ∧ W.cell? ⟨w.heap.size + 1, 5, none⟩ = some (.int .i64 b) ∧ W.cell? ⟨w.heap.size + 1, 6, none⟩ = some (.int .i64 c) ∧ W.cell? ⟨w.heap.size + 1, 7, none⟩ = some (.int .i64 d) ∧ W.cell? ⟨w.heap.size + 1, 8, none⟩ = some (.slice KA kids.length kc) ∧ W.cell? ⟨b1, o1 + j, none⟩ = some (.int .i64 (k : Int)) ∧ W.cell? ⟨V2.heap.size, 0, none⟩ = some (.int .i64 sk) ∧ W.cell? ⟨V2.heap.size, 1, none⟩ = some (.int .i64 sw) ∧ Below V4.heap.size V4 W from fun W hb => by
            obtain ⟨-, -, -, y0, y1, y2, y3, y4, y5, y6, y7, y8, -⟩ := HH.out W (bstep HB4.out hb)
            obtain ⟨b2, o2, e2, hb2', hc2⟩ := (HIX.out.step hb).at_ hlt
            injection e2 with e2
            injection e2 with e2 e3
            subst e2 e3
            rw [HXE.out] at hc2
            obtain ⟨z0, z1, -⟩ := box3_sg ((hb.block _ (box_lt hg4)).trans hg4)
            exact ⟨y0, y1, y2, y3, y4, y5, y6, y7, y8, hc2, z0, z1, hb⟩)
          have HTC := hide (fun (W : World) (hb : Below V4.heap.size V4 W) => HTY2.out (k : Int) sk sw W (bstep HB0.out (bstep HB4.out hb)))
          obtain ⟨y, hy⟩ : ∃ y, agrF (k : Int) sk sw n' = y := ⟨_, rfl⟩
          rw [hy] at HTC HSG
          clear hy hV4 hb4 hg4 hbk' hwv hbk q0 q1 q2 y0 y1 y2 y3 y4 y5 y6 y7 y8 hc2 e0 e1 e3
          go_upto_region 8 with (fail)
          have k0 := HSF.out V4.drew (below_drew (Below.refl _ _))
          have r0 := below_drew (Below.refl V4.heap.size V4)
          go_region_held3 (fun W => W.cell? ⟨w.heap.size + 1, 0, none⟩ = some (.int .i64 kind) ∧ W.cell? ⟨w.heap.size + 1, 1, none⟩ = some (.int .i64 at_) ∧ W.cell? ⟨w.heap.size + 1, 2, none⟩ = some (.string name) ∧ W.cell? ⟨w.heap.size + 1, 3, none⟩ = some (.string value) ∧ W.cell? ⟨w.heap.size + 1, 4, none⟩ = some (.int .i64 a) ∧ W.cell? ⟨w.heap.size + 1, 5, none⟩ = some (.int .i64 b) ∧ W.cell? ⟨w.heap.size + 1, 6, none⟩ = some (.int .i64 c) ∧ W.cell? ⟨w.heap.size + 1, 7, none⟩ = some (.int .i64 d) ∧ W.cell? ⟨w.heap.size + 1, 8, none⟩ = some (.slice KA kids.length kc) ∧ W.cell? ⟨b1, o1 + j, none⟩ = some (.int .i64 (k : Int)) ∧ W.cell? ⟨V2.heap.size, 0, none⟩ = some (.int .i64 sk) ∧ W.cell? ⟨V2.heap.size, 1, none⟩ = some (.int .i64 sw) ∧ Below V4.heap.size V4 W)
            (first | (with_reducible assumption) | exact k0)
            (first
              | (go_at_call 91; refine (HTC.out V4.drew r0).mono ?_; rintro e w5 ⟨rfl, hb5⟩; have h5 := bstep r0 hb5; have k5 := HSF.out w5 h5)
              | fail)
          have HB5 := hide (bstep HB4.out h5)
          have HB51 := hide (bstep HB41.out h5)
          clear k0 r0 hb5 h5 k5
          cases y with
          | false =>
            have HP := hide (HBAD.out 7 HSG.out (by decide))
            go_wp2_with fail
            go_ret
            exact HP.out _ HB5.out
          | true =>
            have HP1 := hide (show ∀ x ∈ zs.take (j + 1), sigE v' n' x = 0 by
              rw [HTK.out]
              intro x hx
              rcases List.mem_append.1 hx with hx | hx
              · exact HPRE.out x hx
              · simp at hx; subst hx; exact HSG.out)
            go_wp2_with fail
            exact ⟨⟨j + 1, hlt, by go_num, HP1.out, HB51.out⟩, by simp [intOf]; omega⟩
        · have d2 : decide (sigs.length ≤ k) = true := decide_eq_true (by omega)
          have hsg : sigE v' n' (k : Int) = 2 := by unfold sigE; rw [if_pos (.inr (by rw [HSL.out]; omega))]
          have HP := hide (HBAD.out 2 hsg (by decide))
          clear hx0 hsg hxr
          go_upto_region 5 with (fail)
          go_quiet (fail)
          go_wp2_with fail
          go_ret
          exact HP.out _ (below_drewN HBV.out _)
    · have hje : j = zs.length := by omega
      have HR := hide (show FitPost v' n' w (.returned (.int .i64 0)) V from ⟨zs, HZ.out, by rw [fitE_ok.2 (by have := HPRE.out; rwa [hje, List.take_length] at this)], bstep HB0.out HBV.out⟩)
      clear hje
      go_wp2_with fail
      go_ret
      exact HR.out

end Go.Proofs.YtbhcmnfeeogdhaaGreatDoor

/-
  Sampling a value at times, in plain Lean.
-/
namespace Go.Proofs.YtbhcmnfeeogdhaaGreatDoor
open Go.RowKit

theorem ins_ex (x : Int) : ∀ zs : List Int, zs.Pairwise (· < ·) → ∃ ys : List Int, ys.Pairwise (· < ·) ∧ ∀ u, u ∈ ys ↔ u = x ∨ u ∈ zs
  | [], _ => ⟨[x], by simp, by simp⟩
  | y :: r, h => by
    obtain ⟨h1, h2⟩ := List.pairwise_cons.1 h
    by_cases a : x < y
    · refine ⟨x :: y :: r, List.pairwise_cons.2 ⟨fun z hz => ?_, h⟩, fun u => by simp⟩
      rcases List.mem_cons.1 hz with rfl | hz
      · exact a
      · have := h1 z hz; omega
    · by_cases b : x = y
      · subst b
        exact ⟨x :: r, h, fun u => by simp⟩
      · obtain ⟨ys, p, m⟩ := ins_ex x r h2
        refine ⟨y :: ys, List.pairwise_cons.2 ⟨fun z hz => ?_, p⟩, fun u => ?_⟩
        · rcases (m z).1 hz with rfl | hz
          · omega
          · exact h1 z hz
        · rw [List.mem_cons, m u, List.mem_cons]
          exact or_left_comm
theorem sorted_ex : ∀ l : List Int, ∃ zs : List Int, zs.Pairwise (· < ·) ∧ ∀ u, u ∈ zs ↔ u ∈ l
  | [] => ⟨[], by simp, by simp⟩
  | x :: r => by
    obtain ⟨zs, p, m⟩ := sorted_ex r
    obtain ⟨ys, q, k⟩ := ins_ex x zs p
    exact ⟨ys, q, fun u => by rw [k u, m u, List.mem_cons]⟩
theorem sigs_ex {n : Nd} (hok : okF n) : ∃ zs, SigsOf n zs := by
  obtain ⟨zs, p, m⟩ := sorted_ex (sigF n)
  exact ⟨zs, sigs_of hok p m⟩
/-- the error of sampling at times -/
def smpE (fin er : Int) : List Int → Int
  | [] => 0
  | t :: ts => if 1 ≤ t ∧ t ≤ fin then (if er = 0 then smpE fin er ts else er) else 2
section
variable {fin er : Int} {ts : List Int} {j : Nat}
theorem smp_end : smpE fin er (ts.drop ts.length) = 0 := by rw [List.drop_length]; rfl
theorem smp_out (h : j < ts.length) (ho : ¬ (1 ≤ ts[j] ∧ ts[j] ≤ fin)) : smpE fin er (ts.drop j) = 2 := by
  rw [List.drop_eq_getElem_cons h]
  unfold smpE
  rw [if_neg ho]
theorem smp_bad (h : j < ts.length) (hi : 1 ≤ ts[j] ∧ ts[j] ≤ fin) (he : er ≠ 0) : smpE fin er (ts.drop j) = er := by
  rw [List.drop_eq_getElem_cons h]
  unfold smpE
  rw [if_pos hi, if_neg he]
theorem smp_step (h : j < ts.length) (hi : 1 ≤ ts[j] ∧ ts[j] ≤ fin) (he : er = 0) : smpE fin er (ts.drop j) = smpE fin er (ts.drop (j + 1)) := by
  rw [List.drop_eq_getElem_cons h]
  conv => lhs; unfold smpE
  rw [if_pos hi, if_pos he]
end
def smpQ (r : Option (Int × Int)) (e : Int) : Int := match r with | none => 7 | some _ => e
def smpT (v : Wv) (n : Nd) (zs ts : List Int) : Int := smpQ (typeF n) (smpE v.fin (fitE v n zs) ts)
def smpG (v : Wv) (n : Nd) (t : Int) : ByteArray := valF (envW v (t - 1)) n
/-- a list of strings and an error: the samples -/
def SmpR (v : Wv) (n : Nd) (zs ts : List Int) (p q : Value) (w : World) : Prop :=
  ∃ (er : Int) (A : Option Addr) (c : Nat) (vs : List ByteArray), er = smpT v n zs ts ∧ q = .int .i64 er ∧ p = .slice A vs.length c ∧ StrsAt w (Lo w.heap.size) A vs ∧ (er ≠ 0 → vs = []) ∧ (er = 0 → vs = ts.map (smpG v n))
theorem SmpR.err {v : Wv} {n : Nd} {zs ts : List Int} {er : Int} {w : World} (h : er = smpT v n zs ts) (he : er ≠ 0) : SmpR v n zs ts (.slice none 0 0) (.int .i64 er) w :=
  ⟨er, none, 0, [], h, rfl, rfl, fun h => absurd rfl h, fun _ => rfl, fun h => absurd h he⟩
theorem SmpR.grow {v : Wv} {n : Nd} {zs ts : List Int} {p q : Value} {w w' : World} (h : SmpR v n zs ts p q w) (hb : Below w.heap.size w w') : SmpR v n zs ts p q w' := by
  obtain ⟨er, A, c, vs, h1, h2, h3, h4, h5, h6⟩ := h
  exact ⟨er, A, c, vs, h1, h2, h3, (h4.stay (stay_below hb fun _ h => h)).more fun _ h => Nat.lt_of_lt_of_le h hb.size, h5, h6⟩

end Go.Proofs.YtbhcmnfeeogdhaaGreatDoor

/-
  event.typed; event.isEvent at an event of the kinds without conditions.
-/
namespace Go.Proofs.YtbhcmnfeeogdhaaGreatDoor
open Go.RowKit

def typB : Option (Int × Int) → Int → Bool
  | none, _ => false
  | some (k, q), wd => wd == 0 || (k == 0 && q == wd)

set_option maxRecDepth 100000 in
set_option maxHeartbeats 8000000 in
theorem typedE_any (n : Nd) (wd : Int) (w : World) (ht : TreesAt w (Lo w.heap.size) n.KA n.kids) :
    Calls Tryz.prog 40 #[.agg (cNd n).toArray, .int .i64 wd] w (RetV (.bool (typB (typeF n) wd)) w) := by
  have HTY := hide (fun (W : World) (hb : Below w.heap.size w W) => type_any n W (ht.grow hb))
  generalize typeF n = r at *
  clear ht
  obtain ⟨kind, at_, name, value, a, b, c, d, KA, kc, kids⟩ := n
  unfold cNd at *
  obtain ⟨W0, hW0⟩ : ∃ W0, w.alloc (.cells #[.int .i64 kind, .int .i64 at_, .string name, .string value, .int .i64 a, .int .i64 b, .int .i64 c, .int .i64 d, .slice KA kids.length kc] 30) = W0 := ⟨_, rfl⟩
  have g0 := new_at hW0
  have hb0 : Below w.heap.size w W0 := by rw [← hW0]; exact (Below.refl _ _).alloc (Nat.le_refl _) _
  have HTC := hide (HTY.out W0 hb0)
  have HB0 := hide hb0
  have HW0 := hide hW0
  obtain ⟨y0, y1, y2, y3, y4, y5, y6, y7, y8⟩ := box9 g0
  clear hW0 g0 hb0 HTY
  cases r with
  | none =>
    unfold typV at HTC
    dsimp only at HTC
    go_enter Tryz.func40, Tryz.ntmps40
    go_upto_region 1 with (fail)
    rw [HW0.out]
    go_wp2_with (go_at_call 21; refine HTC.out.mono ?_; rintro e w2 ⟨rfl, hb2⟩; have HB2 := hide hb2; clear hb2)
    go_ret
    exact ⟨rfl, bstep HB0.out HB2.out⟩
  | some p =>
    obtain ⟨k, q⟩ := p
    unfold typV at HTC
    dsimp only at HTC
    by_cases w0 : wd = 0
    · subst w0
      go_enter Tryz.func40, Tryz.ntmps40
      go_upto_region 1 with (fail)
      rw [HW0.out]
      go_wp2_with (go_at_call 21; refine HTC.out.mono ?_; rintro e w2 ⟨rfl, hb2⟩; have HB2 := hide hb2; clear hb2)
      go_ret
      exact ⟨rfl, bstep HB0.out HB2.out⟩
    · have T0 : (wd == 0) = false := beq_eq_false_iff_ne.2 w0
      by_cases k0 : k = 0
      · subst k0
        have HE := hide (show typB (some (0, q)) wd = (q == wd) by show (wd == 0 || ((0 : Int) == 0 && q == wd)) = _; rw [T0]; rfl)
        clear w0
        go_enter Tryz.func40, Tryz.ntmps40
        go_upto_region 1 with (fail)
        rw [HW0.out]
        go_wp2_with (go_at_call 21; refine HTC.out.mono ?_; rintro e w2 ⟨rfl, hb2⟩; have HB2 := hide hb2; clear hb2)
        go_ret
        rw [HE.out]
        exact ⟨rfl, bstep HB0.out HB2.out⟩
      · have T1 : (k == 0) = false := beq_eq_false_iff_ne.2 k0
        have HE := hide (show typB (some (k, q)) wd = false by show (wd == 0 || (k == 0 && q == wd)) = _; rw [T0, T1]; rfl)
        clear w0 k0
        go_enter Tryz.func40, Tryz.ntmps40
        go_upto_region 1 with (fail)
        rw [HW0.out]
        go_wp2_with (go_at_call 21; refine HTC.out.mono ?_; rintro e w2 ⟨rfl, hb2⟩; have HB2 := hide hb2; clear hb2)
        go_ret
        rw [HE.out]
        exact ⟨rfl, bstep HB0.out HB2.out⟩

set_option maxRecDepth 100000 in
set_option maxHeartbeats 8000000 in
theorem isev_simple (kind at_ : Int) (name value : ByteArray) (a b c d : Int) (KA : Option Addr) (kc : Nat) (x : Nd) (w : World) (ht : TreesAt w (Lo w.heap.size) KA [x]) (hk : 37 ≤ kind ∧ kind ≤ 41) :
    Calls Tryz.prog 30 #[.agg #[.int .i64 kind, .int .i64 at_, .string name, .string value, .int .i64 a, .int .i64 b, .int .i64 c, .int .i64 d, .slice KA 1 kc]] w (RetV (.bool (typB (typeF x) (if kind = 41 then 0 else 1))) w) := by
  obtain ⟨W0, hW0⟩ : ∃ W0, w.alloc (.cells #[.int .i64 kind, .int .i64 at_, .string name, .string value, .int .i64 a, .int .i64 b, .int .i64 c, .int .i64 d, .slice KA 1 kc] 30) = W0 := ⟨_, rfl⟩
  have g0 := new_at hW0
  have hb0 : Below w.heap.size w W0 := by rw [← hW0]; exact (Below.refl _ _).alloc (Nat.le_refl _) _
  have hT := ht.grow hb0
  obtain ⟨bk, ok, rfl, hbk, hcx⟩ := hT.row.at_ (show 0 < [x].length by simp)
  have hkid := hT.each x (by simp)
  have HTY := hide (fun (wd : Int) (W : World) (hb : Below W0.heap.size W0 W) => typedE_any x wd W (hkid.grow hb))
  have HB0 := hide hb0
  have HG0 := hide g0
  have HW0 := hide hW0
  obtain ⟨y0, y1, y2, y3, y4, y5, y6, y7, y8⟩ := box9 g0
  simp only [List.getElem_cons_zero] at hcx
  generalize typeF x = r at *
  clear hW0 g0 hb0 ht hT hkid
  obtain ⟨m1, m2, m3, m4, m5, m6, m7, m8, mK, mc, ml⟩ := x
  unfold cNd at hcx HTY
  obtain ⟨c0, c1, c2, c3, c4, c5, c6, c7, c8⟩ := nine hcx
  clear hcx
  simp only [Nat.zero_mul, Nat.add_zero] at c0 c1 c2 c3 c4 c5 c6 c7 c8
  obtain ⟨W1, hW1⟩ : ∃ W1, W0.alloc (.cells #[.int .i64 m1, .int .i64 m2, .string m3, .string m4, .int .i64 m5, .int .i64 m6, .int .i64 m7, .int .i64 m8, .slice mK ml.length mc] 30) = W1 := ⟨_, rfl⟩
  have hb1 : Below W0.heap.size W0 W1 := by rw [← hW1]; exact (Below.refl _ _).alloc (Nat.le_refl _) _
  have g1 := new_at hW1
  have HT1 := hide (fun wd => HTY.out wd W1 hb1)
  have HB1 := hide (bstep HB0.out hb1)
  have HY := hide (box9 ((hb1.block _ (box_lt HG0.out)).trans HG0.out))
  have HG1 := hide g1
  have HW1 := hide hW1
  clear hb1 g1 hW1 HTY
  go_enter Tryz.func30, Tryz.ntmps30
  go_upto_region 1 with (fail)
  rw [HW0.out]
  have T44 : (kind == 44) = false := beq_eq_false_iff_ne.2 (by omega)
  go_upto_region 6 with (fail)
  rw [HW1.out]
  obtain ⟨x0, x1, x2, x3, x4, x5, x6, x7, x8⟩ := box9 HG1.out
  clear y0 y1 y2 y3 y4 y5 y6 y7 y8 c0 c1 c2 c3 c4 c5 c6 c7 c8
  obtain ⟨y0, y1, y2, y3, y4, y5, y6, y7, y8⟩ := HY.out
  have hkk : kind = 37 ∨ kind = 38 ∨ kind = 39 ∨ kind = 40 ∨ kind = 41 := by omega
  clear hk T44
  rcases hkk with rfl | rfl | rfl | rfl | rfl
  · go_wp2_with fail
    refine (HT1.out 1).mono ?_
    rintro e w2 ⟨rfl, hb2⟩
    have HB2 := hide (bstep HB1.out hb2)
    clear hb2
    go_wp2_with fail
    go_ret
    exact ⟨rfl, HB2.out⟩
  · go_wp2_with fail
    refine (HT1.out 1).mono ?_
    rintro e w2 ⟨rfl, hb2⟩
    have HB2 := hide (bstep HB1.out hb2)
    clear hb2
    go_wp2_with fail
    go_ret
    exact ⟨rfl, HB2.out⟩
  · go_wp2_with fail
    refine (HT1.out 1).mono ?_
    rintro e w2 ⟨rfl, hb2⟩
    have HB2 := hide (bstep HB1.out hb2)
    clear hb2
    go_wp2_with fail
    go_ret
    exact ⟨rfl, HB2.out⟩
  · go_wp2_with fail
    refine (HT1.out 1).mono ?_
    rintro e w2 ⟨rfl, hb2⟩
    have HB2 := hide (bstep HB1.out hb2)
    clear hb2
    go_wp2_with fail
    go_ret
    exact ⟨rfl, HB2.out⟩
  · go_wp2_with fail
    refine (HT1.out 0).mono ?_
    rintro e w2 ⟨rfl, hb2⟩
    have HB2 := hide (bstep HB1.out hb2)
    clear hb2
    go_wp2_with fail
    go_ret
    exact ⟨rfl, HB2.out⟩

end Go.Proofs.YtbhcmnfeeogdhaaGreatDoor

/-
  condition.Value: the spans of a value of a source.
-/
namespace Go.Proofs.YtbhcmnfeeogdhaaGreatDoor
open Go.RowKit

def VRes (l : Value) (er : Int) : Ending := .returned (.tuple #[l, .int .i64 er])
def ValuePost (v : Wv) (n : Nd) (L c : Int) (M : Nat) (f t : Int) (w : World) (e : Ending) (w' : World) : Prop :=
  (¬ inR v f t ∧ e = VRes (.slice none 0 0) 2 ∧ SrcTo w M v L c w') ∨
  (inR v f t ∧ typeF n = none ∧ e = VRes (.slice none 0 0) 7 ∧ SrcTo w M v L c w') ∨
  (inR v f t ∧ (∃ p, typeF n = some p) ∧ ∃ zs, SigsOf n zs ∧
    ((fitE v n zs ≠ 0 ∧ L < 0 ∧ e = VRes (.slice none 0 0) (fitE v n zs) ∧ ∃ c', SrcTo w M v L c' w') ∨
     (fitE v n zs = 0 ∧ (L < 0 ∨ c + allC v f t zs ≤ L) ∧ SrcTo w M v L (c + allC v f t zs) w' ∧ ∃ (A : Option Addr) (ca : Nat) (l : List Spn), e = VRes (.slice A l.length ca) 0 ∧
       OwnSp w' w.heap.size A ca l ∧ Spans (fun u => valF (envW v u) n) f t l ∧ l.length ≤ 4001) ∨
     (fitE v n zs = 0 ∧ 0 ≤ L ∧ L < c + allC v f t zs ∧ e = VRes (.slice none 0 0) 14 ∧ ∃ c', SrcTo w M v L c' w')))

set_option maxRecDepth 100000 in
set_option maxHeartbeats 4000000 in
/-- the closure that spans calls -/
theorem vcl_any (env : Int → ByteArray) (n : Nd) (p : Int × Int) (hp : typeF n = some p) (Bm q N : Nat) (w : World) (ht : TreesAt w (Lo w.heap.size) n.KA n.kids) (hm : MapS w Bm q env) (hok : okF n) (he : EnvOk env n) (hf : FewOk 60 n) (hN : w.heap[N]? = some (.cells (cNd n).toArray 30 (0, 0))) :
    Calls Tryz.prog 50 #[.map (some Bm), .pointer (some ⟨N, 0, none⟩)] w (RetV (.string (valF env n)) w) := by
  have hcall := cval_of hp w Bm q ht hm hok he hf
  clear hm hok he hf ht hp
  generalize valF env n = v at *
  obtain ⟨m1, m2, m3, m4, m5, m6, m7, m8, mK, mc, ml⟩ := n
  unfold cNd at hcall hN
  dsimp only at hcall hN
  have HC := hide hcall
  obtain ⟨y0, y1, y2, y3, y4, y5, y6, y7, y8⟩ := box9 hN
  clear hcall hN
  go_enter Tryz.func50, Tryz.ntmps50
  go_wp2_with (go_at_call 51; refine HC.out.mono ?_; rintro e w2 ⟨rfl, hb2⟩; have HB2 := hide hb2; clear hb2)
  go_ret
  exact ⟨rfl, HB2.out⟩
theorem enters_V1 : EntersF 50 := fun args w => by
  first | exact run_callFunc_enter _ _ _ | kernel_rfl
theorem row_val {v : Wv} {n : Nd} {zs : List Int} (hz : SigsOf n zs) (hok : okF n) (u : Int) : valF (envL zs ((zs.map (gOf v)).map (· u))) n = valF (envW v u) n :=
  (val_congr n fun x hx => (envL_at v u ((hz.2.2.1 x (sig_I64 n hok x hx)).2 hx)).symm).symm

set_option maxRecDepth 100000 in
set_option maxHeartbeats 8000000 in
theorem value_any2 (v : Wv) (L c : Int) (M : Nat) (n : Nd) (f t : Int) (w : World) (h : SourceAt w M v L c) (hv : SmallOk v) (ht : TreesAt w (Un M w.heap.size) n.KA n.kids) (hok : okF n) (hf60 : FewOk 60 n) (hsz : n.fold (fun m l => m.value.size ≤ 130 ∧ ∀ p ∈ l, p))
    (h0 : 0 ≤ c) (h1 : c ≤ 100000) (hL : L < 0 ∨ c ≤ L) (hfit : 0 ≤ L → inR v f t ∧ (∃ p, typeF n = some p) ∧ ∀ x ∈ sigF n, sigE v n x = 0) :
    Calls Tryz.prog 22 #[srcV M, .agg (cNd n).toArray, .int .i64 f, .int .i64 t] w (ValuePost v n L c M f t w) := by
  have hM := h.lt
  have hgd := fun (hr : ∃ p, typeF n = some p) => Gd.ev (n := n) (.inr hr)
  have HROWS := hide (fun (W : World) (hs : SrcTo w M v L c W) (hi : inR v f t) (hr : ∃ p, typeF n = some p) => rows_any v L c M n f t W hs.1 hv (tree_src ht hs) hok hf60.nodes (hgd hr) h0 h1 hL hi.1 hi.2.1 hi.2.2 (fun h2 zs z1 z2 => fitE_ok.2 fun x hx => (hfit h2).2.2 x ((z2 x (z1 x hx)).1 hx)))
  have HTYP := hide (fun (W : World) (hs : SrcTo w M v L c W) => type_any n W ((tree_src ht hs).more fun _ => un_lo))
  have HWI := hide (fun (W : World) (hs : SrcTo w M v L c W) => within_any v L c M f t W hs.1)
  have HSP := hide (fun (zs : List Int) (hz : SigsOf n zs) (p : Int × Int) (hp : typeF n = some p) (hfe : fitE v n zs = 0) (W : World) (c' : Int) (hs : SrcTo w M v L c' W) (RA ZA : Option Addr) (rc zc : Nat) (rows : List RwM) (hR : RwsAt W (Lo W.heap.size) RA rows) (hZ : IntsAt W W.heap.size ZA zs) (hrl : rows.length ≤ 4001) (hcov : Cov (zs.map (gOf v)) f (t + 1) (rows.map RwM.rw)) (N : Nat) (hN : W.heap[N]? = some (.cells (cNd n).toArray 30 (0, 0))) =>
    spans_any 50 #[.pointer (some ⟨N, 0, none⟩)] enters_V1 (fun vs => valF (envL zs vs) n) RA ZA rc zc rows zs W hR hZ hz.1 hz.2.1 hrl
      (by have := nodup_few v.sigs.length hz.1 (fun x hx => ⟨(sigE_zero (fitE_ok.1 hfe x hx)).1, (sigE_zero (fitE_ok.1 hfe x hx)).2.1⟩); have := hv.len; omega)
      (fun r hr => by
        obtain ⟨k1, k2, k3, k4⟩ := cov_mem hcov (List.mem_map.2 ⟨r, hr, rfl⟩)
        have : r.vs = (zs.map (gOf v)).map (· r.f) := k4 r.f (Int.le_refl _) k2
        rw [this]; simp)
      (fun r hr b hb => by
        obtain ⟨k1, k2, k3, k4⟩ := cov_mem hcov (List.mem_map.2 ⟨r, hr, rfl⟩)
        have h9 : r.vs = (zs.map (gOf v)).map (· r.f) := k4 r.f (Int.le_refl _) k2
        rw [h9] at hb
        exact (row_env hv hz hok hfe hsz r.f).2.2 b hb)
      (fun r hr2 W2 Bm q hb hm => by
        obtain ⟨k1, k2, k3, k4⟩ := cov_mem hcov (List.mem_map.2 ⟨r, hr2, rfl⟩)
        have h9 : r.vs = (zs.map (gOf v)).map (· r.f) := k4 r.f (Int.le_refl _) k2
        have hs2 := hs.below hb
        exact vcl_any (envL zs r.vs) n p hp Bm q N W2 ((tree_src ht hs2).more fun _ => un_lo) hm hok (by rw [h9]; exact (row_env hv hz hok hfe hsz r.f).1) hf60 ((hb.block _ (box_lt hN)).trans hN)))
  have HSPN := hide (fun (zs : List Int) (hz : SigsOf n zs) (rows : List RwM) (hne : rows ≠ []) (hcov : Cov (zs.map (gOf v)) f (t + 1) (rows.map RwM.rw)) => show Spans (fun u => valF (envW v u) n) f t (spL (fun vs => valF (envL zs vs) n) (rows.map RwM.rw)) from by
    have := spL_spans (F := fun vs => valF (envL zs vs) n) hcov (by simpa using hne)
    rw [Int.add_sub_cancel] at this
    exact this.congr fun u _ _ => (row_val hz hok u).symm)
  clear ht hok hf60 hsz hgd hfit
  obtain ⟨rz, hrz⟩ : ∃ rz, typeF n = rz := ⟨_, rfl⟩
  have HRZ := hide hrz
  rw [hrz] at HTYP
  clear hrz
  have HV := hide hv
  obtain ⟨kind, at_, name, value, a, b, c0, d, KA, kc, kids⟩ := n
  unfold cNd at HROWS HTYP HSP ⊢
  dsimp only at HROWS HTYP HSP ⊢
  generalize hnn : Nd.mk kind at_ name value a b c0 d KA kc kids = n at *
  obtain ⟨W0, hW0⟩ : ∃ W0, w.alloc (.cells #[.int .i64 kind, .int .i64 at_, .string name, .string value, .int .i64 a, .int .i64 b, .int .i64 c0, .int .i64 d, .slice KA kids.length kc] 30) = W0 := ⟨_, rfl⟩
  have p0 := new_at hW0
  have hb0 : Below w.heap.size w W0 := by rw [← hW0]; exact (Below.refl _ _).alloc (Nat.le_refl _) _
  have HS0 := hide (SrcTo.start h hb0)
  have HG0 := hide p0
  have HW0 := hide hW0
  have hl0 := box_lt p0
  obtain ⟨y0, y1, y2, y3, y4, y5, y6, y7, y8⟩ := box9 p0
  have HW := hide (HWI.out W0 HS0.out)
  have HR := hide (HTYP.out W0 HS0.out)
  clear hW0 p0 hb0 h hnn hv
  unfold srcV at HROWS HW ⊢
  go_enter Tryz.func22, Tryz.ntmps22
  go_upto_region 1 with (fail)
  rw [HW0.out]
  by_cases hin : inR v f t
  · have hd : (decide (0 ≤ f) && decide (f ≤ t) && decide (t ≤ v.fin)) = true := by rw [decide_eq_true hin.1, decide_eq_true hin.2.1, decide_eq_true hin.2.2]; rfl
    rw [hd] at HW
    have HIN := hide hin
    clear hd hin
    cases rz with
    | none =>
      unfold typV at HR
      dsimp only at HR
      go_wp2_with first
        | (go_at_call 47; refine HW.out.mono ?_; rintro e w2 ⟨rfl, rfl⟩)
        | (go_at_call 21; refine HR.out.mono ?_; rintro e w3 ⟨rfl, hb3⟩; have HS3 := hide (HS0.out.below hb3); clear hb3)
      go_ret2
      exact .inr (.inl ⟨HIN.out, HRZ.out, rfl, HS3.out⟩)
    | some p =>
      obtain ⟨pk, pw⟩ := p
      unfold typV at HR
      dsimp only at HR
      have hR := fun (W : World) (hb : Below W0.heap.size W0 W) => HROWS.out W (HS0.out.below hb) HIN.out ⟨_, HRZ.out⟩
      have HROW := hide hR
      have hchain := fun (W : World) (hb : Below W0.heap.size W0 W) => (hb.block _ hl0).trans HG0.out
      have HCH := hide hchain
      clear hR hchain
      go_upto_region 6 with first
        | (go_at_call 47; refine HW.out.mono ?_; rintro e w2 ⟨rfl, rfl⟩)
        | (go_at_call 21; refine HR.out.mono ?_; rintro e w3 ⟨rfl, hb3⟩)
      have HN3 := hide (HCH.out w3 hb3)
      clear y0 y1 y2 y3 y4 y5 y6 y7 y8
      obtain ⟨y0, y1, y2, y3, y4, y5, y6, y7, y8⟩ := box9 HN3.out
      have HS3 := hide (HS0.out.below hb3)
      have HRW := hide (HROW.out w3 hb3)
      have hz3 := hb3.size
      clear hb3
      go_wp2_with fail
      refine HRW.out.mono ?_
      rintro e w4 ⟨zs, zn, zI, zm, zp, ⟨hfe, hLn, rfl, c9, hs4⟩ | ⟨hfe, hrm, RA, rc, rows, ZA, zc, rfl, hrw, hzi, hcov, hne, hrl, hs4⟩ | ⟨hfe, hLp, hrm, rfl, c9, hs4⟩⟩
      · have HS4 := hide (HS3.out.trans hs4)
        have T1 : (fitE v n zs != 0) = true := by simp [hfe]
        have HFE := hide hfe
        have HZZ := hide (show SigsOf n zs from ⟨zn, zI, zm, zp⟩)
        clear hs4 hfe y0 y1 y2 y3 y4 y5 y6 y7 y8 zn zI zm zp
        go_wp2_with fail
        go_ret2
        exact .inr (.inr ⟨HIN.out, ⟨_, HRZ.out⟩, zs, HZZ.out, .inl ⟨HFE.out, hLn, rfl, c9, HS4.out⟩⟩)
      · have hN4 := (hs4.2.block _ (by omega) (fun e => by injection e with e; omega)).trans HN3.out
        have hS4 := HS3.out.trans hs4
        have hZZ : SigsOf n zs := ⟨zn, zI, zm, zp⟩
        have hspc := HSP.out zs hZZ _ HRZ.out hfe w4 _ hS4 RA ZA rc zc rows ⟨hrw.row.more fun b hb => hb.2, fun r hr => (hrw.each r hr).more fun b hb => hb.2⟩ hzi hrl hcov w.heap.size hN4
        have hspn := HSPN.out zs hZZ rows hne hcov
        have hll := spL_len (fun vs => valF (envL zs vs) n) (rows.map RwM.rw)
        rw [List.length_map] at hll
        generalize spL (fun vs => valF (envL zs vs) n) (rows.map RwM.rw) = l at *
        have hl4 : l.length ≤ 4001 := by omega
        have HSPC := hide hspc
        have HSPN2 := hide hspn
        have HS4 := hide hS4
        have HZZ := hide hZZ
        have HFE := hide hfe
        have T1 : decide ((4096 : Int) < (l.length : Int)) = false := decide_eq_false (by omega)
        have hws4 := hS4.2.size
        clear hs4 hN4 hS4 hZZ hspc hspn hfe hrw hzi hcov hne hll zn zI zm zp y0 y1 y2 y3 y4 y5 y6 y7 y8
        go_wp2_with fail
        refine HSPC.out.mono ?_
        rintro e w5 ⟨A5, c5, rfl, ho5, hb5⟩
        have HO5 := hide (show OwnSp w5 w.heap.size A5 c5 l from Joins.ownsRow_le ho5 hws4)
        have HS5 := hide (HS4.out.below hb5)
        clear ho5 hb5
        go_wp2_with fail
        go_ret2
        exact .inr (.inr ⟨HIN.out, ⟨_, HRZ.out⟩, zs, HZZ.out, .inr (.inl ⟨HFE.out, hrm, HS5.out, A5, c5, l, rfl, HO5.out, HSPN2.out, hl4⟩)⟩)
      · have HS4 := hide (HS3.out.trans hs4)
        have HFE := hide hfe
        have HZZ := hide (show SigsOf n zs from ⟨zn, zI, zm, zp⟩)
        clear hs4 hfe y0 y1 y2 y3 y4 y5 y6 y7 y8 zn zI zm zp
        go_wp2_with fail
        go_ret2
        exact .inr (.inr ⟨HIN.out, ⟨_, HRZ.out⟩, zs, HZZ.out, .inr (.inr ⟨HFE.out, hLp, hrm, rfl, c9, HS4.out⟩)⟩)
  · have hd : (decide (0 ≤ f) && decide (f ≤ t) && decide (t ≤ v.fin)) = false := by
      rw [Bool.eq_false_iff]
      intro h9
      rw [Bool.and_eq_true, Bool.and_eq_true] at h9
      exact hin ⟨of_decide_eq_true h9.1.1, of_decide_eq_true h9.1.2, of_decide_eq_true h9.2⟩
    rw [hd] at HW
    have HIN := hide hin
    clear hd hin
    go_wp2_with (go_at_call 47; refine HW.out.mono ?_; rintro e w2 ⟨rfl, rfl⟩)
    go_ret2
    exact .inl ⟨HIN.out, rfl, HS0.out⟩

end Go.Proofs.YtbhcmnfeeogdhaaGreatDoor
