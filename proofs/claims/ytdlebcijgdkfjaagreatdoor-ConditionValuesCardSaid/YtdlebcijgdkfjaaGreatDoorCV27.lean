/-
  Several texts in one: New47, CTruthN, TruCut, RFits, RCuts. Each says at its head what it holds.
-/
import Derived.Test.YtdlebcijgdkfjaaGreatDoorCV25
import Derived.Test.YtdlebcijgdkfjaaGreatDoorCV26
import Derived.Test.YtdlebcijgdkfjaaGreatDoorCV17
import Derived.Deep.RegionHeld3
import Derived.Test.YtdlebcijgdkfjaaGreatDoorCV21
import Derived.Test.YtdlebcijgdkfjaaGreatDoorCV22

/-
  wavestorelaw47.New: a source of a wave.
-/
namespace Go.Proofs.YtdlebcijgdkfjaaGreatDoor
open Go.RowKit

set_option maxRecDepth 100000 in
theorem new_any (v : Wv) (w : World) (h : SigsAt w (Lo w.heap.size) v.A v.sigs) : Calls Tryz.prog 14 #[.agg (cWv v).toArray] w fun e w' => ∃ M, e = .returned (.pointer (some ⟨M, 0, none⟩)) ∧ w.heap.size ≤ M ∧ SourceAt w' M v (-1) 0 ∧ Below w.heap.size w w' := by
  unfold cWv
  obtain ⟨W0, hW0⟩ : ∃ W0, w.alloc (.cells #[.slice v.A v.sigs.length v.cA, .slice v.G v.gn v.cG, .int .i64 v.fin] 29) = W0 := ⟨_, rfl⟩
  have g0 : W0.heap[w.heap.size]? = some (.cells #[.slice v.A v.sigs.length v.cA, .slice v.G v.gn v.cG, .int .i64 v.fin] 29 (0, 0)) := by rw [← hW0]; exact heap_alloc_new w _
  have hb0 : Below w.heap.size w W0 := by rw [← hW0]; exact (Below.refl _ _).alloc (Nat.le_refl _) _
  have c0 := cell_of_row W0 w.heap.size 0 _ _ (0, 0) g0
  have c1 := cell_of_row W0 w.heap.size 1 _ _ (0, 0) g0
  have c2 := cell_of_row W0 w.heap.size 2 _ _ (0, 0) g0
  simp only [List.getElem?_toArray, List.getElem?_cons_zero, List.getElem?_cons_succ] at c0 c1 c2
  have HW0 := hide hW0
  have hz := hb0.size
  clear hW0 g0
  go_enter Tryz.func14, Tryz.ntmps14
  go_upto_region 1 with (fail)
  rw [HW0.out]
  go_wp2_with fail
  go_ret
  have hb1 : Below w.heap.size w (W0.alloc (memO v (-1) 0)) := hb0.alloc hz _
  exact ⟨W0.heap.size, rfl, hz, ⟨heap_alloc_new W0 (memO v (-1) 0), (h.stay (stay_below hb1 fun _ h => h)).more fun b hb => Nat.lt_of_lt_of_le hb hz⟩, hb1⟩

end Go.Proofs.YtdlebcijgdkfjaaGreatDoor

/-
  condition.Truth at a source just made: what a law about a condition of a small wave needs.
-/
namespace Go.Proofs.YtdlebcijgdkfjaaGreatDoor
open Go.RowKit

theorem sigs_same {n : Nd} {zs ys : List Int} (hz : SigsOf n zs) (hy : SigsOf n ys) : zs = ys := by
  have hp : zs.Perm ys := (List.perm_ext_iff_of_nodup hz.1 hy.1).2 fun x => ⟨fun h => (hy.2.2.1 x (hz.2.1 x h)).2 ((hz.2.2.1 x (hz.2.1 x h)).1 h), fun h => (hz.2.2.1 x (hy.2.1 x h)).2 ((hy.2.2.1 x (hy.2.1 x h)).1 h)⟩
  exact hp.eq_of_pairwise (fun a b _ _ h1 h2 => by omega) hz.2.2.2 hy.2.2.2
theorem few_short {most : Nat} (n : Nd) : FewOk most n → n.fold (fun m l => m.value.size ≤ 130 ∧ ∀ p ∈ l, p) := by
  induction n using Nd.ind with
  | h n ih =>
  intro h
  have h2 := (FewOk_eq most n).1 h
  rw [Nd.fold_eq]
  refine ⟨h2.2.1, fun p hp => ?_⟩
  obtain ⟨k, hk, rfl⟩ := List.mem_map.1 hp
  exact ih k hk (h2.2.2.2 k hk)
theorem tree_un {w w' : World} {M : Nat} {n : Nd} (h : TreesAt w (Lo w.heap.size) n.KA n.kids) (hb : Below w.heap.size w w') (hM : w.heap.size ≤ M) : TreesAt w' (Un M w'.heap.size) n.KA n.kids :=
  (h.stay (stay_below hb fun _ h => h)).more fun b hb2 => ⟨Nat.lt_of_lt_of_le hb2 hb.size, fun e => by subst e; exact absurd hb2 (Nat.not_lt.2 hM)⟩
end Go.Proofs.YtdlebcijgdkfjaaGreatDoor

/-
  A region that makes a source of a wave and asks a condition of it: the words for it.
-/
namespace Go.Proofs.YtdlebcijgdkfjaaGreatDoor
open Go.RowKit

/-- a wave and a tree in boxes -/
theorem wn_held {W0 : World} {N M : Nat} {a0 a1 a2 b0 b1 b2 b3 b4 b5 b6 b7 b8 : Value} {t t' : TypeId} (h0 : W0.heap[N]? = some (.cells #[a0, a1, a2] t (0, 0))) (h1 : W0.heap[M]? = some (.cells #[b0, b1, b2, b3, b4, b5, b6, b7, b8] t' (0, 0))) (W : World) (hb : Below W0.heap.size W0 W) :
    W.cell? ⟨N, 0, none⟩ = some a0 ∧ W.cell? ⟨N, 1, none⟩ = some a1 ∧ W.cell? ⟨N, 2, none⟩ = some a2 ∧ W.cell? ⟨M, 0, none⟩ = some b0 ∧ W.cell? ⟨M, 1, none⟩ = some b1 ∧ W.cell? ⟨M, 2, none⟩ = some b2 ∧ W.cell? ⟨M, 3, none⟩ = some b3 ∧ W.cell? ⟨M, 4, none⟩ = some b4 ∧ W.cell? ⟨M, 5, none⟩ = some b5 ∧ W.cell? ⟨M, 6, none⟩ = some b6 ∧ W.cell? ⟨M, 7, none⟩ = some b7 ∧ W.cell? ⟨M, 8, none⟩ = some b8 ∧ Below W0.heap.size W0 W := by
  have g0 := (hb.block _ (box_lt h0)).trans h0
  have g1 := (hb.block _ (box_lt h1)).trans h1
  refine ⟨?_, ?_, ?_, ?_, ?_, ?_, ?_, ?_, ?_, ?_, ?_, ?_, hb⟩
  all_goals first | (rw [cell_of_row W N _ _ t (0, 0) g0]; rfl) | (rw [cell_of_row W M _ _ t' (0, 0) g1]; rfl)
end Go.Proofs.YtdlebcijgdkfjaaGreatDoor

/-
  wavestoreref51.Fits: the error of a tree for a wave.
-/
namespace Go.Proofs.YtdlebcijgdkfjaaGreatDoor
open Go.RowKit

theorem sigs_of {n : Nd} (hok : okF n) {zs : List Int} (hp : zs.Pairwise (· < ·)) (hm : ∀ u, u ∈ zs ↔ u ∈ sigF n) : SigsOf n zs :=
  ⟨hp.imp (fun h e => by omega), fun x hx => sig_I64 n hok x ((hm x).1 hx), fun x _ => hm x, hp.imp (fun h => by omega)⟩
def FitPost (v : Wv) (n : Nd) (w : World) (e : Ending) (w' : World) : Prop := ∃ zs, SigsOf n zs ∧ e = .returned (.int .i64 (fitE v n zs)) ∧ Below w.heap.size w w'
def FitRel (v : Wv) (n : Nd) (zs : List Int) (w : World) (i : Value) (wr : World) : Prop := ∃ j : Nat, j ≤ zs.length ∧ i = .int .i64 (j : Int) ∧ (∀ x ∈ zs.take j, sigE v n x = 0) ∧ Below w.heap.size w wr

theorem box3_sg {w : World} {N : Nat} {a b c : Value} {t : TypeId} (h : w.heap[N]? = some (.cells #[a, b, c] t (0, 0))) : w.cell? ⟨N, 0, none⟩ = some a ∧ w.cell? ⟨N, 1, none⟩ = some b ∧ w.cell? ⟨N, 2, none⟩ = some c := by
  refine ⟨?_, ?_, ?_⟩ <;> (rw [cell_of_row w N _ _ t (0, 0) h]; rfl)
theorem box_of_cell {w : World} {b j : Nat} {v : Value} (h : w.cell? ⟨b, j, none⟩ = some v) : b < w.heap.size := World.block_lt_of_cell? _ _ h
set_option maxRecDepth 100000 in
set_option maxHeartbeats 8000000 in
theorem rfits_any (v : Wv) (n : Nd) (w : World) (hS : SigsAt w (Lo w.heap.size) v.A v.sigs) (ht : TreesAt w (Lo w.heap.size) n.KA n.kids) (hok : okF n) (hle : (sigF n).length ≤ 1000000) :
    Calls Tryz.prog 55 #[.agg (cWv v).toArray, .agg (cNd n).toArray] w (FitPost v n w) := by
  have HSG := hide (fun (W : World) (hb : Below w.heap.size w W) => rsigs_any n W (ht.grow hb) hle)
  have HTY := hide (fun (x k q : Int) (W : World) (hb : Below w.heap.size w W) => rtyped_any x k q n W (ht.grow hb))
  have HSO := hide (fun (zs : List Int) (hp : zs.Pairwise (· < ·)) (hm : ∀ u, u ∈ zs ↔ u ∈ sigF n) => sigs_of hok hp hm)
  have HS := hide hS
  obtain ⟨n', hn'⟩ : ∃ n', n' = n := ⟨_, rfl⟩
  rw [← hn'] at HTY HSO ⊢
  have HSG2 := hide (show ∀ (W : World) (hb : Below w.heap.size w W), Calls Tryz.prog 100 #[.agg (cNd n).toArray] W (RSgPost n' W) by rw [hn']; exact HSG.out)
  have HTY2 := hide (show ∀ (x k q : Int) (W : World) (hb : Below w.heap.size w W), Calls Tryz.prog 101 #[.agg (cNd n).toArray, .int .i64 x, .int .i64 k, .int .i64 q] W (RetV (.bool (agrF x k q n')) W) by rw [hn']; intro x k q W hb; exact rtyped_any x k q n W (ht.grow hb))
  rw [show (cNd n').toArray = (cNd n).toArray by rw [hn']]
  obtain ⟨v', hv'⟩ : ∃ v', v' = v := ⟨_, rfl⟩
  rw [show FitPost v n' w = FitPost v' n' w by rw [hv']]
  have HSL := hide (show v'.sigs = v.sigs by rw [hv'])
  have HLE := hide (show (sigF n').length ≤ 1000000 by rw [hn']; exact hle)
  clear HSG HTY hn' hv' hS ht hok hle
  obtain ⟨kind, at_, name, value, a, b, c, d, KA, kc, kids⟩ := n
  obtain ⟨A, cA, sigs, G, gn, cG, fin⟩ := v
  unfold cNd at *
  unfold cWv
  dsimp only at HSG2 HTY2 HS HSL ⊢
  obtain ⟨W0, hW0⟩ : ∃ W0, (w.alloc (.cells #[.slice A sigs.length cA, .slice G gn cG, .int .i64 fin] 29)).alloc (.cells #[.int .i64 kind, .int .i64 at_, .string name, .string value, .int .i64 a, .int .i64 b, .int .i64 c, .int .i64 d, .slice KA kids.length kc] 32) = W0 := ⟨_, rfl⟩
  obtain ⟨p0, p1, hb0⟩ := chain2 _ _ _ hW0
  have HS0 := hide (HS.out.up hb0)
  have HH := hide (wn_held p0 p1)
  have HB0 := hide hb0
  have HW0 := hide hW0
  obtain ⟨q0, q1, q2, y0, y1, y2, y3, y4, y5, y6, y7, y8, -⟩ := HH.out W0 (Below.refl _ _)
  clear hb0 hW0 p0 p1
  go_enter Tryz.func55, Tryz.ntmps55
  go_upto_region 1 with (fail)
  rw [HW0.out]
  go_wp2_with fail
  refine (HSG2.out W0 HB0.out).mono ?_
  rintro e w1 ⟨b1, o1, c1, zs, rfl, h1, h2, h3, h4, h5, h6⟩
  have HZ := hide (HSO.out zs h4 h5)
  have HI := hide h1
  have HB1 := hide h3
  have hzl : zs.length ≤ 1000000 := Nat.le_trans h6 HLE.out
  clear h1 h2 h3 h4 h5 h6 q0 q1 q2 y0 y1 y2 y3 y4 y5 y6 y7 y8
  go_upto_region 3 with (fail)
  go_loopw [6] (fun i wr => FitRel v' n' zs w1 i wr) (fun i _ => zs.length - (intOf i).toNat)
  case atStart => exact ⟨0, Nat.zero_le _, rfl, (fun x hx => by simp at hx), Below.refl _ _⟩
  case round =>
    obtain ⟨V, rfl⟩ : ∃ w2 : World, w2 = wr := ⟨_, rfl⟩
    obtain ⟨j, hj, rfl, hpre, hbr⟩ := hrel
    have HBR := hide hbr
    have HPRE := hide hpre
    have HBV := hide (bstep HB1.out hbr)
    clear hbr hpre
    obtain ⟨q0, q1, q2, y0, y1, y2, y3, y4, y5, y6, y7, y8, -⟩ := HH.out V HBV.out
    by_cases hlt : j < zs.length
    · obtain ⟨b2, o2, e2, hb2, hc2⟩ := (HI.out.step HBR.out).at_ hlt
      injection e2 with e2
      injection e2 with e2 e3
      subst e2 e3
      have HX := hide (show zs[j]? = some zs[j] from List.getElem?_eq_getElem hlt)
      have HTK := hide (show zs.take (j + 1) = zs.take j ++ [zs[j]] from List.take_succ_eq_append_getElem hlt)
      have HCUT := hide (take_at HX.out)
      obtain ⟨x, hxe⟩ : ∃ x, zs[j] = x := ⟨_, rfl⟩
      have HXE := hide hxe
      rw [hxe] at hc2 HX HTK HCUT
      clear hxe
      have HBAD := hide (show ∀ (q : Int), sigE v' n' x = q → q ≠ 0 → ∀ wr, Below W0.heap.size W0 wr → FitPost v' n' w (.returned (.int .i64 q)) wr from fun q h1 h2 wr h3 => by
        have hfe : fitE v' n' zs = q := by rw [HCUT.out, fitE_bad (by rw [h1]; exact h2) HPRE.out, h1]
        exact ⟨zs, HZ.out, by rw [hfe], bstep HB0.out h3⟩)
      by_cases hx0 : x < 0
      · have d1 : decide (x < 0) = true := decide_eq_true hx0
        have hsg : sigE v' n' x = 2 := by unfold sigE; rw [if_pos (.inl hx0)]
        have HP := hide (HBAD.out 2 hsg (by decide))
        clear hx0 hsg
        go_upto_region 5 with (fail)
        go_quiet (fail)
        go_wp2_with fail
        go_ret
        exact HP.out _ (below_drewN HBV.out _)
      · have d1 : decide (x < 0) = false := decide_eq_false hx0
        obtain ⟨k, rfl⟩ : ∃ k : Nat, x = (k : Int) := ⟨x.toNat, by omega⟩
        by_cases hxr : k < sigs.length
        · have d2 : decide (sigs.length ≤ k) = false := decide_eq_false (by omega)
          go_upto_region 5 with (fail)
          go_quiet (fail)
          obtain ⟨V2, hV2⟩ : ∃ V2, V.drewN nq = V2 := ⟨_, rfl⟩
          rw [hV2]
          have hbr2 : Below w1.heap.size w1 V2 := by rw [← hV2]; exact below_drewN HBR.out nq
          have HBR2 := hide hbr2
          have HBV2 := hide (bstep HB1.out hbr2)
          clear hV2 hbr2 q0 q1 q2 y0 y1 y2 y3 y4 y5 y6 y7 y8 hc2 d1 d2
          obtain ⟨q0, q1, q2, y0, y1, y2, y3, y4, y5, y6, y7, y8, -⟩ := HH.out V2 HBV2.out
          obtain ⟨b2, o2, e2, hb2', hc2⟩ := (HI.out.step HBR2.out).at_ hlt
          injection e2 with e2
          injection e2 with e2 e3
          subst e2 e3
          rw [HXE.out] at hc2
          obtain ⟨bk, ok, rfl, hbk, hc⟩ := (HS0.out.up HBV2.out).row.at_ hxr
          have hsgn : sgnAt v' (k : Int) = sigs[k] := by unfold sgnAt; rw [HSL.out]; simp [List.getElem?_eq_getElem hxr]
          have hsg : sigE v' n' (k : Int) = if agrF (k : Int) sigs[k].kind sigs[k].width n' then 0 else 7 := by
            unfold sigE
            rw [if_neg (by rw [HSL.out]; omega), hsgn]
          generalize sigs[k] = s at *
          obtain ⟨sk, sw, sA, sc, chs⟩ := s
          unfold cSgn at hc
          dsimp only at hsg
          have e0 := hc 0 (by omega)
          have e1 := hc 1 (by omega)
          have e3 := hc 2 (by omega)
          simp only [List.getElem?_cons_zero, List.getElem?_cons_succ, Nat.add_zero] at e0 e1 e3
          have HSG := hide hsg
          have hbk' : bk < V2.heap.size := hbk
          have hwv : w.heap.size < V2.heap.size := box_of_cell q0
          clear hc hsgn hsg hx0
          go_upto_region 7 with (fail)
          go_region
          obtain ⟨V4, hV4⟩ : ∃ V4, (V2.alloc (.cells #[.int .i64 sk, .int .i64 sw, .slice sA chs.length sc] 60)).drew = V4 := ⟨_, rfl⟩
          rw [hV4]
          have hb4 : Below V2.heap.size V2 V4 := by rw [← hV4]; exact below_drew ((Below.refl _ _).alloc (Nat.le_refl _) _)
          have hg4 : V4.heap[V2.heap.size]? = some (.cells #[.int .i64 sk, .int .i64 sw, .slice sA chs.length sc] 60 (0, 0)) := by rw [← hV4]; exact heap_alloc_new V2 _
          have HB4 := hide (bstep HBV2.out hb4)
          have HB41 := hide (bstep HBR2.out hb4)
          have HIX := hide (HI.out.step (bstep HBR2.out hb4))
          have HSF := hide (show ∀ (W : World), Below V4.heap.size V4 W → W.cell? ⟨w.heap.size + 1, 0, none⟩ = some (.int .i64 kind) ∧ W.cell? ⟨w.heap.size + 1, 1, none⟩ = some (.int .i64 at_) ∧ W.cell? ⟨w.heap.size + 1, 2, none⟩ = some (.string name) ∧ W.cell? ⟨w.heap.size + 1, 3, none⟩ = some (.string value) ∧ W.cell? ⟨w.heap.size + 1, 4, none⟩ = some (.int .i64 a) ∧ W.cell? ⟨w.heap.size + 1, 5, none⟩ = some (.int .i64 b) ∧ W.cell? ⟨w.heap.size + 1, 6, none⟩ = some (.int .i64 c) ∧ W.cell? ⟨w.heap.size + 1, 7, none⟩ = some (.int .i64 d) ∧ W.cell? ⟨w.heap.size + 1, 8, none⟩ = some (.slice KA kids.length kc) ∧ W.cell? ⟨b1, o1 + j, none⟩ = some (.int .i64 (k : Int)) ∧ W.cell? ⟨V2.heap.size, 0, none⟩ = some (.int .i64 sk) ∧ W.cell? ⟨V2.heap.size, 1, none⟩ = some (.int .i64 sw) ∧ Below V4.heap.size V4 W from fun W hb => by
            obtain ⟨-, -, -, y0, y1, y2, y3, y4, y5, y6, y7, y8, -⟩ := HH.out W (bstep HB4.out hb)
            obtain ⟨b2, o2, e2, hb2', hc2⟩ := (HIX.out.step hb).at_ hlt
            injection e2 with e2
            injection e2 with e2 e3
            subst e2 e3
            rw [HXE.out] at hc2
            obtain ⟨z0, z1, -⟩ := box3_sg ((hb.block _ (box_lt hg4)).trans hg4)
            exact ⟨y0, y1, y2, y3, y4, y5, y6, y7, y8, hc2, z0, z1, hb⟩)
          have HTC := hide (fun (W : World) (hb : Below V4.heap.size V4 W) => HTY2.out (k : Int) sk sw W (bstep HB0.out (bstep HB4.out hb)))
          obtain ⟨y, hy⟩ : ∃ y, agrF (k : Int) sk sw n' = y := ⟨_, rfl⟩
          rw [hy] at HTC HSG
          clear hy hV4 hb4 hg4 hbk' hwv hbk q0 q1 q2 y0 y1 y2 y3 y4 y5 y6 y7 y8 hc2 e0 e1 e3
          go_upto_region 8 with (fail)
          have k0 := HSF.out V4.drew (below_drew (Below.refl _ _))
          have r0 := below_drew (Below.refl V4.heap.size V4)
          go_region_held3 (fun W => W.cell? ⟨w.heap.size + 1, 0, none⟩ = some (.int .i64 kind) ∧ W.cell? ⟨w.heap.size + 1, 1, none⟩ = some (.int .i64 at_) ∧ W.cell? ⟨w.heap.size + 1, 2, none⟩ = some (.string name) ∧ W.cell? ⟨w.heap.size + 1, 3, none⟩ = some (.string value) ∧ W.cell? ⟨w.heap.size + 1, 4, none⟩ = some (.int .i64 a) ∧ W.cell? ⟨w.heap.size + 1, 5, none⟩ = some (.int .i64 b) ∧ W.cell? ⟨w.heap.size + 1, 6, none⟩ = some (.int .i64 c) ∧ W.cell? ⟨w.heap.size + 1, 7, none⟩ = some (.int .i64 d) ∧ W.cell? ⟨w.heap.size + 1, 8, none⟩ = some (.slice KA kids.length kc) ∧ W.cell? ⟨b1, o1 + j, none⟩ = some (.int .i64 (k : Int)) ∧ W.cell? ⟨V2.heap.size, 0, none⟩ = some (.int .i64 sk) ∧ W.cell? ⟨V2.heap.size, 1, none⟩ = some (.int .i64 sw) ∧ Below V4.heap.size V4 W)
            (first | (with_reducible assumption) | exact k0)
            (first
              | (go_at_call 101; refine (HTC.out V4.drew r0).mono ?_; rintro e w5 ⟨rfl, hb5⟩; have h5 := bstep r0 hb5; have k5 := HSF.out w5 h5)
              | fail)
          have HB5 := hide (bstep HB4.out h5)
          have HB51 := hide (bstep HB41.out h5)
          clear k0 r0 hb5 h5 k5
          cases y with
          | false =>
            have HP := hide (HBAD.out 7 HSG.out (by decide))
            go_wp2_with fail
            go_ret
            exact HP.out _ HB5.out
          | true =>
            have HP1 := hide (show ∀ x ∈ zs.take (j + 1), sigE v' n' x = 0 by
              rw [HTK.out]
              intro x hx
              rcases List.mem_append.1 hx with hx | hx
              · exact HPRE.out x hx
              · simp at hx; subst hx; exact HSG.out)
            go_wp2_with fail
            exact ⟨⟨j + 1, hlt, by go_num, HP1.out, HB51.out⟩, by simp [intOf]; omega⟩
        · have d2 : decide (sigs.length ≤ k) = true := decide_eq_true (by omega)
          have hsg : sigE v' n' (k : Int) = 2 := by unfold sigE; rw [if_pos (.inr (by rw [HSL.out]; omega))]
          have HP := hide (HBAD.out 2 hsg (by decide))
          clear hx0 hsg hxr
          go_upto_region 5 with (fail)
          go_quiet (fail)
          go_wp2_with fail
          go_ret
          exact HP.out _ (below_drewN HBV.out _)
    · have hje : j = zs.length := by omega
      have HR := hide (show FitPost v' n' w (.returned (.int .i64 0)) V from ⟨zs, HZ.out, by rw [fitE_ok.2 (by have := HPRE.out; rwa [hje, List.take_length] at this)], bstep HB0.out HBV.out⟩)
      clear hje
      go_wp2_with fail
      go_ret
      exact HR.out

end Go.Proofs.YtdlebcijgdkfjaaGreatDoor

/-
  wavestoreref51.Cuts: the times of a range at which a signal of a tree changes, and its beginning.
-/
namespace Go.Proofs.YtdlebcijgdkfjaaGreatDoor
open Go.RowKit

/-- a time of the range at which one of these signals changes -/
def CutS (v : Wv) (zs : List Int) (f t u : Int) : Prop := ∃ x ∈ zs, ∃ c ∈ (sgnAt v x).chs, c.time = u ∧ f < u ∧ u ≤ t
def CutC (cs : List Chg) (f t u : Int) : Prop := ∃ c ∈ cs, c.time = u ∧ f < u ∧ u ≤ t
def CutPost (v : Wv) (n : Nd) (f t : Int) (w : World) (e : Ending) (w' : World) : Prop :=
  ∃ (b off c : Nat) (ps : List Int), e = .returned (.slice (some ⟨b, off, none⟩) ps.length c) ∧ IntsAt w' w'.heap.size (some ⟨b, off, none⟩) ps ∧ Below w.heap.size w w' ∧ ps.Pairwise (· < ·) ∧ (∀ u, u ∈ ps ↔ u = f ∨ CutS v (sigF n) f t u) ∧ ps.length ≤ 1000
def CtRel (S : Int → Prop) (m : Nat) (w : World) (l : Value) (wr : World) : Prop :=
  ∃ (b off c : Nat) (ps : List Int), l = .slice (some ⟨b, off, none⟩) ps.length c ∧ IntsAt wr wr.heap.size (some ⟨b, off, none⟩) ps ∧ ps.length ≤ c ∧ Below w.heap.size w wr ∧ ps.Pairwise (· < ·) ∧ (∀ u, u ∈ ps ↔ S u) ∧ ps.length ≤ m
def CtOut (v : Wv) (f t : Int) (zs : List Int) (w : World) (l i : Value) (wr : World) : Prop :=
  ∃ j : Nat, j ≤ zs.length ∧ i = .int .i64 (j : Int) ∧ CtRel (fun u => u = f ∨ CutS v (zs.take j) f t u) (1 + 20 * j) w l wr
def CtIn (S : Int → Prop) (cs : List Chg) (f t : Int) (m : Nat) (w : World) (l i : Value) (wr : World) : Prop :=
  ∃ k : Nat, k ≤ cs.length ∧ i = .int .i64 (k : Int) ∧ CtRel (fun u => S u ∨ CutC (cs.take k) f t u) (m + k) w l wr
theorem CtRel.congr {S S' : Int → Prop} {m m' : Nat} {w : World} {l : Value} {wr : World} (h : CtRel S m w l wr) (hs : ∀ u, S u ↔ S' u) (hm : m ≤ m') : CtRel S' m' w l wr := by
  obtain ⟨b, off, c, zs, h1, h2, h3, h4, h5, h6, h7⟩ := h
  exact ⟨b, off, c, zs, h1, h2, h3, h4, h5, fun u => (h6 u).trans (hs u), Nat.le_trans h7 hm⟩
theorem cutC_snoc {cs : List Chg} {c : Chg} {f t u : Int} : CutC (cs ++ [c]) f t u ↔ CutC cs f t u ∨ (c.time = u ∧ f < u ∧ u ≤ t) := by
  unfold CutC
  constructor
  · rintro ⟨d, hd, h⟩
    rcases List.mem_append.1 hd with hd | hd
    · exact .inl ⟨d, hd, h⟩
    · simp at hd; subst hd; exact .inr h
  · rintro (⟨d, hd, h⟩ | h)
    · exact ⟨d, by simp [hd], h⟩
    · exact ⟨c, by simp, h⟩
theorem cutS_snoc {v : Wv} {zs : List Int} {x : Int} {f t u : Int} : CutS v (zs ++ [x]) f t u ↔ CutS v zs f t u ∨ CutC (sgnAt v x).chs f t u := by
  unfold CutS CutC
  constructor
  · rintro ⟨d, hd, h⟩
    rcases List.mem_append.1 hd with hd | hd
    · exact .inl ⟨d, hd, h⟩
    · simp at hd; subst hd; exact .inr h
  · rintro (⟨d, hd, h⟩ | h)
    · exact ⟨d, by simp [hd], h⟩
    · exact ⟨x, by simp, h⟩

set_option maxRecDepth 100000 in
set_option maxHeartbeats 8000000 in
theorem rcuts_any (v : Wv) (n : Nd) (f t : Int) (w : World) (hv : SmallOk v) (hS : SigsAt w (Lo w.heap.size) v.A v.sigs) (ht : TreesAt w (Lo w.heap.size) n.KA n.kids) (hok : okF n) (hle : (sigF n).length ≤ 1000000) (hfit : ∀ x ∈ sigF n, sigE v n x = 0) :
    Calls Tryz.prog 56 #[.agg (cWv v).toArray, .agg (cNd n).toArray, .int .i64 f, .int .i64 t] w (CutPost v n f t w) := by
  have HSO := hide (fun (zs : List Int) (hp : zs.Pairwise (· < ·)) (hm : ∀ u, u ∈ zs ↔ u ∈ sigF n) => sigs_of hok hp hm)
  have HS := hide hS
  obtain ⟨n', hn'⟩ : ∃ n', n' = n := ⟨_, rfl⟩
  have HFIT := hide (show ∀ x ∈ sigF n', sigE v n' x = 0 by rw [hn']; exact hfit)
  have HSG2 := hide (show ∀ (W : World) (hb : Below w.heap.size w W), Calls Tryz.prog 100 #[.agg (cNd n).toArray] W (RSgPost n' W) by rw [hn']; exact fun W hb => rsigs_any n W (ht.grow hb) hle)
  rw [← hn'] at HSO
  rw [show CutPost v n f t w = CutPost v n' f t w by rw [hn']]
  obtain ⟨v', hv'⟩ : ∃ v', v' = v := ⟨_, rfl⟩
  rw [show CutPost v n' f t w = CutPost v' n' f t w by rw [hv']]
  rw [← hv'] at HFIT hv
  have HSL := hide (show v'.sigs = v.sigs by rw [hv'])
  have HV := hide hv
  clear hn' hv' hS ht hok hle hfit hv
  obtain ⟨kind, at_, name, value, a, b, c, d, KA, kc, kids⟩ := n
  obtain ⟨A, cA, sigs, G, gn, cG, fin⟩ := v
  unfold cNd at *
  unfold cWv
  dsimp only at HSG2 HS HSL ⊢
  obtain ⟨W0, hW0⟩ : ∃ W0, (w.alloc (.cells #[.slice A sigs.length cA, .slice G gn cG, .int .i64 fin] 29)).alloc (.cells #[.int .i64 kind, .int .i64 at_, .string name, .string value, .int .i64 a, .int .i64 b, .int .i64 c, .int .i64 d, .slice KA kids.length kc] 32) = W0 := ⟨_, rfl⟩
  obtain ⟨p0, p1, hb0⟩ := chain2 _ _ _ hW0
  have HS0 := hide (HS.out.up hb0)
  have HH := hide (wn_held p0 p1)
  have HB0 := hide hb0
  have HW0 := hide hW0
  clear hb0 hW0 p0 p1
  go_enter Tryz.func56, Tryz.ntmps56
  go_upto_region 1 with (fail)
  rw [HW0.out]
  obtain ⟨W1, hW1⟩ : ∃ W1, W0.alloc (.cells #[.int .i64 f] 3) = W1 := ⟨_, rfl⟩
  have hg1 : W1.heap[W0.heap.size]? = some (.cells #[.int .i64 f] 3 (0, 0)) := by rw [← hW1]; exact heap_alloc_new W0 _
  have hb1 : Below W0.heap.size W0 W1 := by rw [← hW1]; exact (Below.refl _ _).alloc (Nat.le_refl _) _
  have HB1 := hide hb1
  have HF1 := hide (show IntsAt W1 W1.heap.size (some ⟨W0.heap.size, 0, none⟩) [f] from fun _ => ⟨W0.heap.size, 0, rfl, box_lt hg1, fun i z hi => by
    match i, hi with
    | 0, hi => simp at hi; subst hi; exact box_cell hg1
    | i + 1, hi => simp at hi⟩)
  have HW1 := hide hW1
  clear hW1 hg1 hb1
  go_upto_region 2 with (fail)
  rw [HW1.out]
  obtain ⟨q0, q1, q2, y0, y1, y2, y3, y4, y5, y6, y7, y8, -⟩ := HH.out W1 HB1.out
  go_wp2_with fail
  refine (HSG2.out W1 (bstep HB0.out HB1.out)).mono ?_
  rintro e w1 ⟨b1, o1, c1, zs, rfl, h1, h2, h3, h4, h5, h6⟩
  have HI := hide h1
  have HB2 := hide (bstep HB1.out h3)
  have HF2 := hide (HF1.out.step h3)
  have HM := hide h5
  have HZ := hide (HSO.out zs h4 h5)
  have hz8 : zs.length ≤ 8 := by
    have := nodup_few v'.sigs.length (zs := zs) HZ.out.1 (fun x hx => by have := sigE_zero (HFIT.out x ((h5 x).1 hx)); exact ⟨this.1, this.2.1⟩)
    have h8 := HV.out.len
    omega
  clear h1 h2 h3 h4 h5 h6 q0 q1 q2 y0 y1 y2 y3 y4 y5 y6 y7 y8
  go_upto_region 4 with (fail)
  go_loopw [9, 11] (fun l i wr => CtOut v' f t zs w l i wr ∧ Below w1.heap.size w1 wr) (fun _ i _ => zs.length - (intOf i).toNat)
  case atStart => exact ⟨⟨0, Nat.zero_le _, rfl, W0.heap.size, 0, 1, [f], rfl, HF2.out, Nat.le_refl _, bstep HB0.out HB2.out, List.pairwise_singleton _ _, fun u => ⟨fun h => .inl (by simpa using h), fun h => by rcases h with h | ⟨x, hx, _⟩ <;> simp_all⟩, Nat.le_refl _⟩, Below.refl _ _⟩
  case round =>
    obtain ⟨V, rfl⟩ : ∃ w2 : World, w2 = wr := ⟨_, rfl⟩
    obtain ⟨⟨j, hj, rfl, hr⟩, hbr⟩ := hrel
    have HR := hide hr
    have HBR := hide hbr
    have HBV := hide (bstep HB2.out hbr)
    clear hbr hr
    by_cases hlt : j < zs.length
    · obtain ⟨q0, q1, q2, -⟩ := HH.out V HBV.out
      obtain ⟨b2, o2, e2, hb2, hc2⟩ := (HI.out.step HBR.out).at_ hlt
      injection e2 with e2
      injection e2 with e2 e3
      subst e2 e3
      have HTK := hide (show zs.take (j + 1) = zs.take j ++ [zs[j]] from List.take_succ_eq_append_getElem hlt)
      have hz := sigE_zero (HFIT.out _ ((HM.out zs[j]).1 (List.getElem_mem hlt)))
      generalize zs[j] = x at *
      obtain ⟨k, rfl⟩ : ∃ k : Nat, x = (k : Int) := ⟨x.toNat, by omega⟩
      have hxr : k < sigs.length := by have := hz.2.1; rw [HSL.out] at this; omega
      obtain ⟨bk, ok, rfl, hbk, hc⟩ := (HS0.out.up HBV.out).row.at_ hxr
      have hsgn : sgnAt v' (k : Int) = sigs[k] := by unfold sgnAt; rw [HSL.out]; simp [List.getElem?_eq_getElem hxr]
      have hch := (HS0.out.up HBV.out).each _ (List.getElem_mem hxr)
      have hl20 : (sigs[k]).chs.length ≤ 20 := (HV.out.each _ (by rw [HSL.out]; exact List.getElem_mem hxr)).len
      have HSN := hide (show ∀ u, CutS v' (zs.take (j + 1)) f t u ↔ CutS v' (zs.take j) f t u ∨ CutC sigs[k].chs f t u by intro u; rw [HTK.out, cutS_snoc, hsgn])
      generalize sigs[k] = s at *
      obtain ⟨sk, sw, sA, sc, chs⟩ := s
      unfold cSgn at hc
      dsimp only at hch hl20 HSN
      have e0 := hc 0 (by omega)
      have e1 := hc 1 (by omega)
      have e3 := hc 2 (by omega)
      simp only [List.getElem?_cons_zero, List.getElem?_cons_succ, Nat.add_zero] at e0 e1 e3
      have HCH := hide hch
      clear hc hsgn hch hz
      go_upto_region 6 with (fail)
      go_quiet (fail)
      obtain ⟨V2, hV2⟩ : ∃ V2, V.drewN nq = V2 := ⟨_, rfl⟩
      rw [hV2]
      have hbr2 : Below V.heap.size V V2 := by rw [← hV2]; exact below_drewN (Below.refl _ _) nq
      have HBV2 := hide (bstep HBR.out hbr2)
      have HCH2 := hide (show Row V2 (Lo V2.heap.size) 2 cChg sA chs from HCH.out.grow hbr2)
      have HR2 := hide (show CtRel (fun u => u = f ∨ CutS v' (zs.take j) f t u) (1 + 20 * j) w _ V2 from by
        obtain ⟨b3, o3, c3, ps, g0, g1, g2, g3, g4, g5, g6⟩ := HR.out
        exact ⟨b3, o3, c3, ps, g0, g1.step hbr2, g2, bstep g3 hbr2, g4, g5, g6⟩)
      clear hV2 hbr2 q0 q1 q2 e0 e1 e3 hc2
      go_upto_region 8 with (fail)
      go_loopw [9, 13] (fun l i wr => CtIn (fun u => u = f ∨ CutS v' (zs.take j) f t u) chs f t (1 + 20 * j) w l i wr ∧ Below V2.heap.size V2 wr) (fun _ i _ => chs.length - (intOf i).toNat)
      case atStart => exact ⟨⟨0, Nat.zero_le _, rfl, HR2.out.congr (fun u => ⟨.inl, fun h => h.elim id (fun ⟨c, hc, _⟩ => by simp at hc)⟩) (Nat.le_refl _)⟩, Below.refl _ _⟩
      case round =>
        obtain ⟨X, rfl⟩ : ∃ w2 : World, w2 = wr := ⟨_, rfl⟩
        obtain ⟨⟨i, hi, rfl, hr⟩, hbx⟩ := hrel
        have HBX := hide hbx
        have HRX := hide hr
        clear hr hbx
        by_cases hlti : i < chs.length
        · obtain ⟨bc, oc, rfl, hbc, hcc⟩ := (HCH2.out.grow HBX.out).at_ hlti
          have HTI := hide (show chs.take (i + 1) = chs.take i ++ [chs[i]] from List.take_succ_eq_append_getElem hlti)
          generalize chs[i] = cg at *
          obtain ⟨ct, cv⟩ := cg
          unfold cChg at hcc
          have n0 := hcc 0 (by omega)
          simp only [List.getElem?_cons_zero, Nat.add_zero] at n0
          obtain ⟨b3, o3, c3, ps, rfl, g1, g2, g3, g4, g5, g6⟩ := HRX.out
          by_cases hft : f < ct
          · by_cases htt : ct ≤ t
            · have d1 : decide (f < ct) = true := decide_eq_true hft
              have d2 : decide (ct ≤ t) = true := decide_eq_true htt
              have HC2 := hide (ins_any b3 o3 c3 ps ct X g1 g2 (by omega) g4)
              have HG5 := hide g5
              have HG3 := hide g3
              have HQ := hide (And.intro hft htt)
              clear g1 g2 g3 g4 g5 hcc hft htt
              go_wp2_with fail
              refine HC2.out.mono ?_
              rintro e w3 ⟨b4, o4, d4, qs, rfl, p1, p2, p3, p4, p5, p6, p7⟩
              have HRN := hide (show CtRel (fun u => (u = f ∨ CutS v' (zs.take j) f t u) ∨ CutC (chs.take (i + 1)) f t u) (1 + 20 * j + (i + 1)) w (.slice (some ⟨b4, o4, none⟩) qs.length d4) w3 from ⟨b4, o4, d4, qs, rfl, p1, p2, bstep HG3.out p3, p4, fun u => by
                show _ ↔ (u = f ∨ CutS v' (zs.take j) f t u) ∨ CutC (chs.take (i + 1)) f t u
                rw [p5, HG5.out, HTI.out, cutC_snoc]
                have := HQ.out
                constructor
                · rintro (h | h | h)
                  · subst h; exact .inr (.inr ⟨rfl, HQ.out⟩)
                  · exact .inl h
                  · exact .inr (.inl h)
                · rintro (h | h | h)
                  · exact .inr (.inl h)
                  · exact .inr (.inr h)
                  · exact .inl h.1.symm, by omega⟩)
              have HBN := hide (bstep HBX.out p3)
              clear p1 p2 p3 p4 p5 p6 p7 n0
              go_wp2_with fail
              exact ⟨⟨⟨i + 1, hlti, by go_num, HRN.out⟩, HBN.out⟩, by simp [intOf]; omega⟩
            · have d1 : decide (f < ct) = true := decide_eq_true hft
              have d2 : decide (ct ≤ t) = false := decide_eq_false htt
              have HRN := hide (HRX.out.congr (S' := fun u => (u = f ∨ CutS v' (zs.take j) f t u) ∨ CutC (chs.take (i + 1)) f t u) (m' := 1 + 20 * j + (i + 1)) (fun u => by
                rw [HTI.out, cutC_snoc]
                exact ⟨fun h => h.elim .inl (fun h => .inr (.inl h)), fun h => h.elim .inl (fun h => h.elim .inr (fun h => absurd (show ct ≤ t by have h1 : ct = u := h.1; have h2 : u ≤ t := h.2.2; omega) htt))⟩) (by omega))
              clear g1 g2 g3 g4 g5 g6 hcc hft htt
              go_wp2_with fail
              exact ⟨⟨⟨i + 1, hlti, by go_num, HRN.out⟩, HBX.out⟩, by simp [intOf]; omega⟩
          · have d1 : decide (f < ct) = false := decide_eq_false hft
            have HRN := hide (HRX.out.congr (S' := fun u => (u = f ∨ CutS v' (zs.take j) f t u) ∨ CutC (chs.take (i + 1)) f t u) (m' := 1 + 20 * j + (i + 1)) (fun u => by
              rw [HTI.out, cutC_snoc]
              exact ⟨fun h => h.elim .inl (fun h => .inr (.inl h)), fun h => h.elim .inl (fun h => h.elim .inr (fun h => absurd (show f < ct by have h1 : ct = u := h.1; have h2 : f < u := h.2.1; omega) hft))⟩) (by omega))
            clear g1 g2 g3 g4 g5 g6 hcc hft
            go_wp2_with fail
            exact ⟨⟨⟨i + 1, hlti, by go_num, HRN.out⟩, HBX.out⟩, by simp [intOf]; omega⟩
        · have hie : i = chs.length := by omega
          have HRN := hide (show CtRel (fun u => u = f ∨ CutS v' (zs.take (j + 1)) f t u) (1 + 20 * (j + 1)) w _ X from by
            have h := HRX.out
            rw [hie, List.take_length] at h
            refine h.congr (fun u => ?_) (by omega)
            rw [HSN.out, or_assoc])
          have HBN := hide (bstep HBV2.out HBX.out)
          clear hie
          go_wp2_with fail
          exact ⟨⟨⟨j + 1, hlt, by go_num, HRN.out⟩, HBN.out⟩, by simp [intOf]; omega⟩
    · have hje : j = zs.length := by omega
      obtain ⟨b3, o3, c3, ps, rfl, g1, g2, g3, g4, g5, g6⟩ := HR.out
      have HF := hide (show CutPost v' n' f t w (.returned (.slice (some ⟨b3, o3, none⟩) ps.length c3)) V from ⟨b3, o3, c3, ps, rfl, g1, g3, g4, fun u => by
        rw [g5, hje, List.take_length]
        refine or_congr_right ?_
        unfold CutS
        exact ⟨fun ⟨x, hx, h⟩ => ⟨x, (HM.out x).1 hx, h⟩, fun ⟨x, hx, h⟩ => ⟨x, (HM.out x).2 hx, h⟩⟩, by omega⟩)
      clear hje g1 g2 g3 g4 g5 g6
      go_wp2_with fail
      go_ret
      exact HF.out

end Go.Proofs.YtdlebcijgdkfjaaGreatDoor
