/-
  Several texts in one: RValue51. Each says at its head what it holds.
-/
import Derived.Test.YtdlebcijgdkfjaaGreatDoorCV27
import Derived.Test.YtdlebcijgdkfjaaGreatDoorCV18
import Derived.Test.YtdlebcijgdkfjaaGreatDoorCV28
import Derived.Test.YtdlebcijgdkfjaaGreatDoorCV29

/-
  wavestoreref51.Value: the spans of a value, by the reference.
-/
namespace Go.Proofs.YtdlebcijgdkfjaaGreatDoor
open Go.RowKit

theorem ch_empty (W : World) {base : Nat} (hb : base ≤ W.heap.size) : OwnCh (W.alloc (.cells #[] 97)) base (some ⟨W.heap.size, 0, none⟩) 0 [] := World.ownsRow_lit W #[] 0 hb (by simp [maxLen]) rfl
def RVPost (v : Wv) (n : Nd) (f t : Int) (w : World) (e : Ending) (w' : World) : Prop :=
  Below w.heap.size w w' ∧
  ((¬ inR v f t ∧ e = VRes (.slice none 0 0) 2) ∨
   (inR v f t ∧ typeF n = none ∧ e = VRes (.slice none 0 0) 7) ∨
   (inR v f t ∧ (∃ p, typeF n = some p) ∧ ∃ zs, SigsOf n zs ∧
    ((fitE v n zs ≠ 0 ∧ e = VRes (.slice none 0 0) (fitE v n zs)) ∨
     (fitE v n zs = 0 ∧ ∃ (A : Option Addr) (ca : Nat) (l : List Spn), e = VRes (.slice A l.length ca) 0 ∧ Row w' (Lo w'.heap.size) 3 encSp A l ∧ Spans (fun u => valF (envW v u) n) f t l))))
def RvlRel (g : Int → ByteArray) (ps : List Int) (w : World) (o i : Value) (wr : World) : Prop :=
  ∃ (j : Nat) (A : Option Addr) (c : Nat), j ≤ ps.length ∧ i = .int .i64 (j : Int) ∧ o = .slice A j c ∧ OwnCh wr w.heap.size A c ((ps.take j).map (mkC g)) ∧ Below w.heap.size w wr

set_option maxRecDepth 100000 in
set_option maxHeartbeats 8000000 in
theorem rvalue51_any (v : Wv) (n : Nd) (f t : Int) (w : World) (hv : SmallOk v) (hS : SigsAt w (Lo w.heap.size) v.A v.sigs) (ht : TreesAt w (Lo w.heap.size) n.KA n.kids) (hok : okF n) (hle : (sigF n).length ≤ 1000000) (hf60 : FewOk 60 n) (hsz : n.fold (fun m l => m.value.size ≤ 130 ∧ ∀ p ∈ l, p)) (hty : RtC n) :
    Calls Tryz.prog 15 #[.agg (cWv v).toArray, .agg (cNd n).toArray, .int .i64 f, .int .i64 t] w (RVPost v n f t w) := by
  obtain ⟨i0, hi0, hz0, hz1, hz2⟩ := info_parts infoChg
  have HTY := hide (fun (W : World) (hb : Below w.heap.size w W) => hty W (ht.grow hb))
  have HFI := hide (fun (W : World) (hb : Below w.heap.size w W) => rfits_any v n W (hS.up hb) (ht.grow hb) hok hle)
  have HCU := hide (fun (hz : ∀ x ∈ sigF n, sigE v n x = 0) (W : World) (hb : Below w.heap.size w W) => rcuts_any v n f t W hv (hS.up hb) (ht.grow hb) hok hle hz)
  have HAT := hide (fun (hr : ∃ p, typeF n = some p) (hz : ∀ x ∈ sigF n, sigE v n x = 0) (u : Int) (W : World) (hb : Below w.heap.size w W) => rat_any v u hv n W (hS.up hb) (ht.grow hb) hok
    (by obtain ⟨p, hp⟩ := hr; exact siz_of n (env_ok_of hv u n (fun x hx => sigE_zero (hz x hx)) hsz) hf60 p hp)
    (fun x hx => by have := sigE_zero (hz x hx); exact ⟨this.1, this.2.1⟩))
  have HSZ := hide (fun (zs : List Int) (hz : SigsOf n zs) (h : fitE v n zs = 0) (x : Int) (hx : x ∈ sigF n) => fitE_ok.1 h x ((hz.2.2.1 x (sig_I64 n hok x hx)).2 hx))
  have HFIN := hide hv.fin
  obtain ⟨n', hn'⟩ : ∃ n', n' = n := ⟨_, rfl⟩
  obtain ⟨v', hv'⟩ : ∃ v', v' = v := ⟨_, rfl⟩
  obtain ⟨NA, hNA⟩ : ∃ NA, (cNd n).toArray = NA := ⟨_, rfl⟩
  obtain ⟨VA, hVA⟩ : ∃ VA, (cWv v).toArray = VA := ⟨_, rfl⟩
  have hfi : v'.fin = v.fin := by rw [hv']
  have hNA' : (cNd n').toArray = NA := by rw [hn', hNA]
  unfold RtC at hty
  rw [← hn'] at HTY HFI HCU HAT HSZ ⊢
  rw [← hv'] at HFI HCU HAT HSZ HFIN ⊢
  rw [hNA'] at HTY HFI HCU HAT ⊢
  rw [show (cWv v').toArray = VA by rw [hv', hVA]] at HFI HCU HAT ⊢
  obtain ⟨rz, hrz⟩ : ∃ rz, typeF n' = rz := ⟨_, rfl⟩
  have HRZ := hide hrz
  rw [hrz] at HTY
  clear hv hS ht hok hle hf60 hsz hty hn' hv' hrz hNA'
  obtain ⟨kind, at_, name, value, a, b, c, d, KA, kc, kids⟩ := n
  obtain ⟨A, cA, sigs, G, gn, cG, fin⟩ := v
  unfold cNd at hNA
  unfold cWv at hVA
  subst hNA hVA
  dsimp only at hfi
  obtain ⟨W0, hW0⟩ : ∃ W0, (w.alloc (.cells #[.slice A sigs.length cA, .slice G gn cG, .int .i64 fin] 29)).alloc (.cells #[.int .i64 kind, .int .i64 at_, .string name, .string value, .int .i64 a, .int .i64 b, .int .i64 c, .int .i64 d, .slice KA kids.length kc] 32) = W0 := ⟨_, rfl⟩
  obtain ⟨p0, p1, hb0⟩ := chain2 _ _ _ hW0
  have HH := hide (wn_held p0 p1)
  have HB0 := hide hb0
  have HW0 := hide hW0
  have HRG := hide (show (inR v' f t → (decide (0 ≤ f) && decide (f ≤ t) && decide (t ≤ fin)) = true) ∧ (¬ inR v' f t → (decide (0 ≤ f) && decide (f ≤ t) && decide (t ≤ fin)) = false) by
    rw [← hfi]
    unfold inR
    refine ⟨fun h => by rw [decide_eq_true h.1, decide_eq_true h.2.1, decide_eq_true h.2.2]; rfl, fun h => ?_⟩
    by_cases h1 : 0 ≤ f
    · by_cases h2 : f ≤ t
      · rw [decide_eq_false (fun h3 : t ≤ v'.fin => h ⟨h1, h2, h3⟩), Bool.and_false]
      · rw [decide_eq_false h2, Bool.and_false, Bool.false_and]
    · rw [decide_eq_false h1, Bool.false_and, Bool.false_and])
  clear hb0 hW0 p0 p1
  go_enter Tryz.func15, Tryz.ntmps15
  go_upto_region 1 with (fail)
  rw [HW0.out]
  obtain ⟨q0, q1, q2, y0, y1, y2, y3, y4, y5, y6, y7, y8, -⟩ := HH.out W0 (Below.refl _ _)
  by_cases hin : inR v' f t
  · have HIN := hide hin
    have hd : (decide (0 ≤ f) && decide (f ≤ t) && decide (t ≤ fin)) = true := HRG.out.1 hin
    have HRR := hide (rrange_any47 f t fin W0)
    rw [hd] at HRR
    have HTC := hide (HTY.out W0 HB0.out)
    clear hin hd HRG
    cases rz with
    | none =>
      unfold typV at HTC
      dsimp only at HTC
      go_wp2_with first
        | (go_at_call 53; refine HRR.out.mono ?_; rintro e w2 ⟨rfl, rfl⟩)
        | (go_at_call 54; refine HTC.out.mono ?_; rintro e w3 ⟨rfl, hb3⟩; have HB3 := hide (bstep HB0.out hb3); clear hb3)
      go_ret2
      exact ⟨HB3.out, .inr (.inl ⟨HIN.out, HRZ.out, rfl⟩)⟩
    | some p =>
      have HP := hide (show ∃ p, typeF n' = some p from ⟨p, HRZ.out⟩)
      obtain ⟨pk, pw⟩ := p
      unfold typV at HTC
      dsimp only at HTC
      clear HRZ
      go_wp2_with first
        | (go_at_call 53; refine HRR.out.mono ?_; rintro e w2 ⟨rfl, rfl⟩)
        | (go_at_call 54; refine HTC.out.mono ?_; rintro e w3 ⟨rfl, hb3⟩; have HB3 := hide hb3; have q := HH.out w3 hb3; obtain ⟨q0, q1, q2, y0, y1, y2, y3, y4, y5, y6, y7, y8, -⟩ := q; clear hb3)
      refine (HFI.out w3 (bstep HB0.out HB3.out)).mono ?_
      rintro e w4 ⟨zs, hz, rfl, hb4⟩
      have HZ := hide hz
      have HB4 := hide (bstep HB3.out hb4)
      clear q0 q1 q2 y0 y1 y2 y3 y4 y5 y6 y7 y8 hb4
      by_cases hfe : fitE v' n' zs = 0
      · have HFE := hide hfe
        have hz0 := HSZ.out zs hz hfe
        have HCT := hide (HCU.out hz0 w4 (bstep HB0.out HB4.out))
        have HAC := hide (fun (u : Int) (W : World) (hb : Below w.heap.size w W) => HAT.out HP.out hz0 u W hb)
        rw [hfe]
        obtain ⟨q0, q1, q2, y0, y1, y2, y3, y4, y5, y6, y7, y8, -⟩ := HH.out w4 HB4.out
        clear hfe hz hz0
        go_wp2_with fail
        refine HCT.out.mono ?_
        rintro e w5 ⟨b5, o5, c5, ps, rfl, hi5, hb5, hps, hmm, hl5⟩
        have HB5 := hide (bstep HB4.out hb5)
        have HI := hide hi5
        have HPS := hide hps
        have HMM := hide hmm
        clear hi5 hb5 hps hmm q0 q1 q2 y0 y1 y2 y3 y4 y5 y6 y7 y8
        obtain ⟨g, hg⟩ : ∃ g : Int → ByteArray, g = fun u => valF (envW v' u) n' := ⟨_, rfl⟩
        have HG := hide hg
        have hac : ∀ (u : Int) (W : World), Below w.heap.size w W → Calls Tryz.prog 57 #[.agg #[.slice A sigs.length cA, .slice G gn cG, .int .i64 fin], .agg #[.int .i64 kind, .int .i64 at_, .string name, .string value, .int .i64 a, .int .i64 b, .int .i64 c, .int .i64 d, .slice KA kids.length kc], .int .i64 u] W (RetV (.string (g u)) W) := fun u W hb => by rw [hg]; exact HAC.out u W hb
        have HAG := hide hac
        clear HAC hac hg
        go_upto_region 12 with (fail)
        have hbE : Below w5.heap.size w5 (w5.alloc (.cells #[] 97)) := (Below.refl _ _).alloc (Nat.le_refl _) _
        go_loopw [15, 16] (fun o i wr => RvlRel g ps w5 o i wr) (fun _ i _ => ps.length - (intOf i).toNat)
        case atStart => exact ⟨0, _, 0, Nat.zero_le _, rfl, rfl, ch_empty w5 (Nat.le_refl _), hbE⟩
        case round =>
          obtain ⟨V, rfl⟩ : ∃ w2 : World, w2 = wr := ⟨_, rfl⟩
          obtain ⟨j, A2, c2, hj, rfl, rfl, hown, hbr⟩ := hrel
          have HOWN := hide hown
          have HBR := hide hbr
          have HBV := hide (bstep HB5.out hbr)
          clear hown hbr hbE
          by_cases hlt : j < ps.length
          · obtain ⟨q0, q1, q2, y0, y1, y2, y3, y4, y5, y6, y7, y8, -⟩ := HH.out V HBV.out
            have hx : ∀ W : World, Below V.heap.size V W → W.cell? ⟨b5, o5 + j, none⟩ = some (.int .i64 ps[j]) := fun W hb => by
              obtain ⟨b2, o2, e2, hb2, hc2⟩ := ((HI.out.step HBR.out).step hb).at_ hlt
              injection e2 with e2
              injection e2 with e2 e3
              subst e2 e3
              exact hc2
            have HX := hide hx
            have hc2 := hx V (Below.refl _ _)
            have HTK := hide (show (ps.take (j + 1)).map (mkC g) = (ps.take j).map (mkC g) ++ [mkC g ps[j]] by rw [List.take_succ_eq_append_getElem hlt, List.map_append]; rfl)
            have hlk : ((ps.take j).map (mkC g)).length = j := by simp; omega
            have HC := hide (HAG.out ps[j] V.drew (bstep (bstep HB0.out HBV.out) (below_drew (Below.refl _ _))))
            have hu : mkC g ps[j] = ⟨ps[j], g ps[j]⟩ := rfl
            rw [hu] at HTK
            clear hx hu
            generalize g ps[j] = vq at *
            generalize ps[j] = u at *
            have hzw := HBR.out.size
            go_upto_region 14 with (fail)
            go_region_law
              (first
                | (refine step_append_src rfl (.tmp 50) (.tmp 63) 58 rfl w5.heap.size 97 i0 _ 2 24 Tryz.underlying58 hi0 hz0 hz1 hz2 rfl (by decide) (.slice A2 j c2) j (((ps.take j).map (mkC g)).flatMap cChg) rfl HO3.out (some ⟨w2.heap.size, 0, none⟩) 1 1 (cChg ⟨u, vq⟩) rfl rfl (src_block (t := 97) (fr := (0, 0)) HN.out) (ch_one _) (by simp only [maxLen]; omega) (by omega) (by simp; omega) ?_
                   intro v5 w6 hown5 hg5
                   obtain ⟨A5, c5', rfl, ho5⟩ := OwnCh.of_row (l := (ps.take (j + 1)).map (mkC g)) hown5 (by rw [HTK.out]; simp; omega) (by rw [HTK.out, List.flatMap_append]; rfl)
                   rw [ob_eq] at hg5
                   rw [show ((ps.take (j + 1)).map (mkC g)).length = j + 1 by simp; omega]
                   have HO5 := hide ho5
                   have HB6 := hide ((HB2.out.alloc (by omega) (.cells #[.int .i64 u, .string vq] 97)).grown hg5 (by simp; omega) (fun g hg => (own_ob HOWN.out g hg).1))
                   clear hown5 hg5 ho5)
                | (go_simp
                   go_at_call 57
                   refine HC.out.mono ?_
                   rintro e w2 ⟨rfl, hb2⟩
                   have hb2' := bstep (below_drew (Below.refl V.heap.size V)) hb2
                   have k2 := HX.out w2 hb2'
                   have HB2 := hide (bstep HBR.out hb2')
                   have h9 : OwnCh w2 w5.heap.size A2 c2 ((ps.take j).map (mkC g)) := own_block HOWN.out fun g hg => hb2'.block g (own_ob HOWN.out g hg).2
                   have HO3 := hide (World.ownsRow.alloc h9 (.cells #[.int .i64 u, .string vq] 97))
                   have HN := hide (heap_alloc_new w2 (.cells #[.int .i64 u, .string vq] 97))
                   rw [hlk] at HO3
                   have hzw2 := hb2'.size
                   clear hb2 hb2' h9)
                | fail)
            all_goals
              go_wp2_with fail
              exact ⟨⟨j + 1, A5, c5', hlt, by go_num, rfl, HO5.out, HB6.out⟩, by simp [intOf]; omega⟩
          · have hje : j = ps.length := by omega
            subst hje
            rw [List.take_length] at HOWN
            have hfc := rfrom_any (ByteArray.empty) A2 c2 (ps.map (mkC g)) f t V (HOWN.out.row.more fun b h => h.2.1) (by rw [List.length_map]; omega) (fun i x y hx hy => by
              have hs := HPS.out
              rw [List.getElem?_map] at hx hy
              obtain ⟨x', hx', rfl⟩ := Option.map_eq_some_iff.1 hx
              obtain ⟨y', hy', rfl⟩ := Option.map_eq_some_iff.1 hy
              obtain ⟨l1, e1⟩ := List.getElem?_eq_some_iff.1 hx'
              obtain ⟨l2, e2⟩ := List.getElem?_eq_some_iff.1 hy'
              have := List.pairwise_iff_getElem.1 hs i (i + 1) l1 l2 (by omega)
              show x' ≤ y'
              omega) HIN.out.1 HIN.out.2.1 (Int.le_trans HIN.out.2.2 HFIN.out.2)
            rw [List.length_map] at hfc
            have hsp := ref_spans (v := v') (n := n') ByteArray.empty HIN.out.2.1 HPS.out HMM.out
            rw [← HG.out] at hsp
            have HSP := hide hsp
            have HFC := hide hfc
            clear hsp hfc
            go_wp2_with fail
            refine HFC.out.mono ?_
            rintro e w6 ⟨A6, c6, rfl, hr6, hb6⟩
            have HF := hide (show RVPost v' n' f t w (VRes (.slice A6 (spStep (fcF ByteArray.empty f t (ps.map (mkC g))).out (fcF ByteArray.empty f t (ps.map (mkC g))).at_ t (fcF ByteArray.empty f t (ps.map (mkC g))).v).length c6) 0) w6 from ⟨bstep HB0.out (bstep HBV.out hb6), .inr (.inr ⟨HIN.out, HP.out, zs, HZ.out, .inr ⟨HFE.out, A6, c6, _, rfl, hr6, by rw [← HG.out]; exact HSP.out⟩⟩)⟩)
            clear hr6 hb6
            go_wp2_with fail
            go_ret2
            exact HF.out
      · have T1 : (fitE v' n' zs != 0) = true := bne_iff_ne.2 hfe
        have HF := hide (show RVPost v' n' f t w (VRes (.slice none 0 0) (fitE v' n' zs)) w4 from ⟨bstep HB0.out HB4.out, .inr (.inr ⟨HIN.out, HP.out, zs, hz, .inl ⟨hfe, rfl⟩⟩)⟩)
        clear hfe hz
        go_wp2_with fail
        go_ret2
        exact HF.out
  · have hd : (decide (0 ≤ f) && decide (f ≤ t) && decide (t ≤ fin)) = false := HRG.out.2 hin
    have HRR := hide (rrange_any47 f t fin W0)
    rw [hd] at HRR
    have HF := hide (show RVPost v' n' f t w (VRes (.slice none 0 0) 2) W0 from ⟨HB0.out, .inl ⟨hin, rfl⟩⟩)
    clear hin hd HRG
    go_wp2_with (go_at_call 53; refine HRR.out.mono ?_; rintro e w2 ⟨rfl, rfl⟩)
    go_ret2
    exact HF.out

end Go.Proofs.YtdlebcijgdkfjaaGreatDoor
