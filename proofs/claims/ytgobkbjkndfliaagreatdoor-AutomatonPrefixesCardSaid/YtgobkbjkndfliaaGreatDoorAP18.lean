/-
  Several texts in one: RefLength. Each says at its head what it holds.
-/
import Derived.Test.YtgobkbjkndfliaaGreatDoorAP15
import Derived.Test.YtgobkbjkndfliaaGreatDoorAP17

/-
  wavestoreref54.Length: the least and the greatest duration of the paths, forward from the initial state.
-/
namespace Go.Proofs.YtgobkbjkndfliaaGreatDoor
open Go.RowKit

theorem LeastOf.shiftR {S : Int → Prop} {v : Int} (k : Int) (h : LeastOf S v) : LeastOf (fun c => ∃ c', S c' ∧ c = c' + k) (v + k) := ⟨⟨v, h.1, rfl⟩, fun t ⟨c', h1, h2⟩ => by have := h.2 c' h1; omega⟩
theorem GreatOf.shiftR {S : Int → Prop} {v : Int} (k : Int) (h : GreatOf S v) : GreatOf (fun c => ∃ c', S c' ∧ c = c' + k) (v + k) := ⟨⟨v, h.1, rfl⟩, fun t ⟨c', h1, h2⟩ => by have := h.2 c' h1; omega⟩
theorem fwd_take {E : List Edg} {s : Int} {i : Nat} {x : Edg} {lo hi l1 h1 : Int} {b : Bool} (he : E[i]? = some x) (hf : x.to_ = s) (d : Dur (FwdI E Edg.low s i) (FwdI E Edg.high s i) lo hi b) (d1 : Dur (Way E Edg.low 0 x.from_) (Way E Edg.high 0 x.from_) l1 h1 true)
    {lo' hi' : Int} (e1 : lo' = if b = true ∧ lo ≤ l1 + x.low then lo else l1 + x.low) (e2 : hi' = if b = true ∧ h1 + x.high ≤ hi then hi else h1 + x.high) : Dur (FwdI E Edg.low s (i + 1)) (FwdI E Edg.high s (i + 1)) lo' hi' true := by
  obtain ⟨t1, t2⟩ := d1.1 rfl
  refine d.add (t1.shiftR x.low) (t2.shiftR x.high) (fun c => ?_) (fun c => ?_) e1 e2
  · rw [FwdI.succ he]; exact or_congr_right ⟨fun h => h.2, fun h => ⟨hf, h⟩⟩
  · rw [FwdI.succ he]; exact or_congr_right ⟨fun h => h.2, fun h => ⟨hf, h⟩⟩
/-- a place that has not been begun -/
def FreshAt (ls ms : List Int) (ks : List Bool) (j : Nat) : Prop := ls[j]? = some 0 ∧ ms[j]? = some 0 ∧ ks[j]? = some (decide (j = 0))
section
variable {ls ms : List Int} {ks : List Bool} {j s : Nat} {x y : Int} {b : Bool}
theorem FreshAt.other (h : FreshAt ls ms ks j) (hne : j ≠ s) : FreshAt (ls.set s x) (ms.set s y) (ks.set s b) j := ⟨by rw [set_ne hne]; exact h.1, by rw [set_ne hne]; exact h.2.1, by rw [set_ne hne]; exact h.2.2⟩
theorem fresh_start {E : List Edg} (h : FreshAt ls ms ks j) : DurAt (FwdI E Edg.low (j : Int) 0) (FwdI E Edg.high (j : Int) 0) ls ms ks j := by
  refine ⟨0, 0, _, h.1, h.2.1, h.2.2, fun e => ?_, fun e => ?_⟩
  · have : j = 0 := of_decide_eq_true e
    subst this
    exact ⟨⟨FwdI.zero.2 ⟨rfl, rfl⟩, fun t ht => by have := (FwdI.zero.1 ht).2; omega⟩, ⟨FwdI.zero.2 ⟨rfl, rfl⟩, fun t ht => by have := (FwdI.zero.1 ht).2; omega⟩⟩
  · have hn : j ≠ 0 := of_decide_eq_false e
    exact ⟨rfl, rfl, fun c hc => by have := (FwdI.zero.1 hc).1; omega, fun c hc => by have := (FwdI.zero.1 hc).1; omega⟩
end
structure FwSt (E : List Edg) (n k m : Nat) (ls ms : List Int) (ks : List Bool) : Prop where
  l1 : ls.length = n
  l2 : ms.length = n
  l3 : ks.length = n
  done : ∀ j, j < k → DurAt (Way E Edg.low 0 (j : Int)) (Way E Edg.high 0 (j : Int)) ls ms ks j
  here : k < n → DurAt (FwdI E Edg.low (k : Int) m) (FwdI E Edg.high (k : Int) m) ls ms ks k
  fresh : ∀ j, k < j → j < n → FreshAt ls ms ks j
section
variable {E : List Edg} {n k m : Nat} {ls ms : List Int} {ks : List Bool} {x : Edg} {lo hi l1 h1 : Int} {b : Bool}
theorem fw_skip (h : FwSt E n k m ls ms ks) (he : E[m]? = some x) (hs : x.to_ ≠ (k : Int) ∨ ((∀ c, ¬ Way E Edg.low 0 x.from_ c) ∧ ∀ c, ¬ Way E Edg.high 0 x.from_ c)) : FwSt E n k (m + 1) ls ms ks :=
  ⟨h.l1, h.l2, h.l3, h.done, fun hk => (h.here hk).congr (fwd_skip he (hs.imp_right fun h => h.1)) (fwd_skip he (hs.imp_right fun h => h.2)), h.fresh⟩
theorem fw_take (h : FwSt E n k m ls ms ks) (he : E[m]? = some x) (hf : x.to_ = (k : Int)) (d : Dur (FwdI E Edg.low (k : Int) m) (FwdI E Edg.high (k : Int) m) lo hi b) (hk : k < n) (d1 : Dur (Way E Edg.low 0 x.from_) (Way E Edg.high 0 x.from_) l1 h1 true)
    {lo' hi' : Int} (e1 : lo' = if b = true ∧ lo ≤ l1 + x.low then lo else l1 + x.low) (e2 : hi' = if b = true ∧ h1 + x.high ≤ hi then hi else h1 + x.high) : FwSt E n k (m + 1) (ls.set k lo') (ms.set k hi') (ks.set k true) :=
  ⟨by simp [h.l1], by simp [h.l2], by simp [h.l3], fun j hj => (h.done j hj).other (by omega), fun _ => DurAt.here (by rw [h.l1]; exact hk) (by rw [h.l2]; exact hk) (by rw [h.l3]; exact hk) (fwd_take he hf d d1 e1 e2), fun j h1 h2 => (h.fresh j h1 h2).other (by omega)⟩
theorem fw_end (h : FwSt E n k E.length ls ms ks) (hk : k < n) : FwSt E n (k + 1) 0 ls ms ks :=
  ⟨h.l1, h.l2, h.l3, fun j hj => by
    rcases Nat.lt_or_ge j k with h3 | h3
    · exact h.done j h3
    · have : j = k := by omega
      subst this
      exact (h.here hk).congr (fun c => FwdI.all) (fun c => FwdI.all), fun h1 => fresh_start (h.fresh _ (by omega) h1), fun j h1 h2 => h.fresh j (by omega) h2⟩
end
def RoRel (E : List Edg) (fin : List Bool) (W : World) (gl gm gk : Nat) (le mo fo i : Value) (wr : World) : Prop :=
  ∃ (k : Nat) (ls ms : List Int) (ks : List Bool) (u v : Int) (b : Bool), k ≤ fin.length ∧ i = .int .i64 (k : Int) ∧ le = .int .i64 u ∧ mo = .int .i64 v ∧ fo = .bool b ∧ Tri wr gl gm gk ls ms ks ∧ FwSt E fin.length k 0 ls ms ks ∧ Dur (AllI E fin Edg.low k) (AllI E fin Edg.high k) u v b ∧ Below W.heap.size W wr
def RiRel (E : List Edg) (n : Nat) (W : World) (gl gm gk k : Nat) (i : Value) (wr : World) : Prop :=
  ∃ (m : Nat) (ls ms : List Int) (ks : List Bool), m ≤ E.length ∧ i = .int .i64 (m : Int) ∧ Tri wr gl gm gk ls ms ks ∧ FwSt E n k m ls ms ks ∧ Below W.heap.size W wr

set_option maxRecDepth 100000 in
set_option maxHeartbeats 4000000 in
theorem rlength_any (a : Aut) (w : World) (ha : AutAt w (Lo w.heap.size) a) (hle : AutLe a) :
    Calls Tryz.prog 20 #[.agg (encA a).toArray] w (LenPost a w) := by
  obtain ⟨a', ha'⟩ : ∃ a', a = a' := ⟨_, rfl⟩
  obtain ⟨W0, hW0⟩ : ∃ W0, w.alloc (.cells (encA a).toArray 30) = W0 := ⟨_, rfl⟩
  have g0 : W0.heap[w.heap.size]? = some (.cells (encA a).toArray 30 (0, 0)) := by rw [← hW0]; exact heap_alloc_new w _
  have hb0 : Below w.heap.size w W0 := by rw [← hW0]; exact (Below.refl _ _).alloc (Nat.le_refl _) _
  have hv := rvalid_any a W0 (ha.grow hb0) hle
  have HA := hide (ha.grow hb0)
  have HB0 := hide hb0
  have l4 := hle.edges
  rw [ha'] at hv hW0 g0 HA ⊢
  obtain ⟨AE, nE, cE, AC, nC, cC, AF, cF, fin, AX, cX, edges⟩ := a
  dsimp only at l4
  have HAA := hide (show a' = ⟨AE, nE, cE, AC, nC, cC, AF, cF, fin, AX, cX, edges⟩ from ha'.symm)
  have hX : encA a' = [.slice AE nE cE, .slice AC nC cC, .slice AF fin.length cF, .slice AX edges.length cX] := by rw [← ha']; rfl
  rw [hX] at hv hW0 g0 ⊢
  have HV := hide hv
  have HW0 := hide hW0
  have HG0 := hide g0
  obtain ⟨y0, y1, y2, y3, -⟩ := box4 g0
  clear ha' hX hv hW0 g0 hb0 ha hle
  go_enter Tryz.func20, Tryz.ntmps20
  go_upto_region 1 with (fail)
  rw [HW0.out]
  cases hvb : validB a' with
  | false =>
    have HN := hide hvb
    rw [hvb] at HV
    clear hvb
    go_wp2_with (go_at_call 15; refine HV.out.mono ?_; rintro e w2 ⟨rfl, hb2⟩; have HB2 := hide hb2; clear hb2)
    go_ret2
    exact ⟨0, 0, rfl, .inl ⟨HN.out, rfl, rfl⟩, bstep HB0.out HB2.out⟩
  | true =>
    obtain ⟨v1, v2, v3, v4⟩ := valid_states hvb
    have HCO := hide (valid_costs hvb)
    rw [HAA.out] at v1 v2 v3 v4
    dsimp only at v1 v2 v3 v4
    have HVB := hide hvb
    rw [hvb] at HV
    clear hvb v3 v4
    obtain ⟨fi, hfi, mi⟩ := mk_ints fin.length (by omega)
    obtain ⟨fb, hfb, mb⟩ := mk_bools fin.length (by omega)
    have MI := hide mi
    have MB := hide mb
    clear mi mb
    go_upto_region 3 with (go_at_call 15; refine HV.out.mono ?_; rintro e w2 ⟨rfl, hb2⟩; have HB2 := hide hb2; clear hb2)
    clear y0 y1 y2 y3
    obtain ⟨y0, y1, y2, y3, -⟩ := box4 ((HB2.out.block _ (box_lt HG0.out)).trans HG0.out)
    go_upto_region 6 with (fail)
    go_cut [8, 9, 10] (fun A B C wx => Tri3 w2 fin.length A B C wx)
    case first =>
      clear y0 y1 y2 y3
      go_region
      all_goals go_wp2_with fail
      all_goals go_meet
      all_goals first | exact (tri_lmk (w := w2.drew) MI.out MB.out).drew | exact (tri_mlk (w := w2.drew) MI.out MB.out).drew | exact (tri_lkm (w := w2.drew) MI.out MB.out).drew | exact (tri_mkl (w := w2.drew) MI.out MB.out).drew | exact (tri_klm (w := w2.drew) MI.out MB.out).drew | exact (tri_kml (w := w2.drew) MI.out MB.out).drew
    case rest =>
      obtain ⟨gl, gm, gk, rfl, rfl, rfl, tri, hgl, hgm, hgk, hbc⟩ := hcut
      have hbc0 := bstep HB2.out hbc
      have hz2 := HB2.out.size
      replace hgl : W0.heap.size ≤ gl := by omega
      replace hgm : W0.heap.size ≤ gm := by omega
      replace hgk : W0.heap.size ≤ gk := by omega
      have hn0 : 0 < fin.length := by omega
      have cK := tri.k.cell (k := 0) (x := false) (by simp [hn0])
      have fK : wc.frozen? ⟨gk, 0, none⟩ = false := tri.k.froz
      have HBC := hide hbc0
      have HTRI := hide tri
      clear tri hbc hbc0 hz2 hfi hfb y0 y1 y2 y3
      generalize wc = V at *
      go_upto_region 8 with (fail)
      obtain ⟨V1, hV1⟩ : ∃ V1, V.setCell ⟨gk, 0, none⟩ (.bool true) = V1 := ⟨_, rfl⟩
      rw [hV1]
      have HTR1 := hide (show Tri V1 gl gm gk _ _ _ from by rw [← hV1]; exact HTRI.out.setK (i := 0) true)
      have HBV1 := hide (show Below W0.heap.size W0 V1 from by rw [← hV1]; exact HBC.out.setCell (p := ⟨gk, 0, none⟩) hgk _)
      clear hV1 cK fK HTRI HBC
      go_wp2_with fail
      go_loopw [5, 6, 7, 11] (fun le mo fo i wr => RoRel edges fin W0 gl gm gk le mo fo i wr) (fun _ _ _ i _ => fin.length - (intOf i).toNat)
      case atStart =>
        have hfr : ∀ j, j < fin.length → FreshAt (List.replicate fin.length 0) (List.replicate fin.length 0) ((List.replicate fin.length false).set 0 true) j := fun j hj => by
          refine ⟨by simp [hj], by simp [hj], ?_⟩
          by_cases h0 : j = 0
          · subst h0; rw [set_eq (by simp; omega)]; rfl
          · rw [set_ne h0]; simp [hj, h0]
        exact ⟨0, _, _, _, 0, 0, false, Nat.zero_le _, rfl, rfl, rfl, rfl, HTR1.out, ⟨by simp, by simp, by simp, fun j hj => absurd hj (Nat.not_lt_zero _), fun h => fresh_start (hfr 0 h), fun j _ h2 => hfr j h2⟩, ⟨(fun e => by cases e), fun _ => ⟨rfl, rfl, fun c => AllI.zero, fun c => AllI.zero⟩⟩, HBV1.out⟩
      case round =>
        clear HTR1 HBV1
        obtain ⟨wr1, rfl⟩ : ∃ w2 : World, w2 = wr := ⟨_, rfl⟩
        obtain ⟨k, ls, ms, ks, u, v, fo, hk, rfl, rfl, rfl, rfl, tri, hst, hall, hbr⟩ := hrel
        have HST := hide hst
        have HTR := hide tri
        have HALL := hide hall
        clear hst tri hall
        obtain ⟨y0, y1, y2, y3, -⟩ := box4 ((hbr.block _ (box_lt HG0.out)).trans HG0.out)
        have HBO := hide hbr
        clear hbr
        by_cases hlt : k < fin.length
        · go_upto_region 11 with (fail)
          go_wp2_with fail
          go_loopw [12] (fun i wr => RiRel edges fin.length W0 gl gm gk k i wr) (fun i _ => edges.length - (intOf i).toNat)
          case atStart => exact ⟨0, _, _, _, Nat.zero_le _, rfl, HTR.out, HST.out, HBO.out⟩
          case round =>
            clear HST HTR HBO y0 y1 y2 y3
            obtain ⟨wr2, rfl⟩ : ∃ w2 : World, w2 = wr := ⟨_, rfl⟩
            obtain ⟨m, ls, ms, ks, hm, rfl, tri, hin, hbr⟩ := hrel
            have HTR := hide tri
            have HIN := hide hin
            have HBR := hide hbr
            clear tri hin
            obtain ⟨y0, y1, y2, y3, -⟩ := box4 ((hbr.block _ (box_lt HG0.out)).trans HG0.out)
            have HAW := hide (show AutAt wr2 (Lo wr2.heap.size) ⟨AE, nE, cE, AC, nC, cC, AF, cF, fin, AX, cX, edges⟩ from by have h := HA.out.grow hbr; rw [HAA.out] at h; exact h)
            by_cases hlm : m < edges.length
            · obtain ⟨be, oe, ax, hbe, e0, e1, e2, e3, e4, e5⟩ := HAW.out.edges.edg_at hlm
              dsimp only at ax
              subst ax
              have he : edges[m]? = some edges[m] := List.getElem?_eq_getElem hlm
              have HE := hide he
              have hco := HCO.out
              rw [HAA.out] at hco
              dsimp only at hco
              have hcl := hco.1.st _ (List.getElem_mem hlm)
              have hcc := hco.1.c _ (List.getElem_mem hlm)
              have hcd := hco.2.c _ (List.getElem_mem hlm)
              have HCC := hide hco
              clear he hco
              generalize edges[m] = x at *
              obtain ⟨f, t, ev, wh, lo, hi⟩ := x
              dsimp only at e0 e1 e2 e3 e4 e5 hcl hcc hcd
              obtain ⟨W1, hW1⟩ : ∃ W1 : World, wr2.alloc (.cells #[.int .i64 f, .int .i64 t, .int .i64 ev, .int .i64 wh, .int .i64 lo, .int .i64 hi] 39) = W1 := ⟨_, rfl⟩
              have g1 : W1.heap[wr2.heap.size]? = some (.cells #[.int .i64 f, .int .i64 t, .int .i64 ev, .int .i64 wh, .int .i64 lo, .int .i64 hi] 39 (0, 0)) := by rw [← hW1]; exact heap_alloc_new wr2 _
              have hb1 : Below wr2.heap.size wr2 W1 := by rw [← hW1]; exact (Below.refl _ _).alloc (Nat.le_refl _) _
              have HB1 := hide (bstep hbr hb1)
              have HT1 := hide (HTR.out.below hb1)
              have HW1 := hide hW1
              clear hW1 hb1 HTR HAW hbr
              go_upto_region 15 with (fail)
              rw [HW1.out]
              clear HW1 e0 e1 e2 e3 e4 e5 y0 y1 y2 y3
              obtain ⟨f0, f1, f2, f3, f4, f5⟩ := box6 g1
              clear g1
              generalize wr2.heap.size = XB at *
              by_cases hf : t = (k : Int)
              · have T1 : (t != (k : Int)) = false := by simp [hf]
                obtain ⟨fn, hfn⟩ := Int.eq_ofNat_of_zero_le (show 0 ≤ f by omega)
                subst hfn
                have hqt : fn < k := by omega
                have htl : fn < fin.length := by omega
                obtain ⟨l1, h1, b1, c1, c2, c3, d1⟩ := HIN.out.done fn hqt
                obtain ⟨lq, hq, bq, c4, c5, c6, d⟩ := HIN.out.here hlt
                have b1l := dur_bound (B := 36283883716608) d1 (by omega) (fun c hc => way_bound HCC.out.1 (by omega) (by omega) hc) (fun c hc => way_bound HCC.out.2 (by omega) (by omega) hc)
                have b2l := dur_bound (B := 37383395344384) d (by omega) (fun c hc => fwdI_bound HCC.out.1 (by omega) hc) (fun c hc => fwdI_bound HCC.out.2 (by omega) hc)
                have x1 := HT1.out.l.cell c1
                have x2 := HT1.out.m.cell c2
                have x3 := HT1.out.k.cell c3
                have x4 := HT1.out.l.cell c4
                have x5 := HT1.out.m.cell c5
                have x6 := HT1.out.k.cell c6
                have z4 : W1.frozen? ⟨gl, k, none⟩ = false := HT1.out.l.froz
                have z5 : W1.frozen? ⟨gm, k, none⟩ = false := HT1.out.m.froz
                have z6 : W1.frozen? ⟨gk, k, none⟩ = false := HT1.out.k.froz
                have n1 : ¬ gl = gm := HT1.out.nlm
                have n2 : ¬ gl = gk := HT1.out.nlk
                have n3 : ¬ gm = gk := HT1.out.nmk
                have HC4 := hide (set_same c4)
                have HC5 := hide (set_same c5)
                have HD1 := hide d1
                have HD := hide d
                have HF := hide hf
                have HTX := hide (fun (n : Nat) => (show Tri (W1.drewN n) gl gm gk ls ms ks from ⟨HT1.out.l, HT1.out.m, HT1.out.k, n1, n2, n3⟩))
                have HBX := hide (fun (n : Nat) => below_drewN HB1.out n)
                clear c1 c2 c3 c4 c5 c6 d d1 hf
                cases b1 with
                | false =>
                  have HNX := hide (fw_skip HIN.out HE.out (.inr ⟨(HD1.out.2 rfl).2.2.1, (HD1.out.2 rfl).2.2.2⟩))
                  go_wp2_with fail
                  exact ⟨⟨m + 1, ls, ms, ks, hlm, by go_num, HT1.out, HNX.out, HB1.out⟩, by simp [intOf]; omega⟩
                | true =>
                  have HNX := hide (fun (lo' hi' : Int) => fw_take (lo' := lo') (hi' := hi') HIN.out HE.out HF.out HD.out hlt HD1.out)
                  cases bq with
                  | false =>
                    have HN2 := hide (HNX.out _ _ (by simp; rfl) (by simp; rfl))
                    clear HNX
                    go_upto_region 16 with (fail)
                    go_quiet (fail)
                    go_wp2_with fail
                    exact ⟨⟨m + 1, _, _, _, hlm, by go_num, (((HTX.out _).setL (i := k) _).setM (i := k) _).setK (i := k) true, HN2.out, (((HBX.out _).setCell (p := ⟨gl, k, none⟩) hgl _).setCell (p := ⟨gm, k, none⟩) hgm _).setCell (p := ⟨gk, k, none⟩) hgk _⟩, by simp [intOf]; omega⟩
                  | true =>
                    by_cases s1 : l1 + lo < lq
                    · have T2 : decide (l1 + lo < lq) = true := decide_eq_true s1
                      by_cases s2 : hq < h1 + hi
                      · have T3 : decide (hq < h1 + hi) = true := decide_eq_true s2
                        have HN2 := hide (HNX.out (l1 + lo) (h1 + hi) (by rw [if_neg (by dsimp only; omega)]) (by rw [if_neg (by dsimp only; omega)]))
                        clear HNX s1 s2
                        go_upto_region 16 with (fail)
                        go_quiet (fail)
                        go_wp2_with fail
                        exact ⟨⟨m + 1, _, _, _, hlm, by go_num, (((HTX.out _).setL (i := k) _).setM (i := k) _).setK (i := k) true, HN2.out, (((HBX.out _).setCell (p := ⟨gl, k, none⟩) hgl _).setCell (p := ⟨gm, k, none⟩) hgm _).setCell (p := ⟨gk, k, none⟩) hgk _⟩, by simp [intOf]; omega⟩
                      · have T3 : decide (hq < h1 + hi) = false := decide_eq_false s2
                        have HN2 := hide (HNX.out (l1 + lo) hq (by rw [if_neg (by dsimp only; omega)]) (by rw [if_pos (by dsimp only; exact ⟨rfl, by omega⟩)]))
                        rw [HC5.out] at HN2
                        clear HNX s1 s2
                        go_upto_region 16 with (fail)
                        go_quiet (fail)
                        go_wp2_with fail
                        exact ⟨⟨m + 1, _, _, _, hlm, by go_num, ((HTX.out _).setL (i := k) _).setK (i := k) true, HN2.out, ((HBX.out _).setCell (p := ⟨gl, k, none⟩) hgl _).setCell (p := ⟨gk, k, none⟩) hgk _⟩, by simp [intOf]; omega⟩
                    · have T2 : decide (l1 + lo < lq) = false := decide_eq_false s1
                      by_cases s2 : hq < h1 + hi
                      · have T3 : decide (hq < h1 + hi) = true := decide_eq_true s2
                        have HN2 := hide (HNX.out lq (h1 + hi) (by rw [if_pos (by dsimp only; exact ⟨rfl, by omega⟩)]) (by rw [if_neg (by dsimp only; omega)]))
                        rw [HC4.out] at HN2
                        clear HNX s1 s2
                        go_upto_region 16 with (fail)
                        go_quiet (fail)
                        go_wp2_with fail
                        exact ⟨⟨m + 1, _, _, _, hlm, by go_num, ((HTX.out _).setM (i := k) _).setK (i := k) true, HN2.out, ((HBX.out _).setCell (p := ⟨gm, k, none⟩) hgm _).setCell (p := ⟨gk, k, none⟩) hgk _⟩, by simp [intOf]; omega⟩
                      · have T3 : decide (hq < h1 + hi) = false := decide_eq_false s2
                        have HN2 := hide (HNX.out lq hq (by rw [if_pos (by dsimp only; exact ⟨rfl, by omega⟩)]) (by rw [if_pos (by dsimp only; exact ⟨rfl, by omega⟩)]))
                        rw [HC4.out, HC5.out] at HN2
                        clear HNX s1 s2
                        go_upto_region 16 with (fail)
                        go_quiet (fail)
                        go_wp2_with fail
                        exact ⟨⟨m + 1, _, _, _, hlm, by go_num, (HTX.out _).setK (i := k) true, HN2.out, (HBX.out _).setCell (p := ⟨gk, k, none⟩) hgk _⟩, by simp [intOf]; omega⟩
              · have T1 : (t != (k : Int)) = true := by simp [hf]
                have HNX := hide (fw_skip HIN.out HE.out (.inl hf))
                clear hf
                go_wp2_with fail
                exact ⟨⟨m + 1, ls, ms, ks, hlm, by go_num, HT1.out, HNX.out, HB1.out⟩, by simp [intOf]; omega⟩
            · have hme : m = edges.length := by omega
              have hfe : FwSt edges fin.length (k + 1) 0 ls ms ks := fw_end (by rw [← hme]; exact HIN.out) hlt
              obtain ⟨lk, mk, bk, c4, c5, c6, d⟩ := hfe.done k (by omega)
              have x4 := HTR.out.l.cell c4
              have x5 := HTR.out.m.cell c5
              have x6 := HTR.out.k.cell c6
              obtain ⟨bf, of, hAF, hbf, e0⟩ := HAW.out.fin.bool_at hlt
              dsimp only at hAF
              subst hAF
              have hfin : fin.getD k false = fin[k] := by rw [List.getD_eq_getElem?_getD, List.getElem?_eq_getElem hlt]; rfl
              have HFE := hide hfe
              have HD := hide d
              have HFIN := hide hfin
              generalize fin[k] = fk at *
              clear hme HIN hbr hfe d c4 c5 c6 hfin
              have hft : ∀ z, z = fin.getD k false → (FinT fin (k : Int) ↔ z = true) := fun z hz => by unfold FinT; rw [Int.toNat_natCast, hz]
              have HFT := hide (hft fk HFIN.out.symm)
              clear hft
              cases bk with
              | false =>
                have HAL := hide (HALL.out.congr (fun c => AllI.unreached (HD.out.2 rfl).2.2.1) (fun c => AllI.unreached (HD.out.2 rfl).2.2.2))
                go_wp2_with fail
                exact ⟨⟨k + 1, _, _, _, u, v, fo, hlt, by go_num, rfl, rfl, rfl, HTR.out, HFE.out, HAL.out, HBR.out⟩, by simp [intOf]; omega⟩
              | true =>
                cases fk with
                | false =>
                  have HAL := hide (HALL.out.congr (fun c => AllI.off (fun h => by have := HFT.out.1 h; cases this)) (fun c => AllI.off (fun h => by have := HFT.out.1 h; cases this)))
                  go_wp2_with fail
                  exact ⟨⟨k + 1, _, _, _, u, v, fo, hlt, by go_num, rfl, rfl, rfl, HTR.out, HFE.out, HAL.out, HBR.out⟩, by simp [intOf]; omega⟩
                | true =>
                  have HAL := hide (fun (lo' hi' : Int) => HALL.out.add (lo' := lo') (hi' := hi') (HD.out.1 rfl).1 (HD.out.1 rfl).2 (fun c => AllI.add (HFT.out.2 rfl)) (fun c => AllI.add (HFT.out.2 rfl)))
                  cases fo with
                  | false =>
                    have HA2 := hide (HAL.out lk mk (by simp) (by simp))
                    clear HAL
                    go_wp2_with fail
                    exact ⟨⟨k + 1, _, _, _, _, _, true, hlt, by go_num, rfl, rfl, rfl, HTR.out, HFE.out, HA2.out, HBR.out⟩, by simp [intOf]; omega⟩
                  | true =>
                    by_cases s1 : lk < u
                    · have T2 : decide (lk < u) = true := decide_eq_true s1
                      by_cases s2 : v < mk
                      · have T3 : decide (v < mk) = true := decide_eq_true s2
                        have HA2 := hide (HAL.out lk mk (by rw [if_neg (by omega)]) (by rw [if_neg (by omega)]))
                        clear HAL s1 s2
                        go_wp2_with fail
                        exact ⟨⟨k + 1, _, _, _, _, _, true, hlt, by go_num, rfl, rfl, rfl, HTR.out, HFE.out, HA2.out, HBR.out⟩, by simp [intOf]; omega⟩
                      · have T3 : decide (v < mk) = false := decide_eq_false s2
                        have HA2 := hide (HAL.out lk v (by rw [if_neg (by omega)]) (by rw [if_pos ⟨rfl, by omega⟩]))
                        clear HAL s1 s2
                        go_wp2_with fail
                        exact ⟨⟨k + 1, _, _, _, _, _, true, hlt, by go_num, rfl, rfl, rfl, HTR.out, HFE.out, HA2.out, HBR.out⟩, by simp [intOf]; omega⟩
                    · have T2 : decide (lk < u) = false := decide_eq_false s1
                      by_cases s2 : v < mk
                      · have T3 : decide (v < mk) = true := decide_eq_true s2
                        have HA2 := hide (HAL.out u mk (by rw [if_pos ⟨rfl, by omega⟩]) (by rw [if_neg (by omega)]))
                        clear HAL s1 s2
                        go_wp2_with fail
                        exact ⟨⟨k + 1, _, _, _, _, _, true, hlt, by go_num, rfl, rfl, rfl, HTR.out, HFE.out, HA2.out, HBR.out⟩, by simp [intOf]; omega⟩
                      · have T3 : decide (v < mk) = false := decide_eq_false s2
                        have HA2 := hide (HAL.out u v (by rw [if_pos ⟨rfl, by omega⟩]) (by rw [if_pos ⟨rfl, by omega⟩]))
                        clear HAL s1 s2
                        go_wp2_with fail
                        exact ⟨⟨k + 1, _, _, _, _, _, true, hlt, by go_num, rfl, rfl, rfl, HTR.out, HFE.out, HA2.out, HBR.out⟩, by simp [intOf]; omega⟩
        · have hke : k = fin.length := by omega
          have HF := hide (show LenPost a' w (.returned (.tuple #[.int .i64 u, .int .i64 v])) wr1 from ⟨u, v, rfl, .inr ⟨HVB.out, fo, by
            have h := HALL.out
            rw [hke] at h
            have hc := HCO.out
            rw [HAA.out] at hc ⊢
            exact h.congr (fun c => AllI.all hc.1 rfl) (fun c => AllI.all hc.2 rfl)⟩, bstep HB0.out HBO.out⟩)
          clear hke HALL HST HTR
          go_wp2_with fail
          go_ret2
          exact HF.out

end Go.Proofs.YtgobkbjkndfliaaGreatDoor
