/-
  Several texts in one: Reach. Each says at its head what it holds.
-/
import Derived.Test.YtkbiefklilelmaaMR14
import Derived.Test.YtkbiefklilelmaaMR29
import Derived.Laws.EntriesVeiled
import Derived.Sort.LoopGhostIn
import Derived.Sort.CutIn
import Derived.Sort.QuietIn

/-
  match.input.reach: the map of the states and times that can be reached.
-/
namespace Go.Proofs.Ytkbiefklilelmaa
open Go.RowKit Go.Shelf

attribute [local go_sem] Oper.semAt_some

set_option maxRecDepth 100000 in
set_option maxHeartbeats 8000000 in
theorem reach_any (x : MIn) (st : Int) (w : World) (h : MAt w x) (ok : MOk x) (hnm : ∀ s ∈ x.cs, Norm s.xs) (hst : 0 ≤ st ∧ st ≤ x.en) :
    Calls Try.prog 59 #[.agg (encX x).toArray, .int .i64 st] w (ReachPost x.inp st x.en w) := by
  obtain ⟨x', hx'⟩ : ∃ x', x = x' := ⟨_, rfl⟩
  have HU := hide (show (univ x.inp).length ≤ 960 from by
    refine Nat.le_trans (univ_len fun e he => ?_) (by have := ok.few; show x.a.edges.length * 24 ≤ 960; omega)
    obtain ⟨k, hk, _, h2⟩ := ok.event he
    rw [h2]
    exact (ok.evs _ (List.getElem_mem hk)).1)
  have HOK := hide ok
  have HNM := hide hnm
  have HM := hide h
  have l1 := ok.few
  have l2 := ok.nev
  have l3 := ok.ncs
  have en1 := ok.e1
  refine (callsIn_wide (n := 6)).1 ?_
  refine callsIn_of_wp_marks Try.func59 rfl trivial ?_ rfl
  simp only [Try.ntmps59, List.size_toArray, List.length_cons, List.length_nil, Nat.reduceAdd, Nat.reduceSub, Array.replicate_succ, Array.replicate_zero, List.push_toArray, List.append_toArray, List.nil_append, List.cons_append]
  have hmm := @run_makeMap Try.prog
  have hmf : ∀ (fn : Fn) (first cap : Array Value) (w : World), (Instr.makeFunc fn first cap).run Try.prog w = .ok (.func fn first cap) w := fun _ _ _ _ => rfl
  rw [hx'] at HU HOK HNM HM ⊢
  obtain ⟨⟨AE, nE, cE, AC, nC, cC, AF, cF, fin, AX, cX, edges⟩, AV, cV, ev, AS, cS, cs, en⟩ := x
  dsimp only at l1 l2 l3 en1 hst
  have HX := hide hx'
  clear h ok hnm
  have hX : encX x' = [.slice AE nE cE, .slice AC nC cC, .slice AF fin.length cF, .slice AX edges.length cX, .slice AV ev.length cV, .slice AS cs.length cS, .int .i64 en] := by rw [← hx']; rfl
  have HEX := hide hX
  rw [hX]
  clear hX hx'
  gi_upto_region 4 with (fail)
  obtain ⟨W0, hW0⟩ : ∃ W0 : World, ((((w.alloc (.cells #[.slice AE nE cE, .slice AC nC cC, .slice AF fin.length cF, .slice AX edges.length cX, .slice AV ev.length cV, .slice AS cs.length cS, .int .i64 en] 83)).alloc (.map #[] 0)).alloc (.cells #[.map (some (w.heap.size + 1))] 89)).alloc (.cells #[.slice none 0 0] 113)).alloc (.cells #[.func (.func 83) #[] #[.pointer (some ⟨w.heap.size + 1 + 1, 0, none⟩), .pointer (some ⟨w.heap.size + 1 + 1 + 1, 0, none⟩)]] 114) = W0 := ⟨_, rfl⟩
  obtain ⟨hb0, hx0⟩ := reach_start (W0 := W0) (x := x') (by rw [HEX.out]; exact hW0)
  rw [hW0]
  clear hW0
  have g0 := hx0.x
  rw [HEX.out] at g0
  obtain ⟨c0, c1, c2, c3, c4, c5, c6⟩ := box7 g0
  have HX0 := hide hx0
  have HSZ := hide (Nat.le_refl w.heap.size)
  clear g0 hx0
  gi_wp2_with fail
  gi_loopw [22] (fun i wr => BaseRel x' st w i wr) (fun i _ => edges.length - (intOf i).toNat)
  case atStart => exact ⟨0, none, [], [], Nat.zero_le _, rfl, BaseSt.zero _ _ _, HX0.out, hb0⟩
  case round =>
    obtain ⟨k, A, R, O, hk, rfl, hbs, hrx, hbr⟩ := hrel
    have hk' : k ≤ edges.length := by rw [← HX.out] at hk; exact hk
    clear hk
    have HBS := hide hbs
    have HRX := hide hrx
    have HBR := hide hbr
    clear hbs hrx hbr c0 c1 c2 c3 c4 c5 c6 hb0
    by_cases hlt : k < edges.length
    · obtain ⟨be, oe, bv, ov, j, s, f, t, wh, lo, hi, ea⟩ := edge_at HOK.out (HM.out.step HBR.out) (k := k) (by rw [← HX.out]; exact hlt)
      have ax := ea.ax
      have av := ea.av
      rw [← HX.out] at ax av
      dsimp only at ax av
      subst ax av
      obtain ⟨sA, sc, l⟩ := s
      have EA := hide ea
      obtain ⟨-, -, -, e0, e1, e2, e3, e4, e5, v0, -, jl, -, -, len, -, eok, hbe, hbv⟩ := ea
      have jl' : j < ev.length := by have := jl; rw [← HX.out] at this; exact this
      obtain ⟨W1, hW1⟩ : ∃ W1 : World, wr.alloc (.cells #[.int .i64 f, .int .i64 t, .int .i64 (j : Int), .int .i64 wh, .int .i64 lo, .int .i64 hi] 81) = W1 := ⟨_, rfl⟩
      have g1 := new_at hW1
      have hb1 : Below wr.heap.size wr W1 := by rw [← hW1]; exact (Below.refl _ _).alloc (Nat.le_refl _) _
      have HR1 := hide (HRX.out.below hb1)
      have HB1 := hide (bstep HBR.out hb1)
      have HI1 := hide (EA.out.ints.step hb1)
      obtain ⟨f0, f1, f2, f3, f4, f5⟩ := box6 g1
      have u0 := HR1.out.x
      rw [HEX.out] at u0
      obtain ⟨_, _, _, _, u4, _, _⟩ := box7 u0
      have v1 := (hb1.cell (p := ⟨bv, ov + j, none⟩) hbv).trans v0
      dsimp only at v1 len
      have HG1 := hide g1
      have HW1 := hide hW1
      have EOK := hide eok
      clear hW1 g1 u0 v0 jl eok hb1
      gi_upto_region 7 with (fail)
      rw [HW1.out]
      clear e0 e1 e2 e3 e4 e5
      gi_wp2_with fail
      refine ⟨trivial, (callsIn_wide.2 (bin_any sA sc l st W1 HI1.out (by omega) EA.out.incr.1)).mono ?_⟩
      rintro e w2 ⟨rfl, q, rfl⟩
      obtain ⟨okb, hokb⟩ : ∃ okb, l.contains st = okb := ⟨_, rfl⟩
      rw [hokb]
      have HOKB := hide hokb
      obtain ⟨W2, hW2⟩ : ∃ W2, W1.drewN q = W2 := ⟨_, rfl⟩
      have hb2 : Below W1.heap.size W1 W2 := by rw [← hW2]; exact below_drewN (Below.refl _ _) q
      rw [hW2]
      have HR2 := hide (HR1.out.below hb2)
      have HB2 := hide (bstep HB1.out hb2)
      have g2 := (hb2.block _ (box_lt HG1.out)).trans HG1.out
      have HG2 := hide g2
      clear f0 f1 f2 f3 f4 f5 u4 v1 hokb hW2 hb2
      generalize l.countP (· < st) = cp at *
      obtain ⟨f0, f1, f2, f3, f4, f5⟩ := box6 g2
      clear g2
      generalize wr.heap.size = Be at *
      have HMEM := hide (show okb = true ↔ st ∈ nth x'.inp.ev (j : Int) by rw [← HOKB.out, EA.out.nth]; simp)
      have HADD := hide (show f = 0 → okb = true → ∀ R' O', Added t st R O R' O' → BaseSt x'.inp st x'.en (k + 1) R' O' from fun h1 h2 R' O' a => HBS.out.add EA.out.get h1 (HMEM.out.1 h2) a)
      have HSKIP := hide (show ¬ (f = 0 ∧ okb = true) → BaseSt x'.inp st x'.en (k + 1) R O from fun h1 => HBS.out.skip EA.out.get fun h2 => h1 ⟨h2.1, HMEM.out.2 h2.2⟩)
      have hkn : k + 1 ≤ x'.a.edges.length := by rw [← HX.out]; exact hlt
      have HKN := hide hkn
      clear hkn
      by_cases hf : f = 0
      · have T1 : (f == 0) = true := beq_iff_eq.2 hf
        have HF := hide hf
        clear hf
        cases okb with
        | true =>
          have a0 := box_cell HR2.out.a
          have hlR := HBS.out.s.len HU.out
          have HLR := hide hlR
          clear hlR
          gi_wp2_with fail
          refine ⟨trivial, (callsIn_wide.2 (madd_any w.heap.size (w.heap.size + 1 + 1) (w.heap.size + 1) (w.heap.size + 1 + 1 + 1) A R O t st W2 HR2.out.r (by omega) (by omega) ?c1 ?c2 ?c3 ?c4)).mono ?_⟩
          case c1 => have := EOK.out.ft; have := EOK.out.f0; have := EOK.out.tn; have := HOK.out.fin; dsimp only at *; unfold I64; omega
          case c2 => unfold I64; omega
          case c3 => have := HLR.out.1; omega
          case c4 => have := HLR.out.1; have := HLR.out.2; omega
          intro e w3 hp
          obtain ⟨A', R', O', hr3, ha, _, hb3, _⟩ := add_out HR2.out hp
          obtain ⟨rfl, -⟩ := hp
          have HS := hide (HADD.out HF.out trivial R' O' ha)
          have HR3 := hide hr3
          have HB3 := hide (HB2.out.trans hb3)
          clear hr3 ha hb3 a0
          gi_wp2_with fail
          exact ⟨⟨k + 1, A', R', O', HKN.out, by go_num, HS.out, HR3.out, HB3.out⟩, by simp [intOf]; omega⟩
        | false =>
          have HS := hide (HSKIP.out (by simp))
          gi_wp2_with fail
          exact ⟨⟨k + 1, A, R, O, HKN.out, by go_num, HS.out, HR2.out, HB2.out⟩, by simp [intOf]; omega⟩
      · have T1 : (f == 0) = false := beq_eq_false_iff_ne.2 hf
        have HS := hide (HSKIP.out (fun h => hf h.1))
        clear hf
        gi_wp2_with fail
        exact ⟨⟨k + 1, A, R, O, HKN.out, by go_num, HS.out, HR2.out, HB2.out⟩, by simp [intOf]; omega⟩
    · have hke : k = edges.length := by omega
      subst hke
      have HOUT := hide (show OutSt x'.inp st x'.en R O from BaseSt.out (by have := HBS.out; rw [← HX.out] at this ⊢; exact this))
      gi_wp2_with fail
      refine wpIn_loop_ghost_k (fun g a w' => ∃ u ds, a = { tmps := fr2 w.heap.size u, defers := ds } ∧ OutRel x' st w g ds w') (2 * (960 - R.length) + O.length) (fr2_ex ⟨[], A, R, O, rfl, Marked.nil _ _, HOUT.out, HRX.out, HBR.out, Nat.le_refl _⟩) ?_
      clear HOUT HBR HRX HBS
      clear HX0 W0 wr A R O
      rintro g a wr ⟨u, ds, rfl, Ds, A, R, O, rfl, hmk, hos, hrx, hbr, hg⟩ JJ KK hJ hK
      have HJ := hide hJ
      have HK := hide hK
      clear hJ hK
      unfold fr2
      obtain ⟨cO, hbo, hown⟩ := hrx.r.bo
      have o0 := box_cell hbo
      have of0 := box_frozen hbo
      have m0 := box_cell hrx.r.bm
      have HRX := hide hrx
      have HBR := hide hbr
      have HMK := hide hmk
      have HOS := hide hos
      have HOWN := hide hown
      have HG := hide hg
      clear hbo hrx hbr hmk hos hown hg
      rcases List.eq_nil_or_concat O with rfl | ⟨O1, p, rfl⟩
      · clear HJ HK
        have HF := hide (show ∀ W : World, ReachS x'.inp st x'.en R.length w W → ReachPost x'.inp st x'.en w (.returned (.map (some (w.heap.size + 1)))) W from fun W hS => ⟨_, _, rfl, hS.1, by omega, (HOS.out.s.len HU.out).1, hS.2⟩)
        have HS0 := hide (show ReachS x'.inp st x'.en R.length w wr from ⟨HBR.out, HRX.out.r.map.congr fun s t => HOS.out.done s t⟩)
        gi_wp2_with fail
        refine leaves_marks (N := w.heap.size) (ReachS x'.inp st x'.en R.length w) (fun W D h1 h2 h3 => h1.put h2 h3) (fun W h1 => ⟨.map (some (w.heap.size + 1)), by simp [results, Try.f59, go_sem], HF.out W h1⟩) Ds wr HMK.out HS0.out
      · have hown2 : wr.ownsRow w.heap.size 112 2 (.slice A (O1 ++ [p]).length cO) (O1 ++ [p]).length (encPs (O1 ++ [p])) := by have := HOWN.out; rwa [List.concat_eq_append] at this
        rw [List.concat_eq_append] at o0 HRX HOS HG
        clear HOWN
        obtain ⟨g0, rfl, hg0, hg0', hcO, p0, p1, hpop⟩ := own_pop hown2
        have hlO : (O1 ++ [p]).length = O1.length + 1 := by simp
        rw [hlO] at o0
        have hlR := HOS.out.s.len HU.out
        rw [hlO] at hlR
        have HPOP := hide hpop
        have HPR := hide (HOS.out.s.sound p (HOS.out.s.sub p (by simp)))
        clear hown2 hpop hlO
        obtain ⟨ps, pt⟩ := p
        dsimp only at p0 p1
        have hO1 : 0 < O1.length + 1 := by omega
        have hO2 : O1.length ≤ 960 := by omega
        have HLR := hide hlR
        clear hlR
        obtain ⟨W1, hW1⟩ : ∃ W1 : World, wr.alloc (.cells #[.int .i64 ps, .int .i64 pt] 112) = W1 := ⟨_, rfl⟩
        have hb1 : Below wr.heap.size wr W1 := by rw [← hW1]; exact (Below.refl _ _).alloc (Nat.le_refl _) _
        have HNEW := hide (new_at hW1)
        have HW1 := hide hW1
        clear hW1
        gi_upto_region 13 with (fail)
        rw [HW1.out]
        have HRX1 := hide (HRX.out.below hb1)
        have hown1 : W1.ownsRow w.heap.size 112 2 (.slice (some ⟨g0, 0, none⟩) O1.length cO) O1.length (encPs O1) := own_block HPOP.out fun g hg => hb1.block g (own_ob HPOP.out g hg).2
        have o1 := (hb1.cell (p := ⟨w.heap.size + 1 + 1 + 1, 0, none⟩) (World.block_lt_of_cell? _ _ o0)).trans o0
        have HOPEN := hide (rbx_pop HRX1.out hown1 HNEW.out (by omega))
        have of1 := HOPEN.out.1
        have HB1 := hide (bstep HBR.out hb1)
        have HMK1 := hide (HMK.out.keep fun D hD => (hb1.block D (Array.getElem?_eq_some_iff.1 hD).1).trans hD)
        have hsz1 : wr.heap.size < W1.heap.size := box_lt HNEW.out
        have HEO := hide HOS.out.pop
        have hB5 := box_lt HRX.out.a
        generalize hBt : wr.heap.size = Bt at *
        have HBT := hide hBt
        clear hBt o0 of0 p0 p1 m0 hb1 HPOP hown1 HRX HMK HBR
        gi_upto_region 14 with (fail)
        obtain ⟨W2, hW2⟩ : ∃ W2, W1.setCell ⟨w.heap.size + 1 + 1 + 1, 0, none⟩ (.slice (some ⟨g0, 0, none⟩) O1.length cO) = W2 := ⟨_, rfl⟩
        have HO2 := HOPEN.out.2
        rw [hW2] at HO2 ⊢
        obtain ⟨hrx2, hat2, hobA⟩ := HO2
        have hb2 : Below w.heap.size w W2 := by rw [← hW2]; exact HB1.out.setCell (p := ⟨w.heap.size + 1 + 1 + 1, 0, none⟩) (by simp; omega) _
        have hmk2 : Marked W2 w.heap.size Ds := by
          rw [← hW2]
          refine HMK1.out.keep fun D hD => ?_
          rw [Below.heap_setCell _ _ _ _ fun e => ?_]
          · exact hD
          · obtain ⟨c, hbo, _⟩ := HRX1.out.r.bo
            have h1 : D = w.heap.size + 1 + 1 + 1 := e
            rw [h1, hbo] at hD
            cases hD
        have x0 := hrx2.x
        rw [HEX.out] at x0
        obtain ⟨-, -, -, c3, -, -, -⟩ := box7 x0
        have HRX2 := hide hrx2
        have HAT2 := hide hat2
        have HB2 := hide hb2
        have HMK2 := hide hmk2
        have HOBA := hide hobA
        clear hrx2 hat2 hb2 hmk2 hobA hW2 x0 HRX1 HOPEN HB1 HMK1 HNEW HW1 o1 of1 hsz1 HBT hg0' 
        gi_wp2_with fail
        refine wpIn_loop_ghost_k (fun g' a w' => ∃ k : Nat, ∃ u ds, a = { tmps := fr3 w.heap.size Bt (.slice AX edges.length cX) (edges.length : Int) (k : Int) u, defers := ds } ∧ EdgRel x' st w (ps, pt) (R.length - O1.length) Bt R.length k g' ds w') edges.length ⟨0, fr3_ex ⟨Ds, some ⟨g0, 0, none⟩, R, O1, rfl, HMK2.out, HEO.out, HRX2.out, HAT2.out, HOBA.out, HB2.out, by omega, by rw [← HX.out]; exact Nat.zero_le _, by rw [← HX.out]; rfl⟩⟩ ?_
        clear HRX2 HAT2 HB2 HMK2 HOBA HEO c3 W2 W1
        clear wr Ds
        rintro g3 a wr ⟨k, u3, ds, rfl, Ds, A, R2, O2, rfl, hmk, hes, hrx, hat, hoa, hbr, hr0, hkl, hg3⟩ J3 K3 hJ3 hK3
        have HJ3 := hide hJ3
        have HK3 := hide hK3
        have HMK := hide hmk
        have HES := hide hes
        have HRX := hide hrx
        have HAT := hide hat
        have HOA := hide hoa
        have HBR := hide hbr
        have HR0 := hide hr0
        have HG3 := hide hg3
        have hk' : k ≤ edges.length := by rw [← HX.out] at hkl; exact hkl
        clear hJ3 hK3 hmk hes hrx hat hoa hbr hr0 hkl hg3
        unfold fr3
        by_cases hlt : k < edges.length
        · obtain ⟨be, oe, bv, ov, j, s, f, t, wh, lo, hi, ea⟩ := edge_at HOK.out (HM.out.step HBR.out) (k := k) (by rw [← HX.out]; exact hlt)
          have ax := ea.ax
          have av := ea.av
          rw [← HX.out] at ax av
          dsimp only at ax av
          subst ax av
          obtain ⟨sA, sc, l⟩ := s
          have EA := hide ea
          obtain ⟨-, -, get, e0, e1, e2, e3, e4, e5, -, -, -, hnth, get2, len, hincr, eok, hbe, hbv⟩ := ea
          have GET := hide get
          have NTH := hide hnth
          have GET2 := hide get2
          have INC := hide hincr
          have EOK := hide eok
          dsimp only at len
          clear get hnth get2 hincr eok
          obtain ⟨V1, hV1⟩ : ∃ V1 : World, wr.alloc (.cells #[.int .i64 f, .int .i64 t, .int .i64 (j : Int), .int .i64 wh, .int .i64 lo, .int .i64 hi] 81) = V1 := ⟨_, rfl⟩
          have g1 := new_at hV1
          have hb1 : Below wr.heap.size wr V1 := by rw [← hV1]; exact (Below.refl _ _).alloc (Nat.le_refl _) _
          have HR1 := hide (HRX.out.below hb1)
          have HB1 := hide (bstep HBR.out hb1)
          have at1 := (hb1.block _ (box_lt HAT.out)).trans HAT.out
          have HAT1 := hide at1
          have HMK1 := hide (HMK.out.keep fun D hD => (hb1.block D (Array.getElem?_eq_some_iff.1 hD).1).trans hD)
          obtain ⟨f0, f1, f2, f3, f4, f5⟩ := box6 g1
          obtain ⟨a0, a1, -, -⟩ := box2 at1
          have u0 := HR1.out.x
          rw [HEX.out] at u0
          obtain ⟨x0, x1, x2, x3, x4, x5, x6⟩ := box7 u0
          have HG1 := hide g1
          have HV1 := hide hV1
          have hkn : k + 1 ≤ x'.a.edges.length := by rw [← HX.out]; exact hlt
          have HKN := hide hkn
          clear hkn hV1 g1 u0 hb1 at1 HMK HBR HAT EA
          gi_upto_region 17 with (fail)
          rw [HV1.out]
          have hB4 := box_lt HRX.out.a
          generalize wr.heap.size = Be at *
          clear e0 e1 e2 e3 e4 e5 HV1 HRX
          by_cases hfp : f = ps
          · have T1 : (f != ps) = false := by simp [hfp]
            have HFP := hide hfp
            clear hfp
            have hen : x'.en = en := by rw [← HX.out]
            have hpt1 : 0 ≤ pt := by have := HPR.out.time (fun e he => (HOK.out.edge e he).l0); have := hst.1; dsimp only at *; omega
            have hpt2 : pt ≤ en := by have := HPR.out.end_ (by rw [hen]; exact hst.2); rw [hen] at this; exact this
            have hlo1 := EOK.out.l0
            have hlo2 := EOK.out.lh
            have hlo3 := EOK.out.h1
            dsimp only at hlo1 hlo2 hlo3
            have HEN := hide hen
            clear hen
            gi_wp2_with fail
            have ht := times_any x' j (List.getElem?_eq_some_iff.1 GET2.out).1 (j : Int) (pt + lo) (min (pt + hi) en) rfl V1 (HM.out.step HB1.out) (by rw [(List.getElem?_eq_some_iff.1 GET2.out).2]; dsimp only; omega) (by rw [(List.getElem?_eq_some_iff.1 GET2.out).2]; exact INC.out.1) (by rw [← HX.out]; dsimp only; omega)
            rw [HEX.out, (List.getElem?_eq_some_iff.1 GET2.out).2] at ht
            dsimp only at ht
            refine ⟨trivial, (callsIn_wide.2 ht).mono ?_⟩
            clear ht
            rintro e w4 ⟨Bi, Bl, Bq, rfl, hb4, hBi, hBl, hBq, hne1, hne2, tb⟩
            have HR4 := hide (HR1.out.below hb4)
            have HB4 := hide (bstep HB1.out hb4)
            have HAT4 := hide ((hb4.block _ (box_lt HAT1.out)).trans HAT1.out)
            have HG4 := hide ((hb4.block _ (box_lt HG1.out)).trans HG1.out)
            have HMK4 := hide (HMK1.out.keep fun D hD => (hb4.block D (Array.getElem?_eq_some_iff.1 hD).1).trans hD)
            have HTB := hide tb
            have HBI := hide (And.intro hBi (And.intro hBl hBq))
            have HNE := hide (And.intro hne1 hne2)
            have hz4 : V1.heap.size ≤ w4.heap.size := hb4.size
            clear tb hb4 hBi hBl hBq hne1 hne2 f0 f1 f2 f3 f4 f5 a0 a1 x0 x1 x2 x3 x4 x5 x6
            gi_wp2_with fail
            refine fr4_gen (C := fun a => Code.wpIn Fence.wide 6 Try.prog _ _ a _) (fun u4 => ?_)
            obtain ⟨F, hF⟩ : ∃ F : RFix, F = { x := x', st := st, w := w, p := (ps, pt), m := R.length - O1.length, k := k, e := ⟨f, t, (j : Int), wh, lo, hi⟩, Bt := Bt, Be := Be, Bi := Bi, Bl := Bl, Bq := Bq, vl := .slice sA l.length sc, vq := .int .i64 (min (pt + hi) en), Ds := Ds, r0 := R.length, zl := w4.heap.size } := ⟨_, rfl⟩
            have hsp := box_lt HR1.out.a
            have hlt1 := box_lt HAT1.out
            have hlt2 := box_lt HG1.out
            have hFok : RFixOk F := by
              rw [hF]
              obtain ⟨h1, h2, h3⟩ := HBI.out
              obtain ⟨h4, h5⟩ := HNE.out
              exact ⟨by dsimp only; omega, HMK4.out.lt, by dsimp only; omega, by dsimp only; omega, by dsimp only; omega, by dsimp only; omega, by dsimp only; omega, h4, h5, by dsimp only; omega, by dsimp only; omega, GET.out, HFP.out⟩
            have hF0 : RI F [] w4 := by
              rw [hF]
              exact ⟨A, R2, O2, ⟨HES.out, by simp⟩, HR4.out, HAT4.out, HOA.out, HG4.out, HMK4.out, HB4.out, HR0.out, ⟨_, HTB.out.i⟩, HTB.out.l, HTB.out.t⟩
            have hzl : F.zl = w4.heap.size := by rw [hF]
            have hFbi : F.Bi = Bi := by rw [hF]
            have OWN := hide (show OwnFrom w4.heap.size (RI F) by rw [← hzl]; exact ri_own hFok)
            have OWNX := hide (show ∀ c, OwnFrom w4.heap.size (RIx F c) by intro c; rw [← hzl]; exact rix_own hFok c)
            have FREE := hide (show BoxFree Bi (RI F) by rw [← hFbi]; exact ri_free hFok)
            have FREEX := hide (show ∀ c, BoxFree Bi (RIx F c) by intro c; rw [← hFbi]; exact rix_free hFok c)
            have HFOK := hide hFok
            have HF0 := hide hF0
            have HF := hide hF
            have hlB := box_lt HTB.out.i
            have hlL := box_lt HTB.out.l
            have hlQ := box_lt HTB.out.t
            have HZ := hide (show w.heap.size ≤ w4.heap.size by have := HB4.out.size; exact this)
            clear hFok hF0 hF hzl hFbi hsp hlt1 hlt2
            unfold fr4
            refine range_box (n := 6) (by omega) (gf := 100) (lb := #[.pointer (some ⟨Bi, 0, none⟩), .pointer (some ⟨Bl, 0, none⟩), .pointer (some ⟨Bq, 0, none⟩)]) rfl (enters_of Try.func100 (by kernel_rfl) rfl) hlB
              (times_box 5 w.heap.size Bi Bl Bq sA sc (l.countP (· < pt + lo)) l (min (pt + hi) en) (by omega) (by omega) (by have := HBI.out.1; have := HB1.out.size; omega) HNE.out.1 HNE.out.2 w4 HZ.out HTB.out (List.countP_le_length) ((HM.out.ev.each ⟨sA, sc, l⟩ (List.mem_of_getElem? GET2.out)).below HB4.out))
              (fun h k => h.trans k) (fun W l' o o' h1 _ _ _ => ⟨fun b hb => World.putObj_heap_other (by have := HZ.out; omega), World.putObj_heap_other (by omega), World.putObj_heap_other (by omega), World.putObj_heap_other (by omega)⟩) (fun _ => rfl)
              (fun pre W => RI F (vals pre) W) (fun c pre W => RIx F c (vals pre) W) (fun s X Y row h1 h2 h3 => OWN.out (vals s) X Y row h1 h2 h3) (fun c s X Y row h1 h2 h3 => OWNX.out c (vals s) X Y row h1 h2 h3) (fun s X h1 => FREE.out (vals s) X h1) (fun c s X h1 => FREEX.out c (vals s) X h1) HF0.out
              (fun tx => { tmps := fr5 w.heap.size Bt (.slice (some ⟨be, oe, none⟩) edges.length cX) (edges.length : Int) (k : Int) Be (.func (.func 100) #[] #[.pointer (some ⟨Bi, 0, none⟩), .pointer (some ⟨Bl, 0, none⟩), .pointer (some ⟨Bq, 0, none⟩)]) tx.1 u4, defers := [] })
              ?assign ?body ?done ?stop
            case assign =>
              intro lp tx W K hKx
              unfold fr5 at hKx
              unfold tEnc
              gi_wp2
              exact hKx
            case body =>
              have hwh : wh = -1 ∨ ∃ kc : Nat, ∃ hk : kc < x'.cs.length, wh = (kc : Int) ∧ Norm x'.cs[kc].xs := by
                by_cases hw : wh = -1
                · exact .inl hw
                · obtain ⟨kc, h1, h2, _⟩ := HOK.out.cond (List.mem_of_getElem? GET.out) (by exact hw)
                  exact .inr ⟨kc, h1, h2, HNM.out _ (List.getElem_mem h1)⟩
              have HWH := hide hwh
              clear hwh
              rintro lp pre tx W hlp hlW ⟨A3, R3, O3, htm, hc⟩ hlen
              have hxm := (upTo_mem INC.out.1).1 tx.2
              have htx1 : 0 ≤ tx.1 := (INC.out.2 _ hxm.1).1
              have htx2 : tx.1 ≤ en := by have := hxm.2.2; omega
              have HC := hide hc
              have HTM := hide htm
              have hFb : F.w = w ∧ F.Bt = Bt ∧ F.Be = Be ∧ F.x = x' ∧ F.p = (ps, pt) ∧ F.e = ⟨f, t, (j : Int), wh, lo, hi⟩ := by rw [HF.out]; exact ⟨rfl, rfl, rfl, rfl, rfl, rfl⟩
              obtain ⟨q1, q2, q3, q4, q5, q6⟩ := hFb
              have ux := hc.b.x
              have ua := box_cell hc.b.a
              have ue := hc.e
              have ut := hc.t
              have hbel := hc.bel
              rw [q1, q4, HEX.out] at ux
              rw [q1] at ua hbel
              rw [q3, q6] at ue
              rw [q2, q5] at ut
              obtain ⟨x0, x1, x2, x3, x4, x5, x6⟩ := box7 ux
              obtain ⟨f0, f1, f2, f3, f4, f5⟩ := box6 ue
              obtain ⟨a0, a1, -, -⟩ := box2 ut
              dsimp only at f0 f1 f2 f3 f4 f5 a0 a1
              have HQ := hide (And.intro q1 (And.intro q2 (And.intro q3 (And.intro q4 (And.intro q5 q6)))))
              have hh := holds_any x' wh pt tx.1 HWH.out W (HM.out.step hbel) ⟨hpt1, by omega⟩ ⟨htx1, by omega⟩ (by have := HOK.out.ncs; omega)
              rw [HEX.out] at hh
              have HH := hide hh
              have HXM := hide hxm
              clear hh ux ue ut hc htm q1 q2 q3 q4 q5 q6 hxm hbel
              unfold fr5
              gi_wp2_with fail
              refine ⟨trivial, (CallsIn.inRound lp (callsIn_wide.2 HH.out)).mono ?_⟩
              rintro e W1 ⟨bb, rfl, hbb, hbW⟩
              have HBB := hide hbb
              have HBW := hide hbW
              have HUA := hide (show W1.cell? ⟨w.heap.size + 1 + 1 + 1 + 1, 0, none⟩ = _ from (hbW.cell (p := ⟨w.heap.size + 1 + 1 + 1 + 1, 0, none⟩) (World.block_lt_of_cell? _ _ ua)).trans ua)
              have HF1 := hide (show W1.cell? ⟨Be, 1, none⟩ = _ from (hbW.cell (p := ⟨Be, 1, none⟩) (World.block_lt_of_cell? _ _ f1)).trans f1)
              clear hbb hbW ua f0 f1 f2 f3 f4 f5 a0 a1 x0 x1 x2 x3 x4 x5 x6 HH
              cases bb with
              | false =>
                have hnot : ¬ HoldW F.x.inp.cs F.e.while_ F.p.2 tx.1 := by
                  obtain ⟨q1, q2, q3, q4, q5, q6⟩ := HQ.out
                  rw [q4, q5, q6]
                  intro h
                  have h9 := HBB.out.2 h
                  cases h9
                have HR := hide (show RIx F (.exit 6) (vals (pre ++ [tx])) W1 from ⟨A3, R3, O3, vals pre, tx.1, rfl, by simp, HTM.out, hnot, HC.out.below HBW.out⟩)
                clear hnot
                gi_wp2_with fail
                exact ⟨below_keeps HBW.out, HR.out⟩
              | true =>
                have a1 := HUA.out
                have f1 := HF1.out
                have hrs : RSt W1 w.heap.size (w.heap.size + 1 + 1) (w.heap.size + 1) (w.heap.size + 1 + 1 + 1) A3 R3 O3 := by
                  have h9 := (HC.out.below HBW.out).b.r
                  rw [HQ.out.1] at h9
                  exact h9
                have HRS := hide hrs
                have hlr := HTM.out.h.s.len (by rw [HQ.out.2.2.2.1]; exact HU.out)
                have HLR3 := hide hlr
                clear hrs hlr
                gi_wp2_with fail
                refine ⟨trivial, (CallsIn.inRound lp (callsIn_wide.2 (madd_any w.heap.size (w.heap.size + 1 + 1) (w.heap.size + 1) (w.heap.size + 1 + 1 + 1) A3 R3 O3 t tx.1 W1 HRS.out (by omega) (by omega) ?c1 ?c2 ?c3 ?c4))).mono ?_⟩
                case c1 => have := EOK.out.ft; have := EOK.out.f0; have := EOK.out.tn; have := HOK.out.fin; dsimp only at *; unfold I64; omega
                case c2 => unfold I64; omega
                case c3 => have := HLR3.out.1; omega
                case c4 => have := HLR3.out.1; have := HLR3.out.2; omega
                intro e W2 hp
                have HGO := hide (show GoesW F.x.inp F.x.en F.e F.p.2 tx.1 from by
                  obtain ⟨q1, q2, q3, q4, q5, q6⟩ := HQ.out
                  rw [q4, q5, q6, HEN.out]
                  refine ⟨?_, HXM.out.2.1, ?_, htx2, HBB.out.1 trivial⟩
                  · show tx.1 ∈ nth x'.inp.ev (j : Int)
                    rw [NTH.out]
                    exact HXM.out.1
                  · have := HXM.out.2.2
                    show tx.1 ≤ pt + hi
                    omega)
                have hfin : KeepsFrom w4.heap.size W W2 ∧ KpT w.heap.size Bi Bl Bq W W2 ∧ RI F (vals pre ++ [tx.1]) W2 := by
                  have h9 := ri_add (F := F) HFOK.out HTM.out HC.out HBW.out HGO.out (e := e) (W2 := W2) (by rw [HQ.out.1, HQ.out.2.2.2.2.2]; exact hp)
                  rw [HQ.out.1] at h9
                  have e1 : F.zl = w4.heap.size ∧ F.Bi = Bi ∧ F.Bl = Bl ∧ F.Bq = Bq := by rw [HF.out]; exact ⟨rfl, rfl, rfl, rfl⟩
                  rw [e1.1, e1.2.1, e1.2.2.1, e1.2.2.2] at h9
                  exact h9
                obtain ⟨rfl, -⟩ := hp
                have HFIN := hide hfin
                clear hfin a1 f1
                gi_wp2_with fail
                exact ⟨HFIN.out.1, HFIN.out.2.1, by have := HFIN.out.2.2; simpa using this⟩
            case done =>
              rintro D xs W hD hxs ⟨A3, R3, O3, htm, hc⟩ hDm
              have hF := HF.out
              subst hF
              obtain ⟨c1, c2, c3, c4, c5, c6, c7, -, -, -⟩ := hc
              dsimp only at c1 c2 c3 c4 c5 c6 c7 htm
              have htms : vals xs = tms x'.inp x'.en ⟨f, t, (j : Int), wh, lo, hi⟩ pt := by
                rw [hxs]
                unfold tms
                dsimp only
                rw [NTH.out, HEN.out]
              rw [htms] at htm
              have HE := hide (htm.done (by dsimp only; rw [NTH.out]; exact INC.out.1) GET.out)
              have HM3 := hide (c5.cons (show w.heap.size ≤ D by have := HZ.out; omega) hDm (fun E hE => Nat.lt_of_lt_of_le (HMK4.out.lt E hE) hD))
              have HC1 := hide c1
              have HC2 := hide c2
              have HC3 := hide c3
              have HC6 := hide c6
              have HC7 := hide c7
              clear c1 c2 c3 c4 c5 c6 c7 htms htm hxs hDm HF OWN OWNX FREE FREEX HFOK HF0
              gi_wp2_with fail
              exact HK3.out _ _ ⟨_, by have := HG3.out; have := HKN.out; omega, HJ3.out _ _ _ ⟨k + 1, fr3_ex ⟨D :: Ds, A3, R3, O3, rfl, HM3.out, HE.out, HC1.out, HC2.out, HC3.out, HC6.out, HC7.out, HKN.out, rfl⟩⟩⟩
            case stop =>
              rintro D c xs W hD hxs ⟨A3, R3, O3, ini, tx, rfl, hpre, htm, hno, hc⟩ hDm
              have hF := HF.out
              subst hF
              obtain ⟨c1, c2, c3, c4, c5, c6, c7, -, -, -⟩ := hc
              dsimp only at c1 c2 c3 c4 c5 c6 c7 htm hno
              have htms : ini ++ [tx] <+: tms x'.inp x'.en ⟨f, t, (j : Int), wh, lo, hi⟩ pt := by
                rw [← hpre]
                unfold tms
                dsimp only
                rw [NTH.out, HEN.out]
                exact hxs
              have HE := hide (htm.stop (by dsimp only; rw [NTH.out]; exact INC.out.1) GET.out htms hno)
              have HM3 := hide (c5.cons (show w.heap.size ≤ D by have := HZ.out; omega) hDm (fun E hE => Nat.lt_of_lt_of_le (HMK4.out.lt E hE) hD))
              have HC1 := hide c1
              have HC2 := hide c2
              have HC3 := hide c3
              have HC6 := hide c6
              have HC7 := hide c7
              clear c1 c2 c3 c4 c5 c6 c7 htms htm hxs hDm HF OWN OWNX FREE FREEX HFOK HF0 hpre hno
              gi_wp2_with fail
              exact HK3.out _ _ ⟨_, by have := HG3.out; have := HKN.out; omega, HJ3.out _ _ _ ⟨k + 1, fr3_ex ⟨D :: Ds, A3, R3, O3, rfl, HM3.out, HE.out, HC1.out, HC2.out, HC3.out, HC6.out, HC7.out, HKN.out, rfl⟩⟩⟩
          · have T1 : (f != ps) = true := by rw [bne_iff_ne]; exact hfp
            have HN := hide (HES.out.next GET.out fun h => absurd h hfp)
            clear hfp
            gi_wp2_with fail
            exact HK3.out _ _ ⟨_, by have := HG3.out; have := HKN.out; omega, HJ3.out _ _ _ ⟨k + 1, fr3_ex ⟨Ds, A, R2, O2, rfl, HMK1.out, HN.out, HR1.out, HAT1.out, HOA.out, HB1.out, HR0.out, HKN.out, rfl⟩⟩⟩
        · have hke : k = edges.length := by omega
          subst hke
          have HOU := hide (show OutSt x'.inp st x'.en R2 O2 from EdgSt.out (by have := HES.out; rw [← HX.out] at this ⊢; exact this))
          have HLE := hide (HES.out.s.len HU.out)
          gi_wp2_with fail
          refine HK.out _ _ ⟨2 * (960 - R2.length) + O2.length, ?_, HJ.out _ _ _ (fr2_ex ⟨Ds, A, R2, O2, rfl, HMK.out, HOU.out, HRX.out, HBR.out, Nat.le_refl _⟩)⟩
          have h1 := HG.out
          have h2 := HES.out.len
          have h3 := HR0.out
          have h4 := HLE.out
          have h5 := HLR.out
          rw [List.length_append] at h1
          simp only [List.length_cons, List.length_nil] at h1
          omega

end Go.Proofs.Ytkbiefklilelmaa
