/-
  Several texts in one: LawParts, LiftParts, MatchPartsProof. Each says at its head what it holds.
-/
import Derived.Test.YtkbiefklilelmaaMP17
import Derived.Test.YtkbiefklilelmaaMP16

/-
  wavestorelaw55.MatchParts: true.
-/
namespace Go.Proofs.Ytkbiefklilelmaa
open Go.RowKit

theorem six_way : ∀ t1 t2 t3 t4 t5 t6 : Bool, t1 = true ∨ (t1 = false ∧ t2 = true) ∨ (t1 = false ∧ t2 = false ∧ t3 = true) ∨ (t1 = false ∧ t2 = false ∧ t3 = false ∧ t4 = true) ∨ (t1 = false ∧ t2 = false ∧ t3 = false ∧ t4 = false ∧ t5 = true) ∨ (t1 = false ∧ t2 = false ∧ t3 = false ∧ t4 = false ∧ t5 = false ∧ t6 = true) ∨ (t1 = false ∧ t2 = false ∧ t3 = false ∧ t4 = false ∧ t5 = false ∧ t6 = false) := by
  intro t1 t2 t3 t4 t5 t6
  cases t1 <;> cases t2 <;> cases t3 <;> cases t4 <;> cases t5 <;> cases t6 <;> simp
def PartsFew (a : Aut) (ev : List SlI) (cs : List SlV) (from_ to_ first last en by_ : Int) : Prop := FewAll a ev cs ∧ from_ ≤ first ∧ last ≤ to_ ∧ first ≤ last ∧ en ≤ 1000 ∧ 0 ≤ by_ ∧ by_ ≤ 1000

set_option maxRecDepth 100000 in
set_option maxHeartbeats 8000000 in
theorem lawParts (a : Aut) (evs cds : List Nd) (AV AC' : Option Addr) (cV cC' : Nat) (ev : List SlI) (cs : List SlV) (from_ to_ first last en by_ : Int) (w : World) (ha : AutAt w (Lo w.heap.size) a) (ht : AutTrees w a evs cds) (hle : AutLe a) (hev : EvAt w AV ev) (hcs : CsAt w AC' cs)
    (b1 : ev.length ≤ 140737488355328) (b2 : cs.length ≤ 140737488355328) (b3 : ∀ s ∈ ev, s.xs.length ≤ 140737488355328) (b4 : ∀ s ∈ cs, s.xs.length ≤ 140737488355328) :
    Calls Try.prog 11 #[.agg (encA a).toArray, .slice AV ev.length cV, .slice AC' cs.length cC', .int .i64 from_, .int .i64 to_, .int .i64 first, .int .i64 last, .int .i64 en, .int .i64 by_] w (fun e w' => e = .returned (.bool true) ∧ Below w.heap.size w w') := by
  obtain ⟨W0, hW0⟩ : ∃ W0, w.alloc (.cells (encA a).toArray 50) = W0 := ⟨_, rfl⟩
  have g0 := new_at hW0
  have hb0 : Below w.heap.size w W0 := by rw [← hW0]; exact (Below.refl _ _).alloc (Nat.le_refl _) _
  have HB0 := hide hb0
  have HFEW := hide (few_any a evs cds AV AC' cV cC' ev cs W0 (ht.grow hb0) hle (hev.step hb0) (hcs.step hb0) b1 b2 b3 b4)
  have HRUN := hide (fun (hf : FewAll a ev cs) (f' t' : Int) (U : World) (hU : Below W0.heap.size W0 U) => (run_any a AV cV ev AC' cC' cs f' t' en U ((ha.grow hb0).grow hU) hle ((hev.step hb0).step hU) ((hcs.step hb0).step hU) hf.1 hf.2.1 hf.2.2.1 hf.2.2.2.1 fun s hs => by have := hf.2.2.2.2 s hs; omega).mono fun e w' h => RunPost.r h)
  have HRUN2 := hide (fun (U : World) (hU : Below W0.heap.size W0 U) (A : Option Addr) (c : Nat) (ls : List SlI) (A' : Option Addr) (c' : Nat) (cs' : List SlV) (hf : FewAll a ev cs) (h1 : EvAt U A ls) (h2 : CsAt U A' cs') (hk : EvK ev en by_ ev.length ls) (hk' : CsK cs by_ cs.length cs') (f' t' en' : Int) => (run_any a A c ls A' c' cs' f' t' en' U ((ha.grow hb0).grow hU) hle h1 h2 hf.1 (by have := (ev_few hk hf.2.2.2.1).1; have := hf.2.1; omega) (by have := (cs_few hk').1; have := hf.2.2.1; omega) (ev_few hk hf.2.2.2.1).2 (cs_few hk').2).mono fun e w' h => RunPost.r h)
  have HEV := hide (hev.step hb0)
  have HCS := hide (hcs.step hb0)
  obtain ⟨a', ha'⟩ : ∃ a', a = a' := ⟨_, rfl⟩
  rw [ha'] at HFEW HRUN HRUN2 hW0 g0 ⊢
  obtain ⟨AE, nE, cE, AC, nC, cC, AF, cF, fin, AX, cX, edges⟩ := a
  have hX : encA a' = [.slice AE nE cE, .slice AC nC cC, .slice AF fin.length cF, .slice AX edges.length cX] := by rw [← ha']; rfl
  rw [hX] at HFEW HRUN HRUN2 hW0 g0 ⊢
  have HW0 := hide hW0
  have HG0 := hide g0
  obtain ⟨y0, y1, y2, y3, -⟩ := box4 g0
  clear ha' hX hW0 g0 hb0 ha ht hle hev hcs b1 b2 b3 b4
  go_enter Try.func11, Try.ntmps11
  go_upto_region 1 with (fail)
  rw [HW0.out]
  go_cut [67] (fun v wx => ∃ z : Bool, v = .bool z ∧ Below W0.heap.size W0 wx ∧ (z = false → PartsFew a' ev cs from_ to_ first last en by_))
  case first =>
    obtain ⟨t1, T1⟩ : ∃ t1, decide (first < from_) = t1 := ⟨_, rfl⟩
    obtain ⟨t2, T2⟩ : ∃ t2, decide (to_ < last) = t2 := ⟨_, rfl⟩
    obtain ⟨t3, T3⟩ : ∃ t3, decide (last < first) = t3 := ⟨_, rfl⟩
    obtain ⟨t4, T4⟩ : ∃ t4, decide (1000 < en) = t4 := ⟨_, rfl⟩
    obtain ⟨t5, T5⟩ : ∃ t5, decide (by_ < 0) = t5 := ⟨_, rfl⟩
    obtain ⟨t6, T6⟩ : ∃ t6, decide (1000 < by_) = t6 := ⟨_, rfl⟩
    have HT := hide (show t1 = false → t2 = false → t3 = false → t4 = false → t5 = false → t6 = false → from_ ≤ first ∧ last ≤ to_ ∧ first ≤ last ∧ en ≤ 1000 ∧ 0 ≤ by_ ∧ by_ ≤ 1000 from fun e1 e2 e3 e4 e5 e6 => by
      subst e1 e2 e3 e4 e5 e6
      have := of_decide_eq_false T1
      have := of_decide_eq_false T2
      have := of_decide_eq_false T3
      have := of_decide_eq_false T4
      have := of_decide_eq_false T5
      have := of_decide_eq_false T6
      omega)
    rcases six_way t1 t2 t3 t4 t5 t6 with rfl | ⟨rfl, rfl⟩ | ⟨rfl, rfl, rfl⟩ | ⟨rfl, rfl, rfl, rfl⟩ | ⟨rfl, rfl, rfl, rfl, rfl⟩ | ⟨rfl, rfl, rfl, rfl, rfl, rfl⟩ | ⟨rfl, rfl, rfl, rfl, rfl, rfl⟩
    all_goals as_aux_lemma =>
      go_wp2_with (
         go_at_call 30
         refine HFEW.out.mono ?_
         rintro e w2 ⟨y, rfl, hb2, hy⟩
         have HB2 := hide hb2
         have HY := hide hy
         clear hb2 hy
         cases y)
      all_goals go_meet
      all_goals exact ⟨_, rfl, HB2.out, fun e => by first | (cases e; done) | exact ⟨by first | exact HY.out rfl | exact HY.out trivial | exact HY.out, by first | exact HT.out rfl rfl rfl rfl rfl rfl | exact HT.out trivial trivial trivial trivial trivial trivial | exact HT.out⟩⟩
  case rest =>
    obtain ⟨z, rfl, hbc, hz⟩ := hcut
    have HBC := hide hbc
    have HZ := hide hz
    clear hbc hz y0 y1 y2 y3
    cases z with
    | true =>
      go_wp2_with (go_at_call 31; refine (awake55 _).mono ?_; rintro e w3 ⟨rfl, hb3⟩; have HB3 := hide (bstep (bstep HB0.out HBC.out) hb3); clear hb3)
      go_ret
      exact ⟨rfl, HB3.out⟩
    | false =>
      obtain ⟨hfew, f1, f2, f3, f4, f5, f6⟩ := HZ.out rfl
      have HF := hide hfew
      clear hfew HZ HFEW
      have HR1 := hide (HRUN.out HF.out from_ to_ wc HBC.out)
      obtain ⟨y0, y1, y2, y3, -⟩ := box4 ((HBC.out.block _ (box_lt HG0.out)).trans HG0.out)
      go_upto_region 4 with (go_at_call 32; refine HR1.out.mono ?_; rintro e u1 ⟨A1, c1, xs, r1, rfl, hx1, hl1, hb1, hr1⟩; have HX1 := hide hx1; have HB1 := hide hb1; have HRR1 := hide hr1; clear hx1 hb1 hr1)
      have HBU1 := hide (bstep HBC.out HB1.out)
      have HBW1 := hide (bstep HB0.out HBU1.out)
      have HR2 := hide (HRUN.out HF.out first last u1 HBU1.out)
      clear y0 y1 y2 y3 HR1
      rcases HRR1.out with ⟨h1, _⟩ | ⟨h1, hp, hrun1⟩
      · subst h1
        go_wp2_with (go_at_call 31; refine (awake55 _).mono ?_; rintro e w3 ⟨rfl, hb3⟩; have HB5 := hide (bstep HBW1.out hb3); clear hb3)
        go_ret
        exact ⟨rfl, HB5.out⟩
      · subst h1
        have HPO := hide hp
        have HRN1 := hide hrun1
        have HTM := hide (run_times hp hrun1)
        have HPO2 := hide (prep_part hp f1 f3 f2)
        have hf0 : 0 ≤ from_ ∧ from_ ≤ to_ ∧ to_ ≤ en := by
          have hb := hp.1
          unfold prepB at hb
          rw [Bool.and_eq_true, decide_eq_true_iff] at hb
          omega
        clear hp hrun1 HRR1
        obtain ⟨y0, y1, y2, y3, -⟩ := box4 ((HBU1.out.block _ (box_lt HG0.out)).trans HG0.out)
        go_upto_region 7 with (go_at_call 32; refine HR2.out.mono ?_; rintro e u2 ⟨A2, c2, ys, r2, rfl, hx2, hl2, hb2, hr2⟩; have HX2 := hide hx2; have HB2 := hide hb2; have HRR2 := hide hr2; clear hx2 hb2 hr2)
        have HBU2 := hide (bstep HBU1.out HB2.out)
        clear y0 y1 y2 y3 HR2 HRUN
        rcases HRR2.out with ⟨h2, hno⟩ | ⟨h2, _, hrun2⟩
        · exact absurd HPO2.out hno
        · subst h2
          have HRN2 := hide hrun2
          have HXS := hide (HX1.out.step HB2.out)
          clear hrun2 HRR2 HPO2 HX1
          go_wp2_with fail
          go_loopw [22, 23, 94] (fun part moved i wr => PartRel xs first last by_ u2 part moved i wr) (fun _ _ i _ => xs.length - (intOf i).toNat)
          case atStart => exact ⟨0, none, none, 0, 0, [], [], Nat.zero_le _, rfl, rfl, rfl, TwoOc.nil _ _, PartK.nil, Below.refl _ _⟩
          case round =>
            obtain ⟨k, A3, A4, c3, c4, ps, ms, hk, rfl, rfl, rfl, htwo, hpk, hbr⟩ := hrel
            have HTWO := hide htwo
            have HPK := hide hpk
            have HBR := hide hbr
            have hlen := hpk.len
            clear htwo hpk hbr
            by_cases hlt : k < xs.length
            · obtain ⟨bx, ox, rfl, hbx, e0, e1⟩ := (HXS.out.step HBR.out).at_ hlt
              have hm := HTM.out _ (List.getElem_mem hlt)
              have HK := hide (List.getElem?_eq_getElem hlt)
              generalize xs[k] = mm at *
              obtain ⟨m1, m2⟩ := mm
              dsimp only at e0 e1 hm
              obtain ⟨U4, hU4⟩ : ∃ U4, wr.alloc (.cells #[.int .i64 m1, .int .i64 m2] 64) = U4 := ⟨_, rfl⟩
              have g4 := new_at hU4
              have hb4 : Below wr.heap.size wr U4 := by rw [← hU4]; exact (Below.refl _ _).alloc (Nat.le_refl _) _
              have HB4 := hide (bstep HBR.out hb4)
              have HT4 := hide (HTWO.out.below hb4)
              have HU4 := hide hU4
              obtain ⟨v0, v1, -, -⟩ := box2 g4
              have HG4 := hide g4
              have hs4 := HB4.out.size
              have HA3 := hide (show ∀ g, ob A3 = some g → g < wr.heap.size from fun g hg => (own_ob HTWO.out.o1 g hg).2)
              have HA4 := hide (show ∀ g, ob A4 = some g → g < wr.heap.size from fun g hg => (own_ob HTWO.out.o2 g hg).2)
              clear hU4 g4 hb4 HTWO
              go_upto_region 11 with (fail)
              rw [HU4.out]
              clear e0 e1
              generalize wr.heap.size = Bm at *
              by_cases hcp : first ≤ m1 ∧ m1 ≤ last
              · obtain ⟨hc1, hc2⟩ := hcp
                have T1 : decide (first ≤ m1) = true := decide_eq_true hc1
                have T2 : decide (m1 ≤ last) = true := decide_eq_true hc2
                have HCP := hide (show cutP first last (m1, m2) = true from by unfold cutP; rw [T1, T2]; rfl)
                go_upto_region 13 with (at_builtin; (refine append_oc rfl _ _ rfl u2.heap.size A3 c3 ps _ rfl rfl m1 m2 _ rfl rfl HT4.out.o1 (by omega) hs4 ?_); intro g5 c5 w5 ho5 hg5 hat5)
                have HT5 := hide (HT4.out.put hg5 ho5 hat5)
                have hb5 : Below u2.heap.size u2 w5 := (HB4.out.alloc hs4 _).grown hg5 (by simp; omega) (fun g hg => (own_ob HT4.out.o1 g hg).1)
                have g5m := (hg5.block _ (by simp; have := box_lt HG4.out; omega) (fun e => by have := HA3.out _ e.symm; omega)).trans (box_alloc HG4.out)
                have HPK5 := hide (HPK.out.add HK.out HCP.out)
                have HB5 := hide hb5
                have hs5 := hb5.size
                have HG5 := hide g5m
                obtain ⟨v0, v1, -, -⟩ := box2 g5m
                clear hg5 hat5 hb5 ho5 g5m
                go_upto_region 14 with (at_builtin; (refine append_oc rfl _ _ rfl u2.heap.size A4 c4 ms _ rfl rfl (m1 + by_) (m2 + by_) _ rfl rfl HT5.out.o2 (by omega) hs5 ?_); intro g6 c6 w6 ho6 hg6 hat6)
                have HN := hide (show PartRel xs first last by_ u2 (.slice (some ⟨g5, 0, none⟩) (ps.length + 1) c5) (.slice (some ⟨g6, 0, none⟩) (ms.length + 1) c6) (.int .i64 ((k : Int) + 1)) w6 from ⟨k + 1, _, _, c5, c6, ps ++ [(m1, m2)], ms ++ [(m1 + by_, m2 + by_)], hlt, by go_num, by simp, by simp, (HT5.out.symm.put hg6 ho6 hat6).symm, HPK5.out, (HB5.out.alloc hs5 _).grown hg6 (by simp; omega) (fun g hg => (own_ob HT5.out.o2 g hg).1)⟩)
                clear hg6 hat6 ho6
                go_wp2_with fail
                exact ⟨HN.out, by simp [intOf]; omega⟩
              · have HCP := hide (show cutP first last (m1, m2) = false from by
                  unfold cutP
                  rw [← Bool.not_eq_true, Bool.and_eq_true, decide_eq_true_iff, decide_eq_true_iff]
                  exact hcp)
                go_cut [107] (fun v wx => v = .bool false ∧ U4 = wx)
                case first =>
                  by_cases hc1 : first ≤ m1
                  · have T1 : decide (first ≤ m1) = true := decide_eq_true hc1
                    have T2 : decide (m1 ≤ last) = false := decide_eq_false (fun h => hcp ⟨hc1, h⟩)
                    clear hcp
                    go_wp2_with fail
                    go_meet
                    exact ⟨rfl, rfl⟩
                  · have T1 : decide (first ≤ m1) = false := decide_eq_false hc1
                    clear hcp
                    go_wp2_with fail
                    go_meet
                    exact ⟨rfl, rfl⟩
                case rest =>
                  obtain ⟨rfl, rfl⟩ := hcut
                  clear hcp
                  have HPK5 := hide (HPK.out.skip HK.out HCP.out)
                  go_upto_region 14 with (at_builtin; (refine append_oc rfl _ _ rfl u2.heap.size A4 c4 ms _ rfl rfl (m1 + by_) (m2 + by_) _ rfl rfl HT4.out.o2 (by omega) hs4 ?_); intro g6 c6 w6 ho6 hg6 hat6)
                  have HN := hide (show PartRel xs first last by_ u2 (.slice A3 ps.length c3) (.slice (some ⟨g6, 0, none⟩) (ms.length + 1) c6) (.int .i64 ((k : Int) + 1)) w6 from ⟨k + 1, _, _, c3, c6, ps, ms ++ [(m1 + by_, m2 + by_)], hlt, by go_num, rfl, by simp, (HT4.out.symm.put hg6 ho6 hat6).symm, HPK5.out, (HB4.out.alloc hs4 _).grown hg6 (by simp; omega) (fun g hg => (own_ob HT4.out.o2 g hg).1)⟩)
                  clear hg6 hat6 ho6
                  go_wp2_with fail
                  exact ⟨HN.out, by simp [intOf]; omega⟩
            · have hke : k = xs.length := by omega
              subst hke
              obtain ⟨hps, hms⟩ := HPK.out.done
              have hpy : ys = ps := by rw [hps]; exact part_law f1 f2 HRN1.out HRN2.out
              subst hpy
              have HMS := hide hms
              have HT := hide (HTWO.out)
              have hsm := (osame_any A2 A3 c2 c3 ys ys wr (HX2.out.step HBR.out) (OwnOc.ats HTWO.out.o1) (by omega) (by omega)).mono (fun e w' h => (show e = .returned (.bool true) ∧ Below wr.heap.size wr w' from by
                obtain ⟨h1, q, h2⟩ := h
                exact ⟨by rw [h1]; simp, by rw [h2]; exact below_drewN (Below.refl _ _) q⟩))
              have HSM := hide hsm
              clear hps hms hsm HTWO HPK
              go_upto_region 17 with (go_at_call 34; refine HSM.out.mono ?_; rintro e Wd ⟨rfl, hbd⟩)
              have HBD := hide (bstep HBU2.out (bstep HBR.out hbd))
              have HTD := hide (HT.out.below hbd)
              clear hbd HT HBR HSM HX2 HTM HXS
              go_wp2_with fail
              go_loopw [26, 135] (fun later i wr2 => LatRel ev en by_ Wd later i wr2) (fun _ i _ => ev.length - (intOf i).toNat)
              case atStart => exact ⟨0, none, 0, [], Nat.zero_le _, rfl, rfl, RowsI.nil _ _, EvK.nil, Below.refl _ _⟩
              case round =>
                obtain ⟨wr2, rfl⟩ : ∃ w2 : World, w2 = wr := ⟨_, rfl⟩
                obtain ⟨k, A5, c5, ls, hk2, rfl, rfl, hrows, hek, hbr2⟩ := hrel
                have HROWS := hide hrows
                have HEK := hide hek
                have HBR2 := hide hbr2
                have hlen2 : ls.length ≤ k ∧ k ≤ ls.length := by rw [hek.len]; exact ⟨Nat.le_refl _, Nat.le_refl _⟩
                have hsz2 := hbr2.size
                have hfew40 := HF.out.2.1
                clear hrows hek hbr2
                by_cases hlt : k < ev.length
                · obtain ⟨bv, ov, rfl, hbv, e0, hi⟩ := (HEV.out.step (bstep HBD.out HBR2.out)).at_ hlt
                  have hs24 := HF.out.2.2.2.1 _ (List.getElem_mem hlt)
                  have hinc := HPO.out.2 _ (List.getElem_mem hlt)
                  have HK := hide (List.getElem?_eq_getElem hlt)
                  generalize ev[k] = s at *
                  obtain ⟨sA, sc, l⟩ := s
                  dsimp only at e0 hi hs24 hinc
                  have HI := hide hi
                  have HINC := hide hinc
                  clear hi hinc
                  go_upto_block 4 with (fail)
                  clear e0
                  go_cut [29] (fun v wx => ∃ (A : Option Addr) (c : Nat) (zs : List Int), v = .slice A zs.length c ∧ OwnInt wx wr2.heap.size A c zs ∧ (zs = cutE en by_ l ∧ zs.length ≤ l.length) ∧ Below wr2.heap.size wr2 wx)
                  case first =>
                    go_wp2_with fail
                    go_loopw [29, 141] (fun v i wr3 => TimRel l en by_ wr2 v i wr3) (fun _ i _ => l.length - (intOf i).toNat)
                    case atStart => exact ⟨0, none, 0, [], Nat.zero_le _, rfl, rfl, OwnInt.nil _ _, TimK.nil, Below.refl _ _⟩
                    case round =>
                      obtain ⟨wr3, rfl⟩ : ∃ w2 : World, w2 = wr := ⟨_, rfl⟩
                      obtain ⟨j, A6, c6, zs, hj, rfl, rfl, hown, htk, hbr3⟩ := hrel
                      have HOWN := hide hown
                      have HTK := hide htk
                      have HBR3 := hide hbr3
                      have hzl := htk.len
                      have hs3 := hbr3.size
                      clear hown htk hbr3
                      by_cases hjl : j < l.length
                      · obtain ⟨bi, oi, rfl, hbi, q0⟩ := (HI.out.step HBR3.out).at_ hjl
                        have HJ := hide (List.getElem?_eq_getElem hjl)
                        have hq := HINC.out.2 _ (List.getElem_mem hjl)
                        generalize l[j] = tt at *
                        by_cases hte : tt ≤ en
                        · have T1 : decide (en < tt) = false := decide_eq_false (by omega)
                          have HTK2 := hide (HTK.out.add HJ.out hte)
                          go_wp2_with (at_builtin; (refine append_ints rfl _ _ rfl wr2.heap.size A6 c6 zs _ rfl rfl [tt + by_] 1 1 _ rfl rfl (by simp) _ _ rfl rfl (by simp) HOWN.out (by omega) hs3 ?_); intro g7 c7 w7 row7 ho7 hg7' hg7 hr7)
                          have HN := hide (show TimRel l en by_ wr2 (.slice (some ⟨g7, 0, none⟩) (zs.length + 1) c7) (.int .i64 ((j : Int) + 1)) w7 from ⟨j + 1, _, c7, zs ++ [tt + by_], hjl, by go_num, by simp, ho7, HTK2.out, (HBR3.out.alloc hs3 _).grown hg7 (by simp; omega) hr7⟩)
                          clear ho7 hg7' hg7 hr7
                          go_wp2_with fail
                          exact ⟨HN.out, by simp [intOf]; omega⟩
                        · have T1 : decide (en < tt) = true := decide_eq_true (by omega)
                          have HST := hide (HTK.out.stop HJ.out (by omega))
                          go_wp2_with fail
                          go_meet
                          exact ⟨A6, c6, zs, rfl, HOWN.out, ⟨HST.out, hzl⟩, HBR3.out⟩
                      · have hje : j = l.length := by omega
                        subst hje
                        have HST := hide HTK.out.done
                        go_wp2_with fail
                        go_meet
                        exact ⟨A6, c6, zs, rfl, HOWN.out, ⟨HST.out, hzl⟩, HBR3.out⟩
                  case rest =>
                    obtain ⟨A6, c6, zs, rfl, hown6, ⟨hzs, hzl⟩, hb6⟩ := hcut
                    have HZS := hide hzs
                    have HO6 := hide hown6
                    have HB6 := hide hb6
                    have HR6 := hide (HROWS.out.own)
                    have hown7 := own_block (w' := wc) HROWS.out.own (fun g hg => HB6.out.block g (own_ob HROWS.out.own g hg).2)
                    have HO7 := hide hown7
                    have hs6 := hb6.size
                    clear hzs hown6 hb6 hown7 HR6
                    go_upto_region 29 with (at_builtin; (refine append_cell rfl _ _ 51 36 rfl Try.underlying51 _ infoSlI rfl Wd.heap.size A5 c5 (ls.flatMap cSlI) ls.length rfl (.slice A6 zs.length c6) rfl _ rfl rfl HO7.out (by omega) (by omega) ?_); intro g8 c8 w8 ho8 hg8 hat8)
                    have HN := hide (show LatRel ev en by_ Wd (.slice (some ⟨g8, 0, none⟩) (ls.length + 1) c8) (.int .i64 ((k : Int) + 1)) w8 from ⟨k + 1, _, c8, ls ++ [⟨A6, c6, zs⟩], hlt, by go_num, by simp, HROWS.out.put hsz2 HO6.out HB6.out ho8 hg8, HEK.out.add HK.out HZS.out, grown_below HBR2.out hsz2 HB6.out hg8 (fun g hg => (own_ob HROWS.out.own g hg).1)⟩)
                    clear ho8 hg8 hat8
                    go_wp2_with fail
                    exact ⟨HN.out, by simp [intOf]; omega⟩
                · have hke : k = ev.length := by omega
                  subst hke
                  have HTE := hide (HTD.out.below HBR2.out)
                  have HBE := hide (bstep HBD.out HBR2.out)
                  clear HTD HBD
                  go_wp2_with fail
                  go_loopw [32, 162] (fun sets i wr4 => SetRel cs by_ wr2 sets i wr4) (fun _ i _ => cs.length - (intOf i).toNat)
                  case atStart => exact ⟨0, none, 0, [], Nat.zero_le _, rfl, rfl, RowsV.nil _ _, CsK.nil, Below.refl _ _⟩
                  case round =>
                    obtain ⟨wr4, rfl⟩ : ∃ w2 : World, w2 = wr := ⟨_, rfl⟩
                    obtain ⟨k, A7, c7, ds, hk3, rfl, rfl, hrv, hck, hbr4⟩ := hrel
                    have HRV := hide hrv
                    have HCK := hide hck
                    have HBR4 := hide hbr4
                    have hlen4 : ds.length ≤ k ∧ k ≤ ds.length := by rw [hck.len]; exact ⟨Nat.le_refl _, Nat.le_refl _⟩
                    have hsz4 := hbr4.size
                    have hfew41 := HF.out.2.2.1
                    clear hrv hck hbr4
                    by_cases hlt : k < cs.length
                    · obtain ⟨bv, ov, rfl, hbv, e0, hi⟩ := (HCS.out.step (bstep HBE.out HBR4.out)).at_ hlt
                      have hs12 := HF.out.2.2.2.2 _ (List.getElem_mem hlt)
                      have HK := hide (List.getElem?_eq_getElem hlt)
                      generalize cs[k] = s at *
                      obtain ⟨sA, sc, l⟩ := s
                      dsimp only at e0 hi hs12
                      have hsh := shift_any sA sc l by_ 0 3000 wr4 hi (by omega)
                      have HSH := hide hsh
                      clear hi hsh
                      go_upto_region 34 with (fail)
                      clear e0
                      go_upto_region 35 with (first
                        | (go_at_call 38; refine HSH.out.mono ?_; rintro e w8 ⟨A8, c8, ys8, rfl, ho8, hb8, hn8, hm8⟩; have HO8 := hide ho8; have HB8 := hide hb8; have HNM8 := hide (And.intro hn8 hm8); have HRO8 := hide (own_block (w' := w8) HRV.out.own (fun g hg => hb8.block g (own_ob HRV.out.own g hg).2)); have hs8 := hb8.size; clear ho8 hb8 hn8 hm8)
                        | (at_builtin; (refine append_cell rfl _ _ 52 22 rfl Try.underlying52 _ infoSl rfl wr2.heap.size A7 c7 (ds.flatMap cSlV) ds.length rfl (.slice A8 ys8.length c8) rfl _ rfl rfl HRO8.out (by omega) (by omega) ?_); intro g9 c9 w9 ho9 hg9 hat9))
                      have HN := hide (show SetRel cs by_ wr2 (.slice (some ⟨g9, 0, none⟩) (ds.length + 1) c9) (.int .i64 ((k : Int) + 1)) w9 from ⟨k + 1, _, c9, ds ++ [⟨A8, c8, ys8⟩], hlt, by go_num, by simp, HRV.out.put hsz4 HO8.out HB8.out ho9 hg9, HCK.out.add HK.out HNM8.out, grown_below HBR4.out hsz4 HB8.out hg9 (fun g hg => (own_ob HRV.out.own g hg).1)⟩)
                      clear ho9 hg9 hat9
                      go_wp2_with fail
                      exact ⟨HN.out, by simp [intOf]; omega⟩
                    · have hke : k = cs.length := by omega
                      subst hke
                      have HBF := hide (bstep HBE.out HBR4.out)
                      have HBWF := hide (bstep HB0.out HBF.out)
                      have HTF := hide (HTE.out.below HBR4.out)
                      have hr3 := HRUN2.out wr4 HBF.out A5 c5 ls A7 c7 ds HF.out (HROWS.out.ev.step HBR4.out) (prep_cs HRV.out.own HRV.out.each) HEK.out HCK.out (from_ + by_) (to_ + by_) (en + by_)
                      have hpo3 := prep_moved HPO.out HEK.out (n := ds.length) HCK.out.len f5 f6 f4
                      have hmv := parts_moved HPO.out HEK.out HCK.out f5 f6 f4
                      have hlow : ∀ e ∈ (inpOf a' ev cs).edges, 0 ≤ e.low := fun e he => by
                        have hb := HPO.out.1
                        unfold prepB at hb
                        rw [Bool.and_eq_true] at hb
                        exact ((valid_edge hb.1).2.1 e he).l0
                      have HMV := hide (fun zs hz => move_law hmv hlow hf0.1 hf0.2.2 HRN1.out (ys := zs) hz)
                      have HR3 := hide hr3
                      have HPO3 := hide hpo3
                      obtain ⟨y0, y1, y2, y3, -⟩ := box4 ((HBF.out.block _ (box_lt HG0.out)).trans HG0.out)
                      have hlm := HMS.out
                      have hml : ms.length ≤ 960 := by rw [hlm, List.length_map]; omega
                      clear hr3 hpo3 hmv hlow hlm HRUN2 HTE HBE
                      go_upto_region 37 with (go_at_call 32; refine HR3.out.mono ?_; rintro e u5 ⟨A9, c9, zs, r5, rfl, hx5, hl5, hb5, hr5⟩; have HX5 := hide hx5; have HB5 := hide hb5; have HRR5 := hide hr5; clear hx5 hb5 hr5)
                      clear y0 y1 y2 y3
                      rcases HRR5.out with ⟨_, hno⟩ | ⟨h5, _, hrun5⟩
                      · exact absurd HPO3.out hno
                      · subst h5
                        have hzm : zs = ms := (HMV.out zs hrun5).trans HMS.out.symm
                        subst hzm
                        have HTG := hide (HTF.out.below HB5.out)
                        have hsm := (osame_any A9 A4 c9 c4 zs zs u5 HX5.out (OwnOc.ats HTG.out.o2) (by omega) (by omega)).mono (fun e w' h => (show e = .returned (.bool true) ∧ Below u5.heap.size u5 w' from by
                          obtain ⟨h1, q, h2⟩ := h
                          exact ⟨by rw [h1]; simp, by rw [h2]; exact below_drewN (Below.refl _ _) q⟩))
                        have HSM := hide hsm
                        have HBG := hide (bstep HBWF.out HB5.out)
                        clear hsm hrun5 HRR5 HMV
                        go_wp2_with (first
                          | (go_at_call 34; refine HSM.out.mono ?_; rintro e w6 ⟨rfl, hb6⟩; have HB6 := hide (bstep HBG.out hb6); clear hb6)
                          | (go_at_call 31; refine (awake55 _).mono ?_; rintro e w7 ⟨rfl, hb7⟩; have HB7 := hide (bstep HB6.out hb7); clear hb7))
                        go_ret
                        exact ⟨rfl, HB7.out⟩

end Go.Proofs.Ytkbiefklilelmaa

/-
  The walk of MatchParts, in the order in which the lift hands on what it has read.
-/
namespace Go.Proofs.Ytkbiefklilelmaa
open Go.RowKit

theorem parts_walk (a : Aut) (A1 : Option Addr) (c1 : Nat) (ev : List SlI) (A2 : Option Addr) (c2 : Nat) (cs : List SlV) (from_ to_ first last en by_ : Int) (W : World) (g : AutIn W a) (e1 : EvAt W A1 ev) (e2 : ∀ s ∈ ev, s.xs.length ≤ 140737488355328) (e3 : ev.length ≤ 140737488355328) (f1 : CsAt W A2 cs) (f2 : ∀ s ∈ cs, s.xs.length ≤ 140737488355328) (f3 : cs.length ≤ 140737488355328)
    (_ : I64 from_) (_ : I64 to_) (_ : I64 first) (_ : I64 last) (_ : I64 en) (_ : I64 by_) : Calls Try.prog 11 #[.agg (encA a).toArray, .slice A1 ev.length c1, .slice A2 cs.length c2, .int .i64 from_, .int .i64 to_, .int .i64 first, .int .i64 last, .int .i64 en, .int .i64 by_] W (fun e w' => e = .returned (.bool true) ∧ Below W.heap.size W w') := by
  obtain ⟨h1, ⟨evs, cds, h2⟩, h3⟩ := g
  exact lawParts a evs cds A1 A2 c1 c2 ev cs from_ to_ first last en by_ W h1 h2 h3 e1 f1 e3 f3 e2 f2

end Go.Proofs.Ytkbiefklilelmaa

/-
  The statement of wavestorelaw55.MatchParts is proved: for every input the law returns true, and each argument reads afterwards as before.
-/
namespace Go.Proofs.Ytkbiefklilelmaa
open Go.ChangeShapes Go.WideShapes Go.ChangeAt Go.RowKit Go.Deep

set_option maxRecDepth 100000 in
theorem matchParts_lifted (os : Os) (started : os.Started) (H : Type) (enc : TypeId × Value → H) :
    ReturnsInHanded {} Try.checked os 11 .any (Rows.matchPartsSpec.pre6 enc Try.prog Try.f11 Rows.matchPartsRow.domain false) (Rows.matchPartsSpec.post enc Try.prog Try.f11 false true false false) := by
  refine returnsInHanded_of_change_sized (C := Try.checked) ownK started (by kernel_rfl) Try.func11
    (ChangeSpec.witness6 (enc := enc) (C := Try.checked) false ⟨#[], #[.agg #[.slice none 0 0, .slice none 0 0, .slice none 0 0, .slice none 0 0], .slice none 0 0, .slice none 0 0, .int .i64 0, .int .i64 0, .int .i64 0, .int .i64 0, .int .i64 0, .int .i64 0], []⟩ 8 (by kernel_rfl) (by kernel_rfl) (by kernel_rfl) (by kernel_rfl)) ?_
  intro W base args ds gs before hval0 hW hcnd hsz _
  have hval : ∀ (j : Nat) t v, Try.f11.params[j]? = some t → args[j]? = some v → Value.okWide Try.prog W .any base t v := hval0
  have hW' := hW
  obtain ⟨p, q, hA0, hV, rfl, hfz, hnd⟩ := hW
  have hA : DataW.TrodAll enc Try.prog W 0 (fun _ => true) true Try.f11.params.toList args.toList ds p := hA0
  rw [Try.params11] at hA hval
  obtain ⟨v0, vs0, d0, ds0, p0, q0, hargs, rfl, rfl, h0, r0⟩ := trodAll_cons hA
  obtain ⟨v1, vs1, d1, ds1, p1, q1, rfl, rfl, rfl, h1, r1⟩ := trodAll_cons r0
  obtain ⟨v2, vs2, d2, ds2, p2, q2, rfl, rfl, rfl, h2, r2⟩ := trodAll_cons r1
  obtain ⟨v3, vs3, d3, ds3, p3, q3, rfl, rfl, rfl, h3, r3⟩ := trodAll_cons r2
  obtain ⟨v4, vs4, d4, ds4, p4, q4, rfl, rfl, rfl, h4, r4⟩ := trodAll_cons r3
  obtain ⟨v5, vs5, d5, ds5, p5, q5, rfl, rfl, rfl, h5, r5⟩ := trodAll_cons r4
  obtain ⟨v6, vs6, d6, ds6, p6, q6, rfl, rfl, rfl, h6, r6⟩ := trodAll_cons r5
  obtain ⟨v7, vs7, d7, ds7, p7, q7, rfl, rfl, rfl, h7, r7⟩ := trodAll_cons r6
  obtain ⟨v8, vs8, d8, ds8, p8, q8, rfl, rfl, rfl, h8, r8⟩ := trodAll_cons r7
  obtain ⟨rfl, rfl, rfl⟩ := trodAll_nil r8
  obtain rfl : args = #[v0, v1, v2, v3, v4, v5, v6, v7, v8] := by cases args; simp_all
  obtain ⟨rfl, rfl⟩ := trodVars_none hV
  obtain ⟨cs0, rfl, _⟩ := okWide_struct Try.underlying50 (hval 0 50 v0 rfl rfl)
  have k0 := h0
  have lt0 : ∀ x ∈ p0, x.block < W.heap.size := by obtain ⟨m, hm⟩ := k0; exact DataW.trod_lt m _ _ _ hm
  obtain ⟨fu0, hf0⟩ := h0
  obtain ⟨z0, e0, g0⟩ := rd_auto hf0 (fit_each hsz (j := 0) (by rw [Try.params11]; rfl) rfl)
  clear hf0
  obtain rfl : cs0 = (encA z0).toArray := by cases cs0; simpa [Value.cells] using e0
  clear e0
  obtain ⟨b1, len1, cap1, rfl⟩ := okWide_slice Try.underlying51 (hval 1 51 v1 rfl rfl)
  have k1 := h1
  have lt1 : ∀ x ∈ p1, x.block < W.heap.size := by obtain ⟨m, hm⟩ := k1; exact DataW.trod_lt m _ _ _ hm
  obtain ⟨fu1, hf1⟩ := h1
  obtain ⟨a1, c1, z1, e1, g1_0, g1_1, g1_2⟩ := rd_evs hf1 (fit_each hsz (j := 1) (by rw [Try.params11]; rfl) rfl)
  clear hf1
  simp only [Value.cells, List.cons.injEq, and_true] at e1
  rw [e1] at hval k1 hW' ⊢
  clear e1
  obtain ⟨b2, len2, cap2, rfl⟩ := okWide_slice Try.underlying52 (hval 2 52 v2 rfl rfl)
  have k2 := h2
  have lt2 : ∀ x ∈ p2, x.block < W.heap.size := by obtain ⟨m, hm⟩ := k2; exact DataW.trod_lt m _ _ _ hm
  obtain ⟨fu2, hf2⟩ := h2
  obtain ⟨a2, c2, z2, e2, g2_0, g2_1, g2_2⟩ := rd_css hf2 (fit_each hsz (j := 2) (by rw [Try.params11]; rfl) rfl)
  clear hf2
  simp only [Value.cells, List.cons.injEq, and_true] at e2
  rw [e2] at hval k2 hW' ⊢
  clear e2
  obtain ⟨a3, rfl, rfl, rfl, w3⟩ := open_int Try.underlying3 (hval 3 3 v3 rfl rfl) h3
  obtain ⟨a4, rfl, rfl, rfl, w4⟩ := open_int Try.underlying3 (hval 4 3 v4 rfl rfl) h4
  obtain ⟨a5, rfl, rfl, rfl, w5⟩ := open_int Try.underlying3 (hval 5 3 v5 rfl rfl) h5
  obtain ⟨a6, rfl, rfl, rfl, w6⟩ := open_int Try.underlying3 (hval 6 3 v6 rfl rfl) h6
  obtain ⟨a7, rfl, rfl, rfl, w7⟩ := open_int Try.underlying3 (hval 7 3 v7 rfl rfl) h7
  obtain ⟨a8, rfl, rfl, rfl, w8⟩ := open_int Try.underlying3 (hval 8 3 v8 rfl rfl) h8
  clear hA0 hval0
  refine (parts_walk z0 a1 c1 z1 a2 c2 z2 a3 a4 a5 a6 a7 a8 W g0 g1_0 g1_1 g1_2 g2_0 g2_1 g2_2 (bounds_i64 w3) (bounds_i64 w4) (bounds_i64 w5) (bounds_i64 w6) (bounds_i64 w7) (bounds_i64 w8)).mono fun e W' ⟨he, bel⟩ => ?_
  subst he
  exact ⟨_, rfl, _, _, _, [], _, [], hW', trodAll_mk1 (shut_bool Try.underlying4 _), (trodAll_cons_mk (Below.trod laidOut (by kernel_rfl) (of_decide_eq_true (by kernel_rfl)) k0 bel lt0) (trodAll_cons_mk (Below.trod laidOut (by kernel_rfl) (of_decide_eq_true (by kernel_rfl)) k1 bel lt1) (trodAll_cons_mk (Below.trod laidOut (by kernel_rfl) (of_decide_eq_true (by kernel_rfl)) k2 bel lt2) (trodAll_cons_mk (shut_int Try.underlying3 w3) (trodAll_cons_mk (shut_int Try.underlying3 w4) (trodAll_cons_mk (shut_int Try.underlying3 w5) (trodAll_cons_mk (shut_int Try.underlying3 w6) (trodAll_cons_mk (shut_int Try.underlying3 w7) (trodAll_cons_mk (shut_int Try.underlying3 w8) trodAll_mk0))))))))), rfl, bel.frame _, fun h => by cases h⟩

theorem matchParts_holds : Rows.MatchPartsSaid :=
  OpenClaim.holds_of_wide 11 Try.f11 rfl rfl rfl rfl rfl rfl rfl ⟨rfl, rfl, rfl, rfl, rfl⟩ rfl rfl rfl rfl rfl (by kernel_rfl) Try.func11 (by kernel_rfl)
    (of_decide_eq_true (by kernel_rfl)) (by unfold Func.isWrapper; first | (rw [if_pos (by decide +kernel)]; kernel_rfl) | (rw [if_neg (by decide +kernel)]; exact ⟨rfl, rfl⟩))
    (fun os started H enc _ => matchParts_lifted os started H enc)

#print axioms matchParts_holds
end Go.Proofs.Ytkbiefklilelmaa
