/-
  Several texts in one: RType. Each says at its head what it holds.
-/
import Derived.Test.YtbhcmnfeeogdhaaGreatDoorES14

/-
  wavestoreref50.Type: the kind and the width of a resolved value, by the reference.
-/
namespace Go.Proofs.YtbhcmnfeeogdhaaGreatDoor
open Go.RowKit

set_option maxRecDepth 100000 in
set_option maxHeartbeats 16000000 in
theorem rtype_any (n : Nd) : RtC n := by
  induction n using Nd.ind with
  | h n ih =>
  intro w ht
  obtain ⟨i0, hi0, hz0, hz1, hz2⟩ := info_parts infoTy
  have IH := hide ih
  clear ih
  obtain ⟨kind, at_, name, value, a, b, c, d, KA, kc, kids⟩ := n
  unfold Nd.KA Nd.kids at ht
  dsimp only [Nd.kids] at IH
  unfold cNd
  have hl := ht.len
  obtain ⟨W0, hW0⟩ : ∃ W0, w.alloc (.cells #[.int .i64 kind, .int .i64 at_, .string name, .string value, .int .i64 a, .int .i64 b, .int .i64 c, .int .i64 d, .slice KA kids.length kc] 30) = W0 := ⟨_, rfl⟩
  have g0 := new_at hW0
  have hb0 : Below w.heap.size w W0 := by rw [← hW0]; exact (Below.refl _ _).alloc (Nat.le_refl _) _
  have HT := hide (ht.grow hb0)
  have HG0 := hide g0
  have HB0 := hide hb0
  have HW0 := hide hW0
  obtain ⟨y0, y1, y2, y3, y4, y5, y6, y7, y8⟩ := box9 g0
  have HQ := hide (show ∀ (o : Option (Int × Int)) (wr : World), typeF (.mk kind at_ name value a b c d KA kc kids) = o → Below W0.heap.size W0 wr → RetV (typV (typeF (.mk kind at_ name value a b c d KA kc kids))) w (.returned (typV o)) wr from fun o wr h hb => ⟨by rw [h], bstep hb0 hb⟩)
  have HNO := hide (fun (k : Nd) (hk : k ∈ kids) (h : typeF k = none) => type_no kind at_ name value a b c d KA kc hk h)
  have HTS := hide (fun (ts : List (Int × Int)) (h : kids.map typeF = ts.map some) => type_ts kind at_ name value a b c d KA kc kids h)
  clear ht g0 hb0 hW0
  go_enter Tryz.func41, Tryz.ntmps41
  go_upto_region 1 with (fail)
  rw [HW0.out]
  have hbE : Below W0.heap.size W0 (W0.alloc (.cells #[] 129)) := (Below.refl _ _).alloc (Nat.le_refl _) _
  go_upto_region 4 with (fail)
  go_loopw [7, 8] (fun o i wr => Ty1 kids W0 o i wr) (fun _ i _ => kids.length - (intOf i).toNat)
  case atStart => exact ⟨0, _, 0, [], Nat.zero_le _, rfl, rfl, ty_empty W0 (Nat.le_refl _), rfl, hbE⟩
  case round =>
    obtain ⟨V, rfl⟩ : ∃ w2 : World, w2 = wr := ⟨_, rfl⟩
    obtain ⟨j, A, c2, ts, hj, rfl, rfl, hown, hts, hbr⟩ := hrel
    have HOWN := hide hown
    have HBR := hide hbr
    have HTY := hide hts
    have htl : ts.length = j := by have := congrArg List.length hts; rw [List.length_map, List.length_map, List.length_take] at this; omega
    clear hown hbr hbE hts y0 y1 y2 y3 y4 y5 y6 y7 y8
    obtain ⟨y0, y1, y2, y3, y4, y5, y6, y7, y8⟩ := box9 ((HBR.out.block _ (box_lt HG0.out)).trans HG0.out)
    have HTL := hide htl
    clear htl
    by_cases hlt : j < kids.length
    · have hT := HT.out.grow HBR.out
      obtain ⟨bk, ok, rfl, hbk, hc⟩ := hT.row.at_ hlt
      have hmem := List.getElem_mem hlt
      have hcall := IH.out _ hmem V (hT.each _ hmem)
      have HTK := hide (show (kids.take (j + 1)).map typeF = (kids.take j).map typeF ++ [typeF kids[j]] by rw [List.take_succ_eq_append_getElem hlt, List.map_append]; rfl)
      have HN1 := hide (HNO.out _ hmem)
      generalize kids[j] = qn at *
      obtain ⟨ty, hty⟩ : ∃ ty, typeF qn = ty := ⟨_, rfl⟩
      rw [hty] at hcall HTK HN1
      obtain ⟨m1, m2, m3, m4, m5, m6, m7, m8, mK, mc, ml⟩ := qn
      unfold cNd at hc hcall
      obtain ⟨c0, c1, c2', c3, c4, c5, c6, c7, c8⟩ := nine hc
      clear hc hmem hT hty
      cases ty with
      | none =>
        have HR := hide (fun (wr : World) (hb : Below W0.heap.size W0 wr) => HQ.out none wr (HN1.out rfl) hb)
        unfold typV at hcall
        dsimp only at hcall
        have HC := hide hcall
        clear hcall HQ HTS HNO
        go_wp2_with (go_at_call 41; refine HC.out.mono ?_; rintro e w2 ⟨rfl, hb2⟩; have HB2 := hide (bstep HBR.out hb2); clear hb2)
        go_ret3
        exact HR.out _ HB2.out
      | some p =>
        obtain ⟨pk, pw⟩ := p
        unfold typV at hcall
        dsimp only at hcall
        have HC := hide hcall
        clear hcall
        have hzw := HBR.out.size
        have hjl : j ≤ 1353245080339 := by omega
        go_wp2_with first
          | (go_at_call 41; refine HC.out.mono ?_; rintro e w2 ⟨rfl, hb2⟩; have HB2 := hide (bstep HBR.out hb2); have hzw2 := hb2.size; have HO3 := hide (show (w2.alloc (.cells #[.int .i64 pk, .int .i64 pw] 129)).ownsRow W0.heap.size 129 2 (.slice A j c2) j (ts.flatMap cTy) from by have h9 : OwnTy w2 W0.heap.size A c2 ts := own_block HOWN.out fun g hg => hb2.block g (own_ob HOWN.out g hg).2; have h8 := World.ownsRow.alloc h9 (.cells #[.int .i64 pk, .int .i64 pw] 129); rwa [HTL.out] at h8); have HN3 := hide (heap_alloc_new w2 (.cells #[.int .i64 pk, .int .i64 pw] 129)); rw [HTL.out]; clear hb2 c0 c1 c2' c3 c4 c5 c6 c7 c8 y0 y1 y2 y3 y4 y5 y6 y7 y8)
          | (at_builtin; (refine append_src rfl _ _ 137 rfl W0.heap.size 129 i0 _ 2 16 Tryz.underlying137 hi0 hz0 hz1 hz2 rfl (by decide) (.slice A j c2) j (ts.flatMap cTy) rfl HO3.out (some ⟨w2.heap.size, 0, none⟩) 1 1 (cTy (pk, pw)) rfl rfl (src_block (t := 129) (fr := (0, 0)) HN3.out) (ty_one _) (by unfold maxLen; omega) (by omega) (by simp; omega) ?_); intro v' w3 hown3 hg3)
        obtain ⟨A3, c3, rfl, ho3⟩ := OwnTy.of_row (l := ts ++ [(pk, pw)]) hown3 (by have := HTL.out; simp; omega) (by rw [List.flatMap_append]; rfl)
        rw [ob_eq] at hg3
        refine ⟨⟨j + 1, A3, c3, ts ++ [(pk, pw)], hlt, by go_num, rfl, ho3, by rw [HTK.out, HTY.out]; simp, ?_⟩, by simp [intOf]; omega⟩
        exact (HB2.out.alloc (by omega) _).grown hg3 (by simp; omega) (fun g hg => (own_ob HOWN.out g hg).1)
    · have hje : j = kids.length := by omega
      have hty := HTY.out
      rw [hje, List.take_length] at hty
      have HEQ := hide (HTS.out ts hty)
      have HBD := hide (show ∀ p ∈ ts, (p.1 = 0 → 1 ≤ p.2 ∧ p.2 ≤ 128) ∧ (p.1 ≠ 0 → p.2 = 0) from fun p hp => by
        have : some p ∈ kids.map typeF := by rw [hty]; exact List.mem_map.2 ⟨p, hp, rfl⟩
        obtain ⟨k, _, hk⟩ := List.mem_map.1 this
        have := typeF_bound k p.1 p.2 hk
        omega)
      have hjl : ts.length ≤ 1353245080339 := by have := HTL.out; omega
      have HRW := hide (HOWN.out.row)
      have HEND := hide (fun (o : Option (Int × Int)) (wr : World) (h : tyT kind a b c value.size ts = o) (hb : Below W0.heap.size W0 wr) => HQ.out o wr (HEQ.out.trans h) hb)
      have HLE := hide hlt
      clear hje hty HQ HTS HNO IH
      go_upto_region 12 with (fail)
      go_loop [6, 12, 13] (fun wd ok i => Ty2 ts wd ok i) (fun _ _ i => ts.length - (intOf i).toNat)
      case atStart => exact ⟨0, Nat.zero_le _, rfl, rfl, rfl⟩
      case round =>
        obtain ⟨k, hk, rfl, rfl, rfl⟩ := hrel
        have hsb := sum_bd (ts := ts.take k) (fun p hp => by have := HBD.out p (List.mem_of_mem_take hp); omega)
        rw [List.length_take] at hsb
        by_cases hltk : k < ts.length
        · obtain ⟨bt, ot, rfl, hbt, hct⟩ := HRW.out.at_ hltk
          have hpb := HBD.out _ (List.getElem_mem hltk)
          have HTA := hide (show allBt (ts.take (k + 1)) = (allBt (ts.take k) && (ts[k].1 == 0)) by rw [List.take_succ_eq_append_getElem hltk, allBt_snoc])
          have HTB := hide (show sumF ((ts.take (k + 1)).map (·.2)) = sumF ((ts.take k).map (·.2)) + ts[k].2 by rw [List.take_succ_eq_append_getElem hltk, List.map_append, List.map_cons, List.map_nil, sumF_snoc])
          generalize ts[k] = p at *
          obtain ⟨pk, pw⟩ := p
          have e0 := hct 0 (by omega)
          have e1 := hct 1 (by omega)
          simp only [cTy, List.getElem?_cons_zero, List.getElem?_cons_succ, Nat.add_zero] at e0 e1
          dsimp only at hpb HTA HTB
          obtain ⟨sm, hsm⟩ : ∃ sm, sumF ((ts.take k).map (·.2)) = sm := ⟨_, rfl⟩
          rw [hsm] at hsb HTB
          rw [hsm]
          obtain ⟨okb, hokb⟩ : ∃ okb, allBt (ts.take k) = okb := ⟨_, rfl⟩
          rw [hokb] at HTA
          rw [hokb]
          have hpw : 0 ≤ pw ∧ pw ≤ 128 := by omega
          clear hct hsm hokb hpb
          cases okb with
          | false =>
            go_wp2_with fail
            exact ⟨⟨k + 1, hltk, by go_num, by rw [HTA.out]; rfl, by rw [HTB.out]⟩, by simp [intOf]; omega⟩
          | true =>
            by_cases hp0 : pk = 0
            · subst hp0
              go_wp2_with fail
              exact ⟨⟨k + 1, hltk, by go_num, by rw [HTA.out]; rfl, by rw [HTB.out]⟩, by simp [intOf]; omega⟩
            · have T0 : (pk == 0) = false := beq_eq_false_iff_ne.2 hp0
              have HT0 := hide T0
              clear hp0
              go_wp2_with fail
              exact ⟨⟨k + 1, hltk, by go_num, by rw [HTA.out, HT0.out]; rfl, by rw [HTB.out]⟩, by simp [intOf]; omega⟩
        · have hke : k = ts.length := by omega
          have htk : ts.take k = ts := by rw [hke, List.take_length]
          rw [htk] at hsb
          rw [htk]
          obtain ⟨sm, hsm⟩ : ∃ sm, sumF (ts.map (·.2)) = sm := ⟨_, rfl⟩
          have HSM := hide hsm
          rw [hsm] at hsb
          rw [hsm]
          obtain ⟨okb, hokb⟩ : ∃ okb, allBt ts = okb := ⟨_, rfl⟩
          have HOKB := hide hokb
          rw [hokb]
          have hsb2 : sm ≤ 128 * 1353245080339 := by omega
          have hsb1 := hsb.1
          clear hke htk hsm hokb hsb
          go_upto_region 17 with (fail)
          go_cut [15] (fun x wx => x = .bool (twoB kind) ∧ V = wx)
          case first =>
            by_cases k9 : 9 ≤ kind
            · by_cases k11 : kind ≤ 11
              · have HT2 := hide (show twoB kind = true from decide_eq_true ⟨k9, by omega⟩)
                have d1 : decide (9 ≤ kind) = true := decide_eq_true k9
                have d2 : decide (kind ≤ 11) = true := decide_eq_true k11
                clear k9 k11
                go_wp2_with fail
                go_meet
                exact ⟨by rw [HT2.out], rfl⟩
              · have d1 : decide (9 ≤ kind) = true := decide_eq_true k9
                have d2 : decide (kind ≤ 11) = false := decide_eq_false k11
                by_cases k12 : kind = 12
                · subst k12
                  go_wp2_with fail
                  go_meet
                  exact ⟨rfl, rfl⟩
                · by_cases k13 : kind = 13
                  · subst k13
                    go_wp2_with fail
                    go_meet
                    exact ⟨rfl, rfl⟩
                  · have HT2 := hide (show twoB kind = false from decide_eq_false (by omega))
                    have T1 : (kind == 12) = false := beq_eq_false_iff_ne.2 k12
                    have T2 : (kind == 13) = false := beq_eq_false_iff_ne.2 k13
                    clear k9 k11 k12 k13
                    go_wp2_with fail
                    go_meet
                    exact ⟨by rw [HT2.out], rfl⟩
            · have HT2 := hide (show twoB kind = false from decide_eq_false (by omega))
              have d1 : decide (9 ≤ kind) = false := decide_eq_false k9
              have T1 : (kind == 12) = false := beq_eq_false_iff_ne.2 (by omega)
              have T2 : (kind == 13) = false := beq_eq_false_iff_ne.2 (by omega)
              clear k9
              go_wp2_with fail
              go_meet
              exact ⟨by rw [HT2.out], rfl⟩
          case rest =>
            obtain ⟨rfl, rfl⟩ := hcut
            have HSB := hide (And.intro hsb1 hsb2)
            clear hltk
            by_cases hn0 : ts = []
            · as_aux_lemma =>
                subst hn0
                obtain rfl : true = okb := HOKB.out
                obtain rfl : (0 : Int) = sm := HSM.out
                clear HOKB HLE HSM HSB
                by_cases k1 : kind = 1
                · subst k1
                  by_cases q0 : 0 ≤ c
                  · have d0 : decide (0 ≤ c) = true := decide_eq_true q0
                    by_cases q3 : c < 3
                    · have d3 : decide (c < 3) = true := decide_eq_true q3
                      by_cases c0 : c = 0
                      · subst c0
                        by_cases b1 : b < 1
                        · have e1 : decide (b < 1) = true := decide_eq_true b1
                          have HF := hide (fun (wr : World) (hb : Below W0.heap.size W0 wr) => HEND.out (none) wr (by rw [ty_sig, if_neg (by omega), if_pos (by omega)]; exact width_no (by omega)) hb)
                          clear b1 q0 q3
                          go_upto_region 20 with (fail)
                          go_quiet (fail)
                          go_wp2_with fail
                          go_ret3
                          exact HF.out _ (below_drewN HBR.out _)
                        · have e1 : decide (b < 1) = false := decide_eq_false b1
                          by_cases b2 : 128 < b
                          · have e2 : decide (128 < b) = true := decide_eq_true b2
                            have HF := hide (fun (wr : World) (hb : Below W0.heap.size W0 wr) => HEND.out (none) wr (by rw [ty_sig, if_neg (by omega), if_neg (by omega)]) hb)
                            clear b1 b2 q0 q3
                            go_upto_region 20 with (fail)
                            go_quiet (fail)
                            go_wp2_with fail
                            go_ret3
                            exact HF.out _ (below_drewN HBR.out _)
                          · have e2 : decide (128 < b) = false := decide_eq_false b2
                            have HF := hide (fun (wr : World) (hb : Below W0.heap.size W0 wr) => HEND.out (some (0, b)) wr (by rw [ty_sig, if_neg (by omega), if_pos (by omega)]; exact width_yes (by omega)) hb)
                            clear b1 b2 q0 q3
                            go_upto_region 20 with (fail)
                            go_quiet (fail)
                            go_wp2_with fail
                            go_ret3
                            exact HF.out _ (below_drewN HBR.out _)
                      · have T0 : (c == 0) = false := beq_eq_false_iff_ne.2 c0
                        have T00 : (c != 0) = true := bne_iff_ne.2 c0
                        by_cases b0 : b = 0
                        · subst b0
                          have HF := hide (fun (wr : World) (hb : Below W0.heap.size W0 wr) => HEND.out (some (c, 0)) wr (by rw [ty_sig, if_pos (by omega)]) hb)
                          clear q0 q3 c0
                          go_upto_region 20 with (fail)
                          go_quiet (fail)
                          go_wp2_with fail
                          go_ret3
                          exact HF.out _ (below_drewN HBR.out _)
                        · have T1 : (b != 0) = true := bne_iff_ne.2 b0
                          have HF := hide (fun (wr : World) (hb : Below W0.heap.size W0 wr) => HEND.out (none) wr (by rw [ty_sig, if_neg (by omega), if_neg (by omega)]) hb)
                          clear q0 q3 c0 b0
                          go_upto_region 20 with (fail)
                          go_quiet (fail)
                          go_wp2_with fail
                          go_ret3
                          exact HF.out _ (below_drewN HBR.out _)
                    · have d3 : decide (c < 3) = false := decide_eq_false q3
                      have HF := hide (fun (wr : World) (hb : Below W0.heap.size W0 wr) => HEND.out (none) wr (by rw [ty_sig, if_neg (by omega), if_neg (by omega)]) hb)
                      clear q0 q3
                      go_upto_region 29 with (fail)
                      go_quiet (fail)
                      go_upto_region 37 with (fail)
                      go_quiet (fail)
                      go_wp2_with fail
                      go_ret3
                      exact HF.out _ (below_drewN HBR.out _)
                  · have d0 : decide (0 ≤ c) = false := decide_eq_false q0
                    have HF := hide (fun (wr : World) (hb : Below W0.heap.size W0 wr) => HEND.out (none) wr (by rw [ty_sig, if_neg (by omega), if_neg (by omega)]) hb)
                    clear q0
                    go_upto_region 29 with (fail)
                    go_quiet (fail)
                    go_upto_region 37 with (fail)
                    go_quiet (fail)
                    go_wp2_with fail
                    go_ret3
                    exact HF.out _ (below_drewN HBR.out _)
                by_cases k2 : kind = 2
                · subst k2
                  by_cases z1 : 1 ≤ value.size
                  · have d1 : decide (1 ≤ value.size) = true := decide_eq_true z1
                    have d1x : decide ((1 : Int) ≤ (value.size : Int)) = true := decide_eq_true (by omega)
                    by_cases z2 : value.size ≤ 128
                    · have d2 : decide (value.size ≤ 128) = true := decide_eq_true z2
                      have d2x : decide ((value.size : Int) ≤ 128) = true := decide_eq_true (by omega)
                      have HF := hide (fun (wr : World) (hb : Below W0.heap.size W0 wr) => HEND.out (some (0, (value.size : Int))) wr (by rw [ty_bits, if_pos z2]; exact width_yes (by omega)) hb)
                      clear z1 z2
                      go_upto_region 24 with (fail)
                      go_quiet (fail)
                      go_wp2_with fail
                      go_ret3
                      exact HF.out _ (below_drewN HBR.out _)
                    · have d2 : decide (value.size ≤ 128) = false := decide_eq_false z2
                      have d2x : decide ((value.size : Int) ≤ 128) = false := decide_eq_false (by omega)
                      have HF := hide (fun (wr : World) (hb : Below W0.heap.size W0 wr) => HEND.out (none) wr (by rw [ty_bits, if_neg z2]) hb)
                      clear z1 z2
                      go_upto_region 29 with (fail)
                      go_quiet (fail)
                      go_upto_region 37 with (fail)
                      go_quiet (fail)
                      go_wp2_with fail
                      go_ret3
                      exact HF.out _ (below_drewN HBR.out _)
                  · have d1 : decide (1 ≤ value.size) = false := decide_eq_false z1
                    have d1x : decide ((1 : Int) ≤ (value.size : Int)) = false := decide_eq_false (by omega)
                    have HF := hide (fun (wr : World) (hb : Below W0.heap.size W0 wr) => HEND.out (none) wr (by rw [ty_bits, if_pos (by omega)]; exact width_no (by omega)) hb)
                    clear z1
                    go_upto_region 29 with (fail)
                    go_quiet (fail)
                    go_upto_region 37 with (fail)
                    go_quiet (fail)
                    go_wp2_with fail
                    go_ret3
                    exact HF.out _ (below_drewN HBR.out _)
                by_cases k4 : kind = 4
                · subst k4
                  have HF := hide (fun (wr : World) (hb : Below W0.heap.size W0 wr) => HEND.out (some (1, 0)) wr rfl hb)
                  go_wp2_with fail
                  go_ret3
                  exact HF.out _ HBR.out
                by_cases k5 : kind = 5
                · subst k5
                  have HF := hide (fun (wr : World) (hb : Below W0.heap.size W0 wr) => HEND.out (some (2, 0)) wr rfl hb)
                  go_wp2_with fail
                  go_ret3
                  exact HF.out _ HBR.out
                have T1 : (kind == 1) = false := beq_eq_false_iff_ne.2 k1
                have T2 : (kind == 2) = false := beq_eq_false_iff_ne.2 k2
                have T4 : (kind == 4) = false := beq_eq_false_iff_ne.2 k4
                have T5 : (kind == 5) = false := beq_eq_false_iff_ne.2 k5
                have HF := hide (fun (wr : World) (hb : Below W0.heap.size W0 wr) => HEND.out (none) wr (ty_nil k1 k2 k4 k5) hb)
                clear k1 k2 k4 k5
                go_upto_region 29 with (fail)
                go_quiet (fail)
                go_upto_region 37 with (fail)
                go_quiet (fail)
                go_wp2_with fail
                go_ret3
                exact HF.out _ (below_drewN HBR.out _)
            have hlp : 0 < ts.length := List.length_pos_iff.2 hn0
            have L0 : ((ts.length : Int) == 0) = false := beq_eq_false_iff_ne.2 (by omega)
            cases okb with
            | false =>
              as_aux_lemma =>
                have HF := hide (fun (wr : World) (hb : Below W0.heap.size W0 wr) => HEND.out (none) wr (ty_bad hn0 HOKB.out) hb)
                clear hn0
                go_upto_region 29 with (fail)
                go_quiet (fail)
                go_upto_region 37 with (fail)
                go_quiet (fail)
                go_wp2_with fail
                go_ret3
                exact HF.out _ (below_drewN HBR.out _)
            | true =>
              by_cases k7 : kind = 7
              · subst k7
                have hcat := ty_cat (a := a) (b := b) (c := c) (sz := value.size) hn0 HOKB.out
                rw [HSM.out] at hcat
                by_cases hn1 : ts.length = 1
                · as_aux_lemma =>
                    obtain ⟨p, rfl⟩ := List.length_eq_one_iff.1 hn1
                    clear hlp L0 hn1
                    dsimp only [List.length_cons, List.length_nil] at *
                    by_cases s128 : sm ≤ 128
                    · have d1 : decide (sm ≤ 128) = true := decide_eq_true s128
                      rw [if_pos s128, width_yes (sum_ge hn0 HOKB.out HBD.out HSM.out)] at hcat
                      have HCAT := hide hcat
                      have HF := hide (fun (wr : World) (hb : Below W0.heap.size W0 wr) => HEND.out (some (0, sm)) wr HCAT.out hb)
                      clear hn0 s128 hcat
                      go_upto_region 29 with (fail)
                      go_quiet (fail)
                      go_wp2_with fail
                      go_ret3
                      exact HF.out _ (below_drewN HBR.out _)
                    · have d1 : decide (sm ≤ 128) = false := decide_eq_false s128
                      rw [if_neg s128] at hcat
                      have HCAT := hide hcat
                      have HF := hide (fun (wr : World) (hb : Below W0.heap.size W0 wr) => HEND.out (none) wr HCAT.out hb)
                      clear hn0 s128 hcat
                      go_upto_region 29 with (fail)
                      go_quiet (fail)
                      go_upto_region 37 with (fail)
                      go_quiet (fail)
                      go_wp2_with fail
                      go_ret3
                      exact HF.out _ (below_drewN HBR.out _)
                · as_aux_lemma =>
                    have L1 : decide (1 ≤ ts.length) = true := decide_eq_true hlp
                    have L1x : decide ((1 : Int) ≤ (ts.length : Int)) = true := decide_eq_true (by omega)
                    have L2x : ((ts.length : Int) == 1) = false := beq_eq_false_iff_ne.2 (by omega)
                    by_cases s128 : sm ≤ 128
                    · have d1 : decide (sm ≤ 128) = true := decide_eq_true s128
                      rw [if_pos s128, width_yes (sum_ge hn0 HOKB.out HBD.out HSM.out)] at hcat
                      have HCAT := hide hcat
                      have HF := hide (fun (wr : World) (hb : Below W0.heap.size W0 wr) => HEND.out (some (0, sm)) wr HCAT.out hb)
                      clear hn0 s128 hcat
                      go_upto_region 29 with (fail)
                      go_quiet (fail)
                      go_wp2_with fail
                      go_ret3
                      exact HF.out _ (below_drewN HBR.out _)
                    · have d1 : decide (sm ≤ 128) = false := decide_eq_false s128
                      rw [if_neg s128] at hcat
                      have HCAT := hide hcat
                      have TB : twoB 7 = false := rfl
                      by_cases hn2 : ts.length = 2
                      · obtain ⟨p, q, rfl⟩ : ∃ p q, ts = [p, q] := by
                          rcases one_or_two hlp (by omega) with ⟨p, rfl⟩ | h
                          · simp at hn2
                          · exact h
                        clear hlp L0 hn2
                        dsimp only [List.length_cons, List.length_nil] at *
                        have HF := hide (fun (wr : World) (hb : Below W0.heap.size W0 wr) => HEND.out (none) wr HCAT.out hb)
                        clear hn0 s128 hcat
                        go_upto_region 29 with (fail)
                        go_quiet (fail)
                        go_upto_region 37 with (fail)
                        go_quiet (fail)
                        go_wp2_with fail
                        go_ret3
                        exact HF.out _ (below_drewN HBR.out _)
                      · have L3x : ((ts.length : Int) == 2) = false := beq_eq_false_iff_ne.2 (by omega)
                        have HF := hide (fun (wr : World) (hb : Below W0.heap.size W0 wr) => HEND.out (none) wr HCAT.out hb)
                        clear hn0 s128 hcat
                        go_upto_region 29 with (fail)
                        go_quiet (fail)
                        go_upto_region 37 with (fail)
                        go_quiet (fail)
                        go_wp2_with fail
                        go_ret3
                        exact HF.out _ (below_drewN HBR.out _)
              have T7 : (kind == 7) = false := beq_eq_false_iff_ne.2 k7
              by_cases hn3 : 3 ≤ ts.length
              · as_aux_lemma =>
                  have L1 : ((ts.length : Int) == 1) = false := beq_eq_false_iff_ne.2 (by omega)
                  have L2 : ((ts.length : Int) == 2) = false := beq_eq_false_iff_ne.2 (by omega)
                  have HM := hide (ty_many (kind := kind) (a := a) (b := b) (c := c) (sz := value.size) hn3 HOKB.out k7)
                  have HF := hide (fun (wr : World) (hb : Below W0.heap.size W0 wr) => HEND.out (none) wr HM.out hb)
                  clear hn0 hn3 k7
                  go_upto_region 29 with (fail)
                  go_quiet (fail)
                  go_upto_region 37 with (fail)
                  go_quiet (fail)
                  go_wp2_with fail
                  go_ret3
                  exact HF.out _ (below_drewN HBR.out _)
              rcases one_or_two hlp hn3 with ⟨p, rfl⟩ | ⟨p, q, rfl⟩
              · as_aux_lemma =>
                  clear hlp L0 hn3 hn0
                  have hp0 : p.1 = 0 := by have h := HOKB.out; unfold allBt at h; simpa using h
                  have hpw := (HBD.out p (by simp)).1 hp0
                  obtain ⟨bt, ot, rfl, hbt, hct⟩ := HRW.out (by simp)
                  have e1 := hct 0 p rfl 1 (by omega)
                  simp only [cTy, List.getElem?_cons_zero, List.getElem?_cons_succ, Nat.add_zero, Nat.zero_mul] at e1
                  obtain ⟨pk, pw⟩ := p
                  dsimp only at hp0 hpw e1
                  have HSM2 := hide (show sm = pw by rw [← HSM.out]; simp [sumF])
                  dsimp only [List.length_cons, List.length_nil] at *
                  by_cases k6 : kind = 6
                  · subst k6
                    have hty : ∀ o, (if 0 ≤ b ∧ b ≤ a ∧ a < pw then widthOk (a - b + 1) else widthOk 0) = o → tyT 6 a b c value.size [(pk, pw)] = o := fun o h => by rw [ty_op (by simp) HOKB.out, if_pos (by omega), ← h]; show widthOk (operF 6 a b [pw]) = _; unfold operF; rw [if_pos rfl]; dsimp only; split <;> rfl
                    have HTY6 := hide hty
                    clear hty hct
                    by_cases b0 : 0 ≤ b
                    · have d0 : decide (0 ≤ b) = true := decide_eq_true b0
                      by_cases ba : b ≤ a
                      · have d1 : decide (b ≤ a) = true := decide_eq_true ba
                        by_cases aw : a < pw
                        · have d2 : decide (a < pw) = true := decide_eq_true aw
                          have hw1 : IntKind.i64.wrap (a - b) = a - b := by rw [IntWalk.i64_in _ (by omega)]
                          have hw2 : IntKind.i64.wrap (a - b + 1) = a - b + 1 := by rw [IntWalk.i64_in _ (by omega)]
                          have HF := hide (fun (wr : World) (hb : Below W0.heap.size W0 wr) => HEND.out (some (0, a - b + 1)) wr (HTY6.out _ (by rw [if_pos ⟨b0, ba, aw⟩]; exact width_yes (by omega))) hb)
                          clear b0 ba aw
                          go_upto_region 29 with (fail)
                          go_quiet (fail)
                          go_upto_region 30 with (fail)
                          go_quiet (fail)
                          go_wp2_with fail
                          go_ret3
                          exact HF.out _ (below_drewN HBR.out _)
                        · have d2 : decide (a < pw) = false := decide_eq_false aw
                          have HF := hide (fun (wr : World) (hb : Below W0.heap.size W0 wr) => HEND.out (none) wr (HTY6.out _ (by rw [if_neg (fun h => aw h.2.2)]; rfl)) hb)
                          clear b0 ba aw
                          go_upto_region 29 with (fail)
                          go_quiet (fail)
                          go_upto_region 37 with (fail)
                          go_quiet (fail)
                          go_wp2_with fail
                          go_ret3
                          exact HF.out _ (below_drewN HBR.out _)
                      · have d1 : decide (b ≤ a) = false := decide_eq_false ba
                        have HF := hide (fun (wr : World) (hb : Below W0.heap.size W0 wr) => HEND.out (none) wr (HTY6.out _ (by rw [if_neg (fun h => ba h.2.1)]; rfl)) hb)
                        clear b0 ba
                        go_upto_region 29 with (fail)
                        go_quiet (fail)
                        go_upto_region 37 with (fail)
                        go_quiet (fail)
                        go_wp2_with fail
                        go_ret3
                        exact HF.out _ (below_drewN HBR.out _)
                    · have d0 : decide (0 ≤ b) = false := decide_eq_false b0
                      have HF := hide (fun (wr : World) (hb : Below W0.heap.size W0 wr) => HEND.out (none) wr (HTY6.out _ (by rw [if_neg (fun h => b0 h.1)]; rfl)) hb)
                      clear b0
                      go_upto_region 29 with (fail)
                      go_quiet (fail)
                      go_upto_region 37 with (fail)
                      go_quiet (fail)
                      go_wp2_with fail
                      go_ret3
                      exact HF.out _ (below_drewN HBR.out _)
                  clear hct
                  have T6 : (kind == 6) = false := beq_eq_false_iff_ne.2 k6
                  by_cases k8 : kind = 8
                  · subst k8
                    have HF := hide (fun (wr : World) (hb : Below W0.heap.size W0 wr) => HEND.out (some (0, sm)) wr (by rw [ty_op (by simp) HOKB.out, if_pos (by omega), HSM2.out]; show widthOk pw = some (0, pw); exact width_yes (by omega)) hb)
                    go_upto_region 29 with (fail)
                    go_quiet (fail)
                    go_wp2_with fail
                    go_ret3
                    exact HF.out _ (below_drewN HBR.out _)
                  have T8 : (kind == 8) = false := beq_eq_false_iff_ne.2 k8
                  by_cases kr : 14 ≤ kind ∧ kind ≤ 16
                  · have d1 : decide (14 ≤ kind) = true := decide_eq_true kr.1
                    have d2 : decide (kind ≤ 16) = true := decide_eq_true kr.2
                    have HF := hide (fun (wr : World) (hb : Below W0.heap.size W0 wr) => HEND.out (some (0, 1)) wr (by rw [ty_op (by simp) HOKB.out, if_pos (by omega)]; show widthOk (operF kind a b [pw]) = _; unfold operF; rw [if_neg (by omega), if_neg (by omega), if_neg (by omega), if_pos kr]; rfl) hb)
                    clear kr k6 k7 k8
                    go_upto_region 29 with (fail)
                    go_quiet (fail)
                    go_wp2_with fail
                    go_ret3
                    exact HF.out _ (below_drewN HBR.out _)
                  by_cases k14 : 14 ≤ kind
                  · have d1 : decide (14 ≤ kind) = true := decide_eq_true k14
                    have d2 : decide (kind ≤ 16) = false := decide_eq_false (by omega)
                    have HF := hide (fun (wr : World) (hb : Below W0.heap.size W0 wr) => HEND.out (none) wr (ty_one_no HOKB.out k6 k7 k8 kr) hb)
                    clear kr k6 k7 k8 k14
                    go_upto_region 29 with (fail)
                    go_quiet (fail)
                    go_upto_region 37 with (fail)
                    go_quiet (fail)
                    go_wp2_with fail
                    go_ret3
                    exact HF.out _ (below_drewN HBR.out _)
                  have d1 : decide (14 ≤ kind) = false := decide_eq_false k14
                  have HF := hide (fun (wr : World) (hb : Below W0.heap.size W0 wr) => HEND.out (none) wr (ty_one_no HOKB.out k6 k7 k8 kr) hb)
                  clear kr k6 k7 k8 k14
                  go_upto_region 29 with (fail)
                  go_quiet (fail)
                  go_upto_region 37 with (fail)
                  go_quiet (fail)
                  go_wp2_with fail
                  go_ret3
                  exact HF.out _ (below_drewN HBR.out _)
              · as_aux_lemma =>
                  clear hlp L0 hn3 hn0
                  obtain ⟨bt, ot, rfl, hbt, hct⟩ := HRW.out (by simp)
                  have e0 := hct 0 p rfl 1 (by omega)
                  have e1 := hct 1 q rfl 1 (by omega)
                  simp only [cTy, List.getElem?_cons_zero, List.getElem?_cons_succ, Nat.add_zero, Nat.zero_mul, Nat.one_mul] at e0 e1
                  have hpb := HBD.out p (by simp)
                  have hp0 : p.1 = 0 := by have h := HOKB.out; unfold allBt at h; rw [List.all_cons, Bool.and_eq_true, beq_iff_eq] at h; exact h.1
                  have hpw := hpb.1 hp0
                  obtain ⟨pk, pw⟩ := p
                  obtain ⟨qk, qw⟩ := q
                  dsimp only at e0 e1 hp0 hpw
                  dsimp only [List.length_cons, List.length_nil] at *
                  clear hct hpb hp0
                  obtain ⟨tw, htw⟩ : ∃ tw, twoB kind = tw := ⟨_, rfl⟩
                  have HTW := hide htw
                  rw [htw]
                  clear htw
                  cases tw with
                  | false =>
                    have HF := hide (fun (wr : World) (hb : Below W0.heap.size W0 wr) => HEND.out (none) wr (ty_two_no HOKB.out k7 HTW.out) hb)
                    clear k7
                    go_upto_region 29 with (fail)
                    go_quiet (fail)
                    go_upto_region 37 with (fail)
                    go_quiet (fail)
                    go_wp2_with fail
                    go_ret3
                    exact HF.out _ (below_drewN HBR.out _)
                  | true =>
                    by_cases heq : pw = qw
                    · subst heq
                      have HF := hide (fun (wr : World) (hb : Below W0.heap.size W0 wr) => HEND.out (some (0, pw)) wr (by rw [ty_two HOKB.out HTW.out, if_pos rfl]; exact width_yes (by omega)) hb)
                      clear k7
                      go_upto_region 29 with (fail)
                      go_quiet (fail)
                      go_upto_region 37 with (fail)
                      go_quiet (fail)
                      go_upto_region 38 with (fail)
                      go_quiet (fail)
                      go_wp2_with fail
                      go_ret3
                      exact HF.out _ (below_drewN HBR.out _)
                    have TQ : (pw == qw) = false := beq_eq_false_iff_ne.2 heq
                    have HF := hide (fun (wr : World) (hb : Below W0.heap.size W0 wr) => HEND.out (none) wr (by rw [ty_two HOKB.out HTW.out, if_neg heq]) hb)
                    clear heq k7
                    go_upto_region 29 with (fail)
                    go_quiet (fail)
                    go_upto_region 37 with (fail)
                    go_quiet (fail)
                    go_wp2_with fail
                    go_ret3
                    exact HF.out _ (below_drewN HBR.out _)

end Go.Proofs.YtbhcmnfeeogdhaaGreatDoor
