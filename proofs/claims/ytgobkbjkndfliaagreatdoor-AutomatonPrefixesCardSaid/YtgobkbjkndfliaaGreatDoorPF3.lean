/-
  Several texts in one: LawPref, LiftPref. Each says at its head what it holds.
-/
import Derived.Test.YtgobkbjkndfliaaGreatDoorPF2
import Derived.Test.YtgobkbjkndfliaaGreatDoorAP38

/-
  wavestorelaw54.AutomatonPrefixes: true, where its example holds.
-/
namespace Go.Proofs.YtgobkbjkndfliaaGreatDoor
open Go.RowKit

def shortP (n : Nat) (p : List Int) : Bool := decide (p.length ≤ n)
theorem pref_acc {a : Aut} (hv : validB a = true) (n : Nat) : ∀ p ∈ psUp a ((n : Int) + 1), AccOk a p ∧ 1 ≤ p.length ∧ p.length ≤ n + 1 := by
  intro p hp
  unfold psUp at hp
  obtain ⟨q, hq, rfl⟩ := List.mem_map.1 hp
  rw [show ((n : Int) + 1).toNat = n + 1 by omega] at hq
  obtain ⟨t, h1, h2⟩ := pathsF_acc _ _ q hq
  have h3 := pathsF_len _ _ q hq
  obtain ⟨v1, v2, v3, v4⟩ := valid_states hv
  have h4 := pathsF_ne (s := 0) v3 q hq
  refine ⟨⟨hv, t, h1, h2⟩, ?_, by unfold up; rw [List.length_map]; exact h3⟩
  unfold up
  rw [List.length_map]
  exact List.length_pos_iff.2 h4
theorem pref_sorted {a : Aut} (n : Nat) : ∀ (i : Nat) (x y : List Int), (psUp a ((n : Int) + 1))[i]? = some x → (psUp a ((n : Int) + 1))[i + 1]? = some y → cmpL x y = -1 := by
  intro i x y hx hy
  have h := pathsF_sorted (E := a.edges) (fin := a.fin) (((n : Int) + 1).toNat) 0
  unfold psUp at hx hy
  rw [List.getElem?_map, Option.map_eq_some_iff] at hx hy
  obtain ⟨p, h1, rfl⟩ := hx
  obtain ⟨q, h2, rfl⟩ := hy
  obtain ⟨l1, e1⟩ := List.getElem?_eq_some_iff.1 h1
  obtain ⟨l2, e2⟩ := List.getElem?_eq_some_iff.1 h2
  have := List.pairwise_iff_getElem.1 h i (i + 1) l1 l2 (by omega)
  rw [e1, e2] at this
  exact this
theorem pref_short {a : Aut} (n : Nat) : psUp a (n : Int) = (psUp a ((n : Int) + 1)).filter (shortP n) := by
  unfold psUp
  rw [List.filter_map, show ((n : Int) + 1).toNat = n + 1 by omega, show ((n : Int)).toNat = n by omega, ← pathsF_short n 0]
  congr 1
  congr 1
  funext p
  simp [shortP, up]

/-- behind the first rounds: how many shorter ones there were -/
def PrRel (L : List (List Int)) (n : Nat) (W : World) (at_ i : Value) (wr : World) : Prop := ∃ k : Nat, k ≤ L.length ∧ i = .int .i64 k ∧ at_ = .int .i64 ((L.take k).filter (shortP n)).length ∧ Below W.heap.size W wr
theorem acc_true {a : Aut} {p : List Int} {w w' : World} {e : Ending} (hp : AccOk a p) (h : Says54 (AccOk a p) w e w') : e = .returned (.bool true) ∧ Below w.heap.size w w' := by
  obtain ⟨b, rfl, h1, h2⟩ := h
  rw [h1.2 hp]
  exact ⟨rfl, h2⟩

set_option maxRecDepth 100000 in
set_option maxHeartbeats 8000000 in
theorem lawPref (HAW : Awake54) (a : Aut) (evs cds : List Nd) (x : Int) (w : World) (ha : AutAt w (Lo w.heap.size) a) (ht : AutTrees w a evs cds) (hle : AutLe a) (hx : 0 ≤ x ∧ x ≤ 255) :
    Calls Tryz.prog 8 #[.agg (encA a).toArray, .int .u8 x] w (fun e w' => e = .returned (.bool true) ∧ Below w.heap.size w w') := by
  obtain ⟨W0, hW0⟩ : ∃ W0, w.alloc (.cells (encA a).toArray 30) = W0 := ⟨_, rfl⟩
  have g0 := new_at hW0
  have hb0 : Below w.heap.size w W0 := by rw [← hW0]; exact (Below.refl _ _).alloc (Nat.le_refl _) _
  have HB0 := hide hb0
  have HFEW := hide (few54_any a evs cds W0 (ht.grow hb0) hle)
  have HP := hide (fun (len : Int) (U : World) (hU : Below W0.heap.size W0 U) (h : a.edges.length ≤ 1000) => (paths_any a len 1024 U ((ha.grow hb0).grow hU) hle h).mono fun e w' h => h.r)
  have HVAL := hide (fun (U : World) (hU : Below W0.heap.size W0 U) => valid_any a U ((ha.grow hb0).grow hU) hle)
  have HACC := hide (fun (U : World) (hU : Below W0.heap.size W0 U) (AP : Option Addr) (cP : Nat) (path : List Int) (hp : IntsAt U U.heap.size AP path) (hl : path.length ≤ 140737488355328) (hok : AccOk a path) => (accepts_any a AP cP path U ((ha.grow hb0).grow hU) hle hp hl).mono fun e w' h => acc_true hok h)
  have HAWK := hide HAW
  obtain ⟨a', ha'⟩ : ∃ a', a = a' := ⟨_, rfl⟩
  rw [ha'] at HFEW HP HVAL HACC hW0 g0 ⊢
  obtain ⟨AE, nE, cE, AC, nC, cC, AF, cF, fin, AX, cX, edges⟩ := a
  have HAA := hide (show a'.edges.length = edges.length from by rw [← ha'])
  have hX : encA a' = [.slice AE nE cE, .slice AC nC cC, .slice AF fin.length cF, .slice AX edges.length cX] := by rw [← ha']; rfl
  rw [hX] at HFEW HP HVAL HACC hW0 g0 ⊢
  have HW0 := hide hW0
  have HG0 := hide g0
  obtain ⟨y0, y1, y2, y3, -⟩ := box4 g0
  clear ha' hX hW0 g0 hb0 ha ht hle HAW
  go_enter Tryz.func8, Tryz.ntmps8
  go_upto_region 1 with (fail)
  rw [HW0.out]
  go_cut [25] (fun v wx => ∃ z : Bool, v = .bool z ∧ (z = false → edges.length ≤ 40 ∧ validB a' = true) ∧ Below W0.heap.size W0 wx)
  case first =>
    by_cases hed : 40 < edges.length
    · have T1 : decide ((40 : Int) < (edges.length : Int)) = true := decide_eq_true (by omega)
      clear hed
      go_wp2_with (
         go_at_call 19
         refine HFEW.out.mono ?_
         rintro e w2 ⟨y, rfl, hb2⟩
         have HB2 := hide hb2
         obtain ⟨y0', y1', y2', y3', -⟩ := box4 ((hb2.block _ (box_lt HG0.out)).trans HG0.out)
         clear hb2
         cases y)
      all_goals go_meet
      all_goals exact ⟨_, rfl, (fun e => by cases e), HB2.out⟩
    · have T1 : decide ((40 : Int) < (edges.length : Int)) = false := decide_eq_false (by omega)
      have HED := hide (show edges.length ≤ 40 by omega)
      clear hed
      go_wp2_with (first
         | (go_at_call 19
            refine HFEW.out.mono ?_
            rintro e w2 ⟨y, rfl, hb2⟩
            have HB2 := hide hb2
            obtain ⟨y0', y1', y2', y3', -⟩ := box4 ((hb2.block _ (box_lt HG0.out)).trans HG0.out)
            clear hb2
            cases y)
         | (go_at_call 14
            refine (HVAL.out w2 HB2.out).mono ?_
            rintro e w3 ⟨rfl, hb3⟩
            have HB3 := hide hb3
            clear hb3
            obtain ⟨vb, hvb⟩ : ∃ vb, validB a' = vb := ⟨_, rfl⟩
            rw [hvb]
            have HVB := hide hvb
            clear hvb
            cases vb))
      all_goals go_meet
      all_goals first | exact ⟨_, rfl, (fun _ => ⟨HED.out, HVB.out⟩), bstep HB2.out HB3.out⟩ | exact ⟨_, rfl, (fun e => by cases e), bstep HB2.out HB3.out⟩ | exact ⟨_, rfl, (fun e => by cases e), HB2.out⟩
  case rest =>
    obtain ⟨z, rfl, hz, hbc⟩ := hcut
    have HBC := hide hbc
    have HZ := hide hz
    clear hbc hz y0 y1 y2 y3
    cases z with
    | true =>
      go_wp2_with (go_at_call 10; refine (HAWK.out _).mono ?_; rintro e w3 ⟨rfl, hb3⟩; have HB3 := hide (bstep (bstep HB0.out HBC.out) hb3); clear hb3)
      go_ret
      exact ⟨rfl, HB3.out⟩
    | false =>
      have hed : a'.edges.length ≤ 1000 := by have := (HZ.out rfl).1; rw [HAA.out]; omega
      have HVB := hide (HZ.out rfl).2
      obtain ⟨y0, y1, y2, y3, -⟩ := box4 ((HBC.out.block _ (box_lt HG0.out)).trans HG0.out)
      go_upto_region 4 with (fail)
      obtain ⟨n, hn⟩ := Int.eq_ofNat_of_zero_le (show 0 ≤ x % 8 by omega)
      have hn7 : n ≤ 7 := by omega
      rw [hn]
      clear hn
      have HOK := hide (fun (m : Nat) (hm : m ≤ 8) => (show PathsOk a' (m : Int) 1024 from ⟨HVB.out, by omega, by omega⟩))
      have H1 := hide (HP.out ((n : Int) + 1) wc HBC.out hed)
      have HC1 := hide (res_count (a := a') (len := (n : Int) + 1) (most := 1024))
      go_upto_region 5 with (go_at_call 23; refine H1.out.mono ?_; rintro e u1 ⟨A1, c1, rows1, rfl, m1, ev1, hb1⟩; have HM1 := hide m1; have HE1 := hide ev1; have HB1 := hide (bstep HBC.out hb1); clear m1 ev1 hb1)
      clear y0 y1 y2 y3 H1
      by_cases hbig : ((psUp a' ((n : Int) + 1)).length : Int) ≤ 1024
      · have hres : resOf a' ((n : Int) + 1) 1024 = (psUp a' ((n : Int) + 1), 0) := by
          unfold resOf
          rw [if_pos (by have h := HOK.out (n + 1) (by omega); rwa [show ((n + 1 : Nat) : Int) = (n : Int) + 1 by omega] at h), if_pos hbig]
        have hsh := pref_short (a := a') n
        have hbig2 : ((psUp a' (n : Int)).length : Int) ≤ 1024 := by
          have := List.length_filter_le (shortP n) (psUp a' ((n : Int) + 1))
          rw [hsh]
          omega
        have hres2 : resOf a' (n : Int) 1024 = (psUp a' (n : Int), 0) := by
          unfold resOf
          rw [if_pos (HOK.out n (by omega)), if_pos hbig2]
        rw [hres] at HM1
        rw [hres]
        dsimp only at HM1 ⊢
        have HBIG := hide hbig
        obtain ⟨y0, y1, y2, y3, -⟩ := box4 ((HB1.out.block _ (box_lt HG0.out)).trans HG0.out)
        have h2 := HP.out (n : Int) u1 HB1.out hed
        have HSH := hide hsh
        have H2 := hide (show Calls Tryz.prog 23 #[.agg #[.slice AE nE cE, .slice AC nC cC, .slice AF fin.length cF, .slice AX edges.length cX], .int .i64 (n : Int), .int .i64 1024] u1 (fun e w' => ∃ A c rows, e = .returned (.tuple #[.slice A rows.length c, .int .i64 0]) ∧ rows.map SlI.xs = psUp a' (n : Int) ∧ EvAt w' A rows ∧ Below u1.heap.size u1 w') from
          h2.mono fun e w' h => by
            obtain ⟨A, c, rows, h1, h2, h3⟩ := h
            rw [hres2] at h1 h2
            exact ⟨A, c, rows, h1, h2, h3⟩)
        clear hres hres2 h2 hsh hbig hbig2 HP HFEW HVAL HC1
        go_upto_region 8 with (go_at_call 23; refine H2.out.mono ?_; rintro e u2 ⟨A2, c2, rows2, rfl, m2, ev2, hb2⟩; have HM2 := hide m2; have HE2 := hide ev2; have HE1' := hide (HE1.out.step hb2); have HB2 := hide (bstep HB1.out hb2); clear m2 ev2 hb2)
        clear y0 y1 y2 y3 H2 HE1
        go_wp2_with fail
        obtain ⟨L, hL⟩ : ∃ L, psUp a' ((n : Int) + 1) = L := ⟨_, rfl⟩
        have hPA := pref_acc HVB.out n
        have hPS := pref_sorted (a := a') n
        rw [hL] at hPA hPS HM1 HBIG HSH
        have HPA := hide hPA
        have HPS := hide hPS
        have hl1 : rows1.length = L.length := by have := congrArg List.length HM1.out; rwa [List.length_map] at this
        have hl2 : rows2.length = (L.filter (shortP n)).length := by have := congrArg List.length HM2.out; rw [List.length_map, HSH.out] at this; exact this
        have HL1 := hide hl1
        have HL2 := hide hl2
        have hLb : L.length ≤ 1024 := by have := HBIG.out; omega
        have hrb : rows1.length ≤ 1024 := by omega
        have HX1 := hide (show ∀ (k : Nat) (h : k < rows1.length), L[k]? = some rows1[k].xs from fun k h => by rw [← HM1.out, List.getElem?_map, List.getElem?_eq_getElem h]; rfl)
        have HX2 := hide (show ∀ (k : Nat) (h : k < rows2.length), (L.filter (shortP n))[k]? = some rows2[k].xs from fun k h => by rw [← HSH.out, ← HM2.out, List.getElem?_map, List.getElem?_eq_getElem h]; rfl)
        clear hPA hPS hL HM1 HM2 HBIG HSH hl1 hl2
        go_loopw [9, 54] (fun at_ i wr => PrRel L n u2 at_ i wr) (fun _ i _ => rows1.length - (intOf i).toNat)
        case atStart => exact ⟨0, Nat.zero_le _, rfl, by simp, Below.refl _ _⟩
        case round =>
          obtain ⟨wr1, rfl⟩ : ∃ w2 : World, w2 = wr := ⟨_, rfl⟩
          obtain ⟨k, hk, rfl, rfl, hbr⟩ := hrel
          have HBR := hide hbr
          have HBR0 := hide (bstep HB2.out hbr)
          clear hbr
          have hcl : ((L.take k).filter (shortP n)).length ≤ k := Nat.le_trans (List.length_filter_le _ _) (List.length_take_le _ _)
          by_cases hlt : k < rows1.length
          · have hkL : k < L.length := by have := HL1.out; omega
            obtain ⟨b1, o1, hA1, hb1, q1, i1⟩ := (HE1'.out.step HBR.out).at_ hlt
            subst hA1
            have hx := HX1.out k hlt
            have hxe : L[k] = rows1[k].xs := by rw [List.getElem?_eq_getElem hkL] at hx; exact Option.some.inj hx
            obtain ⟨hp1, hp2, hp3⟩ := HPA.out _ (List.mem_of_getElem? hx)
            have HNX := hide (short_next (f := shortP n) hkL)
            have HSA := hide (short_at (f := shortP n) hkL)
            rw [hxe] at HNX HSA
            have HXK := hide hx
            have HI1 := hide i1
            clear hx hxe
            generalize rows1[k] = r1 at *
            obtain ⟨y0, y1, y2, y3, -⟩ := box4 ((HBR0.out.block _ (box_lt HG0.out)).trans HG0.out)
            have HAC := hide (HACC.out wr1 HBR0.out r1.A r1.c r1.xs i1 (by omega) hp1)
            have T1 : decide (r1.xs.length < 1) = false := decide_eq_false (by omega)
            have T1' : decide ((r1.xs.length : Int) < 1) = false := decide_eq_false (by omega)
            have T2 : decide ((n : Int) + 1 < (r1.xs.length : Int)) = false := decide_eq_false (by omega)
            have HCT := hide (show ((L.take (k + 1)).filter (shortP n)).length = ((L.take k).filter (shortP n)).length + (if shortP n r1.xs = true then 1 else 0) from by rw [HNX.out, List.length_append]; split <;> rfl)
            generalize ((L.take k).filter (shortP n)).length = cnt at *
            have hk0 : k = 0 ∨ ∃ j, k = j + 1 := by cases k; exact .inl rfl; exact .inr ⟨_, rfl⟩
            have HEND := hide (fun (wx : World) (hb : Below wr1.heap.size wr1 wx) (c' : Nat) (hc : c' = cnt + (if shortP n r1.xs = true then 1 else 0)) => (show PrRel L n u2 (.int .i64 (c' : Int)) (.int .i64 ((k : Int) + 1)) wx from ⟨k + 1, by omega, by go_num, by rw [HCT.out, hc], bstep HBR.out hb⟩))
            go_upto_region 14 with (fail)
            go_cut [88] (fun v wx => v = .bool false ∧ Below wr1.heap.size wr1 wx)
            case first =>
              rcases hk0 with rfl | ⟨j, rfl⟩
              · go_wp2_with (go_at_call 21; refine HAC.out.mono ?_; rintro e w3 ⟨rfl, hb3⟩; have HB3 := hide hb3; clear hb3)
                go_meet
                exact ⟨rfl, HB3.out⟩
              · have hlj : j < rows1.length := by omega
                obtain ⟨b0, o0, hA0, hb0, q0, i0⟩ := (HE1'.out.step HBR.out).at_ hlj
                injection hA0 with hA0
                injection hA0 with e1 e2
                subst e1 e2
                have hc := HPS.out j _ _ (HX1.out j hlj) HXK.out
                have hr0 : rows1[j].xs.length ≤ 1000000 := by have := (HPA.out _ (List.mem_of_getElem? (HX1.out j hlj))).2.2; omega
                generalize rows1[j] = r0 at *
                have T4 : decide (0 < j + 1) = true := decide_eq_true (by omega)
                have HI0 := hide i0
                go_wp2_with (first
                  | (go_at_call 21
                     refine HAC.out.mono ?_
                     rintro e w3 ⟨rfl, hb3⟩
                     have HB3 := hide hb3
                     have q0' := (hb3.cell (p := ⟨_, _, none⟩) hb0).trans q0
                     clear hb3)
                  | (go_at_call 29
                     refine (scompare_any r0.A r1.A w3.heap.size w3.heap.size r0.c r1.c r0.xs r1.xs w3 (HI0.out.step HB3.out) (HI1.out.step HB3.out) hr0).mono ?_
                     rw [hc]
                     rintro e w4 ⟨rfl, rfl⟩))
                go_meet
                exact ⟨rfl, HB3.out⟩
            case rest =>
              obtain ⟨rfl, hbc⟩ := hcut
              have HBC2 := hide hbc
              clear hbc y0 y1 y2 y3
              by_cases hsp : r1.xs.length ≤ n
              · have T5 : decide (r1.xs.length ≤ n) = true := decide_eq_true hsp
                have hsh : shortP n r1.xs = true := decide_eq_true hsp
                have h2 := HSA.out hsh
                have hc2 : cnt < rows2.length := by rw [HL2.out]; exact (List.getElem?_eq_some_iff.1 h2).1
                have HFIN := hide (HEND.out · · (cnt + 1) (by rw [if_pos hsh]))
                have hx2 := HX2.out cnt hc2
                rw [h2] at hx2
                have hxe := Option.some.inj hx2
                obtain ⟨b2, o2, hA2, hb2, q2, i2⟩ := ((HE2.out.step HBR.out).step HBC2.out).at_ hc2
                subst hA2
                rw [← hxe] at q2 i2
                have T6 : decide (rows2.length ≤ cnt) = false := decide_eq_false (by omega)
                have hrl : r1.xs.length ≤ 1000000 := by omega
                have HEQ := hide (sequal_true rows2[cnt].A r1.A wc.heap.size wc.heap.size rows2[cnt].c r1.c r1.xs wc i2 (HI1.out.step HBC2.out) hrl)
                generalize rows2[cnt] = r2 at *
                clear hsh h2 hx2 hxe hsp i2
                go_wp2_with (go_at_call 30; refine HEQ.out.mono ?_; rintro e w5 ⟨rfl, hb5⟩; have HB5 := hide (bstep HBC2.out hb5); clear hb5)
                exact ⟨HFIN _ HB5.out, by simp [intOf]; omega⟩
              · have T5 : decide (r1.xs.length ≤ n) = false := decide_eq_false hsp
                have hsh : shortP n r1.xs = false := decide_eq_false hsp
                have HFIN := hide (HEND.out wc HBC2.out cnt (by rw [if_neg (by rw [hsh]; simp)]; rfl))
                clear hsh hsp
                go_wp2_with fail
                exact ⟨HFIN.out, by simp [intOf]; omega⟩
          · have hke : k = rows1.length := by have := HL1.out; omega
            have HTE := hide (show ((((L.take k).filter (shortP n)).length : Int) == (rows2.length : Int)) = true from by
              rw [hke, HL1.out, List.take_length, HL2.out]; exact beq_self_eq_true _)
            generalize ((L.take k).filter (shortP n)).length = cnt at *
            have TE := HTE.out
            clear hke
            go_wp2_with (go_at_call 10; refine (HAWK.out _).mono ?_; rintro e w3 ⟨rfl, hb3⟩; have HB3 := hide (bstep (bstep HB0.out HBR0.out) hb3); clear hb3)
            go_ret
            exact ⟨rfl, HB3.out⟩
      · have hres : (resOf a' ((n : Int) + 1) 1024).2 = 9 := by
          unfold resOf
          rw [if_pos (by have h := HOK.out (n + 1) (by omega); rwa [show ((n + 1 : Nat) : Int) = (n : Int) + 1 by omega] at h), if_neg hbig]
        rw [hres]
        clear hres hbig
        go_wp2_with (go_at_call 10; refine (HAWK.out _).mono ?_; rintro e w3 ⟨rfl, hb3⟩; have HB3 := hide (bstep (bstep HB0.out HB1.out) hb3); clear hb3)
        go_ret
        exact ⟨rfl, HB3.out⟩

end Go.Proofs.YtgobkbjkndfliaaGreatDoor

/-
  The walk of AutomatonPrefixes, in the order in which the lift hands on what it has read.
-/
namespace Go.Proofs.YtgobkbjkndfliaaGreatDoor
open Go.ChangeShapes Go.WideShapes Go.ChangeAt Go.RowKit Go.Deep

theorem pref_walk (a : Aut) (x : Int) (W : World) (g : AutIn W a) (hx : 0 ≤ x ∧ x ≤ 255) :
    Calls Tryz.prog 8 #[.agg (encA a).toArray, .int .u8 x] W (fun e w' => e = .returned (.bool true) ∧ Below W.heap.size W w') := by
  obtain ⟨h1, ⟨evs, cds, h2⟩, h3⟩ := g
  exact lawPref awake54 a evs cds x W h1 h2 h3 hx

end Go.Proofs.YtgobkbjkndfliaaGreatDoor
