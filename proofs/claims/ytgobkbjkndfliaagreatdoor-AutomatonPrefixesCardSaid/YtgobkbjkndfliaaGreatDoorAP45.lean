/-
  Several texts in one: RefPaths, LawPaths, LiftPaths. Each says at its head what it holds.
-/
import Derived.Test.YtgobkbjkndfliaaGreatDoorAP41
import Derived.Test.YtgobkbjkndfliaaGreatDoorAP44
import Derived.Test.YtgobkbjkndfliaaGreatDoorAP16
import Derived.Test.YtgobkbjkndfliaaGreatDoorAP5
import Derived.Test.YtgobkbjkndfliaaGreatDoorAP19
import Derived.Test.YtgobkbjkndfliaaGreatDoorAP38

/-
  wavestoreref54.Paths: the paths with at most so many edges.
-/
namespace Go.Proofs.YtgobkbjkndfliaaGreatDoor
open Go.RowKit

theorem RthSt.evAt {Bo base c : Nat} {A : Option Addr} {rows : List SlI} {W : World} (h : RthSt Bo base A c rows W) : EvAt W A rows := by
  refine ⟨fun hx => ?_, fun s hs => row_ints (h.each s hs) fun b hb => hb.1⟩
  obtain ⟨g, rfl, h1, h2⟩ := own_place h.own (List.length_pos_iff.2 hx)
  refine ⟨g, 0, rfl, h2, fun i x hi j hj => ?_⟩
  have hlt : i < rows.length := (List.getElem?_eq_some_iff.1 hi).1
  have : j = 0 := by omega
  subst this
  rw [Nat.zero_add, Nat.mul_one, Nat.add_zero, World.ownsRow.cellAt h.own _ (by omega), List.getElem?_map, hi]
  rfl

set_option maxRecDepth 100000 in
set_option maxHeartbeats 4000000 in
theorem rpaths_any (a : Aut) (len most : Int) (w : World) (ha : AutAt w (Lo w.heap.size) a) (hle : AutLe a) (hed : a.edges.length ≤ 1000) :
    Calls Tryz.prog 24 #[.agg (encA a).toArray, .int .i64 len, .int .i64 most] w (PathsPost a len most w) := by
  obtain ⟨a', ha'⟩ : ∃ a', a = a' := ⟨_, rfl⟩
  obtain ⟨W0, hW0⟩ : ∃ W0, w.alloc (.cells (encA a).toArray 30) = W0 := ⟨_, rfl⟩
  have g0 := new_at hW0
  have hb0 : Below w.heap.size w W0 := by rw [← hW0]; exact (Below.refl _ _).alloc (Nat.le_refl _) _
  have hz0 : W0.heap.size = w.heap.size + 1 := by rw [← hW0]; simp
  have hv := rvalid_any a W0 (ha.grow hb0) hle
  have HA := hide ha
  have HB0 := hide hb0
  rw [ha'] at hv hW0 g0 HA hed ⊢
  obtain ⟨AE, nE, cE, AC, nC, cC, AF, cF, fin, AX, cX, edges⟩ := a
  have HAA := hide (show a' = ⟨AE, nE, cE, AC, nC, cC, AF, cF, fin, AX, cX, edges⟩ from ha'.symm)
  have hX : encA a' = [.slice AE nE cE, .slice AC nC cC, .slice AF fin.length cF, .slice AX edges.length cX] := by rw [← ha']; rfl
  have HX := hide hX
  rw [hX] at hv hW0 g0 ⊢
  have HV := hide hv
  have HG0 := hide g0
  have HERR := hide (fun (h : ¬ PathsOk a' len most) (wx : World) (hb : Below W0.heap.size W0 wx) => (show PathsPost a' len most w (.returned (.tuple #[.slice none 0 0, .int .i64 1])) wx from ⟨bstep hb0 hb, .inl ⟨h, rfl⟩⟩))
  obtain ⟨y0, y1, y2, y3, -⟩ := box4 g0
  clear ha' hX hv g0 hb0 ha hle
  go_enter Tryz.func24, Tryz.ntmps24
  go_upto_region 1 with (fail)
  clear hW0
  cases hvb : validB a' with
  | false =>
    have HN := hide (HERR.out (fun h => by have h1 := h.1; rw [hvb] at h1; cases h1))
    rw [hvb] at HV
    clear hvb
    go_wp2_with (go_at_call 15; refine HV.out.mono ?_; rintro e w2 ⟨rfl, hb2⟩; have HB2 := hide hb2; clear hb2)
    go_ret2
    exact HN.out _ HB2.out
  | true =>
    have HVB := hide hvb
    rw [hvb] at HV
    clear hvb
    by_cases hcond : (0 ≤ len ∧ len ≤ 32) ∧ 0 ≤ most ∧ most ≤ 1024
    · obtain ⟨L, hL⟩ := Int.eq_ofNat_of_zero_le hcond.1.1
      obtain ⟨M, hM⟩ := Int.eq_ofNat_of_zero_le hcond.2.1
      subst hL hM
      have hLb : L ≤ 32 := by omega
      have hMb : M ≤ 1024 := by omega
      have T1 : decide ((L : Int) < 0) = false := decide_eq_false (by omega)
      have T2 : decide (32 < (L : Int)) = false := decide_eq_false (by omega)
      have T3 : decide ((M : Int) < 0) = false := decide_eq_false (by omega)
      have T4 : decide (1024 < (M : Int)) = false := decide_eq_false (by omega)
      have HOK := hide (show PathsOk a' (L : Int) (M : Int) from ⟨HVB.out, hcond⟩)
      go_upto_region 3 with (go_at_call 15; refine HV.out.mono ?_; rintro e w2 ⟨rfl, hb2⟩; have HB2 := hide hb2; clear hb2)
      clear y0 y1 y2 y3
      obtain ⟨y0, y1, y2, y3, -⟩ := box4 ((HB2.out.block _ (box_lt HG0.out)).trans HG0.out)
      have hz2 := HB2.out.size
      obtain ⟨X, hX⟩ : ∃ X : PEn, X = ⟨a', [], L, M⟩ := ⟨_, rfl⟩
      have hq0 : 0 < X.a.fin.length := by rw [hX]; have := (valid_states HVB.out).2.1; show 0 < a'.fin.length; omega
      have hst : RthSt w.heap.size w2.heap.size none 0 [] w2 := ⟨World.ownsRow_nil _ _ _ _, (fun s hs => by cases hs), by omega, Nat.le_refl _⟩
      have hau : AutAt w2 (fun b => b < w2.heap.size ∧ b ≠ w.heap.size) X.a := by
        rw [hX]
        exact (HA.out.stay (P := Lo w.heap.size) fun b hb => (bstep HB0.out HB2.out).block b hb).more fun b hb => by unfold Lo at hb; omega
      have hwk := ext_any X w.heap.size w2.heap.size (by rw [hX]; exact HVB.out) (by rw [hX]; exact hed) (by rw [hX]; show L ≤ 1000; omega) (by rw [hX]; show M ≤ 100000; omega) L 0 [] none 0 none 0 [] w2 hq0 (by rw [hX]; simp) hau hst (Nat.zero_le _) Row.nil
      have HWK := hide (show Calls Tryz.prog 54 #[.agg #[.slice AE nE cE, .slice AC nC cC, .slice AF fin.length cF, .slice AX edges.length cX], .slice none 0 0, .slice none 0 0, .int .i64 0, .int .i64 L, .int .i64 M] w2 (ExtPost w.heap.size w2.heap.size none [] (psAll X L 0 []) M w2) from by
        rw [hX] at hwk ⊢
        rw [show (⟨a', [], L, M⟩ : PEn).a = a' from rfl, HX.out] at hwk
        exact hwk)
      have HPS := hide (show psAll X L 0 [] = psUp a' (L : Int) from by rw [hX]; unfold psAll psUp; simp)
      clear hwk hst hau hq0 hX T1 T2 T3 T4 hcond HERR
      go_upto_region 4 with (go_at_call 54; refine HWK.out.mono ?_; rintro e w8 ⟨A8, c8, rows8, rfl, st8, k8, m8, x8⟩; have HS8 := hide st8; have HK8 := hide k8; have HX8 := hide x8; clear st8 k8 m8 x8)
      have HB8 := hide (show Below w.heap.size w w8 from (bstep HB0.out HB2.out).trans ⟨HK8.out.os, HK8.out.tape, HK8.out.output, HK8.out.size, fun b hb => HK8.out.block b ⟨by omega, by omega, fun e => by cases e⟩⟩)
      rcases HX8.out with ⟨h1, h2⟩ | ⟨h1, h2⟩
      · have T5 : decide (M < rows8.length) = false := decide_eq_false (by omega)
        have hl := congrArg List.length h2
        rw [HPS.out, List.length_map, List.length_append, List.length_map] at hl
        have HFIN := hide (show PathsPost a' (L : Int) (M : Int) w (.returned (.tuple #[.slice A8 rows8.length c8, .int .i64 0])) w8 from
          ⟨HB8.out, .inr (.inr ⟨HOK.out, by simp at hl; omega, A8, c8, rows8, rfl, by rw [HPS.out] at h2; simpa using h2, HS8.out.evAt⟩)⟩)
        clear hl h1 h2
        go_wp2_with fail
        go_ret2
        exact HFIN.out
      · have T5 : decide (M < rows8.length) = true := decide_eq_true h1
        have HFIN := hide (show PathsPost a' (L : Int) (M : Int) w (.returned (.tuple #[.slice none 0 0, .int .i64 9])) w8 from
          ⟨HB8.out, .inr (.inl ⟨HOK.out, by rw [HPS.out] at h2; simp at h2; omega, rfl⟩)⟩)
        clear h1 h2
        go_wp2_with fail
        go_ret2
        exact HFIN.out
    · have HN := hide (HERR.out (fun h => hcond h.2))
      have hcase : len < 0 ∨ (¬ len < 0 ∧ 32 < len) ∨ (¬ len < 0 ∧ ¬ 32 < len ∧ most < 0) ∨ (¬ len < 0 ∧ ¬ 32 < len ∧ ¬ most < 0 ∧ 1024 < most) := by omega
      clear hcond
      rcases hcase with h1 | ⟨h1, h2⟩ | ⟨h1, h2, h3⟩ | ⟨h1, h2, h3, h4⟩
      · have T1 : decide (len < 0) = true := decide_eq_true h1
        clear h1
        go_wp2_with (go_at_call 15; refine HV.out.mono ?_; rintro e w2 ⟨rfl, hb2⟩; have HB2 := hide hb2; clear hb2)
        go_ret2
        exact HN.out _ HB2.out
      · have T1 : decide (len < 0) = false := decide_eq_false h1
        have T2 : decide (32 < len) = true := decide_eq_true h2
        clear h1 h2
        go_wp2_with (go_at_call 15; refine HV.out.mono ?_; rintro e w2 ⟨rfl, hb2⟩; have HB2 := hide hb2; clear hb2)
        go_ret2
        exact HN.out _ HB2.out
      · have T1 : decide (len < 0) = false := decide_eq_false h1
        have T2 : decide (32 < len) = false := decide_eq_false h2
        have T3 : decide (most < 0) = true := decide_eq_true h3
        clear h1 h2 h3
        go_wp2_with (go_at_call 15; refine HV.out.mono ?_; rintro e w2 ⟨rfl, hb2⟩; have HB2 := hide hb2; clear hb2)
        go_ret2
        exact HN.out _ HB2.out
      · have T1 : decide (len < 0) = false := decide_eq_false h1
        have T2 : decide (32 < len) = false := decide_eq_false h2
        have T3 : decide (most < 0) = false := decide_eq_false h3
        have T4 : decide (1024 < most) = true := decide_eq_true h4
        clear h1 h2 h3 h4
        go_wp2_with (go_at_call 15; refine HV.out.mono ?_; rintro e w2 ⟨rfl, hb2⟩; have HB2 := hide hb2; clear hb2)
        go_ret2
        exact HN.out _ HB2.out

end Go.Proofs.YtgobkbjkndfliaaGreatDoor

/-
  wavestorelaw54.AutomatonPaths: true, where its example holds.
-/
namespace Go.Proofs.YtgobkbjkndfliaaGreatDoor
open Go.RowKit

theorem IntsAt.at2 {w : World} {B : Nat} {A : Option Addr} {zs : List Int} (h : IntsAt w B A zs) {k : Nat} (hk : k < zs.length) : ∃ b off, A = some ⟨b, off, none⟩ ∧ b < B ∧ w.cell? ⟨b, off + k, none⟩ = some (.int .i64 zs[k]) := by
  obtain ⟨b, off, e, hb, hc⟩ := h (fun e => by subst e; simp at hk)
  exact ⟨b, off, e, hb, hc k _ (List.getElem?_eq_getElem hk)⟩
def TxR (w : World) (n : Nat) (i : Value) (wr : World) : Prop := ∃ k q : Nat, k ≤ n ∧ i = .int .i64 k ∧ wr = w.drewN q

set_option maxRecDepth 100000 in
set_option maxHeartbeats 2000000 in
theorem ints_true (A B : Option Addr) (n1 n2 c d : Nat) (vs : List Int) (w : World) (ha : IntsAt w n1 A vs) (hb : IntsAt w n2 B vs) (hl : vs.length ≤ 1000000) :
    Calls Tryz.prog 25 #[.slice A vs.length c, .slice B vs.length d] w fun e w' => e = .returned (.bool true) ∧ Below w.heap.size w w' := by
  go_enter Tryz.func25, Tryz.ntmps25
  go_wp2_with fail
  go_loopw [5] (fun i wr => TxR w vs.length i wr) (fun i _ => vs.length - (intOf i).toNat)
  case atStart => exact ⟨0, 0, Nat.zero_le _, rfl, rfl⟩
  case round =>
    obtain ⟨k, q, hk, rfl, rfl⟩ := hrel
    by_cases hlt : k < vs.length
    · obtain ⟨b1, o1, hAe, _, q1⟩ := ha.at2 hlt
      obtain ⟨b2, o2, hBe, _, q2⟩ := hb.at2 hlt
      subst hAe hBe
      generalize vs[k] = s at *
      have j0 : (0 : Int) ≤ (k : Int) := Int.natCast_nonneg _
      have j1 : (k : Int) < (vs.length : Int) := by omega
      have hq1 : (w.drewN q).cell? ⟨b1, o1 + k, none⟩ = some (.int .i64 s) := q1
      have hq2 : (w.drewN q).cell? ⟨b2, o2 + k, none⟩ = some (.int .i64 s) := q2
      go_wp2_with fail
      go_quiet (fail)
      go_wp2_with fail
      go_roundw
      case rel => exact ⟨k + 1, q + nq, by omega, by go_num, by simp [World.drewN]⟩
      case measure => simp [intOf]; omega
    · go_wp2_with fail
      go_ret
      exact ⟨rfl, below_drewN (Below.refl _ _) q⟩

open Classical in
/-- the paths and the error that Paths answers -/
noncomputable def resOf (a : Aut) (len most : Int) : List (List Int) × Int := if PathsOk a len most then (if ((psUp a len).length : Int) ≤ most then (psUp a len, 0) else ([], 9)) else ([], 1)
def PathsR (a : Aut) (len most : Int) (w : World) (e : Ending) (w' : World) : Prop := ∃ A c rows, e = .returned (.tuple #[.slice A rows.length c, .int .i64 (resOf a len most).2]) ∧ rows.map SlI.xs = (resOf a len most).1 ∧ EvAt w' A rows ∧ Below w.heap.size w w'
theorem EvAt.nil {w : World} {A : Option Addr} : EvAt w A [] := ⟨Row.nil, fun s hs => by cases hs⟩
theorem PathsPost.r {a : Aut} {len most : Int} {w w' : World} {e : Ending} (h : PathsPost a len most w e w') : PathsR a len most w e w' := by
  obtain ⟨hb, h⟩ := h
  rcases h with ⟨h1, rfl⟩ | ⟨h1, h2, rfl⟩ | ⟨h1, h2, A, c, rows, rfl, h3, h4⟩
  · refine ⟨none, 0, [], ?_, ?_, EvAt.nil, hb⟩
    · unfold resOf; rw [if_neg h1]; rfl
    · unfold resOf; rw [if_neg h1]; rfl
  · refine ⟨none, 0, [], ?_, ?_, EvAt.nil, hb⟩
    · unfold resOf; rw [if_pos h1, if_neg (by omega)]; rfl
    · unfold resOf; rw [if_pos h1, if_neg (by omega)]; rfl
  · refine ⟨A, c, rows, ?_, ?_, h4, hb⟩
    · unfold resOf; rw [if_pos h1, if_pos h2]
    · unfold resOf; rw [if_pos h1, if_pos h2]; exact h3
/-- each path is short -/
theorem res_len {a : Aut} {len most : Int} : ∀ p ∈ (resOf a len most).1, p.length ≤ 32 := by
  intro p hp
  unfold resOf at hp
  split at hp
  · rename_i h
    split at hp
    · unfold psUp at hp
      obtain ⟨q, hq, rfl⟩ := List.mem_map.1 hp
      have := pathsF_len _ _ q hq
      have := h.2.1
      unfold up
      rw [List.length_map]
      omega
    · cases hp
  · cases hp
theorem res_count {a : Aut} {len most : Int} : (resOf a len most).1.length ≤ 1024 := by
  unfold resOf
  split
  · rename_i h
    have := h.2.2
    split
    · dsimp only; omega
    · simp
  · simp
def LpRel (W : World) (n : Nat) (i : Value) (wr : World) : Prop := ∃ k : Nat, k ≤ n ∧ i = .int .i64 k ∧ Below W.heap.size W wr

set_option maxRecDepth 100000 in
set_option maxHeartbeats 8000000 in
theorem lawPaths (HAW : Awake54) (a : Aut) (evs cds : List Nd) (len most : Int) (w : World) (ha : AutAt w (Lo w.heap.size) a) (ht : AutTrees w a evs cds) (hle : AutLe a) :
    Calls Tryz.prog 6 #[.agg (encA a).toArray, .int .i64 len, .int .i64 most] w (fun e w' => e = .returned (.bool true) ∧ Below w.heap.size w w') := by
  obtain ⟨W0, hW0⟩ : ∃ W0, w.alloc (.cells (encA a).toArray 30) = W0 := ⟨_, rfl⟩
  have g0 := new_at hW0
  have hb0 : Below w.heap.size w W0 := by rw [← hW0]; exact (Below.refl _ _).alloc (Nat.le_refl _) _
  have HB0 := hide hb0
  have HFEW := hide (few54_any a evs cds W0 (ht.grow hb0) hle)
  have HP := hide (fun (U : World) (hU : Below W0.heap.size W0 U) (h : a.edges.length ≤ 1000) => (paths_any a len most U ((ha.grow hb0).grow hU) hle h).mono fun e w' h => h.r)
  have HRP := hide (fun (U : World) (hU : Below W0.heap.size W0 U) (h : a.edges.length ≤ 1000) => (rpaths_any a len most U ((ha.grow hb0).grow hU) hle h).mono fun e w' h => h.r)
  have HAWK := hide HAW
  have HRL := hide (res_len (a := a) (len := len) (most := most))
  have HRC := hide (res_count (a := a) (len := len) (most := most))
  obtain ⟨a', ha'⟩ : ∃ a', a = a' := ⟨_, rfl⟩
  rw [ha'] at HFEW HP HRP hW0 g0 HRL HRC ⊢
  obtain ⟨AE, nE, cE, AC, nC, cC, AF, cF, fin, AX, cX, edges⟩ := a
  have HAA := hide (show a'.edges.length = edges.length from by rw [← ha'])
  have hX : encA a' = [.slice AE nE cE, .slice AC nC cC, .slice AF fin.length cF, .slice AX edges.length cX] := by rw [← ha']; rfl
  rw [hX] at HFEW HP HRP hW0 g0 ⊢
  have HW0 := hide hW0
  have HG0 := hide g0
  obtain ⟨y0, y1, y2, y3, -⟩ := box4 g0
  clear ha' hX hW0 g0 hb0 ha ht hle HAW
  go_enter Tryz.func6, Tryz.ntmps6
  go_upto_region 1 with (fail)
  rw [HW0.out]
  go_cut [36] (fun v wx => ∃ z : Bool, v = .bool z ∧ (z = false → edges.length ≤ 40) ∧ Below W0.heap.size W0 wx)
  case first =>
    by_cases hed : 40 < edges.length
    · have T1 : decide ((40 : Int) < (edges.length : Int)) = true := decide_eq_true (by omega)
      clear hed
      go_wp2_with (
         go_at_call 19
         refine HFEW.out.mono ?_
         rintro e w2 ⟨y, rfl, hb2⟩
         have HB2 := hide hb2
         obtain ⟨y0', y1', y2', y3', -⟩ := box4 ((hb2.block _ (box_lt HG0.out)).trans HG0.out)
         clear hb2
         cases y)
      all_goals go_meet
      all_goals exact ⟨_, rfl, (fun e => by cases e), HB2.out⟩
    · have T1 : decide ((40 : Int) < (edges.length : Int)) = false := decide_eq_false (by omega)
      have hed2 : edges.length ≤ 40 := by omega
      obtain ⟨t2, T2⟩ : ∃ t2, decide (8 < len) = t2 := ⟨_, rfl⟩
      obtain ⟨t3, T3⟩ : ∃ t3, decide (len ≤ 32) = t3 := ⟨_, rfl⟩
      obtain ⟨t4, T4⟩ : ∃ t4, decide (200 < most) = t4 := ⟨_, rfl⟩
      obtain ⟨t5, T5⟩ : ∃ t5, decide (most ≤ 1024) = t5 := ⟨_, rfl⟩
      have HED := hide hed2
      clear hed hed2
      cases t2 <;> cases t3 <;> cases t4 <;> cases t5
      all_goals
        go_wp2_with (
         go_at_call 19
         refine HFEW.out.mono ?_
         rintro e w2 ⟨y, rfl, hb2⟩
         have HB2 := hide hb2
         obtain ⟨y0', y1', y2', y3', -⟩ := box4 ((hb2.block _ (box_lt HG0.out)).trans HG0.out)
         clear hb2
         cases y)
        all_goals go_meet
        all_goals exact ⟨_, rfl, (fun _ => HED.out), HB2.out⟩
  case rest =>
    obtain ⟨z, rfl, hz, hbc⟩ := hcut
    have HBC := hide hbc
    have HZ := hide hz
    clear hbc hz y0 y1 y2 y3
    cases z with
    | true =>
      go_wp2_with (go_at_call 10; refine (HAWK.out _).mono ?_; rintro e w3 ⟨rfl, hb3⟩; have HB3 := hide (bstep (bstep HB0.out HBC.out) hb3); clear hb3)
      go_ret
      exact ⟨rfl, HB3.out⟩
    | false =>
      have hed : a'.edges.length ≤ 1000 := by have := HZ.out rfl; rw [HAA.out]; omega
      have H1 := hide (HP.out wc HBC.out hed)
      obtain ⟨y0, y1, y2, y3, -⟩ := box4 ((HBC.out.block _ (box_lt HG0.out)).trans HG0.out)
      go_upto_region 4 with (go_at_call 23; refine H1.out.mono ?_; rintro e u1 ⟨A1, c1, rows1, rfl, m1, ev1, hb1⟩; have HM1 := hide m1; have HE1 := hide ev1; have HB1 := hide (bstep HBC.out hb1); clear m1 ev1 hb1)
      have H2 := hide (HRP.out u1 HB1.out hed)
      clear y0 y1 y2 y3 H1
      obtain ⟨y0, y1, y2, y3, -⟩ := box4 ((HB1.out.block _ (box_lt HG0.out)).trans HG0.out)
      go_upto_region 5 with (go_at_call 24; refine H2.out.mono ?_; rintro e u2 ⟨A2, c2, rows2, rfl, m2, ev2, hb2⟩; have HM2 := hide m2; have HE2 := hide ev2; have HE1' := hide (HE1.out.step hb2); have HB2 := hide (bstep HB1.out hb2); clear m2 ev2 hb2)
      clear y0 y1 y2 y3 H2 HE1
      have hlen : rows2.length = rows1.length := by
        have h1 := congrArg List.length HM1.out
        have h2 := congrArg List.length HM2.out
        rw [List.length_map] at h1 h2
        omega
      have hrc : rows1.length ≤ 1024 := by
        have h1 := congrArg List.length HM1.out
        rw [List.length_map] at h1
        have := HRC.out
        omega
      have TL : ((rows1.length : Int) != (rows2.length : Int)) = false := by rw [hlen]; simp
      have TE : ((resOf a' len most).2 != (resOf a' len most).2) = false := by simp
      have HXS := hide (show ∀ (k : Nat) (h1 : k < rows1.length) (h2 : k < rows2.length), rows1[k].xs = rows2[k].xs ∧ rows1[k].xs.length ≤ 32 from fun k h1 h2 => by
        have e1 : (rows1.map SlI.xs)[k]? = some rows1[k].xs := by rw [List.getElem?_map, List.getElem?_eq_getElem h1]; rfl
        have e2 : (rows2.map SlI.xs)[k]? = some rows2[k].xs := by rw [List.getElem?_map, List.getElem?_eq_getElem h2]; rfl
        rw [HM1.out] at e1
        rw [HM2.out] at e2
        refine ⟨Option.some.inj (e1.symm.trans e2), HRL.out _ (List.mem_of_getElem? e1)⟩)
      generalize (resOf a' len most).2 = er at *
      clear HM1 HM2 HRL HP HRP HFEW
      have HLN := hide hlen
      go_upto_region 7 with (fail)
      clear TL TE hlen
      go_wp2_with fail
      go_loopw [64] (fun i wr => LpRel u2 rows1.length i wr) (fun i _ => rows1.length - (intOf i).toNat)
      case atStart => exact ⟨0, Nat.zero_le _, rfl, Below.refl _ _⟩
      case round =>
        obtain ⟨wr1, rfl⟩ : ∃ w2 : World, w2 = wr := ⟨_, rfl⟩
        obtain ⟨k, hk, rfl, hbr⟩ := hrel
        have HBR := hide hbr
        clear hbr
        by_cases hlt : k < rows1.length
        · have hlt2 : k < rows2.length := by have := HLN.out; omega
          obtain ⟨b1, o1, hA1, hb1, q1, i1⟩ := (HE1'.out.step HBR.out).at_ hlt
          obtain ⟨b2, o2, hA2, hb2, q2, i2⟩ := (HE2.out.step HBR.out).at_ hlt2
          subst hA1 hA2
          obtain ⟨x1, x2⟩ := HXS.out k hlt hlt2
          rw [← x1] at i2 q2
          have HI1 := hide i1
          have HI2 := hide i2
          generalize rows2[k] = r2 at *
          generalize rows1[k] = r1 at *
          have j1 : (k : Int) < (rows1.length : Int) := by omega
          have j2 : (k : Int) < (rows2.length : Int) := by omega
          have j0 : (0 : Int) ≤ (k : Int) := Int.natCast_nonneg _
          have HCI := hide (ints_true r1.A r2.A wr1.heap.size wr1.heap.size r1.c r2.c r1.xs wr1.drew i1 i2 (by omega))
          clear x1 i1 i2
          go_upto_region 10 with (fail)
          go_region_held3 (fun wx => wx.cell? ⟨b1, o1 + k, none⟩ = some (.slice r1.A r1.xs.length r1.c) ∧ wx.cell? ⟨b2, o2 + k, none⟩ = some (.slice r2.A r1.xs.length r2.c))
            (first | (with_reducible assumption) | exact ⟨q1, q2⟩ | (with_reducible exact s1) | fail)
            (first
              | (go_at_call 25
                 refine HCI.out.mono ?_
                 rintro e w5 ⟨rfl, hb5⟩
                 have s1 := And.intro ((hb5.cell (p := ⟨b1, o1 + k, none⟩) hb1).trans q1) ((hb5.cell (p := ⟨b2, o2 + k, none⟩) hb2).trans q2)
                 have HB5 := hide hb5
                 clear hb5)
              | fail)
          go_wp2_with fail
          exact ⟨⟨k + 1, hlt, by go_num, bstep HBR.out (undrew HB5.out)⟩, by simp [intOf]; omega⟩
        · go_wp2_with (go_at_call 10; refine (HAWK.out _).mono ?_; rintro e w3 ⟨rfl, hb3⟩; have HB3 := hide (bstep (bstep (bstep HB0.out HB2.out) HBR.out) hb3); clear hb3)
          go_ret
          exact ⟨rfl, HB3.out⟩

end Go.Proofs.YtgobkbjkndfliaaGreatDoor

/-
  The walk of AutomatonPaths, in the order in which the lift hands on what it has read.
-/
namespace Go.Proofs.YtgobkbjkndfliaaGreatDoor
open Go.ChangeShapes Go.WideShapes Go.ChangeAt Go.RowKit Go.Deep

theorem paths_walk (a : Aut) (len most : Int) (W : World) (g : AutIn W a) (_ : -9223372036854775808 ≤ len ∧ len ≤ 9223372036854775807) (_ : -9223372036854775808 ≤ most ∧ most ≤ 9223372036854775807) :
    Calls Tryz.prog 6 #[.agg (encA a).toArray, .int .i64 len, .int .i64 most] W (fun e w' => e = .returned (.bool true) ∧ Below W.heap.size W w') := by
  obtain ⟨h1, ⟨evs, cds, h2⟩, h3⟩ := g
  exact lawPaths awake54 a evs cds len most W h1 h2 h3

end Go.Proofs.YtgobkbjkndfliaaGreatDoor
