/-
  Several texts in one: SlCmp. Each says at its head what it holds.
-/
import Derived.Test.YtgobkbjkndfliaaGreatDoorAP45

/-
  slices.Compare and slices.Equal of ints.
-/
namespace Go.Proofs.YtgobkbjkndfliaaGreatDoor
open Go.RowKit

def cmp2 (x y : Int) : Int := if x < y then -1 else if y < x then 1 else 0
theorem isNaN_any (x : Int) (w : World) : Calls Tryz.prog 72 #[.int .i64 x] w fun e w' => e = .returned (.bool false) ∧ w = w' := by
  go_enter Tryz.func72, Tryz.ntmps72
  go_wp2
  go_ret
  exact ⟨by simp, rfl⟩
set_option maxHeartbeats 1000000 in
theorem cmpI_any (x y : Int) (w : World) : Calls Tryz.prog 57 #[.int .i64 x, .int .i64 y] w fun e w' => e = .returned (.int .i64 (cmp2 x y)) ∧ w = w' := by
  by_cases h1 : x < y
  · have T1 : decide (x < y) = true := decide_eq_true h1
    have HV := hide (show cmp2 x y = -1 from by unfold cmp2; rw [if_pos h1])
    clear h1
    go_enter Tryz.func57, Tryz.ntmps57
    go_wp2_with (go_at_call 72; refine (isNaN_any _ _).mono ?_; rintro e w1 ⟨rfl, rfl⟩)
    go_ret
    exact ⟨by rw [HV.out]; rfl, rfl⟩
  · have T1 : decide (x < y) = false := decide_eq_false h1
    by_cases h2 : y < x
    · have T2 : decide (y < x) = true := decide_eq_true h2
      have HV := hide (show cmp2 x y = 1 from by unfold cmp2; rw [if_neg h1, if_pos h2])
      clear h1 h2
      go_enter Tryz.func57, Tryz.ntmps57
      go_wp2_with (go_at_call 72; refine (isNaN_any _ _).mono ?_; rintro e w1 ⟨rfl, rfl⟩)
      go_ret
      exact ⟨by rw [HV.out]; rfl, rfl⟩
    · have T2 : decide (y < x) = false := decide_eq_false h2
      have HV := hide (show cmp2 x y = 0 from by unfold cmp2; rw [if_neg h1, if_neg h2])
      clear h1 h2
      go_enter Tryz.func57, Tryz.ntmps57
      go_wp2_with (go_at_call 72; refine (isNaN_any _ _).mono ?_; rintro e w1 ⟨rfl, rfl⟩)
      go_ret
      exact ⟨by rw [HV.out]; rfl, rfl⟩

theorem cmpL_cons (x y : Int) (p q : List Int) : cmpL (x :: p) (y :: q) = if cmp2 x y ≠ 0 then cmp2 x y else cmpL p q := by
  unfold cmp2
  rw [cmpL]
  by_cases h1 : x < y
  · rw [if_pos h1, if_pos h1, if_pos (by decide)]
  · rw [if_neg h1, if_neg h1]
    by_cases h2 : y < x
    · rw [if_pos h2, if_pos h2, if_pos (by decide)]
    · rw [if_neg h2, if_neg h2, if_neg (by simp)]
/-- the first k elements are equal -/
def SameTo (xs ys : List Int) (k : Nat) : Prop := cmpL xs ys = cmpL (xs.drop k) (ys.drop k)
def ScRel (xs ys : List Int) (w : World) (i : Value) (wr : World) : Prop := ∃ k : Nat, k ≤ xs.length ∧ k ≤ ys.length ∧ i = .int .i64 k ∧ SameTo xs ys k ∧ w = wr
theorem same_next {xs ys : List Int} {k : Nat} (h : SameTo xs ys k) (h1 : k < xs.length) (h2 : k < ys.length) : cmpL xs ys = if cmp2 xs[k] ys[k] ≠ 0 then cmp2 xs[k] ys[k] else cmpL (xs.drop (k + 1)) (ys.drop (k + 1)) := by
  unfold SameTo at h
  rw [h, List.drop_eq_getElem_cons h1, List.drop_eq_getElem_cons h2, cmpL_cons]

set_option maxRecDepth 100000 in
set_option maxHeartbeats 4000000 in
theorem scompare_any (A B : Option Addr) (n1 n2 c d : Nat) (xs ys : List Int) (w : World) (ha : IntsAt w n1 A xs) (hb : IntsAt w n2 B ys) (hl : xs.length ≤ 1000000) :
    Calls Tryz.prog 29 #[.slice A xs.length c, .slice B ys.length d] w fun e w' => e = .returned (.int .i64 (cmpL xs ys)) ∧ w = w' := by
  go_enter Tryz.func29, Tryz.ntmps29
  go_wp2_with fail
  go_loopw [11] (fun i wr => ScRel xs ys w i wr) (fun i _ => xs.length - (intOf i).toNat)
  case atStart => exact ⟨0, Nat.zero_le _, Nat.zero_le _, rfl, rfl, rfl⟩
  case round =>
    obtain ⟨k, hk, hk2, rfl, hs, rfl⟩ := hrel
    have HS := hide hs
    clear hs
    by_cases hlt : k < xs.length
    · obtain ⟨b1, o1, hA1, hb1, q1⟩ := ha.at2 hlt
      subst hA1
      by_cases hlt2 : k < ys.length
      · obtain ⟨b2, o2, hA2, hb2, q2⟩ := hb.at2 hlt2
        subst hA2
        have HN := hide (same_next HS.out hlt hlt2)
        generalize xs[k] = x at *
        generalize ys[k] = y at *
        have T1 : decide (ys.length ≤ k) = false := decide_eq_false (by omega)
        by_cases hc : cmp2 x y = 0
        · have T2 : (cmp2 x y != 0) = false := by simp [hc]
          have HSN := hide (show SameTo xs ys (k + 1) from by unfold SameTo; rw [HN.out, if_neg (by simp [hc])])
          clear hc
          go_wp2_with (go_at_call 57; refine (cmpI_any _ _ _).mono ?_; rintro e w1 ⟨rfl, rfl⟩)
          exact ⟨⟨k + 1, hlt, hlt2, by go_num, HSN.out, rfl⟩, by simp [intOf]; omega⟩
        · have T2 : (cmp2 x y != 0) = true := by simp [hc]
          have HSN := hide (show cmpL xs ys = cmp2 x y from by rw [HN.out, if_pos hc])
          clear hc
          go_wp2_with (go_at_call 57; refine (cmpI_any _ _ _).mono ?_; rintro e w1 ⟨rfl, rfl⟩)
          go_ret
          exact ⟨by rw [HSN.out]; rfl, rfl⟩
      · have T1 : decide (ys.length ≤ k) = true := decide_eq_true (by omega)
        have HV := hide (show cmpL xs ys = 1 from by
          have h := HS.out
          unfold SameTo at h
          rw [h, show ys.drop k = [] from List.drop_of_length_le (by omega), List.drop_eq_getElem_cons hlt]
          rfl)
        go_wp2_with fail
        go_ret
        exact ⟨by rw [HV.out]; rfl, rfl⟩
    · have hke : k = xs.length := by omega
      by_cases hlt2 : k < ys.length
      · have HV := hide (show cmpL xs ys = -1 from by
          have h := HS.out
          unfold SameTo at h
          rw [h, show xs.drop k = [] from List.drop_of_length_le (by omega), List.drop_eq_getElem_cons hlt2]
          rfl)
        have T1 : decide (xs.length < ys.length) = true := decide_eq_true (by omega)
        clear hke
        go_wp2_with fail
        go_ret
        exact ⟨by rw [HV.out]; rfl, rfl⟩
      · have HV := hide (show cmpL xs ys = 0 from by
          have h := HS.out
          unfold SameTo at h
          rw [h, show xs.drop k = [] from List.drop_of_length_le (by omega), show ys.drop k = [] from List.drop_of_length_le (by omega)]
          rfl)
        have T1 : decide (xs.length < ys.length) = false := decide_eq_false (by omega)
        clear hke
        go_wp2_with fail
        go_ret
        exact ⟨by rw [HV.out]; rfl, rfl⟩

set_option maxRecDepth 100000 in
set_option maxHeartbeats 2000000 in
theorem sequal_true (A B : Option Addr) (n1 n2 c d : Nat) (vs : List Int) (w : World) (ha : IntsAt w n1 A vs) (hb : IntsAt w n2 B vs) (hl : vs.length ≤ 1000000) :
    Calls Tryz.prog 30 #[.slice A vs.length c, .slice B vs.length d] w fun e w' => e = .returned (.bool true) ∧ Below w.heap.size w w' := by
  go_enter Tryz.func30, Tryz.ntmps30
  go_wp2_with fail
  go_loopw [13] (fun i wr => TxR w vs.length i wr) (fun i _ => vs.length - (intOf i).toNat)
  case atStart => exact ⟨0, 0, Nat.zero_le _, rfl, rfl⟩
  case round =>
    obtain ⟨k, q, hk, rfl, rfl⟩ := hrel
    by_cases hlt : k < vs.length
    · obtain ⟨b1, o1, hAe, _, q1⟩ := ha.at2 hlt
      obtain ⟨b2, o2, hBe, _, q2⟩ := hb.at2 hlt
      subst hAe hBe
      generalize vs[k] = s at *
      have j0 : (0 : Int) ≤ (k : Int) := Int.natCast_nonneg _
      have j1 : (k : Int) < (vs.length : Int) := by omega
      have hq1 : (w.drewN q).cell? ⟨b1, o1 + k, none⟩ = some (.int .i64 s) := q1
      have hq2 : (w.drewN q).cell? ⟨b2, o2 + k, none⟩ = some (.int .i64 s) := q2
      go_wp2_with fail
      go_quiet (fail)
      go_wp2_with fail
      go_roundw
      case rel => exact ⟨k + 1, q + nq, by omega, by go_num, by simp [World.drewN]⟩
      case measure => simp [intOf]; omega
    · go_wp2_with fail
      go_ret
      exact ⟨rfl, below_drewN (Below.refl _ _) q⟩

end Go.Proofs.YtgobkbjkndfliaaGreatDoor
