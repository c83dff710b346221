/-
  wavestorelaw57.TransactionsGroups returns true.
-/
import Derived.Test.YtlockjbhdibojaaGreatDoorRefGroup
import Derived.Test.YtlockjbhdibojaaGreatDoorRefLat
namespace Go.Proofs.YtlockjbhdibojaaGreatDoor
open Go.RowKit

def GlRel (w : World) (rs : List Rb) (i : Value) (wr : World) : Prop := ∃ k : Nat, k ≤ rs.length ∧ i = .int .i64 k ∧ Below w.heap.size w wr ∧ ∀ r ∈ rs.take k, Tm r.bt.time
def GvRel (wo : World) (n : Nat) (i : Value) (wr : World) : Prop := ∃ k : Nat, k ≤ n ∧ i = .int .i64 k ∧ Below wo.heap.size wo wr
def GtRel (w : World) (zs : List Int) (i : Value) (wr : World) : Prop := ∃ k : Nat, k ≤ zs.length ∧ i = .int .i64 k ∧ Below w.heap.size w wr ∧ ∀ z ∈ zs.take k, Tm z

theorem mem_take_succ {α : Type} {l : List α} {k : Nat} (hk : k < l.length) {x : α} (h : x ∈ l.take (k + 1)) : x ∈ l.take k ∨ x = l[k] := by
  rw [List.take_succ_eq_append_getElem hk] at h
  rcases List.mem_append.1 h with h | h
  · exact .inl h
  · exact .inr (by simpa using h)

theorem grp_small {ts : List Rt} {rs : List Rb} (h : ts.map tcont = groupL (rs.map Rb.bt)) (hl : rs.length ≤ 40) (hv : ∀ r ∈ rs, r.bt.vals.length * 16 ≤ 140737488355328) : ts.length ≤ 1000 ∧ ∀ t ∈ ts, t.bs.length ≤ 1000 ∧ ∀ r ∈ t.bs, r.bt.vals.length * 16 ≤ 140737488355328 := by
  have hf := flat_all h
  have h1 : (ts.flatMap Rt.bs).length = rs.length := by have := congrArg List.length hf; simpa only [List.length_map] using this
  have h2 : ts.length ≤ 41 := by
    have := groupL_len (rs.map Rb.bt)
    rw [← h] at this
    simp at this
    omega
  refine ⟨by omega, fun t ht => ⟨?_, fun r hr => ?_⟩⟩
  · obtain ⟨i, hi, rfl⟩ := List.getElem_of_mem ht
    have := flat_sum (m := 40) hi (by omega)
    omega
  · have hm : r.bt ∈ (ts.flatMap Rt.bs).map Rb.bt := List.mem_map.2 ⟨r, List.mem_flatMap.2 ⟨t, ht, hr⟩, rfl⟩
    rw [hf] at hm
    obtain ⟨r', hr', e⟩ := List.mem_map.1 hm
    rw [← e]
    exact hv r' hr'

set_option maxRecDepth 100000 in
set_option maxHeartbeats 8000000 in
theorem groups_walk (A : Option Addr) (c : Nat) (rs : List Rb) (B : Option Addr) (d : Nat) (zs : List Int) (w : World) (hA : BeatsAt w (Lo w.heap.size) A rs) (hv : ∀ r ∈ rs, r.bt.vals.length * 16 ≤ 140737488355328 ∧ I64 r.bt.time) (hB : IntsAt w (Lo w.heap.size) B zs) (hz : ∀ z ∈ zs, I64 z) (hlA : rs.length * 48 ≤ 140737488355328) (hlB : zs.length * 8 ≤ 140737488355328) :
    Calls Tryz.prog 3 #[.slice A rs.length c, .slice B zs.length d] w fun e w' => e = .returned (.bool true) ∧ Below w.heap.size w w' := by
  have HV := hide hv
  have HZ := hide hz
  clear hv hz
  by_cases h40 : rs.length ≤ 40
  case neg =>
    go_enter Tryz.func3, Tryz.ntmps3
    go_wp2_with (go_at_call 5; refine (awake57 _).mono ?_; rintro e w2 ⟨rfl, b2⟩)
    go_ret
    exact ⟨rfl, b2⟩
  by_cases hz40 : zs.length ≤ 40
  case neg =>
    go_enter Tryz.func3, Tryz.ntmps3
    go_wp2_with (go_at_call 5; refine (awake57 _).mono ?_; rintro e w2 ⟨rfl, b2⟩)
    go_ret
    exact ⟨rfl, b2⟩
  have t40 : decide ((40 : Int) < (rs.length : Int)) = false := by simp; omega
  have t41 : decide ((40 : Int) < (zs.length : Int)) = false := by simp; omega
  go_enter Tryz.func3, Tryz.ntmps3
  go_wp2_with fail
  go_loopw [22] (fun i wr => GlRel w rs i wr) (fun i _ => rs.length - (intOf i).toNat)
  case atStart => exact ⟨0, Nat.zero_le _, rfl, Below.refl _ _, by simp⟩
  case round =>
    obtain ⟨k, hk, rfl, hbr, htm⟩ := hrel
    have HTM := hide htm
    clear htm
    by_cases hlt : k < rs.length
    · obtain ⟨b0, off0, hAe, hb0, q1, q2, q3, q4, q5⟩ := (hA.stay (stay_below hbr fun _ h => h)).at_ hlt
      subst hAe
      have HRK := hide (show ∀ r ∈ rs.take (k + 1), r ∈ rs.take k ∨ r = rs[k] from fun r hr => mem_take_succ hlt hr)
      obtain ⟨hvl, hi1, hi2⟩ := HV.out _ (List.getElem_mem hlt)
      have hsz := hbr.size
      generalize rs[k] = x at *
      obtain ⟨V0, cap0, bt0⟩ := x
      obtain ⟨tm, wt, vals, lst⟩ := bt0
      dsimp only at *
      have hba : Below w.heap.size w (wr.alloc (.cells #[.int .i64 tm, .int .i64 wt, .slice V0 vals.length cap0, .bool lst] 27)) := hbr.alloc hsz _
      have q5' : StrsAt (wr.alloc (.cells #[.int .i64 tm, .int .i64 wt, .slice V0 vals.length cap0, .bool lst] 27)) (Lo w.heap.size) V0 vals := q5.stay (stay_alloc _ fun b hb => by unfold Lo at hb; omega)
      by_cases hok : vals.length ≤ 16 ∧ Tm tm
      case neg =>
        by_cases h16 : vals.length ≤ 16
        · have t16 : decide ((16 : Int) < (vals.length : Int)) = false := by simp; omega
          by_cases hl1 : tm < -1099511627776
          · go_wp2_with (go_at_call 5; refine (awake57 _).mono ?_; rintro e w2 ⟨rfl, b2⟩)
            go_ret
            exact ⟨rfl, bstep hba b2⟩
          · have hl2 : 1099511627776 < tm := by
              by_cases h : 1099511627776 < tm
              · exact h
              · exact absurd ⟨h16, by unfold Tm; omega⟩ hok
            go_wp2_with (go_at_call 5; refine (awake57 _).mono ?_; rintro e w2 ⟨rfl, b2⟩)
            go_ret
            exact ⟨rfl, bstep hba b2⟩
        · go_wp2_with (go_at_call 5; refine (awake57 _).mono ?_; rintro e w2 ⟨rfl, b2⟩)
          go_ret
          exact ⟨rfl, bstep hba b2⟩
      obtain ⟨h16, htm⟩ := hok
      have hT := htm
      unfold Tm at htm
      have t16 : decide ((16 : Int) < (vals.length : Int)) = false := by simp; omega
      have t17 : decide (tm < (-1099511627776 : Int)) = false := by simp; omega
      have t18 : decide ((1099511627776 : Int) < tm) = false := by simp; omega
      go_upto_region 8 with (fail)
      go_wp2_with fail
      generalize hW0 : wr.alloc (.cells #[.int .i64 tm, .int .i64 wt, .slice V0 vals.length cap0, .bool lst] 27) = W0 at *
      clear hW0 q1 q2 q3 q4 t16 t17 t18
      have hszW := hba.size
      go_loopw [44] (fun i wi => GvRel W0 vals.length i wi) (fun i _ => vals.length - (intOf i).toNat)
      case atStart => exact ⟨0, Nat.zero_le _, rfl, Below.refl _ _⟩
      case round =>
        obtain ⟨j, hj, rfl, hbi⟩ := hrel
        have hbe := bstep hba hbi
        by_cases hjl : j < vals.length
        · obtain ⟨b3, off3, hAe, hb3, p1⟩ := (q5'.stay (stay_below hbi fun b hb => by unfold Lo at hb; omega)).at_ hjl
          subst hAe
          generalize vals[j] = s at *
          by_cases h130 : s.size ≤ 130
          · go_wp2_with fail
            go_roundw
            case rel => exact ⟨j + 1, by omega, by go_num, hbi⟩
            case measure => simp [intOf]; omega
          · go_wp2_with (go_at_call 5; refine (awake57 _).mono ?_; rintro e w2 ⟨rfl, b2⟩)
            go_ret
            exact ⟨rfl, bstep hbe b2⟩
        · go_wp2_with fail
          go_roundw
          case rel => exact ⟨k + 1, by omega, by go_num, hbe, fun r hr => (HRK.out r hr).elim (HTM.out r) fun e => by subst e; exact hT⟩
          case measure => simp [intOf]; omega
    · have hke : k = rs.length := by omega
      subst hke
      have HTR := hide (show ∀ r ∈ rs, Tm r.bt.time by have := HTM.out; rwa [List.take_length] at this)
      clear HTM
      go_wp2_with fail
      go_loopw [56] (fun i wi => GtRel w zs i wi) (fun i _ => zs.length - (intOf i).toNat)
      case atStart => exact ⟨0, Nat.zero_le _, rfl, hbr, by simp⟩
      case round =>
        obtain ⟨k, hk, rfl, hbr, htm⟩ := hrel
        have HTM := hide htm
        clear htm
        by_cases hlt : k < zs.length
        · obtain ⟨b0, off0, hAe, hb0, q1⟩ := (hB.stay (stay_below hbr fun _ h => h)).at_ hlt
          subst hAe
          have HRK := hide (show ∀ r ∈ zs.take (k + 1), r ∈ zs.take k ∨ r = zs[k] from fun r hr => mem_take_succ hlt hr)
          obtain ⟨hi1, hi2⟩ := HZ.out _ (List.getElem_mem hlt)
          generalize zs[k] = x at *
          by_cases hl1 : x < -1099511627776
          · go_wp2_with (go_at_call 5; refine (awake57 _).mono ?_; rintro e w2 ⟨rfl, b2⟩)
            go_ret
            exact ⟨rfl, bstep hbr b2⟩
          · by_cases hl2 : 1099511627776 < x
            · go_wp2_with (go_at_call 5; refine (awake57 _).mono ?_; rintro e w2 ⟨rfl, b2⟩)
              go_ret
              exact ⟨rfl, bstep hbr b2⟩
            · go_wp2_with fail
              go_roundw
              case rel => exact ⟨k + 1, by omega, by go_num, hbr, fun r hr => (HRK.out r hr).elim (HTM.out r) fun e => by subst e; unfold Tm; omega⟩
              case measure => simp [intOf]; omega
        · have hke : k = zs.length := by omega
          subst hke
          have HTZ := hide (show ∀ z ∈ zs, Tm z by have := HTM.out; rwa [List.take_length] at this)
          clear HTM
          have HVV := hide (show ∀ r ∈ rs, r.bt.vals.length * 16 ≤ 140737488355328 from fun r hr => (HV.out r hr).1)
          have HRA : ∀ {w' : World}, Below w.heap.size w w' → BeatsAt w' (Lo w'.heap.size) A rs := fun h => (hA.stay (stay_below h fun _ h => h)).more fun b hb => Nat.lt_of_lt_of_le hb h.size
          have HRB : ∀ {w' : World}, Below w.heap.size w w' → IntsAt w' (Lo w'.heap.size) B zs := fun h => (hB.stay (stay_below h fun _ h => h)).more fun b hb => Nat.lt_of_lt_of_le hb h.size
          go_wp2_with fail
          refine (group_any A c rs _ (HRA hbr) h40 HVV.out).mono ?_
          rintro e w1 ⟨A1, c1, ts1, rfl, ht1, b1, hg1⟩
          have HG1 := hide hg1
          clear hg1
          go_wp2_with fail
          have hb1 := bstep hbr b1
          refine (rgroup_any A c rs _ (HRA hb1) h40 HVV.out).mono ?_
          rintro e w2 ⟨A2, c2, ts2, rfl, ht2, b2, hg2⟩
          have HG2 := hide hg2
          clear hg2
          have hb2 := bstep hb1 b2
          have hsm := grp_small HG1.out h40 HVV.out
          have ht1' : TransAt w2 (Lo w2.heap.size) A1 ts1 := (ht1.stay (stay_below b2 fun _ h => h)).more fun b hb => Nat.lt_of_lt_of_le hb b2.size
          have HSM := hide hsm.2
          have hsm1 := hsm.1
          clear hsm
          go_wp2_with fail
          refine (tsame57_true A1 A2 c1 c2 ts1 ts2 _ ht1' ht2 (HG1.out.trans HG2.out.symm) hsm1 HSM.out).mono ?_
          rintro e w3 ⟨rfl, b3⟩
          have hb3 := bstep hb2 b3
          clear ht1 ht2 ht1' HG1 HG2 HSM b1 b2 b3 hb1 hb2
          go_wp2_with fail
          refine (lat_any B A d c zs rs _ (HRB hb3) (HRA hb3) hz40 h40 HTZ.out HTR.out).mono ?_
          rintro e w4 ⟨A4, c4, rfl, h4, b4⟩
          have hb4 := bstep hb3 b4
          have hl4 : (zs.map fun t => latOf t (rs.map Rb.bt)).length ≤ 40 := by simp; omega
          generalize hls : (zs.map fun t => latOf t (rs.map Rb.bt)) = ls at *
          have HLS := hide hls
          clear hls
          go_wp2_with fail
          refine (rlat_any B A d c zs rs _ (HRB hb4) (HRA hb4) hz40 h40 HTZ.out HTR.out).mono ?_
          rw [HLS.out]
          rintro e w5 ⟨A5, c5, rfl, h5, b5⟩
          have hb5 := bstep hb4 b5
          go_wp2_with fail
          refine (ints_true (Lo w4.heap.size) (Lo w5.heap.size) A4 A5 c4 c5 ls _ (h4.stay (stay_below b5 fun _ h => h)) h5 (by omega)).mono ?_
          rintro e w6 ⟨rfl, b6⟩
          have hb6 := bstep hb5 b6
          go_wp2_with (go_at_call 5; refine (awake57 _).mono ?_; rintro e w7 ⟨rfl, b7⟩)
          go_ret
          exact ⟨rfl, bstep hb6 b7⟩

theorem groups_all (A : Option Addr) (c : Nat) (rs : List Rb) (B : Option Addr) (d : Nat) (zs : List Int) (w : World) (hA : BeatsAt w (Lo w.heap.size) A rs) (hv : ∀ r ∈ rs, r.bt.vals.length * 16 ≤ 140737488355328 ∧ I64 r.bt.time) (hlA : rs.length * 48 ≤ 140737488355328) (hB : IntsAt w (Lo w.heap.size) B zs) (hz : ∀ z ∈ zs, I64 z) (hlB : zs.length * 8 ≤ 140737488355328) :
    Calls Tryz.prog 3 #[.slice A rs.length c, .slice B zs.length d] w fun e w' => e = .returned (.bool true) ∧ Below w.heap.size w w' :=
  groups_walk A c rs B d zs w hA hv hB hz hlA hlB

end Go.Proofs.YtlockjbhdibojaaGreatDoor
