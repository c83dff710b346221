/-
  wavestorelaw57.TransactionsComplete returns true.
-/
import Derived.Test.YtlockjbhdibojaaGreatDoorCompleteS
namespace Go.Proofs.YtlockjbhdibojaaGreatDoor
open Go.RowKit

def CompRel (w1 : World) (ts : List Rt) (all i : Value) (wr : World) : Prop :=
  ∃ (k : Nat) (A : Option Addr) (c : Nat), k ≤ ts.length ∧ i = .int .i64 k ∧ all = .slice A ((ts.take k).flatMap Rt.bs).length c ∧ OwnB wr w1.heap.size A c ((ts.take k).flatMap Rt.bs) ∧ Below w1.heap.size w1 wr
def CompIn (wo : World) (n : Nat) (i : Value) (wr : World) : Prop := ∃ k : Nat, k ≤ n ∧ i = .int .i64 k ∧ Below wo.heap.size wo wr

theorem grp_at {ts : List Rt} {bs : List Bt} (h : ts.map tcont = groupL bs) {k : Nat} (hk : k < ts.length) : 0 < ts[k].bs.length ∧ (k + 1 < ts.length → ts[k].done = true) ∧ ∀ j (hj : j < ts[k].bs.length), ts[k].bs[j].bt.last = (ts[k].done && decide (j + 1 = ts[k].bs.length)) := by
  have hl : (groupL bs).length = ts.length := by rw [← h]; simp
  have hk' : k < (groupL bs).length := by omega
  have e : (groupL bs)[k] = tcont ts[k] := by
    have : (groupL bs)[k]? = (ts.map tcont)[k]? := by rw [h]
    rw [List.getElem?_eq_getElem hk', List.getElem?_map, List.getElem?_eq_getElem hk] at this
    simpa using this
  obtain ⟨h1, h2, h3⟩ := groupL_at bs k hk'
  rw [e] at h1 h2
  refine ⟨?_, fun hlt => h2 (by omega), fun j hj => ?_⟩
  · unfold tcont at h1
    simp at h1
    exact List.length_pos_iff.2 h1
  · have h3' : ∀ (g : List Bt × Bool), g = (groupL bs)[k] → ∀ j (hj : j < g.1.length), g.1[j].last = (g.2 && decide (j + 1 = g.1.length)) := by
      intro g hg; subst hg; exact h3
    have := h3' (tcont ts[k]) e.symm j (by simpa [tcont] using hj)
    simpa [tcont] using this

theorem strs_of_trans {w : World} {P : Nat → Prop} {A : Option Addr} {ts : List Rt} (h : TransAt w P A ts) (r : Rb) (hr : r ∈ ts.flatMap Rt.bs) : StrsAt w P r.V r.bt.vals := by
  rw [List.mem_flatMap] at hr
  obtain ⟨t, ht, hr⟩ := hr
  obtain ⟨i, hi, rfl⟩ := List.getElem_of_mem ht
  obtain ⟨_, _, _, _, _, _, hb⟩ := h.at_ hi
  obtain ⟨j, hj, rfl⟩ := List.getElem_of_mem hr
  obtain ⟨_, _, _, _, _, _, _, _, hs⟩ := hb.at_ hj
  exact hs

theorem ownB_row {w : World} {base : Nat} {v : Value} {rs : List Rb} (h : w.ownsRow base 27 4 v rs.length (encBs rs)) : ∃ A c, v = .slice A rs.length c ∧ OwnB w base A c rs := by
  rcases Joins.ownsRow_forms h with ⟨rfl, h0⟩ | ⟨g, cap, rfl⟩
  · exact ⟨none, 0, by rw [h0], by unfold OwnB; rw [h0] at h ⊢; exact h⟩
  · exact ⟨_, cap, rfl, h⟩
theorem flat_sum {ts : List Rt} {k m : Nat} (hk : k < ts.length) (h : (ts.flatMap Rt.bs).length ≤ m) : ((ts.take k).flatMap Rt.bs).length + ts[k].bs.length ≤ m := by
  have e : ts.flatMap Rt.bs = (ts.take (k + 1)).flatMap Rt.bs ++ (ts.drop (k + 1)).flatMap Rt.bs := by rw [← List.flatMap_append, List.take_append_drop]
  have l := congrArg List.length e
  rw [List.length_append, flat_take ts k hk, List.length_append] at l
  omega

set_option maxRecDepth 100000 in
set_option maxHeartbeats 4000000 in
theorem complete_walk (A : Option Addr) (c : Nat) (rs : List Rb) (w : World) (hA : BeatsAt w (Lo w.heap.size) A rs) (hv : ∀ r ∈ rs, r.bt.vals.length * 16 ≤ 140737488355328) :
    Calls Tryz.prog 4 #[.slice A rs.length c] w fun e w' => e = .returned (.bool true) ∧ Below w.heap.size w w' := by
  by_cases h40 : rs.length ≤ 40
  · obtain ⟨i0, hi0, hz0, hz1, hz2⟩ := info_parts infoB
    go_enter Tryz.func4, Tryz.ntmps4
    go_wp2_with fail
    refine (group_any A c rs w hA h40 hv).mono ?_
    rintro e w1 ⟨A1, c1, ts, rfl, ht, b1, hg⟩
    have HG := hide hg
    have HV := hide hv
    have htl : ts.length ≤ 41 := by
      have := groupL_len (rs.map Rb.bt)
      rw [← hg] at this
      simp at this
      omega
    have HALL := hide (flat_all hg)
    have hfl : (ts.flatMap Rt.bs).length ≤ 40 := by
      have := congrArg List.length (flat_all hg)
      simp only [List.length_map] at this
      omega
    clear hg hv
    go_wp2_with fail
    go_loopw [3, 17] (fun all i wr => CompRel w1 ts all i wr) (fun _ i _ => ts.length - (intOf i).toNat)
    case atStart => exact ⟨0, none, 0, Nat.zero_le _, rfl, rfl, World.ownsRow_nil _ _ _ 4, Below.refl _ _⟩
    case round =>
      obtain ⟨k, A2, c2, hk, rfl, rfl, hown, hbr⟩ := hrel
      by_cases hlt : k < ts.length
      · obtain ⟨hpos, hdn, hls⟩ := grp_at HG.out hlt
        obtain ⟨b0, off0, hAe, hb0, q1, q2, q3⟩ := (ht.stay (stay_below hbr fun _ h => h)).at_ hlt
        subst hAe
        have HFT := hide (flat_take ts k hlt)
        have hsum : ((ts.take k).flatMap Rt.bs).length + ts[k].bs.length ≤ 40 := flat_sum hlt hfl
        have HLS := hide hls
        clear hls
        have hdn' : ts[k].done = true ∨ k + 1 = ts.length := by
          by_cases h : k + 1 < ts.length
          · exact .inl (hdn h)
          · exact .inr (by omega)
        clear hdn
        generalize (ts.take k).flatMap Rt.bs = ds at *
        generalize ts[k] = t at *
        obtain ⟨tA, tc, tbs, td⟩ := t
        dsimp only at *
        have hsz := hbr.size
        have q3' : BeatsAt (wr.alloc (.cells #[.slice tA tbs.length tc, .bool td] 35)) (Lo w1.heap.size) tA tbs := q3.stay (stay_alloc _ fun b hb => by unfold Lo at hb; omega)
        have hD : td = true ∨ (td = false ∧ decide ((k : Int) < (ts.length : Int) - 1) = false) := by
          cases td
          · rcases hdn' with h | h
            · cases h
            · exact .inr ⟨rfl, by simp; omega⟩
          · exact .inl rfl
        clear hdn'
        have HOWN := hide hown
        clear hown
        obtain ⟨W0, hW0⟩ : ∃ W0, wr.alloc (.cells #[.slice tA tbs.length tc, .bool td] 35) = W0 := ⟨_, rfl⟩
        have gx : W0.heap[wr.heap.size]? = some (.cells #[.slice tA tbs.length tc, .bool td] 35 (0, 0)) := by rw [← hW0]; exact heap_alloc_new wr _
        have HBW := hide (show Below w1.heap.size w1 W0 by rw [← hW0]; exact hbr.alloc hsz _)
        have HSW := hide (show W0.heap.size = wr.heap.size + 1 by rw [← hW0]; simp)
        have HOW := hide (show OwnB W0 w1.heap.size A2 c2 ds by rw [← hW0]; exact World.ownsRow.alloc HOWN.out _)
        rw [hW0] at q3'
        have HW0 := hide hW0
        clear hW0
        have hne0 : ((tbs.length : Int) == 0) = false := beq_eq_false_iff_ne.2 (by omega)
        rcases hD with rfl | ⟨rfl, hD⟩
        all_goals
          go_upto_region 10 with (fail)
          go_wp2_with fail
          rw [HW0.out]
          clear HW0 q1 q2
          go_loopw [41] (fun i wi => CompIn W0 tbs.length i wi) (fun i _ => tbs.length - (intOf i).toNat)
          case atStart => exact ⟨0, Nat.zero_le _, rfl, Below.refl _ _⟩
          case round =>
            obtain ⟨j, hj, rfl, hbi⟩ := hrel
            obtain ⟨n1, n2, _, _⟩ := box2 (box_below hbi gx)
            have hlM := box_lt (box_below hbi gx)
            by_cases hjl : j < tbs.length
            · obtain ⟨b3, off3, hAe, hb3, p1, p2, p3, p4, p5⟩ := (q3'.stay (stay_below hbi fun b hb => by unfold Lo at hb; rw [HSW.out]; omega)).at_ hjl
              subst hAe
              have hlj := HLS.out j hjl
              have hl1 : decide (j + 1 = tbs.length) = ((j : Int) == (tbs.length : Int) - 1) := by
                rw [Bool.eq_iff_iff]; simp; omega
              rw [hl1] at hlj
              simp only [Bool.true_and, Bool.false_and] at hlj
              rw [hlj] at p4
              clear hlj hl1
              generalize tbs[j] = y at *
              obtain ⟨yV, yc, yb⟩ := y
              obtain ⟨tm, wt, vals, lst⟩ := yb
              dsimp only at *
              have hszi := hbi.size
              go_wp2_with fail
              go_roundw
              case rel => exact ⟨j + 1, by omega, by go_num, hbi.alloc hszi _⟩
              case measure => simp [intOf]; omega
            · have hje : j = tbs.length := by omega
              subst hje
              have hbe := bstep HBW.out hbi
              have howi : OwnB wr w1.heap.size A2 c2 ds := own_block HOW.out fun g hg => hbi.block g (own_ob HOW.out g hg).2
              have hsrc := (q3'.stay (stay_below hbi fun b hb => by unfold Lo at hb; rw [HSW.out]; omega)).src
              have HSRC := hide hsrc
              have HOWI := hide howi
              have hsb := hbe.size
              clear hsrc howi
              go_wp2_with (at_builtin; (refine append_src rfl _ _ 22 rfl w1.heap.size 27 i0 _ 4 48 Tryz.underlying22 hi0 hz0 hz1 hz2 rfl (by decide) (.slice A2 ds.length c2) ds.length (encBs ds) rfl HOWI.out tA tbs.length tc (encBs tbs) rfl (flat_len encB 4 (fun _ => rfl) _) HSRC.out (encBs_one tbs) (by simp only [maxLen]; omega) (by omega) (by omega) ?_); intro v' w5 hown5 hg5)
              rw [← List.length_append, ← encBs_append] at hown5
              obtain ⟨A5, c5, rfl, hown5'⟩ := ownB_row hown5
              rw [← HFT.out] at hown5'
              go_roundw
              case rel => exact ⟨k + 1, A5, c5, by omega, by go_num, by rw [HFT.out], hown5', hbe.grown hg5 (by omega) (fun g hg => (own_ob HOWI.out g (by rw [ob_eq] at hg; exact hg)).1)⟩
              case measure => simp [intOf]; omega
      · have hke : k = ts.length := by omega
        subst hke
        have e : ts.take ts.length = ts := List.take_length
        rw [e] at hown
        rw [e]
        clear e
        have hbw := bstep b1 hbr
        have r1 : BeatsAt wr (Lo wr.heap.size) A2 (ts.flatMap Rt.bs) := OwnB.reads hown (fun g hg => (own_ob hown g hg).2) fun r hr => ((strs_of_trans ht r hr).stay (stay_below hbr fun _ h => h)).more fun b hb => Nat.lt_of_lt_of_le hb hbr.size
        have r2 : BeatsAt wr (Lo wr.heap.size) A rs := (hA.stay (stay_below hbw fun _ h => h)).more fun b hb => Nat.lt_of_lt_of_le hb hbw.size
        have hfl2 := hfl
        clear hown
        generalize ts.flatMap Rt.bs = ds at *
        go_wp2_with fail
        refine (bsame_true A2 A c2 c ds rs wr r1 r2 HALL.out (by omega) (fun r hr => ?_)).mono ?_
        · have hm : r.bt ∈ ds.map Rb.bt := List.mem_map.2 ⟨r, hr, rfl⟩
          rw [HALL.out] at hm
          obtain ⟨r', hr', he⟩ := List.mem_map.1 hm
          rw [← he]
          exact HV.out r' hr'
        rintro e w5 ⟨rfl, b5⟩
        go_wp2_with (go_at_call 5; refine (awake57 _).mono ?_; rintro e w6 ⟨rfl, b6⟩)
        go_ret
        exact ⟨rfl, bstep (bstep hbw b5) b6⟩
  · go_enter Tryz.func4, Tryz.ntmps4
    go_wp2_with (go_at_call 5; refine (awake57 _).mono ?_; rintro e w2 ⟨rfl, b2⟩)
    go_ret
    exact ⟨rfl, b2⟩

theorem complete_all (A : Option Addr) (c : Nat) (rs : List Rb) (w : World) (hA : BeatsAt w (Lo w.heap.size) A rs) (hv : ∀ r ∈ rs, r.bt.vals.length * 16 ≤ 140737488355328 ∧ I64 r.bt.time) (_ : rs.length * 48 ≤ 140737488355328) :
    Calls Tryz.prog 4 #[.slice A rs.length c] w fun e w' => e = .returned (.bool true) ∧ Below w.heap.size w w' :=
  complete_walk A c rs w hA fun r hr => (hv r hr).1

end Go.Proofs.YtlockjbhdibojaaGreatDoor
