/-
  wavestoreref57.Group: its walk.
-/
import Derived.Test.YtlockjbhdibojaaGreatDoorLawComplete
import Derived.Test.YtlockjbhdibojaaGreatDoorAppendStep
import Derived.Deep.RegionLaw
namespace Go.Proofs.YtlockjbhdibojaaGreatDoor
open Go.RowKit

def RGrpRel (w : World) (bs : List Rb) (out i : Value) (wr : World) : Prop :=
  ∃ (k : Nat) (P : Nat → Prop) (A1 : Option Addr) (c1 : Nat) (rs : List Rb) (A2 : Option Addr) (c2 : Nat) (ts : List Rt), k ≤ bs.length ∧ i = .int .i64 k ∧ out = .slice A2 ts.length c2 ∧ GrpAt w wr (w.heap.size + 1) P A1 c1 rs A2 c2 ts ∧ rs.length ≤ k ∧ ts.length ≤ k ∧
    (ts.map tcont, rs.map Rb.bt) = grp ((bs.map Rb.bt).take k) ([], [])

theorem rgrp_start (w : World) : GrpAt w ((w.alloc (.cells #[] 35)).alloc (.cells #[.slice none 0 0, .bool false] 35)) (w.heap.size + 1) (Lo w.heap.size) none 0 [] (some ⟨w.heap.size, 0, none⟩) 0 [] := by
  have h1 := heap_alloc_new (w.alloc (.cells #[] 35)) (.cells #[.slice none 0 0, .bool false] 35)
  refine ⟨by simpa using h1, by omega, World.ownsRow_nil _ _ _ 4, World.ownsRow.alloc (World.ownsRow_lit w #[] 0 (Nat.le_refl _) (by simp [maxLen]) rfl) _, (fun h => by cases h), ?_, (fun _ h => by cases h), ?_, (fun _ h => by cases h), ?_, (fun b hb => by unfold Lo at hb; simp; omega), fun b hb => hb, (fun _ h => by cases h), (fun _ h => by cases h), ((Below.refl _ _).alloc (Nat.le_refl _) _).alloc (by simp) _⟩
  · rw [ob_some]; intro e; injection e with e; omega
  · unfold Lo; omega
  · intro g hg; rw [ob_some] at hg; injection hg with hg; subst hg; unfold Lo; omega

/-- the beats of 'now' are copied, one more is put behind them, and the copy is stored -/
theorem GrpAt.redo {w W W5 : World} {N : Nat} {P : Nat → Prop} {A1 A2 : Option Addr} {c1 c2 : Nat} {rs : List Rb} {ts : List Rt} (h : GrpAt w W N P A1 c1 rs A2 c2 ts) {A5 : Option Addr} {c5 : Nat} {r : Rb}
    (hown : OwnB W5 W.heap.size A5 c5 (rs ++ [r])) (hb : Below W.heap.size W W5) (hv : StrsAt W P r.V r.bt.vals) :
    GrpAt w (W5.setCell ⟨N, 0, none⟩ (.slice A5 (rs ++ [r]).length c5)) N P A5 c5 (rs ++ [r]) A2 c2 ts := by
  have hlt := h.lt
  have gn5 := box_below hb h.gn
  have hst : Stay P W (W5.setCell ⟨N, 0, none⟩ (.slice A5 (rs ++ [r]).length c5)) := (stay_below hb h.pl).trans (stay_set h.pn)
  have hge : ∀ g, ob A5 = some g → W.heap.size ≤ g := fun g hg => (own_ob hown g hg).1
  refine ⟨?_, h.hN, own_block (Joins.ownsRow_le hown (Nat.le_trans h.hN (Nat.le_of_lt hlt))) fun g hg => Below.heap_setCell _ _ _ _ (by have := hge g hg; simp; omega), own_block (own_block h.o2 fun k hk => hb.block k (own_ob h.o2 k hk).2) fun k hk => Below.heap_setCell _ _ _ _ (by rintro rfl; exact h.n2 hk), ?_, h.n2, fun k hk hk2 => ?_, h.pn, fun k hk hp => ?_, h.p2, fun b hb' => ?_, h.pb, fun r' hr => ?_, fun t ht => (h.vt t ht).stay hst, ?_⟩
  · simp [World.setCell, Array.getElem?_modify, gn5]
  · intro e; have := hge N e; omega
  · have := hge k hk; have := (own_ob h.o2 k hk2).2; omega
  · have := hge k hk; have := h.pl k hp; omega
  · have := h.pl b hb'; have := hb.size; simp; omega
  · rcases List.mem_append.1 hr with hr | hr
    · exact (h.vr r' hr).stay hst
    · simp at hr; subst hr; exact hv.stay hst
  · exact (bstep h.hb hb).setCell (by have := h.hN; simpa using h.hN) _

set_option maxRecDepth 100000 in
set_option maxHeartbeats 4000000 in
theorem rgroup_any (A : Option Addr) (c : Nat) (bs : List Rb) (w : World) (hA : BeatsAt w (Lo w.heap.size) A bs) (hl : bs.length ≤ 40) (hv : ∀ r ∈ bs, r.bt.vals.length * 16 ≤ 140737488355328) :
    Calls Tryz.prog 8 #[.slice A bs.length c] w (RetTs w (bs.map Rb.bt)) := by
  have HV := hide hv
  clear hv
  obtain ⟨i0, hi0, hz0, hz1, hz2⟩ := info_parts infoB
  obtain ⟨j0, hj0, yz0, yz1, yz2⟩ := info_parts infoT
  go_enter Tryz.func8, Tryz.ntmps8
  go_wp2_with fail
  go_loopw [3, 5] (fun out i wr => RGrpRel w bs out i wr) (fun _ i _ => bs.length - (intOf i).toNat)
  case atStart => exact ⟨0, _, none, 0, [], _, 0, [], Nat.zero_le _, rfl, rfl, rgrp_start w, Nat.le_refl _, Nat.le_refl _, rfl⟩
  case round =>
    obtain ⟨k, P, A1, c1, rs, A2, c2, ts, hk, rfl, rfl, hst, hl1, hl2, hgr⟩ := hrel
    by_cases hlt : k < bs.length
    · have HG := hide hgr
      have HST := hide hst
      have hAr := hA.stay (stay_below hst.hb fun b hb => hb)
      obtain ⟨b0, off0, hAe, hb0, q1, q2, q3, q4, q5⟩ := hAr.at_ hlt
      subst hAe
      have HBK := hide (show (bs.map Rb.bt)[k]'(by simpa using hlt) = bs[k].bt by simp)
      clear hgr hAr
      generalize bs[k] = x at *
      obtain ⟨V0, cap0, bt0⟩ := x
      obtain ⟨tm, wt, vals, lst⟩ := bt0
      dsimp only at *
      obtain ⟨n1, n2, n3, n4⟩ := box2 hst.gn
      have hsrc0 := (OwnB.reads (P := fun b => P b ∨ ob A1 = some b) hst.o1 (fun g hg => .inr hg) fun r hr => (hst.vr r hr).more fun _ => .inl)
      have qw4 : w.cell? ⟨b0, off0 + k * 4 + 3, none⟩ = some (.bool lst) := (hst.hb.cell (p := ⟨b0, off0 + k * 4 + 3, none⟩) hb0).symm.trans q4
      clear hst
      have HSRC := hide hsrc0.src
      clear hsrc0
      have hszN := HST.out.lt
      have lb0 : b0 < wr.heap.size := Nat.lt_of_lt_of_le hb0 HST.out.hb.size
      have j0' : (0 : Int) ≤ (k : Int) := Int.natCast_nonneg _
      have j1' : (k : Int) < (bs.length : Int) := by omega
      have hbA : Below wr.heap.size wr (wr.drew.alloc (.cells #[] 27)) := (below_drew (Below.refl _ _)).alloc (Nat.le_refl _) _
      have hbB : Below wr.heap.size wr ((wr.drew.alloc (.cells #[] 27)).alloc (.cells #[.int .i64 tm, .int .i64 wt, .slice V0 vals.length cap0, .bool lst] 27)) := hbA.alloc (by simp) _
      have hbC : Below wr.heap.size wr ((wr.drew.alloc (.cells #[.int .i64 tm, .int .i64 wt, .slice V0 vals.length cap0, .bool lst] 27)).alloc (.cells #[] 27)) := ((below_drew (Below.refl _ _)).alloc (Nat.le_refl _) _).alloc (by simp) _
      have gB : ((wr.drew.alloc (.cells #[] 27)).alloc (.cells #[.int .i64 tm, .int .i64 wt, .slice V0 vals.length cap0, .bool lst] 27)).heap[wr.heap.size + 1]? = some (.cells #[.int .i64 tm, .int .i64 wt, .slice V0 vals.length cap0, .bool lst] 27 (0, 0)) := by
        have h := heap_alloc_new (wr.drew.alloc (.cells #[] 27)) (.cells #[.int .i64 tm, .int .i64 wt, .slice V0 vals.length cap0, .bool lst] 27)
        rw [show (wr.drew.alloc (.cells #[] 27)).heap.size = wr.heap.size + 1 by simp] at h
        exact h
      have gC : ((wr.drew.alloc (.cells #[.int .i64 tm, .int .i64 wt, .slice V0 vals.length cap0, .bool lst] 27)).alloc (.cells #[] 27)).heap[wr.heap.size]? = some (.cells #[.int .i64 tm, .int .i64 wt, .slice V0 vals.length cap0, .bool lst] 27 (0, 0)) := box_alloc (heap_alloc_new wr.drew (.cells #[.int .i64 tm, .int .i64 wt, .slice V0 vals.length cap0, .bool lst] 27))
      have hownC : ((wr.drew.alloc (.cells #[.int .i64 tm, .int .i64 wt, .slice V0 vals.length cap0, .bool lst] 27)).alloc (.cells #[] 27)).ownsRow wr.heap.size 27 4 (.slice (some ⟨wr.heap.size + 1, 0, none⟩) 0 0) 0 [] := by
        have h := World.ownsRow_lit (base := wr.heap.size) (e := 27) (size := 4) (wr.drew.alloc (.cells #[.int .i64 tm, .int .i64 wt, .slice V0 vals.length cap0, .bool lst] 27)) #[] 0 (by simp) (by simp [maxLen]) rfl
        rw [show (wr.drew.alloc (.cells #[.int .i64 tm, .int .i64 wt, .slice V0 vals.length cap0, .bool lst] 27)).heap.size = wr.heap.size + 1 by simp] at h
        exact h
      have HOC := hide hownC
      clear hownC
      have HGB := hide gB
      have HGC := hide gC
      clear gB gC
      go_upto_region 6 with (fail)
      go_cut [4] (fun v wx => v = .pointer (some ⟨w.heap.size + 1, 0, none⟩) ∧ ∃ A5 c5, GrpAt w wx (w.heap.size + 1) P A5 c5 (rs ++ [(⟨V0, cap0, ⟨tm, wt, vals, lst⟩⟩ : Rb)]) A2 c2 ts)
      case first =>
        have SB : ∀ wx : World, Below wr.heap.size wr wx → wx.cell? ⟨w.heap.size + 1, 0, none⟩ = some (.slice A1 rs.length c1) ∧ wx.cell? ⟨b0, off0 + k * 4, none⟩ = some (.int .i64 tm) ∧ wx.cell? ⟨b0, off0 + k * 4 + 1, none⟩ = some (.int .i64 wt) ∧ wx.cell? ⟨b0, off0 + k * 4 + 2, none⟩ = some (.slice V0 vals.length cap0) ∧ wx.cell? ⟨b0, off0 + k * 4 + 3, none⟩ = some (.bool lst) := fun wx hb => ⟨(hb.cell (p := ⟨_, _, none⟩) hszN).trans n1, (hb.cell (p := ⟨_, _, none⟩) lb0).trans q1, (hb.cell (p := ⟨_, _, none⟩) lb0).trans q2, (hb.cell (p := ⟨_, _, none⟩) lb0).trans q3, (hb.cell (p := ⟨_, _, none⟩) lb0).trans q4⟩
        have HSB := hide SB
        clear SB
        obtain ⟨y1, y2, y3, y4, y5⟩ := HSB.out ((wr.alloc (.cells #[] 27)).alloc (.cells #[.int .i64 tm, .int .i64 wt, .slice V0 vals.length cap0, .bool lst] 27)) (((Below.refl _ _).alloc (Nat.le_refl _) _).alloc (by simp) _)
        obtain ⟨x1, x2, x3, x4, x5⟩ := HSB.out ((wr.alloc (.cells #[.int .i64 tm, .int .i64 wt, .slice V0 vals.length cap0, .bool lst] 27)).alloc (.cells #[] 27)) (((Below.refl _ _).alloc (Nat.le_refl _) _).alloc (by simp) _)
        go_region_law
          (first
            | (refine step_append_src rfl (.tmp 14) (.tmp 16) 22 rfl wr.heap.size 27 i0 _ 4 48 Tryz.underlying22 hi0 hz0 hz1 hz2 rfl (by decide) (.slice (some ⟨_, 0, none⟩) 0 0) 0 [] rfl (by first | exact HOC.out | exact World.ownsRow_lit _ #[] 0 (Nat.le_refl _) (by simp [maxLen]) rfl | exact World.ownsRow.alloc (World.ownsRow_lit _ #[] 0 (Nat.le_refl _) (by simp [maxLen]) rfl) _) A1 rs.length c1 (encBs rs) rfl (flat_len encB 4 (fun _ => rfl) _) (by first | exact src_below hbA HSRC.out | exact src_below hbB HSRC.out | exact src_below hbC HSRC.out) (encBs_one rs) (by simp only [maxLen]; omega) (by omega) (by first | (simp; done) | (simp; omega)) ?_
               intro v4 w4 hown4 hg4
               have hb4 : Below wr.heap.size wr w4 := by
                 first
                   | exact hbA.grown hg4 (by simp) (fun k hk => by simp [Value.ownBlock] at hk; omega)
                   | exact hbB.grown hg4 (by simp; omega) (fun k hk => by simp [Value.ownBlock] at hk; omega)
                   | exact hbC.grown hg4 (by simp; omega) (fun k hk => by simp [Value.ownBlock] at hk; omega)
               obtain ⟨A4, c4, rfl, ho4⟩ := ownB_row (rs := rs) (by simpa using hown4)
               try (have gm4 := box_grown (N := wr.heap.size + 1) HGB.out hg4 (by simp [Value.ownBlock]))
               try (have gm4 := box_grown (N := wr.heap.size) HGC.out hg4 (by simp [Value.ownBlock]))
               obtain ⟨s1, s2, s3, s4, s5⟩ := HSB.out w4 hb4
               clear hown4 hg4)
            | (refine step_append_src rfl (.tmp 17) (.tmp 22) 22 rfl wr.heap.size 27 i0 _ 4 48 Tryz.underlying22 hi0 hz0 hz1 hz2 rfl (by decide) (.slice A4 rs.length c4) rs.length (encBs rs) rfl (by first | exact ho4 | exact World.ownsRow.alloc ho4 _) _ 1 1 (encB ⟨V0, cap0, ⟨tm, wt, vals, lst⟩⟩) rfl rfl (by first | exact src_block (t := 27) (fr := (0, 0)) gm4 | exact src_block (t := 27) (fr := (0, 0)) (heap_alloc_new w4 _)) (by simp [encB, Value.oneCell']) (by simp only [maxLen]; omega) (by omega) (by have := hb4.size; simp; omega) ?_
               intro v5 w5 hown5 hg5
               have hb5 : Below wr.heap.size wr w5 := by
                 first
                   | exact hb4.grown hg5 hb4.size (fun k hk => (own_ob ho4 k (by rw [ob_eq] at hk; exact hk)).1)
                   | exact (hb4.alloc hb4.size _).grown hg5 (by have := hb4.size; simp; omega) (fun k hk => (own_ob ho4 k (by rw [ob_eq] at hk; exact hk)).1)
               obtain ⟨A5, c5, rfl, ho5⟩ := ownB_row (rs := rs ++ [⟨V0, cap0, ⟨tm, wt, vals, lst⟩⟩]) (by rw [encBs_snoc, List.length_append]; exact hown5)
               have f5 : w5.frozen? ⟨w.heap.size + 1, 0, none⟩ = false := (hb5.frozen (p := ⟨_, _, none⟩) hszN).trans n3
               obtain ⟨t1, _⟩ := HSB.out w5 hb5
               clear hown5 hg5)
            | fail)
        all_goals
          have hfin := HST.out.redo (r := ⟨V0, cap0, ⟨tm, wt, vals, lst⟩⟩) ho5 hb5 (q5.more fun b hb => HST.out.pb b hb)
          rw [List.length_append] at hfin
          go_wp2_with fail
          go_meet
          exact ⟨rfl, A5, c5, hfin⟩
      case rest =>
        rcases hcut with ⟨rfl, A5, c5, hst5⟩
        have q4' : wc.cell? ⟨b0, off0 + k * 4 + 3, none⟩ = some (.bool lst) := (hst5.hb.cell (p := ⟨b0, off0 + k * 4 + 3, none⟩) hb0).trans qw4
        have HS6 := hide hst5
        obtain ⟨u1, u2, u3, u4⟩ := box2 hst5.gn
        have hlt6 := hst5.lt
        have HLR := hide (show (rs ++ [(⟨V0, cap0, ⟨tm, wt, vals, lst⟩⟩ : Rb)]).length = rs.length + 1 by simp)
        rw [HLR.out] at u1
        clear hst5 HST q1 q2 q3 q4 q5 HGB HGC HOC hbA hbB hbC HSRC n1 n2 n3 n4 qw4
        cases lst
        · go_wp2_with fail
          go_roundw
          case rel =>
            refine ⟨k + 1, P, A5, c5, rs ++ [⟨V0, cap0, ⟨tm, wt, vals, false⟩⟩], A2, c2, ts, by omega, by go_num, rfl, HS6.out, by rw [HLR.out]; omega, by omega, ?_⟩
            rw [grp_take_succ _ _ (by simpa using hlt), HBK.out, ← HG.out]
            simp
          case measure => simp [intOf]; omega
        · have HO6 := hide (show OwnT (wc.setCell ⟨w.heap.size + 1, 1, none⟩ (.bool true)) w.heap.size A2 c2 ts from own_block HS6.out.o2 fun k hk => Below.heap_setCell _ _ _ _ (by rintro rfl; exact HS6.out.n2 hk))
          have HB6 := hide (show ((wc.setCell ⟨w.heap.size + 1, 1, none⟩ (.bool true)).alloc (.cells #[.slice A5 (rs.length + 1) c5, .bool true] 35)).heap[wc.heap.size]? = some (.cells #[.slice A5 (rs.length + 1) c5, .bool true] 35 (0, 0)) by
            have := heap_alloc_new (wc.setCell ⟨w.heap.size + 1, 1, none⟩ (.bool true)) (.cells #[.slice A5 (rs.length + 1) c5, .bool true] 35)
            simpa using this)
          go_wp2_with (at_builtin; (refine wpList_append_lies _ rfl _ _ 29 rfl w.heap.size 35 j0 _ 2 32 Tryz.underlying29 hj0 yz0 yz1 yz2 rfl (by decide) (.slice A2 ts.length c2) ts.length (encTs ts) rfl (World.ownsRow.alloc HO6.out _) ⟨wc.heap.size, 0, none⟩ 1 1 [.slice A5 (rs.length + 1) c5, .bool true] rfl rfl (World.news_of_block HB6.out) (by simp [Value.oneCell']) (by omega) (by simp only [maxLen]; omega) (by omega) (by simp; omega) (wc.heap.size + 1) (by simp) ?_); intro g2 e2 w7 hown7 hg7 hat7 hlt7; rw [ob_eq] at hg7 hat7; obtain ⟨gn7, hst7⟩ := HS6.out.done hg7 (ownT_of (t := ⟨A5, c5, rs ++ [⟨V0, cap0, ⟨tm, wt, vals, true⟩⟩], true⟩) (by unfold encT; rw [HLR.out]; exact hown7)) hat7; obtain ⟨k1, k2, k3, k4⟩ := box2 gn7; have HS7 := hide hst7; clear hst7)
          go_roundw
          case rel =>
            refine ⟨k + 1, _, none, 0, [], some ⟨g2, 0, none⟩, e2, ts ++ [⟨A5, c5, rs ++ [⟨V0, cap0, ⟨tm, wt, vals, true⟩⟩], true⟩], by omega, by go_num, by simp, HS7.out, by simp, by simp; omega, ?_⟩
            rw [grp_take_succ _ _ (by simpa using hlt), HBK.out, ← HG.out]
            simp [tcont]
          case measure => simp [intOf]; omega
    · have hke : k = bs.length := by omega
      subst hke
      have HG := hide hgr
      obtain ⟨n1, n2, n3, n4⟩ := box2 hst.gn
      have HS := hide hst
      have hlt6 := hst.lt
      have HT := hide (show (bs.map Rb.bt).take bs.length = bs.map Rb.bt from List.take_of_length_le (by simp))
      clear hst hgr
      by_cases h0 : rs.length = 0
      · have hrs : rs = [] := List.eq_nil_of_length_eq_zero h0
        have HR := hide hrs
        clear hrs
        rw [h0] at n1
        clear h0
        go_wp2_with fail
        go_ret
        refine ⟨A2, c2, ts, rfl, HS.out.reads, HS.out.hb, ?_⟩
        have := HG.out
        rw [HT.out, HR.out] at this
        unfold groupL grpEnd
        rw [← this]
        simp
      · have hpos : 0 < rs.length := by omega
        have HB6 := hide (heap_alloc_new wr (.cells #[.slice A1 rs.length c1, .bool false] 35))
        go_wp2_with (at_builtin; (refine wpList_append_lies _ rfl _ _ 29 rfl w.heap.size 35 j0 _ 2 32 Tryz.underlying29 hj0 yz0 yz1 yz2 rfl (by decide) (.slice A2 ts.length c2) ts.length (encTs ts) rfl (World.ownsRow.alloc HS.out.o2 _) ⟨wr.heap.size, 0, none⟩ 1 1 [.slice A1 rs.length c1, .bool false] rfl rfl (World.news_of_block HB6.out) (by simp [Value.oneCell']) (by omega) (by simp only [maxLen]; omega) (by omega) (by simp; omega) (wr.heap.size + 1) (by simp) ?_); intro g2 e2 w7 hown7 hg7 hat7 hlt7; rw [ob_eq] at hg7; obtain ⟨ht7, hb7⟩ := HS.out.last hg7 (ownT_of (t := ⟨A1, c1, rs, false⟩) hown7))
        go_ret
        refine ⟨some ⟨g2, 0, none⟩, e2, ts ++ [⟨A1, c1, rs, false⟩], by simp, ht7, hb7, ?_⟩
        have := HG.out
        rw [HT.out] at this
        unfold groupL grpEnd
        rw [← this]
        have hne : rs.map Rb.bt ≠ [] := by
          intro e
          have : rs = [] := by simpa using e
          rw [this] at hpos
          exact Nat.lt_irrefl _ hpos
        rw [if_neg hne]
        simp [tcont]

end Go.Proofs.YtlockjbhdibojaaGreatDoor
