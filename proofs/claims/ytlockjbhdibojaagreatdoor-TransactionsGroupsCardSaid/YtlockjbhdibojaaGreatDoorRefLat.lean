/-
  wavestoreref57.Latencies and wavestoreref46.Ints.
-/
import Derived.Test.YtlockjbhdibojaaGreatDoorLat
namespace Go.Proofs.YtlockjbhdibojaaGreatDoor
open Go.RowKit

set_option maxRecDepth 100000 in
set_option maxHeartbeats 2000000 in
theorem ints_true (P P' : Nat → Prop) (A B : Option Addr) (c d : Nat) (vs : List Int) (w : World) (ha : IntsAt w P A vs) (hb : IntsAt w P' B vs) (hl : vs.length ≤ 1000000) :
    Calls Tryz.prog 9 #[.slice A vs.length c, .slice B vs.length d] w fun e w' => e = .returned (.bool true) ∧ Below w.heap.size w w' := by
  go_enter Tryz.func9, Tryz.ntmps9
  go_wp2_with fail
  go_loopw [5] (fun i wr => TxRel w vs.length i wr) (fun i _ => vs.length - (intOf i).toNat)
  case atStart => exact ⟨0, 0, Nat.zero_le _, rfl, rfl⟩
  case round =>
    obtain ⟨k, q, hk, rfl, rfl⟩ := hrel
    by_cases hlt : k < vs.length
    · obtain ⟨b1, o1, hAe, _, q1⟩ := ha.at_ hlt
      obtain ⟨b2, o2, hBe, _, q2⟩ := hb.at_ hlt
      subst hAe hBe
      generalize vs[k] = s at *
      have j0 : (0 : Int) ≤ (k : Int) := Int.natCast_nonneg _
      have j1 : (k : Int) < (vs.length : Int) := by omega
      have hq1 : (w.drewN q).cell? ⟨b1, o1 + k, none⟩ = some (.int .i64 s) := q1
      have hq2 : (w.drewN q).cell? ⟨b2, o2 + k, none⟩ = some (.int .i64 s) := q2
      go_wp2_with fail
      go_quiet (fail)
      go_wp2_with fail
      go_roundw
      case rel => exact ⟨k + 1, q + nq, by omega, by go_num, by simp [World.drewN]⟩
      case measure => simp [intOf]; omega
    · go_wp2_with fail
      go_ret
      exact ⟨rfl, below_drewN (Below.refl _ _) q⟩

def RLatIn (wo : World) (t : Int) (bs : List Bt) (best found i : Value) (wr : World) : Prop :=
  ∃ (k q : Nat) (m : Int) (f : Bool), k ≤ bs.length ∧ i = .int .i64 k ∧ best = .int .i64 m ∧ found = .bool f ∧ wr = wo.drewN q ∧ Tm m ∧ (f = true → t ≤ m ∧ latOf t (bs.take k) = m - t) ∧ (f = false → latOf t (bs.take k) = -1)

set_option maxRecDepth 100000 in
set_option maxHeartbeats 4000000 in
theorem rlat_any (A B : Option Addr) (c d : Nat) (ts : List Int) (rs : List Rb) (w : World) (ha : IntsAt w (Lo w.heap.size) A ts) (hb : BeatsAt w (Lo w.heap.size) B rs) (hl : ts.length ≤ 40) (hr : rs.length ≤ 40) (ht : ∀ t ∈ ts, Tm t) (hbt : ∀ r ∈ rs, Tm r.bt.time) :
    Calls Tryz.prog 11 #[.slice A ts.length c, .slice B rs.length d] w (RetInts w (ts.map fun t => latOf t (rs.map Rb.bt))) := by
  have HT := hide ht
  have HB := hide (show ∀ b ∈ rs.map Rb.bt, Tm b.time from fun b hb => by obtain ⟨r, hr, rfl⟩ := List.mem_map.1 hb; exact hbt r hr)
  clear ht hbt
  obtain ⟨i0, hi0, hz0, hz1, hz2⟩ := info_parts infoInt
  go_enter Tryz.func11, Tryz.ntmps11
  go_wp2_with fail
  go_loopw [5, 6, 7, 8, 9] (fun out i _ _ _ wr => LatRel w ts (rs.map Rb.bt) out i wr) (fun _ i _ _ _ _ => ts.length - (intOf i).toNat)
  case atStart => exact ⟨0, some ⟨w.heap.size, 0, none⟩, 0, Nat.zero_le _, rfl, rfl, World.ownsRow_lit w #[] 0 (Nat.le_refl _) (by simp [maxLen]) rfl, (Below.refl _ _).alloc (Nat.le_refl _) _⟩
  case round =>
    obtain ⟨k, A2, c2, hk, rfl, rfl, hown, hbr⟩ := hrel
    by_cases hlt : k < ts.length
    · obtain ⟨wo, rfl⟩ : ∃ wo : World, wo = wr := ⟨_, rfl⟩
      obtain ⟨b1, o1, hAe, hb1, q1⟩ := (ha.stay (stay_below hbr fun _ h => h)).at_ hlt
      subst hAe
      have htk := HT.out _ (List.getElem_mem hlt)
      have HTK := hide (show ts.take (k + 1) = ts.take k ++ [ts[k]] from List.take_succ_eq_append_getElem hlt)
      generalize ts[k] = t at *
      obtain ⟨t1, t2⟩ := htk
      have hbw := hb.stay (stay_below hbr fun _ h => h)
      have j0 : (0 : Int) ≤ (k : Int) := Int.natCast_nonneg _
      have j1 : (k : Int) < (ts.length : Int) := by omega
      go_wp2_with fail
      go_loopw [7, 8, 9] (fun best found i wr => RLatIn wo t (rs.map Rb.bt) best found i wr) (fun _ _ i _ => rs.length - (intOf i).toNat)
      case atStart => exact ⟨0, 0, 0, false, Nat.zero_le _, rfl, rfl, rfl, rfl, ⟨by omega, by omega⟩, (fun h => by cases h), fun _ => rfl⟩
      case round =>
        obtain ⟨j, q, m, f, hj, rfl, rfl, rfl, rfl, hm, hf1, hf0⟩ := hrel
        have hjl : j ≤ rs.length := by simpa using hj
        unfold Tm at hm
        obtain ⟨m1, m2⟩ := hm
        by_cases hlj : j < rs.length
        · obtain ⟨b2, o2, hBe, hb2, p1, _⟩ := hbw.at_ hlj
          subst hBe
          have HS := hide (latOf_take t (rs.map Rb.bt) j (by simpa using hlj))
          have HRJ := hide (show (rs.map Rb.bt)[j]'(by simpa using hlj) = rs[j].bt by simp)
          have hbj2 := HB.out rs[j].bt (List.mem_map.2 ⟨rs[j], List.getElem_mem hlj, rfl⟩)
          unfold Tm at hbj2
          obtain ⟨z1, z2⟩ := hbj2
          have HF1 := hide hf1
          have HF0 := hide hf0
          clear hf1 hf0
          generalize latOf t ((rs.map Rb.bt).take j) = l0 at *
          generalize hx : rs[j].bt = x at *
          clear hx
          have y0 : (0 : Int) ≤ (j : Int) := Int.natCast_nonneg _
          have y1 : (j : Int) < (rs.length : Int) := by omega
          have hq1 : (wo.drewN q).cell? ⟨b1, o1 + k, none⟩ = some (.int .i64 t) := q1
          have hp1 : (wo.drewN q).cell? ⟨b2, o2 + j * 4, none⟩ = some (.int .i64 x.time) := p1
          by_cases h1 : t ≤ x.time
          · have d1 : decide (t ≤ x.time) = true := decide_eq_true h1
            cases f
            · go_wp2_with fail
              go_quiet (fail)
              go_wp2_with fail
              go_roundw
              case rel => exact ⟨j + 1, q + nq, x.time, true, by simp; omega, by go_num, rfl, rfl, by simp [World.drewN], ⟨z1, z2⟩, (fun _ => ⟨h1, by have := HF0.out (by first | exact rfl | trivial); rw [HS.out, HRJ.out, latStep, if_pos ⟨h1, .inl (by omega)⟩]⟩), (fun h => by cases h)⟩
              case measure => simp [intOf]; omega
            · by_cases h3 : x.time < m
              · have d3 : decide (x.time < m) = true := decide_eq_true h3
                go_wp2_with fail
                go_quiet (fail)
                go_wp2_with fail
                go_roundw
                case rel => exact ⟨j + 1, q + nq, x.time, true, by simp; omega, by go_num, rfl, rfl, by simp [World.drewN], ⟨z1, z2⟩, (fun _ => ⟨h1, by have := HF1.out (by first | exact rfl | trivial); rw [HS.out, HRJ.out, latStep, if_pos ⟨h1, .inr (by omega)⟩]⟩), (fun h => by cases h)⟩
                case measure => simp [intOf]; omega
              · have d3 : decide (x.time < m) = false := decide_eq_false h3
                go_wp2_with fail
                go_quiet (fail)
                go_wp2_with fail
                go_roundw
                case rel => exact ⟨j + 1, q + nq, m, true, by simp; omega, by go_num, rfl, rfl, by simp [World.drewN], ⟨m1, m2⟩, (fun _ => by have := HF1.out (by first | exact rfl | trivial); exact ⟨this.1, by rw [HS.out, HRJ.out, latStep, if_neg (by omega)]; exact this.2⟩), (fun h => by cases h)⟩
                case measure => simp [intOf]; omega
          · have d1 : decide (t ≤ x.time) = false := decide_eq_false h1
            go_wp2_with fail
            go_quiet (fail)
            go_wp2_with fail
            go_roundw
            case rel => exact ⟨j + 1, q + nq, m, f, by simp; omega, by go_num, rfl, rfl, by simp [World.drewN], ⟨m1, m2⟩, (fun h => by have := HF1.out h; exact ⟨this.1, by rw [HS.out, HRJ.out, latStep, if_neg (by omega)]; exact this.2⟩), (fun h => by rw [HS.out, HRJ.out, latStep, if_neg (by omega)]; exact HF0.out h)⟩
            case measure => simp [intOf]; omega
        · have hje : j = rs.length := by omega
          subst hje
          have hA : (rs.map Rb.bt).take rs.length = rs.map Rb.bt := List.take_of_length_le (by simp)
          rw [hA] at hf1 hf0
          clear hA
          have HLK := hide (show k = ((ts.take k).map fun t => latOf t (rs.map Rb.bt)).length by simp; omega)
          have HOW := hide (show OwnI (wo.drewN q) w.heap.size A2 c2 ((ts.take k).map fun t => latOf t (rs.map Rb.bt)) from hown)
          have hsz : w.heap.size ≤ wo.heap.size := hbr.size
          have hq1 : (wo.drewN q).cell? ⟨b1, o1 + k, none⟩ = some (.int .i64 t) := q1
          cases f
          · have HV := hide (hf0 rfl)
            clear hf0 hf1
            go_wp2_with (at_builtin; (refine wpList_append_lies _ rfl _ _ 23 rfl w.heap.size 3 i0 _ 1 8 Tryz.underlying23 hi0 hz0 hz1 hz2 rfl (by decide) (.slice A2 k c2) k (((ts.take k).map fun t => latOf t (rs.map Rb.bt)).map (Value.int .i64)) rfl (World.ownsRow.alloc (own_len HLK.out HOW.out) _) ⟨(wo.drewN q).heap.size, 0, none⟩ 1 1 [.int .i64 (-1)] rfl rfl (World.news_of_block (heap_alloc_new (wo.drewN q) _)) (by simp [Value.oneCell']) (by omega) (by simp only [maxLen]; omega) (by omega) (by have := hsz; simp; omega) ((wo.drewN q).heap.size + 1) (by simp) ?_); intro g2 e2 w7 hown7 hg7 hat7 hlt7; rw [ob_eq] at hg7)
            go_roundw
            case rel =>
              refine ⟨k + 1, some ⟨g2, 0, none⟩, e2, by omega, by go_num, rfl, ?_, ?_⟩
              · rw [HTK.out, List.map_append]
                refine ownI_of (zs := (ts.take k).map fun t => latOf t (rs.map Rb.bt)) (z := latOf t (rs.map Rb.bt)) ?_
                rw [← HLK.out, HV.out]
                exact hown7
              · exact ((below_drewN hbr q).alloc (by have := hsz; simpa using this) _).grown hg7 (by have := hsz; simp; omega) (fun g hg => (own_ob hown g hg).1)
            case measure => simp [intOf]; omega
          · have HV := hide (hf1 rfl).2
            have htm := (hf1 rfl).1
            clear hf0 hf1
            go_wp2_with (at_builtin; (refine wpList_append_lies _ rfl _ _ 23 rfl w.heap.size 3 i0 _ 1 8 Tryz.underlying23 hi0 hz0 hz1 hz2 rfl (by decide) (.slice A2 k c2) k (((ts.take k).map fun t => latOf t (rs.map Rb.bt)).map (Value.int .i64)) rfl (World.ownsRow.alloc (own_len HLK.out HOW.out) _) ⟨(wo.drewN q).heap.size, 0, none⟩ 1 1 [.int .i64 (m - t)] rfl rfl (World.news_of_block (heap_alloc_new (wo.drewN q) _)) (by simp [Value.oneCell']) (by omega) (by simp only [maxLen]; omega) (by omega) (by have := hsz; simp; omega) ((wo.drewN q).heap.size + 1) (by simp) ?_); intro g2 e2 w7 hown7 hg7 hat7 hlt7; rw [ob_eq] at hg7)
            go_roundw
            case rel =>
              refine ⟨k + 1, some ⟨g2, 0, none⟩, e2, by omega, by go_num, rfl, ?_, ?_⟩
              · rw [HTK.out, List.map_append]
                refine ownI_of (zs := (ts.take k).map fun t => latOf t (rs.map Rb.bt)) (z := latOf t (rs.map Rb.bt)) ?_
                rw [← HLK.out, HV.out]
                exact hown7
              · exact ((below_drewN hbr q).alloc (by have := hsz; simpa using this) _).grown hg7 (by have := hsz; simp; omega) (fun g hg => (own_ob hown g hg).1)
            case measure => simp [intOf]; omega
    · have hke : k = ts.length := by omega
      subst hke
      go_wp2_with fail
      go_ret
      have e : ts.take ts.length = ts := List.take_length
      rw [e] at hown
      exact ⟨A2, c2, by simp, hown.reads, hbr⟩

end Go.Proofs.YtlockjbhdibojaaGreatDoor
