/-
  intervals.Clip: the normal list of the times of a list that are in a range.
-/
import Derived.Test.YtdlebcijgdkfjaaGreatDoorSort
namespace Go.Proofs.YtdlebcijgdkfjaaGreatDoor
open Go.RowKit Go.Joins

def ClipRel (w : World) (lo hi : Int) (xs : List Iv) (i : Value) (wr : World) : Prop :=
  ∃ (k : Nat) (A : Option Addr) (c : Nat), k ≤ xs.length ∧ i = .int .i64 k ∧ wr.heap[w.heap.size]? = some (.cells #[.slice A (clipped lo hi (xs.take k)).length c] 43 (0, 0)) ∧
    OwnIv wr (w.heap.size + 1) A c (clipped lo hi (xs.take k)) ∧ Below w.heap.size w wr

def ClipRel2 (w2 : World) (d : List Iv) (out i : Value) (wr : World) : Prop :=
  ∃ (k : Nat) (A : Option Addr) (c : Nat), k ≤ d.length ∧ i = .int .i64 k ∧ out = .slice A (merged (d.take k)).length c ∧ OwnIv wr w2.heap.size A c (merged (d.take k)) ∧ Below w2.heap.size w2 wr

theorem clipped_take_succ (lo hi : Int) (xs : List Iv) (k : Nat) (hk : k < xs.length) : clipped lo hi (xs.take (k + 1)) = clipped lo hi (xs.take k) ++ if max xs[k].1 lo ≤ min xs[k].2 hi then [(max xs[k].1 lo, min xs[k].2 hi)] else [] := by
  rw [List.take_succ_eq_append_getElem hk, clipped_snoc]; rfl

theorem snoc_cases (ms : List Iv) : ms = [] ∨ ∃ init z, ms = init ++ [z] := by
  cases h : ms.getLast? with
  | none => exact .inl (by simpa using h)
  | some z => exact .inr ⟨_, z, getLast?_snoc_of h⟩
theorem mergeStep_nil (x : Iv) : mergeStep [] x = [x] := rfl
theorem mergeStep_le (init : List Iv) (z x : Iv) (h : x.1 ≤ z.2 + 1) : mergeStep (init ++ [z]) x = init ++ [(z.1, max z.2 x.2)] := by
  unfold mergeStep; simp [h]
theorem mergeStep_gt (init : List Iv) (z x : Iv) (h : ¬ x.1 ≤ z.2 + 1) : mergeStep (init ++ [z]) x = (init ++ [z]) ++ [x] := by
  unfold mergeStep; simp [h]
theorem merged_take_succ (xs : List Iv) (k : Nat) (hk : k < xs.length) : merged (xs.take (k + 1)) = mergeStep (merged (xs.take k)) xs[k] := by
  rw [List.take_succ_eq_append_getElem hk, merged_snoc]

set_option maxRecDepth 100000 in
set_option maxHeartbeats 2000000 in
theorem clip_any (A : Option Addr) (c : Nat) (xs : List Iv) (lo hi : Int) (w : World) (h : IvsAt w w.heap.size A xs) (hl : xs.length ≤ 4398046511104) :
    Calls Tryz.prog 21 #[.slice A xs.length c, .int .i64 lo, .int .i64 hi] w (RetIvs w fun t => lo ≤ t ∧ t ≤ hi ∧ Mem xs t) := by
  go_enter Tryz.func21, Tryz.ntmps21
  go_wp2
  go_loopw [20] (fun i wr => ClipRel w (max lo 0) (min hi 1099511627776) xs i wr) (fun i _ => xs.length - (intOf i).toNat)
  case atStart => exact ⟨0, none, 0, Nat.zero_le _, rfl, by have := heap_alloc_new w (.cells #[.slice none 0 0] 43); simpa [clipped] using this, by simpa [clipped] using OwnIv.nil _ _, (Below.refl _ _).alloc (Nat.le_refl _) _⟩
  case round =>
    obtain ⟨k, A1, c1, hk, rfl, hbox, hown, hb⟩ := hrel
    have hyl : (clipped (max lo 0) (min hi 1099511627776) (xs.take k)).length ≤ 4398046511104 := by
      have := clipped_len (max lo 0) (min hi 1099511627776) (xs.take k); have := List.length_take_le k xs; omega
    have hcb := box_cell hbox
    have hlb := box_lt hbox
    by_cases hlt : k < xs.length
    · obtain ⟨b, off, rfl, hbb, hc1, hc2⟩ := (h.below hb).at_ hlt
      have HS := hide (clipped_take_succ (max lo 0) (min hi 1099511627776) xs k hlt)
      generalize hys : clipped (max lo 0) (min hi 1099511627776) (xs.take k) = ys at *
      clear hys
      have HBOX := hide hbox
      clear hbox
      go_wp2_with (at_builtin; refine append_iv rfl _ _ rfl (w.heap.size + 1) A1 c1 ys _ rfl rfl (max xs[k].1 (max lo 0)) (min xs[k].2 (min hi 1099511627776)) _ rfl _ rfl (by simp) (hown.alloc _) hyl (by simp; omega) ?_
                   intro g' c' w1 row hown1 hg' hgrow hrow
                   have hbox1 := box_grownB (box_alloc (box_alloc HBOX.out)) hgrow hrow (Nat.lt_succ_self _)
                   have HB1 := hide hbox1
                   have hcb1 := box_cell hbox1
                   have hfb1 := box_frozen hbox1
                   clear hbox1)
      · go_roundw
        case rel =>
          refine ⟨k + 1, some ⟨g', 0, none⟩, c', by omega, by go_num, ?_, ?_, ?_⟩
          · rw [HS.out, if_pos ‹_›, List.length_append]
            exact box_set1 HB1.out
          · rw [HS.out, if_pos ‹_›]
            exact ownsRow_setCell_below hown1 (by simp) _
          · exact (((hb.alloc hb.size _).alloc (by have := hb.size; simp; omega) _).grown hgrow (by have := hb.size; simp; omega) (fun k hk => by have := hrow k hk; omega)).setCell (p := ⟨w.heap.size, 0, none⟩) (Nat.le_refl _) _
        case measure => simp [intOf]; omega
      · go_roundw
        case rel =>
          refine ⟨k + 1, A1, c1, by omega, by go_num, ?_, ?_, ?_⟩
          · rw [HS.out, if_neg (by omega), List.append_nil]
            exact box_alloc HBOX.out
          · rw [HS.out, if_neg (by omega), List.append_nil]
            exact hown.alloc _
          · exact hb.alloc hb.size _
        case measure => simp [intOf]; omega
    · have hke : k = xs.length := by omega
      subst hke
      rw [List.take_length] at *
      generalize hys : clipped (max lo 0) (min hi 1099511627776) xs = ys at *
      have HYS := hide hys
      clear hys
      have HBOX := hide hbox
      clear hbox
      go_wp2_with (go_at_call 65; refine (sort_any (w.heap.size + 1) w.heap.size (.slice A1 ys.length c1) ys _ hown (by omega) (by omega) hcb (by omega)).mono ?_; rintro e w2 ⟨rfl, d, hperm, hsort, hown2, hb2⟩
                   have hcb2 := (hb2.cell (p := ⟨w.heap.size, 0, none⟩) (by simp)).trans hcb)
      have HLEN := hide hperm.length_eq
      have hld : d.length ≤ ys.length := Nat.le_of_eq hperm.length_eq
      have hld' : ys.length ≤ d.length := Nat.le_of_eq hperm.length_eq.symm
      have hokd : ∀ x ∈ d, Okv x := fun x hx => clipped_ok (max lo 0) (min hi 1099511627776) xs (by omega) (by omega) x (by rw [HYS.out]; exact hperm.mem_iff.1 hx)
      have hrd : IvsAt w2 w2.heap.size A1 d := (show OwnIv w2 (w.heap.size + 1) A1 c1 d by unfold OwnIv; rw [hperm.length_eq] at hown2 ⊢; exact hown2).ats
      have hmn : ∀ k, Norm (merged (d.take k)) := fun k => (merged_spec _ (fun x hx => hokd x (List.mem_of_mem_take hx)) (hsort.sublist (List.take_sublist k d))).1
      have hwr : Below w.heap.size w w2 := hb.trans (hb2.mono (by omega))
      have HP := hide hperm
      have HSO := hide hsort
      clear hperm hsort hown2 hown h hb HBOX hb2
      go_loopw [10, 50] (fun out i wr2 => ClipRel2 w2 d out i wr2) (fun _ i _ => d.length - (intOf i).toNat)
      case atStart => exact ⟨0, none, 0, Nat.zero_le _, rfl, rfl, OwnIv.nil _ _, Below.refl _ _⟩
      case round =>
        rename_i wr' _ _ _ _ _
        obtain ⟨k, A3, c3, hk3, rfl, rfl, hown3, hb3⟩ := hrel
        by_cases hlt3 : k < d.length
        · obtain ⟨b, off, rfl, hbb, hc1, hc2⟩ := (hrd.below hb3).at_ hlt3
          have HS := hide (merged_take_succ d k hlt3)
          have hnm := hmn k
          have hml := norm_len hnm
          have hox := hokd d[k] (List.getElem_mem _)
          unfold Okv at hox
          generalize hms : merged (d.take k) = ms at *
          clear hms
          rcases snoc_cases ms with rfl | ⟨init, z, rfl⟩
          · have hd0 : decide ((0:Int) < 0) = false := by decide
            go_wp2
            go_quiet (fail)
            go_wp2_with (at_builtin; (refine append_iv rfl _ _ rfl w2.heap.size A3 c3 [] _ rfl rfl d[k].1 d[k].2 _ rfl _ rfl (by simp) (hown3.alloc _) (by simp) (by have := hb3.size; simp; omega) ?_)
                         intro g' c' w1 row hown1 hg' hgrow hrow)
            go_roundw
            case rel =>
              refine ⟨k + 1, some ⟨g', 0, none⟩, c', by omega, by go_num, ?_, ?_, ?_⟩
              · rw [HS.out]; rfl
              · rw [HS.out]; exact hown1
              · exact (below_drewN ((hb3.alloc hb3.size _).alloc (by have := hb3.size; simp; omega) _) _).grown hgrow (by have := hb3.size; go_simp; omega) hrow
            case measure => simp [intOf]; omega
          · obtain ⟨g, rfl, hgb, hgl, hz1, hz2, hzf⟩ := hown3.last
            have hoz := hnm.1 z (by simp)
            unfold Okv at hoz
            have e1 : (init ++ [z]).length = init.length + 1 := by simp
            have hd0 : decide ((0:Int) < init.length + 1) = true := decide_eq_true (by omega)
            by_cases hle : d[k].1 ≤ z.2 + 1
            · go_wp2
              go_quiet (fail)
              go_wp2
              go_region
              all_goals go_wp2
              go_roundw
              case rel =>
                refine ⟨k + 1, some ⟨g, 0, none⟩, c3, by omega, by go_num, ?_, ?_, ?_⟩
                · rw [HS.out, mergeStep_le init z d[k] hle]; simp
                · rw [HS.out, mergeStep_le init z d[k] hle]; exact ((hown3.alloc _).drewN _).set_last _
                · exact (below_drewN (hb3.alloc hb3.size _) _).setCell (p := ⟨g, init.length * 2 + 1, none⟩) hgb _
              case measure => simp [intOf]; omega
            · go_wp2
              go_quiet (fail)
              go_wp2_with (at_builtin; (refine append_iv rfl _ _ rfl w2.heap.size _ c3 (init ++ [z]) _ rfl (by simp) d[k].1 d[k].2 _ rfl _ rfl (by simp) (hown3.alloc _) (by omega) (by have := hb3.size; simp; omega) ?_)
                           intro g' c' w1 row hown1 hg' hgrow hrow)
              go_roundw
              case rel =>
                refine ⟨k + 1, some ⟨g', 0, none⟩, c', by omega, by go_num, ?_, ?_, ?_⟩
                · rw [HS.out, mergeStep_gt init z d[k] (by omega)]; simp
                · rw [HS.out, mergeStep_gt init z d[k] (by omega)]; exact hown1
                · exact (below_drewN ((hb3.alloc hb3.size _).alloc (by have := hb3.size; simp; omega) _) _).grown hgrow (by have := hb3.size; go_simp; omega) hrow
              case measure => simp [intOf]; omega
        · have hke : k = d.length := by omega
          subst hke
          go_wp2
          go_ret
          rw [List.take_length] at hown3 ⊢
          obtain ⟨hn1, hn2, _⟩ := merged_spec d hokd HSO.out
          refine ⟨A3, c3, merged d, rfl, hown3.lower hwr.size, hwr.trans (hb3.mono hwr.size), hn1, fun t => ?_⟩
          rw [hn2, mem_perm HP.out, ← HYS.out, clipped_mem]
          constructor
          · rintro ⟨h1, h2, h3⟩; exact ⟨by omega, by omega, h3⟩
          · rintro ⟨h1, h2, h3⟩; have := mem_bounds h3; exact ⟨by omega, by omega, h3⟩
end Go.Proofs.YtdlebcijgdkfjaaGreatDoor
