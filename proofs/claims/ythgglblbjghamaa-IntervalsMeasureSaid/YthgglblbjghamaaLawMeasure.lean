/-
  wavestorelaw46.IntervalsMeasure returns true.
-/
import Derived.Test.YthgglblbjghamaaAwake
import Derived.Test.YthgglblbjghamaaPoints
import Derived.Test.YthgglblbjghamaaPrevious
import Derived.Test.YthgglblbjghamaaContains
namespace Go.Proofs.Ythgglblbjghamaa
open Go.RowKit Go.Joins

theorem pts_nodup {ys : List Iv} (h : Norm ys) : (pts ys).Nodup := (pts_sorted h).imp fun h => by omega

/-- the numbers of times of a union and an intersection -/
theorem cnt_add {a b u i : List Iv} (na : Norm a) (nb : Norm b) (nu : Norm u) (ni : Norm i) (hu : ∀ t, Mem u t ↔ Mem a t ∨ Mem b t) (hi : ∀ t, Mem i t ↔ Mem a t ∧ Mem b t) : cnt u + cnt i = cnt a + cnt b := by
  have hp : (pts u ++ pts i).Perm (pts a ++ pts b) := by
    rw [List.perm_iff_count]
    intro x
    rw [List.count_append, List.count_append, (pts_nodup nu).count, (pts_nodup ni).count, (pts_nodup na).count, (pts_nodup nb).count]
    have eu := (pts_mem nu x).trans (hu x)
    have ei := (pts_mem ni x).trans (hi x)
    have ea := pts_mem na x
    have eb := pts_mem nb x
    by_cases h1 : Mem a x <;> by_cases h2 : Mem b x <;> simp only [h1, h2, or_self, and_self, or_true, true_or, and_true, true_and, iff_true, iff_false] at eu ei ea eb <;> simp [eu, ei, ea, eb]
  have := hp.length_eq
  rw [List.length_append, List.length_append] at this
  rw [← pts_len na, ← pts_len nb, ← pts_len nu, ← pts_len ni]
  omega

theorem pts_sound {xs ys : List Iv} {most : Int} {zs : List Int} {er : Int} (h : PtsIs ys most zs er) (hn : Norm ys) (hm : ∀ t, Mem ys t ↔ Mem xs t) : (∀ k (hk : k < zs.length), memT xs zs[k] = true) ∧ zs.Pairwise (· < ·) := by
  rcases h with ⟨_, rfl, _⟩ | ⟨_, _, rfl, _⟩ | ⟨h1, h2, rfl, _⟩
  · simp
  · simp
  · exact ⟨fun k hk => memT_iff.2 ((hm _).1 ((pts_mem hn _).1 (List.getElem_mem _))), pts_sorted hn⟩
theorem pts_le' {ys : List Iv} {most : Int} {zs : List Int} {er : Int} (h : PtsIs ys most zs er) (hn : Norm ys) : zs.length ≤ 4096 := by
  rcases h with ⟨_, rfl, _⟩ | ⟨_, _, rfl, _⟩ | ⟨h1, h2, rfl, _⟩
  · simp
  · simp
  · have := pts_len hn; omega
theorem memT_no {xs : List Iv} {t : Int} (h : ¬ Mem xs t) : memT xs t = false := by
  cases hb : memT xs t with
  | false => rfl
  | true => exact absurd (memT_iff.1 hb) h

def MeasRel (w : World) (zs : List Int) (i : Value) (wr : World) : Prop := ∃ k : Nat, k ≤ zs.length ∧ i = .int .i64 k ∧ Below w.heap.size w wr

set_option maxRecDepth 100000 in
set_option maxHeartbeats 8000000 in
theorem measure_walk (A : Option Addr) (c : Nat) (xs : List Iv) (B : Option Addr) (d : Nat) (ys : List Iv) (t : Int) (w : World) (hx : IvsAt w w.heap.size A xs) (hy : IvsAt w w.heap.size B ys) (_ : I64 t) :
    Calls Try.prog 10 #[.slice A xs.length c, .slice B ys.length d, .int .i64 t] w fun e w' => e = .returned (.bool true) ∧ Below w.heap.size w w' := by
  by_cases hfew : xs.length ≤ 24 ∧ ys.length ≤ 24
  · have hd0 : fewB xs.length ys.length = true := fewB_iff.2 hfew
    obtain ⟨fx, fy⟩ := hfew
    go_enter Try.func10, Try.ntmps10
    go_wp2_with fail
    refine (few_any _ _ _ _ _ _ _).mono ?_
    rintro e w' ⟨rfl, rfl⟩
    rw [hd0]
    clear hd0
    have hb := Below.refl w.heap.size w
    go_wp2_with fail
    refine (count_any A c xs _ hx (by omega)).mono ?_
    rintro e1 w1 ⟨y1, n1, m1, rfl, b1⟩
    have M1 := hide m1
    have l1 := cnt_norm n1
    clear m1
    replace hx := hx.step b1
    replace hy := hy.step b1
    replace hb := bstep hb b1
    clear b1
    go_wp2_with fail
    refine (union_any A B c d xs ys _ hx hy (by omega) (by omega)).mono ?_
    rintro e2 w2 ⟨A2, c2, y2, rfl, o2, b2, n2, m2⟩
    have M2 := hide m2
    have l2 := norm_len n2
    clear m2
    replace hx := hx.step b2
    replace hy := hy.step b2
    replace hb := bstep hb b2
    clear b2
    have r2 := o2.ats
    clear o2
    go_wp2_with fail
    refine (count_any A2 c2 y2 _ r2 (by omega)).mono ?_
    rintro e3 w3 ⟨y3, n3, m3, rfl, b3⟩
    have E3 := norm_ext n3 n2 m3
    subst E3
    have l3 := cnt_norm n3
    clear m3 n3
    replace hx := hx.step b3
    replace hy := hy.step b3
    replace hb := bstep hb b3
    clear b3 r2
    go_wp2_with fail
    refine (intersect_any A B c d xs ys _ hx hy (by omega) (by omega)).mono ?_
    rintro e4 w4 ⟨A4, c4, y4, rfl, o4, b4, n4, m4⟩
    have M4 := hide m4
    have l4 := norm_len n4
    clear m4
    replace hx := hx.step b4
    replace hy := hy.step b4
    replace hb := bstep hb b4
    clear b4
    have r4 := o4.ats
    clear o4
    go_wp2_with fail
    refine (count_any A4 c4 y4 _ r4 (by omega)).mono ?_
    rintro e5 w5 ⟨y5, n5, m5, rfl, b5⟩
    have E5 := norm_ext n5 n4 m5
    subst E5
    have l5 := cnt_norm n5
    clear m5 n5
    replace hx := hx.step b5
    replace hy := hy.step b5
    replace hb := bstep hb b5
    clear b5 r4
    go_wp2_with fail
    refine (count_any B d ys _ hy (by omega)).mono ?_
    rintro e6 w6 ⟨y6, n6, m6, rfl, b6⟩
    have l6 := cnt_norm n6
    have E6 := hide (cnt_add n1 n6 n2 n4 (fun t => by rw [M2.out, M1.out, m6]) (fun t => by rw [M4.out, M1.out, m6]))
    clear m6 M2 M4
    replace hx := hx.step b6
    replace hy := hy.step b6
    replace hb := bstep hb b6
    clear b6
    have hne : (cnt y3 + cnt y5 != cnt y1 + cnt y6) = false := by rw [E6.out]; simp
    clear E6
    go_wp2_with fail
    clear hne
    refine (points_any A c xs 4096 _ hx (by omega)).mono ?_
    rintro e7 w7 ⟨y7, A7, c7, z7, r7, n7, m7, s7, rfl, o7, b7⟩
    have E7 := norm_ext n7 n1 fun t => (m7 t).trans (M1.out t).symm
    subst E7
    have l7 := pts_le' s7 n7
    obtain ⟨hs7, hs7'⟩ := pts_sound s7 n7 m7
    have S7 := hide hs7
    have T7 := hide hs7'
    clear hs7 hs7' m7
    replace hx := hx.step b7
    replace hb := bstep hb b7
    clear b7 hy
    have q7 := o7.ats
    clear o7
    have hcase : (r7 = 0 ∧ cnt y7 ≤ 4096 ∧ (z7.length : Int) = cnt y7) ∨ (r7 = 9 ∧ 4096 < cnt y7) := by
      rcases s7 with ⟨h, _⟩ | ⟨_, h1, _, h3⟩ | ⟨_, h1, h2, h3⟩
      · omega
      · exact .inr ⟨h3, h1⟩
      · exact .inl ⟨h3, h1, by rw [h2]; exact pts_len n7⟩
    clear s7
    have hx7 := hx
    have HB7 := hb
    have hend : ∀ (wf : World), Below w7.heap.size w7 wf → Below w.heap.size w wf := fun wf h => bstep HB7 h
    have HEND := hide hend
    clear hend
    rcases hcase with ⟨rfl, hc7, hl7⟩ | ⟨rfl, hc7⟩
    · have HL7 := hide hl7
      have dl : ((z7.length : Int) != cnt y7) = false := by rw [hl7]; simp
      have dc : decide (cnt y7 ≤ 4096) = true := decide_eq_true hc7
      clear hl7
      go_wp2_with fail
      go_loopw [59] (fun i wr => MeasRel w7 z7 i wr) (fun i _ => z7.length - (intOf i).toNat)
      case atStart => exact ⟨0, Nat.zero_le _, rfl, Below.refl _ _⟩
      case round =>
        obtain ⟨k, hk, rfl, hb8⟩ := hrel
        by_cases hlt : k < z7.length
        · obtain ⟨b, off, hAe, hbb, hcz⟩ := (q7.below hb8).at_ hlt
          have hcm := S7.out k hlt
          have HCM := hide hcm
          clear hcm
          subst hAe
          rcases Nat.eq_zero_or_pos k with rfl | hk0
          · rw [Nat.add_zero] at hcz
            generalize z7[0] = z at *
            go_wp2_with fail
            refine (contains_is true A c xs z _ ((hx7.below hb8).more hb8.size) (by omega) HCM.out).mono ?_
            rintro e9 w9 ⟨rfl, b9⟩
            go_wp2_with fail
            go_roundw
            case rel => exact ⟨1, by omega, by go_num, bstep hb8 b9⟩
            case measure => simp [intOf]; omega
          · obtain ⟨m, rfl⟩ : ∃ m, k = m + 1 := ⟨k - 1, by omega⟩
            obtain ⟨b', off', hAe, hbb', hcm⟩ := (q7.below hb8).at_ (k := m) (by omega)
            injection hAe with hAe
            injection hAe with hAe1 hAe2
            subst hAe1 hAe2
            have hlt2 : z7[m] < z7[m + 1] := List.pairwise_iff_getElem.1 T7.out m (m + 1) (by omega) hlt (by omega)
            generalize z7[m + 1] = z at *
            generalize z7[m] = y at *
            go_wp2_with fail
            refine (contains_is true A c xs z _ ((hx7.below hb8).more hb8.size) (by omega) HCM.out).mono ?_
            rintro e9 w9 ⟨rfl, b9⟩
            have hcm' := (b9.cell (p := ⟨b, off + m, none⟩) (Nat.lt_of_lt_of_le hbb' hb8.size)).trans hcm
            go_wp2_with fail
            go_roundw
            case rel => exact ⟨m + 1 + 1, by omega, by go_num, bstep hb8 b9⟩
            case measure => simp [intOf]; omega
        · clear S7 T7
          go_wp2_with fail
          refine (next_any A c xs t _ ((hx7.below hb8).more hb8.size) (by omega)).mono ?_
          rintro e10 w10 ⟨u10, k10, s10, rfl, b10⟩
          have hb10 := bstep hb8 b10
          have hx10 := (hx7.below hb10).more hb10.size
          rcases s10 with ⟨rfl, h1, h2, _⟩ | ⟨rfl, rfl, h3⟩
          · have HM := hide (memT_iff.2 h1)
            clear h1
            go_wp2_with fail
            refine (contains_is true A c xs u10 _ hx10 (by omega) HM.out).mono ?_
            rintro e11 w11 ⟨rfl, b11⟩
            have hb11 := bstep hb10 b11
            have hx11 := (hx7.below hb11).more hb11.size
            go_wp2_with fail
            refine (previous_any A c xs t _ hx11 (by omega)).mono ?_
            rintro e12 w12 ⟨u12, k12, s12, rfl, b12⟩
            have hb12 := bstep hb11 b12
            have hx12 := (hx7.below hb12).more hb12.size
            rcases s12 with ⟨rfl, g1, g2, _⟩ | ⟨rfl, rfl, g3⟩
            · have HM2 := hide (memT_iff.2 g1)
              clear g1
              go_wp2_with fail
              refine (contains_is true A c xs u12 _ hx12 (by omega) HM2.out).mono ?_
              rintro e13 w13 ⟨rfl, b13⟩
              go_wp2_with fail
              refine (awake_any _).mono ?_
              rintro e14 w14 ⟨rfl, b14⟩
              go_wp2_with fail
              go_ret
              exact ⟨rfl, HEND.out _ (bstep (bstep hb12 b13) b14)⟩
            · have HM2 := hide (memT_no (xs := xs) (t := t) (fun h => by have := g3 t h; omega))
              clear g3
              go_wp2_with fail
              refine (contains_is false A c xs t _ hx12 (by omega) HM2.out).mono ?_
              rintro e13 w13 ⟨rfl, b13⟩
              go_wp2_with fail
              refine (awake_any _).mono ?_
              rintro e14 w14 ⟨rfl, b14⟩
              go_wp2_with fail
              go_ret
              exact ⟨rfl, HEND.out _ (bstep (bstep hb12 b13) b14)⟩
          · have HM := hide (memT_no (xs := xs) (t := t) (fun h => by have := h3 t h; omega))
            clear h3
            go_wp2_with fail
            refine (contains_is false A c xs t _ hx10 (by omega) HM.out).mono ?_
            rintro e11 w11 ⟨rfl, b11⟩
            have hb11 := bstep hb10 b11
            have hx11 := (hx7.below hb11).more hb11.size
            go_wp2_with fail
            refine (previous_any A c xs t _ hx11 (by omega)).mono ?_
            rintro e12 w12 ⟨u12, k12, s12, rfl, b12⟩
            have hb12 := bstep hb11 b12
            have hx12 := (hx7.below hb12).more hb12.size
            rcases s12 with ⟨rfl, g1, g2, _⟩ | ⟨rfl, rfl, g3⟩
            · have HM2 := hide (memT_iff.2 g1)
              clear g1
              go_wp2_with fail
              refine (contains_is true A c xs u12 _ hx12 (by omega) HM2.out).mono ?_
              rintro e13 w13 ⟨rfl, b13⟩
              go_wp2_with fail
              refine (awake_any _).mono ?_
              rintro e14 w14 ⟨rfl, b14⟩
              go_wp2_with fail
              go_ret
              exact ⟨rfl, HEND.out _ (bstep (bstep hb12 b13) b14)⟩
            · have HM2 := hide (memT_no (xs := xs) (t := t) (fun h => by have := g3 t h; omega))
              clear g3
              go_wp2_with fail
              refine (contains_is false A c xs t _ hx12 (by omega) HM2.out).mono ?_
              rintro e13 w13 ⟨rfl, b13⟩
              go_wp2_with fail
              refine (awake_any _).mono ?_
              rintro e14 w14 ⟨rfl, b14⟩
              go_wp2_with fail
              go_ret
              exact ⟨rfl, HEND.out _ (bstep (bstep hb12 b13) b14)⟩
    · have dc : decide (cnt y7 ≤ 4096) = false := decide_eq_false (by omega)
      go_wp2_with fail
      go_loopw [59] (fun i wr => MeasRel w7 z7 i wr) (fun i _ => z7.length - (intOf i).toNat)
      case atStart => exact ⟨0, Nat.zero_le _, rfl, Below.refl _ _⟩
      case round =>
        obtain ⟨k, hk, rfl, hb8⟩ := hrel
        by_cases hlt : k < z7.length
        · obtain ⟨b, off, hAe, hbb, hcz⟩ := (q7.below hb8).at_ hlt
          have hcm := S7.out k hlt
          have HCM := hide hcm
          clear hcm
          subst hAe
          rcases Nat.eq_zero_or_pos k with rfl | hk0
          · rw [Nat.add_zero] at hcz
            generalize z7[0] = z at *
            go_wp2_with fail
            refine (contains_is true A c xs z _ ((hx7.below hb8).more hb8.size) (by omega) HCM.out).mono ?_
            rintro e9 w9 ⟨rfl, b9⟩
            go_wp2_with fail
            go_roundw
            case rel => exact ⟨1, by omega, by go_num, bstep hb8 b9⟩
            case measure => simp [intOf]; omega
          · obtain ⟨m, rfl⟩ : ∃ m, k = m + 1 := ⟨k - 1, by omega⟩
            obtain ⟨b', off', hAe, hbb', hcm⟩ := (q7.below hb8).at_ (k := m) (by omega)
            injection hAe with hAe
            injection hAe with hAe1 hAe2
            subst hAe1 hAe2
            have hlt2 : z7[m] < z7[m + 1] := List.pairwise_iff_getElem.1 T7.out m (m + 1) (by omega) hlt (by omega)
            generalize z7[m + 1] = z at *
            generalize z7[m] = y at *
            go_wp2_with fail
            refine (contains_is true A c xs z _ ((hx7.below hb8).more hb8.size) (by omega) HCM.out).mono ?_
            rintro e9 w9 ⟨rfl, b9⟩
            have hcm' := (b9.cell (p := ⟨b, off + m, none⟩) (Nat.lt_of_lt_of_le hbb' hb8.size)).trans hcm
            go_wp2_with fail
            go_roundw
            case rel => exact ⟨m + 1 + 1, by omega, by go_num, bstep hb8 b9⟩
            case measure => simp [intOf]; omega
        · clear S7 T7
          go_wp2_with fail
          refine (next_any A c xs t _ ((hx7.below hb8).more hb8.size) (by omega)).mono ?_
          rintro e10 w10 ⟨u10, k10, s10, rfl, b10⟩
          have hb10 := bstep hb8 b10
          have hx10 := (hx7.below hb10).more hb10.size
          rcases s10 with ⟨rfl, h1, h2, _⟩ | ⟨rfl, rfl, h3⟩
          · have HM := hide (memT_iff.2 h1)
            clear h1
            go_wp2_with fail
            refine (contains_is true A c xs u10 _ hx10 (by omega) HM.out).mono ?_
            rintro e11 w11 ⟨rfl, b11⟩
            have hb11 := bstep hb10 b11
            have hx11 := (hx7.below hb11).more hb11.size
            go_wp2_with fail
            refine (previous_any A c xs t _ hx11 (by omega)).mono ?_
            rintro e12 w12 ⟨u12, k12, s12, rfl, b12⟩
            have hb12 := bstep hb11 b12
            have hx12 := (hx7.below hb12).more hb12.size
            rcases s12 with ⟨rfl, g1, g2, _⟩ | ⟨rfl, rfl, g3⟩
            · have HM2 := hide (memT_iff.2 g1)
              clear g1
              go_wp2_with fail
              refine (contains_is true A c xs u12 _ hx12 (by omega) HM2.out).mono ?_
              rintro e13 w13 ⟨rfl, b13⟩
              go_wp2_with fail
              refine (awake_any _).mono ?_
              rintro e14 w14 ⟨rfl, b14⟩
              go_wp2_with fail
              go_ret
              exact ⟨rfl, HEND.out _ (bstep (bstep hb12 b13) b14)⟩
            · have HM2 := hide (memT_no (xs := xs) (t := t) (fun h => by have := g3 t h; omega))
              clear g3
              go_wp2_with fail
              refine (contains_is false A c xs t _ hx12 (by omega) HM2.out).mono ?_
              rintro e13 w13 ⟨rfl, b13⟩
              go_wp2_with fail
              refine (awake_any _).mono ?_
              rintro e14 w14 ⟨rfl, b14⟩
              go_wp2_with fail
              go_ret
              exact ⟨rfl, HEND.out _ (bstep (bstep hb12 b13) b14)⟩
          · have HM := hide (memT_no (xs := xs) (t := t) (fun h => by have := h3 t h; omega))
            clear h3
            go_wp2_with fail
            refine (contains_is false A c xs t _ hx10 (by omega) HM.out).mono ?_
            rintro e11 w11 ⟨rfl, b11⟩
            have hb11 := bstep hb10 b11
            have hx11 := (hx7.below hb11).more hb11.size
            go_wp2_with fail
            refine (previous_any A c xs t _ hx11 (by omega)).mono ?_
            rintro e12 w12 ⟨u12, k12, s12, rfl, b12⟩
            have hb12 := bstep hb11 b12
            have hx12 := (hx7.below hb12).more hb12.size
            rcases s12 with ⟨rfl, g1, g2, _⟩ | ⟨rfl, rfl, g3⟩
            · have HM2 := hide (memT_iff.2 g1)
              clear g1
              go_wp2_with fail
              refine (contains_is true A c xs u12 _ hx12 (by omega) HM2.out).mono ?_
              rintro e13 w13 ⟨rfl, b13⟩
              go_wp2_with fail
              refine (awake_any _).mono ?_
              rintro e14 w14 ⟨rfl, b14⟩
              go_wp2_with fail
              go_ret
              exact ⟨rfl, HEND.out _ (bstep (bstep hb12 b13) b14)⟩
            · have HM2 := hide (memT_no (xs := xs) (t := t) (fun h => by have := g3 t h; omega))
              clear g3
              go_wp2_with fail
              refine (contains_is false A c xs t _ hx12 (by omega) HM2.out).mono ?_
              rintro e13 w13 ⟨rfl, b13⟩
              go_wp2_with fail
              refine (awake_any _).mono ?_
              rintro e14 w14 ⟨rfl, b14⟩
              go_wp2_with fail
              go_ret
              exact ⟨rfl, HEND.out _ (bstep (bstep hb12 b13) b14)⟩
  · have hd0 : fewB xs.length ys.length = false := fewB_no hfew
    go_enter Try.func10, Try.ntmps10
    go_wp2_with fail
    refine (few_any _ _ _ _ _ _ _).mono ?_
    rintro e w' ⟨rfl, rfl⟩
    rw [hd0]
    clear hd0
    go_wp2_with fail
    refine (awake_any _).mono ?_
    rintro e w1 ⟨rfl, hb1⟩
    go_wp2_with fail
    go_ret
    exact ⟨rfl, hb1⟩
end Go.Proofs.Ythgglblbjghamaa
