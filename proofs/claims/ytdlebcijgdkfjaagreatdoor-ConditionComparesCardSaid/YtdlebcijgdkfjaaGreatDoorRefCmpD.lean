/-
  wavestoreref03.Parse, Valid, parts, sum, Compare.
-/
import Derived.Test.YtdlebcijgdkfjaaGreatDoorRefRead
import Derived.Test.YtdlebcijgdkfjaaGreatDoorRefSumD
namespace Go.Proofs.YtdlebcijgdkfjaaGreatDoor
open Go.RowKit

/-- what Parse says of a text -/
def ParseP (l : List UInt8) (v : Value) : Prop := match readR l with
  | some r => TextP (decOf 100000 r) v
  | none => ∃ e : Int, e ≠ 0 ∧ v = .tuple #[.string (bs []), .int .i64 e]
theorem sgn1_len (l : List UInt8) : (sgn1 l).2.length ≤ l.length := by
  cases l with
  | nil => exact Nat.le_refl _
  | cons c r =>
    rw [sgn1_cons]
    split
    · simp
    · split <;> simp
theorem dgs_len (l : List UInt8) : (dgs l).length ≤ l.length := (List.takeWhile_prefix _).length_le
theorem rst_len (l : List UInt8) : (rst l).length ≤ l.length := (List.dropWhile_suffix _).length_le
theorem fracR_len {l fs l3 : List UInt8} (h : fracR l = some (fs, l3)) : fs.length ≤ l.length := by
  cases l with
  | nil => injection h with h; injection h with h1 h2; subst h1; exact Nat.le_refl _
  | cons c r =>
    rw [fracR_cons] at h
    split at h
    · split at h
      · cases h
      · injection h with h; injection h with h1 h2; subst h1
        have := dgs_len r
        simp; omega
    · injection h with h; injection h with h1 h2; subst h1; exact Nat.zero_le _
theorem readR_len {l : List UInt8} {r : Raw} (h : readR l = some r) : r.whole.length ≤ 64 ∧ r.frac.length ≤ 64 := by
  unfold readR at h
  split at h
  · cases h
  · rename_i hl
    split at h
    · cases h
    · split at h
      · cases h
      · rename_i fs l3 hf
        split at h
        · cases h
        · split at h
          · injection h with h
            subst h
            have h1 := dgs_len (sgn1 l).2
            have h2 := sgn1_len l
            have h3 := fracR_len hf
            have h4 := rst_len (sgn1 l).2
            exact ⟨by dsimp only; omega, by dsimp only; omega⟩
          · cases h
theorem nrm_len (neg : Bool) (ds : List UInt8) (f : Int) : (nrm neg ds f).ds.length ≤ ds.length := by
  unfold nrm
  split
  · exact Nat.zero_le _
  · have h1 := (rdrop_prefix (ds.dropWhile zC)).length_le
    have h2 : (ds.dropWhile zC).length ≤ ds.length := (List.dropWhile_suffix _).length_le
    dsimp only
    omega
theorem expV_le (r : Raw) : -100000 ≤ expV 100000 r ∧ expV 100000 r ≤ 100000 := by
  have := clampE_le 100000 r.expo
  unfold expV
  split <;> omega

set_option maxRecDepth 100000 in
theorem rparse_any (s : ByteArray) (w : World) (hs : s.size ≤ 1000) : Calls Tryz.prog 139 #[.string s] w fun e w' => (∃ v, e = .returned v ∧ ParseP s.data.toList v) ∧ Below w.heap.size w w' := by
  go_enter Tryz.func139, Tryz.ntmps139
  go_wp2_with fail
  refine (rread_any s _ hs).mono ?_
  rintro e w1 ⟨⟨v, rfl, hv⟩, b1⟩
  have HB := hide b1
  clear b1
  cases hr : readR s.data.toList with
  | none =>
    have HP := hide (show ∀ v, ParseP s.data.toList v ↔ ∃ e : Int, e ≠ 0 ∧ v = .tuple #[.string (bs []), .int .i64 e] from fun v => by unfold ParseP; rw [hr])
    unfold ReadP at hv
    rw [hr] at hv
    clear hr
    obtain ⟨pb, pd, pf, rfl⟩ := hv
    unfold pv
    go_wp2_with fail
    go_ret2
    exact ⟨⟨_, rfl, (HP.out _).2 ⟨_, by decide, rfl⟩⟩, HB.out.alloc HB.out.size _⟩
  | some r =>
    have HP := hide (show ∀ v, ParseP s.data.toList v ↔ TextP (decOf 100000 r) v from fun v => by unfold ParseP; rw [hr])
    have hlen := readR_len hr
    have hex := expV_le r
    unfold ReadP at hv
    rw [hr] at hv
    clear hr
    obtain rfl := hv
    have hT := fun w => text_of r.neg (r.whole ++ r.frac) ((r.whole.length : Int) - 1 + expV 100000 r) (decOf 100000 r).neg (decOf 100000 r).ds (decOf 100000 r).fst rfl w (by rw [List.length_append]; omega) (by omega) (by omega) (by have := nrm_len r.neg (r.whole ++ r.frac) ((r.whole.length : Int) - 1 + expV 100000 r); rw [List.length_append] at this; show (nrm _ _ _).ds.length ≤ 200; omega)
    have HT := hide hT
    clear hT hlen hex
    unfold pv
    unfold pv at HT
    go_wp2_with fail
    refine (HT.out _).mono ?_
    rintro e w2 ⟨⟨v, rfl, hv⟩, b2⟩
    have HB2 := hide (bstep (HB.out.alloc HB.out.size _) b2)
    clear b2
    have HV := hide hv
    unfold TextP at hv
    split at hv
    · subst hv
      go_wp2_with fail
      go_ret2
      exact ⟨⟨_, rfl, (HP.out _).2 HV.out⟩, HB2.out⟩
    · obtain ⟨e, he, rfl⟩ := hv
      clear he
      go_wp2_with fail
      go_ret2
      exact ⟨⟨_, rfl, (HP.out _).2 HV.out⟩, HB2.out⟩

def rvalB (s : ByteArray) : Bool := (canonC 100000 s.data.toList).isSome
set_option maxRecDepth 100000 in
theorem rvalid_any (s : ByteArray) (w : World) (hs : s.size ≤ 1000) : Calls Tryz.prog 87 #[.string s] w fun e w' => e = .returned (.bool (rvalB s)) ∧ Below w.heap.size w w' := by
  go_enter Tryz.func87, Tryz.ntmps87
  go_wp2_with fail
  refine (rparse_any s _ hs).mono ?_
  rintro e w1 ⟨⟨v, rfl, hv⟩, b1⟩
  have HB := hide b1
  clear b1
  cases hr : readR s.data.toList with
  | none =>
    have HV := hide (show rvalB s = false by unfold rvalB canonC; rw [hr]; rfl)
    unfold ParseP at hv
    rw [hr] at hv
    clear hr
    obtain ⟨e, he, rfl⟩ := hv
    have t1 : (e == 0) = false := beq_eq_false_iff_ne.2 he
    clear he
    go_wp2_with fail
    go_ret
    exact ⟨by rw [HV.out]; rfl, HB.out⟩
  | some r =>
    have HV := hide (show rvalB s = (if fitB (decOf 100000 r) = true ∧ txt (decOf 100000 r) = s.data.toList then true else false) by unfold rvalB canonC; rw [hr]; simp only []; split <;> rfl)
    unfold ParseP at hv
    rw [hr] at hv
    clear hr
    replace hv : TextP (decOf 100000 r) v := hv
    unfold TextP at hv
    split at hv
    · rename_i hf
      subst hv
      by_cases ht : txt (decOf 100000 r) = s.data.toList
      · have t2 : ((bs (txt (decOf 100000 r))).toList == s.toList) = true := by
          rw [ByteArray.toList_eq, ByteArray.toList_eq]; exact beq_iff_eq.2 ht
        rw [if_pos ⟨hf, ht⟩] at HV
        clear ht hf
        go_wp2_with fail
        go_ret
        exact ⟨by rw [HV.out]; rfl, HB.out⟩
      · have t2 : ((bs (txt (decOf 100000 r))).toList == s.toList) = false := by
          rw [ByteArray.toList_eq, ByteArray.toList_eq]; exact beq_eq_false_iff_ne.2 ht
        rw [if_neg (fun h => ht h.2)] at HV
        clear ht hf
        go_wp2_with fail
        go_ret
        exact ⟨by rw [HV.out]; rfl, HB.out⟩
    · rename_i hf
      obtain ⟨e, he, rfl⟩ := hv
      have t1 : (e == 0) = false := beq_eq_false_iff_ne.2 he
      rw [if_neg (fun h => hf h.1)] at HV
      clear he hf
      go_wp2_with fail
      go_ret
      exact ⟨by rw [HV.out]; rfl, HB.out⟩

set_option maxRecDepth 100000 in
theorem rparts_any (s : ByteArray) (d : Dec) (w : World) (hs : s.size ≤ 1000) (hc : canonC 100000 s.data.toList = some d) : Calls Tryz.prog 90 #[.string s] w fun e w' => e = .returned (pvD d) ∧ Below w.heap.size w w' := by
  obtain ⟨r, hr, hd⟩ : ∃ r, readR s.data.toList = some r ∧ decOf 100000 r = d := by
    unfold canonC at hc
    split at hc
    · cases hc
    · rename_i r hr
      split at hc
      · injection hc with hc; exact ⟨r, hr, hc⟩
      · cases hc
  have hlen := readR_len hr
  have hex := expV_le r
  have hS := fun w => strip_any r.neg (r.whole ++ r.frac) ((r.whole.length : Int) - 1 + expV 100000 r) w (by rw [List.length_append]; omega) (by omega) (by omega)
  have HS := hide hS
  have HD := hide (show nrm r.neg (r.whole ++ r.frac) ((r.whole.length : Int) - 1 + expV 100000 r) = d from hd)
  clear hS hlen hex hd hc
  go_enter Tryz.func90, Tryz.ntmps90
  go_wp2_with fail
  have pz0 : PB w w.heap.size false [] 0 (w.alloc (pcs false [] 0)) := ⟨(Below.refl _ _).alloc (Nat.le_refl _) _, heap_alloc_new w _⟩
  refine (rread_any s _ hs).mono ?_
  rintro e w1 ⟨⟨v, rfl, hv⟩, b1⟩
  have PZ := hide (pz0.step b1)
  clear pz0 b1
  unfold ReadP at hv
  rw [hr] at hv
  clear hr
  subst hv
  unfold pv at *
  go_wp2_with fail
  refine (HS.out _).mono ?_
  rw [HD.out]
  rintro e w2 ⟨rfl, b2⟩
  have PZ2 := hide ((PZ.out.step ((Below.refl _ _).alloc (Nat.le_refl _) _)).step b2)
  clear b2
  obtain ⟨z0, z1, z2, y0, y1, y2⟩ := PZ2.out.at
  go_wp2_with fail
  generalize hW9 : World.setCell _ _ _ = W9
  have p4 : PB w w.heap.size d.neg d.ds d.fst W9 := by
    rw [← hW9]
    exact ((PZ2.out.set0 (Nat.le_refl _) d.neg).set1 (Nat.le_refl _) d.ds).set2 (Nat.le_refl _) d.fst
  obtain ⟨x0, x1, x2, _, _, _⟩ := p4.at
  exact bodyPost_ret (v := .agg #[.bool d.neg, .string (bs d.ds), .int .i64 d.fst]) (by simp [results, Tryz.results90, go_sem, x0, x1, x2]) rfl ⟨rfl, p4.bel⟩

/-- the sign of the difference of two numbers, where both texts are canonical -/
def rcmpB (s t : ByteArray) : Option Int := match canonC 100000 s.data.toList, canonC 100000 t.data.toList with
  | some a, some b => some (cmpD a b)
  | _, _ => none
set_option maxRecDepth 100000 in
theorem rcompare_any (s t : ByteArray) (w : World) (hs : s.size ≤ 1000) (ht : t.size ≤ 1000) : Calls Tryz.prog 43 #[.string s, .string t] w fun e w' => e = .returned (.tuple #[.int .i64 ((rcmpB s t).getD 0), .bool (rcmpB s t).isSome]) ∧ Below w.heap.size w w' := by
  cases hcs : canonC 100000 s.data.toList with
  | none =>
    have HV := hide (show rvalB s = false by unfold rvalB; rw [hcs]; rfl)
    have HC := hide (show rcmpB s t = none by unfold rcmpB; rw [hcs])
    clear hcs
    go_enter Tryz.func43, Tryz.ntmps43
    go_wp2_with fail
    refine (rvalid_any s _ hs).mono ?_
    rw [HV.out]
    rintro e w1 ⟨rfl, b1⟩
    have HB := hide b1
    clear b1
    go_wp2_with fail
    go_ret2
    exact ⟨by rw [HC.out]; rfl, HB.out⟩
  | some a =>
    cases hct : canonC 100000 t.data.toList with
    | none =>
      have HV := hide (show rvalB s = true by unfold rvalB; rw [hcs]; rfl)
      have HV2 := hide (show rvalB t = false by unfold rvalB; rw [hct]; rfl)
      have HC := hide (show rcmpB s t = none by unfold rcmpB; rw [hcs, hct])
      clear hcs hct
      go_enter Tryz.func43, Tryz.ntmps43
      go_wp2_with fail
      refine (rvalid_any s _ hs).mono ?_
      rw [HV.out]
      rintro e w1 ⟨rfl, b1⟩
      have HB := hide b1
      clear b1
      go_wp2_with fail
      refine (rvalid_any t _ ht).mono ?_
      rw [HV2.out]
      rintro e w2 ⟨rfl, b2⟩
      have HB2 := hide (bstep HB.out b2)
      clear b2
      go_wp2_with fail
      go_ret2
      exact ⟨by rw [HC.out]; rfl, HB2.out⟩
    | some b =>
      have HV := hide (show rvalB s = true by unfold rvalB; rw [hcs]; rfl)
      have HV2 := hide (show rvalB t = true by unfold rvalB; rw [hct]; rfl)
      have oa := ((canon_iff (by omega)).1 hcs).1
      have ob := ((canon_iff (by omega)).1 hct).1
      have HC := hide (show rcmpB s t = some (cmpD a b) by unfold rcmpB; rw [hcs, hct])
      have HPS := hide (fun w => rparts_any s a w hs hcs)
      have HPT := hide (fun w => rparts_any t b w ht hct)
      have HSM := hide (fun w => rsum_any a (negD b) w oa (negD_ok ob))
      have HSC := hide (sum_cmp oa ob)
      clear hcs hct oa ob
      go_enter Tryz.func43, Tryz.ntmps43
      go_wp2_with fail
      refine (rvalid_any s _ hs).mono ?_
      rw [HV.out]
      rintro e w1 ⟨rfl, b1⟩
      have HB := hide b1
      clear b1
      go_wp2_with fail
      refine (rvalid_any t _ ht).mono ?_
      rw [HV2.out]
      rintro e w2 ⟨rfl, b2⟩
      have HB2 := hide (bstep HB.out b2)
      clear b2
      go_wp2_with fail
      refine (HPS.out _).mono ?_
      rintro e w3 ⟨rfl, b3⟩
      have HB3 := hide (bstep HB2.out b3)
      clear b3
      go_wp2_with fail
      refine (HPT.out _).mono ?_
      rintro e w4 ⟨rfl, b4⟩
      have HB4 := hide (bstep HB3.out b4)
      clear b4
      go_wp2_with fail
      refine (rneg_any b _).mono ?_
      rintro e w5 ⟨rfl, b5⟩
      have HB5 := hide (bstep HB4.out b5)
      clear b5
      go_wp2_with fail
      refine (HSM.out _).mono ?_
      rintro e w6 ⟨d, rfl, hd, b6⟩
      have HB6 := hide (bstep HB5.out b6)
      have HD := hide hd
      clear b6 hd
      go_wp2_with fail
      refine (rsign_any d _).mono ?_
      rintro e w7 ⟨rfl, b7⟩
      have HB7 := hide (bstep HB6.out b7)
      clear b7
      go_wp2_with fail
      go_ret2
      exact ⟨by rw [HC.out]; show _ = Ending.returned (.tuple #[.int .i64 (cmpD a b), .bool true]); rw [← HSC.out, ← HD.out]; rfl, HB7.out⟩

end Go.Proofs.YtdlebcijgdkfjaaGreatDoor
