/-
  wavestoreref51.Compare, for any kind, operator and strings; the law ConditionCompares, walked.
-/
import Derived.Test.YtdlebcijgdkfjaaGreatDoorCmpAll
namespace Go.Proofs.YtdlebcijgdkfjaaGreatDoor
open Go.RowKit

theorem rval_same (s : ByteArray) : rvalB s = valB s := by unfold rvalB valB; rw [canon_same (D := 1048576) (by omega) (by omega)]
theorem rcmp_same (s t : ByteArray) : rcmpB s t = cmpB s t := by unfold rcmpB cmpB; rw [canon_same (C := 100000) (D := 1048576) (by omega) (by omega), canon_same (C := 100000) (D := 1048576) (by omega) (by omega) t.data.toList]; cases canonC 1048576 s.data.toList <;> cases canonC 1048576 t.data.toList <;> rfl
theorem cmpB_some (s t : ByteArray) : (cmpB s t).isSome = (valB s && valB t) := by
  unfold cmpB valB
  cases canonC 1048576 s.data.toList <;> cases canonC 1048576 t.data.toList <;> rfl
theorem cmpB_eq {s t : ByteArray} (hs : valB s = true) (ht : valB t = true) : ((cmpB s t).getD 0 == 0) = eqS s t := by
  unfold valB at hs ht
  obtain ⟨a, ha⟩ := Option.isSome_iff_exists.1 hs
  obtain ⟨b, hb⟩ := Option.isSome_iff_exists.1 ht
  have hc : cmpB s t = some (cmpD a b) := by unfold cmpB; rw [ha, hb]
  rw [hc, Option.getD_some, eqS, ByteArray.toList_eq, ByteArray.toList_eq]
  have oa := ((canon_iff (by omega)).1 ha).1
  have ob := ((canon_iff (by omega)).1 hb).1
  rw [Bool.eq_iff_iff, beq_iff_eq, beq_iff_eq, cmpD_zero oa ob]
  constructor
  · intro e
    subst e
    exact canon_inj (by omega) ha hb
  · intro e
    rw [e] at ha
    rw [ha] at hb
    exact Option.some.inj hb
theorem eqP_and (a b : List UInt8) : ((eqP a b).1 && (eqP a b).2) = (eqP a b).1 := by
  unfold eqP
  split
  · rfl
  · cases knownB a <;> cases knownB b <;> rfl

set_option maxRecDepth 100000 in
theorem rccmp_out (kind op : Int) (a b : ByteArray) (w : World) (h : op < 19 ∨ 26 < op) : Calls Tryz.prog 11 #[.int .i64 kind, .int .i64 op, .string a, .string b] w (CmpEnd (false, false) w) := by
  rcases h with h | h
  · go_enter Tryz.func11, Tryz.ntmps11
    go_wp2_with fail
    go_ret2
    exact ⟨rfl, Below.refl _ _⟩
  · have h' : ¬ op < 19 := by omega
    go_enter Tryz.func11, Tryz.ntmps11
    go_wp2_with fail
    go_ret2
    exact ⟨rfl, Below.refl _ _⟩
/-- operators other than != and !== -/
def OpP (op : Int) : Prop := op = 19 ∨ op = 21 ∨ (23 ≤ op ∧ op ≤ 26)
set_option maxRecDepth 100000 in
theorem rccmp_kind (kind op : Int) (a b : ByteArray) (w : World) (ho : OpP op) (k0 : kind ≠ 0) (k1 : kind ≠ 1) (k2 : kind ≠ 2) : Calls Tryz.prog 11 #[.int .i64 kind, .int .i64 op, .string a, .string b] w (CmpEnd (false, false) w) := by
  have t0 : (kind == 0) = false := beq_eq_false_iff_ne.2 k0
  have t1 : (kind == 1) = false := beq_eq_false_iff_ne.2 k1
  have t2 : (kind == 2) = false := beq_eq_false_iff_ne.2 k2
  clear k0 k1 k2
  unfold OpP at ho
  have h1 : 19 ≤ op := by omega
  have h2 : op ≤ 26 := by omega
  have t3 : (op == 20) = false := beq_eq_false_iff_ne.2 (by omega)
  have t4 : (op == 22) = false := beq_eq_false_iff_ne.2 (by omega)
  clear ho
  go_enter Tryz.func11, Tryz.ntmps11
  go_wp2_with fail
  go_ret2
  exact ⟨rfl, Below.refl _ _⟩
set_option maxRecDepth 100000 in
theorem rccmp_str (op : Int) (a b : ByteArray) (w : World) (ho : OpP op) : Calls Tryz.prog 11 #[.int .i64 2, .int .i64 op, .string a, .string b] w (CmpEnd (cmpStr op a b) w) := by
  rcases ho with rfl | rfl | ⟨h1, h2⟩
  case' inr.inr =>
    have HV := hide (show cmpStr op a b = (false, false) by unfold cmpStr; rw [if_neg (by omega), if_neg (by omega)])
    have t3 : (op == 20) = false := beq_eq_false_iff_ne.2 (by omega)
    have t4 : (op == 22) = false := beq_eq_false_iff_ne.2 (by omega)
    have t5 : (op == 19) = false := beq_eq_false_iff_ne.2 (by omega)
    have t6 : (op == 21) = false := beq_eq_false_iff_ne.2 (by omega)
    go_enter Tryz.func11, Tryz.ntmps11
    go_wp2_with fail
    go_ret2
    exact ⟨by rw [HV.out]; rfl, Below.refl _ _⟩
  all_goals
    cases hE : (a.toList == b.toList)
    all_goals
      have HE := hide (show eqS a b = _ from hE)
      go_enter Tryz.func11, Tryz.ntmps11
      go_wp2_with fail
      go_ret2
      exact ⟨by unfold cmpStr; rw [HE.out]; rfl, Below.refl _ _⟩

set_option maxRecDepth 100000 in
set_option maxHeartbeats 1000000 in
theorem rccmp_real (op : Int) (a b : ByteArray) (w : World) (la : a.size ≤ 1000) (lb : b.size ≤ 1000) (ho : OpP op) : Calls Tryz.prog 11 #[.int .i64 1, .int .i64 op, .string a, .string b] w (CmpEnd (cmpReal op a b) w) := by
  have HR := hide (fun W => by have h := rcompare_any a b W la lb; rw [rcmp_same, cmpB_some] at h; exact h)
  cases hV : (valB a && valB b) with
  | false =>
    have HVB := hide hV
    clear hV
    rw [HVB.out] at HR
    have HV := hide (show cmpReal op a b = (false, false) by unfold cmpReal; rw [HVB.out]; rfl)
    unfold OpP at ho
    have h1 : 19 ≤ op := by omega
    have h2 : op ≤ 26 := by omega
    have t3 : (op == 20) = false := beq_eq_false_iff_ne.2 (by omega)
    have t4 : (op == 22) = false := beq_eq_false_iff_ne.2 (by omega)
    clear ho
    go_enter Tryz.func11, Tryz.ntmps11
    go_wp2_with fail
    refine (HR.out _).mono ?_
    rintro e w1 ⟨rfl, b1⟩
    go_wp2_with fail
    go_ret2
    exact ⟨by rw [HV.out]; rfl, b1⟩
  | true =>
    have HVB := hide hV
    rw [Bool.and_eq_true] at hV
    have HQ := hide (cmpB_eq hV.1 hV.2)
    clear hV
    rw [HVB.out] at HR
    generalize hc : (cmpB a b).getD 0 = c at *
    have HC := hide hc
    clear hc
    rcases ho with rfl | rfl | ⟨h1, h2⟩
    case' inr.inr =>
      have HV := hide (show cmpReal op a b = (relC op c, true) by unfold cmpReal; rw [HVB.out, if_pos rfl, if_neg (by omega), if_neg (by omega), HC.out])
      have t3 : (op == 20) = false := beq_eq_false_iff_ne.2 (by omega)
      have t4 : (op == 22) = false := beq_eq_false_iff_ne.2 (by omega)
      have t5 : (op == 19) = false := beq_eq_false_iff_ne.2 (by omega)
      have t6 : (op == 21) = false := beq_eq_false_iff_ne.2 (by omega)
      go_enter Tryz.func11, Tryz.ntmps11
      go_wp2_with fail
      refine (HR.out _).mono ?_
      rintro e w1 ⟨rfl, b1⟩
      go_wp2_with fail
      refine (rrel_any op _ _).mono ?_
      rintro e w2 ⟨rfl, rfl⟩
      go_wp2_with fail
      go_ret2
      exact ⟨by rw [HV.out]; rfl, b1⟩
    all_goals
      cases hE : (c == 0)
      all_goals
        have HE := hide (show eqS a b = _ from HQ.out.symm.trans hE)
        go_enter Tryz.func11, Tryz.ntmps11
        go_wp2_with fail
        refine (HR.out _).mono ?_
        rintro e w1 ⟨rfl, b1⟩
        go_wp2_with fail
        go_ret2
        exact ⟨by unfold cmpReal; rw [HVB.out, HE.out]; rfl, b1⟩

theorem kn_one (s : ByteArray) (k : Nat) (hk : k < s.size) : knownB (s.extract k (k + 1)).data.toList = knC s[k] := by
  have h : (s.extract k (k + 1)).data.toList = [s[k]] := by
    rw [Lib.extract_data, show k + 1 - k = 1 by omega]
    have := List.drop_eq_getElem_cons (l := s.data.toList) (i := k) (by simpa using hk)
    rw [this]
    rfl
  rw [h]
  unfold knownB
  simp
theorem ext_size (s : ByteArray) (k : Nat) (hk : k < s.size) : (s.extract k (k + 1)).size ≤ 1000 := by simp; omega
theorem known_one (s : ByteArray) (k : Nat) (hk : k < s.size) (m : Bool) (hm : knC s[k] = m) (W : World) : Calls Tryz.prog 40 #[.string (s.extract k (k + 1))] W fun e w' => e = .returned (.bool m) ∧ w' = W := by
  have h := rknown_any (s.extract k (k + 1)) W (ext_size s k hk)
  rw [kn_one s k hk, hm] at h
  exact h.mono fun e w' h' => ⟨h'.1, h'.2.symm⟩

def RqRel (a b : ByteArray) (w : World) (i : Value) (wr : World) : Prop := ∃ (k q : Nat), k ≤ a.size ∧ i = .int .i64 k ∧ diffL (a.data.toList.take k) (b.data.toList.take k) = false ∧ wr = w.drewN q

set_option maxRecDepth 100000 in
set_option maxHeartbeats 4000000 in
theorem rccmp_eq (a b : ByteArray) (w : World) (la : a.size ≤ 1000) (lb : b.size ≤ 1000) (hA : bitsB a.data.toList = true) (hB : bitsB b.data.toList = true) (hs : a.size = b.size) :
    Calls Tryz.prog 11 #[.int .i64 0, .int .i64 19, .string a, .string b] w (CmpEnd (eqP a.data.toList b.data.toList) w) := by
  have HA := hide hA
  have HB := hide hB
  have HS := hide hs
  have tne : ((a.size : Int) != (b.size : Int)) = false := by rw [hs]; simp
  clear hA hB hs
  obtain ⟨m, hm⟩ : ∃ m, (knownB a.data.toList && knownB b.data.toList) = m := ⟨_, rfl⟩
  have HM := hide hm
  have HKB : Hid (∀ W, Calls Tryz.prog 40 #[.string b] W fun e w' => e = .returned (.bool (knownB b.data.toList)) ∧ W = w') := hide (fun W => rknown_any b W lb)
  clear hm
  go_enter Tryz.func11, Tryz.ntmps11
  go_wp2_with fail
  refine (risBits_any a _ la).mono ?_
  rw [HA.out]
  rintro e w1 ⟨rfl, rfl⟩
  go_wp2_with fail
  refine (risBits_any b _ lb).mono ?_
  rw [HB.out]
  rintro e w2 ⟨rfl, rfl⟩
  go_upto_region 12 with (fail)
  go_cut [12] (fun v wx => v = .bool m ∧ wx = w)
  case first => as_aux_lemma =>
    cases hk : knownB a.data.toList with
    | false =>
      have HK := hide hk
      have hmm : m = false := by have := HM.out; rw [hk] at this; exact this.symm
      clear hk
      go_wp2_with fail
      refine (rknown_any a _ la).mono ?_
      rw [HK.out]
      rintro e w3 ⟨rfl, rfl⟩
      go_wp2_with fail
      go_meet
      exact ⟨by rw [hmm], rfl⟩
    | true =>
      have HK := hide hk
      have hmm : knownB b.data.toList = m := by have := HM.out; rw [hk] at this; exact this
      clear hk
      rw [hmm] at HKB
      clear hmm
      go_wp2_with fail
      refine (rknown_any a _ la).mono ?_
      rw [HK.out]
      rintro e w3 ⟨rfl, rfl⟩
      go_wp2_with fail
      refine (HKB.out _).mono ?_
      rintro e w4 ⟨rfl, rfl⟩
      go_wp2_with fail
      go_meet
      exact ⟨rfl, rfl⟩
  case rest =>
    obtain ⟨rfl, rfl⟩ := hcut
    go_wp2_with fail
    go_loopw [13] (fun i wr => RqRel a b wc i wr) (fun i _ => a.size - (intOf i).toNat)
    case atStart => exact ⟨0, 0, Nat.zero_le _, rfl, rfl, rfl⟩
    case round =>
      obtain ⟨k, q, hk, rfl, hnd, hwr⟩ := hrel
      have hbq : Below wc.heap.size wc wr := by rw [hwr]; exact below_drewN (Below.refl _ _) q
      have HWR := hide hwr
      have HND := hide hnd
      clear hwr hnd
      by_cases hlt : k < a.size
      · have hlt2 : k < b.size := by have := HS.out; omega
        have h1 : k < a.data.toList.length := by simpa using hlt
        have h2 : k < b.data.toList.length := by simpa using hlt2
        have HT := hide (diff_take h1 h2)
        have HD := hide (fun h => diff_true h1 h2 h)
        have e1 : a.data.toList[k] = a[k] := rfl
        have e2 : b.data.toList[k] = b[k] := rfl
        rw [e1, e2] at HT HD
        have hi1 : (k : Int) < (a.size : Int) := by omega
        have hi2 : (k : Int) < (b.size : Int) := by omega
        have hi3 : (0 : Int) ≤ (k : Int) := by omega
        have hw1 : IntKind.i64.wrap ((k : Int) + 1) = (k : Int) + 1 := IntWalk.i64_in _ (by omega)
        have hw2 : (0 : Int) ≤ (k : Int) + 1 := by omega
        have hw3 : ((k : Int) + 1).toNat = k + 1 := by omega
        have hw6 : (k : Int) ≤ (k : Int) + 1 := by omega
        have hw4 : (k : Int) + 1 ≤ (a.size : Int) := by omega
        have hw5 : (k : Int) + 1 ≤ (b.size : Int) := by omega
        clear e1 e2
        cases hka : knC a[k] with
        | false =>
          have KA := hide (fun W => known_one a k hlt false hka W)
          have HN2 := hide (show diffC a[k] b[k] = false by unfold diffC; rw [hka]; rfl)
          clear hka
          go_upto_region 17 with (fail)
          go_quiet ((go_at_call 40; (with_reducible exact Calls.quiet_of_same (KA.out _))))
          go_wp2_with fail
          go_roundw
          case rel => exact ⟨k + 1, q + nq, by omega, by go_num, by rw [HT.out, HND.out, HN2.out]; rfl, by rw [HWR.out]; simp [World.drewN, Nat.add_assoc]⟩
          case measure => simp [intOf]; omega
        | true =>
          have KA := hide (fun W => known_one a k hlt true hka W)
          cases hkb : knC b[k] with
          | false =>
            have KB := hide (fun W => known_one b k hlt2 false hkb W)
            have HN2 := hide (show diffC a[k] b[k] = false by unfold diffC; rw [hka, hkb]; rfl)
            clear hka hkb
            go_upto_region 17 with (fail)
            go_quiet ((go_at_call 40; first | (with_reducible exact Calls.quiet_of_same (KA.out _)) | (with_reducible exact Calls.quiet_of_same (KB.out _))))
            go_wp2_with fail
            go_roundw
            case rel => exact ⟨k + 1, q + nq, by omega, by go_num, by rw [HT.out, HND.out, HN2.out]; rfl, by rw [HWR.out]; simp [World.drewN, Nat.add_assoc]⟩
            case measure => simp [intOf]; omega
          | true =>
            have KB := hide (fun W => known_one b k hlt2 true hkb W)
            by_cases he : a[k] = b[k]
            · have HN2 := hide (show diffC a[k] b[k] = false by unfold diffC; rw [he]; simp)
              have t7 : ((a[k].toNat : Int) != (b[k].toNat : Int)) = false := by rw [he]; simp
              clear hka hkb he
              go_upto_region 17 with (fail)
              go_quiet ((go_at_call 40; first | (with_reducible exact Calls.quiet_of_same (KA.out _)) | (with_reducible exact Calls.quiet_of_same (KB.out _))))
              go_wp2_with fail
              go_roundw
              case rel => exact ⟨k + 1, q + nq, by omega, by go_num, by rw [HT.out, HND.out, HN2.out]; rfl, by rw [HWR.out]; simp [World.drewN, Nat.add_assoc]⟩
              case measure => simp [intOf]; omega
            · have HN2 := hide (show diffC a[k] b[k] = true by unfold diffC; rw [hka, hkb]; simpa using he)
              have t7 : ((a[k].toNat : Int) != (b[k].toNat : Int)) = true := u8_ne he
              clear hka hkb he
              go_upto_region 17 with (fail)
              go_quiet ((go_at_call 40; first | (with_reducible exact Calls.quiet_of_same (KA.out _)) | (with_reducible exact Calls.quiet_of_same (KB.out _))))
              go_wp2_with fail
              go_ret2
              exact ⟨by unfold eqP; rw [if_pos (HD.out HN2.out)]; rfl, below_drewN hbq nq⟩
      · have hke : k = a.size := by omega
        subst hke
        have hE := HND.out
        have hl1 : a.data.toList.length = a.size := by simp
        have hl2 : b.data.toList.length = b.size := by simp
        rw [List.take_of_length_le (by omega), List.take_of_length_le (by have := HS.out; omega)] at hE
        have HE := hide (show eqP a.data.toList b.data.toList = (m, m) by unfold eqP; rw [hE, HM.out]; rfl)
        clear hE hl1 hl2
        go_wp2_with fail
        go_ret2
        exact ⟨by rw [HE.out]; rfl, hbq⟩

set_option maxRecDepth 100000 in
set_option maxHeartbeats 2000000 in
theorem rccmp_bits (op : Int) (a b : ByteArray) (w : World) (ho : OpP op) (la : a.size ≤ 1000) (lb : b.size ≤ 1000) : Calls Tryz.prog 11 #[.int .i64 0, .int .i64 op, .string a, .string b] w (CmpEnd (cmpBits op a b) w) := by
  cases hA : bitsB a.data.toList with
  | false =>
    have HA := hide hA
    clear hA
    have HV := hide (show cmpBits op a b = (false, false) by unfold cmpBits; rw [HA.out]; rfl)
    unfold OpP at ho
    have h1 : 19 ≤ op := by omega
    have h2 : op ≤ 26 := by omega
    have t3 : (op == 20) = false := beq_eq_false_iff_ne.2 (by omega)
    have t4 : (op == 22) = false := beq_eq_false_iff_ne.2 (by omega)
    clear ho
    go_enter Tryz.func11, Tryz.ntmps11
    go_wp2_with fail
    refine (risBits_any a _ la).mono ?_
    rw [HA.out]
    rintro e w1 ⟨rfl, rfl⟩
    go_wp2_with fail
    go_ret2
    exact ⟨by rw [HV.out]; rfl, Below.refl _ _⟩
  | true =>
    have HA := hide hA
    clear hA
    cases hB : bitsB b.data.toList with
    | false =>
      have HB := hide hB
      clear hB
      have HV := hide (show cmpBits op a b = (false, false) by unfold cmpBits; rw [HA.out, HB.out]; rfl)
      unfold OpP at ho
      have h1 : 19 ≤ op := by omega
      have h2 : op ≤ 26 := by omega
      have t3 : (op == 20) = false := beq_eq_false_iff_ne.2 (by omega)
      have t4 : (op == 22) = false := beq_eq_false_iff_ne.2 (by omega)
      clear ho
      go_enter Tryz.func11, Tryz.ntmps11
      go_wp2_with fail
      refine (risBits_any a _ la).mono ?_
      rw [HA.out]
      rintro e w1 ⟨rfl, rfl⟩
      go_wp2_with fail
      refine (risBits_any b _ lb).mono ?_
      rw [HB.out]
      rintro e w2 ⟨rfl, rfl⟩
      go_wp2_with fail
      go_ret2
      exact ⟨by rw [HV.out]; rfl, Below.refl _ _⟩
    | true =>
      by_cases hs : a.size = b.size
      · have HG := hide (show (bitsB a.data.toList && bitsB b.data.toList && decide (a.size = b.size)) = true by rw [HA.out, hB, hs]; simp)
        rcases ho with rfl | rfl | ⟨h1, h2⟩
        · have h := rccmp_eq a b w la lb HA.out hB hs
          have hv : cmpBits 19 a b = eqP a.data.toList b.data.toList := by
            unfold cmpBits
            rw [HG.out, if_pos rfl, if_pos rfl, eqP_and]
          rw [hv]
          exact h
        · have HB := hide hB
          have tne : ((a.size : Int) != (b.size : Int)) = false := by rw [hs]; simp
          clear hB hs
          cases hE : (a.toList == b.toList)
          all_goals
            have HE := hide (show eqS a b = _ from hE)
            go_enter Tryz.func11, Tryz.ntmps11
            go_wp2_with fail
            refine (risBits_any a _ la).mono ?_
            rw [HA.out]
            rintro e w1 ⟨rfl, rfl⟩
            go_wp2_with fail
            refine (risBits_any b _ lb).mono ?_
            rw [HB.out]
            rintro e w2 ⟨rfl, rfl⟩
            go_wp2_with fail
            go_ret2
            exact ⟨by unfold cmpBits; rw [HG.out, HE.out]; rfl, Below.refl _ _⟩
        · have HB := hide hB
          have tne : ((a.size : Int) != (b.size : Int)) = false := by rw [hs]; simp
          have t1 : (op == 19) = false := beq_eq_false_iff_ne.2 (by omega)
          have t2 : (op == 20) = false := beq_eq_false_iff_ne.2 (by omega)
          have t3 : (op == 21) = false := beq_eq_false_iff_ne.2 (by omega)
          have t4 : (op == 22) = false := beq_eq_false_iff_ne.2 (by omega)
          have HV := hide (show cmpBits op a b = if knownB a.data.toList && knownB b.data.toList then (relC op (lexC a.data.toList b.data.toList), true) else (false, false) by unfold cmpBits; rw [HG.out, if_pos rfl, if_neg (by omega), if_neg (by omega), if_neg (by omega), if_neg (by omega)])
          clear hB hs
          cases hk : knownB a.data.toList with
          | false =>
            have HK := hide hk
            clear hk
            rw [HK.out] at HV
            go_enter Tryz.func11, Tryz.ntmps11
            go_wp2_with fail
            refine (risBits_any a _ la).mono ?_
            rw [HA.out]
            rintro e w1 ⟨rfl, rfl⟩
            go_wp2_with fail
            refine (risBits_any b _ lb).mono ?_
            rw [HB.out]
            rintro e w2 ⟨rfl, rfl⟩
            go_wp2_with fail
            refine (rknown_any a _ la).mono ?_
            rw [HK.out]
            rintro e w3 ⟨rfl, rfl⟩
            go_wp2_with fail
            go_ret2
            exact ⟨by rw [HV.out]; rfl, Below.refl _ _⟩
          | true =>
            have HK := hide hk
            clear hk
            cases hk2 : knownB b.data.toList with
            | false =>
              have HK2 := hide hk2
              clear hk2
              rw [HK.out, HK2.out] at HV
              go_enter Tryz.func11, Tryz.ntmps11
              go_wp2_with fail
              refine (risBits_any a _ la).mono ?_
              rw [HA.out]
              rintro e w1 ⟨rfl, rfl⟩
              go_wp2_with fail
              refine (risBits_any b _ lb).mono ?_
              rw [HB.out]
              rintro e w2 ⟨rfl, rfl⟩
              go_wp2_with fail
              refine (rknown_any a _ la).mono ?_
              rw [HK.out]
              rintro e w3 ⟨rfl, rfl⟩
              go_wp2_with fail
              refine (rknown_any b _ lb).mono ?_
              rw [HK2.out]
              rintro e w4 ⟨rfl, rfl⟩
              go_wp2_with fail
              go_ret2
              exact ⟨by rw [HV.out]; rfl, Below.refl _ _⟩
            | true =>
              have HK2 := hide hk2
              clear hk2
              rw [HK.out, HK2.out] at HV
              go_enter Tryz.func11, Tryz.ntmps11
              go_wp2_with fail
              refine (risBits_any a _ la).mono ?_
              rw [HA.out]
              rintro e w1 ⟨rfl, rfl⟩
              go_wp2_with fail
              refine (risBits_any b _ lb).mono ?_
              rw [HB.out]
              rintro e w2 ⟨rfl, rfl⟩
              go_wp2_with fail
              refine (rknown_any a _ la).mono ?_
              rw [HK.out]
              rintro e w3 ⟨rfl, rfl⟩
              go_wp2_with fail
              refine (rknown_any b _ lb).mono ?_
              rw [HK2.out]
              rintro e w4 ⟨rfl, rfl⟩
              go_wp2_with fail
              refine (rorder_any a b _).mono ?_
              rintro e w5 ⟨rfl, rfl⟩
              go_wp2_with fail
              refine (rrel_any op _ _).mono ?_
              rintro e w6 ⟨rfl, rfl⟩
              go_wp2_with fail
              go_ret2
              exact ⟨by rw [HV.out]; rfl, Below.refl _ _⟩
      · have HB := hide hB
        have HV := hide (show cmpBits op a b = (false, false) by unfold cmpBits; rw [HA.out, hB, decide_eq_false hs]; rfl)
        have tne : ((a.size : Int) != (b.size : Int)) = true := by rw [bne_iff_ne]; omega
        unfold OpP at ho
        have h1 : 19 ≤ op := by omega
        have h2 : op ≤ 26 := by omega
        have t3 : (op == 20) = false := beq_eq_false_iff_ne.2 (by omega)
        have t4 : (op == 22) = false := beq_eq_false_iff_ne.2 (by omega)
        clear hs hB ho
        go_enter Tryz.func11, Tryz.ntmps11
        go_wp2_with fail
        refine (risBits_any a _ la).mono ?_
        rw [HA.out]
        rintro e w1 ⟨rfl, rfl⟩
        go_wp2_with fail
        refine (risBits_any b _ lb).mono ?_
        rw [HB.out]
        rintro e w2 ⟨rfl, rfl⟩
        go_wp2_with fail
        go_ret2
        exact ⟨by rw [HV.out]; rfl, Below.refl _ _⟩

theorem rccmp_p (kind op : Int) (a b : ByteArray) (w : World) (ho : OpP op) (la : a.size ≤ 1000) (lb : b.size ≤ 1000) : Calls Tryz.prog 11 #[.int .i64 kind, .int .i64 op, .string a, .string b] w (CmpEnd (cmpA kind op a b) w) := by
  unfold cmpA
  rw [if_neg (by unfold OpP at ho; omega)]
  by_cases k0 : kind = 0
  · rw [if_pos k0]; subst k0; exact rccmp_bits op a b w ho la lb
  · rw [if_neg k0]
    by_cases k1 : kind = 1
    · rw [if_pos k1]; subst k1; exact rccmp_real op a b w la lb ho
    · rw [if_neg k1]
      by_cases k2 : kind = 2
      · rw [if_pos k2]; subst k2; exact rccmp_str op a b w ho
      · rw [if_neg k2]; exact rccmp_kind kind op a b w ho k0 k1 k2

/-- the negation of a comparison -/
def notP (p : Bool × Bool) : Bool × Bool := (p.2 && !p.1, p.2)
theorem bits_not (a b : ByteArray) (op op' : Int) (h : (op = 19 ∧ op' = 20) ∨ (op = 21 ∧ op' = 22)) : cmpBits op' a b = notP (cmpBits op a b) := by
  unfold cmpBits
  generalize (bitsB a.data.toList && bitsB b.data.toList && decide (a.size = b.size)) = g
  generalize eqP a.data.toList b.data.toList = p
  generalize eqS a b = q
  obtain ⟨x, y⟩ := p
  rcases h with ⟨rfl, rfl⟩ | ⟨rfl, rfl⟩ <;> cases g <;> cases x <;> cases y <;> cases q <;> rfl
theorem real_not (a b : ByteArray) (op op' : Int) (h : (op = 19 ∧ op' = 20) ∨ (op = 21 ∧ op' = 22)) : cmpReal op' a b = notP (cmpReal op a b) := by
  unfold cmpReal
  generalize (valB a && valB b) = g
  generalize eqS a b = q
  rcases h with ⟨rfl, rfl⟩ | ⟨rfl, rfl⟩ <;> cases g <;> cases q <;> rfl
theorem str_not (a b : ByteArray) (op op' : Int) (h : (op = 19 ∧ op' = 20) ∨ (op = 21 ∧ op' = 22)) : cmpStr op' a b = notP (cmpStr op a b) := by
  unfold cmpStr
  generalize eqS a b = q
  rcases h with ⟨rfl, rfl⟩ | ⟨rfl, rfl⟩ <;> cases q <;> rfl
/-- != and !== are the negations of == and === -/
theorem cmpA_not (kind : Int) (a b : ByteArray) (op op' : Int) (h : (op = 19 ∧ op' = 20) ∨ (op = 21 ∧ op' = 22)) : cmpA kind op' a b = notP (cmpA kind op a b) := by
  unfold cmpA
  have h1 : ¬(op' < 19 ∨ 26 < op') := by omega
  have h2 : ¬(op < 19 ∨ 26 < op) := by omega
  rw [if_neg h1, if_neg h2]
  by_cases k0 : kind = 0
  · rw [if_pos k0, if_pos k0, bits_not a b op op' h]
  · rw [if_neg k0, if_neg k0]
    by_cases k1 : kind = 1
    · rw [if_pos k1, if_pos k1, real_not a b op op' h]
    · rw [if_neg k1, if_neg k1]
      by_cases k2 : kind = 2
      · rw [if_pos k2, if_pos k2, str_not a b op op' h]
      · rw [if_neg k2, if_neg k2]; rfl

set_option maxRecDepth 100000 in
theorem rccmp_any (kind op : Int) (a b : ByteArray) (w : World) (la : a.size ≤ 1000) (lb : b.size ≤ 1000) : Calls Tryz.prog 11 #[.int .i64 kind, .int .i64 op, .string a, .string b] w (CmpEnd (cmpA kind op a b) w) := by
  by_cases h : op < 19 ∨ 26 < op
  · have := rccmp_out kind op a b w h
    unfold cmpA
    rw [if_pos h]
    exact this
  · by_cases h2 : op = 20 ∨ op = 22
    · rcases h2 with rfl | rfl
      · have HP := hide (fun W => rccmp_p kind 19 a b W (.inl rfl) la lb)
        have HN := hide (cmpA_not kind a b 19 20 (.inl ⟨rfl, rfl⟩))
        obtain ⟨x, y, hxy⟩ : ∃ x y, cmpA kind 19 a b = (x, y) := ⟨_, _, rfl⟩
        rw [hxy] at HP HN
        clear hxy h
        cases x <;> cases y
        all_goals
          go_enter Tryz.func11, Tryz.ntmps11
          go_wp2_with fail
          refine (HP.out _).mono ?_
          rintro e w1 ⟨rfl, b1⟩
          go_wp2_with fail
          go_ret2
          exact ⟨by rw [HN.out]; rfl, b1⟩
      · have HP := hide (fun W => rccmp_p kind 21 a b W (.inr (.inl rfl)) la lb)
        have HN := hide (cmpA_not kind a b 21 22 (.inr ⟨rfl, rfl⟩))
        obtain ⟨x, y, hxy⟩ : ∃ x y, cmpA kind 21 a b = (x, y) := ⟨_, _, rfl⟩
        rw [hxy] at HP HN
        clear hxy h
        cases x <;> cases y
        all_goals
          go_enter Tryz.func11, Tryz.ntmps11
          go_wp2_with fail
          refine (HP.out _).mono ?_
          rintro e w1 ⟨rfl, b1⟩
          go_wp2_with fail
          go_ret2
          exact ⟨by rw [HN.out]; rfl, b1⟩
    · exact rccmp_p kind op a b w (by unfold OpP; omega) la lb

set_option maxRecDepth 100000 in
set_option maxHeartbeats 1000000 in
theorem compares_all (kind op : Int) (a b : ByteArray) (w : World) (hT : Tab w) : Calls Tryz.prog 3 #[.int .i64 kind, .int .i64 op, .string a, .string b] w fun e w' => e = .returned (.bool true) ∧ Below w.heap.size w w' := by
  have HT := hide hT
  clear hT
  by_cases la : 130 < a.size
  · have ta : decide (130 < (a.size : Int)) = true := decide_eq_true (by omega)
    go_enter Tryz.func3, Tryz.ntmps3
    go_wp2_with fail
    refine (awake51 _).mono ?_
    rintro e w1 ⟨rfl, b1⟩
    go_wp2_with fail
    go_ret
    exact ⟨rfl, b1⟩
  · by_cases lb : 130 < b.size
    · go_enter Tryz.func3, Tryz.ntmps3
      go_wp2_with fail
      refine (awake51 _).mono ?_
      rintro e w1 ⟨rfl, b1⟩
      go_wp2_with fail
      go_ret
      exact ⟨rfl, b1⟩
    · have HP := hide (fun W h => ccmp_any kind op a b W h (by omega) (by omega))
      have HR := hide (fun W => rccmp_any kind op a b W (by omega) (by omega))
      obtain ⟨x, y, hxy⟩ : ∃ x y, cmpA kind op a b = (x, y) := ⟨_, _, rfl⟩
      rw [hxy] at HP HR
      clear hxy
      cases x <;> cases y
      all_goals
        go_enter Tryz.func3, Tryz.ntmps3
        go_wp2_with fail
        refine (HP.out _ HT.out).mono ?_
        rintro e w1 ⟨rfl, b1⟩
        have B1 := hide b1
        clear b1
        go_wp2_with fail
        refine (HR.out _).mono ?_
        rintro e w2 ⟨rfl, b2⟩
        have B2 := hide (bstep B1.out b2)
        clear b2
        go_wp2_with fail
        refine (awake51 _).mono ?_
        rintro e w3 ⟨rfl, b3⟩
        go_wp2_with fail
        go_ret
        exact ⟨rfl, bstep B2.out b3⟩

end Go.Proofs.YtdlebcijgdkfjaaGreatDoor
