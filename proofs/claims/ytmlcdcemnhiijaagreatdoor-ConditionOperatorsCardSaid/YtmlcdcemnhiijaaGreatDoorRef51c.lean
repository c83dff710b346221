/-
  wavestoreref51.sum.
-/
import Derived.Test.YtmlcdcemnhiijaaGreatDoorRef51b
import Derived.Test.YtmlcdcemnhiijaaGreatDoorBoth
namespace Go.Proofs.YtmlcdcemnhiijaaGreatDoor
open Go.RowKit

/-- a string by its bytes -/
def strB (l : List UInt8) : ByteArray := ⟨l.toArray⟩
theorem strB_cat (l m : List UInt8) : strB l ++ strB m = strB (l ++ m) := by
  apply ByteArray.ext
  simp [strB]
theorem strB_snoc (l : List UInt8) (c : UInt8) : strB l ++ ⟨#[c]⟩ = strB (l ++ [c]) := strB_cat l [c]
theorem strB_cons (c : UInt8) (l : List UInt8) : (⟨#[c]⟩ : ByteArray) ++ strB l = strB (c :: l) := strB_cat [c] l
theorem strB_size (l : List UInt8) : (strB l).size = l.length := by simp [strB, ByteArray.size]
theorem strB_list (l : List UInt8) : (strB l).data.toList = l := rfl
theorem strB_nil : (⟨#[]⟩ : ByteArray) = strB [] := rfl
def XsRel (n : Nat) (out i : Value) : Prop := ∃ k : Nat, k ≤ n ∧ i = .int .i64 k ∧ out = .string (strB (List.replicate k (120 : UInt8)))

set_option maxRecDepth 100000 in
set_option maxHeartbeats 1000000 in
theorem rsum_unk (a b : ByteArray) (minus : Bool) (w : World) (hl : a.size ≤ 1000) (hb : b.size ≤ 1000) (hk : (knownB a.data.toList && knownB b.data.toList) = false) :
    Calls Tryz.prog 24 #[.string a, .string b, .bool minus] w fun e w' => e = .returned (.string (strB (List.replicate a.size (120 : UInt8)))) ∧ w = w' := by
  have HR := hide (show ∀ k, strB (List.replicate k (120 : UInt8)) ++ ⟨#[120]⟩ = strB (List.replicate (k + 1) 120) from fun k => by rw [strB_snoc, ← List.replicate_succ'])
  cases hka : knownB a.data.toList with
  | false =>
    have HKA := hide hka
    clear hka hk
    go_enter Tryz.func24, Tryz.ntmps24
    go_wp2_with fail
    refine (rknown_any a _ hl).mono ?_
    rw [HKA.out]
    rintro e w1 ⟨rfl, rfl⟩
    go_wp2_with fail
    go_loop [7, 8] (fun out i => XsRel a.size out i) (fun _ i => a.size - (intOf i).toNat)
    case atStart => exact ⟨0, Nat.zero_le _, rfl, rfl⟩
    case round =>
      obtain ⟨k, hk, rfl, rfl⟩ := hrel
      by_cases hlt : k < a.size
      · have hz : (strB (List.replicate k (120 : UInt8))).size = k := by rw [strB_size, List.length_replicate]
        have hz2 : (strB (List.replicate k (120 : UInt8))).size + 1 ≤ 9223372036854775807 := by omega
        clear hz
        go_wp2_with fail
        go_round
        case rel => exact ⟨k + 1, by omega, by go_num, by rw [HR.out]⟩
        case measure => simp [intOf]; omega
      · have hke : k = a.size := by omega
        subst hke
        go_wp2_with fail
        go_ret
        exact ⟨rfl, rfl⟩
  | true =>
    have hkb : knownB b.data.toList = false := by rw [hka] at hk; simpa using hk
    have HKA := hide hka
    have HKB := hide hkb
    clear hka hk hkb
    go_enter Tryz.func24, Tryz.ntmps24
    go_wp2_with fail
    refine (rknown_any a _ hl).mono ?_
    rw [HKA.out]
    rintro e w1 ⟨rfl, rfl⟩
    go_wp2_with fail
    refine (rknown_any b _ hb).mono ?_
    rw [HKB.out]
    rintro e w1 ⟨rfl, rfl⟩
    go_wp2_with fail
    go_loop [7, 8] (fun out i => XsRel a.size out i) (fun _ i => a.size - (intOf i).toNat)
    case atStart => exact ⟨0, Nat.zero_le _, rfl, rfl⟩
    case round =>
      obtain ⟨k, hk, rfl, rfl⟩ := hrel
      by_cases hlt : k < a.size
      · have hz : (strB (List.replicate k (120 : UInt8))).size = k := by rw [strB_size, List.length_replicate]
        have hz2 : (strB (List.replicate k (120 : UInt8))).size + 1 ≤ 9223372036854775807 := by omega
        clear hz
        go_wp2_with fail
        go_round
        case rel => exact ⟨k + 1, by omega, by go_num, by rw [HR.out]⟩
        case measure => simp [intOf]; omega
      · have hke : k = a.size := by omega
        subst hke
        go_wp2_with fail
        go_ret
        exact ⟨rfl, rfl⟩

theorem subR_carry : ∀ (xs ys : List UInt8) (c : Nat), c ≤ 1 → (subR xs ys c).2 ≤ 1
  | [], _, c, h => by simpa [subR] using h
  | _ :: _, [], c, h => by simpa [subR] using h
  | x :: xs, y :: ys, c, h => by
    simp only [subR]
    split <;> omega
theorem subR_drop (xs ys : List UInt8) (c : Nat) (h : xs.length = ys.length) (i : Nat) (hi : i < xs.length) :
    subR (xs.drop i) (ys.drop i) c = (UInt8.ofNat (48 + (nb xs[i] + nb (ys[i]'(by omega)) + (subR (xs.drop (i + 1)) (ys.drop (i + 1)) c).2) % 2) :: (subR (xs.drop (i + 1)) (ys.drop (i + 1)) c).1, if nb xs[i] < nb (ys[i]'(by omega)) + (subR (xs.drop (i + 1)) (ys.drop (i + 1)) c).2 then 1 else 0) := by
  rw [List.drop_eq_getElem_cons hi, List.drop_eq_getElem_cons (by omega : i < ys.length)]
  rfl
/-- sums or differences from place i on -/
def asR (minus : Bool) (xs ys : List UInt8) : List UInt8 × Nat := if minus then subR xs ys 0 else addR xs ys 0
theorem asR_carry (m : Bool) (xs ys : List UInt8) : (asR m xs ys).2 ≤ 1 := by
  unfold asR
  split
  · exact subR_carry _ _ _ (by omega)
  · exact addR_carry _ _ _ (by omega)
def asBit (x y c : Nat) : UInt8 := UInt8.ofNat (48 + (x + y + c) % 2)
def asCar (m : Bool) (x y c : Nat) : Nat := if m then (if x < y + c then 1 else 0) else (x + y + c) / 2
theorem asR_drop (m : Bool) (xs ys : List UInt8) (h : xs.length = ys.length) (i : Nat) (hi : i < xs.length) :
    asR m (xs.drop i) (ys.drop i) = (asBit (nb xs[i]) (nb (ys[i]'(by omega))) (asR m (xs.drop (i + 1)) (ys.drop (i + 1))).2 :: (asR m (xs.drop (i + 1)) (ys.drop (i + 1))).1, asCar m (nb xs[i]) (nb (ys[i]'(by omega))) (asR m (xs.drop (i + 1)) (ys.drop (i + 1))).2) := by
  unfold asR asBit asCar
  cases m
  · exact addR_drop xs ys 0 h i hi
  · exact subR_drop xs ys 0 h i hi
theorem asR_len (m : Bool) (xs ys : List UInt8) (h : xs.length = ys.length) (hk : knownB ys = true) : (asR m xs ys).1 = sumL xs ys m := by
  unfold asR sumL
  cases m
  · rfl
  · exact (sub_add xs ys h hk).1.symm

theorem subR_len : ∀ (xs ys : List UInt8) (c : Nat), xs.length = ys.length → (subR xs ys c).1.length = xs.length
  | [], [], _, _ => rfl
  | x :: xs, y :: ys, c, h => by simp only [subR, List.length_cons]; rw [subR_len xs ys c (by simpa using h)]
  | [], _ :: _, _, h => by simp at h
  | _ :: _, [], _, h => by simp at h
theorem asR_size (m : Bool) (xs ys : List UInt8) (h : xs.length = ys.length) : (asR m xs ys).1.length = xs.length := by
  unfold asR
  cases m
  · exact addR_len xs ys 0 h
  · exact subR_len xs ys 0 h
def AsRel (m : Bool) (a b : ByteArray) (w : World) (out cv iv : Value) (wr : World) : Prop :=
  ∃ i : Nat, i ≤ a.size ∧ iv = .int .i64 ((i : Int) - 1) ∧ cv = .int .i64 ((asR m (a.data.toList.drop i) (b.data.toList.drop i)).2 : Int) ∧ out = .string (strB (asR m (a.data.toList.drop i) (b.data.toList.drop i)).1) ∧ Below w.heap.size w wr

set_option maxRecDepth 100000 in
set_option maxHeartbeats 4000000 in
theorem rsum_kn (a b : ByteArray) (m : Bool) (w : World) (hl : a.size ≤ 1000) (hab : a.size = b.size) (hka : knownB a.data.toList = true) (hkb : knownB b.data.toList = true) :
    Calls Tryz.prog 24 #[.string a, .string b, .bool m] w fun e w' => e = .returned (.string (strB (sumL a.data.toList b.data.toList m))) ∧ Below w.heap.size w w' := by
  have hla : a.data.toList.length = a.size := by simp
  have hlb : b.data.toList.length = b.size := by simp
  have hb : b.size ≤ 1000 := by omega
  have HC := hide (show asR m (a.data.toList.drop a.size) (b.data.toList.drop a.size) = ([], 0) by
    rw [List.drop_of_length_le (by omega), List.drop_of_length_le (by omega)]; cases m <;> rfl)
  have HFIN := hide (asR_len m a.data.toList b.data.toList (by omega) hkb)
  have HKA := hide hka
  have HKB := hide hkb
  have HAB := hide hab
  clear hka hkb hab hla hlb
  have kc0 : ∀ (w : World) (n : Nat), (convert 53 9 (.slice (some ⟨w.heap.size, 0, none⟩) 1 1)).run Tryz.prog ((w.drewN n).alloc (.cells #[.int .u8 48] 5)) = .ok (.string ⟨#[48]⟩) ((w.drewN n).alloc (.cells #[.int .u8 48] 5)) := fun w n => conv_one (w.drewN n) 48
  have kc1 : ∀ (w : World) (n : Nat), (convert 53 9 (.slice (some ⟨w.heap.size, 0, none⟩) 1 1)).run Tryz.prog ((w.drewN n).alloc (.cells #[.int .u8 49] 5)) = .ok (.string ⟨#[49]⟩) ((w.drewN n).alloc (.cells #[.int .u8 49] 5)) := fun w n => conv_one (w.drewN n) 49
  have HCON := hide strB_cons
  have hab := HAB.out
  have HLN := hide (show ∀ i, (asR m (a.data.toList.drop i) (b.data.toList.drop i)).1.length ≤ 1000 from fun i => by
    rw [asR_size m _ _ (by simp; omega)]; simp; omega)
  clear hab
  go_enter Tryz.func24, Tryz.ntmps24
  go_wp2_with fail
  refine (rknown_any a _ hl).mono ?_
  rw [HKA.out]
  rintro e w1 ⟨rfl, rfl⟩
  go_wp2_with fail
  refine (rknown_any b _ hb).mono ?_
  rw [HKB.out]
  rintro e w1 ⟨rfl, rfl⟩
  go_wp2_with fail
  go_loopw [7, 9, 10] (fun out cv iv wr => AsRel m a b w out cv iv wr) (fun _ _ iv _ => (intOf iv + 1).toNat)
  case atStart => exact ⟨a.size, Nat.le_refl _, rfl, by rw [HC.out]; rfl, by rw [HC.out]; rfl, Below.refl _ _⟩
  case round =>
    obtain ⟨j, hj, rfl, rfl, rfl, hbr⟩ := hrel
    cases j with
    | zero =>
      rw [List.drop_zero, List.drop_zero, HFIN.out]
      have j0 : ((0 : Nat) : Int) - 1 = -1 := rfl
      rw [j0]
      go_wp2_with fail
      go_ret
      exact ⟨rfl, hbr⟩
    | succ i =>
      have hia : i < a.size := by omega
      have hib : i < b.size := by have := HAB.out; omega
      have hja : (i : Int) < (a.size : Int) := by omega
      have hjb : (i : Int) < (b.size : Int) := by omega
      have hj0 : (0 : Int) ≤ (i : Int) := by omega
      have va : (a[i].toNat : Int) = 48 + (nb a[i] : Int) := nb_val (kn_at (l := a.data.toList) HKA.out (by simpa using hia))
      have vb : (b[i].toNat : Int) = 48 + (nb b[i] : Int) := nb_val (kn_at (l := b.data.toList) HKB.out (by simpa using hib))
      have hna := nb_le a[i]
      have hnb := nb_le b[i]
      have hcy := asR_carry m (a.data.toList.drop (i + 1)) (b.data.toList.drop (i + 1))
      have hlz := HLN.out (i + 1)
      have HD := hide (asR_drop m a.data.toList b.data.toList (by have := HAB.out; simpa using this) i (by simpa using hia))
      have e1 : a.data.toList[i]'(by simpa using hia) = a[i] := rfl
      have e2 : b.data.toList[i]'(by simpa using hib) = b[i] := rfl
      rw [e1, e2] at HD
      generalize asR m (a.data.toList.drop (i + 1)) (b.data.toList.drop (i + 1)) = r at *
      obtain ⟨r1, r2⟩ := r
      dsimp only at *
      generalize nb a[i] = xa at *
      generalize nb b[i] = xb at *
      clear e1 e2
      have j1 : ((i + 1 : Nat) : Int) - 1 = (i : Int) := by omega
      rw [j1]
      clear j1
      have hxa : xa = 0 ∨ xa = 1 := by omega
      have hxb : xb = 0 ∨ xb = 1 := by omega
      have hr2 : r2 = 0 ∨ r2 = 1 := by omega
      have hz : (strB r1).size ≤ 1000 := by rw [strB_size]; exact hlz
      clear hlz
      clear hna hnb hcy
      rcases hxa with rfl | rfl
      all_goals
        rcases hxb with rfl | rfl
        all_goals
          rcases hr2 with rfl | rfl
          all_goals
            cases m
            all_goals
              go_upto_region 12 with (fail)
              go_quiet (fail)
              go_wp2_with fail
              go_roundw
              case rel => exact ⟨i, by omega, rfl, by rw [HD.out]; rfl, by rw [HD.out, HCON.out]; rfl, (below_drewN hbr nq).alloc hbr.size _⟩
              case measure => simp [intOf]

end Go.Proofs.YtmlcdcemnhiijaaGreatDoor
