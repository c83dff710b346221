/-
  condition.equality and Compare, where both strings are bits of one length and the operator is an equality.
-/
import Derived.Test.YtdlebcijgdkfjaaGreatDoorSliceF
import Derived.Test.YtdlebcijgdkfjaaGreatDoorRef51
namespace Go.Proofs.YtdlebcijgdkfjaaGreatDoor
open Go.RowKit

theorem codeL {c : UInt8} {n : Nat} (h : codeC c = n) (w : World) : Calls Tryz.prog 80 #[.int .u8 (c.toNat : Int)] w fun e w' => e = .returned (.int .i64 (n : Int)) ∧ w' = w := by
  subst h; exact codeq c w

/-- two places that are known and differ -/
def diffC (x y : UInt8) : Bool := knC x && knC y && (x != y)
def diffL (a b : List UInt8) : Bool := (List.zipWith diffC a b).any id
def eqP (a b : List UInt8) : Bool × Bool := if diffL a b then (false, true) else (knownB a && knownB b, knownB a && knownB b)

theorem diff_take {a b : List UInt8} {k : Nat} (ha : k < a.length) (hb : k < b.length) : diffL (a.take (k + 1)) (b.take (k + 1)) = (diffL (a.take k) (b.take k) || diffC a[k] b[k]) := by
  unfold diffL
  rw [List.take_succ_eq_append_getElem ha, List.take_succ_eq_append_getElem hb, List.zipWith_append (by simp; omega), List.any_append]
  simp
theorem diff_true {a b : List UInt8} {k : Nat} (ha : k < a.length) (hb : k < b.length) (h : diffC a[k] b[k] = true) : diffL a b = true := by
  unfold diffL
  rw [List.any_eq_true]
  refine ⟨true, ?_, rfl⟩
  rw [← h]
  have hl : k < (List.zipWith diffC a b).length := by simp; omega
  have : (List.zipWith diffC a b)[k] = diffC a[k] b[k] := by simp
  rw [← this]
  exact List.getElem_mem hl
theorem diff_code (x y : UInt8) : diffC x y = (decide (codeC x < 2) && decide (codeC y < 2) && (codeC x != codeC y)) := by
  unfold diffC
  rcases code_cases x with ⟨rfl, _, _⟩ | ⟨rfl, _, _⟩ | ⟨_, _, _, _, h1, h2⟩
  · rcases code_cases y with ⟨rfl, _, _⟩ | ⟨rfl, _, _⟩ | ⟨_, _, _, _, h1, h2⟩
    · rfl
    · rfl
    · rw [h1, h2]; rfl
  · rcases code_cases y with ⟨rfl, _, _⟩ | ⟨rfl, _, _⟩ | ⟨_, _, _, _, h1, h2⟩
    · rfl
    · rfl
    · rw [h1, h2]; rfl
  · rw [h1, h2]; rfl

def EqRel (a b : ByteArray) (w : World) (i : Value) (wr : World) : Prop := ∃ (k q : Nat), k ≤ a.size ∧ i = .int .i64 k ∧ diffL (a.data.toList.take k) (b.data.toList.take k) = false ∧ wr = w.drewN q
theorem code_three (c : UInt8) : codeC c = 0 ∨ codeC c = 1 ∨ codeC c = 2 := by have := codeC_le c; omega

set_option maxRecDepth 100000 in
set_option maxHeartbeats 4000000 in
theorem equality_any (a b : ByteArray) (w : World) (hab : a.size = b.size) (hl : a.size ≤ 1000) :
    Calls Tryz.prog 34 #[.string a, .string b] w fun e w' => e = .returned (.tuple #[.bool (eqP a.data.toList b.data.toList).1, .bool (eqP a.data.toList b.data.toList).2]) ∧ Below w.heap.size w w' := by
  have HAB := hide hab
  have hlb : b.size ≤ 1000 := by omega
  clear hab
  go_enter Tryz.func34, Tryz.ntmps34
  go_wp2_with fail
  go_loopw [11] (fun i wr => EqRel a b w i wr) (fun i _ => a.size - (intOf i).toNat)
  case atStart => exact ⟨0, 0, Nat.zero_le _, rfl, rfl, rfl⟩
  case round =>
    obtain ⟨k, q, hk, rfl, hnd, hwr⟩ := hrel
    have hbq : Below w.heap.size w wr := by rw [hwr]; exact below_drewN (Below.refl _ _) q
    have HWR := hide hwr
    clear hwr
    have HND := hide hnd
    clear hnd
    by_cases hlt : k < a.size
    · have hlt2 : k < b.size := by have := HAB.out; omega
      have h1 : k < a.data.toList.length := by simpa using hlt
      have h2 : k < b.data.toList.length := by simpa using hlt2
      have HT := hide (diff_take h1 h2)
      have HD := hide (fun h => diff_true h1 h2 h)
      have e1 : a.data.toList[k] = a[k] := rfl
      have e2 : b.data.toList[k] = b[k] := rfl
      rw [e1, e2] at HT HD
      have HDC := hide (diff_code a[k] b[k])
      have HA := hide (code_three a[k])
      have HB := hide (code_three b[k])
      have hi1 : (k : Int) < (a.size : Int) := by omega
      have hi2 : (k : Int) < (b.size : Int) := by omega
      have hi3 : (0 : Int) ≤ (k : Int) := by omega
      clear e1 e2
      rcases HA.out with hA | hA | hA
      all_goals
        rcases HB.out with hB | hB | hB
        all_goals
          have HA1 := hide hA
          have HB1 := hide hB
          clear hA hB
          rw [HA1.out, HB1.out] at HDC
          go_upto_region 4 with (fail)
          go_quiet ((go_at_call 80; first | (with_reducible exact Calls.quiet_of_same (codeL HA1.out _)) | (with_reducible exact Calls.quiet_of_same (codeL HB1.out _))))
          go_wp2_with fail
          first
            | (go_ret2
               exact ⟨by unfold eqP; rw [if_pos (HD.out HDC.out)]; rfl, below_drewN hbq nq⟩)
            | (go_roundw
               case rel => exact ⟨k + 1, q + nq, by omega, by go_num, by rw [HT.out, HND.out, HDC.out]; rfl, by rw [HWR.out]; simp [World.drewN, Nat.add_assoc]⟩
               case measure => simp [intOf]; omega)
    · have hke : k = a.size := by omega
      subst hke
      have hE := HND.out
      have hl1 : a.data.toList.length = a.size := by simp
      have hl2 : b.data.toList.length = b.size := by simp
      rw [List.take_of_length_le (by omega), List.take_of_length_le (by have := HAB.out; omega)] at hE
      have HE := hide (show eqP a.data.toList b.data.toList = (knownB a.data.toList && knownB b.data.toList, knownB a.data.toList && knownB b.data.toList) by unfold eqP; rw [hE]; rfl)
      clear hE hl1 hl2
      cases hka : knownB a.data.toList with
      | false =>
        have HK := hide hka
        clear hka
        go_wp2_with fail
        refine (known_any a _ hl).mono ?_
        rw [HK.out]
        rintro e w1 ⟨rfl, b1⟩
        go_wp2_with fail
        refine (known_any a _ hl).mono ?_
        rw [HK.out]
        rintro e w2 ⟨rfl, b2⟩
        go_wp2_with fail
        go_ret2
        exact ⟨by rw [HE.out, HK.out]; rfl, bstep (bstep hbq b1) b2⟩
      | true =>
        have HK := hide hka
        clear hka
        go_wp2_with fail
        refine (known_any a _ hl).mono ?_
        rw [HK.out]
        rintro e w1 ⟨rfl, b1⟩
        go_wp2_with fail
        refine (known_any b _ hlb).mono ?_
        rintro e w2 ⟨rfl, b2⟩
        go_wp2_with fail
        refine (known_any a _ hl).mono ?_
        rw [HK.out]
        rintro e w3 ⟨rfl, b3⟩
        go_wp2_with fail
        refine (known_any b _ hlb).mono ?_
        rintro e w4 ⟨rfl, b4⟩
        go_wp2_with fail
        go_ret2
        exact ⟨by rw [HE.out, HK.out]; rfl, bstep (bstep (bstep (bstep hbq b1) b2) b3) b4⟩

end Go.Proofs.YtdlebcijgdkfjaaGreatDoor
