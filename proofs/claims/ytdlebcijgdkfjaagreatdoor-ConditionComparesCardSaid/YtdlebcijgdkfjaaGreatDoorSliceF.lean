/-
  condition.slice; fold over bytes with the closure of Apply; mapped with the other closure of Apply.
-/
import Derived.Test.YtdlebcijgdkfjaaGreatDoorTrim
namespace Go.Proofs.YtdlebcijgdkfjaaGreatDoor
open Go.RowKit

theorem codeq (c : UInt8) (w : World) : Calls Tryz.prog 80 #[.int .u8 (c.toNat : Int)] w fun e w' => e = .returned (.int .i64 (codeC c : Int)) ∧ w' = w := (code_any c w).mono fun _ _ ⟨h1, h2⟩ => ⟨h1, h2.symm⟩

set_option maxRecDepth 100000 in
theorem slice_any (s : ByteArray) (hi lo : Int) (w : World) (hs : s.size ≤ 1000) (h1 : -9223372036854775808 ≤ hi ∧ hi ≤ 9223372036854775807) (h2 : -9223372036854775808 ≤ lo ∧ lo ≤ 9223372036854775807) :
    Calls Tryz.prog 78 #[.string s, .int .i64 hi, .int .i64 lo] w fun e w' => e = .returned (.string ⟨(sliceL s.data.toList hi lo).toArray⟩) ∧ w = w' := by
  by_cases h : lo < 0 ∨ lo > hi ∨ hi ≥ s.size
  · have HS := hide (show sliceL s.data.toList hi lo = [] by unfold sliceL; rw [if_pos]; simpa using h)
    by_cases ha : lo < 0
    · go_enter Tryz.func78, Tryz.ntmps78
      go_wp2_with fail
      go_ret
      exact ⟨by rw [HS.out]; rfl, rfl⟩
    · by_cases hb : hi < lo
      · go_enter Tryz.func78, Tryz.ntmps78
        go_wp2_with fail
        go_ret
        exact ⟨by rw [HS.out]; rfl, rfl⟩
      · have hc : (s.size : Int) ≤ hi := by omega
        clear h
        go_enter Tryz.func78, Tryz.ntmps78
        go_wp2_with fail
        go_ret
        exact ⟨by rw [HS.out]; rfl, rfl⟩
  · obtain ⟨m, rfl⟩ : ∃ m : Nat, hi = m := ⟨hi.toNat, by omega⟩
    obtain ⟨n, rfl⟩ : ∃ n : Nat, lo = n := ⟨lo.toNat, by omega⟩
    have e1 : n ≤ m := by omega
    have e2 : m < s.size := by omega
    have e3 : (m : Int) < (s.size : Int) := by omega
    have e4 : (n : Int) ≤ (m : Int) := by omega
    have e5 : (0 : Int) ≤ (n : Int) := by omega
    clear h
    go_enter Tryz.func78, Tryz.ntmps78
    go_wp2_with fail
    go_ret
    refine ⟨?_, rfl⟩
    have hx : s.extract (s.size - 1 - m) (s.size - n) = ⟨(sliceL s.data.toList m n).toArray⟩ := by
      apply ByteArray.ext
      apply Array.toList_inj.1
      rw [Lib.extract_data]
      unfold sliceL
      have hl : s.data.toList.length = s.size := by simp
      rw [if_neg (by rw [hl]; omega), hl]
      show _ = List.take ((m : Int).toNat - (n : Int).toNat + 1) (List.drop (s.size - 1 - (m : Int).toNat) s.data.toList)
      rw [Int.toNat_natCast, Int.toNat_natCast]
      congr 1
      omega
    rw [← hx]
    rfl

theorem tabc {w : World} {Bt : Nat} {l : List UInt8} {t : TypeId} (h : w.heap[Bt]? = some (.cells (tabV l) t (0, 0))) {i : Nat} (hi : i < l.length) : w.cell? ⟨Bt, i, none⟩ = some (bv (l.getD i 0)) := by
  rw [cell_of_row w Bt i _ t (0, 0) h]
  simp [tabV, List.getElem?_eq_getElem hi, List.getD]
set_option maxRecDepth 100000 in
set_option maxHeartbeats 1000000 in
theorem apply2_any (k : Int) (hk : k = 9 ∨ k = 10 ∨ k = 11) (x c : UInt8) (Bt : Nat) (w : World) (h : w.heap[Bt]? = some (.cells (tabV (tabOf (k + 5))) 113 (0, 0))) :
    Calls Tryz.prog 82 #[bv x, bv c, .pointer (some ⟨Bt, 0, none⟩)] w fun e w' => e = .returned (bv (opC k x c)) ∧ ∃ n, w' = w.drewN n := by
  have p1 : ((codeC x : Nat) : Int) < 3 := by have := codeC_le x; omega
  have p0 : (0 : Int) ≤ ((codeC x : Nat) : Int) := by omega
  have q1 : ((codeC c : Nat) : Int) < 3 := by have := codeC_le c; omega
  have q0 : (0 : Int) ≤ ((codeC c : Nat) : Int) := by omega
  have hcell := tabc h (i := codeC x * 3 + codeC c) (by rw [tabOf_len]; omega)
  have HOP := hide (op_tab k hk x c).2
  go_enter Tryz.func82, Tryz.ntmps82
  go_upto_region 1 with (fail)
  go_quiet ((go_at_call 80; exact Calls.quiet_of_same (codeq _ _)))
  go_wp2_with fail
  go_ret
  exact ⟨by rw [HOP.out]; rfl, nq, rfl⟩

def FoRel (k : Int) (x : UInt8) (l : List UInt8) (w : World) (out i : Value) (wr : World) : Prop := ∃ (n q : Nat), n ≤ l.length ∧ i = .int .i64 n ∧ out = bv ((l.take n).foldl (opC k) x) ∧ wr = w.drewN q
set_option maxRecDepth 100000 in
set_option maxHeartbeats 1000000 in
theorem foldo_any (k : Int) (hk : k = 9 ∨ k = 10 ∨ k = 11) (x : UInt8) (l : List UInt8) (bb cb Bt : Nat) (w : World) (h : w.heap[Bt]? = some (.cells (tabV (tabOf (k + 5))) 113 (0, 0))) (hby : ∀ i c, l[i]? = some c → w.cell? ⟨bb, i, none⟩ = some (bv c)) (hl : l.length ≤ 1000) :
    Calls Tryz.prog 81 #[.slice (some ⟨bb, 0, none⟩) l.length cb, bv x, .func (.func 82) #[] #[.pointer (some ⟨Bt, 0, none⟩)]] w fun e w' => e = .returned (bv (l.foldl (opC k) x)) ∧ ∃ n, w' = w.drewN n := by
  have HBY := hide hby
  clear hby
  go_enter Tryz.func81, Tryz.ntmps81
  go_wp2_with fail
  go_loopw [1, 11] (fun out i wr => FoRel k x l w out i wr) (fun _ i _ => l.length - (intOf i).toNat)
  case atStart => exact ⟨0, 0, Nat.zero_le _, rfl, rfl, rfl⟩
  case round =>
    obtain ⟨n, q, hn, rfl, rfl, rfl⟩ := hrel
    by_cases hlt : n < l.length
    · have q1 : (w.drewN q).cell? ⟨bb, n, none⟩ = some (bv l[n]) := HBY.out n _ (List.getElem?_eq_getElem hlt)
      have HF := hide (show (l.take (n + 1)).foldl (opC k) x = opC k ((l.take n).foldl (opC k) x) l[n] by rw [List.take_succ_eq_append_getElem hlt, List.foldl_append]; rfl)
      have hq : (w.drewN q).heap[Bt]? = some (.cells (tabV (tabOf (k + 5))) 113 (0, 0)) := h
      generalize l[n] = c at *
      generalize (l.take n).foldl (opC k) x = y at *
      go_wp2_with fail
      refine (apply2_any k hk y c Bt _ hq).mono ?_
      rintro e w1 ⟨rfl, m, rfl⟩
      go_wp2_with fail
      go_roundw
      case rel => exact ⟨n + 1, q + m, by omega, by go_num, by rw [HF.out], by simp [World.drewN]⟩
      case measure => simp [intOf]; omega
    · have hne : n = l.length := by omega
      subst hne
      go_wp2_with fail
      go_ret
      exact ⟨by rw [List.take_length]; rfl, q, rfl⟩

theorem apply1_any (c : UInt8) (w : World) : Calls Tryz.prog 79 #[bv c] w fun e w' => e = .returned (bv (zxC c)) ∧ w = w' := by
  have hk := zx_code c
  have hle := codeC_le c
  have hx : codeC c = 0 ∨ codeC c = 1 ∨ codeC c = 2 := by omega
  have HX := hide hx
  have HK := hide hk
  clear hx hk
  go_enter Tryz.func79, Tryz.ntmps79
  go_wp2_with fail
  refine (code_any c _).mono ?_
  rintro e w1 ⟨rfl, rfl⟩
  have hx := HX.out
  generalize codeC c = n at *
  clear HX
  rcases hx with rfl | rfl | rfl
  all_goals
    go_wp2_with fail
    go_ret
    exact ⟨by rw [HK.out]; rfl, rfl⟩

end Go.Proofs.YtdlebcijgdkfjaaGreatDoor
