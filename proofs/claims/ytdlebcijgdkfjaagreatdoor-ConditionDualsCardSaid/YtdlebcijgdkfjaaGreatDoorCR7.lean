/-
  Several texts in one: SliceF, Ref51. Each says at its head what it holds.
-/
import Derived.Test.YtdlebcijgdkfjaaGreatDoorCR5
import Derived.Lib.SlBytesRow

/-
  condition.slice; fold over bytes with the closure of Apply; mapped with the other closure of Apply.
-/
namespace Go.Proofs.YtdlebcijgdkfjaaGreatDoor
open Go.RowKit

theorem codeq (c : UInt8) (w : World) : Calls Tryz.prog 80 #[.int .u8 (c.toNat : Int)] w fun e w' => e = .returned (.int .i64 (codeC c : Int)) ∧ w' = w := (code_any c w).mono fun _ _ ⟨h1, h2⟩ => ⟨h1, h2.symm⟩

set_option maxRecDepth 100000 in
theorem slice_any (s : ByteArray) (hi lo : Int) (w : World) (hs : s.size ≤ 1000) (h1 : -9223372036854775808 ≤ hi ∧ hi ≤ 9223372036854775807) (h2 : -9223372036854775808 ≤ lo ∧ lo ≤ 9223372036854775807) :
    Calls Tryz.prog 78 #[.string s, .int .i64 hi, .int .i64 lo] w fun e w' => e = .returned (.string ⟨(sliceL s.data.toList hi lo).toArray⟩) ∧ w = w' := by
  by_cases h : lo < 0 ∨ lo > hi ∨ hi ≥ s.size
  · have HS := hide (show sliceL s.data.toList hi lo = [] by unfold sliceL; rw [if_pos]; simpa using h)
    by_cases ha : lo < 0
    · go_enter Tryz.func78, Tryz.ntmps78
      go_wp2_with fail
      go_ret
      exact ⟨by rw [HS.out]; rfl, rfl⟩
    · by_cases hb : hi < lo
      · go_enter Tryz.func78, Tryz.ntmps78
        go_wp2_with fail
        go_ret
        exact ⟨by rw [HS.out]; rfl, rfl⟩
      · have hc : (s.size : Int) ≤ hi := by omega
        clear h
        go_enter Tryz.func78, Tryz.ntmps78
        go_wp2_with fail
        go_ret
        exact ⟨by rw [HS.out]; rfl, rfl⟩
  · obtain ⟨m, rfl⟩ : ∃ m : Nat, hi = m := ⟨hi.toNat, by omega⟩
    obtain ⟨n, rfl⟩ : ∃ n : Nat, lo = n := ⟨lo.toNat, by omega⟩
    have e1 : n ≤ m := by omega
    have e2 : m < s.size := by omega
    have e3 : (m : Int) < (s.size : Int) := by omega
    have e4 : (n : Int) ≤ (m : Int) := by omega
    have e5 : (0 : Int) ≤ (n : Int) := by omega
    clear h
    go_enter Tryz.func78, Tryz.ntmps78
    go_wp2_with fail
    go_ret
    refine ⟨?_, rfl⟩
    have hx : s.extract (s.size - 1 - m) (s.size - n) = ⟨(sliceL s.data.toList m n).toArray⟩ := by
      apply ByteArray.ext
      apply Array.toList_inj.1
      rw [Lib.extract_data]
      unfold sliceL
      have hl : s.data.toList.length = s.size := by simp
      rw [if_neg (by rw [hl]; omega), hl]
      show _ = List.take ((m : Int).toNat - (n : Int).toNat + 1) (List.drop (s.size - 1 - (m : Int).toNat) s.data.toList)
      rw [Int.toNat_natCast, Int.toNat_natCast]
      congr 1
      omega
    rw [← hx]
    rfl

theorem tabc {w : World} {Bt : Nat} {l : List UInt8} {t : TypeId} (h : w.heap[Bt]? = some (.cells (tabV l) t (0, 0))) {i : Nat} (hi : i < l.length) : w.cell? ⟨Bt, i, none⟩ = some (bv (l.getD i 0)) := by
  rw [cell_of_row w Bt i _ t (0, 0) h]
  simp [tabV, List.getElem?_eq_getElem hi, List.getD]
set_option maxRecDepth 100000 in
set_option maxHeartbeats 1000000 in
theorem apply2_any (k : Int) (hk : k = 9 ∨ k = 10 ∨ k = 11) (x c : UInt8) (Bt : Nat) (w : World) (h : w.heap[Bt]? = some (.cells (tabV (tabOf (k + 5))) 113 (0, 0))) :
    Calls Tryz.prog 82 #[bv x, bv c, .pointer (some ⟨Bt, 0, none⟩)] w fun e w' => e = .returned (bv (opC k x c)) ∧ ∃ n, w' = w.drewN n := by
  have p1 : ((codeC x : Nat) : Int) < 3 := by have := codeC_le x; omega
  have p0 : (0 : Int) ≤ ((codeC x : Nat) : Int) := by omega
  have q1 : ((codeC c : Nat) : Int) < 3 := by have := codeC_le c; omega
  have q0 : (0 : Int) ≤ ((codeC c : Nat) : Int) := by omega
  have hcell := tabc h (i := codeC x * 3 + codeC c) (by rw [tabOf_len]; omega)
  have HOP := hide (op_tab k hk x c).2
  go_enter Tryz.func82, Tryz.ntmps82
  go_upto_region 1 with (fail)
  go_quiet ((go_at_call 80; exact Calls.quiet_of_same (codeq _ _)))
  go_wp2_with fail
  go_ret
  exact ⟨by rw [HOP.out]; rfl, nq, rfl⟩

def FoRel (k : Int) (x : UInt8) (l : List UInt8) (w : World) (out i : Value) (wr : World) : Prop := ∃ (n q : Nat), n ≤ l.length ∧ i = .int .i64 n ∧ out = bv ((l.take n).foldl (opC k) x) ∧ wr = w.drewN q
set_option maxRecDepth 100000 in
set_option maxHeartbeats 1000000 in
theorem foldo_any (k : Int) (hk : k = 9 ∨ k = 10 ∨ k = 11) (x : UInt8) (l : List UInt8) (bb cb Bt : Nat) (w : World) (h : w.heap[Bt]? = some (.cells (tabV (tabOf (k + 5))) 113 (0, 0))) (hby : ∀ i c, l[i]? = some c → w.cell? ⟨bb, i, none⟩ = some (bv c)) (hl : l.length ≤ 1000) :
    Calls Tryz.prog 81 #[.slice (some ⟨bb, 0, none⟩) l.length cb, bv x, .func (.func 82) #[] #[.pointer (some ⟨Bt, 0, none⟩)]] w fun e w' => e = .returned (bv (l.foldl (opC k) x)) ∧ ∃ n, w' = w.drewN n := by
  have HBY := hide hby
  clear hby
  go_enter Tryz.func81, Tryz.ntmps81
  go_wp2_with fail
  go_loopw [1, 11] (fun out i wr => FoRel k x l w out i wr) (fun _ i _ => l.length - (intOf i).toNat)
  case atStart => exact ⟨0, 0, Nat.zero_le _, rfl, rfl, rfl⟩
  case round =>
    obtain ⟨n, q, hn, rfl, rfl, rfl⟩ := hrel
    by_cases hlt : n < l.length
    · have q1 : (w.drewN q).cell? ⟨bb, n, none⟩ = some (bv l[n]) := HBY.out n _ (List.getElem?_eq_getElem hlt)
      have HF := hide (show (l.take (n + 1)).foldl (opC k) x = opC k ((l.take n).foldl (opC k) x) l[n] by rw [List.take_succ_eq_append_getElem hlt, List.foldl_append]; rfl)
      have hq : (w.drewN q).heap[Bt]? = some (.cells (tabV (tabOf (k + 5))) 113 (0, 0)) := h
      generalize l[n] = c at *
      generalize (l.take n).foldl (opC k) x = y at *
      go_wp2_with fail
      refine (apply2_any k hk y c Bt _ hq).mono ?_
      rintro e w1 ⟨rfl, m, rfl⟩
      go_wp2_with fail
      go_roundw
      case rel => exact ⟨n + 1, q + m, by omega, by go_num, by rw [HF.out], by simp [World.drewN]⟩
      case measure => simp [intOf]; omega
    · have hne : n = l.length := by omega
      subst hne
      go_wp2_with fail
      go_ret
      exact ⟨by rw [List.take_length]; rfl, q, rfl⟩

theorem apply1_any (c : UInt8) (w : World) : Calls Tryz.prog 79 #[bv c] w fun e w' => e = .returned (bv (zxC c)) ∧ w = w' := by
  have hk := zx_code c
  have hle := codeC_le c
  have hx : codeC c = 0 ∨ codeC c = 1 ∨ codeC c = 2 := by omega
  have HX := hide hx
  have HK := hide hk
  clear hx hk
  go_enter Tryz.func79, Tryz.ntmps79
  go_wp2_with fail
  refine (code_any c _).mono ?_
  rintro e w1 ⟨rfl, rfl⟩
  have hx := HX.out
  generalize codeC c = n at *
  clear HX
  rcases hx with rfl | rfl | rfl
  all_goals
    go_wp2_with fail
    go_ret
    exact ⟨by rw [HK.out]; rfl, rfl⟩

end Go.Proofs.YtdlebcijgdkfjaaGreatDoor

/-
  wavestoreref51.known, isBits, inverted, bit, sum.
-/
namespace Go.Proofs.YtdlebcijgdkfjaaGreatDoor
open Go.RowKit

theorem code_cases (c : UInt8) : (c = 48 ∧ codeC c = 0 ∧ knC c = true) ∨ (c = 49 ∧ codeC c = 1 ∧ knC c = true) ∨ (((c.toNat : Int) == 48) = false ∧ ((c.toNat : Int) == 49) = false ∧ ((c.toNat : Int) != 48) = true ∧ ((c.toNat : Int) != 49) = true ∧ codeC c = 2 ∧ knC c = false) := by
  by_cases h0 : c = 48
  · subst h0; exact .inl ⟨rfl, rfl, rfl⟩
  · by_cases h1 : c = 49
    · subst h1; exact .inr (.inl ⟨rfl, rfl, rfl⟩)
    · have n0 : c.toNat ≠ 48 := fun e => h0 (UInt8.toNat_inj.1 e)
      have n1 : c.toNat ≠ 49 := fun e => h1 (UInt8.toNat_inj.1 e)
      refine .inr (.inr ⟨beq_eq_false_iff_ne.2 (by omega), beq_eq_false_iff_ne.2 (by omega), bne_iff_ne.2 (by omega), bne_iff_ne.2 (by omega), ?_, ?_⟩)
      · unfold codeC; simp [h0, h1]
      · unfold knC; simp [h0, h1]

def KnRel (P : List UInt8 → Bool) (s : ByteArray) (i : Value) : Prop := ∃ k : Nat, k ≤ s.size ∧ i = .int .i64 k ∧ P (s.data.toList.take k) = true

def allBits (l : List UInt8) : Bool := l.all bitC
theorem bit_take {s : ByteArray} {k : Nat} (hk : k < s.size) : allBits (s.data.toList.take (k + 1)) = (allBits (s.data.toList.take k) && bitC s[k]) := by
  unfold allBits
  rw [List.take_succ_eq_append_getElem (by simpa using hk), List.all_append]
  simp
  rfl
theorem bit_false {s : ByteArray} {k : Nat} (hk : k < s.size) (h : bitC s[k] = false) : bitsB s.data.toList = false := by
  unfold bitsB
  rw [Bool.and_eq_false_iff]
  right
  rw [← Bool.not_eq_true, List.all_eq_true]
  intro ha
  have := ha s[k] (by show s.data[k] ∈ _; simp)
  rw [h] at this
  cases this
theorem u8_ne {c d : UInt8} (h : c ≠ d) : ((c.toNat : Int) != (d.toNat : Int)) = true := by
  rw [bne_iff_ne]
  intro e
  exact h (UInt8.toNat_inj.1 (by omega))
set_option maxRecDepth 100000 in
theorem risBits_any (s : ByteArray) (w : World) (hs : s.size ≤ 1000) : Calls Tryz.prog 39 #[.string s] w fun e w' => e = .returned (.bool (bitsB s.data.toList)) ∧ w = w' := by
  go_enter Tryz.func39, Tryz.ntmps39
  go_wp2_with fail
  go_loop [3] (fun i => KnRel allBits s i) (fun i => s.size - (intOf i).toNat)
  case atStart => exact ⟨0, Nat.zero_le _, rfl, rfl⟩
  case round =>
    obtain ⟨k, hk, rfl, hp⟩ := hrel
    have HP := hide hp
    clear hp
    by_cases hlt : k < s.size
    · have HT := hide (bit_take hlt)
      have HF := hide (fun h => bit_false hlt h)
      by_cases h0 : s[k] = 48
      · have HK := hide (show bitC s[k] = true by rw [h0]; rfl)
        have t0 : ((s[k].toNat : Int) != 48) = false := by rw [h0]; rfl
        clear h0
        go_wp2_with fail
        go_round
        case rel => exact ⟨k + 1, by omega, by go_num, by rw [HT.out, HP.out, HK.out]; rfl⟩
        case measure => simp [intOf]; omega
      · have t0 : ((s[k].toNat : Int) != 48) = true := u8_ne h0
        have H0 := hide h0
        clear h0
        by_cases h1 : s[k] = 49
        · have HK := hide (show bitC s[k] = true by rw [h1]; rfl)
          have t1 : ((s[k].toNat : Int) != 49) = false := by rw [h1]; rfl
          clear h1
          go_wp2_with fail
          go_round
          case rel => exact ⟨k + 1, by omega, by go_num, by rw [HT.out, HP.out, HK.out]; rfl⟩
          case measure => simp [intOf]; omega
        · have t1 : ((s[k].toNat : Int) != 49) = true := u8_ne h1
          have H1 := hide h1
          clear h1
          by_cases h2 : s[k] = 120
          · have HK := hide (show bitC s[k] = true by rw [h2]; rfl)
            have t2 : ((s[k].toNat : Int) != 120) = false := by rw [h2]; rfl
            clear h2
            go_wp2_with fail
            go_round
            case rel => exact ⟨k + 1, by omega, by go_num, by rw [HT.out, HP.out, HK.out]; rfl⟩
            case measure => simp [intOf]; omega
          · have t2 : ((s[k].toNat : Int) != 120) = true := u8_ne h2
            have H2 := hide h2
            clear h2
            by_cases h3 : s[k] = 122
            · have HK := hide (show bitC s[k] = true by rw [h3]; rfl)
              have t3 : ((s[k].toNat : Int) != 122) = false := by rw [h3]; rfl
              clear h3
              go_wp2_with fail
              go_round
              case rel => exact ⟨k + 1, by omega, by go_num, by rw [HT.out, HP.out, HK.out]; rfl⟩
              case measure => simp [intOf]; omega
            · have t3 : ((s[k].toNat : Int) != 122) = true := u8_ne h3
              have HK := hide (show bitC s[k] = false by
                have a0 := H0.out
                have a1 := H1.out
                have a2 := H2.out
                unfold bitC; simp [a0, a1, a2, h3])
              clear h3
              go_wp2_with fail
              go_ret
              exact ⟨by rw [HF.out HK.out]; rfl, rfl⟩
    · have hke : k = s.size := by omega
      subst hke
      have hp := HP.out
      rw [List.take_of_length_le (by simp)] at hp
      have HP2 := hide hp
      clear hp
      by_cases hz : s.size = 0
      · have HB := hide (show bitsB s.data.toList = false by
          have : s.data.toList = [] := List.eq_nil_of_length_eq_zero (by simpa using hz)
          unfold bitsB; rw [this]; rfl)
        have hzi : decide (0 < s.size) = false := decide_eq_false (by omega)
        go_wp2_with fail
        go_ret
        exact ⟨by rw [HB.out]; rfl, rfl⟩
      · have HB := hide (show bitsB s.data.toList = true by
          have h1 : s.data.toList.isEmpty = false := by
            rw [List.isEmpty_eq_false_iff]
            exact fun e => hz (by have := congrArg List.length e; simpa using this)
          have e := HP2.out
          unfold allBits at e
          unfold bitsB; rw [e, h1]; rfl)
        have hz0 : decide (0 < s.size) = true := decide_eq_true (by omega)
        go_wp2_with fail
        go_ret
        exact ⟨by rw [HB.out]; rfl, rfl⟩

theorem conv_one (w : World) (c : UInt8) : (convert 108 9 (.slice (some ⟨w.heap.size, 0, none⟩) 1 1)).run Tryz.prog (w.alloc (.cells #[bv c] 5)) = .ok (.string ⟨#[c]⟩) (w.alloc (.cells #[bv c] 5)) := by
  have hb : Lib.Bytes (w.alloc (.cells #[bv c] 5)) w.heap.size 0 ⟨#[c]⟩ := fun i hi => by
    have : i = 0 := by have : i < 1 := hi; omega
    subst this
    rw [cell_of_row _ _ _ _ _ (0, 0) (heap_alloc_new w _)]
    rfl
  exact Lib.run_convert_whole (P := Tryz.prog) _ 108 5 9 Tryz.underlying108 Tryz.underlying5 Tryz.underlying9 w.heap.size 0 ⟨#[c]⟩ hb 1

end Go.Proofs.YtdlebcijgdkfjaaGreatDoor
