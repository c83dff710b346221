/-
  wavestoreref51.known, isBits, inverted, bit, sum.
-/
import Derived.Test.YtdlebcijgdkfjaaGreatDoorFold
import Derived.Lib.SlBytesRow
namespace Go.Proofs.YtdlebcijgdkfjaaGreatDoor
open Go.RowKit

theorem code_cases (c : UInt8) : (c = 48 ∧ codeC c = 0 ∧ knC c = true) ∨ (c = 49 ∧ codeC c = 1 ∧ knC c = true) ∨ (((c.toNat : Int) == 48) = false ∧ ((c.toNat : Int) == 49) = false ∧ ((c.toNat : Int) != 48) = true ∧ ((c.toNat : Int) != 49) = true ∧ codeC c = 2 ∧ knC c = false) := by
  by_cases h0 : c = 48
  · subst h0; exact .inl ⟨rfl, rfl, rfl⟩
  · by_cases h1 : c = 49
    · subst h1; exact .inr (.inl ⟨rfl, rfl, rfl⟩)
    · have n0 : c.toNat ≠ 48 := fun e => h0 (UInt8.toNat_inj.1 e)
      have n1 : c.toNat ≠ 49 := fun e => h1 (UInt8.toNat_inj.1 e)
      refine .inr (.inr ⟨beq_eq_false_iff_ne.2 (by omega), beq_eq_false_iff_ne.2 (by omega), bne_iff_ne.2 (by omega), bne_iff_ne.2 (by omega), ?_, ?_⟩)
      · unfold codeC; simp [h0, h1]
      · unfold knC; simp [h0, h1]

theorem kn_take {s : ByteArray} {k : Nat} (hk : k < s.size) : knownB (s.data.toList.take (k + 1)) = (knownB (s.data.toList.take k) && knC s[k]) := by
  rw [List.take_succ_eq_append_getElem (by simpa using hk)]
  unfold knownB
  rw [List.all_append]
  simp
  rfl
theorem kn_false {s : ByteArray} {k : Nat} (hk : k < s.size) (h : knC s[k] = false) : knownB s.data.toList = false := by
  unfold knownB
  rw [← Bool.not_eq_true, List.all_eq_true]
  intro ha
  have := ha s[k] (by show s.data[k] ∈ _; simp)
  rw [h] at this
  cases this

def KnRel (P : List UInt8 → Bool) (s : ByteArray) (i : Value) : Prop := ∃ k : Nat, k ≤ s.size ∧ i = .int .i64 k ∧ P (s.data.toList.take k) = true

set_option maxRecDepth 100000 in
theorem rknown_any (s : ByteArray) (w : World) (hs : s.size ≤ 1000) : Calls Tryz.prog 40 #[.string s] w fun e w' => e = .returned (.bool (knownB s.data.toList)) ∧ w = w' := by
  go_enter Tryz.func40, Tryz.ntmps40
  go_wp2_with fail
  go_loop [3] (fun i => KnRel knownB s i) (fun i => s.size - (intOf i).toNat)
  case atStart => exact ⟨0, Nat.zero_le _, rfl, rfl⟩
  case round =>
    obtain ⟨k, hk, rfl, hp⟩ := hrel
    have HP := hide hp
    clear hp
    by_cases hlt : k < s.size
    · have HT := hide (kn_take hlt)
      have HF := hide (fun h => kn_false hlt h)
      have HE : Hid (s[k] = s[k]) := rfl
      have hc := code_cases s[k]
      rcases hc with ⟨h, h1, h2⟩ | ⟨h, h1, h2⟩ | ⟨h0, h1, h0', h1', h2, h3⟩
      · have HH := hide h
        have HK := hide h2
        have t0 : ((s[k].toNat : Int) != 48) = false := by rw [h]; rfl
        clear h h1 h2
        go_wp2_with fail
        go_round
        case rel => exact ⟨k + 1, by omega, by go_num, by rw [HT.out, HP.out, HK.out]; rfl⟩
        case measure => simp [intOf]; omega
      · have HH := hide h
        have HK := hide h2
        have t0 : ((s[k].toNat : Int) != 48) = true := by rw [h]; rfl
        have t1 : ((s[k].toNat : Int) != 49) = false := by rw [h]; rfl
        clear h h1 h2
        go_wp2_with fail
        go_round
        case rel => exact ⟨k + 1, by omega, by go_num, by rw [HT.out, HP.out, HK.out]; rfl⟩
        case measure => simp [intOf]; omega
      · have HK := hide h3
        clear h0 h1 h2 h3
        go_wp2_with fail
        go_ret
        exact ⟨by rw [HF.out HK.out]; rfl, rfl⟩
    · have hke : k = s.size := by omega
      subst hke
      go_wp2_with fail
      go_ret
      have := HP.out
      rw [List.take_of_length_le (by simp)] at this
      exact ⟨by rw [this]; rfl, rfl⟩

def allBits (l : List UInt8) : Bool := l.all bitC
theorem bit_take {s : ByteArray} {k : Nat} (hk : k < s.size) : allBits (s.data.toList.take (k + 1)) = (allBits (s.data.toList.take k) && bitC s[k]) := by
  unfold allBits
  rw [List.take_succ_eq_append_getElem (by simpa using hk), List.all_append]
  simp
  rfl
theorem bit_false {s : ByteArray} {k : Nat} (hk : k < s.size) (h : bitC s[k] = false) : bitsB s.data.toList = false := by
  unfold bitsB
  rw [Bool.and_eq_false_iff]
  right
  rw [← Bool.not_eq_true, List.all_eq_true]
  intro ha
  have := ha s[k] (by show s.data[k] ∈ _; simp)
  rw [h] at this
  cases this
theorem u8_ne {c d : UInt8} (h : c ≠ d) : ((c.toNat : Int) != (d.toNat : Int)) = true := by
  rw [bne_iff_ne]
  intro e
  exact h (UInt8.toNat_inj.1 (by omega))
set_option maxRecDepth 100000 in
theorem risBits_any (s : ByteArray) (w : World) (hs : s.size ≤ 1000) : Calls Tryz.prog 39 #[.string s] w fun e w' => e = .returned (.bool (bitsB s.data.toList)) ∧ w = w' := by
  go_enter Tryz.func39, Tryz.ntmps39
  go_wp2_with fail
  go_loop [3] (fun i => KnRel allBits s i) (fun i => s.size - (intOf i).toNat)
  case atStart => exact ⟨0, Nat.zero_le _, rfl, rfl⟩
  case round =>
    obtain ⟨k, hk, rfl, hp⟩ := hrel
    have HP := hide hp
    clear hp
    by_cases hlt : k < s.size
    · have HT := hide (bit_take hlt)
      have HF := hide (fun h => bit_false hlt h)
      by_cases h0 : s[k] = 48
      · have HK := hide (show bitC s[k] = true by rw [h0]; rfl)
        have t0 : ((s[k].toNat : Int) != 48) = false := by rw [h0]; rfl
        clear h0
        go_wp2_with fail
        go_round
        case rel => exact ⟨k + 1, by omega, by go_num, by rw [HT.out, HP.out, HK.out]; rfl⟩
        case measure => simp [intOf]; omega
      · have t0 : ((s[k].toNat : Int) != 48) = true := u8_ne h0
        have H0 := hide h0
        clear h0
        by_cases h1 : s[k] = 49
        · have HK := hide (show bitC s[k] = true by rw [h1]; rfl)
          have t1 : ((s[k].toNat : Int) != 49) = false := by rw [h1]; rfl
          clear h1
          go_wp2_with fail
          go_round
          case rel => exact ⟨k + 1, by omega, by go_num, by rw [HT.out, HP.out, HK.out]; rfl⟩
          case measure => simp [intOf]; omega
        · have t1 : ((s[k].toNat : Int) != 49) = true := u8_ne h1
          have H1 := hide h1
          clear h1
          by_cases h2 : s[k] = 120
          · have HK := hide (show bitC s[k] = true by rw [h2]; rfl)
            have t2 : ((s[k].toNat : Int) != 120) = false := by rw [h2]; rfl
            clear h2
            go_wp2_with fail
            go_round
            case rel => exact ⟨k + 1, by omega, by go_num, by rw [HT.out, HP.out, HK.out]; rfl⟩
            case measure => simp [intOf]; omega
          · have t2 : ((s[k].toNat : Int) != 120) = true := u8_ne h2
            have H2 := hide h2
            clear h2
            by_cases h3 : s[k] = 122
            · have HK := hide (show bitC s[k] = true by rw [h3]; rfl)
              have t3 : ((s[k].toNat : Int) != 122) = false := by rw [h3]; rfl
              clear h3
              go_wp2_with fail
              go_round
              case rel => exact ⟨k + 1, by omega, by go_num, by rw [HT.out, HP.out, HK.out]; rfl⟩
              case measure => simp [intOf]; omega
            · have t3 : ((s[k].toNat : Int) != 122) = true := u8_ne h3
              have HK := hide (show bitC s[k] = false by
                have a0 := H0.out
                have a1 := H1.out
                have a2 := H2.out
                unfold bitC; simp [a0, a1, a2, h3])
              clear h3
              go_wp2_with fail
              go_ret
              exact ⟨by rw [HF.out HK.out]; rfl, rfl⟩
    · have hke : k = s.size := by omega
      subst hke
      have hp := HP.out
      rw [List.take_of_length_le (by simp)] at hp
      have HP2 := hide hp
      clear hp
      by_cases hz : s.size = 0
      · have HB := hide (show bitsB s.data.toList = false by
          have : s.data.toList = [] := List.eq_nil_of_length_eq_zero (by simpa using hz)
          unfold bitsB; rw [this]; rfl)
        have hzi : decide (0 < s.size) = false := decide_eq_false (by omega)
        go_wp2_with fail
        go_ret
        exact ⟨by rw [HB.out]; rfl, rfl⟩
      · have HB := hide (show bitsB s.data.toList = true by
          have h1 : s.data.toList.isEmpty = false := by
            rw [List.isEmpty_eq_false_iff]
            exact fun e => hz (by have := congrArg List.length e; simpa using this)
          have e := HP2.out
          unfold allBits at e
          unfold bitsB; rw [e, h1]; rfl)
        have hz0 : decide (0 < s.size) = true := decide_eq_true (by omega)
        go_wp2_with fail
        go_ret
        exact ⟨by rw [HB.out]; rfl, rfl⟩

theorem conv_one (w : World) (c : UInt8) : (convert 108 9 (.slice (some ⟨w.heap.size, 0, none⟩) 1 1)).run Tryz.prog (w.alloc (.cells #[bv c] 5)) = .ok (.string ⟨#[c]⟩) (w.alloc (.cells #[bv c] 5)) := by
  have hb : Lib.Bytes (w.alloc (.cells #[bv c] 5)) w.heap.size 0 ⟨#[c]⟩ := fun i hi => by
    have : i = 0 := by have : i < 1 := hi; omega
    subst this
    rw [cell_of_row _ _ _ _ _ (0, 0) (heap_alloc_new w _)]
    rfl
  exact Lib.run_convert_whole (P := Tryz.prog) _ 108 5 9 Tryz.underlying108 Tryz.underlying5 Tryz.underlying9 w.heap.size 0 ⟨#[c]⟩ hb 1

end Go.Proofs.YtdlebcijgdkfjaaGreatDoor
