/-
  condition.code, inverted, tableOf; byte slices in memory.
-/
import Derived.Test.YtdlebcijgdkfjaaGreatDoorMem
import Derived.Test.YtdlebcijgdkfjaaGreatDoorBitsS
namespace Go.Proofs.YtdlebcijgdkfjaaGreatDoor
open Go.RowKit

theorem byte_lt (c : UInt8) : c.toNat < 256 := c.toNat_lt
theorem code_any (c : UInt8) (w : World) : Calls Tryz.prog 80 #[.int .u8 (c.toNat : Int)] w fun e w' => e = .returned (.int .i64 (codeC c : Int)) ∧ w = w' := by
  have hc := byte_lt c
  by_cases h0 : c = 48
  · subst h0
    go_enter Tryz.func80, Tryz.ntmps80
    go_wp2_with fail
    go_ret
    exact ⟨rfl, rfl⟩
  · by_cases h1 : c = 49
    · subst h1
      go_enter Tryz.func80, Tryz.ntmps80
      go_wp2_with fail
      go_ret
      exact ⟨rfl, rfl⟩
    · have n0 : c.toNat ≠ 48 := fun e => h0 (UInt8.toNat_inj.1 e)
      have n1 : c.toNat ≠ 49 := fun e => h1 (UInt8.toNat_inj.1 e)
      have t0 : ((c.toNat : Int) == 48) = false := beq_eq_false_iff_ne.2 (by omega)
      have t1 : ((c.toNat : Int) == 49) = false := beq_eq_false_iff_ne.2 (by omega)
      have hk : codeC c = 2 := by unfold codeC; simp [h0, h1]
      have HK := hide hk
      clear hk h0 h1
      go_enter Tryz.func80, Tryz.ntmps80
      go_wp2_with fail
      go_ret
      exact ⟨by rw [HK.out]; rfl, rfl⟩

theorem codeC_le (c : UInt8) : codeC c ≤ 2 := by unfold codeC; (split; omega); (split <;> omega)
theorem inv_code (c : UInt8) : invC c = ([49, 48, 120] : List UInt8).getD (codeC c) 0 := by unfold invC codeC; (split; rfl); (split <;> rfl)
theorem zx_code (c : UInt8) : zxC c = ([48, 49, 120] : List UInt8).getD (codeC c) 0 := by unfold zxC codeC; (split; rfl); (split <;> rfl)

theorem inverted_any (c : UInt8) (w : World) : Calls Tryz.prog 77 #[.int .u8 (c.toNat : Int)] w fun e w' => e = .returned (.int .u8 ((invC c).toNat : Int)) ∧ w = w' := by
  have hk := inv_code c
  have hle := codeC_le c
  have hx : codeC c = 0 ∨ codeC c = 1 ∨ codeC c = 2 := by omega
  have HX := hide hx
  have HK := hide hk
  clear hx hk
  go_enter Tryz.func77, Tryz.ntmps77
  go_wp2_with fail
  refine (code_any c _).mono ?_
  rintro e w1 ⟨rfl, rfl⟩
  have hx := HX.out
  generalize codeC c = n at *
  clear HX
  rcases hx with rfl | rfl | rfl
  all_goals
    go_wp2_with fail
    go_ret
    exact ⟨by rw [HK.out]; rfl, rfl⟩

/-- the table of an operator, written out -/
def tabOf (k : Int) : List UInt8 := if k = 9 ∨ k = 14 then [48, 48, 48, 48, 49, 120, 48, 120, 120] else if k = 10 ∨ k = 15 then [48, 49, 120, 49, 49, 49, 120, 49, 120] else if k = 11 ∨ k = 16 then [48, 49, 120, 49, 48, 120, 120, 120, 120] else [0, 0, 0, 0, 0, 0, 0, 0, 0]
def tabV (l : List UInt8) : Array Value := (l.map fun c => Value.int .u8 (c.toNat : Int)).toArray
def isTab (k : Int) : Bool := decide ((9 ≤ k ∧ k ≤ 11) ∨ (14 ≤ k ∧ k ≤ 16))
theorem op_tab (k : Int) (hk : k = 9 ∨ k = 10 ∨ k = 11) (a b : UInt8) : opC k a b = (tabOf k).getD (codeC a * 3 + codeC b) 0 ∧ opC k a b = (tabOf (k + 5)).getD (codeC a * 3 + codeC b) 0 := by
  unfold opC tabOf andC orC xorC codeC knC
  rcases hk with rfl | rfl | rfl <;> by_cases a0 : a = 48 <;> by_cases a1 : a = 49 <;> by_cases b0 : b = 48 <;> by_cases b1 : b = 49 <;> simp_all
theorem tabOf_len (k : Int) : (tabOf k).length = 9 := by unfold tabOf; (split; rfl); (split; rfl); (split <;> rfl)
set_option maxRecDepth 100000 in
set_option maxHeartbeats 4000000 in
theorem tableOf_any (k : Int) (w : World) : Calls Tryz.prog 73 #[.int .i64 k] w fun e w' => e = .returned (.tuple #[.agg (tabV (tabOf k)), .bool (isTab k)]) ∧ Below w.heap.size w w' := by
  by_cases h : k = 9 ∨ k = 10 ∨ k = 11 ∨ k = 14 ∨ k = 15 ∨ k = 16
  · rcases h with rfl | rfl | rfl | rfl | rfl | rfl
    all_goals
      go_enter Tryz.func73, Tryz.ntmps73
      go_wp2_with fail
    · exact bodyPost_ret (v := .tuple #[.agg (tabV (tabOf 9)), .bool (isTab 9)]) (by simp [results, Tryz.results73, go_sem, tabV, tabOf, isTab]) rfl ⟨rfl, (Below.refl _ _).alloc (Nat.le_refl _) _⟩
    · exact bodyPost_ret (v := .tuple #[.agg (tabV (tabOf 10)), .bool (isTab 10)]) (by simp [results, Tryz.results73, go_sem, tabV, tabOf, isTab]) rfl ⟨rfl, (Below.refl _ _).alloc (Nat.le_refl _) _⟩
    · exact bodyPost_ret (v := .tuple #[.agg (tabV (tabOf 11)), .bool (isTab 11)]) (by simp [results, Tryz.results73, go_sem, tabV, tabOf, isTab]) rfl ⟨rfl, (Below.refl _ _).alloc (Nat.le_refl _) _⟩
    · exact bodyPost_ret (v := .tuple #[.agg (tabV (tabOf 14)), .bool (isTab 14)]) (by simp [results, Tryz.results73, go_sem, tabV, tabOf, isTab]) rfl ⟨rfl, (Below.refl _ _).alloc (Nat.le_refl _) _⟩
    · exact bodyPost_ret (v := .tuple #[.agg (tabV (tabOf 15)), .bool (isTab 15)]) (by simp [results, Tryz.results73, go_sem, tabV, tabOf, isTab]) rfl ⟨rfl, (Below.refl _ _).alloc (Nat.le_refl _) _⟩
    · exact bodyPost_ret (v := .tuple #[.agg (tabV (tabOf 16)), .bool (isTab 16)]) (by simp [results, Tryz.results73, go_sem, tabV, tabOf, isTab]) rfl ⟨rfl, (Below.refl _ _).alloc (Nat.le_refl _) _⟩
  · have e9 : (k == 9) = false := beq_eq_false_iff_ne.2 (by omega)
    have e10 : (k == 10) = false := beq_eq_false_iff_ne.2 (by omega)
    have e11 : (k == 11) = false := beq_eq_false_iff_ne.2 (by omega)
    have e14 : (k == 14) = false := beq_eq_false_iff_ne.2 (by omega)
    have e15 : (k == 15) = false := beq_eq_false_iff_ne.2 (by omega)
    have e16 : (k == 16) = false := beq_eq_false_iff_ne.2 (by omega)
    have h1 : tabOf k = [0, 0, 0, 0, 0, 0, 0, 0, 0] := by unfold tabOf; rw [if_neg (by omega), if_neg (by omega), if_neg (by omega)]
    have h2 : isTab k = false := by unfold isTab; exact decide_eq_false (by omega)
    rw [h1, h2]
    clear h h1 h2
    go_enter Tryz.func73, Tryz.ntmps73
    go_wp2_with fail
    exact bodyPost_ret (v := .tuple #[.agg (tabV [0, 0, 0, 0, 0, 0, 0, 0, 0]), .bool false]) (by simp [results, Tryz.results73, go_sem, tabV]) rfl ⟨rfl, (Below.refl _ _).alloc (Nat.le_refl _) _⟩

end Go.Proofs.YtdlebcijgdkfjaaGreatDoor
