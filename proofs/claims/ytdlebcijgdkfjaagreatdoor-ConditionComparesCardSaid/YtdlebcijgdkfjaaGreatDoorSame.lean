/-
  wavestoreref46.Same: whether two lists are equal.
-/
import Derived.Test.YtdlebcijgdkfjaaGreatDoorUnion
import Derived.Laws.StructEq
namespace Go.Proofs.YtdlebcijgdkfjaaGreatDoor
open Go.RowKit Go.Joins

theorem eq_iv (a b c d : Int) (w : World) : (Op.equalIn 10000 69 (.agg #[.int .i64 a, .int .i64 b]) (.agg #[.int .i64 c, .int .i64 d])).run Tryz.prog w = .ok (a == c && b == d) w := by
  have u3 := Tryz.underlying3
  have a3 := Tryz.isAgg3
  have z3 := Tryz.sizeOf3
  have hS : Tryz.prog.underlying 69 = some (.struct (Tryz.prog.fieldsOf 69)) := by kernel_rfl
  have hp : Tryz.prog.stoodInHeld 69 = false := by kernel_rfl
  rw [show (10000 : Nat) = 9999 + 1 from rfl, run_equalIn_agg w 9999 69 _ _ hS hp]
  simp only [Program.fieldsOf, Tryz.underlying69]
  go_simp
  by_cases h1 : a = c <;> by_cases h2 : b = d <;> simp [h1, h2]
theorem neq_iv (a b c d : Int) (w : World) : (binOp .neq 69 (.agg #[.int .i64 a, .int .i64 b]) (.agg #[.int .i64 c, .int .i64 d])).run Tryz.prog w = .ok (.bool (!(a == c && b == d))) w := by
  rw [run_neq_struct, eq_iv]; rfl

theorem same_ne {xs ys : List Iv} (e : xs = ys) {k : Nat} (h1 : k < xs.length) (h2 : k < ys.length) (hw : (!xs[k].1 == ys[k].1) = true ∨ (!xs[k].2 == ys[k].2) = true) : False := by
  subst e; simp at hw
theorem same_step {xs ys : List Iv} {k : Nat} (ht : xs.take k = ys.take k) (h1 : k < xs.length) (h2 : k < ys.length) (hw : (!xs[k].1 == ys[k].1) = false ∧ (!xs[k].2 == ys[k].2) = false) : xs.take (k + 1) = ys.take (k + 1) := by
  rw [List.take_succ_eq_append_getElem h1, List.take_succ_eq_append_getElem h2, ht]
  simp only [Bool.not_eq_false', beq_iff_eq] at hw
  rw [Prod.ext hw.1 hw.2]

def SameRel (w : World) (xs ys : List Iv) (i : Value) (wr : World) : Prop :=
  ∃ (k q : Nat), k ≤ xs.length ∧ i = .int .i64 k ∧ xs.take k = ys.take k ∧ wr = w.drewN q

set_option maxHeartbeats 1000000 in
theorem same_any (A B : Option Addr) (c d : Nat) (xs ys : List Iv) (w : World) (hx : IvsAt w w.heap.size A xs) (hy : IvsAt w w.heap.size B ys) (hl : xs.length ≤ 4398046511104) (_hl2 : ys.length ≤ 4398046511104) :
    Calls Tryz.prog 20 #[.slice A xs.length c, .slice B ys.length d] w fun e w' => e = .returned (.bool (decide (xs = ys))) ∧ ∃ q, w' = w.drewN q := by
  by_cases hlen : xs.length = ys.length
  · have HL := hide hlen
    have hne : ((xs.length : Int) != (ys.length : Int)) = false := by simp [hlen]
    clear hlen
    go_enter Tryz.func20, Tryz.ntmps20
    go_wp2
    go_loopw [5] (fun i wr => SameRel w xs ys i wr) (fun i _ => xs.length - (intOf i).toNat)
    case atStart => exact ⟨0, 0, Nat.zero_le _, rfl, rfl, rfl⟩
    case round =>
      obtain ⟨k, q, hk, rfl, htk, rfl⟩ := hrel
      have HTK := hide htk
      clear htk
      by_cases hlt : k < xs.length
      · have hlt2 : k < ys.length := by have := HL.out; omega
        obtain ⟨b, off, rfl, hbb, hc1, hc2⟩ := hx.at_ hlt
        obtain ⟨b', off', rfl, hbb', hc1', hc2'⟩ := hy.at_ hlt2
        have hne2 := neq_iv xs[k].1 xs[k].2 ys[k].1 ys[k].2
        go_wp2
        go_quiet (fail)
        go_wp2
        · have hw : (!xs[k].1 == ys[k].1) = true ∨ (!xs[k].2 == ys[k].2) = true := by assumption
          go_ret
          exact ⟨by rw [decide_eq_false (fun e => same_ne e hlt hlt2 hw)]; rfl, q + nq, by rw [World.drewN_drewN]⟩
        · have hw : (!xs[k].1 == ys[k].1) = false ∧ (!xs[k].2 == ys[k].2) = false := by assumption
          go_roundw
          case rel => exact ⟨k + 1, q + nq, by omega, by go_num, same_step HTK.out hlt hlt2 hw, rfl⟩
          case measure => simp [intOf]; omega
      · go_wp2
        go_ret
        refine ⟨?_, _, rfl⟩
        have h1 := HTK.out
        have h2 := HL.out
        rw [List.take_of_length_le (by omega), List.take_of_length_le (by omega)] at h1
        rw [decide_eq_true h1]
        rfl
  · have hne : ((xs.length : Int) != (ys.length : Int)) = true := by simp; omega
    have HL := hide hlen
    clear hlen
    go_enter Tryz.func20, Tryz.ntmps20
    go_wp2
    go_ret
    exact ⟨by rw [decide_eq_false (fun e => HL.out (by rw [e]))]; rfl, 0, rfl⟩

/-- two lists that are the normal lists of one set -/
theorem sameR_true (A B : Option Addr) (c d : Nat) (xs ys : List Iv) (w : World) (hx : IvsAt w w.heap.size A xs) (hy : IvsAt w w.heap.size B ys) (nx : Norm xs) (ny : Norm ys) (h : ∀ t, Mem xs t ↔ Mem ys t) :
    Calls Tryz.prog 20 #[.slice A xs.length c, .slice B ys.length d] w fun e w' => e = .returned (.bool true) ∧ Below w.heap.size w w' :=
  (same_any A B c d xs ys w hx hy (by have := norm_len nx; omega) (by have := norm_len ny; omega)).mono fun _ _ ⟨he, q, hw⟩ => ⟨by rw [he, decide_eq_true (norm_ext nx ny h)], by rw [hw]; exact below_drewN (Below.refl _ _) q⟩

end Go.Proofs.YtdlebcijgdkfjaaGreatDoor
