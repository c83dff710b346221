/-
  transactions.Valid of the zero protocol: false.
-/
import Derived.Test.YtlockjbhdibojaaGreatDoorRefLat
namespace Go.Proofs.YtlockjbhdibojaaGreatDoor
open Go.RowKit

def zNode : Value := .agg #[.int .i64 0, .int .i64 0, .string ByteArray.empty, .string ByteArray.empty, .int .i64 0, .int .i64 0, .int .i64 0, .int .i64 0, .slice none 0 0]

set_option maxRecDepth 100000 in
theorem isEvent_zero (w : World) : Calls Tryz.prog 21 #[.agg #[.int .i64 0, .int .i64 0, .string ByteArray.empty, .string ByteArray.empty, .int .i64 0, .int .i64 0, .int .i64 0, .int .i64 0, .slice none 0 0]] w fun e w' => e = .returned (.bool false) ∧ Below w.heap.size w w' := by
  go_enter Tryz.func21, Tryz.ntmps21
  go_wp2_with fail
  go_ret
  exact ⟨rfl, (Below.refl _ _).alloc (Nat.le_refl _) _⟩

theorem end_zero (v : Value) (w : World) : Calls Tryz.prog 291 #[.agg #[v]] w fun e w' => e = .returned (.int .i64 0) ∧ Below w.heap.size w w' := by
  go_enter Tryz.func291, Tryz.ntmps291
  go_wp2_with fail
  go_ret
  exact ⟨rfl, by first | exact Below.refl _ _ | exact (Below.refl _ _).alloc (Nat.le_refl _) _⟩

set_option maxRecDepth 100000 in
theorem times_zero (w : World) : Calls Tryz.prog 16 #[.iface 52 (.agg #[.nilIface]), .agg #[.int .i64 0, .int .i64 0, .string ByteArray.empty, .string ByteArray.empty, .int .i64 0, .int .i64 0, .int .i64 0, .int .i64 0, .slice none 0 0], .int .i64 0, .int .i64 0] w fun e w' => e = .returned (.tuple #[.slice none 0 0, .int .i64 7]) ∧ Below w.heap.size w w' := by
  have hm : ∀ w, (method 433 52 (.agg #[.nilIface]) "End").run Tryz.prog w = .ok (291, .agg #[.nilIface]) w := fun _ => by kernel_rfl
  go_enter Tryz.func16, Tryz.ntmps16
  go_wp2_with fail
  refine (end_zero _ _).mono ?_
  rintro e w1 ⟨rfl, b1⟩
  have gx := box_below b1 (heap_alloc_new w _)
  have hb1 := bstep ((Below.refl _ w).alloc (Nat.le_refl _) _) b1
  have hc : ∀ j : Nat, w1.cell? ⟨w.heap.size, j, none⟩ = (#[.int .i64 0, .int .i64 0, .string ByteArray.empty, .string ByteArray.empty, .int .i64 0, .int .i64 0, .int .i64 0, .int .i64 0, .slice none 0 0] : Array Value)[j]? := fun j => cell_of_row w1 _ j _ _ (0, 0) gx
  have c0 := hc 0
  have c1 := hc 1
  have c2 := hc 2
  have c3 := hc 3
  have c4 := hc 4
  have c5 := hc 5
  have c6 := hc 6
  have c7 := hc 7
  have c8 := hc 8
  simp at c0 c1 c2 c3 c4 c5 c6 c7 c8
  clear hc gx
  go_wp2_with (go_at_call 21; refine (isEvent_zero _).mono ?_; rintro e w2 ⟨rfl, b2⟩)
  go_ret2
  exact ⟨rfl, bstep hb1 b2⟩

set_option maxRecDepth 100000 in
theorem valid_zero (w : World) : Calls Tryz.prog 13 #[.agg #[.int .i64 0, .int .i64 0, .string ByteArray.empty, .string ByteArray.empty, .int .i64 0, .int .i64 0, .int .i64 0, .int .i64 0, .slice none 0 0, .int .i64 0, .int .i64 0, .string ByteArray.empty, .string ByteArray.empty, .int .i64 0, .int .i64 0, .int .i64 0, .int .i64 0, .slice none 0 0, .int .i64 0, .int .i64 0, .string ByteArray.empty, .string ByteArray.empty, .int .i64 0, .int .i64 0, .int .i64 0, .int .i64 0, .slice none 0 0, .int .i64 0, .int .i64 0, .string ByteArray.empty, .string ByteArray.empty, .int .i64 0, .int .i64 0, .int .i64 0, .int .i64 0, .slice none 0 0, .slice none 0 0]] w fun e w' => e = .returned (.bool false) ∧ Below w.heap.size w w' := by
  go_enter Tryz.func13, Tryz.ntmps13
  go_wp2_with (go_at_call 16; refine (times_zero _).mono ?_; rintro e w1 ⟨rfl, b1⟩)
  go_ret
  exact ⟨rfl, bstep ((Below.refl _ _).alloc (Nat.le_refl _) _) b1⟩

end Go.Proofs.YtlockjbhdibojaaGreatDoor
