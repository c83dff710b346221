/-
  Several texts in one: Nul. Each says at its head what it holds.
-/
import Derived.Test.YtgobkbjkndfliaaGreatDoorAP23

/-
  The pattern of the law's example: nullable, hollow, Steps.
-/
namespace Go.Proofs.YtgobkbjkndfliaaGreatDoor
open Go.RowKit

def repN (A : Option Addr) (c : Nat) (A2 : Option Addr) (c2 : Nat) : Nd := .mk 47 0 ByteArray.empty ByteArray.empty 1 2 0 3 A c [evN 38 A2 c2]
def thenN (A : Option Addr) (c : Nat) (A1 : Option Addr) (c1 : Nat) (A3 : Option Addr) (c3 : Nat) (A2 : Option Addr) (c2 : Nat) : Nd := .mk 45 0 ByteArray.empty ByteArray.empty 1 5 0 0 A c [evN 37 A1 c1, repN A3 c3 A2 c2]

set_option maxRecDepth 100000 in
theorem nul_ev (K : Int) (A : Option Addr) (c : Nat) (hK : K = 37 ∨ K = 38) (w : World) : Calls Tryz.prog 33 #[.agg #[.int .i64 K, .int .i64 0, .string ByteArray.empty, .string ByteArray.empty, .int .i64 0, .int .i64 0, .int .i64 0, .int .i64 0, .slice A 1 c]] w (RetV (.bool false) w) := by
  obtain ⟨W0, hW0⟩ : ∃ W0, w.alloc (.cells #[.int .i64 K, .int .i64 0, .string ByteArray.empty, .string ByteArray.empty, .int .i64 0, .int .i64 0, .int .i64 0, .int .i64 0, .slice A 1 c] 24) = W0 := ⟨_, rfl⟩
  have g0 := new_at hW0
  have hb0 : Below w.heap.size w W0 := by rw [← hW0]; exact (Below.refl _ _).alloc (Nat.le_refl _) _
  have HG0 := hide g0
  have HB0 := hide hb0
  have HW0 := hide hW0
  obtain ⟨y0, y1, y2, y3, y4, y5, y6, y7, y8⟩ := box9 g0
  clear g0 hb0 hW0
  go_enter Tryz.func33, Tryz.ntmps33
  go_upto_region 1 with (fail)
  rw [HW0.out]
  rcases hK with rfl | rfl
  all_goals
    go_wp2_with fail
    go_ret
    exact ⟨rfl, HB0.out⟩
set_option maxRecDepth 100000 in
theorem nul_rep (A : Option Addr) (c : Nat) (w : World) : Calls Tryz.prog 33 #[.agg #[.int .i64 47, .int .i64 0, .string ByteArray.empty, .string ByteArray.empty, .int .i64 1, .int .i64 2, .int .i64 0, .int .i64 3, .slice A 1 c]] w (RetV (.bool false) w) := by
  obtain ⟨W0, hW0⟩ : ∃ W0, w.alloc (.cells #[.int .i64 47, .int .i64 0, .string ByteArray.empty, .string ByteArray.empty, .int .i64 1, .int .i64 2, .int .i64 0, .int .i64 3, .slice A 1 c] 24) = W0 := ⟨_, rfl⟩
  have g0 := new_at hW0
  have hb0 : Below w.heap.size w W0 := by rw [← hW0]; exact (Below.refl _ _).alloc (Nat.le_refl _) _
  have HG0 := hide g0
  have HB0 := hide hb0
  have HW0 := hide hW0
  obtain ⟨y0, y1, y2, y3, y4, y5, y6, y7, y8⟩ := box9 g0
  clear g0 hb0 hW0
  go_enter Tryz.func33, Tryz.ntmps33
  go_upto_region 1 with (fail)
  rw [HW0.out]
  go_wp2_with fail
  go_ret
  exact ⟨rfl, HB0.out⟩
set_option maxRecDepth 100000 in
theorem hol_ev (K : Int) (A : Option Addr) (c : Nat) (hK : K = 37 ∨ K = 38) (w : World) : Calls Tryz.prog 34 #[.agg #[.int .i64 K, .int .i64 0, .string ByteArray.empty, .string ByteArray.empty, .int .i64 0, .int .i64 0, .int .i64 0, .int .i64 0, .slice A 1 c]] w (RetV (.bool false) w) := by
  obtain ⟨W0, hW0⟩ : ∃ W0, w.alloc (.cells #[.int .i64 K, .int .i64 0, .string ByteArray.empty, .string ByteArray.empty, .int .i64 0, .int .i64 0, .int .i64 0, .int .i64 0, .slice A 1 c] 24) = W0 := ⟨_, rfl⟩
  have g0 := new_at hW0
  have hb0 : Below w.heap.size w W0 := by rw [← hW0]; exact (Below.refl _ _).alloc (Nat.le_refl _) _
  have HG0 := hide g0
  have HB0 := hide hb0
  have HW0 := hide hW0
  obtain ⟨y0, y1, y2, y3, y4, y5, y6, y7, y8⟩ := box9 g0
  clear g0 hb0 hW0
  go_enter Tryz.func34, Tryz.ntmps34
  go_upto_region 1 with (fail)
  rw [HW0.out]
  rcases hK with rfl | rfl
  all_goals
    go_wp2_with fail
    go_ret
    exact ⟨rfl, HB0.out⟩
set_option maxRecDepth 100000 in
theorem stp_ev (K : Int) (A : Option Addr) (c : Nat) (hK : K = 37 ∨ K = 38) (w : World) : Calls Tryz.prog 16 #[.agg #[.int .i64 K, .int .i64 0, .string ByteArray.empty, .string ByteArray.empty, .int .i64 0, .int .i64 0, .int .i64 0, .int .i64 0, .slice A 1 c]] w (RetV (.int .i64 1) w) := by
  obtain ⟨W0, hW0⟩ : ∃ W0, w.alloc (.cells #[.int .i64 K, .int .i64 0, .string ByteArray.empty, .string ByteArray.empty, .int .i64 0, .int .i64 0, .int .i64 0, .int .i64 0, .slice A 1 c] 24) = W0 := ⟨_, rfl⟩
  have g0 := new_at hW0
  have hb0 : Below w.heap.size w W0 := by rw [← hW0]; exact (Below.refl _ _).alloc (Nat.le_refl _) _
  have HG0 := hide g0
  have HB0 := hide hb0
  have HW0 := hide hW0
  obtain ⟨y0, y1, y2, y3, y4, y5, y6, y7, y8⟩ := box9 g0
  clear g0 hb0 hW0
  go_enter Tryz.func16, Tryz.ntmps16
  go_upto_region 1 with (fail)
  rw [HW0.out]
  rcases hK with rfl | rfl
  all_goals
    go_wp2_with fail
    go_ret
    exact ⟨rfl, HB0.out⟩

set_option maxRecDepth 100000 in
set_option maxHeartbeats 1000000 in
theorem hol_rep (A A2 : Option Addr) (c c2 : Nat) (w : World) (ht : TreesAt w (Lo w.heap.size) A [evN 38 A2 c2]) : Calls Tryz.prog 34 #[.agg #[.int .i64 47, .int .i64 0, .string ByteArray.empty, .string ByteArray.empty, .int .i64 1, .int .i64 2, .int .i64 0, .int .i64 3, .slice A 1 c]] w (RetV (.bool false) w) := by
  have HT := hide ht
  clear ht
  obtain ⟨W0, hW0⟩ : ∃ W0, w.alloc (.cells #[.int .i64 47, .int .i64 0, .string ByteArray.empty, .string ByteArray.empty, .int .i64 1, .int .i64 2, .int .i64 0, .int .i64 3, .slice A 1 c] 24) = W0 := ⟨_, rfl⟩
  have g0 := new_at hW0
  have hb0 : Below w.heap.size w W0 := by rw [← hW0]; exact (Below.refl _ _).alloc (Nat.le_refl _) _
  have HG0 := hide g0
  have HB0 := hide hb0
  have HW0 := hide hW0
  obtain ⟨y0, y1, y2, y3, y4, y5, y6, y7, y8⟩ := box9 g0
  clear g0 hb0 hW0
  go_enter Tryz.func34, Tryz.ntmps34
  go_upto_region 1 with (fail)
  rw [HW0.out]
  have hT := HT.out.grow (HB0.out)
  obtain ⟨bk, ok, rfl, hbk, hc⟩ := hT.row.at_ (k := 0) (by simp)
  obtain ⟨q0, q1, q2, q3, q4, q5, q6, q7, q8⟩ := nine hc
  clear hc
  simp only [Nat.zero_mul, Nat.add_zero] at q0 q1 q2 q3 q4 q5 q6 q7 q8
  replace q8 : _ = some (Value.slice A2 1 c2) := q8
  go_wp2_with first
    |
      (go_at_call 33
       with_reducible refine (nul_ev 38 A2 c2 (.inr rfl) _).mono ?_
       rintro e w1 ⟨rfl, hb⟩
       have HB1 := hide (bstep HB0.out hb)
       have HG1 := hide ((hb.block _ (box_lt HG0.out)).trans HG0.out)
       clear hb
       obtain ⟨y0, y1, y2, y3, y4, y5, y6, y7, y8⟩ := box9 HG1.out
       have hT := HT.out.grow (HB1.out)
       obtain ⟨_, _, e, _, hc⟩ := hT.row.at_ (k := 0) (by simp)
       injection e with e
       injection e with e1 e2
       subst e1 e2
       obtain ⟨q0, q1, q2, q3, q4, q5, q6, q7, q8⟩ := nine hc
       clear hc
       simp only [Nat.zero_mul, Nat.add_zero] at q0 q1 q2 q3 q4 q5 q6 q7 q8
       replace q8 : _ = some (Value.slice A2 1 c2) := q8)
    |
      (go_at_call 34
       with_reducible refine (hol_ev 38 A2 c2 (.inr rfl) _).mono ?_
       rintro e w2 ⟨rfl, hb⟩
       have HB2 := hide (bstep HB1.out hb)
       have HG2 := hide ((hb.block _ (box_lt HG1.out)).trans HG1.out)
       clear hb
       obtain ⟨y0, y1, y2, y3, y4, y5, y6, y7, y8⟩ := box9 HG2.out)
  go_ret
  exact ⟨rfl, HB2.out⟩

set_option maxRecDepth 100000 in
set_option maxHeartbeats 1000000 in
theorem nul_then (A A1 A2 A3 : Option Addr) (c c1 c2 c3 : Nat) (w : World) (ht : TreesAt w (Lo w.heap.size) A [evN 37 A1 c1, repN A3 c3 A2 c2]) : Calls Tryz.prog 33 #[.agg #[.int .i64 45, .int .i64 0, .string ByteArray.empty, .string ByteArray.empty, .int .i64 1, .int .i64 5, .int .i64 0, .int .i64 0, .slice A 2 c]] w (RetV (.bool false) w) := by
  have HT := hide ht
  clear ht
  obtain ⟨W0, hW0⟩ : ∃ W0, w.alloc (.cells #[.int .i64 45, .int .i64 0, .string ByteArray.empty, .string ByteArray.empty, .int .i64 1, .int .i64 5, .int .i64 0, .int .i64 0, .slice A 2 c] 24) = W0 := ⟨_, rfl⟩
  have g0 := new_at hW0
  have hb0 : Below w.heap.size w W0 := by rw [← hW0]; exact (Below.refl _ _).alloc (Nat.le_refl _) _
  have HG0 := hide g0
  have HB0 := hide hb0
  have HW0 := hide hW0
  obtain ⟨y0, y1, y2, y3, y4, y5, y6, y7, y8⟩ := box9 g0
  clear g0 hb0 hW0
  go_enter Tryz.func33, Tryz.ntmps33
  go_upto_region 1 with (fail)
  rw [HW0.out]
  have hT := HT.out.grow (HB0.out)
  obtain ⟨bk, ok, rfl, hbk, hc⟩ := hT.row.at_ (k := 0) (by simp)
  obtain ⟨_, _, e, _, hd⟩ := hT.row.at_ (k := 1) (by simp)
  injection e with e
  injection e with e1 e2
  subst e1 e2
  obtain ⟨q0, q1, q2, q3, q4, q5, q6, q7, q8⟩ := nine hc
  obtain ⟨r0, r1, r2, r3, r4, r5, r6, r7, r8⟩ := nine hd
  clear hd
  clear hc
  simp only [Nat.zero_mul, Nat.add_zero] at q0 q1 q2 q3 q4 q5 q6 q7 q8
  simp only [Nat.one_mul] at r0 r1 r2 r3 r4 r5 r6 r7 r8
  replace q8 : _ = some (Value.slice A1 1 c1) := q8
  replace r8 : _ = some (Value.slice A3 1 c3) := r8
  go_wp2_with first
    |
      (go_at_call 33
       with_reducible refine (nul_ev 37 A1 c1 (.inl rfl) _).mono ?_
       rintro e w1 ⟨rfl, hb⟩
       have HB1 := hide (bstep HB0.out hb)
       have HG1 := hide ((hb.block _ (box_lt HG0.out)).trans HG0.out)
       clear hb
       obtain ⟨y0, y1, y2, y3, y4, y5, y6, y7, y8⟩ := box9 HG1.out
       have hT := HT.out.grow (HB1.out)
       obtain ⟨_, _, e, _, hc⟩ := hT.row.at_ (k := 0) (by simp)
       injection e with e
       injection e with e1 e2
       subst e1 e2
       obtain ⟨_, _, e, _, hd⟩ := hT.row.at_ (k := 1) (by simp)
       injection e with e
       injection e with e1 e2
       subst e1 e2
       obtain ⟨q0, q1, q2, q3, q4, q5, q6, q7, q8⟩ := nine hc
       obtain ⟨r0, r1, r2, r3, r4, r5, r6, r7, r8⟩ := nine hd
       clear hd
       clear hc
       simp only [Nat.zero_mul, Nat.add_zero] at q0 q1 q2 q3 q4 q5 q6 q7 q8
       simp only [Nat.one_mul] at r0 r1 r2 r3 r4 r5 r6 r7 r8
       replace q8 : _ = some (Value.slice A1 1 c1) := q8
       replace r8 : _ = some (Value.slice A3 1 c3) := r8)
  go_ret
  exact ⟨rfl, HB1.out⟩

set_option maxRecDepth 100000 in
set_option maxHeartbeats 1000000 in
theorem hol_then (A A1 A2 A3 : Option Addr) (c c1 c2 c3 : Nat) (w : World) (ht : TreesAt w (Lo w.heap.size) A [evN 37 A1 c1, repN A3 c3 A2 c2]) : Calls Tryz.prog 34 #[.agg #[.int .i64 45, .int .i64 0, .string ByteArray.empty, .string ByteArray.empty, .int .i64 1, .int .i64 5, .int .i64 0, .int .i64 0, .slice A 2 c]] w (RetV (.bool false) w) := by
  have HT := hide ht
  clear ht
  obtain ⟨W0, hW0⟩ : ∃ W0, w.alloc (.cells #[.int .i64 45, .int .i64 0, .string ByteArray.empty, .string ByteArray.empty, .int .i64 1, .int .i64 5, .int .i64 0, .int .i64 0, .slice A 2 c] 24) = W0 := ⟨_, rfl⟩
  have g0 := new_at hW0
  have hb0 : Below w.heap.size w W0 := by rw [← hW0]; exact (Below.refl _ _).alloc (Nat.le_refl _) _
  have HG0 := hide g0
  have HB0 := hide hb0
  have HW0 := hide hW0
  obtain ⟨y0, y1, y2, y3, y4, y5, y6, y7, y8⟩ := box9 g0
  clear g0 hb0 hW0
  go_enter Tryz.func34, Tryz.ntmps34
  go_upto_region 1 with (fail)
  rw [HW0.out]
  have hT := HT.out.grow (HB0.out)
  obtain ⟨bk, ok, rfl, hbk, hc⟩ := hT.row.at_ (k := 0) (by simp)
  obtain ⟨_, _, e, _, hd⟩ := hT.row.at_ (k := 1) (by simp)
  injection e with e
  injection e with e1 e2
  subst e1 e2
  obtain ⟨q0, q1, q2, q3, q4, q5, q6, q7, q8⟩ := nine hc
  obtain ⟨r0, r1, r2, r3, r4, r5, r6, r7, r8⟩ := nine hd
  clear hd
  clear hc
  simp only [Nat.zero_mul, Nat.add_zero] at q0 q1 q2 q3 q4 q5 q6 q7 q8
  simp only [Nat.one_mul] at r0 r1 r2 r3 r4 r5 r6 r7 r8
  replace q8 : _ = some (Value.slice A1 1 c1) := q8
  replace r8 : _ = some (Value.slice A3 1 c3) := r8
  go_wp2_with first
    |
      (go_at_call 33
       with_reducible refine (nul_ev 37 A1 c1 (.inl rfl) _).mono ?_
       rintro e w1 ⟨rfl, hb⟩
       have HB1 := hide (bstep HB0.out hb)
       have HG1 := hide ((hb.block _ (box_lt HG0.out)).trans HG0.out)
       clear hb
       obtain ⟨y0, y1, y2, y3, y4, y5, y6, y7, y8⟩ := box9 HG1.out
       have hT := HT.out.grow (HB1.out)
       obtain ⟨_, _, e, _, hc⟩ := hT.row.at_ (k := 0) (by simp)
       injection e with e
       injection e with e1 e2
       subst e1 e2
       obtain ⟨_, _, e, _, hd⟩ := hT.row.at_ (k := 1) (by simp)
       injection e with e
       injection e with e1 e2
       subst e1 e2
       obtain ⟨q0, q1, q2, q3, q4, q5, q6, q7, q8⟩ := nine hc
       obtain ⟨r0, r1, r2, r3, r4, r5, r6, r7, r8⟩ := nine hd
       clear hd
       clear hc
       simp only [Nat.zero_mul, Nat.add_zero] at q0 q1 q2 q3 q4 q5 q6 q7 q8
       simp only [Nat.one_mul] at r0 r1 r2 r3 r4 r5 r6 r7 r8
       replace q8 : _ = some (Value.slice A1 1 c1) := q8
       replace r8 : _ = some (Value.slice A3 1 c3) := r8)
    |
      (go_at_call 34
       with_reducible refine (hol_ev 37 A1 c1 (.inl rfl) _).mono ?_
       rintro e w2 ⟨rfl, hb⟩
       have HB2 := hide (bstep HB1.out hb)
       have HG2 := hide ((hb.block _ (box_lt HG1.out)).trans HG1.out)
       clear hb
       obtain ⟨y0, y1, y2, y3, y4, y5, y6, y7, y8⟩ := box9 HG2.out
       have hT := HT.out.grow (HB2.out)
       obtain ⟨_, _, e, _, hc⟩ := hT.row.at_ (k := 0) (by simp)
       injection e with e
       injection e with e1 e2
       subst e1 e2
       obtain ⟨_, _, e, _, hd⟩ := hT.row.at_ (k := 1) (by simp)
       injection e with e
       injection e with e1 e2
       subst e1 e2
       obtain ⟨q0, q1, q2, q3, q4, q5, q6, q7, q8⟩ := nine hc
       obtain ⟨r0, r1, r2, r3, r4, r5, r6, r7, r8⟩ := nine hd
       clear hd
       clear hc
       simp only [Nat.zero_mul, Nat.add_zero] at q0 q1 q2 q3 q4 q5 q6 q7 q8
       simp only [Nat.one_mul] at r0 r1 r2 r3 r4 r5 r6 r7 r8
       replace q8 : _ = some (Value.slice A1 1 c1) := q8
       replace r8 : _ = some (Value.slice A3 1 c3) := r8)
    |
      (go_at_call 34
       with_reducible refine (hol_rep A3 A2 c3 c2 _ ((HT.out.grow HB2.out).each (repN A3 c3 A2 c2) (by simp))).mono ?_
       rintro e w3 ⟨rfl, hb⟩
       have HB3 := hide (bstep HB2.out hb)
       have HG3 := hide ((hb.block _ (box_lt HG2.out)).trans HG2.out)
       clear hb
       obtain ⟨y0, y1, y2, y3, y4, y5, y6, y7, y8⟩ := box9 HG3.out)
  go_ret
  exact ⟨rfl, HB3.out⟩

end Go.Proofs.YtgobkbjkndfliaaGreatDoor
