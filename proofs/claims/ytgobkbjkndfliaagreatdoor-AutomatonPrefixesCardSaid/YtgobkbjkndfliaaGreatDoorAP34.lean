/-
  Several texts in one: Stp. Each says at its head what it holds.
-/
import Derived.Test.YtgobkbjkndfliaaGreatDoorAP24

/-
  The pattern of the law's example: Steps.
-/
namespace Go.Proofs.YtgobkbjkndfliaaGreatDoor
open Go.RowKit

theorem keepC {n : Nat} {a b : World} {p : Addr} {v : Value} (h : Below n a b) (hv : a.cell? p = some v) (hp : p.block < n) : b.cell? p = some v := (h.cell hp).trans hv

set_option maxRecDepth 100000 in
set_option maxHeartbeats 1000000 in
theorem stp_rep (A A2 : Option Addr) (c c2 : Nat) (w : World) (ht : TreesAt w (Lo w.heap.size) A [evN 38 A2 c2]) : Calls Tryz.prog 16 #[.agg #[.int .i64 47, .int .i64 0, .string ByteArray.empty, .string ByteArray.empty, .int .i64 1, .int .i64 2, .int .i64 0, .int .i64 3, .slice A 1 c]] w (RetV (.int .i64 2) w) := by
  have HT := hide ht
  clear ht
  obtain ⟨W0, hW0⟩ : ∃ W0, w.alloc (.cells #[.int .i64 47, .int .i64 0, .string ByteArray.empty, .string ByteArray.empty, .int .i64 1, .int .i64 2, .int .i64 0, .int .i64 3, .slice A 1 c] 24) = W0 := ⟨_, rfl⟩
  have g0 := new_at hW0
  have hb0 : Below w.heap.size w W0 := by rw [← hW0]; exact (Below.refl _ _).alloc (Nat.le_refl _) _
  have HG0 := hide g0
  have HB0 := hide hb0
  have HW0 := hide hW0
  obtain ⟨y0, y1, y2, y3, y4, y5, y6, y7, y8⟩ := box9 g0
  clear g0 hb0 hW0
  go_enter Tryz.func16, Tryz.ntmps16
  go_upto_region 1 with (fail)
  rw [HW0.out]
  have hT := HT.out.grow (HB0.out)
  obtain ⟨bk, ok, rfl, hbk, hc⟩ := hT.row.at_ (k := 0) (by simp)
  obtain ⟨q0, q1, q2, q3, q4, q5, q6, q7, q8⟩ := nine hc
  clear hc
  simp only [Nat.zero_mul, Nat.add_zero] at q0 q1 q2 q3 q4 q5 q6 q7 q8
  replace q8 : _ = some (Value.slice A2 1 c2) := q8
  clear hT
  go_upto_region 4 with (fail)
  have hzB : w.heap.size < W0.heap.size := box_lt HG0.out
  have hzk : bk < W0.heap.size := hbk
  have KC := hide (show ∀ wx, Below W0.heap.size W0.drew wx → (wx.cell? ⟨w.heap.size, 5, none⟩ = some (.int .i64 2) ∧ wx.cell? ⟨w.heap.size, 8, none⟩ = some (.slice (some ⟨bk, ok, none⟩) 1 c) ∧ wx.cell? ⟨bk, ok, none⟩ = some (.int .i64 38) ∧ wx.cell? ⟨bk, ok + 1, none⟩ = some (.int .i64 0) ∧ wx.cell? ⟨bk, ok + 2, none⟩ = some (.string ByteArray.empty) ∧ wx.cell? ⟨bk, ok + 3, none⟩ = some (.string ByteArray.empty) ∧ wx.cell? ⟨bk, ok + 4, none⟩ = some (.int .i64 0) ∧ wx.cell? ⟨bk, ok + 5, none⟩ = some (.int .i64 0) ∧ wx.cell? ⟨bk, ok + 6, none⟩ = some (.int .i64 0) ∧ wx.cell? ⟨bk, ok + 7, none⟩ = some (.int .i64 0) ∧ wx.cell? ⟨bk, ok + 8, none⟩ = some (.slice A2 1 c2) ∧ Below W0.heap.size W0 wx) from fun wx hb => ⟨keepC hb y5 hzB, keepC hb y8 hzB, keepC hb q0 hzk, keepC hb q1 hzk, keepC hb q2 hzk, keepC hb q3 hzk, keepC hb q4 hzk, keepC hb q5 hzk, keepC hb q6 hzk, keepC hb q7 hzk, keepC hb q8 hzk, (below_drew (Below.refl _ W0)).trans hb⟩)
  have k0 := KC.out W0.drew (Below.refl _ _)
  go_region_held3 (fun wx => wx.cell? ⟨w.heap.size, 5, none⟩ = some (.int .i64 2) ∧ wx.cell? ⟨w.heap.size, 8, none⟩ = some (.slice (some ⟨bk, ok, none⟩) 1 c) ∧ wx.cell? ⟨bk, ok, none⟩ = some (.int .i64 38) ∧ wx.cell? ⟨bk, ok + 1, none⟩ = some (.int .i64 0) ∧ wx.cell? ⟨bk, ok + 2, none⟩ = some (.string ByteArray.empty) ∧ wx.cell? ⟨bk, ok + 3, none⟩ = some (.string ByteArray.empty) ∧ wx.cell? ⟨bk, ok + 4, none⟩ = some (.int .i64 0) ∧ wx.cell? ⟨bk, ok + 5, none⟩ = some (.int .i64 0) ∧ wx.cell? ⟨bk, ok + 6, none⟩ = some (.int .i64 0) ∧ wx.cell? ⟨bk, ok + 7, none⟩ = some (.int .i64 0) ∧ wx.cell? ⟨bk, ok + 8, none⟩ = some (.slice A2 1 c2) ∧ Below W0.heap.size W0 wx)
    (first | (with_reducible assumption) | exact k0 | exact k1)
    (first
      |
        (go_at_call 16
         with_reducible refine (stp_ev 38 A2 c2 (.inr rfl) _).mono ?_
         rintro e w1 ⟨rfl, hb⟩
         have k1 := KC.out w1 (hb)
         have HX1 := hide (show Below W0.heap.size W0.drew w1 from hb)
         clear hb)
    )
  go_wp2_with fail
  all_goals go_ret
  all_goals exact ⟨rfl, bstep HB0.out k1.2.2.2.2.2.2.2.2.2.2.2⟩

set_option maxRecDepth 100000 in
set_option maxHeartbeats 1000000 in
theorem stp_then (A A1 A2 A3 : Option Addr) (c c1 c2 c3 : Nat) (w : World) (ht : TreesAt w (Lo w.heap.size) A [evN 37 A1 c1, repN A3 c3 A2 c2]) : Calls Tryz.prog 16 #[.agg #[.int .i64 45, .int .i64 0, .string ByteArray.empty, .string ByteArray.empty, .int .i64 1, .int .i64 5, .int .i64 0, .int .i64 0, .slice A 2 c]] w (RetV (.int .i64 3) w) := by
  have HT := hide ht
  clear ht
  obtain ⟨W0, hW0⟩ : ∃ W0, w.alloc (.cells #[.int .i64 45, .int .i64 0, .string ByteArray.empty, .string ByteArray.empty, .int .i64 1, .int .i64 5, .int .i64 0, .int .i64 0, .slice A 2 c] 24) = W0 := ⟨_, rfl⟩
  have g0 := new_at hW0
  have hb0 : Below w.heap.size w W0 := by rw [← hW0]; exact (Below.refl _ _).alloc (Nat.le_refl _) _
  have HG0 := hide g0
  have HB0 := hide hb0
  have HW0 := hide hW0
  obtain ⟨y0, y1, y2, y3, y4, y5, y6, y7, y8⟩ := box9 g0
  clear g0 hb0 hW0
  go_enter Tryz.func16, Tryz.ntmps16
  go_upto_region 1 with (fail)
  rw [HW0.out]
  have hT := HT.out.grow (HB0.out)
  obtain ⟨bk, ok, rfl, hbk, hc⟩ := hT.row.at_ (k := 0) (by simp)
  obtain ⟨_, _, e, _, hd⟩ := hT.row.at_ (k := 1) (by simp)
  injection e with e
  injection e with e1 e2
  subst e1 e2
  obtain ⟨q0, q1, q2, q3, q4, q5, q6, q7, q8⟩ := nine hc
  obtain ⟨r0, r1, r2, r3, r4, r5, r6, r7, r8⟩ := nine hd
  clear hd
  clear hc
  simp only [Nat.zero_mul, Nat.add_zero] at q0 q1 q2 q3 q4 q5 q6 q7 q8
  simp only [Nat.one_mul] at r0 r1 r2 r3 r4 r5 r6 r7 r8
  replace q8 : _ = some (Value.slice A1 1 c1) := q8
  replace r8 : _ = some (Value.slice A3 1 c3) := r8
  clear hT
  go_upto_region 2 with (fail)
  have hzB : w.heap.size < W0.heap.size := box_lt HG0.out
  have hzk : bk < W0.heap.size := hbk
  have KC := hide (show ∀ wx, Below W0.heap.size W0.drew wx → (wx.cell? ⟨w.heap.size, 8, none⟩ = some (.slice (some ⟨bk, ok, none⟩) 2 c) ∧ wx.cell? ⟨bk, ok, none⟩ = some (.int .i64 37) ∧ wx.cell? ⟨bk, ok + 1, none⟩ = some (.int .i64 0) ∧ wx.cell? ⟨bk, ok + 2, none⟩ = some (.string ByteArray.empty) ∧ wx.cell? ⟨bk, ok + 3, none⟩ = some (.string ByteArray.empty) ∧ wx.cell? ⟨bk, ok + 4, none⟩ = some (.int .i64 0) ∧ wx.cell? ⟨bk, ok + 5, none⟩ = some (.int .i64 0) ∧ wx.cell? ⟨bk, ok + 6, none⟩ = some (.int .i64 0) ∧ wx.cell? ⟨bk, ok + 7, none⟩ = some (.int .i64 0) ∧ wx.cell? ⟨bk, ok + 8, none⟩ = some (.slice A1 1 c1) ∧ wx.cell? ⟨bk, ok + 9, none⟩ = some (.int .i64 47) ∧ wx.cell? ⟨bk, ok + 9 + 1, none⟩ = some (.int .i64 0) ∧ wx.cell? ⟨bk, ok + 9 + 2, none⟩ = some (.string ByteArray.empty) ∧ wx.cell? ⟨bk, ok + 9 + 3, none⟩ = some (.string ByteArray.empty) ∧ wx.cell? ⟨bk, ok + 9 + 4, none⟩ = some (.int .i64 1) ∧ wx.cell? ⟨bk, ok + 9 + 5, none⟩ = some (.int .i64 2) ∧ wx.cell? ⟨bk, ok + 9 + 6, none⟩ = some (.int .i64 0) ∧ wx.cell? ⟨bk, ok + 9 + 7, none⟩ = some (.int .i64 3) ∧ wx.cell? ⟨bk, ok + 9 + 8, none⟩ = some (.slice A3 1 c3) ∧ Below W0.heap.size W0 wx) from fun wx hb => ⟨keepC hb y8 hzB, keepC hb q0 hzk, keepC hb q1 hzk, keepC hb q2 hzk, keepC hb q3 hzk, keepC hb q4 hzk, keepC hb q5 hzk, keepC hb q6 hzk, keepC hb q7 hzk, keepC hb q8 hzk, keepC hb r0 hzk, keepC hb r1 hzk, keepC hb r2 hzk, keepC hb r3 hzk, keepC hb r4 hzk, keepC hb r5 hzk, keepC hb r6 hzk, keepC hb r7 hzk, keepC hb r8 hzk, (below_drew (Below.refl _ W0)).trans hb⟩)
  have k0 := KC.out W0.drew (Below.refl _ _)
  go_region_held3 (fun wx => wx.cell? ⟨w.heap.size, 8, none⟩ = some (.slice (some ⟨bk, ok, none⟩) 2 c) ∧ wx.cell? ⟨bk, ok, none⟩ = some (.int .i64 37) ∧ wx.cell? ⟨bk, ok + 1, none⟩ = some (.int .i64 0) ∧ wx.cell? ⟨bk, ok + 2, none⟩ = some (.string ByteArray.empty) ∧ wx.cell? ⟨bk, ok + 3, none⟩ = some (.string ByteArray.empty) ∧ wx.cell? ⟨bk, ok + 4, none⟩ = some (.int .i64 0) ∧ wx.cell? ⟨bk, ok + 5, none⟩ = some (.int .i64 0) ∧ wx.cell? ⟨bk, ok + 6, none⟩ = some (.int .i64 0) ∧ wx.cell? ⟨bk, ok + 7, none⟩ = some (.int .i64 0) ∧ wx.cell? ⟨bk, ok + 8, none⟩ = some (.slice A1 1 c1) ∧ wx.cell? ⟨bk, ok + 9, none⟩ = some (.int .i64 47) ∧ wx.cell? ⟨bk, ok + 9 + 1, none⟩ = some (.int .i64 0) ∧ wx.cell? ⟨bk, ok + 9 + 2, none⟩ = some (.string ByteArray.empty) ∧ wx.cell? ⟨bk, ok + 9 + 3, none⟩ = some (.string ByteArray.empty) ∧ wx.cell? ⟨bk, ok + 9 + 4, none⟩ = some (.int .i64 1) ∧ wx.cell? ⟨bk, ok + 9 + 5, none⟩ = some (.int .i64 2) ∧ wx.cell? ⟨bk, ok + 9 + 6, none⟩ = some (.int .i64 0) ∧ wx.cell? ⟨bk, ok + 9 + 7, none⟩ = some (.int .i64 3) ∧ wx.cell? ⟨bk, ok + 9 + 8, none⟩ = some (.slice A3 1 c3) ∧ Below W0.heap.size W0 wx)
    (first | (with_reducible assumption) | exact k0 | exact k1 | exact k2 | exact k3 | exact k4)
    (first
      |
        (go_at_call 16
         with_reducible refine (stp_ev 37 A1 c1 (.inl rfl) _).mono ?_
         rintro e w1 ⟨rfl, hb⟩
         have k1 := KC.out w1 (hb)
         have HX1 := hide (show Below W0.heap.size W0.drew w1 from hb)
         clear hb)
      |
        (go_at_call 16
         with_reducible refine (stp_rep A3 A2 c3 c2 _ ((HT.out.grow (below_drew HB0.out)).each (repN A3 c3 A2 c2) (by simp))).mono ?_
         rintro e w2 ⟨rfl, hb⟩
         have k2 := KC.out w2 (hb)
         have HX2 := hide (show Below W0.heap.size W0.drew w2 from hb)
         clear hb)
      |
        (go_at_call 16
         with_reducible refine (stp_rep A3 A2 c3 c2 _ ((HT.out.grow (HB0.out.trans ((below_drew (Below.refl _ _)).trans (HX1.out.mono HB0.out.size)))).each (repN A3 c3 A2 c2) (by simp))).mono ?_
         rintro e w3 ⟨rfl, hb⟩
         have k3 := KC.out w3 (HX1.out.trans (hb.mono (by have := HX1.out.size; exact this)))
         have HX3 := hide (show Below W0.heap.size W0.drew w3 from HX1.out.trans (hb.mono (by have := HX1.out.size; exact this)))
         clear hb)
      |
        (go_at_call 16
         with_reducible refine (stp_ev 37 A1 c1 (.inl rfl) _).mono ?_
         rintro e w4 ⟨rfl, hb⟩
         have k4 := KC.out w4 (HX2.out.trans (hb.mono (by have := HX2.out.size; exact this)))
         have HX4 := hide (show Below W0.heap.size W0.drew w4 from HX2.out.trans (hb.mono (by have := HX2.out.size; exact this)))
         clear hb)
    )

  all_goals go_wp2_with fail
  all_goals go_ret
  all_goals first
    | exact ⟨rfl, bstep HB0.out ((below_drew (Below.refl _ _)).trans HX3.out)⟩
    | exact ⟨rfl, bstep HB0.out ((below_drew (Below.refl _ _)).trans HX4.out)⟩
end Go.Proofs.YtgobkbjkndfliaaGreatDoor
