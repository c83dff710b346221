/-
  Several texts in one: EvA, Pat. Each says at its head what it holds.
-/
import Derived.Test.YtgobkbjkndfliaaGreatDoorAP31
import Derived.Test.YtgobkbjkndfliaaGreatDoorAP33
import Derived.Test.YtgobkbjkndfliaaGreatDoorAP34

/-
  automaton.isEvent at the events of the law's example: true.
-/
namespace Go.Proofs.YtgobkbjkndfliaaGreatDoor
open Go.RowKit

abbrev nowV : Value := .iface 117 (.agg #[.nilIface])
theorem end_now (w : World) : Calls Tryz.prog 340 #[.agg #[.nilIface]] w (RetV (.int .i64 0) w) := by
  go_enter Tryz.func340, Tryz.ntmps340
  go_wp2_with fail
  go_ret
  exact ⟨rfl, (Below.refl _ _).alloc (Nat.le_refl _) _⟩
theorem kind_now (x : Int) (w : World) : Calls Tryz.prog 341 #[.agg #[.nilIface], .int .i64 x] w (RetV (.tuple #[.int .i64 0, .int .i64 0, .int .i64 10]) w) := by
  go_enter Tryz.func341, Tryz.ntmps341
  go_wp2_with fail
  go_ret3
  exact ⟨rfl, (Below.refl _ _).alloc (Nat.le_refl _) _⟩
theorem okF_ev (K : Int) (A : Option Addr) (c : Nat) (hK : K = 37 ∨ K = 38) : okF (evN K A c) := by
  have h1 : okF sigN := (okF_eq _).2 ⟨by simp [sigN, Nd.kind, Nd.a, Nd.b, Nd.c, Nd.d, I64], fun k hk => by simp [sigN, Nd.kids] at hk⟩
  refine (okF_eq _).2 ⟨?_, fun k hk => ?_⟩
  · simp [evN, Nd.kind, Nd.a, Nd.b, Nd.c, Nd.d, I64]; omega
  · simp [evN, Nd.kids] at hk; subst hk; exact h1
theorem sigF_ev (K : Int) (A : Option Addr) (c : Nat) (hK : K = 37 ∨ K = 38) : sigF (evN K A c) = [0] := by
  unfold evN
  rw [sigF_mk, if_neg (by omega)]
  unfold sigN
  simp [sigF_mk]

set_option maxRecDepth 100000 in
set_option maxHeartbeats 1000000 in
theorem readable_ev (K : Int) (A : Option Addr) (c : Nat) (hK : K = 37 ∨ K = 38) (f t : Int) (w : World) (ht : TreesAt w (Lo w.heap.size) A [sigN]) :
    Calls Tryz.prog 100 #[nowV, .agg #[.int .i64 K, .int .i64 0, .string ByteArray.empty, .string ByteArray.empty, .int .i64 0, .int .i64 0, .int .i64 0, .int .i64 0, .slice A 1 c], .int .i64 f, .int .i64 t] w (RetV (.int .i64 10) w) := by
  have HT := hide ht
  clear ht
  obtain ⟨W0, hW0⟩ : ∃ W0, w.alloc (.cells #[.int .i64 K, .int .i64 0, .string ByteArray.empty, .string ByteArray.empty, .int .i64 0, .int .i64 0, .int .i64 0, .int .i64 0, .slice A 1 c] 24) = W0 := ⟨_, rfl⟩
  have g0 := new_at hW0
  have hb0 : Below w.heap.size w W0 := by rw [← hW0]; exact (Below.refl _ _).alloc (Nat.le_refl _) _
  have HG0 := hide g0
  have HB0 := hide hb0
  have HW0 := hide hW0
  obtain ⟨y0, y1, y2, y3, y4, y5, y6, y7, y8⟩ := box9 g0
  clear g0 hb0 hW0
  go_enter Tryz.func100, Tryz.ntmps100
  go_upto_region 1 with (fail)
  rw [HW0.out]
  have HSG := hide (show Calls Tryz.prog 109 #[.agg #[.int .i64 K, .int .i64 0, .string ByteArray.empty, .string ByteArray.empty, .int .i64 0, .int .i64 0, .int .i64 0, .int .i64 0, .slice A 1 c]] W0 (SigsPost (evN K A c) W0) from signals_any (evN K A c) W0 (show TreesAt W0 (Lo W0.heap.size) A [sigN] from HT.out.grow HB0.out) (okF_ev K A c hK) (by rw [sigF_ev K A c hK]; simp))
  go_upto_region 2 with (go_at_call 109; refine HSG.out.mono ?_; rintro e w1 ⟨B, c1, zs, rfl, hi, hl, -, hm, hb1⟩; have HI := hide hi; have HB1 := hide (bstep HB0.out hb1); have HM := hide (hm 0 (by unfold I64; omega)); clear hi hm hb1)
  have h0 : 0 < zs.length := by
    have h := HM.out
    rw [sigF_ev K A c hK] at h
    exact List.length_pos_of_mem (h.2 (by simp))
  obtain ⟨b, off, rfl, hbb, hc1⟩ := HI.out.at_ h0
  rw [Nat.add_zero] at hc1
  generalize zs[0] = z0 at hc1
  clear HSG y0 y1 y2 y3 y4 y5 y6 y7 y8
  go_wp2_with fail
  refine wp_loop_rounds 1 ?_
  rw [rounds_succ]
  go_wp2_with (go_at_call 341; refine (kind_now _ _).mono ?_; rintro e w2 ⟨rfl, hb2⟩; have HB2 := hide (bstep HB1.out hb2); clear hb2)
  go_ret
  exact ⟨rfl, HB2.out⟩

set_option maxRecDepth 100000 in
set_option maxHeartbeats 1000000 in
theorem times_ev (K : Int) (A : Option Addr) (c : Nat) (hK : K = 37 ∨ K = 38) (w : World) (ht : TreesAt w (Lo w.heap.size) A [sigN]) :
    Calls Tryz.prog 76 #[nowV, .agg #[.int .i64 K, .int .i64 0, .string ByteArray.empty, .string ByteArray.empty, .int .i64 0, .int .i64 0, .int .i64 0, .int .i64 0, .slice A 1 c], .int .i64 0, .int .i64 0] w (RetV (.tuple #[.slice none 0 0, .int .i64 10]) w) := by
  have HT := hide ht
  clear ht
  obtain ⟨W0, hW0⟩ : ∃ W0, w.alloc (.cells #[.int .i64 K, .int .i64 0, .string ByteArray.empty, .string ByteArray.empty, .int .i64 0, .int .i64 0, .int .i64 0, .int .i64 0, .slice A 1 c] 24) = W0 := ⟨_, rfl⟩
  have g0 := new_at hW0
  have hb0 : Below w.heap.size w W0 := by rw [← hW0]; exact (Below.refl _ _).alloc (Nat.le_refl _) _
  have HG0 := hide g0
  have HB0 := hide hb0
  have HW0 := hide hW0
  obtain ⟨y0, y1, y2, y3, y4, y5, y6, y7, y8⟩ := box9 g0
  clear g0 hb0 hW0
  go_enter Tryz.func76, Tryz.ntmps76
  go_upto_region 1 with (fail)
  rw [HW0.out]
  go_upto_region 6 with first
    |
      (go_at_call 340
       with_reducible refine (end_now _).mono ?_
       rintro e w1 ⟨rfl, hb⟩
       have HB1 := hide (bstep HB0.out hb)
       have HG1 := hide ((hb.block _ (box_lt HG0.out)).trans HG0.out)
       clear hb
       obtain ⟨y0, y1, y2, y3, y4, y5, y6, y7, y8⟩ := box9 HG1.out)
    |
      (go_at_call 99
       with_reducible refine (isEv_ev K A c hK _ (HT.out.grow HB1.out)).mono ?_
       rintro e w2 ⟨rfl, hb⟩
       have HB2 := hide (bstep HB1.out hb)
       have HG2 := hide ((hb.block _ (box_lt HG1.out)).trans HG1.out)
       clear hb
       obtain ⟨y0, y1, y2, y3, y4, y5, y6, y7, y8⟩ := box9 HG2.out)
    |
      (go_at_call 18
       with_reducible refine (hor_ev K A c hK _ (HT.out.grow HB2.out)).mono ?_
       rintro e w3 ⟨rfl, hb⟩
       have HB3 := hide (bstep HB2.out hb)
       have HG3 := hide ((hb.block _ (box_lt HG2.out)).trans HG2.out)
       clear hb
       obtain ⟨y0, y1, y2, y3, y4, y5, y6, y7, y8⟩ := box9 HG3.out)
  clear y0 y1 y2 y3 y4 y5 y6 y7 y8
  obtain ⟨y0, y1, y2, y3, y4, y5, y6, y7, y8⟩ := box9 HG3.out
  have hzB : w.heap.size < w3.heap.size := box_lt HG3.out
  have KC := hide (show ∀ wx, Below w3.heap.size w3.drew wx → (wx.cell? ⟨w.heap.size, 0, none⟩ = some (.int .i64 K) ∧ wx.cell? ⟨w.heap.size, 1, none⟩ = some (.int .i64 0) ∧ wx.cell? ⟨w.heap.size, 2, none⟩ = some (.string ByteArray.empty) ∧ wx.cell? ⟨w.heap.size, 3, none⟩ = some (.string ByteArray.empty) ∧ wx.cell? ⟨w.heap.size, 4, none⟩ = some (.int .i64 0) ∧ wx.cell? ⟨w.heap.size, 5, none⟩ = some (.int .i64 0) ∧ wx.cell? ⟨w.heap.size, 6, none⟩ = some (.int .i64 0) ∧ wx.cell? ⟨w.heap.size, 7, none⟩ = some (.int .i64 0) ∧ wx.cell? ⟨w.heap.size, 8, none⟩ = some (.slice A 1 c) ∧ Below w3.heap.size w3 wx) from fun wx hb => ⟨keepC hb y0 hzB, keepC hb y1 hzB, keepC hb y2 hzB, keepC hb y3 hzB, keepC hb y4 hzB, keepC hb y5 hzB, keepC hb y6 hzB, keepC hb y7 hzB, keepC hb y8 hzB, (below_drew (Below.refl _ w3)).trans hb⟩)
  have k0 := KC.out w3.drew (Below.refl _ _)
  go_region_held3 (fun wx => wx.cell? ⟨w.heap.size, 0, none⟩ = some (.int .i64 K) ∧ wx.cell? ⟨w.heap.size, 1, none⟩ = some (.int .i64 0) ∧ wx.cell? ⟨w.heap.size, 2, none⟩ = some (.string ByteArray.empty) ∧ wx.cell? ⟨w.heap.size, 3, none⟩ = some (.string ByteArray.empty) ∧ wx.cell? ⟨w.heap.size, 4, none⟩ = some (.int .i64 0) ∧ wx.cell? ⟨w.heap.size, 5, none⟩ = some (.int .i64 0) ∧ wx.cell? ⟨w.heap.size, 6, none⟩ = some (.int .i64 0) ∧ wx.cell? ⟨w.heap.size, 7, none⟩ = some (.int .i64 0) ∧ wx.cell? ⟨w.heap.size, 8, none⟩ = some (.slice A 1 c) ∧ Below w3.heap.size w3 wx)
    (first | (with_reducible assumption) | exact k0 | exact k1 | exact k2 | exact k3 | exact k4 | exact k5)
    (first
      |
        (go_at_call 340
         with_reducible refine (end_now _).mono ?_
         rintro e w4 ⟨rfl, hb⟩
         have k4 := KC.out w4 (hb)
         have HX4 := hide (show Below w3.heap.size w3.drew w4 from hb)
         clear hb)
      |
        (go_at_call 100
         with_reducible refine (readable_ev K A c hK _ _ _ (HT.out.grow (HB3.out.trans (((below_drew (Below.refl _ _)).trans HX4.out).mono HB3.out.size)))).mono ?_
         rintro e w5 ⟨rfl, hb⟩
         have k5 := KC.out w5 (HX4.out.trans (hb.mono (by have := HX4.out.size; exact this)))
         have HX5 := hide (show Below w3.heap.size w3.drew w5 from HX4.out.trans (hb.mono (by have := HX4.out.size; exact this)))
         clear hb)
    )
  go_wp2_with fail
  all_goals go_ret2
  all_goals exact ⟨rfl, bstep HB3.out ((below_drew (Below.refl _ _)).trans HX5.out)⟩

set_option maxRecDepth 100000 in
theorem aev_ev (K : Int) (A : Option Addr) (c : Nat) (hK : K = 37 ∨ K = 38) (w : World) (ht : TreesAt w (Lo w.heap.size) A [sigN]) :
    Calls Tryz.prog 59 #[.agg #[.int .i64 K, .int .i64 0, .string ByteArray.empty, .string ByteArray.empty, .int .i64 0, .int .i64 0, .int .i64 0, .int .i64 0, .slice A 1 c]] w (RetV (.bool true) w) := by
  have HT := hide ht
  clear ht
  obtain ⟨W0, hW0⟩ : ∃ W0, w.alloc (.cells #[.int .i64 K, .int .i64 0, .string ByteArray.empty, .string ByteArray.empty, .int .i64 0, .int .i64 0, .int .i64 0, .int .i64 0, .slice A 1 c] 24) = W0 := ⟨_, rfl⟩
  have g0 := new_at hW0
  have hb0 : Below w.heap.size w W0 := by rw [← hW0]; exact (Below.refl _ _).alloc (Nat.le_refl _) _
  have HG0 := hide g0
  have HB0 := hide hb0
  have HW0 := hide hW0
  obtain ⟨y0, y1, y2, y3, y4, y5, y6, y7, y8⟩ := box9 g0
  clear g0 hb0 hW0
  go_enter Tryz.func59, Tryz.ntmps59
  go_upto_region 1 with (fail)
  rw [HW0.out]
  go_wp2_with first
    |
      (go_at_call 76
       with_reducible refine (times_ev K A c hK _ (HT.out.grow HB0.out)).mono ?_
       rintro e w1 ⟨rfl, hb⟩
       have HB1 := hide (bstep HB0.out hb)
       have HG1 := hide ((hb.block _ (box_lt HG0.out)).trans HG0.out)
       clear hb
       obtain ⟨y0, y1, y2, y3, y4, y5, y6, y7, y8⟩ := box9 HG1.out)
  go_ret
  exact ⟨rfl, HB1.out⟩

set_option maxRecDepth 100000 in
theorem pat_ev (K : Int) (A : Option Addr) (c : Nat) (hK : K = 37 ∨ K = 38) (w : World) (ht : TreesAt w (Lo w.heap.size) A [sigN]) :
    Calls Tryz.prog 32 #[.agg #[.int .i64 K, .int .i64 0, .string ByteArray.empty, .string ByteArray.empty, .int .i64 0, .int .i64 0, .int .i64 0, .int .i64 0, .slice A 1 c]] w (RetV (.bool true) w) := by
  have HT := hide ht
  clear ht
  obtain ⟨W0, hW0⟩ : ∃ W0, w.alloc (.cells #[.int .i64 K, .int .i64 0, .string ByteArray.empty, .string ByteArray.empty, .int .i64 0, .int .i64 0, .int .i64 0, .int .i64 0, .slice A 1 c] 24) = W0 := ⟨_, rfl⟩
  have g0 := new_at hW0
  have hb0 : Below w.heap.size w W0 := by rw [← hW0]; exact (Below.refl _ _).alloc (Nat.le_refl _) _
  have HG0 := hide g0
  have HB0 := hide hb0
  have HW0 := hide hW0
  obtain ⟨y0, y1, y2, y3, y4, y5, y6, y7, y8⟩ := box9 g0
  clear g0 hb0 hW0
  go_enter Tryz.func32, Tryz.ntmps32
  go_upto_region 1 with (fail)
  rw [HW0.out]
  rcases hK with rfl | rfl
  · go_wp2_with first
      |
        (go_at_call 59
         with_reducible refine (aev_ev 37 A c (.inl rfl) _ (HT.out.grow HB0.out)).mono ?_
         rintro e w1 ⟨rfl, hb⟩
         have HB1 := hide (bstep HB0.out hb)
         have HG1 := hide ((hb.block _ (box_lt HG0.out)).trans HG0.out)
         clear hb
         obtain ⟨y0, y1, y2, y3, y4, y5, y6, y7, y8⟩ := box9 HG1.out)
    go_ret
    exact ⟨rfl, HB1.out⟩
  · go_wp2_with first
      |
        (go_at_call 59
         with_reducible refine (aev_ev 38 A c (.inr rfl) _ (HT.out.grow HB0.out)).mono ?_
         rintro e w1 ⟨rfl, hb⟩
         have HB1 := hide (bstep HB0.out hb)
         have HG1 := hide ((hb.block _ (box_lt HG0.out)).trans HG0.out)
         clear hb
         obtain ⟨y0, y1, y2, y3, y4, y5, y6, y7, y8⟩ := box9 HG1.out)
    go_ret
    exact ⟨rfl, HB1.out⟩

set_option maxRecDepth 100000 in
theorem cond0 (A : Option Addr) (c : Nat) (w : World) : Calls Tryz.prog 58 #[.slice A 0 c, .int .i64 0] w (RetV (.bool true) w) := by
  go_enter Tryz.func58, Tryz.ntmps58
  go_wp2
  go_rounds 1
  go_ret
  exact ⟨rfl, Below.refl _ _⟩
theorem delay_any (a b : Int) (h : 0 ≤ a ∧ a ≤ b ∧ b ≤ 1099511627776) (w : World) : Calls Tryz.prog 48 #[.int .i64 a, .int .i64 b] w (RetV (.bool true) w) := by
  have T1 : decide (0 ≤ a) = true := decide_eq_true h.1
  have T2 : decide (a ≤ b) = true := decide_eq_true h.2.1
  have T3 : decide (b ≤ 1099511627776) = true := decide_eq_true h.2.2
  clear h
  go_enter Tryz.func48, Tryz.ntmps48
  go_wp2_with fail
  go_ret
  exact ⟨rfl, Below.refl _ _⟩

end Go.Proofs.YtgobkbjkndfliaaGreatDoor

/-
  automaton.isPattern at the pattern of the law's example: true.
-/
namespace Go.Proofs.YtgobkbjkndfliaaGreatDoor
open Go.RowKit

set_option maxRecDepth 100000 in
set_option maxHeartbeats 2000000 in
theorem pat_rep (A A2 : Option Addr) (c c2 : Nat) (_hc : 1 ≤ c) (w : World) (ht : TreesAt w (Lo w.heap.size) A [evN 38 A2 c2]) : Calls Tryz.prog 32 #[.agg #[.int .i64 47, .int .i64 0, .string ByteArray.empty, .string ByteArray.empty, .int .i64 1, .int .i64 2, .int .i64 0, .int .i64 3, .slice A 1 c]] w (RetV (.bool true) w) := by
  have HT := hide ht
  clear ht
  obtain ⟨W0, hW0⟩ : ∃ W0, w.alloc (.cells #[.int .i64 47, .int .i64 0, .string ByteArray.empty, .string ByteArray.empty, .int .i64 1, .int .i64 2, .int .i64 0, .int .i64 3, .slice A 1 c] 24) = W0 := ⟨_, rfl⟩
  have g0 := new_at hW0
  have hb0 : Below w.heap.size w W0 := by rw [← hW0]; exact (Below.refl _ _).alloc (Nat.le_refl _) _
  have HG0 := hide g0
  have HB0 := hide hb0
  have HW0 := hide hW0
  obtain ⟨y0, y1, y2, y3, y4, y5, y6, y7, y8⟩ := box9 g0
  clear g0 hb0 hW0
  go_enter Tryz.func32, Tryz.ntmps32
  go_upto_region 1 with (fail)
  rw [HW0.out]
  have hT := HT.out.grow (HB0.out)
  obtain ⟨bk, ok, rfl, hbk, hc⟩ := hT.row.at_ (k := 0) (by simp)
  obtain ⟨q0, q1, q2, q3, q4, q5, q6, q7, q8⟩ := nine hc
  clear hc
  simp only [Nat.zero_mul, Nat.add_zero] at q0 q1 q2 q3 q4 q5 q6 q7 q8
  replace q8 : _ = some (Value.slice A2 1 c2) := q8
  go_wp2_with first
    |
      (go_at_call 32
       with_reducible refine (pat_ev 38 A2 c2 (.inr rfl) _ ((HT.out.grow HB0.out).each (evN 38 A2 c2) (by simp))).mono ?_
       rintro e w1 ⟨rfl, hb⟩
       have HB1 := hide (bstep HB0.out hb)
       have HG1 := hide ((hb.block _ (box_lt HG0.out)).trans HG0.out)
       clear hb
       obtain ⟨y0, y1, y2, y3, y4, y5, y6, y7, y8⟩ := box9 HG1.out
       have hT := HT.out.grow (HB1.out)
       obtain ⟨_, _, e, _, hc⟩ := hT.row.at_ (k := 0) (by simp)
       injection e with e
       injection e with e1 e2
       subst e1 e2
       obtain ⟨q0, q1, q2, q3, q4, q5, q6, q7, q8⟩ := nine hc
       clear hc
       simp only [Nat.zero_mul, Nat.add_zero] at q0 q1 q2 q3 q4 q5 q6 q7 q8
       replace q8 : _ = some (Value.slice A2 1 c2) := q8)
    |
      (go_at_call 58
       with_reducible refine (cond0 _ _ _).mono ?_
       rintro e w2 ⟨rfl, hb⟩
       have HB2 := hide (bstep HB1.out hb)
       have HG2 := hide ((hb.block _ (box_lt HG1.out)).trans HG1.out)
       clear hb
       obtain ⟨y0, y1, y2, y3, y4, y5, y6, y7, y8⟩ := box9 HG2.out
       have hT := HT.out.grow (HB2.out)
       obtain ⟨_, _, e, _, hc⟩ := hT.row.at_ (k := 0) (by simp)
       injection e with e
       injection e with e1 e2
       subst e1 e2
       obtain ⟨q0, q1, q2, q3, q4, q5, q6, q7, q8⟩ := nine hc
       clear hc
       simp only [Nat.zero_mul, Nat.add_zero] at q0 q1 q2 q3 q4 q5 q6 q7 q8
       replace q8 : _ = some (Value.slice A2 1 c2) := q8)
    |
      (go_at_call 48
       with_reducible refine (delay_any _ _ (by omega) _).mono ?_
       rintro e w3 ⟨rfl, hb⟩
       have HB3 := hide (bstep HB2.out hb)
       have HG3 := hide ((hb.block _ (box_lt HG2.out)).trans HG2.out)
       clear hb
       obtain ⟨y0, y1, y2, y3, y4, y5, y6, y7, y8⟩ := box9 HG3.out
       have hT := HT.out.grow (HB3.out)
       obtain ⟨_, _, e, _, hc⟩ := hT.row.at_ (k := 0) (by simp)
       injection e with e
       injection e with e1 e2
       subst e1 e2
       obtain ⟨q0, q1, q2, q3, q4, q5, q6, q7, q8⟩ := nine hc
       clear hc
       simp only [Nat.zero_mul, Nat.add_zero] at q0 q1 q2 q3 q4 q5 q6 q7 q8
       replace q8 : _ = some (Value.slice A2 1 c2) := q8)
  all_goals go_ret
  all_goals exact ⟨rfl, HB3.out⟩

set_option maxRecDepth 100000 in
set_option maxHeartbeats 2000000 in
theorem pat_then (A A1 A2 A3 : Option Addr) (c c1 c2 c3 : Nat) (_hc : 2 ≤ c) (hc3 : 1 ≤ c3) (w : World) (ht : TreesAt w (Lo w.heap.size) A [evN 37 A1 c1, repN A3 c3 A2 c2]) : Calls Tryz.prog 32 #[.agg #[.int .i64 45, .int .i64 0, .string ByteArray.empty, .string ByteArray.empty, .int .i64 1, .int .i64 5, .int .i64 0, .int .i64 0, .slice A 2 c]] w (RetV (.bool true) w) := by
  have HT := hide ht
  clear ht
  obtain ⟨W0, hW0⟩ : ∃ W0, w.alloc (.cells #[.int .i64 45, .int .i64 0, .string ByteArray.empty, .string ByteArray.empty, .int .i64 1, .int .i64 5, .int .i64 0, .int .i64 0, .slice A 2 c] 24) = W0 := ⟨_, rfl⟩
  have g0 := new_at hW0
  have hb0 : Below w.heap.size w W0 := by rw [← hW0]; exact (Below.refl _ _).alloc (Nat.le_refl _) _
  have HG0 := hide g0
  have HB0 := hide hb0
  have HW0 := hide hW0
  obtain ⟨y0, y1, y2, y3, y4, y5, y6, y7, y8⟩ := box9 g0
  clear g0 hb0 hW0
  go_enter Tryz.func32, Tryz.ntmps32
  go_upto_region 1 with (fail)
  rw [HW0.out]
  have hT := HT.out.grow (HB0.out)
  obtain ⟨bk, ok, rfl, hbk, hc⟩ := hT.row.at_ (k := 0) (by simp)
  obtain ⟨_, _, e, _, hd⟩ := hT.row.at_ (k := 1) (by simp)
  injection e with e
  injection e with e1 e2
  subst e1 e2
  obtain ⟨q0, q1, q2, q3, q4, q5, q6, q7, q8⟩ := nine hc
  obtain ⟨r0, r1, r2, r3, r4, r5, r6, r7, r8⟩ := nine hd
  clear hd
  clear hc
  simp only [Nat.zero_mul, Nat.add_zero] at q0 q1 q2 q3 q4 q5 q6 q7 q8
  simp only [Nat.one_mul] at r0 r1 r2 r3 r4 r5 r6 r7 r8
  replace q8 : _ = some (Value.slice A1 1 c1) := q8
  replace r8 : _ = some (Value.slice A3 1 c3) := r8
  go_wp2_with first
    |
      (go_at_call 32
       with_reducible refine (pat_ev 37 A1 c1 (.inl rfl) _ ((HT.out.grow HB0.out).each (evN 37 A1 c1) (by simp))).mono ?_
       rintro e w1 ⟨rfl, hb⟩
       have HB1 := hide (bstep HB0.out hb)
       have HG1 := hide ((hb.block _ (box_lt HG0.out)).trans HG0.out)
       clear hb
       obtain ⟨y0, y1, y2, y3, y4, y5, y6, y7, y8⟩ := box9 HG1.out
       have hT := HT.out.grow (HB1.out)
       obtain ⟨_, _, e, _, hc⟩ := hT.row.at_ (k := 0) (by simp)
       injection e with e
       injection e with e1 e2
       subst e1 e2
       obtain ⟨_, _, e, _, hd⟩ := hT.row.at_ (k := 1) (by simp)
       injection e with e
       injection e with e1 e2
       subst e1 e2
       obtain ⟨q0, q1, q2, q3, q4, q5, q6, q7, q8⟩ := nine hc
       obtain ⟨r0, r1, r2, r3, r4, r5, r6, r7, r8⟩ := nine hd
       clear hd
       clear hc
       simp only [Nat.zero_mul, Nat.add_zero] at q0 q1 q2 q3 q4 q5 q6 q7 q8
       simp only [Nat.one_mul] at r0 r1 r2 r3 r4 r5 r6 r7 r8
       replace q8 : _ = some (Value.slice A1 1 c1) := q8
       replace r8 : _ = some (Value.slice A3 1 c3) := r8)
    |
      (go_at_call 32
       with_reducible refine (pat_rep A3 A2 c3 c2 hc3 _ ((HT.out.grow HB1.out).each (repN A3 c3 A2 c2) (by simp))).mono ?_
       rintro e w2 ⟨rfl, hb⟩
       have HB2 := hide (bstep HB1.out hb)
       have HG2 := hide ((hb.block _ (box_lt HG1.out)).trans HG1.out)
       clear hb
       obtain ⟨y0, y1, y2, y3, y4, y5, y6, y7, y8⟩ := box9 HG2.out
       have hT := HT.out.grow (HB2.out)
       obtain ⟨_, _, e, _, hc⟩ := hT.row.at_ (k := 0) (by simp)
       injection e with e
       injection e with e1 e2
       subst e1 e2
       obtain ⟨_, _, e, _, hd⟩ := hT.row.at_ (k := 1) (by simp)
       injection e with e
       injection e with e1 e2
       subst e1 e2
       obtain ⟨q0, q1, q2, q3, q4, q5, q6, q7, q8⟩ := nine hc
       obtain ⟨r0, r1, r2, r3, r4, r5, r6, r7, r8⟩ := nine hd
       clear hd
       clear hc
       simp only [Nat.zero_mul, Nat.add_zero] at q0 q1 q2 q3 q4 q5 q6 q7 q8
       simp only [Nat.one_mul] at r0 r1 r2 r3 r4 r5 r6 r7 r8
       replace q8 : _ = some (Value.slice A1 1 c1) := q8
       replace r8 : _ = some (Value.slice A3 1 c3) := r8)
    |
      (go_at_call 58
       with_reducible refine (cond0 _ _ _).mono ?_
       rintro e w3 ⟨rfl, hb⟩
       have HB3 := hide (bstep HB2.out hb)
       have HG3 := hide ((hb.block _ (box_lt HG2.out)).trans HG2.out)
       clear hb
       obtain ⟨y0, y1, y2, y3, y4, y5, y6, y7, y8⟩ := box9 HG3.out
       have hT := HT.out.grow (HB3.out)
       obtain ⟨_, _, e, _, hc⟩ := hT.row.at_ (k := 0) (by simp)
       injection e with e
       injection e with e1 e2
       subst e1 e2
       obtain ⟨_, _, e, _, hd⟩ := hT.row.at_ (k := 1) (by simp)
       injection e with e
       injection e with e1 e2
       subst e1 e2
       obtain ⟨q0, q1, q2, q3, q4, q5, q6, q7, q8⟩ := nine hc
       obtain ⟨r0, r1, r2, r3, r4, r5, r6, r7, r8⟩ := nine hd
       clear hd
       clear hc
       simp only [Nat.zero_mul, Nat.add_zero] at q0 q1 q2 q3 q4 q5 q6 q7 q8
       simp only [Nat.one_mul] at r0 r1 r2 r3 r4 r5 r6 r7 r8
       replace q8 : _ = some (Value.slice A1 1 c1) := q8
       replace r8 : _ = some (Value.slice A3 1 c3) := r8)
    |
      (go_at_call 48
       with_reducible refine (delay_any _ _ (by omega) _).mono ?_
       rintro e w4 ⟨rfl, hb⟩
       have HB4 := hide (bstep HB3.out hb)
       have HG4 := hide ((hb.block _ (box_lt HG3.out)).trans HG3.out)
       clear hb
       obtain ⟨y0, y1, y2, y3, y4, y5, y6, y7, y8⟩ := box9 HG4.out
       have hT := HT.out.grow (HB4.out)
       obtain ⟨_, _, e, _, hc⟩ := hT.row.at_ (k := 0) (by simp)
       injection e with e
       injection e with e1 e2
       subst e1 e2
       obtain ⟨_, _, e, _, hd⟩ := hT.row.at_ (k := 1) (by simp)
       injection e with e
       injection e with e1 e2
       subst e1 e2
       obtain ⟨q0, q1, q2, q3, q4, q5, q6, q7, q8⟩ := nine hc
       obtain ⟨r0, r1, r2, r3, r4, r5, r6, r7, r8⟩ := nine hd
       clear hd
       clear hc
       simp only [Nat.zero_mul, Nat.add_zero] at q0 q1 q2 q3 q4 q5 q6 q7 q8
       simp only [Nat.one_mul] at r0 r1 r2 r3 r4 r5 r6 r7 r8
       replace q8 : _ = some (Value.slice A1 1 c1) := q8
       replace r8 : _ = some (Value.slice A3 1 c3) := r8)
  all_goals go_ret
  all_goals exact ⟨rfl, HB4.out⟩

end Go.Proofs.YtgobkbjkndfliaaGreatDoor
