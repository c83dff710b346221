/-
  Several texts in one: QOper. Each says at its head what it holds.
-/
import Derived.Test.YtgobkbjkndfliaaGreatDoorAP4
import Derived.Test.YtgobkbjkndfliaaGreatDoorAP10
import Derived.Deep.DeepCutAuto
import Derived.Deep.QuietTactic
import Derived.BigQuiet
import Derived.IntWalk

/-
  qcheck.operator, isValue: the width of an operator.
-/
namespace Go.Proofs.YtgobkbjkndfliaaGreatDoor
open Go.RowKit

def isValB (k : Int) : Bool := decide (1 ≤ k ∧ k ≤ 16)
set_option maxRecDepth 100000 in
set_option maxHeartbeats 1000000 in
theorem isValue_any (n : Nd) (w : World) (ht : TreesAt w (Lo w.heap.size) n.KA n.kids) : Calls Tryz.prog 138 #[.agg (cNd n).toArray] w (RetV (.bool (isValB n.kind)) w) := by
  obtain ⟨kind, at_, name, value, a, b, c, d, KA, kc, kids⟩ := n
  unfold Nd.KA Nd.kids at ht
  unfold cNd
  have hl := ht.len
  obtain ⟨W0, hW0⟩ : ∃ W0, w.alloc (.cells #[.int .i64 kind, .int .i64 at_, .string name, .string value, .int .i64 a, .int .i64 b, .int .i64 c, .int .i64 d, .slice KA kids.length kc] 24) = W0 := ⟨_, rfl⟩
  have g0 := new_at hW0
  have hb0 : Below w.heap.size w W0 := by rw [← hW0]; exact (Below.refl _ _).alloc (Nat.le_refl _) _
  have HT := hide (ht.grow hb0)
  have HG0 := hide g0
  have HB0 := hide hb0
  have HW0 := hide hW0
  obtain ⟨y0, y1, y2, y3, y4, y5, y6, y7, y8⟩ := box9 g0
  clear ht g0 hb0 hW0
  try dsimp only [Nd.kind, Nd.value, Nd.a, Nd.b, Nd.c, Nd.d, Nd.kids]
  go_enter Tryz.func138, Tryz.ntmps138
  go_upto_region 1 with (fail)
  rw [HW0.out]
  by_cases h1 : 1 ≤ kind
  · have T1 : decide (1 ≤ kind) = true := decide_eq_true h1
    by_cases h2 : kind ≤ 16
    · have T2 : decide (kind ≤ 16) = true := decide_eq_true h2
      have HR := hide (show isValB kind = true from decide_eq_true ⟨h1, h2⟩)
      clear h1 h2
      go_wp2_with fail
      go_ret
      exact ⟨by rw [HR.out]; rfl, HB0.out⟩
    · have T2 : decide (kind ≤ 16) = false := decide_eq_false h2
      have HR := hide (show isValB kind = false from decide_eq_false fun h => h2 h.2)
      clear h1 h2
      go_wp2_with fail
      go_ret
      exact ⟨by rw [HR.out]; rfl, HB0.out⟩
  · have T1 : decide (1 ≤ kind) = false := decide_eq_false h1
    have HR := hide (show isValB kind = false from decide_eq_false fun h => h1 h.1)
    clear h1
    go_wp2_with fail
    go_ret
    exact ⟨by rw [HR.out]; rfl, HB0.out⟩

/-- what operator's slice of widths holds -/
def WsAt (w : World) (A : Option Addr) (ws : List Int) : Prop := IntsAt w w.heap.size A ws ∧ ws.length ≤ 140737488355328 ∧ ∀ x ∈ ws, 1 ≤ x ∧ x ≤ 128
def SumRel (ws : List Int) (w : World) (s i : Value) (wr : World) : Prop := ∃ k : Nat, k ≤ ws.length ∧ i = .int .i64 (k : Int) ∧ s = .int .i64 (sumF (ws.take k)) ∧ w = wr
theorem sum_bound {ws : List Int} (h : ∀ x ∈ ws, 1 ≤ x ∧ x ≤ 128) (k : Nat) : 0 ≤ sumF (ws.take k) ∧ sumF (ws.take k) ≤ 128 * k := by
  induction k with
  | zero => simp [sumF]
  | succ k ih =>
    by_cases hk : k < ws.length
    · rw [List.take_succ_eq_append_getElem hk, sumF_snoc]
      have := h _ (List.getElem_mem hk)
      omega
    · rw [List.take_of_length_le (by omega)] at ih ⊢
      omega
theorem wf_ret {k : IntKind} {a b : Int} (h : a = b) : Ending.returned (.int k a) = .returned (.int k b) := by rw [h]

set_option maxRecDepth 100000 in
set_option maxHeartbeats 4000000 in
theorem operator_any (n : Nd) (A : Option Addr) (cA : Nat) (ws : List Int) (w : World) (ht : TreesAt w (Lo w.heap.size) n.KA n.kids) (hws : WsAt w A ws) :
    Calls Tryz.prog 139 #[.agg (cNd n).toArray, .slice A ws.length cA] w (RetV (.int .i64 (operF n.kind n.a n.b ws)) w) := by
  obtain ⟨kind, at_, name, value, a, b, c, d, KA, kc, kids⟩ := n
  unfold Nd.KA Nd.kids at ht
  unfold cNd
  have hl := ht.len
  obtain ⟨W0, hW0⟩ : ∃ W0, w.alloc (.cells #[.int .i64 kind, .int .i64 at_, .string name, .string value, .int .i64 a, .int .i64 b, .int .i64 c, .int .i64 d, .slice KA kids.length kc] 24) = W0 := ⟨_, rfl⟩
  have g0 := new_at hW0
  have hb0 : Below w.heap.size w W0 := by rw [← hW0]; exact (Below.refl _ _).alloc (Nat.le_refl _) _
  have HT := hide (ht.grow hb0)
  have HG0 := hide g0
  have HB0 := hide hb0
  have HW0 := hide hW0
  obtain ⟨y0, y1, y2, y3, y4, y5, y6, y7, y8⟩ := box9 g0
  clear ht g0 hb0 hW0
  try dsimp only [Nd.kind, Nd.value, Nd.a, Nd.b, Nd.c, Nd.d, Nd.kids]
  obtain ⟨hw1, hw2, hw3⟩ := hws
  have hws0 := hw1.step HB0.out
  have HW3 := hide hw3
  have HW1 := hide hws0
  clear hw1 hw3
  go_enter Tryz.func139, Tryz.ntmps139
  go_upto_region 1 with (fail)
  rw [HW0.out]
  have HQ := hide (show ∀ v : Int, v = operF kind a b ws → RetV (.int .i64 (operF kind a b ws)) w (.returned (.int .i64 v)) W0 from fun v hv => ⟨by rw [hv], HB0.out⟩)
  by_cases k6 : kind = 6
  · subst k6
    by_cases l1 : ws.length = 1
    · obtain ⟨v, rfl⟩ : ∃ v, ws = [v] := by
        match ws, l1 with
        | [v], _ => exact ⟨v, rfl⟩
      obtain ⟨bA, oA, rfl, hbA, x0⟩ := HW1.out.at_ (k := 0) (by simp)
      simp only [List.getElem_cons_zero, Nat.add_zero] at x0
      have hv := HW3.out v (by simp)
      clear l1
      by_cases c1 : 0 ≤ b
      · have T1 : decide (0 ≤ b) = true := decide_eq_true c1
        by_cases c2 : b ≤ a
        · have T2 : decide (b ≤ a) = true := decide_eq_true c2
          by_cases c3 : a < v
          · have T3 : decide (a < v) = true := decide_eq_true c3
            have HR := hide (HQ.out (a - b + 1) (by unfold operF; simp [c1, c2, c3]))
            go_quiet (fail)
            go_wp2_with fail
            go_ret
            exact ⟨HR.out.1, below_drewN HR.out.2 _⟩
          · have T3 : decide (a < v) = false := decide_eq_false c3
            have HR := hide (HQ.out 0 (by unfold operF; simp [c3]))
            go_quiet (fail)
            go_wp2_with fail
            go_quiet (fail)
            go_wp2_with fail
            go_ret
            exact ⟨HR.out.1, by first | exact below_drewN (below_drewN HR.out.2 _) _ | exact below_drewN HR.out.2 _⟩
        · have T2 : decide (b ≤ a) = false := decide_eq_false c2
          have HR := hide (HQ.out 0 (by unfold operF; simp [c2]))
          go_quiet (fail)
          go_wp2_with fail
          go_quiet (fail)
          go_wp2_with fail
          go_ret
          exact ⟨HR.out.1, by first | exact below_drewN (below_drewN HR.out.2 _) _ | exact below_drewN HR.out.2 _⟩
      · have T1 : decide (0 ≤ b) = false := decide_eq_false c1
        have HR := hide (HQ.out 0 (by unfold operF; simp [c1]))
        go_quiet (fail)
        go_wp2_with fail
        go_quiet (fail)
        go_wp2_with fail
        go_ret
        exact ⟨HR.out.1, by first | exact below_drewN (below_drewN HR.out.2 _) _ | exact below_drewN HR.out.2 _⟩
    · have T0 : ((ws.length : Int) == 1) = false := beq_eq_false_iff_ne.2 (by omega)
      have HR := hide (HQ.out 0 (by unfold operF; rw [if_pos rfl]; match ws, l1 with | [], _ => rfl | [v], h => exact absurd rfl h | _ :: _ :: _, _ => rfl))
      clear l1
      go_quiet (fail)
      go_wp2_with fail
      go_quiet (fail)
      go_wp2_with fail
      go_ret
      exact ⟨HR.out.1, by first | exact below_drewN (below_drewN HR.out.2 _) _ | exact below_drewN HR.out.2 _⟩
  have T6 : (kind == 6) = false := beq_eq_false_iff_ne.2 k6
  by_cases k7 : kind = 7
  · subst k7
    go_quiet (fail)
    obtain ⟨V, hV⟩ : ∃ V, W0.drewN nq = V := ⟨_, rfl⟩
    rw [hV]
    have HBV := hide (show Below w.heap.size w V from by rw [← hV]; exact below_drewN HB0.out _)
    have hW1 : IntsAt V W0.heap.size A ws := by rw [← hV]; exact HW1.out
    have HWV := hide hW1
    have z0 : V.cell? ⟨w.heap.size, 0, none⟩ = some (.int .i64 7) := by rw [← hV]; exact y0
    clear hV hW1 HW1 HQ y0 y1 y2 y3 y4 y5 y6 y7 y8 k6
    go_wp2_with fail
    go_loop [5, 49] (fun s i => SumRel ws V s i V) (fun _ i => ws.length - (intOf i).toNat)
    case atStart => exact ⟨0, Nat.zero_le _, rfl, by simp [sumF], rfl⟩
    case round =>
      obtain ⟨k, hk, rfl, rfl, _⟩ := hrel
      have hb := sum_bound HW3.out k
      by_cases hlt : k < ws.length
      · obtain ⟨bA, oA, rfl, hbA, x0⟩ := HWV.out.at_ hlt
        have hv := HW3.out _ (List.getElem_mem hlt)
        have HS := hide (show sumF (ws.take (k + 1)) = sumF (ws.take k) + ws[k] from by rw [List.take_succ_eq_append_getElem hlt, sumF_snoc])
        generalize ws[k] = u at *
        generalize sumF (ws.take k) = s at *
        go_wp2_with fail
        go_round
        case rel => exact ⟨k + 1, hlt, by go_num, by rw [HS.out], rfl⟩
        case measure => simp [intOf]; omega
      · have hke : k = ws.length := by omega
        have HS := hide (show sumF (ws.take k) = sumF ws from by rw [hke, List.take_length])
        clear hke
        rw [HS.out] at hb ⊢
        by_cases c1 : sumF ws ≤ 128
        · have T1 : decide (sumF ws ≤ 128) = true := decide_eq_true c1
          have HR := hide (show RetV (.int .i64 (operF 7 a b ws)) w (.returned (.int .i64 (sumF ws))) V from ⟨by unfold operF; simp [c1], HBV.out⟩)
          clear c1
          go_wp2_with fail
          go_ret
          exact HR.out
        · have T1 : decide (sumF ws ≤ 128) = false := decide_eq_false c1
          have HR := hide (show RetV (.int .i64 (operF 7 a b ws)) w (.returned (.int .i64 0)) V from ⟨by unfold operF; simp [c1], HBV.out⟩)
          clear c1
          go_wp2_with fail
          go_ret
          exact HR.out
  have T7 : (kind == 7) = false := beq_eq_false_iff_ne.2 k7
  by_cases k8 : kind = 8
  · subst k8
    by_cases l1 : ws.length = 1
    · obtain ⟨v, rfl⟩ : ∃ v, ws = [v] := by
        match ws, l1 with
        | [v], _ => exact ⟨v, rfl⟩
      obtain ⟨bA, oA, rfl, hbA, x0⟩ := HW1.out.at_ (k := 0) (by simp)
      simp only [List.getElem_cons_zero, Nat.add_zero] at x0
      have HR := hide (HQ.out v (by unfold operF; simp))
      clear l1
      go_quiet (fail)
      go_wp2_with fail
      go_ret
      exact ⟨HR.out.1, below_drewN HR.out.2 _⟩
    · have T0 : ((ws.length : Int) == 1) = false := beq_eq_false_iff_ne.2 (by omega)
      have HR := hide (HQ.out 0 (by unfold operF; rw [if_neg (by omega), if_neg (by omega), if_pos rfl]; match ws, l1 with | [], _ => rfl | [v], h => exact absurd rfl h | _ :: _ :: _, _ => rfl))
      clear l1
      go_quiet (fail)
      go_wp2_with fail
      go_quiet (fail)
      go_wp2_with fail
      go_ret
      exact ⟨HR.out.1, by first | exact below_drewN (below_drewN HR.out.2 _) _ | exact below_drewN HR.out.2 _⟩
  have T8 : (kind == 8) = false := beq_eq_false_iff_ne.2 k8
  by_cases kR : 14 ≤ kind ∧ kind ≤ 16
  · have T1 : decide (14 ≤ kind) = true := decide_eq_true kR.1
    have T2 : decide (kind ≤ 16) = true := decide_eq_true kR.2
    have T3 : decide (9 ≤ kind) = true := decide_eq_true (by omega)
    have T4 : decide (kind ≤ 13) = false := decide_eq_false (by omega)
    by_cases l1 : ws.length = 1
    · obtain ⟨v, rfl⟩ : ∃ v, ws = [v] := by
        match ws, l1 with
        | [v], _ => exact ⟨v, rfl⟩
      have HR := hide (HQ.out 1 (by unfold operF; rw [if_neg k6, if_neg k7, if_neg k8, if_pos kR]))
      clear l1 kR k6 k7 k8
      go_quiet (fail)
      go_wp2_with fail
      go_ret
      exact ⟨HR.out.1, below_drewN HR.out.2 _⟩
    · have T0 : ((ws.length : Int) == 1) = false := beq_eq_false_iff_ne.2 (by omega)
      have HR := hide (HQ.out 0 (by unfold operF; rw [if_neg k6, if_neg k7, if_neg k8, if_pos kR]; match ws, l1 with | [], _ => rfl | [v], h => exact absurd rfl h | _ :: _ :: _, _ => rfl))
      clear l1 kR k6 k7 k8
      go_quiet (fail)
      go_wp2_with fail
      go_quiet (fail)
      go_wp2_with fail
      go_ret
      exact ⟨HR.out.1, by first | exact below_drewN (below_drewN HR.out.2 _) _ | exact below_drewN HR.out.2 _⟩
  by_cases kB : 9 ≤ kind ∧ kind ≤ 13
  · have T1 : decide (14 ≤ kind) = false := decide_eq_false (by omega)
    have T3 : decide (9 ≤ kind) = true := decide_eq_true kB.1
    have T4 : decide (kind ≤ 13) = true := decide_eq_true kB.2
    by_cases l1 : ws.length = 2
    · obtain ⟨v, u, rfl⟩ : ∃ v u, ws = [v, u] := by
        match ws, l1 with
        | [v, u], _ => exact ⟨v, u, rfl⟩
      obtain ⟨bA, oA, rfl, hbA, x0⟩ := HW1.out.at_ (k := 0) (by simp)
      obtain ⟨_, _, e, _, x1⟩ := HW1.out.at_ (k := 1) (by simp)
      injection e with e
      injection e with e1 e2
      subst e1 e2
      simp only [List.getElem_cons_zero, List.getElem_cons_succ, Nat.add_zero] at x0 x1
      by_cases c1 : v = u
      · have T5 : (v == u) = true := beq_iff_eq.2 c1
        have HR := hide (HQ.out v (by unfold operF; rw [if_neg k6, if_neg k7, if_neg k8, if_neg kR, if_pos kB]; simp [c1]))
        clear l1 kR kB k6 k7 k8 c1
        go_quiet (fail)
        go_wp2_with fail
        go_quiet (fail)
        go_wp2_with fail
        go_ret
        exact ⟨HR.out.1, by first | exact below_drewN (below_drewN HR.out.2 _) _ | exact below_drewN HR.out.2 _⟩
      · have T5 : (v == u) = false := beq_eq_false_iff_ne.2 c1
        have HR := hide (HQ.out 0 (by unfold operF; rw [if_neg k6, if_neg k7, if_neg k8, if_neg kR, if_pos kB]; simp [c1]))
        clear l1 kR kB k6 k7 k8 c1
        go_quiet (fail)
        go_wp2_with fail
        go_quiet (fail)
        go_wp2_with fail
        go_ret
        exact ⟨HR.out.1, by first | exact below_drewN (below_drewN HR.out.2 _) _ | exact below_drewN HR.out.2 _⟩
    · have T0 : ((ws.length : Int) == 2) = false := beq_eq_false_iff_ne.2 (by omega)
      have HR := hide (HQ.out 0 (by unfold operF; rw [if_neg k6, if_neg k7, if_neg k8, if_neg kR, if_pos kB]; match ws, l1 with | [], _ => rfl | [v], _ => rfl | [_, _], h => exact absurd rfl h | _ :: _ :: _ :: _, _ => rfl))
      clear l1 kR kB k6 k7 k8
      go_quiet (fail)
      go_wp2_with fail
      go_quiet (fail)
      go_wp2_with fail
      go_ret
      exact ⟨HR.out.1, by first | exact below_drewN (below_drewN HR.out.2 _) _ | exact below_drewN HR.out.2 _⟩
  have HR := hide (HQ.out 0 (by unfold operF; rw [if_neg k6, if_neg k7, if_neg k8, if_neg kR, if_neg kB]))
  by_cases k9 : kind < 9
  · have T1 : decide (14 ≤ kind) = false := decide_eq_false (by omega)
    have T3 : decide (9 ≤ kind) = false := decide_eq_false (by omega)
    clear kR kB k6 k7 k8 k9
    go_quiet (fail)
    go_wp2_with fail
    go_quiet (fail)
    go_wp2_with fail
    go_ret
    exact ⟨HR.out.1, by first | exact below_drewN (below_drewN HR.out.2 _) _ | exact below_drewN HR.out.2 _⟩
  · have T1 : decide (14 ≤ kind) = true := decide_eq_true (by omega)
    have T2 : decide (kind ≤ 16) = false := decide_eq_false (by omega)
    have T3 : decide (9 ≤ kind) = true := decide_eq_true (by omega)
    have T4 : decide (kind ≤ 13) = false := decide_eq_false (by omega)
    clear kR kB k6 k7 k8 k9
    go_quiet (fail)
    go_wp2_with fail
    go_quiet (fail)
    go_wp2_with fail
    go_ret
    exact ⟨HR.out.1, by first | exact below_drewN (below_drewN HR.out.2 _) _ | exact below_drewN HR.out.2 _⟩

end Go.Proofs.YtgobkbjkndfliaaGreatDoor
