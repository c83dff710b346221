/-
  Several texts in one: QOper, QWid, QLeaf. Each says at its head what it holds.
-/
import Derived.Test.YtaaplalfggofiaaGreatDoorEC14
import Derived.Test.YtaaplalfggofiaaGreatDoorEC7
import Derived.Deep.DeepCutAuto
import Derived.Deep.QuietTactic
import Derived.BigQuiet
import Derived.IntWalk

/-
  qcheck.operator, isValue: the width of an operator.
-/
namespace Go.Proofs.YtaaplalfggofiaaGreatDoor
open Go.RowKit

def isValB (k : Int) : Bool := decide (1 ≤ k ∧ k ≤ 16)
set_option maxRecDepth 100000 in
set_option maxHeartbeats 1000000 in
theorem isValue_any (n : Nd) (w : World) (ht : TreesAt w (Lo w.heap.size) n.KA n.kids) : Calls Tryz.prog 84 #[.agg (cNd n).toArray] w (RetV (.bool (isValB n.kind)) w) := by
  obtain ⟨kind, at_, name, value, a, b, c, d, KA, kc, kids⟩ := n
  unfold Nd.KA Nd.kids at ht
  unfold cNd
  have hl := ht.len
  obtain ⟨W0, hW0⟩ : ∃ W0, w.alloc (.cells #[.int .i64 kind, .int .i64 at_, .string name, .string value, .int .i64 a, .int .i64 b, .int .i64 c, .int .i64 d, .slice KA kids.length kc] 28) = W0 := ⟨_, rfl⟩
  have g0 := new_at hW0
  have hb0 : Below w.heap.size w W0 := by rw [← hW0]; exact (Below.refl _ _).alloc (Nat.le_refl _) _
  have HT := hide (ht.grow hb0)
  have HG0 := hide g0
  have HB0 := hide hb0
  have HW0 := hide hW0
  obtain ⟨y0, y1, y2, y3, y4, y5, y6, y7, y8⟩ := box9 g0
  clear ht g0 hb0 hW0
  try dsimp only [Nd.kind, Nd.value, Nd.a, Nd.b, Nd.c, Nd.d, Nd.kids]
  go_enter Tryz.func84, Tryz.ntmps84
  go_upto_region 1 with (fail)
  rw [HW0.out]
  by_cases h1 : 1 ≤ kind
  · have T1 : decide (1 ≤ kind) = true := decide_eq_true h1
    by_cases h2 : kind ≤ 16
    · have T2 : decide (kind ≤ 16) = true := decide_eq_true h2
      have HR := hide (show isValB kind = true from decide_eq_true ⟨h1, h2⟩)
      clear h1 h2
      go_wp2_with fail
      go_ret
      exact ⟨by rw [HR.out]; rfl, HB0.out⟩
    · have T2 : decide (kind ≤ 16) = false := decide_eq_false h2
      have HR := hide (show isValB kind = false from decide_eq_false fun h => h2 h.2)
      clear h1 h2
      go_wp2_with fail
      go_ret
      exact ⟨by rw [HR.out]; rfl, HB0.out⟩
  · have T1 : decide (1 ≤ kind) = false := decide_eq_false h1
    have HR := hide (show isValB kind = false from decide_eq_false fun h => h1 h.1)
    clear h1
    go_wp2_with fail
    go_ret
    exact ⟨by rw [HR.out]; rfl, HB0.out⟩

/-- what operator's slice of widths holds -/
def WsAt (w : World) (A : Option Addr) (ws : List Int) : Prop := IntsAt w w.heap.size A ws ∧ ws.length ≤ 140737488355328 ∧ ∀ x ∈ ws, 1 ≤ x ∧ x ≤ 128
def SumRelQ (ws : List Int) (w : World) (s i : Value) (wr : World) : Prop := ∃ k : Nat, k ≤ ws.length ∧ i = .int .i64 (k : Int) ∧ s = .int .i64 (sumF (ws.take k)) ∧ w = wr
theorem sum_bound {ws : List Int} (h : ∀ x ∈ ws, 1 ≤ x ∧ x ≤ 128) (k : Nat) : 0 ≤ sumF (ws.take k) ∧ sumF (ws.take k) ≤ 128 * k := by
  induction k with
  | zero => simp [sumF]
  | succ k ih =>
    by_cases hk : k < ws.length
    · rw [List.take_succ_eq_append_getElem hk, sumF_snoc]
      have := h _ (List.getElem_mem hk)
      omega
    · rw [List.take_of_length_le (by omega)] at ih ⊢
      omega
set_option maxRecDepth 100000 in
set_option maxHeartbeats 4000000 in
theorem operator_any (n : Nd) (A : Option Addr) (cA : Nat) (ws : List Int) (w : World) (ht : TreesAt w (Lo w.heap.size) n.KA n.kids) (hws : WsAt w A ws) :
    Calls Tryz.prog 85 #[.agg (cNd n).toArray, .slice A ws.length cA] w (RetV (.int .i64 (operF n.kind n.a n.b ws)) w) := by
  obtain ⟨kind, at_, name, value, a, b, c, d, KA, kc, kids⟩ := n
  unfold Nd.KA Nd.kids at ht
  unfold cNd
  have hl := ht.len
  obtain ⟨W0, hW0⟩ : ∃ W0, w.alloc (.cells #[.int .i64 kind, .int .i64 at_, .string name, .string value, .int .i64 a, .int .i64 b, .int .i64 c, .int .i64 d, .slice KA kids.length kc] 28) = W0 := ⟨_, rfl⟩
  have g0 := new_at hW0
  have hb0 : Below w.heap.size w W0 := by rw [← hW0]; exact (Below.refl _ _).alloc (Nat.le_refl _) _
  have HT := hide (ht.grow hb0)
  have HG0 := hide g0
  have HB0 := hide hb0
  have HW0 := hide hW0
  obtain ⟨y0, y1, y2, y3, y4, y5, y6, y7, y8⟩ := box9 g0
  clear ht g0 hb0 hW0
  try dsimp only [Nd.kind, Nd.value, Nd.a, Nd.b, Nd.c, Nd.d, Nd.kids]
  obtain ⟨hw1, hw2, hw3⟩ := hws
  have hws0 := hw1.step HB0.out
  have HW3 := hide hw3
  have HW1 := hide hws0
  clear hw1 hw3
  go_enter Tryz.func85, Tryz.ntmps85
  go_upto_region 1 with (fail)
  rw [HW0.out]
  have HQ := hide (show ∀ v : Int, v = operF kind a b ws → RetV (.int .i64 (operF kind a b ws)) w (.returned (.int .i64 v)) W0 from fun v hv => ⟨by rw [hv], HB0.out⟩)
  by_cases k6 : kind = 6
  · subst k6
    by_cases l1 : ws.length = 1
    · obtain ⟨v, rfl⟩ : ∃ v, ws = [v] := by
        match ws, l1 with
        | [v], _ => exact ⟨v, rfl⟩
      obtain ⟨bA, oA, rfl, hbA, x0⟩ := HW1.out.at_ (k := 0) (by simp)
      simp only [List.getElem_cons_zero, Nat.add_zero] at x0
      have hv := HW3.out v (by simp)
      clear l1
      by_cases c1 : 0 ≤ b
      · have T1 : decide (0 ≤ b) = true := decide_eq_true c1
        by_cases c2 : b ≤ a
        · have T2 : decide (b ≤ a) = true := decide_eq_true c2
          by_cases c3 : a < v
          · have T3 : decide (a < v) = true := decide_eq_true c3
            have HR := hide (HQ.out (a - b + 1) (by unfold operF; simp [c1, c2, c3]))
            go_quiet (fail)
            go_wp2_with fail
            go_ret
            exact ⟨HR.out.1, below_drewN HR.out.2 _⟩
          · have T3 : decide (a < v) = false := decide_eq_false c3
            have HR := hide (HQ.out 0 (by unfold operF; simp [c3]))
            go_quiet (fail)
            go_wp2_with fail
            go_quiet (fail)
            go_wp2_with fail
            go_ret
            exact ⟨HR.out.1, by first | exact below_drewN (below_drewN HR.out.2 _) _ | exact below_drewN HR.out.2 _⟩
        · have T2 : decide (b ≤ a) = false := decide_eq_false c2
          have HR := hide (HQ.out 0 (by unfold operF; simp [c2]))
          go_quiet (fail)
          go_wp2_with fail
          go_quiet (fail)
          go_wp2_with fail
          go_ret
          exact ⟨HR.out.1, by first | exact below_drewN (below_drewN HR.out.2 _) _ | exact below_drewN HR.out.2 _⟩
      · have T1 : decide (0 ≤ b) = false := decide_eq_false c1
        have HR := hide (HQ.out 0 (by unfold operF; simp [c1]))
        go_quiet (fail)
        go_wp2_with fail
        go_quiet (fail)
        go_wp2_with fail
        go_ret
        exact ⟨HR.out.1, by first | exact below_drewN (below_drewN HR.out.2 _) _ | exact below_drewN HR.out.2 _⟩
    · have T0 : ((ws.length : Int) == 1) = false := beq_eq_false_iff_ne.2 (by omega)
      have HR := hide (HQ.out 0 (by unfold operF; rw [if_pos rfl]; match ws, l1 with | [], _ => rfl | [v], h => exact absurd rfl h | _ :: _ :: _, _ => rfl))
      clear l1
      go_quiet (fail)
      go_wp2_with fail
      go_quiet (fail)
      go_wp2_with fail
      go_ret
      exact ⟨HR.out.1, by first | exact below_drewN (below_drewN HR.out.2 _) _ | exact below_drewN HR.out.2 _⟩
  have T6 : (kind == 6) = false := beq_eq_false_iff_ne.2 k6
  by_cases k7 : kind = 7
  · subst k7
    go_quiet (fail)
    obtain ⟨V, hV⟩ : ∃ V, W0.drewN nq = V := ⟨_, rfl⟩
    rw [hV]
    have HBV := hide (show Below w.heap.size w V from by rw [← hV]; exact below_drewN HB0.out _)
    have hW1 : IntsAt V W0.heap.size A ws := by rw [← hV]; exact HW1.out
    have HWV := hide hW1
    have z0 : V.cell? ⟨w.heap.size, 0, none⟩ = some (.int .i64 7) := by rw [← hV]; exact y0
    clear hV hW1 HW1 HQ y0 y1 y2 y3 y4 y5 y6 y7 y8 k6
    go_wp2_with fail
    go_loop [5, 49] (fun s i => SumRelQ ws V s i V) (fun _ i => ws.length - (intOf i).toNat)
    case atStart => exact ⟨0, Nat.zero_le _, rfl, by simp [sumF], rfl⟩
    case round =>
      obtain ⟨k, hk, rfl, rfl, _⟩ := hrel
      have hb := sum_bound HW3.out k
      by_cases hlt : k < ws.length
      · obtain ⟨bA, oA, rfl, hbA, x0⟩ := HWV.out.at_ hlt
        have hv := HW3.out _ (List.getElem_mem hlt)
        have HS := hide (show sumF (ws.take (k + 1)) = sumF (ws.take k) + ws[k] from by rw [List.take_succ_eq_append_getElem hlt, sumF_snoc])
        generalize ws[k] = u at *
        generalize sumF (ws.take k) = s at *
        go_wp2_with fail
        go_round
        case rel => exact ⟨k + 1, hlt, by go_num, by rw [HS.out], rfl⟩
        case measure => simp [intOf]; omega
      · have hke : k = ws.length := by omega
        have HS := hide (show sumF (ws.take k) = sumF ws from by rw [hke, List.take_length])
        clear hke
        rw [HS.out] at hb ⊢
        by_cases c1 : sumF ws ≤ 128
        · have T1 : decide (sumF ws ≤ 128) = true := decide_eq_true c1
          have HR := hide (show RetV (.int .i64 (operF 7 a b ws)) w (.returned (.int .i64 (sumF ws))) V from ⟨by unfold operF; simp [c1], HBV.out⟩)
          clear c1
          go_wp2_with fail
          go_ret
          exact HR.out
        · have T1 : decide (sumF ws ≤ 128) = false := decide_eq_false c1
          have HR := hide (show RetV (.int .i64 (operF 7 a b ws)) w (.returned (.int .i64 0)) V from ⟨by unfold operF; simp [c1], HBV.out⟩)
          clear c1
          go_wp2_with fail
          go_ret
          exact HR.out
  have T7 : (kind == 7) = false := beq_eq_false_iff_ne.2 k7
  by_cases k8 : kind = 8
  · subst k8
    by_cases l1 : ws.length = 1
    · obtain ⟨v, rfl⟩ : ∃ v, ws = [v] := by
        match ws, l1 with
        | [v], _ => exact ⟨v, rfl⟩
      obtain ⟨bA, oA, rfl, hbA, x0⟩ := HW1.out.at_ (k := 0) (by simp)
      simp only [List.getElem_cons_zero, Nat.add_zero] at x0
      have HR := hide (HQ.out v (by unfold operF; simp))
      clear l1
      go_quiet (fail)
      go_wp2_with fail
      go_ret
      exact ⟨HR.out.1, below_drewN HR.out.2 _⟩
    · have T0 : ((ws.length : Int) == 1) = false := beq_eq_false_iff_ne.2 (by omega)
      have HR := hide (HQ.out 0 (by unfold operF; rw [if_neg (by omega), if_neg (by omega), if_pos rfl]; match ws, l1 with | [], _ => rfl | [v], h => exact absurd rfl h | _ :: _ :: _, _ => rfl))
      clear l1
      go_quiet (fail)
      go_wp2_with fail
      go_quiet (fail)
      go_wp2_with fail
      go_ret
      exact ⟨HR.out.1, by first | exact below_drewN (below_drewN HR.out.2 _) _ | exact below_drewN HR.out.2 _⟩
  have T8 : (kind == 8) = false := beq_eq_false_iff_ne.2 k8
  by_cases kR : 14 ≤ kind ∧ kind ≤ 16
  · have T1 : decide (14 ≤ kind) = true := decide_eq_true kR.1
    have T2 : decide (kind ≤ 16) = true := decide_eq_true kR.2
    have T3 : decide (9 ≤ kind) = true := decide_eq_true (by omega)
    have T4 : decide (kind ≤ 13) = false := decide_eq_false (by omega)
    by_cases l1 : ws.length = 1
    · obtain ⟨v, rfl⟩ : ∃ v, ws = [v] := by
        match ws, l1 with
        | [v], _ => exact ⟨v, rfl⟩
      have HR := hide (HQ.out 1 (by unfold operF; rw [if_neg k6, if_neg k7, if_neg k8, if_pos kR]))
      clear l1 kR k6 k7 k8
      go_quiet (fail)
      go_wp2_with fail
      go_ret
      exact ⟨HR.out.1, below_drewN HR.out.2 _⟩
    · have T0 : ((ws.length : Int) == 1) = false := beq_eq_false_iff_ne.2 (by omega)
      have HR := hide (HQ.out 0 (by unfold operF; rw [if_neg k6, if_neg k7, if_neg k8, if_pos kR]; match ws, l1 with | [], _ => rfl | [v], h => exact absurd rfl h | _ :: _ :: _, _ => rfl))
      clear l1 kR k6 k7 k8
      go_quiet (fail)
      go_wp2_with fail
      go_quiet (fail)
      go_wp2_with fail
      go_ret
      exact ⟨HR.out.1, by first | exact below_drewN (below_drewN HR.out.2 _) _ | exact below_drewN HR.out.2 _⟩
  by_cases kB : 9 ≤ kind ∧ kind ≤ 13
  · have T1 : decide (14 ≤ kind) = false := decide_eq_false (by omega)
    have T3 : decide (9 ≤ kind) = true := decide_eq_true kB.1
    have T4 : decide (kind ≤ 13) = true := decide_eq_true kB.2
    by_cases l1 : ws.length = 2
    · obtain ⟨v, u, rfl⟩ : ∃ v u, ws = [v, u] := by
        match ws, l1 with
        | [v, u], _ => exact ⟨v, u, rfl⟩
      obtain ⟨bA, oA, rfl, hbA, x0⟩ := HW1.out.at_ (k := 0) (by simp)
      obtain ⟨_, _, e, _, x1⟩ := HW1.out.at_ (k := 1) (by simp)
      injection e with e
      injection e with e1 e2
      subst e1 e2
      simp only [List.getElem_cons_zero, List.getElem_cons_succ, Nat.add_zero] at x0 x1
      by_cases c1 : v = u
      · have T5 : (v == u) = true := beq_iff_eq.2 c1
        have HR := hide (HQ.out v (by unfold operF; rw [if_neg k6, if_neg k7, if_neg k8, if_neg kR, if_pos kB]; simp [c1]))
        clear l1 kR kB k6 k7 k8 c1
        go_quiet (fail)
        go_wp2_with fail
        go_quiet (fail)
        go_wp2_with fail
        go_ret
        exact ⟨HR.out.1, by first | exact below_drewN (below_drewN HR.out.2 _) _ | exact below_drewN HR.out.2 _⟩
      · have T5 : (v == u) = false := beq_eq_false_iff_ne.2 c1
        have HR := hide (HQ.out 0 (by unfold operF; rw [if_neg k6, if_neg k7, if_neg k8, if_neg kR, if_pos kB]; simp [c1]))
        clear l1 kR kB k6 k7 k8 c1
        go_quiet (fail)
        go_wp2_with fail
        go_quiet (fail)
        go_wp2_with fail
        go_ret
        exact ⟨HR.out.1, by first | exact below_drewN (below_drewN HR.out.2 _) _ | exact below_drewN HR.out.2 _⟩
    · have T0 : ((ws.length : Int) == 2) = false := beq_eq_false_iff_ne.2 (by omega)
      have HR := hide (HQ.out 0 (by unfold operF; rw [if_neg k6, if_neg k7, if_neg k8, if_neg kR, if_pos kB]; match ws, l1 with | [], _ => rfl | [v], _ => rfl | [_, _], h => exact absurd rfl h | _ :: _ :: _ :: _, _ => rfl))
      clear l1 kR kB k6 k7 k8
      go_quiet (fail)
      go_wp2_with fail
      go_quiet (fail)
      go_wp2_with fail
      go_ret
      exact ⟨HR.out.1, by first | exact below_drewN (below_drewN HR.out.2 _) _ | exact below_drewN HR.out.2 _⟩
  have HR := hide (HQ.out 0 (by unfold operF; rw [if_neg k6, if_neg k7, if_neg k8, if_neg kR, if_neg kB]))
  by_cases k9 : kind < 9
  · have T1 : decide (14 ≤ kind) = false := decide_eq_false (by omega)
    have T3 : decide (9 ≤ kind) = false := decide_eq_false (by omega)
    clear kR kB k6 k7 k8 k9
    go_quiet (fail)
    go_wp2_with fail
    go_quiet (fail)
    go_wp2_with fail
    go_ret
    exact ⟨HR.out.1, by first | exact below_drewN (below_drewN HR.out.2 _) _ | exact below_drewN HR.out.2 _⟩
  · have T1 : decide (14 ≤ kind) = true := decide_eq_true (by omega)
    have T2 : decide (kind ≤ 16) = false := decide_eq_false (by omega)
    have T3 : decide (9 ≤ kind) = true := decide_eq_true (by omega)
    have T4 : decide (kind ≤ 13) = false := decide_eq_false (by omega)
    clear kR kB k6 k7 k8 k9
    go_quiet (fail)
    go_wp2_with fail
    go_quiet (fail)
    go_wp2_with fail
    go_ret
    exact ⟨HR.out.1, by first | exact below_drewN (below_drewN HR.out.2 _) _ | exact below_drewN HR.out.2 _⟩

end Go.Proofs.YtaaplalfggofiaaGreatDoor

/-
  qcheck.widths: the widths of operands that are values of Bits.
-/
namespace Go.Proofs.YtaaplalfggofiaaGreatDoor
open Go.RowKit

/-- what Type answers -/
def typV (o : Option (Int × Int)) : Value := match o with | none => .tuple #[.int .i64 0, .int .i64 0, .int .i64 7] | some (k, w) => .tuple #[.int .i64 k, .int .i64 w, .int .i64 0]
def TypeC (n : Nd) : Prop := ∀ w : World, TreesAt w (Lo w.heap.size) n.KA n.kids → Calls Tryz.prog 35 #[.agg (cNd n).toArray] w (RetV (typV (typeF n)) w)
/-- what widths answers -/
def WidPost (l : List Nd) (w : World) (e : Ending) (w' : World) : Prop := ∃ (A : Option Addr) (c : Nat) (ws : List Int) (b : Bool), e = .returned (.tuple #[.slice A ws.length c, .bool b]) ∧ Below w.heap.size w w' ∧ IntsAt w' w'.heap.size A ws ∧ (b = true → widthsF (l.map typeF) = some ws) ∧ (b = false → widthsF (l.map typeF) = none)
def WidRel (l : List Nd) (w : World) (v i : Value) (wr : World) : Prop := ∃ (k : Nat) (A : Option Addr) (c : Nat) (ws : List Int), k ≤ l.length ∧ i = .int .i64 (k : Int) ∧ v = .slice A ws.length c ∧ OwnInt wr w.heap.size A c ws ∧ widthsF ((l.take k).map typeF) = some ws ∧ Below w.heap.size w wr
theorem widthsF_snoc (l : List (Option (Int × Int))) (x : Option (Int × Int)) : widthsF (l ++ [x]) = (widthsF l).bind fun ws => match x with | some (0, w) => some (ws ++ [w]) | _ => none := by
  induction l with
  | nil =>
    cases x with
    | none => rfl
    | some p =>
      obtain ⟨k, w⟩ := p
      by_cases hk : k = 0
      · subst hk; rfl
      · simp only [List.nil_append, widthsF, if_neg hk, Option.bind_some]
        split
        · rename_i h; injection h with h; injection h with h; exact absurd h hk
        · rfl
  | cons y l ih =>
    cases y with
    | none => rfl
    | some p =>
      obtain ⟨k, w⟩ := p
      by_cases hk : k = 0
      · subst hk
        rw [List.cons_append, widthsF, if_pos rfl, widthsF, if_pos rfl, ih]
        cases widthsF l with
        | none => rfl
        | some ws =>
          simp only [Option.bind_some, Option.map_some]
          split <;> rfl
      · rw [List.cons_append, widthsF, if_neg hk, widthsF, if_neg hk]; rfl
theorem widthsF_bad {l l' : List (Option (Int × Int))} (h : widthsF l = none) : widthsF (l ++ l') = none := by
  induction l with
  | nil => cases h
  | cons y l ih =>
    cases y with
    | none => rfl
    | some p =>
      obtain ⟨k, w⟩ := p
      by_cases hk : k = 0
      · subst hk
        rw [widthsF, if_pos rfl, Option.map_eq_none_iff] at h
        rw [List.cons_append, widthsF, if_pos rfl, ih h]; rfl
      · rw [List.cons_append, widthsF, if_neg hk]

set_option maxRecDepth 100000 in
set_option maxHeartbeats 4000000 in
theorem widths_any (A : Option Addr) (cA : Nat) (l : List Nd) (w : World) (ht : TreesAt w (Lo w.heap.size) A l) (ih : ∀ n ∈ l, TypeC n) : Calls Tryz.prog 83 #[.slice A l.length cA] w (WidPost l w) := by
  have hl := ht.len
  obtain ⟨kids, hk⟩ : ∃ kids, kids = l := ⟨_, rfl⟩
  subst hk
  have HT := hide ht
  have IH := hide ih
  clear ih ht
  go_enter Tryz.func83, Tryz.ntmps83
  go_wp2_with fail
  go_loopw [4, 12] (fun v i wr => WidRel kids w v i wr) (fun _ i _ => kids.length - (intOf i).toNat)
  case atStart => exact ⟨0, none, 0, [], Nat.zero_le _, rfl, rfl, OwnInt.nil _ _, rfl, Below.refl _ _⟩
  case round =>
    obtain ⟨j, B, c, ws, hj, rfl, rfl, hown, hws, hbr⟩ := hrel
    have hwl : ws.length ≤ j := by
      have := (widthsF_at hws).1
      simp only [List.length_map, List.length_take] at this
      omega
    have HOWN := hide hown
    have HWS := hide hws
    clear hown hws
    by_cases hlt : j < kids.length
    · have hBr := hbr.size
      have HBR := hide hbr
      have HTK := hide (show (kids.take (j + 1)).map typeF = (kids.take j).map typeF ++ [typeF kids[j]] from by rw [List.take_succ_eq_append_getElem hlt, List.map_append]; rfl)
      have HALL := hide (show kids.map typeF = (kids.take (j + 1)).map typeF ++ (kids.drop (j + 1)).map typeF from by rw [← List.map_append, List.take_append_drop])
      have hT := HT.out.grow hbr
      obtain ⟨bk, ok, rfl, hbk, hc⟩ := hT.row.at_ hlt
      have hkid := hT.each _ (List.getElem_mem hlt)
      have hmem := List.getElem_mem hlt
      have hget : kids[j]? = some kids[j] := List.getElem?_eq_getElem hlt
      generalize kids[j] = m at *
      have HMEM := hide hmem
      have HGET := hide hget
      have HKID := hide hkid
      clear hmem hget hkid hT
      obtain ⟨m1, m2, m3, m4, m5, m6, m7, m8, mK, mc, ml⟩ := m
      unfold cNd at hc
      obtain ⟨c0, c1, c2, c3, c4, c5, c6, c7, c8⟩ := nine hc
      clear hc
      obtain ⟨W1, hW1⟩ : ∃ W1, wr.alloc (.cells #[.int .i64 m1, .int .i64 m2, .string m3, .string m4, .int .i64 m5, .int .i64 m6, .int .i64 m7, .int .i64 m8, .slice mK ml.length mc] 28) = W1 := ⟨_, rfl⟩
      have g1 := new_at hW1
      have hb1 : Below wr.heap.size wr W1 := by rw [← hW1]; exact (Below.refl _ _).alloc (Nat.le_refl _) _
      have hty := IH.out _ HMEM.out W1 (HKID.out.grow hb1)
      unfold cNd at hty
      have HTY := hide hty
      have HNX := hide (widthsF_snoc ((kids.take j).map typeF) (typeF (Nd.mk m1 m2 m3 m4 m5 m6 m7 m8 mK mc ml)))
      rw [HWS.out, Option.bind_some] at HNX
      have HBAD := hide (fun (h : widthsF ((kids.take j).map typeF ++ [typeF (Nd.mk m1 m2 m3 m4 m5 m6 m7 m8 mK mc ml)]) = none) => (show widthsF (kids.map typeF) = none from by rw [HALL.out, HTK.out]; exact widthsF_bad h))
      have HB1 := hide (bstep HBR.out hb1)
      have HW1 := hide hW1
      clear hW1 hty
      go_upto_region 5 with (fail)
      rw [HW1.out]
      clear HW1 c0 c1 c2 c3 c4 c5 c6 c7 c8
      obtain ⟨x0, x1, x2, x3, x4, x5, x6, x7, x8⟩ := box9 g1
      clear g1
      cases hty : typeF (Nd.mk m1 m2 m3 m4 m5 m6 m7 m8 mK mc ml) with
      | none =>
        rw [hty] at HTY HBAD
        unfold typV at HTY
        dsimp only at HTY
        have HN := hide (HBAD.out (by rw [widthsF_snoc]; cases widthsF ((kids.take j).map typeF) <;> rfl))
        clear hty HNX HBAD
        go_wp2_with (go_at_call 35; refine HTY.out.mono ?_; rintro e w2 ⟨rfl, hb2⟩; have HB2 := hide hb2; clear hb2)
        go_ret2
        exact ⟨none, 0, [], false, rfl, bstep HB1.out HB2.out, IntsAt.nil, (fun e => by cases e), fun _ => HN.out⟩
      | some p =>
        obtain ⟨k, v⟩ := p
        have hv := typeF_bound _ _ _ hty
        rw [hty] at HTY HBAD HNX HTK
        unfold typV at HTY
        dsimp only at HTY HNX
        by_cases hk0 : k = 0
        · subst hk0
          have HOW2 := hide (fun (w2 : World) (hb2 : Below W1.heap.size W1 w2) => (HOWN.out.below hb1 (Nat.le_refl _)).below hb2 (Nat.le_refl _))
          have hz1 := hb1.size
          have hv' : 1 ≤ v ∧ v ≤ 128 := by omega
          have HSN := hide (show widthsF ((kids.take (j + 1)).map typeF) = some (ws ++ [v]) from by rw [HTK.out]; exact HNX.out)
          clear hv HNX HBAD hb1 hty HOWN
          go_upto_region 8 with (go_at_call 35; refine HTY.out.mono ?_; rintro e w2 ⟨rfl, hb2⟩; have HB2 := hide hb2; clear hb2)
          have hz2 := HB2.out.size
          have HO2 := hide (HOW2.out w2 HB2.out)
          clear HOW2 x0 x1 x2 x3 x4 x5 x6 x7 x8
          go_wp2_with (at_builtin; (refine append_ints rfl _ _ rfl w.heap.size B c ws _ rfl rfl [v] 1 1 _ rfl rfl (by simp) _ _ rfl rfl (by simp) HO2.out (by omega) (by omega) ?_); intro g7 c7 w7 row7 ho7 hg7' hg7 hr7)
          have HB7 := hide (((bstep HB1.out HB2.out).alloc (by omega) _).grown hg7 (by simp; omega) hr7)
          refine ⟨⟨j + 1, some ⟨g7, 0, none⟩, c7, ws ++ [v], hlt, by go_num, by simp, ho7, HSN.out, HB7.out⟩, by simp [intOf]; omega⟩
        · have T1 : (k != 0) = true := by simp [hk0]
          have HN := hide (HBAD.out (by rw [widthsF_snoc]; cases widthsF ((kids.take j).map typeF) with | none => rfl | some ws => (simp only [Option.bind_some]; split; (rename_i h; injection h with h; injection h with h; exact absurd h hk0); rfl)))
          clear hty HNX HBAD hk0 hv
          go_wp2_with (go_at_call 35; refine HTY.out.mono ?_; rintro e w2 ⟨rfl, hb2⟩; have HB2 := hide hb2; clear hb2)
          go_ret2
          exact ⟨none, 0, [], false, rfl, bstep HB1.out HB2.out, IntsAt.nil, (fun e => by cases e), fun _ => HN.out⟩
    · have hke : j = kids.length := by omega
      have HE := hide (show WidPost kids w (.returned (.tuple #[.slice B ws.length c, .bool true])) wr from ⟨B, c, ws, true, rfl, hbr, HOWN.out.ats, fun _ => by have h := HWS.out; rw [hke, List.take_length] at h; exact h, fun e => by cases e⟩)
      clear hke
      go_wp2_with fail
      go_ret2
      exact HE.out

theorem ws_of {l : List Nd} {ws : List Int} (h : widthsF (l.map typeF) = some ws) : (∀ x ∈ ws, 1 ≤ x ∧ x ≤ 128) ∧ ws.length = l.length := by
  obtain ⟨h1, h2⟩ := widthsF_at h
  refine ⟨fun x hx => ?_, by simpa using h1⟩
  obtain ⟨i, hi⟩ := List.getElem?_of_mem hx
  have h3 := h2 i x hi
  rw [List.getElem?_map, Option.map_eq_some_iff] at h3
  obtain ⟨m, _, h4⟩ := h3
  have := typeF_bound _ _ _ h4
  omega

end Go.Proofs.YtaaplalfggofiaaGreatDoor

/-
  qcheck.Type at leaves: signals, bits, reals, strings.
-/
namespace Go.Proofs.YtaaplalfggofiaaGreatDoor
open Go.RowKit

set_option maxRecDepth 100000 in
set_option maxHeartbeats 4000000 in
theorem type_leaf (n : Nd) (hkk : n.kind = 1 ∨ n.kind = 2 ∨ n.kind = 4 ∨ n.kind = 5) : TypeC n := by
  intro w ht
  have HKK := hide hkk
  clear hkk
  obtain ⟨kind, at_, name, value, a, b, c, d, KA, kc, kids⟩ := n
  unfold Nd.KA Nd.kids at ht
  unfold cNd
  have hl := ht.len
  obtain ⟨W0, hW0⟩ : ∃ W0, w.alloc (.cells #[.int .i64 kind, .int .i64 at_, .string name, .string value, .int .i64 a, .int .i64 b, .int .i64 c, .int .i64 d, .slice KA kids.length kc] 28) = W0 := ⟨_, rfl⟩
  have g0 := new_at hW0
  have hb0 : Below w.heap.size w W0 := by rw [← hW0]; exact (Below.refl _ _).alloc (Nat.le_refl _) _
  have HT := hide (ht.grow hb0)
  have HG0 := hide g0
  have HB0 := hide hb0
  have HW0 := hide hW0
  obtain ⟨y0, y1, y2, y3, y4, y5, y6, y7, y8⟩ := box9 g0
  clear ht g0 hb0 hW0
  try dsimp only [Nd.kind, Nd.value, Nd.a, Nd.b, Nd.c, Nd.d, Nd.kids]
  have HQ := hide (show ∀ (o : Option (Int × Int)) (wr : World), typeF (.mk kind at_ name value a b c d KA kc kids) = o → Below W0.heap.size W0 wr → RetV (typV (typeF (.mk kind at_ name value a b c d KA kc kids))) w (.returned (typV o)) wr from fun o wr h hb => ⟨by rw [h], bstep HB0.out hb⟩)
  have HEQ := hide (typeF_mk kind at_ name value a b c d KA kc kids)
  go_enter Tryz.func35, Tryz.ntmps35
  go_upto_region 1 with (fail)
  rw [HW0.out]
  by_cases hleaf : (kind = 1 ∨ kind = 2 ∨ kind = 4 ∨ kind = 5) ∧ kids ≠ []
  · obtain ⟨hk, hne⟩ := hleaf
    have T0 : decide (0 < kids.length) = true := decide_eq_true (List.length_pos_iff.2 hne)
    have hlp : 0 < kids.length := List.length_pos_iff.2 hne
    have HR := hide (HQ.out none W0 (by rw [HEQ.out]; rcases hk with rfl | rfl | rfl | rfl <;> simp [hne]) (Below.refl _ _))
    clear hne HQ HEQ
    rcases hk with rfl | rfl | rfl | rfl
    all_goals
      go_wp2_with fail
      go_ret3
      exact HR.out
  by_cases k1 : kind = 1
  · subst k1
    have hnil : kids = [] := Classical.byContradiction fun h => hleaf ⟨.inl rfl, h⟩
    subst hnil
    clear hleaf
    by_cases c12 : (c = 1 ∨ c = 2) ∧ b = 0
    · obtain ⟨h12, rfl⟩ := c12
      have HR := hide (HQ.out (some (c, 0)) W0 (by rw [HEQ.out]; simp [h12]) (Below.refl _ _))
      clear HQ HEQ
      rcases h12 with rfl | rfl
      all_goals
        go_wp2_with fail
        go_ret3
        exact HR.out
    by_cases c0 : c = 0
    · subst c0
      by_cases b1 : b ≤ 128
      · have T1 : decide (b ≤ 128) = true := decide_eq_true b1
        by_cases b2 : 1 ≤ b
        · have T2 : decide (b < 1) = false := decide_eq_false (by omega)
          have HR := hide (HQ.out (some (0, b)) W0 (by rw [HEQ.out]; simp [b1, b2, widthOk]) (Below.refl _ _))
          clear HQ HEQ b1 b2 c12
          go_wp2_with fail
          go_ret3
          exact HR.out
        · have T2 : decide (b < 1) = true := decide_eq_true (by omega)
          have HR := hide (HQ.out none W0 (by rw [HEQ.out]; simp [b1, b2, widthOk]) (Below.refl _ _))
          clear HQ HEQ b1 b2 c12
          go_wp2_with fail
          go_ret3
          exact HR.out
      · have T1 : decide (b ≤ 128) = false := decide_eq_false b1
        have HR := hide (HQ.out none W0 (by rw [HEQ.out]; simp [b1]) (Below.refl _ _))
        clear HQ HEQ b1 c12
        go_wp2_with fail
        go_ret3
        exact HR.out
    · have HR := hide (HQ.out none W0 (by rw [HEQ.out]; simp [c0]; omega) (Below.refl _ _))
      have T0 : (c == 0) = false := beq_eq_false_iff_ne.2 c0
      clear HQ HEQ
      by_cases c1 : c = 1
      · subst c1
        have T1 : (b == 0) = false := beq_eq_false_iff_ne.2 (by omega)
        clear c12
        go_wp2_with fail
        go_ret3
        exact HR.out
      · by_cases c2 : c = 2
        · subst c2
          have T1 : (b == 0) = false := beq_eq_false_iff_ne.2 (by omega)
          clear c12
          go_wp2_with fail
          go_ret3
          exact HR.out
        · have T1 : (c == 1) = false := beq_eq_false_iff_ne.2 c1
          have T2 : (c == 2) = false := beq_eq_false_iff_ne.2 c2
          clear c12 c0 c1 c2
          go_wp2_with fail
          go_ret3
          exact HR.out
  by_cases k2 : kind = 2
  · subst k2
    have hnil : kids = [] := Classical.byContradiction fun h => hleaf ⟨by omega, h⟩
    subst hnil
    clear hleaf k1
    by_cases b1 : value.size ≤ 128
    · have T1 : decide ((value.size : Int) ≤ 128) = true := decide_eq_true (by omega)
      by_cases b2 : 1 ≤ value.size
      · have T2 : decide ((value.size : Int) < 1) = false := decide_eq_false (by omega)
        have HR := hide (HQ.out (some (0, (value.size : Int))) W0 (by rw [HEQ.out, if_neg (by omega), if_pos rfl, if_neg (by simp), if_pos b1]; unfold widthOk; rw [if_pos (by omega)]) (Below.refl _ _))
        clear HQ HEQ b1 b2
        go_wp2_with fail
        go_ret3
        exact HR.out
      · have T2 : decide ((value.size : Int) < 1) = true := decide_eq_true (by omega)
        have HR := hide (HQ.out none W0 (by rw [HEQ.out, if_neg (by omega), if_pos rfl, if_neg (by simp), if_pos b1]; unfold widthOk; rw [if_neg (by omega)]) (Below.refl _ _))
        clear HQ HEQ b1 b2
        go_wp2_with fail
        go_ret3
        exact HR.out
    · have T1 : decide ((value.size : Int) ≤ 128) = false := decide_eq_false (by omega)
      have HR := hide (HQ.out none W0 (by rw [HEQ.out, if_neg (by omega), if_pos rfl, if_neg (by simp), if_neg b1]) (Below.refl _ _))
      clear HQ HEQ b1
      go_wp2_with fail
      go_ret3
      exact HR.out
  by_cases k4 : kind = 4
  · subst k4
    have hnil : kids = [] := Classical.byContradiction fun h => hleaf ⟨by omega, h⟩
    subst hnil
    clear hleaf k1 k2
    have HR := hide (HQ.out (some (1, 0)) W0 (by rw [HEQ.out]; simp) (Below.refl _ _))
    clear HQ HEQ
    go_wp2_with fail
    go_ret3
    exact HR.out
  by_cases k5 : kind = 5
  · subst k5
    have hnil : kids = [] := Classical.byContradiction fun h => hleaf ⟨by omega, h⟩
    subst hnil
    clear hleaf k1 k2 k4
    have HR := hide (HQ.out (some (2, 0)) W0 (by rw [HEQ.out]; simp) (Below.refl _ _))
    clear HQ HEQ
    go_wp2_with fail
    go_ret3
    exact HR.out
  have h := HKK.out
  dsimp only [Nd.kind] at h
  omega

end Go.Proofs.YtaaplalfggofiaaGreatDoor
