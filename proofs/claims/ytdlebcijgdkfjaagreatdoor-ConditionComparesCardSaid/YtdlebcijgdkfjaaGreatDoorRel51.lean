/-
  condition.relation, wavestoreref51.relation and order.
-/
import Derived.Test.YtdlebcijgdkfjaaGreatDoorRefCmpD
namespace Go.Proofs.YtdlebcijgdkfjaaGreatDoor
open Go.RowKit

/-- whether a relation holds for the result of a comparison -/
def relC (op c : Int) : Bool := if op = 23 then decide (c < 0) else if op = 24 then decide (c ≤ 0) else if op = 25 then decide (0 < c) else decide (0 ≤ c)
theorem rel_rest {op : Int} (h1 : op ≠ 23) (h2 : op ≠ 24) (h3 : op ≠ 25) (c : Int) : relC op c = decide (0 ≤ c) := by unfold relC; rw [if_neg h1, if_neg h2, if_neg h3]
set_option maxRecDepth 100000 in
theorem crel_any (op c : Int) (w : World) : Calls Tryz.prog 36 #[.int .i64 op, .int .i64 c] w fun e w' => e = .returned (.bool (relC op c)) ∧ w = w' := by
  by_cases h1 : op = 23
  · subst h1
    go_enter Tryz.func36, Tryz.ntmps36
    go_wp2_with fail
    go_ret
    exact ⟨rfl, rfl⟩
  · by_cases h2 : op = 24
    · subst h2
      clear h1
      go_enter Tryz.func36, Tryz.ntmps36
      go_wp2_with fail
      go_ret
      exact ⟨rfl, rfl⟩
    · by_cases h3 : op = 25
      · subst h3
        clear h1 h2
        go_enter Tryz.func36, Tryz.ntmps36
        go_wp2_with fail
        go_ret
        exact ⟨rfl, rfl⟩
      · have t1 : (op == 23) = false := beq_eq_false_iff_ne.2 h1
        have t2 : (op == 24) = false := beq_eq_false_iff_ne.2 h2
        have t3 : (op == 25) = false := beq_eq_false_iff_ne.2 h3
        have HR := hide (rel_rest h1 h2 h3 c)
        clear h1 h2 h3
        go_enter Tryz.func36, Tryz.ntmps36
        go_wp2_with fail
        go_ret
        exact ⟨by rw [HR.out]; rfl, rfl⟩
set_option maxRecDepth 100000 in
theorem rrel_any (op c : Int) (w : World) : Calls Tryz.prog 41 #[.int .i64 op, .int .i64 c] w fun e w' => e = .returned (.bool (relC op c)) ∧ w = w' := by
  by_cases h1 : op = 23
  · subst h1
    go_enter Tryz.func41, Tryz.ntmps41
    go_wp2_with fail
    go_ret
    exact ⟨rfl, rfl⟩
  · by_cases h2 : op = 24
    · subst h2
      clear h1
      go_enter Tryz.func41, Tryz.ntmps41
      go_wp2_with fail
      go_ret
      exact ⟨rfl, rfl⟩
    · by_cases h3 : op = 25
      · subst h3
        clear h1 h2
        go_enter Tryz.func41, Tryz.ntmps41
        go_wp2_with fail
        go_ret
        exact ⟨rfl, rfl⟩
      · have t1 : (op == 23) = false := beq_eq_false_iff_ne.2 h1
        have t2 : (op == 24) = false := beq_eq_false_iff_ne.2 h2
        have t3 : (op == 25) = false := beq_eq_false_iff_ne.2 h3
        have HR := hide (rel_rest h1 h2 h3 c)
        clear h1 h2 h3
        go_enter Tryz.func41, Tryz.ntmps41
        go_wp2_with fail
        go_ret
        exact ⟨by rw [HR.out]; rfl, rfl⟩

theorem less_data (a b : ByteArray) : Op.bytesLess a.toList b.toList = decide (lexC a.data.toList b.data.toList = -1) := by
  rw [ByteArray.toList_eq, ByteArray.toList_eq]; exact less_lex _ _
set_option maxRecDepth 100000 in
theorem rorder_any (a b : ByteArray) (w : World) : Calls Tryz.prog 42 #[.string a, .string b] w fun e w' => e = .returned (.int .i64 (lexC a.data.toList b.data.toList)) ∧ w = w' := by
  have t1 := less_data a b
  have he : (a.toList == b.toList) = decide (lexC a.data.toList b.data.toList = 0) := by
    rw [ByteArray.toList_eq, ByteArray.toList_eq]
    by_cases h : a.data.toList = b.data.toList
    · rw [h, lex_refl, beq_self_eq_true]; rfl
    · rw [beq_eq_false_iff_ne.2 h, decide_eq_false (fun e => h (lex_zero _ _ e))]
  have hv := lex_vals a.data.toList b.data.toList
  generalize lexC a.data.toList b.data.toList = c at *
  rcases hv with rfl | rfl | rfl
  · have u1 : Op.bytesLess a.toList b.toList = true := t1.trans (by decide)
    clear t1 he
    go_enter Tryz.func42, Tryz.ntmps42
    go_wp2_with fail
    go_ret
    exact ⟨rfl, rfl⟩
  · have u1 : Op.bytesLess a.toList b.toList = false := t1.trans (by decide)
    have u2 : (a.toList == b.toList) = true := he.trans (by decide)
    clear t1 he
    go_enter Tryz.func42, Tryz.ntmps42
    go_wp2_with fail
    go_ret
    exact ⟨rfl, rfl⟩
  · have u1 : Op.bytesLess a.toList b.toList = false := t1.trans (by decide)
    have u2 : (a.toList == b.toList) = false := he.trans (by decide)
    clear t1 he
    go_enter Tryz.func42, Tryz.ntmps42
    go_wp2_with fail
    go_ret
    exact ⟨rfl, rfl⟩

end Go.Proofs.YtdlebcijgdkfjaaGreatDoor
