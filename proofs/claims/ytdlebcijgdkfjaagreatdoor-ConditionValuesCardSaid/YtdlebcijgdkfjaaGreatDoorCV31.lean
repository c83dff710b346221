/-
  Several texts in one: RSame47. Each says at its head what it holds.
-/
import Derived.Test.YtdlebcijgdkfjaaGreatDoorCV28
import Derived.Test.YtdlebcijgdkfjaaGreatDoorCV7

/-
  wavestoreref47.Same at one list of spans that lies in two places.
-/
namespace Go.Proofs.YtdlebcijgdkfjaaGreatDoor
open Go.RowKit

theorem neq_sp (x : Spn) (w : World) : (binOp .neq 100 (.agg #[.int .i64 x.f, .int .i64 x.t, .string x.v]) (.agg #[.int .i64 x.f, .int .i64 x.t, .string x.v])).run Tryz.prog w = .ok (.bool false) w := by
  have u3 := Tryz.underlying3
  have a3 := Tryz.isAgg3
  have z3 := Tryz.sizeOf3
  have u9 := Tryz.underlying9
  have a9 := Tryz.isAgg9
  have z9 := Tryz.sizeOf9
  have hS : Tryz.prog.underlying 100 = some (.struct (Tryz.prog.fieldsOf 100)) := by kernel_rfl
  have hp : Tryz.prog.stoodInHeld 100 = false := by kernel_rfl
  have he : (Op.equalIn 10000 100 (.agg #[.int .i64 x.f, .int .i64 x.t, .string x.v]) (.agg #[.int .i64 x.f, .int .i64 x.t, .string x.v])).run Tryz.prog w = .ok true w := by
    rw [show (10000 : Nat) = 9999 + 1 from rfl, run_equalIn_agg w 9999 100 _ _ hS hp]
    simp only [Program.fieldsOf, Tryz.underlying100]
    go_simp
  rw [run_neq_struct, he]; rfl
def S47Rel (n : Nat) (w : World) (i : Value) (wr : World) : Prop := ∃ k : Nat, k ≤ n ∧ i = .int .i64 (k : Int) ∧ Below w.heap.size w wr

set_option maxRecDepth 100000 in
set_option maxHeartbeats 2000000 in
theorem rsame47_any (A B : Option Addr) (c d : Nat) (l : List Spn) (w : World) (ha : Row w (Lo w.heap.size) 3 encSp A l) (hb : Row w (Lo w.heap.size) 3 encSp B l) (hl : l.length ≤ 1000000) :
    Calls Tryz.prog 16 #[.slice A l.length c, .slice B l.length d] w fun e w' => e = .returned (.bool true) ∧ Below w.heap.size w w' := by
  have HA := hide ha
  have HB := hide hb
  clear ha hb
  go_enter Tryz.func16, Tryz.ntmps16
  go_wp2_with fail
  go_loopw [5] (fun i wr => S47Rel l.length w i wr) (fun i _ => l.length - (intOf i).toNat)
  case atStart => exact ⟨0, Nat.zero_le _, rfl, Below.refl _ _⟩
  case round =>
    obtain ⟨V, rfl⟩ : ∃ w2 : World, w2 = wr := ⟨_, rfl⟩
    obtain ⟨k, hk, rfl, hbr⟩ := hrel
    have HBR := hide hbr
    by_cases hlt : k < l.length
    · obtain ⟨b, off, rfl, hbb, hc⟩ := (HA.out.grow hbr).at_ hlt
      obtain ⟨b', off', rfl, hbb', hc'⟩ := (HB.out.grow hbr).at_ hlt
      generalize l[k] = x at *
      have n0 := hc 0 (by omega)
      have n1 := hc 1 (by omega)
      have n2 := hc 2 (by omega)
      have m0 := hc' 0 (by omega)
      have m1 := hc' 1 (by omega)
      have m2 := hc' 2 (by omega)
      simp only [encSp, List.getElem?_cons_zero, List.getElem?_cons_succ, Nat.add_zero] at n0 n1 n2 m0 m1 m2
      have hne := neq_sp x
      clear hc hc' hbr
      go_upto_region 6 with (fail)
      go_quiet (fail)
      have HB2 := hide (below_drewN HBR.out nq)
      go_wp2_with fail
      exact ⟨⟨k + 1, hlt, by go_num, HB2.out⟩, by simp [intOf]; omega⟩
    · clear hbr
      go_wp2_with fail
      go_ret
      exact ⟨rfl, HBR.out⟩

end Go.Proofs.YtdlebcijgdkfjaaGreatDoor
