/-
  Several texts in one: LiftTab, LiftValues. Each says at its head what it holds.
-/
import Derived.Test.YtdlebcijgdkfjaaGreatDoorCV10
import Derived.Test.YtdlebcijgdkfjaaGreatDoorRows
import Derived.Lib.LaidTab
import Derived.LaidMore
import Derived.Test.YtdlebcijgdkfjaaGreatDoorCV17
import Derived.Test.YtdlebcijgdkfjaaGreatDoorCV19
import Derived.Test.YtdlebcijgdkfjaaGreatDoorCV32

/-
  The table of the powers of ten, out of what the rows list.
-/
namespace Go.Proofs.YtdlebcijgdkfjaaGreatDoor
open Go.RowKit

theorem tab_of_laid {W : World} (h : laidMetH Tryz.prog Rows.conditionComparesRow.laid W) : Tab W := by
  rw [MakeChecks.laidMetH_plain _ _ _ (by kernel_rfl)] at h
  obtain ⟨ps, h0, _⟩ := h
  obtain ⟨_, _, _, _, _, _, _, _, _, _, h1, _⟩ := h0
  obtain ⟨_, _, _, _, _, _, _, _, _, _, h2, _⟩ := h1
  obtain ⟨g', t', cs, fuel, p, q, hg', ht', hvar, hd, _, _⟩ := h2
  have hg : Tryz.prog.globalNamed "internal/strconv.uint64pow10" = some 3 := by kernel_rfl
  have hty : (Tryz.prog.globals[3]?).map (·.type) = some 306 := by kernel_rfl
  obtain rfl := Option.some.inj (hg.symm.trans hg')
  obtain rfl := Option.some.inj (hty.symm.trans ht')
  refine ⟨?_⟩
  unfold Lib.TabIs
  rw [hvar]
  have hd' : DataW.trod (fun _ => ()) Tryz.prog W 0 (fun _ => true) false fuel 306 cs.toList = some (Lib.tabData .u64 Lib.pow10Tab, p) := hd
  have := Lib.cells_of_tab (n := 20) (k := .u64) (e := 230) (by kernel_rfl) (by kernel_rfl) (by kernel_rfl) (by kernel_rfl) hd'
  rw [← this]

end Go.Proofs.YtdlebcijgdkfjaaGreatDoor

/-
  The walk of ConditionValues, in the order in which the lift hands on what it has read.
-/
namespace Go.Proofs.YtdlebcijgdkfjaaGreatDoor
open Go.ChangeShapes Go.WideShapes Go.ChangeAt Go.RowKit Go.Deep

theorem values_walk (v : Wv) (n : Nd) (f t : Int) (W : World) (g : WaveIn W v) (h : TreeIn W n) (_ : I64 f) (_ : I64 t) (_ : Tab W) :
    Calls Tryz.prog 4 #[.agg (cWv v).toArray, .agg (cNd n).toArray, .int .i64 f, .int .i64 t] W (fun e w' => e = .returned (.bool true) ∧ Below W.heap.size W w') := by
  obtain ⟨h1, h2, gs, h3, h4⟩ := g
  exact values_all v gs n f t W h1 h4 h3 h2 h.1 h.2 (rtype_any n)
theorem tab_values {W : World} (h : laidMetH Tryz.prog Rows.conditionValuesRow.laid W) : Tab W := tab_of_laid h

end Go.Proofs.YtdlebcijgdkfjaaGreatDoor
