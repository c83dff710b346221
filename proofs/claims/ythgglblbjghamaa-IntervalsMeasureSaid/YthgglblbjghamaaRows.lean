/-
  No cell of these rows narrows 'for every input' (looked for: loops, veiled, ifaces, maps, wideKeys, modest, calm, conditions, laid).
  DERIVED. THE GIVEN ROWS OF THIS SEAT. 8 by the template 'for every input the law returns true; each argument reads behind the call as it read before'; 0 by the template 'total and deterministic' (their statements: YthgglblbjghamaaTotals.lean).
  GIVEN WITH THE SEED: the statements are not yours to turn. If you find one false, say at which input.
  Laid BY PROGRAM, IN A SANDBOX (cutbox-rows.mjs): the forced cells as the released guide's own fill.sh prints them over the translation a2f69e7efdb79511… (all of the seat's roots in one cut). By AI agents, Wed Nov 11 2026. No macro, syntax, notation, axiom, sorry.
-/
import Derived.Test.YthgglblbjghamaaChecked
import GoSem.Claim
import GoSem.ClaimJoined
import GoSem.ClaimMapViews
import Derived.JoinedTies
import Derived.KernelRfl
namespace Go.Proofs.Ythgglblbjghamaa
/- THE CELL 'sum', in the pinned program and in every row, IS THE sha256 OF THE DUMP (.gsa) THAT YthgglblbjghamaaProg.lean LOADS. Nothing in Lean hashes anything: it is a label: what it is worth is what the hold of that sum in a sandbox is worth. -/
noncomputable def Try.pinned : Pinned := { name := "ythgglblbjghamaa", sum := "a2f69e7efdb7951112ab38e942fa70c36c662abae6c4175e54bf102467a3db26", checked := Try.checked }
namespace Rows
def none {H : Type} : Left H := { results := [], args := [] }

/-- 'wavestorelaw46.IntervalsDual': WHATEVER THE INPUT: true; the input reads as it did. -/
def intervalsDualSpec : ChangeSpec := { name := "intervalsDual", fn := fun _ => fun
  | [d1, d2, d3, d4, d5, d6, d7] => { results := [.lit (.bool true)], args := [d1, d2, d3, d4, d5, d6, d7] }
  | _ => none }
def intervalsDualRow : OpenClaim := { program := "ythgglblbjghamaa", sum := "a2f69e7efdb7951112ab38e942fa70c36c662abae6c4175e54bf102467a3db26", func := "wavestore/wavestorelaw46.IntervalsDual", spec := "intervalsDual", inPlace := ["internal/reflectlite.ValueOf", "internal/reflectlite.Swapper", "(internal/reflectlite.Value).Len"], unfollowed := true, recurses := true, apart := false }
def IntervalsDualSaid : Prop := intervalsDualRow.holds Try.pinned (OpenSpec.ofChange intervalsDualSpec)

/-- ITS FALSE NEIGHBOUR: 'it returns false'. Refute it at one input. -/
def intervalsDualWrong : ChangeSpec := { name := "intervalsDual", fn := fun _ => fun
  | [d1, d2, d3, d4, d5, d6, d7] => { results := [.lit (.bool false)], args := [d1, d2, d3, d4, d5, d6, d7] }
  | _ => none }
def IntervalsDualWrongFalsely : Prop := intervalsDualRow.holds Try.pinned (OpenSpec.ofChange intervalsDualWrong)

/-- 'wavestorelaw46.IntervalsCombine': WHATEVER THE INPUT: true; the input reads as it did. -/
def intervalsCombineSpec : ChangeSpec := { name := "intervalsCombine", fn := fun _ => fun
  | [d1, d2, d3, d4] => { results := [.lit (.bool true)], args := [d1, d2, d3, d4] }
  | _ => none }
def intervalsCombineRow : OpenClaim := { program := "ythgglblbjghamaa", sum := "a2f69e7efdb7951112ab38e942fa70c36c662abae6c4175e54bf102467a3db26", func := "wavestore/wavestorelaw46.IntervalsCombine", spec := "intervalsCombine", inPlace := ["internal/reflectlite.ValueOf", "internal/reflectlite.Swapper", "(internal/reflectlite.Value).Len"], unfollowed := true, recurses := true, apart := false }
def IntervalsCombineSaid : Prop := intervalsCombineRow.holds Try.pinned (OpenSpec.ofChange intervalsCombineSpec)

/-- ITS FALSE NEIGHBOUR: 'it returns false'. Refute it at one input. -/
def intervalsCombineWrong : ChangeSpec := { name := "intervalsCombine", fn := fun _ => fun
  | [d1, d2, d3, d4] => { results := [.lit (.bool false)], args := [d1, d2, d3, d4] }
  | _ => none }
def IntervalsCombineWrongFalsely : Prop := intervalsCombineRow.holds Try.pinned (OpenSpec.ofChange intervalsCombineWrong)

/-- 'wavestorelaw46.IntervalsMove': WHATEVER THE INPUT: true; the input reads as it did. -/
def intervalsMoveSpec : ChangeSpec := { name := "intervalsMove", fn := fun _ => fun
  | [d1, d2, d3, d4, d5, d6] => { results := [.lit (.bool true)], args := [d1, d2, d3, d4, d5, d6] }
  | _ => none }
def intervalsMoveRow : OpenClaim := { program := "ythgglblbjghamaa", sum := "a2f69e7efdb7951112ab38e942fa70c36c662abae6c4175e54bf102467a3db26", func := "wavestore/wavestorelaw46.IntervalsMove", spec := "intervalsMove", inPlace := ["internal/reflectlite.ValueOf", "internal/reflectlite.Swapper", "(internal/reflectlite.Value).Len"], unfollowed := true, recurses := true, apart := false }
def IntervalsMoveSaid : Prop := intervalsMoveRow.holds Try.pinned (OpenSpec.ofChange intervalsMoveSpec)

/-- ITS FALSE NEIGHBOUR: 'it returns false'. Refute it at one input. -/
def intervalsMoveWrong : ChangeSpec := { name := "intervalsMove", fn := fun _ => fun
  | [d1, d2, d3, d4, d5, d6] => { results := [.lit (.bool false)], args := [d1, d2, d3, d4, d5, d6] }
  | _ => none }
def IntervalsMoveWrongFalsely : Prop := intervalsMoveRow.holds Try.pinned (OpenSpec.ofChange intervalsMoveWrong)

/-- 'wavestorelaw46.IntervalsPointwise': WHATEVER THE INPUT: true; the input reads as it did. -/
def intervalsPointwiseSpec : ChangeSpec := { name := "intervalsPointwise", fn := fun _ => fun
  | [d1, d2, d3, d4, d5, d6] => { results := [.lit (.bool true)], args := [d1, d2, d3, d4, d5, d6] }
  | _ => none }
def intervalsPointwiseRow : OpenClaim := { program := "ythgglblbjghamaa", sum := "a2f69e7efdb7951112ab38e942fa70c36c662abae6c4175e54bf102467a3db26", func := "wavestore/wavestorelaw46.IntervalsPointwise", spec := "intervalsPointwise", inPlace := ["internal/reflectlite.ValueOf", "internal/reflectlite.Swapper", "(internal/reflectlite.Value).Len"], unfollowed := true, recurses := true, apart := false }
def IntervalsPointwiseSaid : Prop := intervalsPointwiseRow.holds Try.pinned (OpenSpec.ofChange intervalsPointwiseSpec)

/-- ITS FALSE NEIGHBOUR: 'it returns false'. Refute it at one input. -/
def intervalsPointwiseWrong : ChangeSpec := { name := "intervalsPointwise", fn := fun _ => fun
  | [d1, d2, d3, d4, d5, d6] => { results := [.lit (.bool false)], args := [d1, d2, d3, d4, d5, d6] }
  | _ => none }
def IntervalsPointwiseWrongFalsely : Prop := intervalsPointwiseRow.holds Try.pinned (OpenSpec.ofChange intervalsPointwiseWrong)

/-- 'wavestorelaw46.IntervalsAlgebra': WHATEVER THE INPUT: true; the input reads as it did. -/
def intervalsAlgebraSpec : ChangeSpec := { name := "intervalsAlgebra", fn := fun _ => fun
  | [d1, d2, d3, d4, d5] => { results := [.lit (.bool true)], args := [d1, d2, d3, d4, d5] }
  | _ => none }
def intervalsAlgebraRow : OpenClaim := { program := "ythgglblbjghamaa", sum := "a2f69e7efdb7951112ab38e942fa70c36c662abae6c4175e54bf102467a3db26", func := "wavestore/wavestorelaw46.IntervalsAlgebra", spec := "intervalsAlgebra", inPlace := ["internal/reflectlite.ValueOf", "internal/reflectlite.Swapper", "(internal/reflectlite.Value).Len"], unfollowed := true, recurses := true, apart := false }
def IntervalsAlgebraSaid : Prop := intervalsAlgebraRow.holds Try.pinned (OpenSpec.ofChange intervalsAlgebraSpec)

/-- ITS FALSE NEIGHBOUR: 'it returns false'. Refute it at one input. -/
def intervalsAlgebraWrong : ChangeSpec := { name := "intervalsAlgebra", fn := fun _ => fun
  | [d1, d2, d3, d4, d5] => { results := [.lit (.bool false)], args := [d1, d2, d3, d4, d5] }
  | _ => none }
def IntervalsAlgebraWrongFalsely : Prop := intervalsAlgebraRow.holds Try.pinned (OpenSpec.ofChange intervalsAlgebraWrong)

/-- 'wavestorelaw46.IntervalsNormal': WHATEVER THE INPUT: true; the input reads as it did. -/
def intervalsNormalSpec : ChangeSpec := { name := "intervalsNormal", fn := fun _ => fun
  | [d1, d2, d3] => { results := [.lit (.bool true)], args := [d1, d2, d3] }
  | _ => none }
def intervalsNormalRow : OpenClaim := { program := "ythgglblbjghamaa", sum := "a2f69e7efdb7951112ab38e942fa70c36c662abae6c4175e54bf102467a3db26", func := "wavestore/wavestorelaw46.IntervalsNormal", spec := "intervalsNormal", inPlace := ["internal/reflectlite.ValueOf", "internal/reflectlite.Swapper", "(internal/reflectlite.Value).Len"], unfollowed := true, recurses := true, apart := false }
def IntervalsNormalSaid : Prop := intervalsNormalRow.holds Try.pinned (OpenSpec.ofChange intervalsNormalSpec)

/-- ITS FALSE NEIGHBOUR: 'it returns false'. Refute it at one input. -/
def intervalsNormalWrong : ChangeSpec := { name := "intervalsNormal", fn := fun _ => fun
  | [d1, d2, d3] => { results := [.lit (.bool false)], args := [d1, d2, d3] }
  | _ => none }
def IntervalsNormalWrongFalsely : Prop := intervalsNormalRow.holds Try.pinned (OpenSpec.ofChange intervalsNormalWrong)

/-- 'wavestorelaw46.IntervalsSearch': WHATEVER THE INPUT: true; the input reads as it did. -/
def intervalsSearchSpec : ChangeSpec := { name := "intervalsSearch", fn := fun _ => fun
  | [d1, d2, d3] => { results := [.lit (.bool true)], args := [d1, d2, d3] }
  | _ => none }
def intervalsSearchRow : OpenClaim := { program := "ythgglblbjghamaa", sum := "a2f69e7efdb7951112ab38e942fa70c36c662abae6c4175e54bf102467a3db26", func := "wavestore/wavestorelaw46.IntervalsSearch", spec := "intervalsSearch", inPlace := ["internal/reflectlite.ValueOf", "internal/reflectlite.Swapper", "(internal/reflectlite.Value).Len"], unfollowed := true, recurses := true, apart := false }
def IntervalsSearchSaid : Prop := intervalsSearchRow.holds Try.pinned (OpenSpec.ofChange intervalsSearchSpec)

/-- ITS FALSE NEIGHBOUR: 'it returns false'. Refute it at one input. -/
def intervalsSearchWrong : ChangeSpec := { name := "intervalsSearch", fn := fun _ => fun
  | [d1, d2, d3] => { results := [.lit (.bool false)], args := [d1, d2, d3] }
  | _ => none }
def IntervalsSearchWrongFalsely : Prop := intervalsSearchRow.holds Try.pinned (OpenSpec.ofChange intervalsSearchWrong)

/-- 'wavestorelaw46.IntervalsMeasure': WHATEVER THE INPUT: true; the input reads as it did. -/
def intervalsMeasureSpec : ChangeSpec := { name := "intervalsMeasure", fn := fun _ => fun
  | [d1, d2, d3] => { results := [.lit (.bool true)], args := [d1, d2, d3] }
  | _ => none }
def intervalsMeasureRow : OpenClaim := { program := "ythgglblbjghamaa", sum := "a2f69e7efdb7951112ab38e942fa70c36c662abae6c4175e54bf102467a3db26", func := "wavestore/wavestorelaw46.IntervalsMeasure", spec := "intervalsMeasure", inPlace := ["internal/reflectlite.ValueOf", "internal/reflectlite.Swapper", "(internal/reflectlite.Value).Len"], unfollowed := true, recurses := true, apart := false }
def IntervalsMeasureSaid : Prop := intervalsMeasureRow.holds Try.pinned (OpenSpec.ofChange intervalsMeasureSpec)

/-- ITS FALSE NEIGHBOUR: 'it returns false'. Refute it at one input. -/
def intervalsMeasureWrong : ChangeSpec := { name := "intervalsMeasure", fn := fun _ => fun
  | [d1, d2, d3] => { results := [.lit (.bool false)], args := [d1, d2, d3] }
  | _ => none }
def IntervalsMeasureWrongFalsely : Prop := intervalsMeasureRow.holds Try.pinned (OpenSpec.ofChange intervalsMeasureWrong)

/- THE SECOND FORM. 'bulk': how many values and letters a reading holds, each counted each time it is reached (what is shared counts as often as it is met; a slice's spare places count too). A statement '..UptoSaid' is the law's where the arguments, and the package variables that the reading takes, are together of bulk at most 1048576: NARROWER than '..Said'. Prove '..Said' where nothing that the law and all that it calls make is longer than what came in: it says more and counts as full. Else prove '..UptoSaid'. A law counts once. -/
mutual
def uptoBulk {H : Type} : DataW H → Nat
  | .lit (.string bytes) => bytes.length + 1
  | .lit _ => 1
  | .nil => 1
  | .ptr d => uptoBulk d + 1
  | .slice elems spare => uptoBulkAll elems + uptoBulkAll spare + 1
  | .agg parts => uptoBulkAll parts + 1
  | .iface _ d => uptoBulk d + 1
  | .map entries => uptoBulkEntries entries + 1
  | .held _ => 1
def uptoBulkAll {H : Type} : List (DataW H) → Nat
  | [] => 0
  | d :: r => uptoBulk d + uptoBulkAll r
def uptoBulkEntries {H : Type} : List (Lit × DataW H) → Nat
  | [] => 0
  | x :: r => uptoBulkEntry x + uptoBulkEntries r
def uptoBulkEntry {H : Type} : Lit × DataW H → Nat
  | (.string bytes, d) => bytes.length + uptoBulk d + 1
  | (_, d) => uptoBulk d + 1
 end
def uptoSmall : (H : Type) → List (DataW H) → Bool := fun _ ds => decide (uptoBulkAll ds ≤ 1048576)
def OpenSpec.upto (s : _root_.Go.ChangeSpec) : _root_.Go.OpenSpec := { _root_.Go.OpenSpec.ofChange s with cond := some uptoSmall }

/-- 'wavestorelaw46.IntervalsDual', WHERE WHAT IT READS IS OF BULK AT MOST 1048576: true; the input reads as it did. -/
def intervalsDualUptoRow : OpenClaim := { program := "ythgglblbjghamaa", sum := "a2f69e7efdb7951112ab38e942fa70c36c662abae6c4175e54bf102467a3db26", func := "wavestore/wavestorelaw46.IntervalsDual", spec := "intervalsDual", inPlace := ["internal/reflectlite.ValueOf", "internal/reflectlite.Swapper", "(internal/reflectlite.Value).Len"], unfollowed := true, recurses := true, apart := false, narrowed := true }
def IntervalsDualUptoSaid : Prop := intervalsDualUptoRow.holds Try.pinned (OpenSpec.upto intervalsDualSpec)

/-- 'wavestorelaw46.IntervalsCombine', WHERE WHAT IT READS IS OF BULK AT MOST 1048576: true; the input reads as it did. -/
def intervalsCombineUptoRow : OpenClaim := { program := "ythgglblbjghamaa", sum := "a2f69e7efdb7951112ab38e942fa70c36c662abae6c4175e54bf102467a3db26", func := "wavestore/wavestorelaw46.IntervalsCombine", spec := "intervalsCombine", inPlace := ["internal/reflectlite.ValueOf", "internal/reflectlite.Swapper", "(internal/reflectlite.Value).Len"], unfollowed := true, recurses := true, apart := false, narrowed := true }
def IntervalsCombineUptoSaid : Prop := intervalsCombineUptoRow.holds Try.pinned (OpenSpec.upto intervalsCombineSpec)

/-- 'wavestorelaw46.IntervalsMove', WHERE WHAT IT READS IS OF BULK AT MOST 1048576: true; the input reads as it did. -/
def intervalsMoveUptoRow : OpenClaim := { program := "ythgglblbjghamaa", sum := "a2f69e7efdb7951112ab38e942fa70c36c662abae6c4175e54bf102467a3db26", func := "wavestore/wavestorelaw46.IntervalsMove", spec := "intervalsMove", inPlace := ["internal/reflectlite.ValueOf", "internal/reflectlite.Swapper", "(internal/reflectlite.Value).Len"], unfollowed := true, recurses := true, apart := false, narrowed := true }
def IntervalsMoveUptoSaid : Prop := intervalsMoveUptoRow.holds Try.pinned (OpenSpec.upto intervalsMoveSpec)

/-- 'wavestorelaw46.IntervalsPointwise', WHERE WHAT IT READS IS OF BULK AT MOST 1048576: true; the input reads as it did. -/
def intervalsPointwiseUptoRow : OpenClaim := { program := "ythgglblbjghamaa", sum := "a2f69e7efdb7951112ab38e942fa70c36c662abae6c4175e54bf102467a3db26", func := "wavestore/wavestorelaw46.IntervalsPointwise", spec := "intervalsPointwise", inPlace := ["internal/reflectlite.ValueOf", "internal/reflectlite.Swapper", "(internal/reflectlite.Value).Len"], unfollowed := true, recurses := true, apart := false, narrowed := true }
def IntervalsPointwiseUptoSaid : Prop := intervalsPointwiseUptoRow.holds Try.pinned (OpenSpec.upto intervalsPointwiseSpec)

/-- 'wavestorelaw46.IntervalsAlgebra', WHERE WHAT IT READS IS OF BULK AT MOST 1048576: true; the input reads as it did. -/
def intervalsAlgebraUptoRow : OpenClaim := { program := "ythgglblbjghamaa", sum := "a2f69e7efdb7951112ab38e942fa70c36c662abae6c4175e54bf102467a3db26", func := "wavestore/wavestorelaw46.IntervalsAlgebra", spec := "intervalsAlgebra", inPlace := ["internal/reflectlite.ValueOf", "internal/reflectlite.Swapper", "(internal/reflectlite.Value).Len"], unfollowed := true, recurses := true, apart := false, narrowed := true }
def IntervalsAlgebraUptoSaid : Prop := intervalsAlgebraUptoRow.holds Try.pinned (OpenSpec.upto intervalsAlgebraSpec)

/-- 'wavestorelaw46.IntervalsNormal', WHERE WHAT IT READS IS OF BULK AT MOST 1048576: true; the input reads as it did. -/
def intervalsNormalUptoRow : OpenClaim := { program := "ythgglblbjghamaa", sum := "a2f69e7efdb7951112ab38e942fa70c36c662abae6c4175e54bf102467a3db26", func := "wavestore/wavestorelaw46.IntervalsNormal", spec := "intervalsNormal", inPlace := ["internal/reflectlite.ValueOf", "internal/reflectlite.Swapper", "(internal/reflectlite.Value).Len"], unfollowed := true, recurses := true, apart := false, narrowed := true }
def IntervalsNormalUptoSaid : Prop := intervalsNormalUptoRow.holds Try.pinned (OpenSpec.upto intervalsNormalSpec)

/-- 'wavestorelaw46.IntervalsSearch', WHERE WHAT IT READS IS OF BULK AT MOST 1048576: true; the input reads as it did. -/
def intervalsSearchUptoRow : OpenClaim := { program := "ythgglblbjghamaa", sum := "a2f69e7efdb7951112ab38e942fa70c36c662abae6c4175e54bf102467a3db26", func := "wavestore/wavestorelaw46.IntervalsSearch", spec := "intervalsSearch", inPlace := ["internal/reflectlite.ValueOf", "internal/reflectlite.Swapper", "(internal/reflectlite.Value).Len"], unfollowed := true, recurses := true, apart := false, narrowed := true }
def IntervalsSearchUptoSaid : Prop := intervalsSearchUptoRow.holds Try.pinned (OpenSpec.upto intervalsSearchSpec)

/-- 'wavestorelaw46.IntervalsMeasure', WHERE WHAT IT READS IS OF BULK AT MOST 1048576: true; the input reads as it did. -/
def intervalsMeasureUptoRow : OpenClaim := { program := "ythgglblbjghamaa", sum := "a2f69e7efdb7951112ab38e942fa70c36c662abae6c4175e54bf102467a3db26", func := "wavestore/wavestorelaw46.IntervalsMeasure", spec := "intervalsMeasure", inPlace := ["internal/reflectlite.ValueOf", "internal/reflectlite.Swapper", "(internal/reflectlite.Value).Len"], unfollowed := true, recurses := true, apart := false, narrowed := true }
def IntervalsMeasureUptoSaid : Prop := intervalsMeasureUptoRow.holds Try.pinned (OpenSpec.upto intervalsMeasureSpec)

end Rows
end Go.Proofs.Ythgglblbjghamaa
