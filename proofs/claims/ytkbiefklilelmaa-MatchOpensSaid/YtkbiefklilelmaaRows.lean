/-
  NARROWER THAN 'FOR EVERY INPUT', by the rows' own cells (each row's printed sentence says how): MatchRuns: loops · MatchOpens: loops · MatchEnds: loops · MatchParts: loops.
  DERIVED. THE GIVEN ROWS OF THIS SEAT. 9 by the template 'for every input the law returns true; each argument reads behind the call as it read before'; 0 by the template 'total and deterministic' (their statements: YtkbiefklilelmaaTotals.lean).
  GIVEN WITH THE SEED: the statements are not yours to turn. If you find one false, say at which input.
  Laid BY PROGRAM, IN A SANDBOX (cutbox-rows.mjs): the forced cells as the released guide's own fill.sh prints them over the translation 006465260c946e36… (all of the seat's roots in one cut). By AI agents, Wed Nov 11 2026. No macro, syntax, notation, axiom, sorry.
-/
import Derived.Test.YtkbiefklilelmaaChecked
import GoSem.Claim
import GoSem.ClaimJoined
import GoSem.ClaimMapViews
import Derived.JoinedTies
import Derived.KernelRfl
namespace Go.Proofs.Ytkbiefklilelmaa
/- THE CELL 'sum', in the pinned program and in every row, IS THE sha256 OF THE DUMP (.gsa) THAT YtkbiefklilelmaaProg.lean LOADS. Nothing in Lean hashes anything: it is a label: what it is worth is what the hold of that sum in a sandbox is worth. -/
noncomputable def Try.pinned : Pinned := { name := "ytkbiefklilelmaa", sum := "006465260c946e364d1482e33052bf00383d245beda592766a514f8db689df40", checked := Try.checked }
namespace Rows
def none {H : Type} : Left H := { results := [], args := [] }

/-- 'wavestorelaw52.TemporalWindows': WHATEVER THE INPUT: true; the input reads as it did. -/
def temporalWindowsSpec : ChangeSpec := { name := "temporalWindows", fn := fun _ => fun
  | [d1, d2, d3, d4, d5] => { results := [.lit (.bool true)], args := [d1, d2, d3, d4, d5] }
  | _ => none }
def temporalWindowsRow : OpenClaim := { program := "ytkbiefklilelmaa", sum := "006465260c946e364d1482e33052bf00383d245beda592766a514f8db689df40", func := "wavestore/wavestorelaw52.TemporalWindows", spec := "temporalWindows", inPlace := ["internal/reflectlite.ValueOf", "internal/reflectlite.Swapper", "(internal/reflectlite.Value).Len"], unfollowed := true, recurses := true, plainKeys := false, apart := false }
def TemporalWindowsSaid : Prop := temporalWindowsRow.holds Try.pinned (OpenSpec.ofChange temporalWindowsSpec)

/-- ITS FALSE NEIGHBOUR: 'it returns false'. Refute it at one input. -/
def temporalWindowsWrong : ChangeSpec := { name := "temporalWindows", fn := fun _ => fun
  | [d1, d2, d3, d4, d5] => { results := [.lit (.bool false)], args := [d1, d2, d3, d4, d5] }
  | _ => none }
def TemporalWindowsWrongFalsely : Prop := temporalWindowsRow.holds Try.pinned (OpenSpec.ofChange temporalWindowsWrong)

/-- 'wavestorelaw52.TemporalCompose': WHATEVER THE INPUT: true; the input reads as it did. -/
def temporalComposeSpec : ChangeSpec := { name := "temporalCompose", fn := fun _ => fun
  | [d1, d2, d3, d4, d5, d6, d7, d8] => { results := [.lit (.bool true)], args := [d1, d2, d3, d4, d5, d6, d7, d8] }
  | _ => none }
def temporalComposeRow : OpenClaim := { program := "ytkbiefklilelmaa", sum := "006465260c946e364d1482e33052bf00383d245beda592766a514f8db689df40", func := "wavestore/wavestorelaw52.TemporalCompose", spec := "temporalCompose", inPlace := ["internal/reflectlite.ValueOf", "internal/reflectlite.Swapper", "(internal/reflectlite.Value).Len"], unfollowed := true, recurses := true, plainKeys := false, apart := false }
def TemporalComposeSaid : Prop := temporalComposeRow.holds Try.pinned (OpenSpec.ofChange temporalComposeSpec)

/-- ITS FALSE NEIGHBOUR: 'it returns false'. Refute it at one input. -/
def temporalComposeWrong : ChangeSpec := { name := "temporalCompose", fn := fun _ => fun
  | [d1, d2, d3, d4, d5, d6, d7, d8] => { results := [.lit (.bool false)], args := [d1, d2, d3, d4, d5, d6, d7, d8] }
  | _ => none }
def TemporalComposeWrongFalsely : Prop := temporalComposeRow.holds Try.pinned (OpenSpec.ofChange temporalComposeWrong)

/-- 'wavestorelaw52.TemporalDual': WHATEVER THE INPUT: true; the input reads as it did. -/
def temporalDualSpec : ChangeSpec := { name := "temporalDual", fn := fun _ => fun
  | [d1, d2, d3, d4, d5] => { results := [.lit (.bool true)], args := [d1, d2, d3, d4, d5] }
  | _ => none }
def temporalDualRow : OpenClaim := { program := "ytkbiefklilelmaa", sum := "006465260c946e364d1482e33052bf00383d245beda592766a514f8db689df40", func := "wavestore/wavestorelaw52.TemporalDual", spec := "temporalDual", inPlace := ["internal/reflectlite.ValueOf", "internal/reflectlite.Swapper", "(internal/reflectlite.Value).Len"], unfollowed := true, recurses := true, plainKeys := false, apart := false }
def TemporalDualSaid : Prop := temporalDualRow.holds Try.pinned (OpenSpec.ofChange temporalDualSpec)

/-- ITS FALSE NEIGHBOUR: 'it returns false'. Refute it at one input. -/
def temporalDualWrong : ChangeSpec := { name := "temporalDual", fn := fun _ => fun
  | [d1, d2, d3, d4, d5] => { results := [.lit (.bool false)], args := [d1, d2, d3, d4, d5] }
  | _ => none }
def TemporalDualWrongFalsely : Prop := temporalDualRow.holds Try.pinned (OpenSpec.ofChange temporalDualWrong)

/-- 'wavestorelaw52.TemporalUntils': WHATEVER THE INPUT: true; the input reads as it did. -/
def temporalUntilsSpec : ChangeSpec := { name := "temporalUntils", fn := fun _ => fun
  | [d1, d2, d3, d4, d5, d6] => { results := [.lit (.bool true)], args := [d1, d2, d3, d4, d5, d6] }
  | _ => none }
def temporalUntilsRow : OpenClaim := { program := "ytkbiefklilelmaa", sum := "006465260c946e364d1482e33052bf00383d245beda592766a514f8db689df40", func := "wavestore/wavestorelaw52.TemporalUntils", spec := "temporalUntils", inPlace := ["internal/reflectlite.ValueOf", "internal/reflectlite.Swapper", "(internal/reflectlite.Value).Len"], unfollowed := true, recurses := true, plainKeys := false, apart := false }
def TemporalUntilsSaid : Prop := temporalUntilsRow.holds Try.pinned (OpenSpec.ofChange temporalUntilsSpec)

/-- ITS FALSE NEIGHBOUR: 'it returns false'. Refute it at one input. -/
def temporalUntilsWrong : ChangeSpec := { name := "temporalUntils", fn := fun _ => fun
  | [d1, d2, d3, d4, d5, d6] => { results := [.lit (.bool false)], args := [d1, d2, d3, d4, d5, d6] }
  | _ => none }
def TemporalUntilsWrongFalsely : Prop := temporalUntilsRow.holds Try.pinned (OpenSpec.ofChange temporalUntilsWrong)

/-- 'wavestorelaw52.TemporalExpands': WHATEVER THE INPUT: true; the input reads as it did. -/
def temporalExpandsSpec : ChangeSpec := { name := "temporalExpands", fn := fun _ => fun
  | [d1, d2, d3, d4, d5] => { results := [.lit (.bool true)], args := [d1, d2, d3, d4, d5] }
  | _ => none }
def temporalExpandsRow : OpenClaim := { program := "ytkbiefklilelmaa", sum := "006465260c946e364d1482e33052bf00383d245beda592766a514f8db689df40", func := "wavestore/wavestorelaw52.TemporalExpands", spec := "temporalExpands", inPlace := ["internal/reflectlite.ValueOf", "internal/reflectlite.Swapper", "(internal/reflectlite.Value).Len"], unfollowed := true, recurses := true, plainKeys := false, apart := false }
def TemporalExpandsSaid : Prop := temporalExpandsRow.holds Try.pinned (OpenSpec.ofChange temporalExpandsSpec)

/-- ITS FALSE NEIGHBOUR: 'it returns false'. Refute it at one input. -/
def temporalExpandsWrong : ChangeSpec := { name := "temporalExpands", fn := fun _ => fun
  | [d1, d2, d3, d4, d5] => { results := [.lit (.bool false)], args := [d1, d2, d3, d4, d5] }
  | _ => none }
def TemporalExpandsWrongFalsely : Prop := temporalExpandsRow.holds Try.pinned (OpenSpec.ofChange temporalExpandsWrong)

/-- 'wavestorelaw55.MatchRuns': WHATEVER THE INPUT: true; the input reads as it did. -/
def matchRunsSpec : ChangeSpec := { name := "matchRuns", fn := fun _ => fun
  | [d1, d2, d3, d4, d5, d6] => { results := [.lit (.bool true)], args := [d1, d2, d3, d4, d5, d6] }
  | _ => none }
def matchRunsRow : OpenClaim := { program := "ytkbiefklilelmaa", sum := "006465260c946e364d1482e33052bf00383d245beda592766a514f8db689df40", func := "wavestore/wavestorelaw55.MatchRuns", spec := "matchRuns", inPlace := ["internal/reflectlite.ValueOf", "internal/reflectlite.Swapper", "(internal/reflectlite.Value).Len"], unfollowed := true, recurses := true, loops := true, plainKeys := false, apart := false }
def MatchRunsSaid : Prop := matchRunsRow.holds Try.pinned (OpenSpec.ofChange matchRunsSpec)

/-- ITS FALSE NEIGHBOUR: 'it returns false'. Refute it at one input. -/
def matchRunsWrong : ChangeSpec := { name := "matchRuns", fn := fun _ => fun
  | [d1, d2, d3, d4, d5, d6] => { results := [.lit (.bool false)], args := [d1, d2, d3, d4, d5, d6] }
  | _ => none }
def MatchRunsWrongFalsely : Prop := matchRunsRow.holds Try.pinned (OpenSpec.ofChange matchRunsWrong)

/-- 'wavestorelaw55.MatchOpens': WHATEVER THE INPUT: true; the input reads as it did. -/
def matchOpensSpec : ChangeSpec := { name := "matchOpens", fn := fun _ => fun
  | [d1, d2, d3, d4, d5, d6] => { results := [.lit (.bool true)], args := [d1, d2, d3, d4, d5, d6] }
  | _ => none }
def matchOpensRow : OpenClaim := { program := "ytkbiefklilelmaa", sum := "006465260c946e364d1482e33052bf00383d245beda592766a514f8db689df40", func := "wavestore/wavestorelaw55.MatchOpens", spec := "matchOpens", inPlace := ["internal/reflectlite.ValueOf", "internal/reflectlite.Swapper", "(internal/reflectlite.Value).Len"], unfollowed := true, recurses := true, loops := true, plainKeys := false, apart := false }
def MatchOpensSaid : Prop := matchOpensRow.holds Try.pinned (OpenSpec.ofChange matchOpensSpec)

/-- ITS FALSE NEIGHBOUR: 'it returns false'. Refute it at one input. -/
def matchOpensWrong : ChangeSpec := { name := "matchOpens", fn := fun _ => fun
  | [d1, d2, d3, d4, d5, d6] => { results := [.lit (.bool false)], args := [d1, d2, d3, d4, d5, d6] }
  | _ => none }
def MatchOpensWrongFalsely : Prop := matchOpensRow.holds Try.pinned (OpenSpec.ofChange matchOpensWrong)

/-- 'wavestorelaw55.MatchEnds': WHATEVER THE INPUT: true; the input reads as it did. -/
def matchEndsSpec : ChangeSpec := { name := "matchEnds", fn := fun _ => fun
  | [d1, d2, d3, d4, d5, d6] => { results := [.lit (.bool true)], args := [d1, d2, d3, d4, d5, d6] }
  | _ => none }
def matchEndsRow : OpenClaim := { program := "ytkbiefklilelmaa", sum := "006465260c946e364d1482e33052bf00383d245beda592766a514f8db689df40", func := "wavestore/wavestorelaw55.MatchEnds", spec := "matchEnds", inPlace := ["internal/reflectlite.ValueOf", "internal/reflectlite.Swapper", "(internal/reflectlite.Value).Len"], unfollowed := true, recurses := true, loops := true, plainKeys := false, apart := false }
def MatchEndsSaid : Prop := matchEndsRow.holds Try.pinned (OpenSpec.ofChange matchEndsSpec)

/-- ITS FALSE NEIGHBOUR: 'it returns false'. Refute it at one input. -/
def matchEndsWrong : ChangeSpec := { name := "matchEnds", fn := fun _ => fun
  | [d1, d2, d3, d4, d5, d6] => { results := [.lit (.bool false)], args := [d1, d2, d3, d4, d5, d6] }
  | _ => none }
def MatchEndsWrongFalsely : Prop := matchEndsRow.holds Try.pinned (OpenSpec.ofChange matchEndsWrong)

/-- 'wavestorelaw55.MatchParts': WHATEVER THE INPUT: true; the input reads as it did. -/
def matchPartsSpec : ChangeSpec := { name := "matchParts", fn := fun _ => fun
  | [d1, d2, d3, d4, d5, d6, d7, d8, d9] => { results := [.lit (.bool true)], args := [d1, d2, d3, d4, d5, d6, d7, d8, d9] }
  | _ => none }
def matchPartsRow : OpenClaim := { program := "ytkbiefklilelmaa", sum := "006465260c946e364d1482e33052bf00383d245beda592766a514f8db689df40", func := "wavestore/wavestorelaw55.MatchParts", spec := "matchParts", inPlace := ["internal/reflectlite.ValueOf", "internal/reflectlite.Swapper", "(internal/reflectlite.Value).Len"], unfollowed := true, recurses := true, loops := true, plainKeys := false, apart := false }
def MatchPartsSaid : Prop := matchPartsRow.holds Try.pinned (OpenSpec.ofChange matchPartsSpec)

/-- ITS FALSE NEIGHBOUR: 'it returns false'. Refute it at one input. -/
def matchPartsWrong : ChangeSpec := { name := "matchParts", fn := fun _ => fun
  | [d1, d2, d3, d4, d5, d6, d7, d8, d9] => { results := [.lit (.bool false)], args := [d1, d2, d3, d4, d5, d6, d7, d8, d9] }
  | _ => none }
def MatchPartsWrongFalsely : Prop := matchPartsRow.holds Try.pinned (OpenSpec.ofChange matchPartsWrong)

/- THE SECOND FORM. 'bulk': how many values and letters a reading holds, each counted each time it is reached (what is shared counts as often as it is met; a slice's spare places count too). A statement '..UptoSaid' is the law's where the arguments, and the package variables that the reading takes, are together of bulk at most 1048576: NARROWER than '..Said'. Prove '..Said' where nothing that the law and all that it calls make is longer than what came in: it says more and counts as full. Else prove '..UptoSaid'. A law counts once. -/
mutual
def uptoBulk {H : Type} : DataW H → Nat
  | .lit (.string bytes) => bytes.length + 1
  | .lit _ => 1
  | .nil => 1
  | .ptr d => uptoBulk d + 1
  | .slice elems spare => uptoBulkAll elems + uptoBulkAll spare + 1
  | .agg parts => uptoBulkAll parts + 1
  | .iface _ d => uptoBulk d + 1
  | .map entries => uptoBulkEntries entries + 1
  | .held _ => 1
def uptoBulkAll {H : Type} : List (DataW H) → Nat
  | [] => 0
  | d :: r => uptoBulk d + uptoBulkAll r
def uptoBulkEntries {H : Type} : List (Lit × DataW H) → Nat
  | [] => 0
  | x :: r => uptoBulkEntry x + uptoBulkEntries r
def uptoBulkEntry {H : Type} : Lit × DataW H → Nat
  | (.string bytes, d) => bytes.length + uptoBulk d + 1
  | (_, d) => uptoBulk d + 1
 end
def uptoSmall : (H : Type) → List (DataW H) → Bool := fun _ ds => decide (uptoBulkAll ds ≤ 1048576)
def OpenSpec.upto (s : _root_.Go.ChangeSpec) : _root_.Go.OpenSpec := { _root_.Go.OpenSpec.ofChange s with cond := some uptoSmall }

/-- 'wavestorelaw52.TemporalWindows', WHERE WHAT IT READS IS OF BULK AT MOST 1048576: true; the input reads as it did. -/
def temporalWindowsUptoRow : OpenClaim := { program := "ytkbiefklilelmaa", sum := "006465260c946e364d1482e33052bf00383d245beda592766a514f8db689df40", func := "wavestore/wavestorelaw52.TemporalWindows", spec := "temporalWindows", inPlace := ["internal/reflectlite.ValueOf", "internal/reflectlite.Swapper", "(internal/reflectlite.Value).Len"], unfollowed := true, recurses := true, plainKeys := false, apart := false, narrowed := true }
def TemporalWindowsUptoSaid : Prop := temporalWindowsUptoRow.holds Try.pinned (OpenSpec.upto temporalWindowsSpec)

/-- 'wavestorelaw52.TemporalCompose', WHERE WHAT IT READS IS OF BULK AT MOST 1048576: true; the input reads as it did. -/
def temporalComposeUptoRow : OpenClaim := { program := "ytkbiefklilelmaa", sum := "006465260c946e364d1482e33052bf00383d245beda592766a514f8db689df40", func := "wavestore/wavestorelaw52.TemporalCompose", spec := "temporalCompose", inPlace := ["internal/reflectlite.ValueOf", "internal/reflectlite.Swapper", "(internal/reflectlite.Value).Len"], unfollowed := true, recurses := true, plainKeys := false, apart := false, narrowed := true }
def TemporalComposeUptoSaid : Prop := temporalComposeUptoRow.holds Try.pinned (OpenSpec.upto temporalComposeSpec)

/-- 'wavestorelaw52.TemporalDual', WHERE WHAT IT READS IS OF BULK AT MOST 1048576: true; the input reads as it did. -/
def temporalDualUptoRow : OpenClaim := { program := "ytkbiefklilelmaa", sum := "006465260c946e364d1482e33052bf00383d245beda592766a514f8db689df40", func := "wavestore/wavestorelaw52.TemporalDual", spec := "temporalDual", inPlace := ["internal/reflectlite.ValueOf", "internal/reflectlite.Swapper", "(internal/reflectlite.Value).Len"], unfollowed := true, recurses := true, plainKeys := false, apart := false, narrowed := true }
def TemporalDualUptoSaid : Prop := temporalDualUptoRow.holds Try.pinned (OpenSpec.upto temporalDualSpec)

/-- 'wavestorelaw52.TemporalUntils', WHERE WHAT IT READS IS OF BULK AT MOST 1048576: true; the input reads as it did. -/
def temporalUntilsUptoRow : OpenClaim := { program := "ytkbiefklilelmaa", sum := "006465260c946e364d1482e33052bf00383d245beda592766a514f8db689df40", func := "wavestore/wavestorelaw52.TemporalUntils", spec := "temporalUntils", inPlace := ["internal/reflectlite.ValueOf", "internal/reflectlite.Swapper", "(internal/reflectlite.Value).Len"], unfollowed := true, recurses := true, plainKeys := false, apart := false, narrowed := true }
def TemporalUntilsUptoSaid : Prop := temporalUntilsUptoRow.holds Try.pinned (OpenSpec.upto temporalUntilsSpec)

/-- 'wavestorelaw52.TemporalExpands', WHERE WHAT IT READS IS OF BULK AT MOST 1048576: true; the input reads as it did. -/
def temporalExpandsUptoRow : OpenClaim := { program := "ytkbiefklilelmaa", sum := "006465260c946e364d1482e33052bf00383d245beda592766a514f8db689df40", func := "wavestore/wavestorelaw52.TemporalExpands", spec := "temporalExpands", inPlace := ["internal/reflectlite.ValueOf", "internal/reflectlite.Swapper", "(internal/reflectlite.Value).Len"], unfollowed := true, recurses := true, plainKeys := false, apart := false, narrowed := true }
def TemporalExpandsUptoSaid : Prop := temporalExpandsUptoRow.holds Try.pinned (OpenSpec.upto temporalExpandsSpec)

/-- 'wavestorelaw55.MatchRuns', WHERE WHAT IT READS IS OF BULK AT MOST 1048576: true; the input reads as it did. -/
def matchRunsUptoRow : OpenClaim := { program := "ytkbiefklilelmaa", sum := "006465260c946e364d1482e33052bf00383d245beda592766a514f8db689df40", func := "wavestore/wavestorelaw55.MatchRuns", spec := "matchRuns", inPlace := ["internal/reflectlite.ValueOf", "internal/reflectlite.Swapper", "(internal/reflectlite.Value).Len"], unfollowed := true, recurses := true, loops := true, plainKeys := false, apart := false, narrowed := true }
def MatchRunsUptoSaid : Prop := matchRunsUptoRow.holds Try.pinned (OpenSpec.upto matchRunsSpec)

/-- 'wavestorelaw55.MatchOpens', WHERE WHAT IT READS IS OF BULK AT MOST 1048576: true; the input reads as it did. -/
def matchOpensUptoRow : OpenClaim := { program := "ytkbiefklilelmaa", sum := "006465260c946e364d1482e33052bf00383d245beda592766a514f8db689df40", func := "wavestore/wavestorelaw55.MatchOpens", spec := "matchOpens", inPlace := ["internal/reflectlite.ValueOf", "internal/reflectlite.Swapper", "(internal/reflectlite.Value).Len"], unfollowed := true, recurses := true, loops := true, plainKeys := false, apart := false, narrowed := true }
def MatchOpensUptoSaid : Prop := matchOpensUptoRow.holds Try.pinned (OpenSpec.upto matchOpensSpec)

/-- 'wavestorelaw55.MatchEnds', WHERE WHAT IT READS IS OF BULK AT MOST 1048576: true; the input reads as it did. -/
def matchEndsUptoRow : OpenClaim := { program := "ytkbiefklilelmaa", sum := "006465260c946e364d1482e33052bf00383d245beda592766a514f8db689df40", func := "wavestore/wavestorelaw55.MatchEnds", spec := "matchEnds", inPlace := ["internal/reflectlite.ValueOf", "internal/reflectlite.Swapper", "(internal/reflectlite.Value).Len"], unfollowed := true, recurses := true, loops := true, plainKeys := false, apart := false, narrowed := true }
def MatchEndsUptoSaid : Prop := matchEndsUptoRow.holds Try.pinned (OpenSpec.upto matchEndsSpec)

/-- 'wavestorelaw55.MatchParts', WHERE WHAT IT READS IS OF BULK AT MOST 1048576: true; the input reads as it did. -/
def matchPartsUptoRow : OpenClaim := { program := "ytkbiefklilelmaa", sum := "006465260c946e364d1482e33052bf00383d245beda592766a514f8db689df40", func := "wavestore/wavestorelaw55.MatchParts", spec := "matchParts", inPlace := ["internal/reflectlite.ValueOf", "internal/reflectlite.Swapper", "(internal/reflectlite.Value).Len"], unfollowed := true, recurses := true, loops := true, plainKeys := false, apart := false, narrowed := true }
def MatchPartsUptoSaid : Prop := matchPartsUptoRow.holds Try.pinned (OpenSpec.upto matchPartsSpec)

end Rows
end Go.Proofs.Ytkbiefklilelmaa
