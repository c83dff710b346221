/-
  The walk of MatchEnds, in the order in which the lift hands on what it has read.
-/
import Derived.Test.YtkbiefklilelmaaReads55
import Derived.Test.YtkbiefklilelmaaLawEnds
namespace Go.Proofs.Ytkbiefklilelmaa
open Go.ChangeShapes Go.WideShapes Go.ChangeAt Go.RowKit Go.Deep

def AutIn (W : World) (a : Aut) : Prop := AutAt W (Lo W.heap.size) a ∧ (∃ evs cds, AutTrees W a evs cds) ∧ AutLe a
theorem rd_auto {H : Type} {enc : TypeId × Value → H} {W : World} {base : Nat} {spare : Nat → Bool} {held : Bool} {fuel : Nat} {cs : List Value} {y : DataW H × List MemPlace} (h : DataW.trod enc Try.prog W base spare held fuel 50 cs = some y) (hf : Fit Try.prog 50 y.1) : ∃ a : Aut, cs = encA a ∧ AutIn W a := by
  obtain ⟨a, evs, cds, e, h1, h2, h3⟩ := rd_aut h hf
  exact ⟨a, e, h1, ⟨evs, cds, h2⟩, h3⟩
theorem ends_walk (a : Aut) (A1 : Option Addr) (c1 : Nat) (ev : List SlI) (A2 : Option Addr) (c2 : Nat) (cs : List SlV) (to_ en later : Int) (W : World) (g : AutIn W a) (e1 : EvAt W A1 ev) (e2 : ∀ s ∈ ev, s.xs.length ≤ 140737488355328) (e3 : ev.length ≤ 140737488355328) (f1 : CsAt W A2 cs) (f2 : ∀ s ∈ cs, s.xs.length ≤ 140737488355328) (f3 : cs.length ≤ 140737488355328)
    (_ : I64 to_) (_ : I64 en) (_ : I64 later) : Calls Try.prog 10 #[.agg (encA a).toArray, .slice A1 ev.length c1, .slice A2 cs.length c2, .int .i64 to_, .int .i64 en, .int .i64 later] W (fun e w' => e = .returned (.bool true) ∧ Below W.heap.size W w') := by
  obtain ⟨h1, ⟨evs, cds, h2⟩, h3⟩ := g
  exact lawEnds a evs cds A1 A2 c1 c2 ev cs to_ en later W h1 h2 h3 e1 f1 e3 f3 e2 f2

end Go.Proofs.Ytkbiefklilelmaa
