/-
  A node by value (its kids' place as a value) and strings, read out of the arguments.
-/
import Derived.Test.YtdlebcijgdkfjaaGreatDoorReads
import Derived.Test.YtdlebcijgdkfjaaGreatDoorApply
namespace Go.Proofs.YtdlebcijgdkfjaaGreatDoor
open Go.ChangeShapes Go.WideShapes Go.ChangeAt Go.RowKit Go.Deep

theorem cellsStr : Tryz.prog.cellsOf 9 = 1 := by kernel_rfl
theorem cellsInt : Tryz.prog.cellsOf 3 = 1 := by kernel_rfl
theorem cellsKids : Tryz.prog.cellsOf 30 = 1 := by kernel_rfl
theorem cellsNode : Tryz.prog.cellsOf 32 = 9 := by kernel_rfl

section
variable {H : Type} {enc : TypeId × Value → H} {W : World} {base : Nat} {spare : Nat → Bool} {held : Bool}

theorem rd_strs {fuel : Nat} {cs : List Value} {y : DataW H × List MemPlace} (h : DataW.trod enc Tryz.prog W base spare held fuel 110 cs = some y) (hf : Fit Tryz.prog 110 y.1) :
    ∃ V c vs, cs = [.slice V (List.length vs) c] ∧ StrsAt W (Lo W.heap.size) V vs ∧ vs.length ≤ c ∧ vs.length * 16 ≤ 140737488355328 ∧ ∀ v ∈ vs, v.size ≤ maxLen := by
  obtain ⟨V, c, vs, rfl, hr, hw, hc⟩ := rd_slice_cap 1 16 (fun s : ByteArray => [.string s]) (fun s : ByteArray => s.size ≤ maxLen) Tryz.underlying110 cellsStr (by decide) (by kernel_rfl)
    (fun n cs y h _ => by obtain ⟨s, rfl, hs⟩ := rd_string Tryz.underlying9 h; exact ⟨s, rfl, hs⟩) h hf
  refine ⟨V, c, vs, rfl, fun hne => ?_, hc, by have : reachBytes < 2 ^ 47 := reachBytes_lt; omega, fun v hv => ?_⟩
  · obtain ⟨b, off, rfl, hb, hc⟩ := hr hne
    refine ⟨b, off, rfl, hb, fun i s hi => ?_⟩
    have := (hc i s hi).1 0 (by decide)
    simpa using this
  · obtain ⟨i, hi, rfl⟩ := List.getElem_of_mem hv
    obtain ⟨b, off, _, _, hc⟩ := hr (fun e => by subst e; simp at hi)
    exact (hc i _ (List.getElem?_eq_getElem hi)).2

set_option maxRecDepth 100000 in
theorem rd_nodef {fuel : Nat} {cs : List Value} {y : DataW H × List MemPlace} (h : DataW.trod enc Tryz.prog W base spare held fuel 32 cs = some y) (hf : Fit Tryz.prog 32 y.1) :
    ∃ n : Nf, cs = encNf n ∧ I64 n.kind ∧ I64 n.a ∧ I64 n.b := by
  obtain ⟨hl, hx⟩ := rd_struct Tryz.underlying32 h hf
  rw [cellsNode] at hl
  match cs, hl with
  | [c0, c1, c2, c3, c4, c5, c6, c7, c8], _ =>
    obtain ⟨_, _, h0, _⟩ := hx 0 3 0 1 rfl cellsInt
    obtain ⟨_, _, h1, _⟩ := hx 1 3 1 1 rfl cellsInt
    obtain ⟨_, _, h2, _⟩ := hx 2 9 2 1 rfl cellsStr
    obtain ⟨_, _, h3, _⟩ := hx 3 9 3 1 rfl cellsStr
    obtain ⟨_, _, h4, _⟩ := hx 4 3 4 1 rfl cellsInt
    obtain ⟨_, _, h5, _⟩ := hx 5 3 5 1 rfl cellsInt
    obtain ⟨_, _, h6, _⟩ := hx 6 3 6 1 rfl cellsInt
    obtain ⟨_, _, h7, _⟩ := hx 7 3 7 1 rfl cellsInt
    simp only [List.drop_zero, List.drop_succ_cons, List.take_succ_cons, List.take_zero] at h0 h1 h2 h3 h4 h5 h6 h7
    obtain ⟨a0, e0, b0⟩ := rd_int Tryz.underlying3 h0
    obtain ⟨a1, e1, b1⟩ := rd_int Tryz.underlying3 h1
    obtain ⟨a2, e2, b2⟩ := rd_string Tryz.underlying9 h2
    obtain ⟨a3, e3, b3⟩ := rd_string Tryz.underlying9 h3
    obtain ⟨a4, e4, b4⟩ := rd_int Tryz.underlying3 h4
    obtain ⟨a5, e5, b5⟩ := rd_int Tryz.underlying3 h5
    obtain ⟨a6, e6, b6⟩ := rd_int Tryz.underlying3 h6
    obtain ⟨a7, e7, b7⟩ := rd_int Tryz.underlying3 h7
    simp only [List.cons.injEq, and_true] at e0 e1 e2 e3 e4 e5 e6 e7
    subst e0 e1 e2 e3 e4 e5 e6 e7
    exact ⟨⟨a0, a1, a2, a3, a4, a5, a6, a7, c8⟩, rfl, b0, b4, b5⟩
end

end Go.Proofs.YtdlebcijgdkfjaaGreatDoor
