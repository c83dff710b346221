/-
  Beats and integers, read out of the arguments.
-/
import Derived.Test.YtlockjbhdibojaaGreatDoorReads
import Derived.Test.YtlockjbhdibojaaGreatDoorBeats
import Derived.Test.YtlockjbhdibojaaGreatDoorLat
namespace Go.Proofs.YtlockjbhdibojaaGreatDoor
open Go.ChangeShapes Go.WideShapes Go.ChangeAt Go.RowKit Go.Deep

theorem cellsStr : Tryz.prog.cellsOf 9 = 1 := by kernel_rfl
theorem cellsInt : Tryz.prog.cellsOf 3 = 1 := by kernel_rfl
theorem cellsBool : Tryz.prog.cellsOf 4 = 1 := by kernel_rfl
theorem cellsStrs : Tryz.prog.cellsOf 25 = 1 := by kernel_rfl
theorem cellsBeat : Tryz.prog.cellsOf 27 = 4 := by kernel_rfl

section
variable {H : Type} {enc : TypeId × Value → H} {W : World} {base : Nat} {spare : Nat → Bool} {held : Bool}

theorem rd_strs {fuel : Nat} {cs : List Value} {y : DataW H × List MemPlace} (h : DataW.trod enc Tryz.prog W base spare held fuel 25 cs = some y) (hf : Fit Tryz.prog 25 y.1) :
    ∃ V c vs, cs = [.slice V (List.length vs) c] ∧ StrsAt W (Lo W.heap.size) V vs ∧ vs.length * 16 ≤ 140737488355328 := by
  obtain ⟨V, c, vs, rfl, hr, hw⟩ := rd_slice 1 16 (fun s : ByteArray => [.string s]) (fun _ => True) Tryz.underlying25 cellsStr (by decide) (by kernel_rfl)
    (fun n cs y h _ => by obtain ⟨s, rfl, _⟩ := rd_string Tryz.underlying9 h; exact ⟨s, rfl, trivial⟩) h hf
  refine ⟨V, c, vs, rfl, fun hne => ?_, by have : reachBytes < 2 ^ 47 := reachBytes_lt; omega⟩
  obtain ⟨b, off, rfl, hb, hc⟩ := hr hne
  refine ⟨b, off, rfl, hb, fun i s hi => ?_⟩
  have := (hc i s hi).1 0 (by decide)
  simpa using this

set_option maxRecDepth 100000 in
theorem rd_beat {fuel : Nat} {cs : List Value} {y : DataW H × List MemPlace} (h : DataW.trod enc Tryz.prog W base spare held fuel 27 cs = some y) (hf : Fit Tryz.prog 27 y.1) :
    ∃ r : Rb, cs = encB r ∧ StrsAt W (Lo W.heap.size) r.V r.bt.vals ∧ r.bt.vals.length * 16 ≤ 140737488355328 ∧ I64 r.bt.time := by
  obtain ⟨hl, hx⟩ := rd_struct Tryz.underlying27 h hf
  rw [cellsBeat] at hl
  match cs, hl with
  | [c0, c1, c2, c3], _ =>
    obtain ⟨_, _, h0, f0⟩ := hx 0 3 0 1 rfl cellsInt
    obtain ⟨_, _, h1, f1⟩ := hx 1 3 1 1 rfl cellsInt
    obtain ⟨_, _, h2, f2⟩ := hx 2 25 2 1 rfl cellsStrs
    obtain ⟨_, _, h3, f3⟩ := hx 3 4 3 1 rfl cellsBool
    simp only [List.drop_zero, List.drop_succ_cons, List.take_succ_cons, List.take_zero] at h0 h1 h2 h3
    obtain ⟨a0, e0, b0⟩ := rd_int Tryz.underlying3 h0
    obtain ⟨a1, e1, b1⟩ := rd_int Tryz.underlying3 h1
    obtain ⟨V, c, vs, e2, b2, l2⟩ := rd_strs h2 f2
    obtain ⟨a3, e3⟩ := rd_bool Tryz.underlying4 h3
    simp only [List.cons.injEq, and_true] at e0 e1 e2 e3
    subst e0 e1 e2 e3
    exact ⟨⟨V, c, ⟨a0, a1, vs, a3⟩⟩, rfl, b2, l2, b0⟩

theorem rd_beats {fuel : Nat} {cs : List Value} {y : DataW H × List MemPlace} (h : DataW.trod enc Tryz.prog W base spare held fuel 22 cs = some y) (hf : Fit Tryz.prog 22 y.1) :
    ∃ A c rs, cs = [.slice A (List.length rs) c] ∧ BeatsAt W (Lo W.heap.size) A rs ∧ (∀ r ∈ rs, r.bt.vals.length * 16 ≤ 140737488355328 ∧ I64 r.bt.time) ∧ rs.length * 48 ≤ 140737488355328 := by
  obtain ⟨A, c, rs, rfl, hr, hw⟩ := rd_slice 4 48 encB (fun r : Rb => StrsAt W (Lo W.heap.size) r.V r.bt.vals ∧ r.bt.vals.length * 16 ≤ 140737488355328 ∧ I64 r.bt.time) Tryz.underlying22 cellsBeat (by decide) (by kernel_rfl)
    (fun n cs y h hf => rd_beat h hf) h hf
  refine ⟨A, c, rs, rfl, fun hne => ?_, fun r hr' => ?_, by have : reachBytes < 2 ^ 47 := reachBytes_lt; omega⟩
  · obtain ⟨b, off, rfl, hb, hc⟩ := hr hne
    refine ⟨b, off, rfl, hb, fun i r hi => ?_⟩
    obtain ⟨h1, h2⟩ := hc i r hi
    have c0 := h1 0 (by decide)
    have c1 := h1 1 (by decide)
    have c2 := h1 2 (by decide)
    have c3 := h1 3 (by decide)
    simp only [encB, Nat.add_zero, List.getElem?_cons_zero, List.getElem?_cons_succ] at c0 c1 c2 c3
    exact ⟨c0, c1, c2, c3, h2.1⟩
  · obtain ⟨i, hi, rfl⟩ := List.getElem_of_mem hr'
    obtain ⟨b, off, _, _, hc⟩ := hr (fun e => by subst e; simp at hi)
    exact (hc i _ (List.getElem?_eq_getElem hi)).2.2

theorem rd_ints {fuel : Nat} {cs : List Value} {y : DataW H × List MemPlace} (h : DataW.trod enc Tryz.prog W base spare held fuel 23 cs = some y) (hf : Fit Tryz.prog 23 y.1) :
    ∃ A c zs, cs = [.slice A (List.length zs) c] ∧ IntsAt W (Lo W.heap.size) A zs ∧ (∀ z ∈ zs, I64 z) ∧ zs.length * 8 ≤ 140737488355328 := by
  obtain ⟨A, c, rs, rfl, hr, hw⟩ := rd_slice 1 8 (fun z : Int => [.int .i64 z]) (fun z : Int => I64 z) Tryz.underlying23 cellsInt (by decide) (by kernel_rfl)
    (fun n cs y h hf => rd_int Tryz.underlying3 h) h hf
  refine ⟨A, c, rs, rfl, fun hne => ?_, fun r hr' => ?_, by have : reachBytes < 2 ^ 47 := reachBytes_lt; omega⟩
  · obtain ⟨b, off, rfl, hb, hc⟩ := hr hne
    refine ⟨b, off, rfl, hb, fun i r hi => ?_⟩
    have c0 := (hc i r hi).1 0 (by decide)
    simpa using c0
  · obtain ⟨i, hi, rfl⟩ := List.getElem_of_mem hr'
    obtain ⟨b, off, _, _, hc⟩ := hr (fun e => by subst e; simp at hi)
    exact (hc i _ (List.getElem?_eq_getElem hi)).2
end

end Go.Proofs.YtlockjbhdibojaaGreatDoor
