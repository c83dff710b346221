/-
  The marks that loops over functions leave among a call's deferred calls: many of them, at the call's end.
-/
import Derived.Test.YtkbiefklilelmaaRangeBox
namespace Go.Proofs.Ytkbiefklilelmaa
open Go.RowKit Go.Shelf

/-- the marks with the numbers Ds -/
def mks (Ds : List Nat) : List Deferred := Ds.map fun D => { target := .collected D, args := #[] }
def Marked (W : World) (N : Nat) (Ds : List Nat) : Prop := Ds.Nodup ∧ ∀ D ∈ Ds, N ≤ D ∧ W.heap[D]? = some (.deferred (some []))
theorem Marked.nil (W : World) (N : Nat) : Marked W N [] := ⟨List.nodup_nil, by simp⟩
theorem Marked.keep {W W' : World} {N : Nat} {Ds : List Nat} (h : Marked W N Ds) (hk : ∀ D : Nat, W.heap[D]? = some (Obj.deferred (some [])) → W'.heap[D]? = some (Obj.deferred (some []))) : Marked W' N Ds :=
  ⟨h.1, fun D hD => ⟨(h.2 D hD).1, hk D (h.2 D hD).2⟩⟩
theorem Marked.lt {W : World} {N : Nat} {Ds : List Nat} (h : Marked W N Ds) : ∀ D ∈ Ds, D < W.heap.size := fun D hD => (Array.getElem?_eq_some_iff.1 (h.2 D hD).2).1
theorem Marked.cons {W : World} {N D : Nat} {Ds : List Nat} (h : Marked W N Ds) (hn : N ≤ D) (hD : W.heap[D]? = some (.deferred (some []))) (hlt : ∀ E ∈ Ds, E < D) : Marked W N (D :: Ds) :=
  ⟨List.nodup_cons.2 ⟨fun hm => Nat.lt_irrefl _ (hlt D hm), h.1⟩, fun E hE => by
    rcases List.mem_cons.1 hE with rfl | hE
    · exact ⟨hn, hD⟩
    · exact h.2 E hE⟩

/-- the call's end: all marks are taken, one after the other -/
theorem leaves_marks {F : Fence} {n : Nat} {P : Program} {fn : Func} {tmps : Array Value} {R : Ending → World → Prop} {N : Nat} (S : World → Prop)
    (hS : ∀ W D, S W → N ≤ D → W.heap[D]? = some (.deferred (some [])) → S (W.putObj D (.deferred none)))
    (hend : ∀ W, S W → LeavesIn F n P fn tmps R [] .returning W) : ∀ (Ds : List Nat) (W : World), Marked W N Ds → S W → LeavesInM F n P fn tmps R (mks Ds) .returning W
  | [], W, _, h => hend W h
  | D :: Ds, W, hm, h => by
    obtain ⟨hn, hall⟩ := hm
    rw [List.nodup_cons] at hn
    obtain ⟨h1, h2⟩ := hall D (by simp)
    refine ⟨by simp, .inl ⟨D, _, rfl, run_takeDeferred h2, ?_⟩⟩
    refine leaves_marks S hS hend Ds _ ⟨hn.2, fun E hE => ⟨(hall E (by simp [hE])).1, ?_⟩⟩ (hS W D h h1 h2)
    rw [World.putObj_heap_other (fun e => hn.1 (by rw [← e]; exact hE))]
    exact (hall E (by simp [hE])).2

end Go.Proofs.Ytkbiefklilelmaa
