/-
  Memory that has only grown, but for one block.
-/
import Derived.Test.YtdlebcijgdkfjaaGreatDoorMem
namespace Go.Proofs.YtdlebcijgdkfjaaGreatDoor
open Go.RowKit

/-- as Below, but for one block -/
structure But (n : Nat) (x : Option Nat) (w w' : World) : Prop where
  os : w'.os = w.os
  tape : w'.tape = w.tape
  output : w'.output = w.output
  size : w.heap.size ≤ w'.heap.size
  block : ∀ b, b < n → some b ≠ x → w'.heap[b]? = w.heap[b]?
theorem But.refl (n : Nat) (x : Option Nat) (w : World) : But n x w w := ⟨rfl, rfl, rfl, Nat.le_refl _, fun _ _ _ => rfl⟩
theorem But.trans {n : Nat} {x : Option Nat} {a b c : World} (h : But n x a b) (k : But n x b c) : But n x a c := ⟨k.os.trans h.os, k.tape.trans h.tape, k.output.trans h.output, Nat.le_trans h.size k.size, fun i hi hx => (k.block i hi hx).trans (h.block i hi hx)⟩
theorem But.mono {n m : Nat} {x : Option Nat} {a b : World} (h : But n x a b) (hm : m ≤ n) : But m x a b := ⟨h.os, h.tape, h.output, h.size, fun i hi hx => h.block i (by omega) hx⟩
theorem But.of {n : Nat} {x : Option Nat} {a b : World} (h : Below n a b) : But n x a b := ⟨h.os, h.tape, h.output, h.size, fun i hi _ => h.block i hi⟩
theorem But.below {n m : Nat} {a b : World} {x : Option Nat} (h : But n x a b) (hm : m ≤ n) (hx : ∀ k, x = some k → m ≤ k) : Below m a b := ⟨h.os, h.tape, h.output, h.size, fun i hi => h.block i (by omega) fun e => by have := hx i e.symm; omega⟩

end Go.Proofs.YtdlebcijgdkfjaaGreatDoor
