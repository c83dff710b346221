/-
  slices.Backward over a slice of intervals: what a loop over it is handed, from the last element to the first.
-/
import Derived.Test.YthgglblbjghamaaBase
import Derived.RangeFuncNested
import Derived.RangeFuncBox
import Derived.RangeFuncLeaves
import Derived.Shelf.Abstract
import Derived.OwnWalkIn
import Derived.TacticsInMore
import Derived.LoopNIn
import Derived.LoopIn
namespace Go.Proofs.Ythgglblbjghamaa
open Go.RowKit Go.Shelf

attribute [local go_sem] Oper.semAt_some

/-- what the k-th round is handed -/
def backAt (ys : List Iv) (j : Nat) : Nat × Iv := (ys.length - 1 - j, ys[ys.length - 1 - j]?.getD (0, 0))
def backL (ys : List Iv) (k : Nat) : List (Nat × Iv) := (List.range k).map (backAt ys)
theorem backL_succ (ys : List Iv) (k : Nat) : backL ys (k + 1) = backL ys k ++ [backAt ys k] := by simp [backL, List.range_succ]
theorem backL_length (ys : List Iv) (k : Nat) : (backL ys k).length = k := by simp [backL]
def backEnc (x : Nat × Iv) : Array Value := #[.int .i64 (x.1 : Int), .agg #[.int .i64 x.2.1, .int .i64 x.2.2]]

theorem backL_step {ys : List Iv} {p : Nat} (hp : p < ys.length) : backL ys (ys.length - p) = backL ys (ys.length - 1 - p) ++ [(p, ys[p])] := by
  have e : ys.length - p = (ys.length - 1 - p) + 1 := by omega
  rw [e, backL_succ]
  have e2 : ys.length - 1 - (ys.length - 1 - p) = p := by omega
  simp [backAt, e2, hp]

/-- between two rounds of the iterator's loop -/
def BackRel (n₀ : Nat) (W : World) (ys : List Iv) (J : List (Nat × Iv) → World → Prop) (i : Value) (wr : World) : Prop :=
  ((∃ p : Nat, p < ys.length ∧ i = .int .i64 (p : Int) ∧ J (backL ys (ys.length - 1 - p)) wr) ∨ (i = .int .i64 (-1) ∧ J (backL ys ys.length) wr)) ∧ Below n₀ W wr

set_option maxRecDepth 100000 in
set_option maxHeartbeats 2000000 in
theorem backward1_in (n l Bs n₀ c : Nat) (A : Option Addr) (ys : List Iv) (hn : 1 ≤ n) (hl : ys.length ≤ 4398046511104) (J Jx : List (Nat × Iv) → World → Prop)
    (hY : ∀ pre x W, J pre W → pre.length < ys.length → YieldAt Fence.wide (n - 1) Try.prog l (backEnc x) W fun e W' =>
      (e = .returned (.bool true) ∧ J (pre ++ [x]) W' ∧ Below n₀ W W') ∨ (e = .returned (.bool false) ∧ Jx (pre ++ [x]) W'))
    (W : World) (hBn : Bs < n₀) (hBs : W.cell? ⟨Bs, 0, none⟩ = some (.slice A ys.length c)) (h : IvsAt W n₀ A ys) (h0 : J [] W) :
    CallsIn Fence.wide n Try.prog 70 #[.func (.yield l) #[] #[], .pointer (some ⟨Bs, 0, none⟩)] W fun e W' => (∃ v, e = .returned v) ∧
      ((∃ zs, zs = backL ys ys.length ∧ J zs W') ∨ (∃ pre, (∃ k, k ≤ ys.length ∧ pre = backL ys k) ∧ Jx pre W')) := by
  refine callsIn_of_wp Try.func70 rfl trivial ?_ rfl
  simp only [Try.ntmps70, List.size_toArray, List.length_cons, List.length_nil, Nat.reduceAdd, Nat.reduceSub, Array.replicate_succ, Array.replicate_zero, List.push_toArray, List.append_toArray, List.nil_append, List.cons_append]
  gi_wp2
  gi_loopw [3] (fun i wr => BackRel n₀ W ys J i wr) (fun i _ => (intOf i + 1).toNat)
  case atStart =>
    refine ⟨?_, Below.refl _ _⟩
    by_cases hz : ys.length = 0
    · exact .inr ⟨by rw [hz]; rfl, by rw [hz]; exact h0⟩
    · exact .inl ⟨ys.length - 1, by omega, by congr 1; omega, by rw [Nat.sub_self]; exact h0⟩
  case round =>
    obtain ⟨⟨p, hp, rfl, hJs⟩ | ⟨rfl, hJs⟩, hnx⟩ := hrel
    · obtain ⟨b, off, rfl, hbb, hc1, hc2⟩ := (h.below hnx).at_ hp
      have hBs' := (hnx.cell (p := ⟨Bs, 0, none⟩) hBn).trans hBs
      obtain ⟨fn, tmps, assign, body, hy, hR⟩ := hY _ (p, ys[p]) wr hJs (by rw [backL_length]; omega)
      unfold backEnc at hy
      dsimp only at hy
      have HS := hide (backL_step hp)
      gi_wp2
      refine hR.mono ?_
      rintro e W3 (⟨rfl, hJ3, hk3⟩ | ⟨rfl, hJx3⟩)
      · gi_wp2
        go_roundw
        case rel =>
          refine ⟨?_, hnx.trans hk3⟩
          rw [← HS.out] at hJ3
          by_cases hz : p = 0
          · subst hz; exact .inr ⟨by rfl, by rwa [Nat.sub_zero] at hJ3⟩
          · exact .inl ⟨p - 1, by omega, by congr 1; omega, by rw [show ys.length - 1 - (p - 1) = ys.length - p by omega]; exact hJ3⟩
        case measure => simp [intOf]
      · gi_wp2
        refine bodyPost_ret (results_none rfl _ _ _) rfl ?_
        exact ⟨⟨_, rfl⟩, .inr ⟨_, ⟨ys.length - p, by omega, HS.out.symm⟩, hJx3⟩⟩
    · gi_wp2
      go_end0
      exact ⟨⟨_, rfl⟩, .inl ⟨_, rfl, hJs⟩⟩

theorem backward_in (n : Nat) (A : Option Addr) (len cap : Nat) (w : World) :
    CallsIn Fence.wide n Try.prog 60 #[.slice A len cap] w fun e w' => e = .returned (.func (.func 70) #[] #[.pointer (some ⟨w.heap.size, 0, none⟩)]) ∧ w' = w.alloc (.cells #[.slice A len cap] 22) := by
  refine callsIn_of_wp Try.func60 rfl trivial ?_ rfl
  simp only [Try.ntmps60, List.size_toArray, List.length_cons, List.length_nil, Nat.reduceAdd, Nat.reduceSub, Array.replicate_succ, Array.replicate_zero, List.push_toArray, List.append_toArray, List.nil_append, List.cons_append]
  gi_wp2
  go_ret
  exact ⟨rfl, rfl⟩

theorem backward_stops (n Bs n₀ c : Nat) (A : Option Addr) (ys : List Iv) (hn : 1 ≤ n) (hl : ys.length ≤ 4398046511104) (w : World) (hBn : Bs < n₀) (hn₀ : n₀ ≤ w.heap.size)
    (hc : w.cell? ⟨Bs, 0, none⟩ = some (.slice A ys.length c)) (h : IvsAt w n₀ A ys) :
    SeqStopsK Fence.wide n Try.prog 70 #[.pointer (some ⟨Bs, 0, none⟩)] backEnc (Below n₀) (fun zs => zs = backL ys ys.length)
      (fun pre => ∃ k, k ≤ ys.length ∧ pre = backL ys k) ys.length w := fun l J Jx W hW _ _ hY h0 =>
  backward1_in n l Bs n₀ c A ys hn hl J Jx hY W hBn ((hW.cell (p := ⟨Bs, 0, none⟩) (by show Bs < w.heap.size; omega)).trans hc) (h.below (hW.mono hn₀)) h0

end Go.Proofs.Ythgglblbjghamaa
