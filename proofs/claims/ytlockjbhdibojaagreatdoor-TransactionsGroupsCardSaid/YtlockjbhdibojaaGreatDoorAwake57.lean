/-
  wavestorelaw57.awake: true.
-/
import Derived.Test.YtlockjbhdibojaaGreatDoorZero57
namespace Go.Proofs.YtlockjbhdibojaaGreatDoor
open Go.RowKit

def ab1 : Rb := ⟨none, 0, ⟨5, 0, [], true⟩⟩
def ab2 : Rb := ⟨none, 0, ⟨7, 0, [], false⟩⟩
theorem group_two {ts : List Rt} (h : ts.map tcont = groupL [ab1.bt, ab2.bt]) : ∃ t0 t1, ts = [t0, t1] ∧ t0.done = true ∧ t1.done = false ∧ t1.bs.length = 1 := by
  have e : groupL [ab1.bt, ab2.bt] = [([ab1.bt], true), ([ab2.bt], false)] := by simp [groupL, grp, grpEnd, ab1, ab2]
  rw [e] at h
  rcases ts with _ | ⟨t0, _ | ⟨t1, _ | ⟨t2, ts⟩⟩⟩
  · simp at h
  · simp at h
  · simp only [List.map_cons, List.map_nil, List.cons.injEq, and_true, tcont, Prod.mk.injEq] at h
    exact ⟨t0, t1, rfl, h.1.2, h.2.2, by have := congrArg List.length h.2.1; simpa using this⟩
  · simp at h

def ab3 : Rb := ⟨none, 0, ⟨5, 0, [], false⟩⟩
theorem ints_two (w : World) (a b : Int) : IntsAt (w.alloc (.cells #[.int .i64 a, .int .i64 b] 3)) (fun k => k = w.heap.size) (some ⟨w.heap.size, 0, none⟩) [a, b] := fun _ => by
  refine ⟨w.heap.size, 0, rfl, rfl, fun i r hi => ?_⟩
  have hc : ∀ j, (w.alloc (.cells #[.int .i64 a, .int .i64 b] 3)).cell? ⟨w.heap.size, j, none⟩ = (#[.int .i64 a, .int .i64 b] : Array Value)[j]? := fun j => cell_of_row _ _ j _ _ (0, 0) (heap_alloc_new w _)
  match i, hi with
  | 0, hi => simp at hi; subst hi; exact hc 0
  | 1, hi => simp at hi; subst hi; exact hc 1
  | i + 2, hi => simp at hi
theorem beat_one (w : World) : BeatsAt (w.alloc (.cells #[.int .i64 5, .int .i64 0, .slice none 0 0, .bool false] 27)) (fun k => k = w.heap.size) (some ⟨w.heap.size, 0, none⟩) [ab3] := fun _ => by
  refine ⟨w.heap.size, 0, rfl, rfl, fun i r hi => ?_⟩
  have hc : ∀ j, (w.alloc (.cells #[.int .i64 5, .int .i64 0, .slice none 0 0, .bool false] 27)).cell? ⟨w.heap.size, j, none⟩ = (#[.int .i64 5, .int .i64 0, .slice none 0 0, .bool false] : Array Value)[j]? := fun j => cell_of_row _ _ j _ _ (0, 0) (heap_alloc_new w _)
  match i, hi with
  | 0, hi => simp at hi; subst hi; exact ⟨hc 0, hc 1, hc 2, hc 3, StrsAt.nil⟩
  | i + 1, hi => simp at hi

set_option maxRecDepth 100000 in
set_option maxHeartbeats 4000000 in
theorem awake57 (w : World) : Calls Tryz.prog 5 #[] w fun e w' => e = .returned (.bool true) ∧ Below w.heap.size w w' := by
  have hb0 : Below w.heap.size w (w.alloc (.cells #[.int .i64 5, .int .i64 0, .slice none 0 0, .bool true, .int .i64 7, .int .i64 0, .slice none 0 0, .bool false] 27)) := (Below.refl _ _).alloc (Nat.le_refl _) _
  have hA : BeatsAt (w.alloc (.cells #[.int .i64 5, .int .i64 0, .slice none 0 0, .bool true, .int .i64 7, .int .i64 0, .slice none 0 0, .bool false] 27)) (Lo (w.alloc (.cells #[.int .i64 5, .int .i64 0, .slice none 0 0, .bool true, .int .i64 7, .int .i64 0, .slice none 0 0, .bool false] 27)).heap.size) (some ⟨w.heap.size, 0, none⟩) [ab1, ab2] := fun _ => by
    refine ⟨w.heap.size, 0, rfl, by unfold Lo; simp, fun i r hi => ?_⟩
    have hc : ∀ j, (w.alloc (.cells #[.int .i64 5, .int .i64 0, .slice none 0 0, .bool true, .int .i64 7, .int .i64 0, .slice none 0 0, .bool false] 27)).cell? ⟨w.heap.size, j, none⟩ = (#[.int .i64 5, .int .i64 0, .slice none 0 0, .bool true, .int .i64 7, .int .i64 0, .slice none 0 0, .bool false] : Array Value)[j]? := fun j => cell_of_row _ _ j _ _ (0, 0) (heap_alloc_new w _)
    match i, hi with
    | 0, hi => simp at hi; subst hi; exact ⟨hc 0, hc 1, hc 2, hc 3, StrsAt.nil⟩
    | 1, hi => simp at hi; subst hi; exact ⟨hc 4, hc 5, hc 6, hc 7, StrsAt.nil⟩
    | i + 2, hi => simp at hi
  go_enter Tryz.func5, Tryz.ntmps5
  go_wp2_with fail
  refine (group_any (some ⟨w.heap.size, 0, none⟩) 2 [ab1, ab2] _ hA (by simp) (by simp [ab1, ab2])).mono ?_
  rintro e w1 ⟨A1, c1, ts, rfl, ht, b1, hg⟩
  obtain ⟨t0, t1, rfl, d0, d1, l1⟩ := group_two hg
  obtain ⟨g, o, hA1, hgl, q1, q2, _⟩ := ht.at_ (k := 0) (by simp)
  obtain ⟨g', o', hA1', hgl', p1, p2, _⟩ := ht.at_ (k := 1) (by simp)
  subst hA1
  injection hA1' with hA1'
  injection hA1' with e1 e2
  subst e1 e2
  simp only [List.getElem_cons_zero, List.getElem_cons_succ, d0, d1, l1, Nat.zero_mul, Nat.add_zero, Nat.one_mul] at q1 q2 p1 p2
  clear hg ht hA
  have hb1 := bstep hb0 b1
  go_wp2_with fail
  have i1 := ints_two w1 3 8
  have i2 := beat_one (w1.alloc (.cells #[.int .i64 3, .int .i64 8] 3))
  have hlat : ([3, 8] : List Int).map (fun t => latOf t ([ab3].map Rb.bt)) = [2, -1] := by simp [latOf, latStep, ab3]
  have HLAT := hide hlat
  clear hlat
  obtain ⟨W2, hW2⟩ : ∃ W2 : World, (w1.alloc (.cells #[.int .i64 3, .int .i64 8] 3)).alloc (.cells #[.int .i64 5, .int .i64 0, .slice none 0 0, .bool false] 27) = W2 := ⟨_, rfl⟩
  have hz2 : W2.heap.size = w1.heap.size + 2 := by rw [← hW2]; simp
  have i1' : IntsAt W2 (Lo W2.heap.size) (some ⟨w1.heap.size, 0, none⟩) [3, 8] := by
    rw [← hW2]
    exact (i1.stay (stay_alloc _ fun b hb => by subst hb; simp)).more fun b hb => by subst hb; unfold Lo; simp; omega
  have i2' : BeatsAt W2 (Lo W2.heap.size) (some ⟨w1.heap.size + 1, 0, none⟩) [ab3] := by
    rw [hW2] at i2
    have := i2.more (P' := Lo W2.heap.size) fun b hb => by subst hb; unfold Lo; rw [hz2]; simp
    simpa using this
  have hb2 : Below w.heap.size w W2 := by rw [← hW2]; exact (hb1.alloc hb1.size _).alloc (by have := hb1.size; simp; omega) _
  rw [hW2]
  clear hW2 i1 i2 hz2 q1 q2 p1 p2
  refine (lat_any (some ⟨w1.heap.size, 0, none⟩) (some ⟨w1.heap.size + 1, 0, none⟩) 2 1 [3, 8] [ab3] W2 i1' i2' (by simp) (by simp) (by simp [Tm]) (by simp [Tm, ab3])).mono ?_
  rw [HLAT.out]
  rintro e w3 ⟨A3, c3, rfl, h3, b3⟩
  have hb3 := bstep hb2 b3
  go_wp2_with fail
  have i3 := ints_two w3 2 (-1)
  have hb4 : Below w.heap.size w (w3.alloc (.cells #[.int .i64 2, .int .i64 (-1)] 3)) := hb3.alloc hb3.size _
  refine (ints_true (Lo w3.heap.size) (fun k => k = w3.heap.size) A3 (some ⟨w3.heap.size, 0, none⟩) c3 2 [2, -1] _ (h3.stay (stay_alloc _ fun b hb => hb)) i3 (by simp)).mono ?_
  rintro e w5 ⟨rfl, b5⟩
  have hb5 := bstep hb4 b5
  go_wp2_with (go_at_call 13; refine (valid_zero _).mono ?_; rintro e w6 ⟨rfl, b6⟩)
  go_ret
  exact ⟨rfl, bstep hb5 b6⟩

end Go.Proofs.YtlockjbhdibojaaGreatDoor
