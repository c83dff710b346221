/-
  condition.Compare at what the example asks; wavestorelaw51.awake: true.
-/
import Derived.Test.YtdlebcijgdkfjaaGreatDoorApply
import Derived.Test.YtdlebcijgdkfjaaGreatDoorCmp51
import Derived.Test.YtdlebcijgdkfjaaGreatDoorOrW
import Derived.Test.YtdlebcijgdkfjaaGreatDoorTSame
namespace Go.Proofs.YtdlebcijgdkfjaaGreatDoor
open Go.RowKit Go.Joins

set_option maxRecDepth 100000 in
theorem cmp_eq (a b : ByteArray) (x y : Bool) (w : World) (hA : bitsB a.data.toList = true) (hB : bitsB b.data.toList = true) (hs : a.size = b.size) (hl : a.size ≤ 1000) (he : eqP a.data.toList b.data.toList = (x, y)) :
    Calls Tryz.prog 10 #[.int .i64 0, .int .i64 19, .string a, .string b] w fun e w' => e = .returned (.tuple #[.bool (x && y), .bool y]) ∧ Below w.heap.size w w' := by
  have HA := hide hA
  have HB := hide hB
  have HE := hide he
  have HS := hide hs
  have tne : ((a.size : Int) != (b.size : Int)) = false := by rw [hs]; simp
  have hlb : b.size ≤ 1000 := by omega
  clear hA hB he hs
  go_enter Tryz.func10, Tryz.ntmps10
  go_wp2_with fail
  refine (isBits_any a _ hl).mono ?_
  rw [HA.out]
  rintro e w1 ⟨rfl, b1⟩
  go_wp2_with fail
  refine (isBits_any b _ hlb).mono ?_
  rw [HB.out]
  rintro e w2 ⟨rfl, b2⟩
  go_wp2_with fail
  refine (equality_any a b _ HS.out hl).mono ?_
  rw [HE.out]
  rintro e w3 ⟨rfl, b3⟩
  cases x <;> cases y
  all_goals
    go_wp2_with fail
    go_ret2
    exact ⟨rfl, bstep (bstep b1 b2) b3⟩

set_option maxRecDepth 100000 in
theorem cmp_same (a : ByteArray) (w : World) (hA : bitsB a.data.toList = true) (hl : a.size ≤ 1000) :
    Calls Tryz.prog 10 #[.int .i64 0, .int .i64 21, .string a, .string a] w fun e w' => e = .returned (.tuple #[.bool true, .bool true]) ∧ Below w.heap.size w w' := by
  have HA := hide hA
  clear hA
  go_enter Tryz.func10, Tryz.ntmps10
  go_wp2_with fail
  refine (isBits_any a _ hl).mono ?_
  rw [HA.out]
  rintro e w1 ⟨rfl, b1⟩
  go_wp2_with fail
  refine (isBits_any a _ hl).mono ?_
  rw [HA.out]
  rintro e w2 ⟨rfl, b2⟩
  go_wp2_with fail
  go_ret2
  exact ⟨rfl, bstep b1 b2⟩

def nodeAnd : Nf := ⟨9, 0, ⟨#[]⟩, ⟨#[]⟩, 0, 0, 0, 0, .slice none 0 0⟩
theorem strs_two (w : World) (a b : ByteArray) : StrsAt (w.alloc (.cells #[.string a, .string b] 9)) (Lo (w.alloc (.cells #[.string a, .string b] 9)).heap.size) (some ⟨w.heap.size, 0, none⟩) [a, b] := fun _ => by
  refine ⟨w.heap.size, 0, rfl, by unfold Lo; simp, fun i r hi => ?_⟩
  have hc : ∀ j, (w.alloc (.cells #[.string a, .string b] 9)).cell? ⟨w.heap.size, j, none⟩ = (#[.string a, .string b] : Array Value)[j]? := fun j => cell_of_row _ _ j _ _ (0, 0) (heap_alloc_new w _)
  match i, hi with
  | 0, hi => simp at hi; subst hi; exact hc 0
  | 1, hi => simp at hi; subst hi; exact hc 1
  | i + 2, hi => simp at hi

set_option maxRecDepth 100000 in
set_option maxHeartbeats 4000000 in
theorem awake51 (w : World) : Calls Tryz.prog 9 #[] w fun e w' => e = .returned (.bool true) ∧ Below w.heap.size w w' := by
  go_enter Tryz.func9, Tryz.ntmps9
  go_wp2_with fail
  refine (cmp_eq ⟨#[48, 49, 120]⟩ ⟨#[49, 49, 120]⟩ false true _ rfl rfl rfl (by decide) (by rfl)).mono ?_
  rintro e w1 ⟨rfl, b1⟩
  go_wp2_with fail
  refine (cmp_eq ⟨#[48, 49, 120]⟩ ⟨#[48, 49, 48]⟩ false false _ rfl rfl rfl (by decide) (by rfl)).mono ?_
  rintro e w2 ⟨rfl, b2⟩
  go_wp2_with fail
  refine (cmp_same ⟨#[48, 49, 120]⟩ _ rfl (by decide)).mono ?_
  rintro e w3 ⟨rfl, b3⟩
  have b3' := bstep (bstep b1 b2) b3
  have HB3 := hide b3'
  clear b1 b2 b3 b3'
  go_wp2_with fail
  have hx : IvsAt (w3.alloc (.cells #[.int .i64 1, .int .i64 2] 69)) (w3.alloc (.cells #[.int .i64 1, .int .i64 2] 69)).heap.size (some ⟨w3.heap.size, 0, none⟩) [(1, 2)] :=
    ivsAt_block (t := 69) (cs := #[.int .i64 1, .int .i64 2]) (heap_alloc_new w3 _) rfl (by simp)
  have hb4 : Below w.heap.size w (w3.alloc (.cells #[.int .i64 1, .int .i64 2] 69)) := HB3.out.alloc HB3.out.size _
  refine (tor_any none none (some ⟨w3.heap.size, 0, none⟩) none 0 0 1 0 [] [] [(1, 2)] [] _ IvsAt.nil IvsAt.nil hx IvsAt.nil (by simp) (by simp) (by simp) (by simp)).mono ?_
  rintro e w4 ⟨A1, c1, y1, B1, d1, z1, rfl, o1, o2, b4, n1, n2, m1, m2⟩
  have M1 := hide (show ∀ t, Mem y1 t ↔ Mem [(1, 2)] t from fun t => (m1 t).trans (by simp [mem_lit]))
  have M2 := hide (show ∀ t, Mem z1 t ↔ Mem [] t from fun t => (m2 t).trans (by simp [mem_lit]))
  have b4' := bstep hb4 b4
  have O1 := hide o1
  have O2 := hide o2
  clear m1 m2 hx hb4 b4 o1 o2
  go_wp2_with fail
  obtain ⟨W5, hW5⟩ : ∃ W5 : World, w4.alloc (.cells #[.slice A1 y1.length c1, .slice B1 z1.length d1] 45) = W5 := ⟨_, rfl⟩
  have hz5 : W5.heap.size = w4.heap.size + 1 := by rw [← hW5]; simp
  have g5 : W5.heap[w4.heap.size]? = some (.cells #[.slice A1 y1.length c1, .slice B1 z1.length d1] 45 (0, 0)) := by rw [← hW5]; exact heap_alloc_new w4 _
  have hb5 : Below w4.heap.size w4 W5 := by rw [← hW5]; exact (Below.refl _ _).alloc (Nat.le_refl _) _
  rw [hW5]
  clear hW5
  have hs := strs_two W5 ⟨#[49, 49, 49, 49]⟩ ⟨#[48, 49, 120, 122]⟩
  rw [hz5] at hs
  have hb6 : Below W5.heap.size W5 (W5.alloc (.cells #[.string ⟨#[49, 49, 49, 49]⟩, .string ⟨#[48, 49, 120, 122]⟩] 9)) := (Below.refl _ _).alloc (Nat.le_refl _) _
  have HB5 := hide hb5
  have HG5 := hide g5
  have HZ5 := hide hz5
  have HB6 := hide hb6
  have hap : applyL 9 0 0 (vL [⟨#[49, 49, 49, 49]⟩, ⟨#[48, 49, 120, 122]⟩]) = [48, 49, 120, 120] := by decide
  have HAP := hide hap
  clear hap hb5 g5 hz5 hb6
  refine (apply_any nodeAnd (some ⟨w4.heap.size + 1, 0, none⟩) 2 [⟨#[49, 49, 49, 49]⟩, ⟨#[48, 49, 120, 122]⟩] _ hs (by simp) (by simp) (by intro v hv; simp at hv; rcases hv with rfl | rfl <;> decide) (by unfold I64; decide) (by unfold I64; decide)).mono ?_
  rintro e w6 ⟨he, b6⟩
  have he' : e = .returned (.string ⟨#[48, 49, 120, 120]⟩) := by rw [he]; exact congrArg (fun l : List UInt8 => Ending.returned (.string ⟨l.toArray⟩)) HAP.out
  clear he
  subst he'
  have HB7 := hide (bstep HB6.out b6)
  have g6 := box_below HB7.out HG5.out
  obtain ⟨q1, q2⟩ := boxT2 g6
  have b46 := bstep HB5.out HB7.out
  have HB46 := hide b46
  clear g6 b6 b46 hs
  go_wp2_with fail
  have hx7 : IvsAt (w6.alloc (.cells #[.int .i64 1, .int .i64 2] 69)) (w6.alloc (.cells #[.int .i64 1, .int .i64 2] 69)).heap.size (some ⟨w6.heap.size, 0, none⟩) [(1, 2)] :=
    ivsAt_block (t := 69) (cs := #[.int .i64 1, .int .i64 2]) (heap_alloc_new w6 _) rfl (by simp)
  have b47 : Below w4.heap.size w4 (w6.alloc (.cells #[.int .i64 1, .int .i64 2] 69)) := HB46.out.alloc HB46.out.size _
  refine (tsame_true A1 B1 (some ⟨w6.heap.size, 0, none⟩) none c1 d1 1 0 y1 z1 [(1, 2)] [] _ (O1.out.ats.step b47) (O2.out.ats.step b47) hx7 IvsAt.nil n1 n2 (norm1 (by decide)) (by simp [Norm]) M1.out M2.out).mono ?_
  rintro e w8 ⟨rfl, b8⟩
  go_wp2_with fail
  go_ret
  exact ⟨rfl, bstep (bstep b4' b47) b8⟩

end Go.Proofs.YtdlebcijgdkfjaaGreatDoor
