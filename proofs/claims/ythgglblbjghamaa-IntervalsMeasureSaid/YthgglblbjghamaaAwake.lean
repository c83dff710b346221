/-
  wavestorelaw46.awake: the chapter's examples hold.
-/
import Derived.Test.YthgglblbjghamaaSameLaw
namespace Go.Proofs.Ythgglblbjghamaa
open Go.RowKit Go.Joins

theorem mem_lit {t : Int} : Mem [] t ↔ False := by simp [mem_nil]
theorem awake_normal (t : Int) : Mem [(5, 7), (1, 2), (3, 3), (9, 8)] t ↔ Mem [(1, 3), (5, 7)] t := by
  simp only [mem_cons, mem_lit, or_false]; omega
theorem awake_grow (t : Int) : growS (Mem [(10, 12)]) 0 3 0 20 t ↔ Mem [(7, 12)] t := by
  unfold growS Time
  simp only [mem_cons, mem_lit, dlyB_iff, or_false]
  constructor
  · rintro ⟨_, h1, h2, h3, u, h4, h5, h6⟩; omega
  · rintro h; exact ⟨by omega, by omega, by omega, by omega, max t 10, by omega, by omega, by omega⟩
theorem awake_shrink (t : Int) : ¬ shrinkS (Mem [(10, 12)]) 0 3 0 20 t := by
  unfold shrinkS
  rintro ⟨hd, h1, h2, h3, h4⟩
  unfold Time at h3
  apply h4
  refine ⟨hd, h1, h2, h3, ?_⟩
  by_cases h : 10 ≤ t ∧ t ≤ 12
  · exact ⟨13, by omega, by omega, by omega, by omega, by unfold Time; omega, by simp only [mem_cons, mem_lit, or_false]; omega⟩
  · exact ⟨t, by omega, by omega, by omega, by omega, by unfold Time; omega, by simp only [mem_cons, mem_lit, or_false]; omega⟩
theorem awake_shrink2 (t : Int) : shrinkS (Mem [(10, 12)]) 0 3 0 12 t ↔ Mem [(10, 12)] t := by
  unfold shrinkS
  constructor
  · rintro ⟨hd, h1, h2, h3, h4⟩
    unfold Time at h3
    by_cases h : 10 ≤ t ∧ t ≤ 12
    · simp only [mem_cons, mem_lit, or_false]; omega
    · exact absurd ⟨hd, h1, h2, h3, t, by omega, by omega, by omega, by omega, by unfold Time; omega, by simp only [mem_cons, mem_lit, or_false]; omega⟩ h4
  · intro h
    simp only [mem_cons, mem_lit, or_false] at h
    refine ⟨by rw [dlyB_iff]; omega, by omega, by omega, by unfold Time; omega, ?_⟩
    rintro ⟨_, _, _, _, u, h5, h6, h7, h8, h9, h10⟩
    simp only [mem_cons, mem_lit, or_false] at h10
    unfold Time at h9
    omega

theorem norm2 : Norm [(1, 3), (5, 7)] := by simp [norm_cons, Norm.nil, Okv]
theorem norm1 {a b : Int} (h : 0 ≤ a ∧ a ≤ b ∧ b ≤ 1099511627776) : Norm [(a, b)] := by rw [norm_cons]; exact ⟨h, by simp, Norm.nil⟩

theorem ivsAt_block {w : World} {g B : Nat} {cs : Array Value} {t : TypeId} {xs : List Iv} (h : w.heap[g]? = some (.cells cs t (0, 0))) (hcs : cs.toList = encIvs xs) (hB : g < B) : IvsAt w B (some ⟨g, 0, none⟩) xs := fun _ => by
  refine ⟨g, 0, rfl, hB, fun i x hi => ?_⟩
  obtain ⟨e1, e2⟩ := encIvs_at hi
  rw [← hcs, Array.getElem?_toList] at e1 e2
  exact ⟨by rw [Nat.zero_add, cell_of_row w g _ cs t (0, 0) h, e1], by rw [Nat.zero_add, cell_of_row w g _ cs t (0, 0) h, e2]⟩

set_option maxHeartbeats 1000000 in
theorem awake_any (w : World) : Calls Try.prog 12 #[] w fun e w' => e = .returned (.bool true) ∧ Below w.heap.size w w' := by
  go_enter Try.func12, Try.ntmps12
  go_wp2_with fail
  obtain ⟨W0, hW0⟩ : ∃ W0 : World, ((w.alloc (.cells #[.int .i64 5, .int .i64 7, .int .i64 1, .int .i64 2, .int .i64 3, .int .i64 3, .int .i64 9, .int .i64 8] 52)).alloc (.cells #[.int .i64 10, .int .i64 12] 52)) = W0 := ⟨_, rfl⟩
  have hb0 : Below w.heap.size w W0 := by rw [← hW0]; exact ((Below.refl _ _).alloc (Nat.le_refl _) _).alloc (by simp) _
  have hz0 : W0.heap.size = w.heap.size + 2 := by rw [← hW0]; simp
  have rl : IvsAt W0 W0.heap.size (some ⟨w.heap.size, 0, none⟩) [(5, 7), (1, 2), (3, 3), (9, 8)] := ivsAt_block (t := 52) (cs := #[.int .i64 5, .int .i64 7, .int .i64 1, .int .i64 2, .int .i64 3, .int .i64 3, .int .i64 9, .int .i64 8]) (by rw [← hW0]; exact box_alloc (heap_alloc_new w _)) rfl (by omega)
  have rx : IvsAt W0 W0.heap.size (some ⟨w.heap.size + 1, 0, none⟩) [(10, 12)] := ivsAt_block (t := 52) (cs := #[.int .i64 10, .int .i64 12]) (by rw [← hW0]; have := heap_alloc_new (w.alloc (.cells #[.int .i64 5, .int .i64 7, .int .i64 1, .int .i64 2, .int .i64 3, .int .i64 3, .int .i64 9, .int .i64 8] 52)) (.cells #[.int .i64 10, .int .i64 12] 52); simpa using this) rfl (by omega)
  rw [hW0]
  clear hW0
  refine (normal_any _ 4 [(5, 7), (1, 2), (3, 3), (9, 8)] _ rl (by simp)).mono ?_
  rintro e w1 ⟨A1, c1, ys, rfl, hown, hb1, hn, hm⟩
  have HM := hide hm
  clear hm
  go_wp2_with fail
  refine (same_true A1 _ c1 2 ys [(1, 3), (5, 7)] _ (hown.ats.alloc _) (ivsAt_block (t := 52) (cs := #[.int .i64 1, .int .i64 3, .int .i64 5, .int .i64 7]) (heap_alloc_new w1 _) rfl (by simp)) hn norm2 (fun t => (HM.out t).trans (awake_normal t))).mono ?_
  rintro e w2 ⟨rfl, hb2⟩
  have rx2 := ((rx.step hb1).alloc _).step hb2
  have hbw2 : Below w.heap.size w w2 := ((hb0.trans (hb1.mono hb0.size)).alloc (Nat.le_trans hb0.size hb1.size) _).trans (hb2.mono (by have := hb0.size; have := hb1.size; simp; omega))
  clear HM hn hown hb1 hb2 hb0 rl rx
  go_wp2_with fail
  refine (grow_any _ 1 [(10, 12)] 0 3 0 20 _ rx2 (by simp)).mono ?_
  rintro e w3 ⟨A3, c3, ys3, rfl, hown3, hb3, hn3, hm3⟩
  have HM3 := hide hm3
  clear hm3
  go_wp2_with fail
  refine (same_true A3 _ c3 1 ys3 [(7, 12)] _ (hown3.ats.alloc _) (ivsAt_block (t := 52) (cs := #[.int .i64 7, .int .i64 12]) (heap_alloc_new w3 _) rfl (by simp)) hn3 (norm1 (by omega)) (fun t => (HM3.out t).trans (awake_grow t))).mono ?_
  rintro e w4 ⟨rfl, hb4⟩
  have rx4 := ((rx2.step hb3).alloc _).step hb4
  have hbw4 : Below w.heap.size w w4 := ((hbw2.trans (hb3.mono hbw2.size)).alloc (Nat.le_trans hbw2.size hb3.size) _).trans (hb4.mono (by have := hbw2.size; have := hb3.size; simp; omega))
  clear HM3 hn3 hown3 hb3 hb4 rx2 hbw2
  go_wp2_with fail
  refine (shrink_any _ 1 [(10, 12)] 0 3 0 20 _ rx4 (by simp)).mono ?_
  rintro e w5 ⟨A5, c5, ys5, rfl, hown5, hb5, hn5, hm5⟩
  have e5 : ys5 = [] := norm_ext hn5 Norm.nil (fun t => by rw [hm5]; simp [awake_shrink t, mem_nil])
  subst e5
  have rx5 := rx4.step hb5
  have hbw5 : Below w.heap.size w w5 := hbw4.trans (hb5.mono hbw4.size)
  clear hm5 hn5 hown5 hb5 rx4 hbw4
  go_wp2_with fail
  refine (shrink_any _ 1 [(10, 12)] 0 3 0 12 _ rx5 (by simp)).mono ?_
  rintro e w6 ⟨A6, c6, ys6, rfl, hown6, hb6, hn6, hm6⟩
  have HM6 := hide hm6
  clear hm6
  go_wp2_with fail
  refine (same_true A6 _ c6 1 ys6 [(10, 12)] _ hown6.ats (rx5.step hb6) hn6 (norm1 (by omega)) (fun t => (HM6.out t).trans (awake_shrink2 t))).mono ?_
  rintro e w7 ⟨rfl, hb7⟩
  have hbw7 : Below w.heap.size w w7 := (hbw5.trans (hb6.mono hbw5.size)).trans (hb7.mono (Nat.le_trans hbw5.size hb6.size))
  clear HM6 hn6 hown6 hb6 hb7 rx5 hbw5
  go_wp2_with fail
  go_ret
  exact ⟨rfl, hbw7⟩
def fewB (n m : Nat) : Bool := decide (n ≤ 24 ∧ m ≤ 24)
theorem fewB_iff {n m : Nat} : fewB n m = true ↔ n ≤ 24 ∧ m ≤ 24 := by simp [fewB]
theorem fewB_no {n m : Nat} (h : ¬ (n ≤ 24 ∧ m ≤ 24)) : fewB n m = false := decide_eq_false h
theorem few_any (A B : Option Addr) (n m c d : Nat) (w : World) :
    Calls Try.prog 11 #[.slice A n c, .slice B m d] w fun e w' => e = .returned (.bool (fewB n m)) ∧ w = w' := by
  by_cases h1 : n ≤ 24
  · have d1 : decide ((n : Int) ≤ 24) = true := decide_eq_true (by omega)
    by_cases h2 : m ≤ 24
    · have HD := hide (fewB_iff.2 ⟨h1, h2⟩)
      have d2 : decide ((m : Int) ≤ 24) = true := decide_eq_true (by omega)
      go_enter Try.func11, Try.ntmps11
      go_wp2
      go_ret
      exact ⟨by rw [HD.out]; rfl, rfl⟩
    · have HD := hide (fewB_no (n := n) (m := m) (fun h => h2 h.2))
      have d2 : decide ((m : Int) ≤ 24) = false := decide_eq_false (by omega)
      go_enter Try.func11, Try.ntmps11
      go_wp2
      go_ret
      exact ⟨by rw [HD.out]; rfl, rfl⟩
  · have HD := hide (fewB_no (n := n) (m := m) (fun h => h1 h.1))
    have d1 : decide ((n : Int) ≤ 24) = false := decide_eq_false (by omega)
    go_enter Try.func11, Try.ntmps11
    go_wp2
    go_ret
    exact ⟨by rw [HD.out]; rfl, rfl⟩

end Go.Proofs.Ythgglblbjghamaa
