/-
  wavestorelaw52.awake: the chapter's examples hold.
-/
import Derived.Test.YtkbiefklilelmaaAll
namespace Go.Proofs.Ytkbiefklilelmaa
open Go.RowKit Go.Joins

theorem mem_lit {t : Int} : Mem [] t ↔ False := by simp [mem_nil]
theorem norm1 {a b : Int} (h : 0 ≤ a ∧ a ≤ b ∧ b ≤ 1099511627776) : Norm [(a, b)] := by rw [norm_cons]; exact ⟨h, by simp, Norm.nil⟩
theorem ivsAt_block {w : World} {g B : Nat} {cs : Array Value} {t : TypeId} {xs : List Iv} (h : w.heap[g]? = some (.cells cs t (0, 0))) (hcs : cs.toList = encIvs xs) (hB : g < B) : IvsAt w B (some ⟨g, 0, none⟩) xs := fun _ => by
  refine ⟨g, 0, rfl, hB, fun i x hi => ?_⟩
  obtain ⟨e1, e2⟩ := encIvs_at hi
  rw [← hcs, Array.getElem?_toList] at e1 e2
  exact ⟨by rw [Nat.zero_add, cell_of_row w g _ cs t (0, 0) h, e1], by rw [Nat.zero_add, cell_of_row w g _ cs t (0, 0) h, e2]⟩

theorem field_tr0 (a b : Value) (w : World) : Sem.run Try.prog (Instr.field 24 (.agg #[a, b]) 0) w = .ok a w := by
  simp [Instr.field, go_sem, asAgg]

theorem aw1 (t : Int) : someS (Mem [(5, 6)]) 0 2 0 9 t ↔ Mem [(3, 6)] t := by
  unfold someS clipS
  simp only [mem_cons, mem_lit, or_false, alwB_iff]
  constructor
  · rintro ⟨_, h1, h2, u, h3, h4, h5, h6, h7⟩; omega
  · intro h; exact ⟨by omega, by omega, by omega, max t 5, by omega, by omega, by omega, by omega, by omega⟩
theorem aw2 (t : Int) : allS (Mem [(5, 6)]) 0 1 0 9 t ↔ Mem [(5, 5)] t := by
  unfold allS
  simp only [mem_cons, mem_lit, or_false, alwB_iff]
  constructor
  · rintro ⟨_, h1, h2, h3⟩
    have a1 := h3 t (by omega) (by omega) (by omega) (by omega)
    have a2 := h3 (t + 1) (by omega) (by omega) (by omega)
    omega
  · intro h; exact ⟨by omega, by omega, by omega, fun u _ _ _ _ => by omega⟩
theorem aw3 (t : Int) : allS (Mem [(7, 9)]) 0 9 0 9 t ↔ Mem [(7, 9)] t := by
  unfold allS
  simp only [mem_cons, mem_lit, or_false, alwB_iff]
  constructor
  · rintro ⟨_, h1, h2, h3⟩
    have a1 := h3 t (by omega) (by omega) (by omega) (by omega)
    omega
  · intro h; exact ⟨by omega, by omega, by omega, fun u _ _ _ _ => by omega⟩

set_option maxRecDepth 100000 in
theorem tawake_any (w : World) : Calls Try.prog 13 #[] w fun e w' => e = .returned (.bool true) ∧ Below w.heap.size w w' := by
  have hfld := field_tr0
  go_enter Try.func13, Try.ntmps13
  go_wp2_with fail
  obtain ⟨W0, hW0⟩ : ∃ W0 : World, ((((((w.alloc (.cells #[.int .i64 5, .int .i64 6] 42)).alloc (.cells #[.int .i64 0, .int .i64 4, .int .i64 7, .int .i64 9] 42)).alloc (.cells #[.slice (some ⟨w.heap.size, 0, none⟩) 1 1, .slice (some ⟨w.heap.size + 1, 0, none⟩) 2 2] 24)).alloc (.cells #[.int .i64 7, .int .i64 9] 42)).alloc (.cells #[.int .i64 0, .int .i64 6] 42)).alloc (.cells #[.slice (some ⟨w.heap.size + 1 + 1 + 1, 0, none⟩) 1 1, .slice (some ⟨w.heap.size + 1 + 1 + 1 + 1, 0, none⟩) 1 1] 24)) = W0 := ⟨_, rfl⟩
  have hb0 : Below w.heap.size w W0 := by rw [← hW0]; exact ((((((Below.refl _ _).alloc (Nat.le_refl _) _).alloc (by simp) _).alloc (by simp; omega) _).alloc (by simp; omega) _).alloc (by simp; omega) _).alloc (by simp; omega) _
  have hz0 : W0.heap.size = w.heap.size + 6 := by rw [← hW0]; simp
  have g0 : W0.heap[w.heap.size]? = some (.cells #[.int .i64 5, .int .i64 6] 42 (0, 0)) := by rw [← hW0]; exact box_alloc (box_alloc (box_alloc (box_alloc (box_alloc ((heap_alloc_new w _ : (w.alloc (.cells #[.int .i64 5, .int .i64 6] 42)).heap[w.heap.size]? = some (.cells #[.int .i64 5, .int .i64 6] 42 (0, 0))))))))
  have g1 : W0.heap[w.heap.size + 1]? = some (.cells #[.int .i64 0, .int .i64 4, .int .i64 7, .int .i64 9] 42 (0, 0)) := by rw [← hW0]; exact box_alloc (box_alloc (box_alloc (box_alloc (((by simpa using heap_alloc_new (w.alloc (.cells #[.int .i64 5, .int .i64 6] 42)) (.cells #[.int .i64 0, .int .i64 4, .int .i64 7, .int .i64 9] 42)) : ((w.alloc (.cells #[.int .i64 5, .int .i64 6] 42)).alloc (.cells #[.int .i64 0, .int .i64 4, .int .i64 7, .int .i64 9] 42)).heap[w.heap.size + 1]? = some (.cells #[.int .i64 0, .int .i64 4, .int .i64 7, .int .i64 9] 42 (0, 0)))))))
  have g2 : W0.heap[w.heap.size + 1 + 1]? = some (.cells #[.slice (some ⟨w.heap.size, 0, none⟩) 1 1, .slice (some ⟨w.heap.size + 1, 0, none⟩) 2 2] 24 (0, 0)) := by rw [← hW0]; exact box_alloc (box_alloc (box_alloc (((by simpa using heap_alloc_new ((w.alloc (.cells #[.int .i64 5, .int .i64 6] 42)).alloc (.cells #[.int .i64 0, .int .i64 4, .int .i64 7, .int .i64 9] 42)) (.cells #[.slice (some ⟨w.heap.size, 0, none⟩) 1 1, .slice (some ⟨w.heap.size + 1, 0, none⟩) 2 2] 24)) : (((w.alloc (.cells #[.int .i64 5, .int .i64 6] 42)).alloc (.cells #[.int .i64 0, .int .i64 4, .int .i64 7, .int .i64 9] 42)).alloc (.cells #[.slice (some ⟨w.heap.size, 0, none⟩) 1 1, .slice (some ⟨w.heap.size + 1, 0, none⟩) 2 2] 24)).heap[w.heap.size + 1 + 1]? = some (.cells #[.slice (some ⟨w.heap.size, 0, none⟩) 1 1, .slice (some ⟨w.heap.size + 1, 0, none⟩) 2 2] 24 (0, 0))))))
  have g3 : W0.heap[w.heap.size + 1 + 1 + 1]? = some (.cells #[.int .i64 7, .int .i64 9] 42 (0, 0)) := by rw [← hW0]; exact box_alloc (box_alloc (((by simpa using heap_alloc_new (((w.alloc (.cells #[.int .i64 5, .int .i64 6] 42)).alloc (.cells #[.int .i64 0, .int .i64 4, .int .i64 7, .int .i64 9] 42)).alloc (.cells #[.slice (some ⟨w.heap.size, 0, none⟩) 1 1, .slice (some ⟨w.heap.size + 1, 0, none⟩) 2 2] 24)) (.cells #[.int .i64 7, .int .i64 9] 42)) : ((((w.alloc (.cells #[.int .i64 5, .int .i64 6] 42)).alloc (.cells #[.int .i64 0, .int .i64 4, .int .i64 7, .int .i64 9] 42)).alloc (.cells #[.slice (some ⟨w.heap.size, 0, none⟩) 1 1, .slice (some ⟨w.heap.size + 1, 0, none⟩) 2 2] 24)).alloc (.cells #[.int .i64 7, .int .i64 9] 42)).heap[w.heap.size + 1 + 1 + 1]? = some (.cells #[.int .i64 7, .int .i64 9] 42 (0, 0)))))
  have g4 : W0.heap[w.heap.size + 1 + 1 + 1 + 1]? = some (.cells #[.int .i64 0, .int .i64 6] 42 (0, 0)) := by rw [← hW0]; exact box_alloc (((by simpa using heap_alloc_new ((((w.alloc (.cells #[.int .i64 5, .int .i64 6] 42)).alloc (.cells #[.int .i64 0, .int .i64 4, .int .i64 7, .int .i64 9] 42)).alloc (.cells #[.slice (some ⟨w.heap.size, 0, none⟩) 1 1, .slice (some ⟨w.heap.size + 1, 0, none⟩) 2 2] 24)).alloc (.cells #[.int .i64 7, .int .i64 9] 42)) (.cells #[.int .i64 0, .int .i64 6] 42)) : (((((w.alloc (.cells #[.int .i64 5, .int .i64 6] 42)).alloc (.cells #[.int .i64 0, .int .i64 4, .int .i64 7, .int .i64 9] 42)).alloc (.cells #[.slice (some ⟨w.heap.size, 0, none⟩) 1 1, .slice (some ⟨w.heap.size + 1, 0, none⟩) 2 2] 24)).alloc (.cells #[.int .i64 7, .int .i64 9] 42)).alloc (.cells #[.int .i64 0, .int .i64 6] 42)).heap[w.heap.size + 1 + 1 + 1 + 1]? = some (.cells #[.int .i64 0, .int .i64 6] 42 (0, 0))))
  have g5 : W0.heap[w.heap.size + 1 + 1 + 1 + 1 + 1]? = some (.cells #[.slice (some ⟨w.heap.size + 1 + 1 + 1, 0, none⟩) 1 1, .slice (some ⟨w.heap.size + 1 + 1 + 1 + 1, 0, none⟩) 1 1] 24 (0, 0)) := by rw [← hW0]; exact ((by simpa using heap_alloc_new (((((w.alloc (.cells #[.int .i64 5, .int .i64 6] 42)).alloc (.cells #[.int .i64 0, .int .i64 4, .int .i64 7, .int .i64 9] 42)).alloc (.cells #[.slice (some ⟨w.heap.size, 0, none⟩) 1 1, .slice (some ⟨w.heap.size + 1, 0, none⟩) 2 2] 24)).alloc (.cells #[.int .i64 7, .int .i64 9] 42)).alloc (.cells #[.int .i64 0, .int .i64 6] 42)) (.cells #[.slice (some ⟨w.heap.size + 1 + 1 + 1, 0, none⟩) 1 1, .slice (some ⟨w.heap.size + 1 + 1 + 1 + 1, 0, none⟩) 1 1] 24)) : ((((((w.alloc (.cells #[.int .i64 5, .int .i64 6] 42)).alloc (.cells #[.int .i64 0, .int .i64 4, .int .i64 7, .int .i64 9] 42)).alloc (.cells #[.slice (some ⟨w.heap.size, 0, none⟩) 1 1, .slice (some ⟨w.heap.size + 1, 0, none⟩) 2 2] 24)).alloc (.cells #[.int .i64 7, .int .i64 9] 42)).alloc (.cells #[.int .i64 0, .int .i64 6] 42)).alloc (.cells #[.slice (some ⟨w.heap.size + 1 + 1 + 1, 0, none⟩) 1 1, .slice (some ⟨w.heap.size + 1 + 1 + 1 + 1, 0, none⟩) 1 1] 24)).heap[w.heap.size + 1 + 1 + 1 + 1 + 1]? = some (.cells #[.slice (some ⟨w.heap.size + 1 + 1 + 1, 0, none⟩) 1 1, .slice (some ⟨w.heap.size + 1 + 1 + 1 + 1, 0, none⟩) 1 1] 24 (0, 0)))
  rw [hW0]
  clear hW0
  have rx : IvsAt W0 W0.heap.size (some ⟨w.heap.size, 0, none⟩) [(5, 6)] := ivsAt_block (t := 42) (cs := #[.int .i64 5, .int .i64 6]) g0 rfl (by omega)
  have rz : IvsAt W0 W0.heap.size (some ⟨w.heap.size + 1, 0, none⟩) [(0, 4), (7, 9)] := ivsAt_block (t := 42) (cs := #[.int .i64 0, .int .i64 4, .int .i64 7, .int .i64 9]) g1 rfl (by omega)
  have ry : IvsAt W0 W0.heap.size (some ⟨w.heap.size + 1 + 1 + 1, 0, none⟩) [(7, 9)] := ivsAt_block (t := 42) (cs := #[.int .i64 7, .int .i64 9]) g3 rfl (by omega)
  have ru : IvsAt W0 W0.heap.size (some ⟨w.heap.size + 1 + 1 + 1 + 1, 0, none⟩) [(0, 6)] := ivsAt_block (t := 42) (cs := #[.int .i64 0, .int .i64 6]) g4 rfl (by omega)
  clear g0 g1 g3 g4
  refine (some_any _ _ 1 2 [(5, 6)] [(0, 4), (7, 9)] 0 2 0 9 _ rx rz (by simp) (by simp)).mono ?_
  rintro e w1 ⟨A1, c1, x1, B1, d1, z1, rfl, ox1, oz1, b1, nx1, nz1, mx1, mz1⟩
  have M1 := hide mx1
  clear mx1 mz1 oz1 nz1
  replace g2 := below_box b1 (box_lt g2) g2
  replace g5 := below_box b1 (box_lt g5) g5
  replace rx := rx.step b1
  replace rz := rz.step b1
  replace ry := ry.step b1
  replace ru := ru.step b1
  replace hb0 := bstep hb0 b1
  go_wp2_with fail
  refine (sameR_true A1 _ c1 1 x1 [(3, 6)] _ (ox1.ats.alloc _) (ivsAt_block (t := 42) (cs := #[.int .i64 3, .int .i64 6]) (heap_alloc_new w1 _) rfl (by simp)) nx1 (norm1 (by omega)) (fun t => (M1.out t).trans (aw1 t))).mono ?_
  rintro e v1 ⟨rfl, bb1⟩
  have ba1 : Below w1.heap.size w1 v1 := ((Below.refl _ _).alloc (Nat.le_refl _) _).trans (bb1.mono (by simp))
  replace g2 := below_box ba1 (box_lt g2) g2
  replace g5 := below_box ba1 (box_lt g5) g5
  replace rx := rx.step ba1
  replace rz := rz.step ba1
  replace ry := ry.step ba1
  replace ru := ru.step ba1
  replace hb0 := bstep hb0 ba1
  have q10 := (box2 g2).1
  have q11 := (box2 g2).2
  have p10 := (box2 g5).1
  have p11 := (box2 g5).2
  clear M1 ox1 nx1 b1 bb1 ba1
  go_wp2_with fail
  refine (all_any _ _ 1 2 [(5, 6)] [(0, 4), (7, 9)] 0 1 0 9 _ rx rz (by simp) (by simp)).mono ?_
  rintro e w2 ⟨A2, c2, x2, B2, d2, z2, rfl, ox2, oz2, b2, nx2, nz2, mx2, mz2⟩
  have M2 := hide mx2
  clear mx2 mz2 oz2 nz2
  replace g2 := below_box b2 (box_lt g2) g2
  replace g5 := below_box b2 (box_lt g5) g5
  replace rx := rx.step b2
  replace rz := rz.step b2
  replace ry := ry.step b2
  replace ru := ru.step b2
  replace hb0 := bstep hb0 b2
  go_wp2_with fail
  refine (sameR_true A2 _ c2 1 x2 [(5, 5)] _ (ox2.ats.alloc _) (ivsAt_block (t := 42) (cs := #[.int .i64 5, .int .i64 5]) (heap_alloc_new w2 _) rfl (by simp)) nx2 (norm1 (by omega)) (fun t => (M2.out t).trans (aw2 t))).mono ?_
  rintro e v2 ⟨rfl, bb2⟩
  have ba2 : Below w2.heap.size w2 v2 := ((Below.refl _ _).alloc (Nat.le_refl _) _).trans (bb2.mono (by simp))
  replace g2 := below_box ba2 (box_lt g2) g2
  replace g5 := below_box ba2 (box_lt g5) g5
  replace rx := rx.step ba2
  replace rz := rz.step ba2
  replace ry := ry.step ba2
  replace ru := ru.step ba2
  replace hb0 := bstep hb0 ba2
  have q20 := (box2 g2).1
  have q21 := (box2 g2).2
  have p20 := (box2 g5).1
  have p21 := (box2 g5).2
  clear M2 ox2 nx2 b2 bb2 ba2
  go_wp2_with fail
  refine (all_any _ _ 1 1 [(7, 9)] [(0, 6)] 0 9 0 9 _ ry ru (by simp) (by simp)).mono ?_
  rintro e w3 ⟨A3, c3, x3, B3, d3, z3, rfl, ox3, oz3, b3, nx3, nz3, mx3, mz3⟩
  have M3 := hide mx3
  clear mx3 mz3 oz3 nz3
  replace g2 := below_box b3 (box_lt g2) g2
  replace g5 := below_box b3 (box_lt g5) g5
  replace rx := rx.step b3
  replace rz := rz.step b3
  replace ry := ry.step b3
  replace ru := ru.step b3
  replace hb0 := bstep hb0 b3
  go_wp2_with fail
  refine (sameR_true A3 _ c3 1 x3 [(7, 9)] _ (ox3.ats.alloc _) (ivsAt_block (t := 42) (cs := #[.int .i64 7, .int .i64 9]) (heap_alloc_new w3 _) rfl (by simp)) nx3 (norm1 (by omega)) (fun t => (M3.out t).trans (aw3 t))).mono ?_
  rintro e v3 ⟨rfl, bb3⟩
  have ba3 : Below w3.heap.size w3 v3 := ((Below.refl _ _).alloc (Nat.le_refl _) _).trans (bb3.mono (by simp))
  replace g2 := below_box ba3 (box_lt g2) g2
  replace g5 := below_box ba3 (box_lt g5) g5
  replace rx := rx.step ba3
  replace rz := rz.step ba3
  replace ry := ry.step ba3
  replace ru := ru.step ba3
  replace hb0 := bstep hb0 ba3
  have q30 := (box2 g2).1
  have q31 := (box2 g2).2
  have p30 := (box2 g5).1
  have p31 := (box2 g5).2
  clear M3 ox3 nx3 b3 bb3 ba3
  go_wp2_with fail
  go_ret
  exact ⟨rfl, hb0⟩

end Go.Proofs.Ytkbiefklilelmaa
