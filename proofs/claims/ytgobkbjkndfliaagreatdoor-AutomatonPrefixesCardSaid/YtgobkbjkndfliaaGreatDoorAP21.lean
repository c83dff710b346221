/-
  Several texts in one: CompN, Al3, CExp. Each says at its head what it holds.
-/
import Derived.Test.YtgobkbjkndfliaaGreatDoorAP20
import Derived.Test.YtgobkbjkndfliaaGreatDoorAP4
import Derived.Deep.RegionLaw

/-
  The compiler in memory: a node stored at the end of the row of events.
-/
namespace Go.Proofs.YtgobkbjkndfliaaGreatDoor
open Go.RowKit

def nineSet (w : World) (g k : Nat) (v0 v1 v2 v3 v4 v5 v6 v7 v8 : Value) : World := ((((((((((w.setCell ⟨g, k, none⟩ v0).setCell ⟨g, k + 1, none⟩ v1).setCell ⟨g, k + 2, none⟩ v2).setCell ⟨g, k + 3, none⟩ v3).setCell ⟨g, k + 4, none⟩ v4).setCell ⟨g, k + 5, none⟩ v5).setCell ⟨g, k + 6, none⟩ v6).setCell ⟨g, k + 7, none⟩ v7).setCell ⟨g, k + 8, none⟩ v8))
theorem nine_row {w : World} {base g n cap k : Nat} {xs : List Value} (h : w.ownsRow base 24 9 (.slice (some ⟨g, 0, none⟩) n cap) n xs) (v0 v1 v2 v3 v4 v5 v6 v7 v8 : Value) :
    ∃ xs', (nineSet w g k v0 v1 v2 v3 v4 v5 v6 v7 v8).ownsRow base 24 9 (.slice (some ⟨g, 0, none⟩) n cap) n xs' ∧ w.grownBy (nineSet w g k v0 v1 v2 v3 v4 v5 v6 v7 v8) (some g) := by
  unfold nineSet
  obtain ⟨xs2, h1, h2⟩ := own_nine (k := k) h v0 v1 v2 v3 v4 v5 v6 v7 v8
  refine ⟨xs2, ?_, ?_⟩
  · with_reducible exact h1
  · with_reducible exact h2
/-- a world's name in a goal behind a region -/
theorem name_world {K : Act → World → Prop} {C : Exit → Act → World → Prop} {e : Exit} {a : Act} {w : World} (h : ∀ w', w = w' → Exit.then K C e a w') : Exit.then K C e a w := h w rfl

section
variable {w w2 : World} {base B ne cE : Nat} {AE : Option Addr} {evl : List Value} {AX : Option Addr} {cX : Nat} {E : List Edg} {AS : Option Addr} {cS : Nat} {sts : List Int} {F : Nat → Prop}
/-- row first, box behind it -/
theorem CR.ev_a (h : CR w base B AE ne cE evl AX cX E AS cS sts F) {o : Obj} {g c' k : Nat} {evl' : List Value} (hg : (w.alloc o).grownBy w2 (ob AE)) (ho : w2.ownsRow base 24 9 (.slice (some ⟨g, 0, none⟩) (ne + 1) c') (ne + 1) evl') (hp : ob (some ⟨g, 0, none⟩) = ob AE ∨ ob (some ⟨g, 0, none⟩) = some (w.heap.size + 1)) (v0 v1 v2 v3 v4 v5 v6 v7 v8 : Value) :
    CSt ((nineSet w2 g k v0 v1 v2 v3 v4 v5 v6 v7 v8).setCell ⟨B, 0, none⟩ (.slice (some ⟨g, 0, none⟩) (ne + 1) c')) base B (ne + 1) E sts F ∧ Kp F w ((nineSet w2 g k v0 v1 v2 v3 v4 v5 v6 v7 v8).setCell ⟨B, 0, none⟩ (.slice (some ⟨g, 0, none⟩) (ne + 1) c')) := by
  obtain ⟨xs', h1, h2⟩ := nine_row (k := k) ho v0 v1 v2 v3 v4 v5 v6 v7 v8
  generalize nineSet w2 g k v0 v1 v2 v3 v4 v5 v6 v7 v8 = w3 at *
  have hg' : (w.alloc o).grownBy w3 (ob AE) := by
    refine ⟨h2.os.trans hg.os, h2.tape.trans hg.tape, h2.output.trans hg.output, Nat.le_trans hg.size h2.size, fun i hi hne => ?_⟩
    rw [h2.block i (Nat.lt_of_lt_of_le hi hg.size) (fun e => ?_)]
    · exact hg.block i hi hne
    · injection e with e
      subst e
      rcases hp with h3 | h3
      · exact hne (by rw [← h3]; rfl)
      · rw [ob_some] at h3; injection h3 with h3; simp at hi; omega
  obtain ⟨h3, h4⟩ := h.push_ev hg' h1 hp
  refine ⟨⟨_, _, _, _, _, _, _, h3⟩, ?_⟩
  exact ⟨hg'.os, hg'.tape, hg'.output, by have := hg'.size; simp at this ⊢; omega, h4⟩
/-- box first, row behind it -/
theorem CR.ev_b (h : CR w base B AE ne cE evl AX cX E AS cS sts F) {o : Obj} {g c' k : Nat} {evl' : List Value} (hg : (w.alloc o).grownBy w2 (ob AE)) (ho : w2.ownsRow base 24 9 (.slice (some ⟨g, 0, none⟩) (ne + 1) c') (ne + 1) evl') (hp : ob (some ⟨g, 0, none⟩) = ob AE ∨ ob (some ⟨g, 0, none⟩) = some (w.heap.size + 1)) (v0 v1 v2 v3 v4 v5 v6 v7 v8 : Value) :
    CSt (nineSet (w2.setCell ⟨B, 0, none⟩ (.slice (some ⟨g, 0, none⟩) (ne + 1) c')) g k v0 v1 v2 v3 v4 v5 v6 v7 v8) base B (ne + 1) E sts F ∧ Kp F w (nineSet (w2.setCell ⟨B, 0, none⟩ (.slice (some ⟨g, 0, none⟩) (ne + 1) c')) g k v0 v1 v2 v3 v4 v5 v6 v7 v8) := by
  obtain ⟨h3, h4⟩ := h.push_ev hg ho hp
  obtain ⟨xs', h1, h2⟩ := nine_row (k := k) h3.ev v0 v1 v2 v3 v4 v5 v6 v7 v8
  generalize nineSet (w2.setCell ⟨B, 0, none⟩ (.slice (some ⟨g, 0, none⟩) (ne + 1) c')) g k v0 v1 v2 v3 v4 v5 v6 v7 v8 = w3 at *
  have hb : ∀ i, i < (w2.setCell ⟨B, 0, none⟩ (.slice (some ⟨g, 0, none⟩) (ne + 1) c')).heap.size → i ≠ g → w3.heap[i]? = (w2.setCell ⟨B, 0, none⟩ (.slice (some ⟨g, 0, none⟩) (ne + 1) c')).heap[i]? := fun i hi hne => h2.block i hi (fun e => hne (by injection e))
  have hgB : B ≠ g := fun e => h3.row_ne (.inl (ob_some g)) e.symm
  refine ⟨⟨_, _, xs', _, _, _, _, ⟨(hb B h3.lt hgB).trans h3.box, h1, own_block h3.ed fun i hi => hb i (own_ob h3.ed i hi).2 (fun e => rows_apart h3.ev h3.ed tNE i hi (by rw [e]; rfl)), own_block h3.st fun i hi => hb i (own_ob h3.st i hi).2 (fun e => rows_apart h3.ev h3.st tNI i hi (by rw [e]; rfl)), fun b hF => ?_, h3.bB⟩⟩, ?_⟩
  · obtain ⟨f1, f2, f3, f4, f5⟩ := h3.fr b hF
    exact ⟨Nat.lt_of_lt_of_le f1 h2.size, f2, f3, f4, f5⟩
  · refine ⟨h2.os.trans hg.os, h2.tape.trans hg.tape, h2.output.trans hg.output, Nat.le_trans (by have := hg.size; simp at this ⊢; omega) h2.size, fun b hF => ?_⟩
    obtain ⟨f1, f2, f3, f4, f5⟩ := h3.fr b hF
    exact (hb b f1 (fun e => f3 (by rw [e]; rfl))).trans (h4 b hF)
end

theorem name_body {P : Program} {fn : Func} {R : Ending → World → Prop} {e : Exit} {a : Act} {w : World} (h : ∀ w', w = w' → bodyPost P fn R e a w') : bodyPost P fn R e a w := h w rfl
theorem set_cells {w : World} {N k : Nat} {cs : Array Value} {t : TypeId} {v : Value} (h : w.heap[N]? = some (.cells cs t (0, 0))) : (w.setCell ⟨N, k, none⟩ v).heap[N]? = some (.cells (cs.setIfInBounds k v) t (0, 0)) := by
  simp [World.setCell, Array.getElem?_modify, h]
theorem twelve_box {w : World} {N : Nat} {a b c d e f g h i j k l : Value} {t : TypeId} (hN : w.heap[N]? = some (.cells #[a, b, c, d, e, f, g, h, i, j, k, l] t (0, 0))) (v0 v1 v2 v3 v4 v5 v6 v7 v8 v9 v10 v11 : Value) : ((((((((((((w.setCell ⟨N, 0, none⟩ v0).setCell ⟨N, 1, none⟩ v1).setCell ⟨N, 2, none⟩ v2).setCell ⟨N, 3, none⟩ v3).setCell ⟨N, 4, none⟩ v4).setCell ⟨N, 5, none⟩ v5).setCell ⟨N, 6, none⟩ v6).setCell ⟨N, 7, none⟩ v7).setCell ⟨N, 8, none⟩ v8).setCell ⟨N, 9, none⟩ v9).setCell ⟨N, 10, none⟩ v10).setCell ⟨N, 11, none⟩ v11).heap[N]? = some (.cells #[v0, v1, v2, v3, v4, v5, v6, v7, v8, v9, v10, v11] t (0, 0)) := by
  have h0 := set_cells (k := 0) (v := v0) hN
  simp only [List.setIfInBounds_toArray, List.set] at h0
  have h1 := set_cells (k := 1) (v := v1) h0
  simp only [List.setIfInBounds_toArray, List.set] at h1
  have h2 := set_cells (k := 2) (v := v2) h1
  simp only [List.setIfInBounds_toArray, List.set] at h2
  have h3 := set_cells (k := 3) (v := v3) h2
  simp only [List.setIfInBounds_toArray, List.set] at h3
  have h4 := set_cells (k := 4) (v := v4) h3
  simp only [List.setIfInBounds_toArray, List.set] at h4
  have h5 := set_cells (k := 5) (v := v5) h4
  simp only [List.setIfInBounds_toArray, List.set] at h5
  have h6 := set_cells (k := 6) (v := v6) h5
  simp only [List.setIfInBounds_toArray, List.set] at h6
  have h7 := set_cells (k := 7) (v := v7) h6
  simp only [List.setIfInBounds_toArray, List.set] at h7
  have h8 := set_cells (k := 8) (v := v8) h7
  simp only [List.setIfInBounds_toArray, List.set] at h8
  have h9 := set_cells (k := 9) (v := v9) h8
  simp only [List.setIfInBounds_toArray, List.set] at h9
  have h10 := set_cells (k := 10) (v := v10) h9
  simp only [List.setIfInBounds_toArray, List.set] at h10
  have h11 := set_cells (k := 11) (v := v11) h10
  simp only [List.setIfInBounds_toArray, List.set] at h11
  with_reducible exact h11
theorem three_box {w : World} {N : Nat} {a b c : Value} {t : TypeId} (hN : w.heap[N]? = some (.cells #[a, b, c] t (0, 0))) (v0 v1 v2 : Value) : (((w.setCell ⟨N, 0, none⟩ v0).setCell ⟨N, 1, none⟩ v1).setCell ⟨N, 2, none⟩ v2).heap[N]? = some (.cells #[v0, v1, v2] t (0, 0)) := by
  have h0 := set_cells (k := 0) (v := v0) hN
  simp only [List.setIfInBounds_toArray, List.set] at h0
  have h1 := set_cells (k := 1) (v := v1) h0
  simp only [List.setIfInBounds_toArray, List.set] at h1
  have h2 := set_cells (k := 2) (v := v2) h1
  simp only [List.setIfInBounds_toArray, List.set] at h2
  with_reducible exact h2

end Go.Proofs.YtgobkbjkndfliaaGreatDoor

/-
  Three new blocks.
-/
namespace Go.Proofs.YtgobkbjkndfliaaGreatDoor
open Go.RowKit

theorem chain3 (w1 : World) (a b c : Obj) {V : World} (hV : ((w1.alloc a).alloc b).alloc c = V) : V.heap[w1.heap.size]? = some a ∧ V.heap[w1.heap.size + 1]? = some b ∧ V.heap[w1.heap.size + 1 + 1]? = some c ∧ Below w1.heap.size w1 V ∧ V.heap.size = w1.heap.size + 1 + 1 + 1 := by
  have e1 := heap_alloc_new (w1.alloc a) b
  have e2 := heap_alloc_new ((w1.alloc a).alloc b) c
  have s1 : (w1.alloc a).heap.size = w1.heap.size + 1 := by simp
  have s2 : ((w1.alloc a).alloc b).heap.size = w1.heap.size + 1 + 1 := by simp
  rw [s1] at e1
  rw [s2] at e2
  subst hV
  refine ⟨box_alloc (box_alloc (heap_alloc_new w1 a)), box_alloc e1, e2, ?_, by simp⟩
  exact (((Below.refl _ _).alloc (Nat.le_refl _) _).alloc (by omega) _).alloc (by omega) _

end Go.Proofs.YtgobkbjkndfliaaGreatDoor

/-
  compiler.expand at the events of the law's example.
-/
namespace Go.Proofs.YtgobkbjkndfliaaGreatDoor
open Go.RowKit

/-- what expand answers at an event: a part of one new state -/
def ExpE (s base B ne : Nat) (E : List Edg) (sts : List Int) (F : Nat → Prop) (w : World) (e : Ending) (w' : World) : Prop :=
  ∃ p q : Nat, e = .returned (.agg #[.slice (some ⟨p, 0, none⟩) 1 1, .slice (some ⟨q, 0, none⟩) 1 1, .bool false]) ∧ w'.heap[p]? = some (.cells #[.int .i64 (s : Int)] 3 (0, 0)) ∧ w'.heap[q]? = some (.cells #[.int .i64 (s : Int)] 3 (0, 0)) ∧ CSt w' base B ne E sts (fun b => F b ∨ b = p ∨ b = q) ∧ Kp F w w'
theorem infoIntC : (Tryz.prog.info? 3).map (fun i => (i.zero, i.size, i.bytes)) = some (some (.int .i64 0), 1, 8) := by kernel_rfl

theorem chain2 (w1 : World) (a b : Obj) {V : World} (hV : (w1.alloc a).alloc b = V) : V.heap[w1.heap.size]? = some a ∧ V.heap[w1.heap.size + 1]? = some b ∧ Below w1.heap.size w1 V ∧ V.heap.size = w1.heap.size + 1 + 1 := by
  have e1 := heap_alloc_new (w1.alloc a) b
  have s1 : (w1.alloc a).heap.size = w1.heap.size + 1 := by simp
  rw [s1] at e1
  subst hV
  exact ⟨box_alloc (heap_alloc_new w1 a), e1, ((Below.refl _ _).alloc (Nat.le_refl _) _).alloc (by omega) _, by simp⟩
theorem box3 {w : World} {N : Nat} {a b c : Value} {t : TypeId} (h : w.heap[N]? = some (.cells #[a, b, c] t (0, 0))) : w.cell? ⟨N, 0, none⟩ = some a ∧ w.cell? ⟨N, 1, none⟩ = some b ∧ w.cell? ⟨N, 2, none⟩ = some c := by
  refine ⟨?_, ?_, ?_⟩ <;> (rw [cell_of_row w N _ _ t (0, 0) h]; rfl)

set_option maxRecDepth 100000 in
set_option maxHeartbeats 2000000 in
theorem exp_ev (K : Int) (A : Option Addr) (c ev : Nat) (hK : K = 37 ∨ K = 38) (base B ne : Nat) (E : List Edg) (sts : List Int) (F : Nat → Prop) (w : World) (hc : CSt w base B ne E sts F) (hn : sts.length ≤ 1000) :
    Calls Tryz.prog 35 #[.pointer (some ⟨B, 0, none⟩), .agg #[.int .i64 K, .int .i64 0, .string ByteArray.empty, .string ByteArray.empty, .int .i64 0, .int .i64 0, .int .i64 0, .int .i64 0, .slice A 1 c, .int .i64 (ev : Int), .int .i64 (-1), .slice none 0 0]] w (ExpE (sts.length + 1) base B ne E (sts ++ [(ev : Int)]) F w) := by
  obtain ⟨AE, cE, evl, AX, cX, AS, cS, hcr⟩ := hc
  have HCR := hide hcr
  clear hcr
  go_enter Tryz.func35, Tryz.ntmps35
  go_upto_region 1 with (fail)
  obtain ⟨W0, hW0⟩ : ∃ W0, (w.alloc (.cells #[.int .i64 K, .int .i64 0, .string ByteArray.empty, .string ByteArray.empty, .int .i64 0, .int .i64 0, .int .i64 0, .int .i64 0, .slice A 1 c, .int .i64 (ev : Int), .int .i64 (-1), .slice none 0 0] 65)).alloc (.cells #[.slice none 0 0, .slice none 0 0, .bool false] 61) = W0 := ⟨_, rfl⟩
  rw [hW0]
  obtain ⟨p0, p1, hbW, hsW⟩ := chain2 _ _ _ hW0
  have HC0 := hide (HCR.out.new (F' := fun b => F b ∨ (w.heap.size ≤ b ∧ b < w.heap.size + 1 + 1)) hbW (fun b hb => hb.imp_right fun h => by omega))
  have HKP0 := hide (show Kp F w W0 from Kp.of hbW fun b hb => (HCR.out.fr b hb).1)
  have HP1 := hide p1
  have hw0 : w.heap.size < W0.heap.size := by omega
  have hw2 : B < W0.heap.size := HC0.out.lt
  obtain ⟨y0, y1, y2, y3, y4, y5, y6, y7, y8, y9, y10, y11⟩ := box12 p0
  obtain ⟨b0, b1, b2, b3, b4⟩ := box5 HC0.out.box
  obtain ⟨i0, hi0, hz0, hz1, hz2⟩ := info_parts infoIntC
  obtain ⟨Wz, hWz⟩ : ∃ Wz, W0.drew.alloc (.cells #[.int .i64 (ev : Int)] 3) = Wz := ⟨_, rfl⟩
  have gz := new_at hWz
  have hbz : Below W0.drew.heap.size W0.drew Wz := by rw [← hWz]; exact (Below.refl _ _).alloc (Nat.le_refl _) _
  have hCz := HC0.out.keep (w' := Wz) hbz.size (hbz.block _ HC0.out.lt) (fun b hb => hbz.block b (HC0.out.row_lt hb).2)
  obtain ⟨A', c', W2, hap, how, hgr, hpl, g, rfl⟩ := app_at 43 Tryz.underlying43 hi0 hz0 hz1 hz2 rfl (by decide) hCz.st [.int .i64 (ev : Int)] rfl (by simp [Value.oneCell']) (by omega) (by omega) (by have := hCz.bB; have := hCz.lt; omega) ⟨W0.drew.heap.size, 0, none⟩ (fun j u hu => by rw [addr_add, Nat.zero_add, cell_of_row Wz _ j _ _ (0, 0) gz]; simpa using hu)
  rw [← hWz] at hap
  have hap2 : (Builtin.append_ #[43, 43] 43 #[.slice AS sts.length cS, .slice (some ⟨W0.heap.size, 0, none⟩) 1 1]).run Tryz.prog ((W0.alloc (.cells #[.int .i64 (ev : Int)] 3)).drew) = .ok (.slice (some ⟨g, 0, none⟩) (sts.length + 1) c') W2 := hap
  clear hap
  have hbox2 := (hgr.block B hCz.lt (fun e => hCz.row_ne (.inr (.inr e.symm)) rfl)).trans hCz.box
  obtain ⟨d0, d1', d2', d3', d4⟩ := box5 hbox2
  have d5 := box_froz (j := 4) hbox2
  have hcd : CR W0.drew base B AE ne cE evl AX cX E AS cS sts (fun b => F b ∨ (w.heap.size ≤ b ∧ b < w.heap.size + 1 + 1)) := HC0.out.keep (Nat.le_refl _) rfl fun _ _ => rfl
  have hgr2 := hgr
  rw [← hWz] at hgr2
  have hpl2 : ob (some ⟨g, 0, none⟩) = ob AS ∨ ob (some ⟨g, 0, none⟩) = some (W0.drew.heap.size + 1) := by
    rw [← hWz] at hpl
    simpa using hpl
  have hl1 : (sts ++ [(ev : Int)]).length = sts.length + 1 := by simp
  have hpush := hcd.push_st (sts' := sts ++ [(ev : Int)]) hgr2 (by rw [hl1, List.map_append]; exact how) hpl2
  rw [hl1] at hpush
  have HEA := hide (show CSt (W2.setCell ⟨B, 4, none⟩ (.slice (some ⟨g, 0, none⟩) (sts.length + 1) c')) base B ne E (sts ++ [(ev : Int)]) (fun b => F b ∨ (w.heap.size ≤ b ∧ b < w.heap.size + 1 + 1)) ∧ Kp (fun b => F b ∨ (w.heap.size ≤ b ∧ b < w.heap.size + 1 + 1)) W0.drew (W2.setCell ⟨B, 4, none⟩ (.slice (some ⟨g, 0, none⟩) (sts.length + 1) c')) from ⟨⟨_, _, _, _, _, _, _, hpush.1⟩, ⟨hgr2.os, hgr2.tape, hgr2.output, by have := hgr2.size; simp at this ⊢; omega, hpush.2⟩⟩)
  clear hi0 hz0 hz1 hz2 gz hbz hCz how hgr hpl hbox2 hWz hgr2 hpl2 hcd hpush hW0 p0 p1 hbW hsW
  have T1 : (K == 45) = false := by rcases hK with rfl | rfl <;> rfl
  have T2 : (K == 47) = false := by rcases hK with rfl | rfl <;> rfl
  have T3 : (K == 46) = false := by rcases hK with rfl | rfl <;> rfl
  clear hK
  go_upto_region 13 with (fail)
  go_cut [99] (fun _ wx => CSt wx base B ne E (sts ++ [(ev : Int)]) (fun b => F b ∨ (w.heap.size ≤ b ∧ b < w.heap.size + 1 + 1)) ∧ Kp (fun b => F b ∨ (w.heap.size ≤ b ∧ b < w.heap.size + 1 + 1)) W0.drew wx)
  case first =>
    go_region_law
      (first
        | (refine step_app_eq rfl (.tmp 95) (.tmp 98) rfl rfl rfl hap2 ?_)
        | fail)
    all_goals go_wp2_with fail
    all_goals go_meet
    all_goals with_reducible exact HEA.out
  case rest =>
    obtain ⟨hc3, hk3⟩ := hcut
    clear HEA hap2 d0 d1' d2' d3' d4 d5 b0 b1 b2 b3 b4 y0 y1 y2 y3 y4 y5 y6 y7 y8 y9 y10 y11
    obtain ⟨AE3, cE3, evl3, AX3, cX3, AS3, cS3, hcr3⟩ := hc3
    have hm1 : w.heap.size ≤ w.heap.size + 1 ∧ w.heap.size + 1 < w.heap.size + 1 + 1 := by omega
    have HS1 := hide ((hk3.block (w.heap.size + 1) (Or.inr hm1)).trans HP1.out)
    obtain ⟨b0, b1, b2, b3, b4⟩ := box5 hcr3.box
    rw [hl1] at b4
    have HC3 := hide hcr3
    have HKW := hide (show Kp F w wc from HKP0.out.trans ⟨hk3.os, hk3.tape, hk3.output, hk3.size, fun b hb => hk3.block b (Or.inl hb)⟩)
    have HNF := hide (show ¬ F (w.heap.size + 1) from fun h => by have := (HCR.out.fr _ h).1; omega)
    have hwr : w.heap.size + 1 < wc.heap.size := box_lt HS1.out
    clear hk3 hcr3
    obtain ⟨q0, q1, q2⟩ := box3 HS1.out
    have z0 := box_froz (j := 0) HS1.out
    have z1 := box_froz (j := 1) HS1.out
    have z2 := box_froz (j := 2) HS1.out
    go_upto_region 15 with (fail)
    have hwr0 : w.heap.size < wc.heap.size := by omega
    have hwr1 : ¬ w.heap.size = wc.heap.size := by omega
    have hwr2 : ¬ w.heap.size + 1 = wc.heap.size := by omega
    clear hl1 hw0 hw2
    go_wp2_with fail
    refine name_body fun wf hwf => ?_
    have hbs := three_box HS1.out (.slice (some ⟨wc.heap.size, 0, none⟩) 1 1) (.slice (some ⟨wc.heap.size + 1, 0, none⟩) 1 1) (.bool false)
    have hcs := ((HC3.out.set (N := w.heap.size + 1) (k := 0) (Or.inr hm1) (.slice (some ⟨wc.heap.size, 0, none⟩) 1 1)).set (N := w.heap.size + 1) (k := 1) (Or.inr hm1) (.slice (some ⟨wc.heap.size + 1, 0, none⟩) 1 1)).set (N := w.heap.size + 1) (k := 2) (Or.inr hm1) (.bool false)
    have hks := ((HKW.out.set (k := 0) HNF.out (.slice (some ⟨wc.heap.size, 0, none⟩) 1 1)).set (k := 1) HNF.out (.slice (some ⟨wc.heap.size + 1, 0, none⟩) 1 1)).set (k := 2) HNF.out (.bool false)
    have hss : (((wc.setCell ⟨w.heap.size + 1, 0, none⟩ (.slice (some ⟨wc.heap.size, 0, none⟩) 1 1)).setCell ⟨w.heap.size + 1, 1, none⟩ (.slice (some ⟨wc.heap.size + 1, 0, none⟩) 1 1)).setCell ⟨w.heap.size + 1, 2, none⟩ (.bool false)).heap.size = wc.heap.size := by simp
    generalize ((wc.setCell ⟨w.heap.size + 1, 0, none⟩ (.slice (some ⟨wc.heap.size, 0, none⟩) 1 1)).setCell ⟨w.heap.size + 1, 1, none⟩ (.slice (some ⟨wc.heap.size + 1, 0, none⟩) 1 1)).setCell ⟨w.heap.size + 1, 2, none⟩ (.bool false) = ws at *
    obtain ⟨r0, r1, hba, hsa⟩ := chain2 _ _ _ hwf
    have hbf := (hba.block _ (box_lt hbs)).trans hbs
    obtain ⟨x0, x1, x2⟩ := box3 hbf
    refine bodyPost_ret (v := .agg #[.slice (some ⟨wc.heap.size, 0, none⟩) 1 1, .slice (some ⟨wc.heap.size + 1, 0, none⟩) 1 1, .bool false]) (by simp [results, Tryz.results35, go_sem, x0, x1, x2]) rfl ?_
    have hcf : CR wf base B AE3 ne cE3 evl3 AX3 cX3 E AS3 cS3 (sts ++ [(ev : Int)]) (fun b => (F b ∨ (w.heap.size ≤ b ∧ b < w.heap.size + 1 + 1)) ∨ (ws.heap.size ≤ b ∧ b < wf.heap.size)) := hcs.new hba fun b hb => hb
    have hkf := hks.trans (Kp.of hba fun b hb => (hcs.fr b (Or.inl hb)).1)
    rw [hss] at r0 r1 hsa hcf
    refine ⟨wc.heap.size, wc.heap.size + 1, rfl, r0, r1, ⟨AE3, cE3, evl3, AX3, cX3, AS3, cS3, hcf.sub fun b hb => ?_⟩, hkf⟩
    rcases hb with hb | rfl | rfl
    · exact Or.inl (Or.inl hb)
    · exact Or.inr (by omega)
    · exact Or.inr (by omega)

end Go.Proofs.YtgobkbjkndfliaaGreatDoor
