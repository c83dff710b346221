/-
  Several texts in one: Two, OrW, TSame, Awake51, DecS, RefDig. Each says at its head what it holds.
-/
import Derived.Test.YtdlebcijgdkfjaaGreatDoorCV7
import Derived.Deep.RegionHeld3
import Derived.Deep.DeepCutAuto
import Derived.Test.YtdlebcijgdkfjaaGreatDoorCV5
import Derived.Test.YtdlebcijgdkfjaaGreatDoorCV4

/-
  Conditions as two lists of intervals in memory: boxes, own lists, what a call leaves behind it. No function of the program is named here.
-/
namespace Go.Proofs.YtdlebcijgdkfjaaGreatDoor
open Go.RowKit Go.Joins

/-- what a function returns that makes the normal lists of the sets S and T -/
def RetTr (w : World) (S T : Int → Prop) (e : Ending) (w' : World) : Prop :=
  ∃ (A : Option Addr) (c : Nat) (ys : List Iv) (B : Option Addr) (d : Nat) (zs : List Iv), e = .returned (.agg #[.slice A ys.length c, .slice B zs.length d]) ∧ OwnIv w' w.heap.size A c ys ∧ OwnIv w' w.heap.size B d zs ∧
    Below w.heap.size w w' ∧ Norm ys ∧ Norm zs ∧ (∀ t, Mem ys t ↔ S t) ∧ ∀ t, Mem zs t ↔ T t

theorem RetTr.congr {w : World} {S S' T T' : Int → Prop} {e : Ending} {w' : World} (h : RetTr w S T e w') (hs : ∀ t, S t ↔ S' t) (ht : ∀ t, T t ↔ T' t) : RetTr w S' T' e w' := by
  obtain ⟨A, c, ys, B, d, zs, h1, h2, h3, h4, h5, h6, h7, h8⟩ := h
  exact ⟨A, c, ys, B, d, zs, h1, h2, h3, h4, h5, h6, fun t => (h7 t).trans (hs t), fun t => (h8 t).trans (ht t)⟩

theorem two_boxes {w W0 : World} {t t' : TypeId} {a b a' b' : Value} (h : ((w.alloc (.cells #[a, b] t)).alloc (.cells #[a', b'] t')) = W0) :
    Below w.heap.size w W0 ∧ W0.heap.size = w.heap.size + 2 ∧ W0.heap[w.heap.size]? = some (.cells #[a, b] t (0, 0)) ∧ W0.heap[w.heap.size + 1]? = some (.cells #[a', b'] t' (0, 0)) := by
  subst h
  refine ⟨((Below.refl _ _).alloc (Nat.le_refl _) _).alloc (by simp) _, by simp, box_alloc (heap_alloc_new w _), ?_⟩
  have := heap_alloc_new (w.alloc (.cells #[a, b] t)) (.cells #[a', b'] t')
  simpa using this
theorem boxT2 {w : World} {N : Nat} {a b : Value} {t : TypeId} (h : w.heap[N]? = some (.cells #[a, b] t (0, 0))) : w.cell? ⟨N, 0, none⟩ = some a ∧ w.cell? ⟨N, 1, none⟩ = some b :=
  ⟨by rw [cell_of_row w N _ _ t (0, 0) h]; rfl, by rw [cell_of_row w N _ _ t (0, 0) h]; rfl⟩

theorem below_box {w w' : World} {B N : Nat} {o : Obj} (h : Below B w w') (hN : N < B) (hb : w.heap[N]? = some o) : w'.heap[N]? = some o := (h.block N hN).trans hb

theorem clip_k2 {w W0 w1 : World} {t : TypeId} {a b a' b' : Value} (hz0 : w.heap.size + 2 ≤ W0.heap.size) (hb0 : Below w.heap.size w W0) (bx : W0.heap[w.heap.size]? = some (.cells #[a, b] t (0, 0))) (br : W0.heap[w.heap.size + 1]? = some (.cells #[a', b'] t (0, 0)))
    (b1 : Below W0.heap.size W0 w1) : w.heap.size + 2 ≤ w1.heap.size ∧ Below w.heap.size w w1 ∧ w1.heap[w.heap.size]? = some (.cells #[a, b] t (0, 0)) ∧ w1.heap[w.heap.size + 1]? = some (.cells #[a', b'] t (0, 0)) ∧
      (w1.cell? ⟨w.heap.size, 0, none⟩ = some a ∧ w1.cell? ⟨w.heap.size, 1, none⟩ = some b ∧ Below w.heap.size w w1) := by
  have h1 := b1.size
  have h2 := below_box b1 (by omega) bx
  have h3 := below_box b1 (by omega) br
  exact ⟨by omega, bstep hb0 b1, h2, h3, (boxT2 h2).1, (boxT2 h2).2, bstep hb0 b1⟩
theorem box2_frozen {w : World} {N : Nat} {a b : Value} {t : TypeId} (h : w.heap[N]? = some (.cells #[a, b] t (0, 0))) : w.frozen? ⟨N, 0, none⟩ = false ∧ w.frozen? ⟨N, 1, none⟩ = false := by
  constructor <;> simp [World.frozen?, h]
theorem box2_set {w : World} {N : Nat} {a b u v : Value} {t : TypeId} (h : w.heap[N]? = some (.cells #[a, b] t (0, 0))) : ((w.setCell ⟨N, 0, none⟩ u).setCell ⟨N, 1, none⟩ v).heap[N]? = some (.cells #[u, v] t (0, 0)) := by
  simp [World.setCell, Array.getElem?_modify, h]
theorem own_below {w w' : World} {base c : Nat} {A : Option Addr} {xs : List Iv} (b : Below w.heap.size w w') (h : OwnIv w base A c xs) : OwnIv w' base A c xs := h.below b (Nat.le_refl _)
/-- a store into a condition's box leaves a list of intervals alone -/
theorem own_set {w : World} {base c N k : Nat} {A : Option Addr} {xs : List Iv} {cs : Array Value} {v : Value} (hb : w.heap[N]? = some (.cells cs 45 (0, 0))) (h : OwnIv w base A c xs) : OwnIv (w.setCell ⟨N, k, none⟩ v) base A c xs := by
  refine ⟨h.1, ?_⟩
  rcases h.2 with h2 | ⟨g, cap, cur, h2, h3, h4, h5⟩
  · exact .inl h2
  · refine .inr ⟨g, cap, cur, h2, h3, ?_, h5⟩
    have hne : g ≠ N := by
      rintro rfl
      rw [hb] at h4
      injection h4 with h4
      injection h4 with _ h4
      exact absurd h4 (by decide)
    rw [Below.heap_setCell _ _ _ _ (by simpa using hne)]
    exact h4

theorem set2_other {w : World} {N M : Nat} {o : Obj} {u v : Value} (h : w.heap[M]? = some o) (hne : M ≠ N) : ((w.setCell ⟨N, 0, none⟩ u).setCell ⟨N, 1, none⟩ v).heap[M]? = some o := by
  rw [Below.heap_setCell _ _ _ _ (by simpa using hne), Below.heap_setCell _ _ _ _ (by simpa using hne)]; exact h
theorem set2_own {w : World} {base c N : Nat} {A : Option Addr} {xs : List Iv} {a b u v : Value} (hb : w.heap[N]? = some (.cells #[a, b] 45 (0, 0))) (h : OwnIv w base A c xs) : OwnIv ((w.setCell ⟨N, 0, none⟩ u).setCell ⟨N, 1, none⟩ v) base A c xs := by
  have h1 : (w.setCell ⟨N, 0, none⟩ u).heap[N]? = some (.cells #[u, b] 45 (0, 0)) := by simp [World.setCell, Array.getElem?_modify, hb]
  exact own_set h1 (own_set hb h)

/-- three boxes at the head of a call: the two conditions, and the result's -/
structure Three (w W : World) (a b a' b' : Value) : Prop where
  hb : Below w.heap.size w W
  hz : w.heap.size + 3 ≤ W.heap.size
  g0 : W.heap[w.heap.size]? = some (.cells #[a, b] 45 (0, 0))
  g1 : W.heap[w.heap.size + 1]? = some (.cells #[a', b'] 45 (0, 0))
  g2 : W.heap[w.heap.size + 2]? = some (.cells #[.slice none 0 0, .slice none 0 0] 45 (0, 0))

section
variable {w W W' : World} {a b a' b' : Value}
theorem Three.start (h : (((w.alloc (.cells #[a, b] 45)).alloc (.cells #[a', b'] 45)).alloc (.cells #[.slice none 0 0, .slice none 0 0] 45)) = W) : Three w W a b a' b' := by
  subst h
  obtain ⟨h1, h2, h3, h4⟩ := two_boxes (w := w) (a := a) (b := b) (a' := a') (b' := b') (t := 45) (t' := 45) rfl
  refine ⟨h1.alloc h1.size _, by simp, box_alloc h3, box_alloc h4, ?_⟩
  have := heap_alloc_new ((w.alloc (.cells #[a, b] 45)).alloc (.cells #[a', b'] 45)) (.cells #[.slice none 0 0, .slice none 0 0] 45)
  rw [h2] at this
  exact this
theorem Three.step (h : Three w W a b a' b') (b1 : Below W.heap.size W W') : Three w W' a b a' b' :=
  ⟨bstep h.hb b1, Nat.le_trans h.hz b1.size, box_below b1 h.g0, box_below b1 h.g1, box_below b1 h.g2⟩
theorem Three.drew (h : Three w W a b a' b') : Three w W.drew a b a' b' := ⟨below_drew h.hb, h.hz, h.g0, h.g1, h.g2⟩
theorem Three.c0 (h : Three w W a b a' b') : W.cell? ⟨w.heap.size, 0, none⟩ = some a ∧ W.cell? ⟨w.heap.size, 1, none⟩ = some b := boxT2 h.g0
theorem Three.c1 (h : Three w W a b a' b') : W.cell? ⟨w.heap.size + 1, 0, none⟩ = some a' ∧ W.cell? ⟨w.heap.size + 1, 1, none⟩ = some b' := boxT2 h.g1
theorem Three.all (h : Three w W a b a' b') : W.cell? ⟨w.heap.size, 0, none⟩ = some a ∧ W.cell? ⟨w.heap.size, 1, none⟩ = some b ∧ W.cell? ⟨w.heap.size + 1, 0, none⟩ = some a' ∧ W.cell? ⟨w.heap.size + 1, 1, none⟩ = some b' ∧ Three w W a b a' b' := ⟨h.c0.1, h.c0.2, h.c1.1, h.c1.2, h⟩
theorem Three.set0 (h : Three w W a b a' b') (u v : Value) : Three w ((W.setCell ⟨w.heap.size, 0, none⟩ u).setCell ⟨w.heap.size, 1, none⟩ v) u v a' b' :=
  ⟨(h.hb.setCell (by simp) _).setCell (by simp) _, by simpa using h.hz, box2_set h.g0, set2_other h.g1 (by omega), set2_other h.g2 (by omega)⟩
theorem Three.set1 (h : Three w W a b a' b') (u v : Value) : Three w ((W.setCell ⟨w.heap.size + 1, 0, none⟩ u).setCell ⟨w.heap.size + 1, 1, none⟩ v) a b u v :=
  ⟨(h.hb.setCell (by simp) _).setCell (by simp) _, by simpa using h.hz, set2_other h.g0 (by omega), box2_set h.g1, set2_other h.g2 (by omega)⟩
end

theorem linked_end {w W W3 : World} {a b a' b' : Value} {A1 A2 : Option Addr} {c1 c2 : Nat} {y1 y2 : List Iv} (h : Three w W a b a' b') (o1 : OwnIv W w.heap.size A1 c1 y1) (o2 : OwnIv W w.heap.size A2 c2 y2)
    (hW : (W.setCell ⟨w.heap.size + 2, 0, none⟩ (.slice A1 y1.length c1)).setCell ⟨w.heap.size + 2, 1, none⟩ (.slice A2 y2.length c2) = W3) :
    W3.cell? ⟨w.heap.size + 2, 0, none⟩ = some (.slice A1 y1.length c1) ∧ W3.cell? ⟨w.heap.size + 2, 1, none⟩ = some (.slice A2 y2.length c2) ∧ Below w.heap.size w W3 ∧ OwnIv W3 w.heap.size A1 c1 y1 ∧ OwnIv W3 w.heap.size A2 c2 y2 := by
  subst hW
  have hb := box2_set (u := .slice A1 y1.length c1) (v := .slice A2 y2.length c2) h.g2
  exact ⟨(boxT2 hb).1, (boxT2 hb).2, (h.hb.setCell (by simp) _).setCell (by simp) _, set2_own h.g2 o1, set2_own h.g2 o2⟩

theorem Three.base {w W : World} {a b a' b' : Value} (h : Three w W a b a' b') : W.cell? ⟨w.heap.size, 0, none⟩ = some a ∧ W.cell? ⟨w.heap.size, 1, none⟩ = some b ∧ W.cell? ⟨w.heap.size + 1, 0, none⟩ = some a' ∧ W.cell? ⟨w.heap.size + 1, 1, none⟩ = some b' ∧ Below w.heap.size w W := ⟨h.c0.1, h.c0.2, h.c1.1, h.c1.2, h.hb⟩
theorem Three.set2 {w W : World} {a b a' b' : Value} (h : Three w W a b a' b') (u v : Value) : ((W.setCell ⟨w.heap.size + 2, 0, none⟩ u).setCell ⟨w.heap.size + 2, 1, none⟩ v).cell? ⟨w.heap.size, 0, none⟩ = some a ∧ ((W.setCell ⟨w.heap.size + 2, 0, none⟩ u).setCell ⟨w.heap.size + 2, 1, none⟩ v).cell? ⟨w.heap.size, 1, none⟩ = some b ∧ ((W.setCell ⟨w.heap.size + 2, 0, none⟩ u).setCell ⟨w.heap.size + 2, 1, none⟩ v).cell? ⟨w.heap.size + 1, 0, none⟩ = some a' ∧ ((W.setCell ⟨w.heap.size + 2, 0, none⟩ u).setCell ⟨w.heap.size + 2, 1, none⟩ v).cell? ⟨w.heap.size + 1, 1, none⟩ = some b' ∧ Below w.heap.size w ((W.setCell ⟨w.heap.size + 2, 0, none⟩ u).setCell ⟨w.heap.size + 2, 1, none⟩ v) := by
  have g0 := set2_other (N := w.heap.size + 2) (u := u) (v := v) h.g0 (by omega)
  have g1 := set2_other (N := w.heap.size + 2) (u := u) (v := v) h.g1 (by omega)
  exact ⟨(boxT2 g0).1, (boxT2 g0).2, (boxT2 g1).1, (boxT2 g1).2, (h.hb.setCell (by simp) _).setCell (by simp) _⟩

theorem mem_lit {t : Int} : Mem [] t ↔ False := by simp [mem_nil]
theorem norm1 {a b : Int} (h : 0 ≤ a ∧ a ≤ b ∧ b ≤ 1099511627776) : Norm [(a, b)] := by rw [norm_cons]; exact ⟨h, by simp, Norm.nil⟩
theorem ivsAt_block {w : World} {g B : Nat} {cs : Array Value} {t : TypeId} {xs : List Iv} (h : w.heap[g]? = some (.cells cs t (0, 0))) (hcs : cs.toList = encIvs xs) (hB : g < B) : IvsAt w B (some ⟨g, 0, none⟩) xs := fun _ => by
  refine ⟨g, 0, rfl, hB, fun i x hi => ?_⟩
  obtain ⟨e1, e2⟩ := encIvs_at hi
  rw [← hcs, Array.getElem?_toList] at e1 e2
  exact ⟨by rw [Nat.zero_add, cell_of_row w g _ cs t (0, 0) h, e1], by rw [Nat.zero_add, cell_of_row w g _ cs t (0, 0) h, e2]⟩

end Go.Proofs.YtdlebcijgdkfjaaGreatDoor

/-
  condition.Or.
-/
namespace Go.Proofs.YtdlebcijgdkfjaaGreatDoor
open Go.RowKit Go.Joins

set_option maxRecDepth 100000 in
set_option maxHeartbeats 4000000 in
theorem tor_any (A B A' B' : Option Addr) (c d c' d' : Nat) (xs zs xs' zs' : List Iv) (w : World) (hx : IvsAt w w.heap.size A xs) (hz : IvsAt w w.heap.size B zs) (hx' : IvsAt w w.heap.size A' xs') (hz' : IvsAt w w.heap.size B' zs')
    (lx : xs.length ≤ 4398046511104) (lz : zs.length ≤ 4398046511104) (lx' : xs'.length ≤ 4398046511104) (lz' : zs'.length ≤ 4398046511104) :
    Calls Tryz.prog 30 #[.agg #[.slice A xs.length c, .slice B zs.length d], .agg #[.slice A' xs'.length c', .slice B' zs'.length d']] w (RetTr w (fun t => Mem xs t ∨ Mem xs' t) (fun t => Mem zs t ∧ Mem zs' t)) := by
  go_enter Tryz.func30, Tryz.ntmps30
  go_wp2_with fail
  obtain ⟨W0, hW0⟩ : ∃ W0 : World, (((w.alloc (.cells #[.slice A xs.length c, .slice B zs.length d] 45)).alloc (.cells #[.slice A' xs'.length c', .slice B' zs'.length d'] 45)).alloc (.cells #[.slice none 0 0, .slice none 0 0] 45)) = W0 := ⟨_, rfl⟩
  have t0 := (Three.start hW0)
  rw [hW0]
  clear hW0
  have T0 := hide t0
  have k0 := (t0.drew).base
  clear t0
  have hb := T0.out.hb
  have hxW : IvsAt W0.drew W0.drew.heap.size A xs := (hx.below hb).more hb.size
  have hxW' : IvsAt W0.drew W0.drew.heap.size A' xs' := (hx'.below hb).more hb.size
  have hzW : IvsAt W0.drew W0.drew.heap.size B zs := (hz.below hb).more hb.size
  have hzW' : IvsAt W0.drew W0.drew.heap.size B' zs' := (hz'.below hb).more hb.size
  go_region_held3 (fun wx => wx.cell? ⟨w.heap.size, 0, none⟩ = some (.slice A xs.length c) ∧ wx.cell? ⟨w.heap.size, 1, none⟩ = some (.slice B zs.length d) ∧ wx.cell? ⟨w.heap.size + 1, 0, none⟩ = some (.slice A' xs'.length c') ∧ wx.cell? ⟨w.heap.size + 1, 1, none⟩ = some (.slice B' zs'.length d') ∧ Below w.heap.size w wx)
    (first | (with_reducible assumption) | exact k0 | exact T2.out.set2 _ _)
    (first
      | (go_at_call_of 72 xs; refine (union_any A A' c c' xs xs' W0.drew hxW hxW' lx lx').mono ?_; rintro e w1 ⟨A1, c1, y1, rfl, o1, b1, n1, m1⟩; have M1 := hide m1; clear m1; have b1' := bstep (w0 := W0) (w := W0.drew) (below_drew (Below.refl _ _)) b1; have t1 := T0.out.step b1'; have k1 := t1.base; have T1 := hide t1; clear t1)
      | (go_at_call_of 19 zs; refine (intersect_any B B' d d' zs zs' w1 (hzW.step b1) (hzW'.step b1) lz lz').mono ?_; rintro e w2 ⟨A2, c2, y2, rfl, o2, b2, n2, m2⟩; have M2 := hide m2; clear m2; have t2 := T1.out.step b2; have k2 := t2.base; obtain ⟨i5, i6⟩ := boxT2 t2.g2; obtain ⟨i7, i8⟩ := box2_frozen t2.g2; have T2 := hide t2; clear t2))
  obtain ⟨W3, hW3⟩ : ∃ W3 : World, (w2.setCell ⟨w.heap.size + 2, 0, none⟩ (.slice A1 y1.length c1)).setCell ⟨w.heap.size + 2, 1, none⟩ (.slice A2 y2.length c2) = W3 := ⟨_, rfl⟩
  obtain ⟨f1, f2, hb3, q1, q2⟩ := linked_end T2.out (own_below b2 (o1.lower hb.size)) (o2.lower T1.out.hb.size) hW3
  rw [hW3]
  clear hW3
  go_wp2_with fail
  exact bodyPost_ret (v := .agg #[.slice A1 y1.length c1, .slice A2 y2.length c2]) (by simp [results, Tryz.results30, go_sem, f1, f2]) rfl ⟨A1, c1, y1, A2, c2, y2, rfl, q1, q2, hb3, n1, n2, M1.out, M2.out⟩

end Go.Proofs.YtdlebcijgdkfjaaGreatDoor

/-
  wavestoreref51.Same: true of the normal lists of one pair of sets.
-/
namespace Go.Proofs.YtdlebcijgdkfjaaGreatDoor
open Go.RowKit Go.Joins

set_option maxRecDepth 100000 in
theorem tsame_true (A B A' B' : Option Addr) (c d c' d' : Nat) (xs zs xs' zs' : List Iv) (w : World) (hx : IvsAt w w.heap.size A xs) (hz : IvsAt w w.heap.size B zs) (hx' : IvsAt w w.heap.size A' xs') (hz' : IvsAt w w.heap.size B' zs')
    (nx : Norm xs) (nz : Norm zs) (nx' : Norm xs') (nz' : Norm zs') (mx : ∀ t, Mem xs t ↔ Mem xs' t) (mz : ∀ t, Mem zs t ↔ Mem zs' t) :
    Calls Tryz.prog 18 #[.agg #[.slice A xs.length c, .slice B zs.length d], .agg #[.slice A' xs'.length c', .slice B' zs'.length d']] w fun e w' => e = .returned (.bool true) ∧ Below w.heap.size w w' := by
  have MX := hide mx
  have MZ := hide mz
  clear mx mz
  go_enter Tryz.func18, Tryz.ntmps18
  go_wp2_with fail
  obtain ⟨W0, hW0⟩ : ∃ W0 : World, ((w.alloc (.cells #[.slice A xs.length c, .slice B zs.length d] 45)).alloc (.cells #[.slice A' xs'.length c', .slice B' zs'.length d'] 45)) = W0 := ⟨_, rfl⟩
  obtain ⟨hb0, hz0, bx, br⟩ := two_boxes hW0
  rw [hW0]
  clear hW0
  refine (sameR_true A A' c c' xs xs' W0 ((hx.below hb0).more hb0.size) ((hx'.below hb0).more hb0.size) nx nx' MX.out).mono ?_
  rintro e w1 ⟨rfl, b1⟩
  obtain ⟨hz1, hb1, bx1, br1, _⟩ := clip_k2 (Nat.le_of_eq hz0.symm) hb0 bx br b1
  have q1 := (boxT2 bx1).2
  have q2 := (boxT2 br1).2
  go_wp2_with fail
  refine (sameR_true B B' d d' zs zs' w1 ((hz.below hb1).more hb1.size) ((hz'.below hb1).more hb1.size) nz nz' MZ.out).mono ?_
  rintro e w2 ⟨rfl, b2⟩
  go_wp2_with fail
  go_ret
  exact ⟨rfl, bstep hb1 b2⟩

end Go.Proofs.YtdlebcijgdkfjaaGreatDoor

/-
  condition.Compare at what the example asks; wavestorelaw51.awake: true.
-/
namespace Go.Proofs.YtdlebcijgdkfjaaGreatDoor
open Go.RowKit Go.Joins

set_option maxRecDepth 100000 in
theorem cmp_eq (a b : ByteArray) (x y : Bool) (w : World) (hA : bitsB a.data.toList = true) (hB : bitsB b.data.toList = true) (hs : a.size = b.size) (hl : a.size ≤ 1000) (he : eqP a.data.toList b.data.toList = (x, y)) :
    Calls Tryz.prog 10 #[.int .i64 0, .int .i64 19, .string a, .string b] w fun e w' => e = .returned (.tuple #[.bool (x && y), .bool y]) ∧ Below w.heap.size w w' := by
  have HA := hide hA
  have HB := hide hB
  have HE := hide he
  have HS := hide hs
  have tne : ((a.size : Int) != (b.size : Int)) = false := by rw [hs]; simp
  have hlb : b.size ≤ 1000 := by omega
  clear hA hB he hs
  go_enter Tryz.func10, Tryz.ntmps10
  go_wp2_with fail
  refine (isBits_any a _ hl).mono ?_
  rw [HA.out]
  rintro e w1 ⟨rfl, b1⟩
  go_wp2_with fail
  refine (isBits_any b _ hlb).mono ?_
  rw [HB.out]
  rintro e w2 ⟨rfl, b2⟩
  go_wp2_with fail
  refine (equality_any a b _ HS.out hl).mono ?_
  rw [HE.out]
  rintro e w3 ⟨rfl, b3⟩
  cases x <;> cases y
  all_goals
    go_wp2_with fail
    go_ret2
    exact ⟨rfl, bstep (bstep b1 b2) b3⟩

set_option maxRecDepth 100000 in
theorem cmp_same (a : ByteArray) (w : World) (hA : bitsB a.data.toList = true) (hl : a.size ≤ 1000) :
    Calls Tryz.prog 10 #[.int .i64 0, .int .i64 21, .string a, .string a] w fun e w' => e = .returned (.tuple #[.bool true, .bool true]) ∧ Below w.heap.size w w' := by
  have HA := hide hA
  clear hA
  go_enter Tryz.func10, Tryz.ntmps10
  go_wp2_with fail
  refine (isBits_any a _ hl).mono ?_
  rw [HA.out]
  rintro e w1 ⟨rfl, b1⟩
  go_wp2_with fail
  refine (isBits_any a _ hl).mono ?_
  rw [HA.out]
  rintro e w2 ⟨rfl, b2⟩
  go_wp2_with fail
  go_ret2
  exact ⟨rfl, bstep b1 b2⟩

def nodeAnd : Nf := ⟨9, 0, ⟨#[]⟩, ⟨#[]⟩, 0, 0, 0, 0, .slice none 0 0⟩
theorem strs_two (w : World) (a b : ByteArray) : StrsAt (w.alloc (.cells #[.string a, .string b] 9)) (Lo (w.alloc (.cells #[.string a, .string b] 9)).heap.size) (some ⟨w.heap.size, 0, none⟩) [a, b] := fun _ => by
  refine ⟨w.heap.size, 0, rfl, by unfold Lo; simp, fun i r hi => ?_⟩
  have hc : ∀ j, (w.alloc (.cells #[.string a, .string b] 9)).cell? ⟨w.heap.size, j, none⟩ = (#[.string a, .string b] : Array Value)[j]? := fun j => cell_of_row _ _ j _ _ (0, 0) (heap_alloc_new w _)
  match i, hi with
  | 0, hi => simp at hi; subst hi; exact hc 0
  | 1, hi => simp at hi; subst hi; exact hc 1
  | i + 2, hi => simp at hi

set_option maxRecDepth 100000 in
set_option maxHeartbeats 4000000 in
theorem awake51 (w : World) : Calls Tryz.prog 9 #[] w fun e w' => e = .returned (.bool true) ∧ Below w.heap.size w w' := by
  go_enter Tryz.func9, Tryz.ntmps9
  go_wp2_with fail
  refine (cmp_eq ⟨#[48, 49, 120]⟩ ⟨#[49, 49, 120]⟩ false true _ rfl rfl rfl (by decide) (by rfl)).mono ?_
  rintro e w1 ⟨rfl, b1⟩
  go_wp2_with fail
  refine (cmp_eq ⟨#[48, 49, 120]⟩ ⟨#[48, 49, 48]⟩ false false _ rfl rfl rfl (by decide) (by rfl)).mono ?_
  rintro e w2 ⟨rfl, b2⟩
  go_wp2_with fail
  refine (cmp_same ⟨#[48, 49, 120]⟩ _ rfl (by decide)).mono ?_
  rintro e w3 ⟨rfl, b3⟩
  have b3' := bstep (bstep b1 b2) b3
  have HB3 := hide b3'
  clear b1 b2 b3 b3'
  go_wp2_with fail
  have hx : IvsAt (w3.alloc (.cells #[.int .i64 1, .int .i64 2] 69)) (w3.alloc (.cells #[.int .i64 1, .int .i64 2] 69)).heap.size (some ⟨w3.heap.size, 0, none⟩) [(1, 2)] :=
    ivsAt_block (t := 69) (cs := #[.int .i64 1, .int .i64 2]) (heap_alloc_new w3 _) rfl (by simp)
  have hb4 : Below w.heap.size w (w3.alloc (.cells #[.int .i64 1, .int .i64 2] 69)) := HB3.out.alloc HB3.out.size _
  refine (tor_any none none (some ⟨w3.heap.size, 0, none⟩) none 0 0 1 0 [] [] [(1, 2)] [] _ IvsAt.nil IvsAt.nil hx IvsAt.nil (by simp) (by simp) (by simp) (by simp)).mono ?_
  rintro e w4 ⟨A1, c1, y1, B1, d1, z1, rfl, o1, o2, b4, n1, n2, m1, m2⟩
  have M1 := hide (show ∀ t, Mem y1 t ↔ Mem [(1, 2)] t from fun t => (m1 t).trans (by simp [mem_lit]))
  have M2 := hide (show ∀ t, Mem z1 t ↔ Mem [] t from fun t => (m2 t).trans (by simp [mem_lit]))
  have b4' := bstep hb4 b4
  have O1 := hide o1
  have O2 := hide o2
  clear m1 m2 hx hb4 b4 o1 o2
  go_wp2_with fail
  obtain ⟨W5, hW5⟩ : ∃ W5 : World, w4.alloc (.cells #[.slice A1 y1.length c1, .slice B1 z1.length d1] 45) = W5 := ⟨_, rfl⟩
  have hz5 : W5.heap.size = w4.heap.size + 1 := by rw [← hW5]; simp
  have g5 : W5.heap[w4.heap.size]? = some (.cells #[.slice A1 y1.length c1, .slice B1 z1.length d1] 45 (0, 0)) := by rw [← hW5]; exact heap_alloc_new w4 _
  have hb5 : Below w4.heap.size w4 W5 := by rw [← hW5]; exact (Below.refl _ _).alloc (Nat.le_refl _) _
  rw [hW5]
  clear hW5
  have hs := strs_two W5 ⟨#[49, 49, 49, 49]⟩ ⟨#[48, 49, 120, 122]⟩
  rw [hz5] at hs
  have hb6 : Below W5.heap.size W5 (W5.alloc (.cells #[.string ⟨#[49, 49, 49, 49]⟩, .string ⟨#[48, 49, 120, 122]⟩] 9)) := (Below.refl _ _).alloc (Nat.le_refl _) _
  have HB5 := hide hb5
  have HG5 := hide g5
  have HZ5 := hide hz5
  have HB6 := hide hb6
  have hap : applyL 9 0 0 (vL [⟨#[49, 49, 49, 49]⟩, ⟨#[48, 49, 120, 122]⟩]) = [48, 49, 120, 120] := by decide
  have HAP := hide hap
  clear hap hb5 g5 hz5 hb6
  refine (apply_any nodeAnd (some ⟨w4.heap.size + 1, 0, none⟩) 2 [⟨#[49, 49, 49, 49]⟩, ⟨#[48, 49, 120, 122]⟩] _ hs (by simp) (by simp) (by intro v hv; simp at hv; rcases hv with rfl | rfl <;> decide) (by unfold I64; decide) (by unfold I64; decide)).mono ?_
  rintro e w6 ⟨he, b6⟩
  have he' : e = .returned (.string ⟨#[48, 49, 120, 120]⟩) := by rw [he]; exact congrArg (fun l : List UInt8 => Ending.returned (.string ⟨l.toArray⟩)) HAP.out
  clear he
  subst he'
  have HB7 := hide (bstep HB6.out b6)
  have g6 := box_below HB7.out HG5.out
  obtain ⟨q1, q2⟩ := boxT2 g6
  have b46 := bstep HB5.out HB7.out
  have HB46 := hide b46
  clear g6 b6 b46 hs
  go_wp2_with fail
  have hx7 : IvsAt (w6.alloc (.cells #[.int .i64 1, .int .i64 2] 69)) (w6.alloc (.cells #[.int .i64 1, .int .i64 2] 69)).heap.size (some ⟨w6.heap.size, 0, none⟩) [(1, 2)] :=
    ivsAt_block (t := 69) (cs := #[.int .i64 1, .int .i64 2]) (heap_alloc_new w6 _) rfl (by simp)
  have b47 : Below w4.heap.size w4 (w6.alloc (.cells #[.int .i64 1, .int .i64 2] 69)) := HB46.out.alloc HB46.out.size _
  refine (tsame_true A1 B1 (some ⟨w6.heap.size, 0, none⟩) none c1 d1 1 0 y1 z1 [(1, 2)] [] _ (O1.out.ats.step b47) (O2.out.ats.step b47) hx7 IvsAt.nil n1 n2 (norm1 (by decide)) (by simp [Norm]) M1.out M2.out).mono ?_
  rintro e w8 ⟨rfl, b8⟩
  go_wp2_with fail
  go_ret
  exact ⟨rfl, bstep (bstep b4' b47) b8⟩

end Go.Proofs.YtdlebcijgdkfjaaGreatDoor

/-
  Exact decimals as texts: the form of a text, its parts, canonical texts, and the comparison; plain definitions and facts, no program.
-/
namespace Go.Proofs.YtdlebcijgdkfjaaGreatDoor

def dgC (c : UInt8) : Bool := decide (48 ≤ c.toNat) && decide (c.toNat ≤ 57)
def zC (c : UInt8) : Bool := c == 48
def dgs (l : List UInt8) : List UInt8 := l.takeWhile dgC
def rst (l : List UInt8) : List UInt8 := l.dropWhile dgC
/-- a sign at the front -/
def sgn1 : List UInt8 → Bool × List UInt8
  | [] => (false, [])
  | c :: r => if c = 45 then (true, r) else if c = 43 then (false, r) else (false, c :: r)
/-- what a text says: sign, digits ahead of and behind the point, sign and digits of the exponent -/
structure Raw where
  neg : Bool
  whole : List UInt8
  frac : List UInt8
  down : Bool
  expo : List UInt8
def fracR : List UInt8 → Option (List UInt8 × List UInt8)
  | [] => some ([], [])
  | c :: r => if c = 46 then (if dgs r = [] then none else some (dgs r, rst r)) else some ([], c :: r)
def expR : List UInt8 → Option (Bool × List UInt8 × List UInt8)
  | [] => some (false, [], [])
  | c :: r => if c = 101 ∨ c = 69 then (if dgs (sgn1 r).2 = [] then none else some ((sgn1 r).1, dgs (sgn1 r).2, rst (sgn1 r).2)) else some (false, [], c :: r)
theorem sgn1_cons (c : UInt8) (r : List UInt8) : sgn1 (c :: r) = if c = 45 then (true, r) else if c = 43 then (false, r) else (false, c :: r) := rfl
theorem fracR_cons (c : UInt8) (r : List UInt8) : fracR (c :: r) = if c = 46 then (if dgs r = [] then none else some (dgs r, rst r)) else some ([], c :: r) := rfl
theorem expR_cons (c : UInt8) (r : List UInt8) : expR (c :: r) = if c = 101 ∨ c = 69 then (if dgs (sgn1 r).2 = [] then none else some ((sgn1 r).1, dgs (sgn1 r).2, rst (sgn1 r).2)) else some (false, [], c :: r) := rfl
def readR (s : List UInt8) : Option Raw :=
  if 64 < s.length then none
  else if dgs (sgn1 s).2 = [] then none
  else match fracR (rst (sgn1 s).2) with
    | none => none
    | some (fs, l3) => match expR l3 with
      | none => none
      | some (dn, es, l4) => if l4 = [] then some ⟨(sgn1 s).1, dgs (sgn1 s).2, fs, dn, es⟩ else none
def dv (c : UInt8) : Nat := c.toNat - 48
def clampE (C : Nat) (es : List UInt8) : Nat := es.foldl (fun e c => min C (10 * e + dv c)) 0
def expV (C : Nat) (r : Raw) : Int := if r.down then -(clampE C r.expo : Int) else (clampE C r.expo : Int)

/-- a number: its sign, its digits without zeros at the ends, the exponent of the first one -/
structure Dec where
  neg : Bool
  ds : List UInt8
  fst : Int
def dec0 : Dec := ⟨false, [], 0⟩
def rdrop (l : List UInt8) : List UInt8 := (l.reverse.dropWhile zC).reverse
def nrm (neg : Bool) (ds : List UInt8) (f : Int) : Dec :=
  if rdrop (ds.dropWhile zC) = [] then dec0 else ⟨neg, rdrop (ds.dropWhile zC), f - ((ds.length : Int) - (ds.dropWhile zC).length)⟩
def decOf (C : Nat) (r : Raw) : Dec := nrm r.neg (r.whole ++ r.frac) ((r.whole.length : Int) - 1 + expV C r)

def decN (n : Nat) : List UInt8 := if n < 10 then [UInt8.ofNat (48 + n)] else decN (n / 10) ++ [UInt8.ofNat (48 + n % 10)]
termination_by n
def decI (f : Int) : List UInt8 := if f < 0 then 45 :: decN f.natAbs else decN f.natAbs
def txt (d : Dec) : List UInt8 := match d.ds with
  | [] => [48]
  | c :: cs => (if d.neg then [45] else []) ++ (c :: ((if cs = [] then [] else 46 :: cs) ++ 101 :: decI d.fst))
/-- a number that has a text -/
def fitB (d : Dec) : Bool := d.ds.isEmpty || (decide (d.ds.length ≤ 17) && decide (-400 ≤ d.fst) && decide (d.fst ≤ 400))
def canonC (C : Nat) (s : List UInt8) : Option Dec := match readR s with
  | none => none
  | some r => if fitB (decOf C r) = true ∧ txt (decOf C r) = s then some (decOf C r) else none
theorem rdrop_snoc (l : List UInt8) (c : UInt8) : rdrop (l ++ [c]) = if c = 48 then rdrop l else l ++ [c] := by
  unfold rdrop
  rw [List.reverse_append]
  simp only [List.reverse_cons, List.reverse_nil, List.nil_append, List.singleton_append, List.dropWhile_cons]
  by_cases h : c = 48
  · simp [zC, h]
  · have : zC c = false := by simp [zC, h]
    rw [this, if_neg h]
    simp
theorem rdrop_prefix (l : List UInt8) : rdrop l <+: l := by
  unfold rdrop
  have := List.dropWhile_suffix (l := l.reverse) zC
  rw [← List.reverse_prefix] at this
  simpa using this
theorem rdrop_of_last {l : List UInt8} (h : ∀ c, l.getLast? = some c → c ≠ 48) : rdrop l = l := by
  unfold rdrop
  have : l.reverse.dropWhile zC = l.reverse := by
    cases hr : l.reverse with
    | nil => rfl
    | cons c cs =>
      have h1 := h c (by rw [← List.head?_reverse, hr]; rfl)
      rw [List.dropWhile_cons, if_neg (by simp [zC, h1])]
  rw [this, List.reverse_reverse]
theorem drop_of_head {l : List UInt8} (h : ∀ c, l.head? = some c → c ≠ 48) : l.dropWhile zC = l := by
  cases l with
  | nil => rfl
  | cons c cs => rw [List.dropWhile_cons, if_neg (by simp [zC, h c rfl])]

theorem dgs_all (l : List UInt8) : ∀ c ∈ dgs l, dgC c = true := by
  unfold dgs
  induction l with
  | nil => intro c h; cases h
  | cons a l ih =>
    intro c h
    rw [List.takeWhile_cons] at h
    split at h
    · rcases List.mem_cons.1 h with rfl | h
      · assumption
      · exact ih c h
    · cases h
/-! ## the decimal text of a small number -/
theorem decN_len (n : Nat) (h : n < 1000) : (decN n).length ≤ 3 := by
  unfold decN
  split
  · simp
  · rw [List.length_append]
    unfold decN
    split
    · simp
    · rw [List.length_append]
      unfold decN
      rw [if_pos (by omega)]
      simp
theorem clampE_snoc (C : Nat) (l : List UInt8) (c : UInt8) : clampE C (l ++ [c]) = min C (10 * clampE C l + dv c) := by
  unfold clampE
  rw [List.foldl_append]
  rfl
theorem dgs_app {l r : List UInt8} (h : ∀ c ∈ l, dgC c = true) (hr : ∀ c, r.head? = some c → dgC c = false) : dgs (l ++ r) = l ∧ rst (l ++ r) = r := by
  unfold dgs rst
  induction l with
  | nil =>
    cases r with
    | nil => exact ⟨rfl, rfl⟩
    | cons c r =>
      have := hr c rfl
      rw [List.nil_append, List.takeWhile_cons, List.dropWhile_cons, if_neg (by simp [this]), if_neg (by simp [this])]
      exact ⟨rfl, rfl⟩
  | cons a l ih =>
    have ha := h a (List.mem_cons_self ..)
    obtain ⟨h1, h2⟩ := ih fun c hc => h c (List.mem_cons_of_mem _ hc)
    rw [List.cons_append, List.takeWhile_cons, List.dropWhile_cons, if_pos ha, if_pos ha, h1, h2]
    exact ⟨rfl, rfl⟩
theorem decI_len (f : Int) (h0 : -400 ≤ f) (h1 : f ≤ 400) : (decI f).length ≤ 4 := by
  have := decN_len f.natAbs (by omega)
  unfold decI
  split
  · simp; omega
  · omega

/-! ## the comparison -/
def lexC : List UInt8 → List UInt8 → Int
  | [], [] => 0
  | [], _ :: _ => -1
  | _ :: _, [] => 1
  | x :: p, y :: q => if x < y then -1 else if y < x then 1 else lexC p q
def cmpI (a b : Int) : Int := if a < b then -1 else if b < a then 1 else 0
def sgnD (d : Dec) : Int := if d.ds = [] then 0 else if d.neg then -1 else 1
def magD (a b : Dec) : Int := if a.ds = [] ∨ b.ds = [] then cmpI a.ds.length b.ds.length else if a.fst = b.fst then lexC a.ds b.ds else cmpI a.fst b.fst
def cmpD (a b : Dec) : Int := if sgnD a = sgnD b then sgnD a * magD a b else cmpI (sgnD a) (sgnD b)
theorem dg_le {c : UInt8} (h : dgC c = true) : 48 ≤ c.toNat ∧ c.toNat ≤ 57 := by
  unfold dgC at h
  simpa using h
section
variable {a b : Dec}
end

end Go.Proofs.YtdlebcijgdkfjaaGreatDoor

/-
  wavestoreref03.digit, digits.
-/
namespace Go.Proofs.YtdlebcijgdkfjaaGreatDoor
open Go.RowKit

theorem dgs_stop {l : List UInt8} {k : Nat} (_ : k ≤ l.length) (ha : (l.take k).all dgC = true) (he : ∀ c, l[k]? = some c → dgC c = false) : dgs l = l.take k ∧ rst l = l.drop k := by
  have h := dgs_app (l := l.take k) (r := l.drop k) (by simpa [List.all_eq_true] using ha) (fun c hc => he c (by simpa [List.head?_drop] using hc))
  rw [List.take_append_drop] at h
  exact h

theorem rdigit_any (c : UInt8) (w : World) : Calls Tryz.prog 225 #[.int .u8 (c.toNat : Int)] w fun e w' => e = .returned (.bool (dgC c)) ∧ w = w' := by
  have hc := byte_lt c
  by_cases h0 : 48 ≤ c.toNat
  · by_cases h1 : c.toNat ≤ 57
    · have HK := hide (show dgC c = true by unfold dgC; simp [h0, h1])
      have T := hide (show decide ((c.toNat : Int) ≤ 57) = true from decide_eq_true (by omega))
      go_enter Tryz.func225, Tryz.ntmps225
      go_wp2_with fail
      go_ret
      exact ⟨by rw [HK.out]; exact congrArg (fun b => Ending.returned (.bool b)) T.out, rfl⟩
    · have HK := hide (show dgC c = false by unfold dgC; simp [h0, h1])
      have T := hide (show decide ((c.toNat : Int) ≤ 57) = false from decide_eq_false (by omega))
      go_enter Tryz.func225, Tryz.ntmps225
      go_wp2_with fail
      go_ret
      exact ⟨by rw [HK.out]; exact congrArg (fun b => Ending.returned (.bool b)) T.out, rfl⟩
  · have HK := hide (show dgC c = false by unfold dgC; simp [h0])
    go_enter Tryz.func225, Tryz.ntmps225
    go_wp2_with fail
    go_ret
    exact ⟨by rw [HK.out]; rfl, rfl⟩

def DgRel (l : List UInt8) (i : Value) : Prop := ∃ k : Nat, k ≤ l.length ∧ i = .int .i64 k ∧ (l.take k).all dgC = true

set_option maxRecDepth 100000 in
theorem rdigits_any (s : ByteArray) (at' : Nat) (w : World) (hs : s.size ≤ 1000) (ha : at' ≤ s.size) : Calls Tryz.prog 200 #[.string s, .int .i64 (at' : Int)] w fun e w' => e = .returned (.int .i64 ((dgs (s.data.toList.drop at')).length : Int)) ∧ w = w' := by
  have HL := hide (show (s.data.toList.drop at').length = s.size - at' by simp)
  go_enter Tryz.func200, Tryz.ntmps200
  go_wp2_with fail
  go_loop [5] (fun i => DgRel (s.data.toList.drop at') i) (fun i => s.size - (intOf i).toNat)
  case atStart => exact ⟨0, Nat.zero_le _, rfl, rfl⟩
  case round =>
    obtain ⟨k, hk, rfl, hp⟩ := hrel
    rw [HL.out] at hk
    have HP := hide hp
    clear hp
    by_cases hlt : at' + k < s.size
    · have hx : (s.data.toList.drop at')[k]? = some s[at' + k] := by
        rw [List.getElem?_drop, List.getElem?_eq_getElem (by simpa using hlt)]; rfl
      have HX := hide hx
      clear hx
      have HT := hide (show (((s.data.toList.drop at').take (k + 1)).all dgC) = (((s.data.toList.drop at').take k).all dgC && dgC s[at' + k]) by
        rw [List.take_add_one, HX.out, List.all_append]; simp)
      cases hd : dgC s[at' + k] with
      | true =>
        have HD := hide hd
        clear hd
        go_wp2_with fail
        refine (rdigit_any _ _).mono ?_
        rw [HD.out]
        rintro e w1 ⟨rfl, rfl⟩
        go_wp2_with fail
        go_round
        case rel => exact ⟨k + 1, by rw [HL.out]; omega, by go_num, by rw [HT.out, HP.out, HD.out]; rfl⟩
        case measure => simp [intOf]; omega
      | false =>
        have HS := hide (dgs_stop (l := s.data.toList.drop at') (k := k) (by rw [HL.out]; omega) HP.out (by rw [HX.out]; rintro c ⟨⟩; exact hd)).1
        have HD := hide hd
        clear hd
        go_wp2_with fail
        refine (rdigit_any _ _).mono ?_
        rw [HD.out]
        rintro e w1 ⟨rfl, rfl⟩
        go_wp2_with fail
        go_ret
        exact ⟨by rw [HS.out, List.length_take, HL.out, Nat.min_eq_left (by omega)]; rfl, rfl⟩
    · have hke : k = s.size - at' := by omega
      subst hke
      have HS := hide (dgs_stop (l := s.data.toList.drop at') (k := s.size - at') (by rw [HL.out]; omega) HP.out (by rw [List.getElem?_eq_none (by rw [HL.out]; omega)]; rintro c ⟨⟩)).1
      go_wp2_with fail
      go_ret
      exact ⟨by rw [HS.out, List.length_take, HL.out, Nat.min_eq_left (by omega)]; rfl, rfl⟩

end Go.Proofs.YtdlebcijgdkfjaaGreatDoor
