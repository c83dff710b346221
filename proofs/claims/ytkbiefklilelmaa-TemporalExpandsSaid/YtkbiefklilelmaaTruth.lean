/-
  temporal.allowed, clip, Some, All, condition.Not, wavestoreref51.Few and Same: what they make of two lists.
-/
import Derived.Test.YtkbiefklilelmaaWin
import Derived.Test.YtkbiefklilelmaaSame
import Derived.Deep.RegionHeld3
namespace Go.Proofs.Ytkbiefklilelmaa
open Go.RowKit Go.Joins

/-- the value of an api.Truth with two lists -/
def trV (A B : Option Addr) (n m c d : Nat) : Value := .agg #[.slice A n c, .slice B m d]

/-- what a function returns that makes the normal lists of the sets S and T -/
def RetTr (w : World) (S T : Int → Prop) (e : Ending) (w' : World) : Prop :=
  ∃ (A : Option Addr) (c : Nat) (ys : List Iv) (B : Option Addr) (d : Nat) (zs : List Iv), e = .returned (.agg #[.slice A ys.length c, .slice B zs.length d]) ∧ OwnIv w' w.heap.size A c ys ∧ OwnIv w' w.heap.size B d zs ∧
    Below w.heap.size w w' ∧ Norm ys ∧ Norm zs ∧ (∀ t, Mem ys t ↔ S t) ∧ ∀ t, Mem zs t ↔ T t

theorem RetTr.congr {w : World} {S S' T T' : Int → Prop} {e : Ending} {w' : World} (h : RetTr w S T e w') (hs : ∀ t, S t ↔ S' t) (ht : ∀ t, T t ↔ T' t) : RetTr w S' T' e w' := by
  obtain ⟨A, c, ys, B, d, zs, h1, h2, h3, h4, h5, h6, h7, h8⟩ := h
  exact ⟨A, c, ys, B, d, zs, h1, h2, h3, h4, h5, h6, fun t => (h7 t).trans (hs t), fun t => (h8 t).trans (ht t)⟩

theorem two_boxes {w W0 : World} {t t' : TypeId} {a b a' b' : Value} (h : ((w.alloc (.cells #[a, b] t)).alloc (.cells #[a', b'] t')) = W0) :
    Below w.heap.size w W0 ∧ W0.heap.size = w.heap.size + 2 ∧ W0.heap[w.heap.size]? = some (.cells #[a, b] t (0, 0)) ∧ W0.heap[w.heap.size + 1]? = some (.cells #[a', b'] t' (0, 0)) := by
  subst h
  refine ⟨((Below.refl _ _).alloc (Nat.le_refl _) _).alloc (by simp) _, by simp, box_alloc (heap_alloc_new w _), ?_⟩
  have := heap_alloc_new (w.alloc (.cells #[a, b] t)) (.cells #[a', b'] t')
  simpa using this
theorem box2 {w : World} {N : Nat} {a b : Value} {t : TypeId} (h : w.heap[N]? = some (.cells #[a, b] t (0, 0))) : w.cell? ⟨N, 0, none⟩ = some a ∧ w.cell? ⟨N, 1, none⟩ = some b :=
  ⟨by rw [cell_of_row w N _ _ t (0, 0) h]; rfl, by rw [cell_of_row w N _ _ t (0, 0) h]; rfl⟩

theorem below_box {w w' : World} {B N : Nat} {o : Obj} (h : Below B w w') (hN : N < B) (hb : w.heap[N]? = some o) : w'.heap[N]? = some o := (h.block N hN).trans hb

theorem below_drew {w w' : World} {B : Nat} (h : Below B w w') : Below B w w'.drew := ⟨h.os, h.tape, h.output, h.size, h.block⟩

theorem clip_k2 {w W0 w1 : World} {t : TypeId} {a b a' b' : Value} (hz0 : w.heap.size + 2 ≤ W0.heap.size) (hb0 : Below w.heap.size w W0) (bx : W0.heap[w.heap.size]? = some (.cells #[a, b] t (0, 0))) (br : W0.heap[w.heap.size + 1]? = some (.cells #[a', b'] t (0, 0)))
    (b1 : Below W0.heap.size W0 w1) : w.heap.size + 2 ≤ w1.heap.size ∧ Below w.heap.size w w1 ∧ w1.heap[w.heap.size]? = some (.cells #[a, b] t (0, 0)) ∧ w1.heap[w.heap.size + 1]? = some (.cells #[a', b'] t (0, 0)) ∧
      (w1.cell? ⟨w.heap.size, 0, none⟩ = some a ∧ w1.cell? ⟨w.heap.size, 1, none⟩ = some b ∧ Below w.heap.size w w1) := by
  have h1 := b1.size
  have h2 := below_box b1 (by omega) bx
  have h3 := below_box b1 (by omega) br
  exact ⟨by omega, bstep hb0 b1, h2, h3, (box2 h2).1, (box2 h2).2, bstep hb0 b1⟩
theorem box2_frozen {w : World} {N : Nat} {a b : Value} {t : TypeId} (h : w.heap[N]? = some (.cells #[a, b] t (0, 0))) : w.frozen? ⟨N, 0, none⟩ = false ∧ w.frozen? ⟨N, 1, none⟩ = false := by
  constructor <;> simp [World.frozen?, h]
theorem box2_set {w : World} {N : Nat} {a b u v : Value} {t : TypeId} (h : w.heap[N]? = some (.cells #[a, b] t (0, 0))) : ((w.setCell ⟨N, 0, none⟩ u).setCell ⟨N, 1, none⟩ v).heap[N]? = some (.cells #[u, v] t (0, 0)) := by
  simp [World.setCell, Array.getElem?_modify, h]
theorem clip_k3 {w w1 : World} {t : TypeId} {a b u v : Value} (hb0 : Below w.heap.size w w1) (bx : w1.heap[w.heap.size]? = some (.cells #[a, b] t (0, 0))) :
    (((w1.setCell ⟨w.heap.size + 1, 0, none⟩ u).setCell ⟨w.heap.size + 1, 1, none⟩ v).cell? ⟨w.heap.size, 0, none⟩ = some a ∧ ((w1.setCell ⟨w.heap.size + 1, 0, none⟩ u).setCell ⟨w.heap.size + 1, 1, none⟩ v).cell? ⟨w.heap.size, 1, none⟩ = some b ∧ Below w.heap.size w ((w1.setCell ⟨w.heap.size + 1, 0, none⟩ u).setCell ⟨w.heap.size + 1, 1, none⟩ v)) := by
  have h : ((w1.setCell ⟨w.heap.size + 1, 0, none⟩ u).setCell ⟨w.heap.size + 1, 1, none⟩ v).heap[w.heap.size]? = some (.cells #[a, b] t (0, 0)) := by
    rw [Below.heap_setCell _ _ _ _ (by simp), Below.heap_setCell _ _ _ _ (by simp)]; exact bx
  exact ⟨(box2 h).1, (box2 h).2, (hb0.setCell (by simp) u).setCell (by simp) v⟩
theorem clip_k1 {w W0 w1 : World} {t : TypeId} {a b a' b' : Value} (hz0 : W0.heap.size = w.heap.size + 2) (hb0 : Below w.heap.size w W0) (bx : W0.heap[w.heap.size]? = some (.cells #[a, b] t (0, 0))) (br : W0.heap[w.heap.size + 1]? = some (.cells #[a', b'] t (0, 0)))
    (b1 : Below W0.drew.heap.size W0.drew w1) : w.heap.size + 2 ≤ w1.heap.size ∧ Below w.heap.size w w1 ∧ w1.heap[w.heap.size]? = some (.cells #[a, b] t (0, 0)) ∧ w1.heap[w.heap.size + 1]? = some (.cells #[a', b'] t (0, 0)) ∧
      (w1.cell? ⟨w.heap.size, 0, none⟩ = some a ∧ w1.cell? ⟨w.heap.size, 1, none⟩ = some b ∧ Below w.heap.size w w1) :=
  clip_k2 (W0 := W0.drew) (Nat.le_of_eq hz0.symm) (below_drew hb0) bx br b1

theorem tr_end {w w1 w2 W3 : World} {p q c1 c2 : Nat} {A1 A2 : Option Addr} {y1 y2 : List Iv} {a' b' : Value} {t : TypeId} (hb2 : Below w.heap.size w w2) (br2 : w2.heap[w.heap.size + 1]? = some (.cells #[a', b'] t (0, 0)))
    (o1 : OwnIv w1 p A1 c1 y1) (h1 : w.heap.size + 2 ≤ p) (b2 : Below w1.heap.size w1 w2) (o2 : OwnIv w2 q A2 c2 y2) (h2 : w.heap.size + 2 ≤ q)
    (hW : (w2.setCell ⟨w.heap.size + 1, 0, none⟩ (.slice A1 y1.length c1)).setCell ⟨w.heap.size + 1, 1, none⟩ (.slice A2 y2.length c2) = W3) :
    W3.cell? ⟨w.heap.size + 1, 0, none⟩ = some (.slice A1 y1.length c1) ∧ W3.cell? ⟨w.heap.size + 1, 1, none⟩ = some (.slice A2 y2.length c2) ∧ Below w.heap.size w W3 ∧ OwnIv W3 w.heap.size A1 c1 y1 ∧ OwnIv W3 w.heap.size A2 c2 y2 := by
  subst hW
  have hb := box2_set (u := .slice A1 y1.length c1) (v := .slice A2 y2.length c2) br2
  refine ⟨(box2 hb).1, (box2 hb).2, (hb2.setCell (by simp) _).setCell (by simp) _, OwnIv.lower (base := p) ?_ (by omega), OwnIv.lower (base := q) ?_ (by omega)⟩
  · exact ownsRow_setCell_below (ownsRow_setCell_below (o1.below b2 (Nat.le_refl _)) (by simp; omega) _) (by simp; omega) _
  · exact ownsRow_setCell_below (ownsRow_setCell_below o2 (by simp; omega) _) (by simp; omega) _

set_option maxRecDepth 100000 in
theorem tclip_any (A B : Option Addr) (c d : Nat) (xs zs : List Iv) (lo hi : Int) (w : World) (hx : IvsAt w w.heap.size A xs) (hz : IvsAt w w.heap.size B zs) (lx : xs.length ≤ 4398046511104) (lz : zs.length ≤ 4398046511104) :
    Calls Try.prog 41 #[.agg #[.slice A xs.length c, .slice B zs.length d], .int .i64 lo, .int .i64 hi] w (RetTr w (clipS (Mem xs) lo hi) (clipS (Mem zs) lo hi)) := by
  go_enter Try.func41, Try.ntmps41
  go_wp2_with fail
  obtain ⟨W0, hW0⟩ : ∃ W0 : World, ((w.alloc (.cells #[.slice A xs.length c, .slice B zs.length d] 24)).alloc (.cells #[.slice none 0 0, .slice none 0 0] 24)) = W0 := ⟨_, rfl⟩
  obtain ⟨hb0, hz0, bx, br⟩ := two_boxes hW0
  rw [hW0]
  clear hW0
  go_region_held3 (fun wx => wx.cell? ⟨w.heap.size, 0, none⟩ = some (.slice A xs.length c) ∧ wx.cell? ⟨w.heap.size, 1, none⟩ = some (.slice B zs.length d) ∧ Below w.heap.size w wx)
    (first | assumption | exact ⟨(box2 bx).1, (box2 bx).2, below_drew hb0⟩ | exact clip_k3 hb2 bx2)
    (first
      | (go_at_call_of 53 xs; refine (clip_any A c xs lo hi W0.drew ((hx.below (below_drew hb0)).more (below_drew hb0).size) lx).mono ?_; rintro e w1 ⟨A1, c1, y1, rfl, o1, b1, n1, m1⟩; obtain ⟨hz1, hb1, bx1, br1, k1⟩ := clip_k1 hz0 hb0 bx br b1; have M1 := hide m1; clear m1)
      | (go_at_call_of 53 zs; refine (clip_any B d zs lo hi w1 ((hz.below hb1).more hb1.size) lz).mono ?_; rintro e w2 ⟨A2, c2, y2, rfl, o2, b2, n2, m2⟩; obtain ⟨hz2, hb2, bx2, br2, k2⟩ := clip_k2 hz1 hb1 bx1 br1 b2; have M2 := hide m2; clear m2; have q1 := (box2 br2).1; have q2 := (box2 br2).2; have q3 := (box2_frozen br2).1; have q4 := (box2_frozen br2).2))
  obtain ⟨W3, hW3⟩ : ∃ W3 : World, (w2.setCell ⟨w.heap.size + 1, 0, none⟩ (.slice A1 y1.length c1)).setCell ⟨w.heap.size + 1, 1, none⟩ (.slice A2 y2.length c2) = W3 := ⟨_, rfl⟩
  obtain ⟨f1, f2, hb3, r1, r2⟩ := tr_end hb2 br2 o1 (Nat.le_of_eq hz0.symm) b2 o2 hz1 hW3
  rw [hW3]
  clear hW3
  go_wp2_with fail
  exact bodyPost_ret (v := .agg #[.slice A1 y1.length c1, .slice A2 y2.length c2]) (by simp [results, Try.results41, go_sem, f1, f2]) rfl ⟨A1, c1, y1, A2, c2, y2, rfl, r1, r2, hb3, n1, n2, M1.out, M2.out⟩

set_option maxRecDepth 100000 in
theorem tnot_any (A B : Option Addr) (c d : Nat) (xs zs : List Iv) (w : World) (hx : IvsAt w w.heap.size A xs) (hz : IvsAt w w.heap.size B zs) (lx : xs.length ≤ 4398046511104) (lz : zs.length ≤ 4398046511104) :
    Calls Try.prog 19 #[.agg #[.slice A xs.length c, .slice B zs.length d]] w (RetTr w (Mem zs) (Mem xs)) := by
  go_enter Try.func19, Try.ntmps19
  go_wp2_with fail
  obtain ⟨W0, hW0⟩ : ∃ W0 : World, ((w.alloc (.cells #[.slice A xs.length c, .slice B zs.length d] 24)).alloc (.cells #[.slice none 0 0, .slice none 0 0] 24)) = W0 := ⟨_, rfl⟩
  obtain ⟨hb0, hz0, bx, br⟩ := two_boxes hW0
  rw [hW0]
  clear hW0
  go_region_held3 (fun wx => wx.cell? ⟨w.heap.size, 0, none⟩ = some (.slice A xs.length c) ∧ wx.cell? ⟨w.heap.size, 1, none⟩ = some (.slice B zs.length d) ∧ Below w.heap.size w wx)
    (first | assumption | exact ⟨(box2 bx).1, (box2 bx).2, below_drew hb0⟩ | exact clip_k3 hb2 bx2)
    (first
      | (go_at_call_of 45 zs; refine (normal_any B d zs W0.drew ((hz.below (below_drew hb0)).more (below_drew hb0).size) lz).mono ?_; rintro e w1 ⟨A1, c1, y1, rfl, o1, b1, n1, m1⟩; obtain ⟨hz1, hb1, bx1, br1, k1⟩ := clip_k1 hz0 hb0 bx br b1; have M1 := hide m1; clear m1)
      | (go_at_call_of 45 xs; refine (normal_any A c xs w1 ((hx.below hb1).more hb1.size) lx).mono ?_; rintro e w2 ⟨A2, c2, y2, rfl, o2, b2, n2, m2⟩; obtain ⟨hz2, hb2, bx2, br2, k2⟩ := clip_k2 hz1 hb1 bx1 br1 b2; have M2 := hide m2; clear m2; have q1 := (box2 br2).1; have q2 := (box2 br2).2; have q3 := (box2_frozen br2).1; have q4 := (box2_frozen br2).2))
  obtain ⟨W3, hW3⟩ : ∃ W3 : World, (w2.setCell ⟨w.heap.size + 1, 0, none⟩ (.slice A1 y1.length c1)).setCell ⟨w.heap.size + 1, 1, none⟩ (.slice A2 y2.length c2) = W3 := ⟨_, rfl⟩
  obtain ⟨f1, f2, hb3, r1, r2⟩ := tr_end hb2 br2 o1 (Nat.le_of_eq hz0.symm) b2 o2 hz1 hW3
  rw [hW3]
  clear hW3
  go_wp2_with fail
  exact bodyPost_ret (v := .agg #[.slice A1 y1.length c1, .slice A2 y2.length c2]) (by simp [results, Try.results19, go_sem, f1, f2]) rfl ⟨A1, c1, y1, A2, c2, y2, rfl, r1, r2, hb3, n1, n2, M1.out, M2.out⟩

theorem allowed_any (l a b lo hi : Int) (w : World) : Calls Try.prog 40 #[.int .i64 l, .int .i64 a, .int .i64 b, .int .i64 lo, .int .i64 hi] w fun e w' => e = .returned (.bool (alwB l a b lo hi)) ∧ w = w' := by
  have hd : alwB l a b lo hi = decide (l ≤ a ∧ a ≤ b ∧ b ≤ 1099511627776 ∧ 0 ≤ lo ∧ lo ≤ hi ∧ hi ≤ 1099511627776) := rfl
  by_cases h1 : l ≤ a
  · by_cases h2 : a ≤ b
    · by_cases h3 : b ≤ 1099511627776
      · by_cases h4 : 0 ≤ lo
        · by_cases h5 : lo ≤ hi
          · by_cases h6 : hi ≤ 1099511627776
            · have HD := hide (hd.trans (decide_eq_true ⟨h1, h2, h3, h4, h5, h6⟩))
              clear hd
              go_enter Try.func40, Try.ntmps40
              go_wp2
              go_ret
              exact ⟨by rw [HD.out]; rfl, rfl⟩
            · have HD := hide (hd.trans (decide_eq_false (fun h => h6 h.2.2.2.2.2)))
              clear hd
              go_enter Try.func40, Try.ntmps40
              go_wp2
              go_ret
              exact ⟨by rw [HD.out]; rfl, rfl⟩
          · have HD := hide (hd.trans (decide_eq_false (fun h => h5 h.2.2.2.2.1)))
            clear hd
            go_enter Try.func40, Try.ntmps40
            go_wp2
            go_ret
            exact ⟨by rw [HD.out]; rfl, rfl⟩
        · have HD := hide (hd.trans (decide_eq_false (fun h => h4 h.2.2.2.1)))
          clear hd
          go_enter Try.func40, Try.ntmps40
          go_wp2
          go_ret
          exact ⟨by rw [HD.out]; rfl, rfl⟩
      · have HD := hide (hd.trans (decide_eq_false (fun h => h3 h.2.2.1)))
        clear hd
        go_enter Try.func40, Try.ntmps40
        go_wp2
        go_ret
        exact ⟨by rw [HD.out]; rfl, rfl⟩
    · have HD := hide (hd.trans (decide_eq_false (fun h => h2 h.2.1)))
      clear hd
      go_enter Try.func40, Try.ntmps40
      go_wp2
      go_ret
      exact ⟨by rw [HD.out]; rfl, rfl⟩
  · have HD := hide (hd.trans (decide_eq_false (fun h => h1 h.1)))
    clear hd
    go_enter Try.func40, Try.ntmps40
    go_wp2
    go_ret
    exact ⟨by rw [HD.out]; rfl, rfl⟩

end Go.Proofs.Ytkbiefklilelmaa
