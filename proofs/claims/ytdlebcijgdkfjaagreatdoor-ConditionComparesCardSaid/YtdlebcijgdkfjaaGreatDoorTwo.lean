/-
  Conditions as two lists of intervals in memory: boxes, own lists, what a call leaves behind it. No function of the program is named here.
-/
import Derived.Test.YtdlebcijgdkfjaaGreatDoorSame
import Derived.Test.YtdlebcijgdkfjaaGreatDoorUnion
import Derived.Deep.RegionHeld3
import Derived.Deep.DeepCutAuto
namespace Go.Proofs.YtdlebcijgdkfjaaGreatDoor
open Go.RowKit Go.Joins

/-- the value of an api.Truth with two lists -/
def trV (A B : Option Addr) (n m c d : Nat) : Value := .agg #[.slice A n c, .slice B m d]

/-- what a function returns that makes the normal lists of the sets S and T -/
def RetTr (w : World) (S T : Int → Prop) (e : Ending) (w' : World) : Prop :=
  ∃ (A : Option Addr) (c : Nat) (ys : List Iv) (B : Option Addr) (d : Nat) (zs : List Iv), e = .returned (.agg #[.slice A ys.length c, .slice B zs.length d]) ∧ OwnIv w' w.heap.size A c ys ∧ OwnIv w' w.heap.size B d zs ∧
    Below w.heap.size w w' ∧ Norm ys ∧ Norm zs ∧ (∀ t, Mem ys t ↔ S t) ∧ ∀ t, Mem zs t ↔ T t

theorem RetTr.congr {w : World} {S S' T T' : Int → Prop} {e : Ending} {w' : World} (h : RetTr w S T e w') (hs : ∀ t, S t ↔ S' t) (ht : ∀ t, T t ↔ T' t) : RetTr w S' T' e w' := by
  obtain ⟨A, c, ys, B, d, zs, h1, h2, h3, h4, h5, h6, h7, h8⟩ := h
  exact ⟨A, c, ys, B, d, zs, h1, h2, h3, h4, h5, h6, fun t => (h7 t).trans (hs t), fun t => (h8 t).trans (ht t)⟩

theorem two_boxes {w W0 : World} {t t' : TypeId} {a b a' b' : Value} (h : ((w.alloc (.cells #[a, b] t)).alloc (.cells #[a', b'] t')) = W0) :
    Below w.heap.size w W0 ∧ W0.heap.size = w.heap.size + 2 ∧ W0.heap[w.heap.size]? = some (.cells #[a, b] t (0, 0)) ∧ W0.heap[w.heap.size + 1]? = some (.cells #[a', b'] t' (0, 0)) := by
  subst h
  refine ⟨((Below.refl _ _).alloc (Nat.le_refl _) _).alloc (by simp) _, by simp, box_alloc (heap_alloc_new w _), ?_⟩
  have := heap_alloc_new (w.alloc (.cells #[a, b] t)) (.cells #[a', b'] t')
  simpa using this
theorem boxT2 {w : World} {N : Nat} {a b : Value} {t : TypeId} (h : w.heap[N]? = some (.cells #[a, b] t (0, 0))) : w.cell? ⟨N, 0, none⟩ = some a ∧ w.cell? ⟨N, 1, none⟩ = some b :=
  ⟨by rw [cell_of_row w N _ _ t (0, 0) h]; rfl, by rw [cell_of_row w N _ _ t (0, 0) h]; rfl⟩

theorem below_box {w w' : World} {B N : Nat} {o : Obj} (h : Below B w w') (hN : N < B) (hb : w.heap[N]? = some o) : w'.heap[N]? = some o := (h.block N hN).trans hb

theorem clip_k2 {w W0 w1 : World} {t : TypeId} {a b a' b' : Value} (hz0 : w.heap.size + 2 ≤ W0.heap.size) (hb0 : Below w.heap.size w W0) (bx : W0.heap[w.heap.size]? = some (.cells #[a, b] t (0, 0))) (br : W0.heap[w.heap.size + 1]? = some (.cells #[a', b'] t (0, 0)))
    (b1 : Below W0.heap.size W0 w1) : w.heap.size + 2 ≤ w1.heap.size ∧ Below w.heap.size w w1 ∧ w1.heap[w.heap.size]? = some (.cells #[a, b] t (0, 0)) ∧ w1.heap[w.heap.size + 1]? = some (.cells #[a', b'] t (0, 0)) ∧
      (w1.cell? ⟨w.heap.size, 0, none⟩ = some a ∧ w1.cell? ⟨w.heap.size, 1, none⟩ = some b ∧ Below w.heap.size w w1) := by
  have h1 := b1.size
  have h2 := below_box b1 (by omega) bx
  have h3 := below_box b1 (by omega) br
  exact ⟨by omega, bstep hb0 b1, h2, h3, (boxT2 h2).1, (boxT2 h2).2, bstep hb0 b1⟩
theorem box2_frozen {w : World} {N : Nat} {a b : Value} {t : TypeId} (h : w.heap[N]? = some (.cells #[a, b] t (0, 0))) : w.frozen? ⟨N, 0, none⟩ = false ∧ w.frozen? ⟨N, 1, none⟩ = false := by
  constructor <;> simp [World.frozen?, h]
theorem box2_set {w : World} {N : Nat} {a b u v : Value} {t : TypeId} (h : w.heap[N]? = some (.cells #[a, b] t (0, 0))) : ((w.setCell ⟨N, 0, none⟩ u).setCell ⟨N, 1, none⟩ v).heap[N]? = some (.cells #[u, v] t (0, 0)) := by
  simp [World.setCell, Array.getElem?_modify, h]
theorem clip_k3 {w w1 : World} {t : TypeId} {a b u v : Value} (hb0 : Below w.heap.size w w1) (bx : w1.heap[w.heap.size]? = some (.cells #[a, b] t (0, 0))) :
    (((w1.setCell ⟨w.heap.size + 1, 0, none⟩ u).setCell ⟨w.heap.size + 1, 1, none⟩ v).cell? ⟨w.heap.size, 0, none⟩ = some a ∧ ((w1.setCell ⟨w.heap.size + 1, 0, none⟩ u).setCell ⟨w.heap.size + 1, 1, none⟩ v).cell? ⟨w.heap.size, 1, none⟩ = some b ∧ Below w.heap.size w ((w1.setCell ⟨w.heap.size + 1, 0, none⟩ u).setCell ⟨w.heap.size + 1, 1, none⟩ v)) := by
  have h : ((w1.setCell ⟨w.heap.size + 1, 0, none⟩ u).setCell ⟨w.heap.size + 1, 1, none⟩ v).heap[w.heap.size]? = some (.cells #[a, b] t (0, 0)) := by
    rw [Below.heap_setCell _ _ _ _ (by simp), Below.heap_setCell _ _ _ _ (by simp)]; exact bx
  exact ⟨(boxT2 h).1, (boxT2 h).2, (hb0.setCell (by simp) u).setCell (by simp) v⟩
theorem clip_k1 {w W0 w1 : World} {t : TypeId} {a b a' b' : Value} (hz0 : W0.heap.size = w.heap.size + 2) (hb0 : Below w.heap.size w W0) (bx : W0.heap[w.heap.size]? = some (.cells #[a, b] t (0, 0))) (br : W0.heap[w.heap.size + 1]? = some (.cells #[a', b'] t (0, 0)))
    (b1 : Below W0.drew.heap.size W0.drew w1) : w.heap.size + 2 ≤ w1.heap.size ∧ Below w.heap.size w w1 ∧ w1.heap[w.heap.size]? = some (.cells #[a, b] t (0, 0)) ∧ w1.heap[w.heap.size + 1]? = some (.cells #[a', b'] t (0, 0)) ∧
      (w1.cell? ⟨w.heap.size, 0, none⟩ = some a ∧ w1.cell? ⟨w.heap.size, 1, none⟩ = some b ∧ Below w.heap.size w w1) :=
  clip_k2 (W0 := W0.drew) (Nat.le_of_eq hz0.symm) (below_drew hb0) bx br b1

theorem tr_end {w w1 w2 W3 : World} {p q c1 c2 : Nat} {A1 A2 : Option Addr} {y1 y2 : List Iv} {a' b' : Value} {t : TypeId} (hb2 : Below w.heap.size w w2) (br2 : w2.heap[w.heap.size + 1]? = some (.cells #[a', b'] t (0, 0)))
    (o1 : OwnIv w1 p A1 c1 y1) (h1 : w.heap.size + 2 ≤ p) (b2 : Below w1.heap.size w1 w2) (o2 : OwnIv w2 q A2 c2 y2) (h2 : w.heap.size + 2 ≤ q)
    (hW : (w2.setCell ⟨w.heap.size + 1, 0, none⟩ (.slice A1 y1.length c1)).setCell ⟨w.heap.size + 1, 1, none⟩ (.slice A2 y2.length c2) = W3) :
    W3.cell? ⟨w.heap.size + 1, 0, none⟩ = some (.slice A1 y1.length c1) ∧ W3.cell? ⟨w.heap.size + 1, 1, none⟩ = some (.slice A2 y2.length c2) ∧ Below w.heap.size w W3 ∧ OwnIv W3 w.heap.size A1 c1 y1 ∧ OwnIv W3 w.heap.size A2 c2 y2 := by
  subst hW
  have hb := box2_set (u := .slice A1 y1.length c1) (v := .slice A2 y2.length c2) br2
  refine ⟨(boxT2 hb).1, (boxT2 hb).2, (hb2.setCell (by simp) _).setCell (by simp) _, OwnIv.lower (base := p) ?_ (by omega), OwnIv.lower (base := q) ?_ (by omega)⟩
  · exact ownsRow_setCell_below (ownsRow_setCell_below (o1.below b2 (Nat.le_refl _)) (by simp; omega) _) (by simp; omega) _
  · exact ownsRow_setCell_below (ownsRow_setCell_below o2 (by simp; omega) _) (by simp; omega) _

theorem bcell {W w1 : World} (hb : Below W.heap.size W w1) : (∀ b o, b < W.heap.size → w1.cell? ⟨b, o, none⟩ = W.cell? ⟨b, o, none⟩) ∧ (∀ b o, b < W.heap.size → w1.frozen? ⟨b, o, none⟩ = W.frozen? ⟨b, o, none⟩) :=
  ⟨fun b o h => hb.cell (p := ⟨b, o, none⟩) h, fun b o h => hb.frozen (p := ⟨b, o, none⟩) h⟩

theorem own_below {w w' : World} {base c : Nat} {A : Option Addr} {xs : List Iv} (b : Below w.heap.size w w') (h : OwnIv w base A c xs) : OwnIv w' base A c xs := h.below b (Nat.le_refl _)
theorem own_zero {w : World} {base c : Nat} {A : Option Addr} {xs : List Iv} (h : OwnIv w base A c xs) : OwnIv w 0 A c xs := h.lower (Nat.zero_le _)

/-- a store into a condition's box leaves a list of intervals alone -/
theorem own_set {w : World} {base c N k : Nat} {A : Option Addr} {xs : List Iv} {cs : Array Value} {v : Value} (hb : w.heap[N]? = some (.cells cs 45 (0, 0))) (h : OwnIv w base A c xs) : OwnIv (w.setCell ⟨N, k, none⟩ v) base A c xs := by
  refine ⟨h.1, ?_⟩
  rcases h.2 with h2 | ⟨g, cap, cur, h2, h3, h4, h5⟩
  · exact .inl h2
  · refine .inr ⟨g, cap, cur, h2, h3, ?_, h5⟩
    have hne : g ≠ N := by
      rintro rfl
      rw [hb] at h4
      injection h4 with h4
      injection h4 with _ h4
      exact absurd h4 (by decide)
    rw [Below.heap_setCell _ _ _ _ (by simpa using hne)]
    exact h4

theorem set2_other {w : World} {N M : Nat} {o : Obj} {u v : Value} (h : w.heap[M]? = some o) (hne : M ≠ N) : ((w.setCell ⟨N, 0, none⟩ u).setCell ⟨N, 1, none⟩ v).heap[M]? = some o := by
  rw [Below.heap_setCell _ _ _ _ (by simpa using hne), Below.heap_setCell _ _ _ _ (by simpa using hne)]; exact h
theorem set2_own {w : World} {base c N : Nat} {A : Option Addr} {xs : List Iv} {a b u v : Value} (hb : w.heap[N]? = some (.cells #[a, b] 45 (0, 0))) (h : OwnIv w base A c xs) : OwnIv ((w.setCell ⟨N, 0, none⟩ u).setCell ⟨N, 1, none⟩ v) base A c xs := by
  have h1 : (w.setCell ⟨N, 0, none⟩ u).heap[N]? = some (.cells #[u, b] 45 (0, 0)) := by simp [World.setCell, Array.getElem?_modify, hb]
  exact own_set h1 (own_set hb h)

/-- what lies in memory: the box of a condition at N, with its two lists -/
structure TrAt (W : World) (N : Nat) (S T : Int → Prop) (A : Option Addr) (c : Nat) (xs : List Iv) (B : Option Addr) (d : Nat) (zs : List Iv) : Prop where
  box : W.heap[N]? = some (.cells #[.slice A xs.length c, .slice B zs.length d] 45 (0, 0))
  ox : OwnIv W 0 A c xs
  oz : OwnIv W 0 B d zs
  nx : Norm xs
  nz : Norm zs
  mx : ∀ t, Mem xs t ↔ S t
  mz : ∀ t, Mem zs t ↔ T t

theorem TrAt.step {W W' : World} {N : Nat} {S T : Int → Prop} {A B : Option Addr} {c d : Nat} {xs zs : List Iv} (h : TrAt W N S T A c xs B d zs) (b : Below W.heap.size W W') : TrAt W' N S T A c xs B d zs :=
  ⟨box_below b h.box, own_below b h.ox, own_below b h.oz, h.nx, h.nz, h.mx, h.mz⟩

/-- behind the statement -/
def PairEnd (w W : World) (v1 v2 : Value) (S T S' T' : Int → Prop) : Prop :=
  ∃ N1 N2 A c xs B d zs A' c' xs' B' d' zs', v1 = .pointer (some ⟨N1, 0, none⟩) ∧ v2 = .pointer (some ⟨N2, 0, none⟩) ∧ TrAt W N1 S T A c xs B d zs ∧ TrAt W N2 S' T' A' c' xs' B' d' zs' ∧ Below w.heap.size w W ∧ w.heap.size ≤ N1 ∧ w.heap.size ≤ N2

theorem pair_end {w V : World} {N1 N2 c d c' d' : Nat} {S T S' T' : Int → Prop} {A B A' B' : Option Addr} {xs zs xs' zs' : List Iv} {p q p' q' : Value}
    (hb : Below w.heap.size w V) (g1 : V.heap[N1]? = some (.cells #[p, q] 45 (0, 0))) (g2 : V.heap[N2]? = some (.cells #[p', q'] 45 (0, 0))) (hne : N1 ≠ N2) (h1 : w.heap.size ≤ N1) (h2 : w.heap.size ≤ N2)
    (o1 : OwnIv V 0 A c xs) (o2 : OwnIv V 0 B d zs) (o3 : OwnIv V 0 A' c' xs') (o4 : OwnIv V 0 B' d' zs') (n1 : Norm xs) (n2 : Norm zs) (n3 : Norm xs') (n4 : Norm zs')
    (m1 : Hid (∀ t, Mem xs t ↔ S t)) (m2 : Hid (∀ t, Mem zs t ↔ T t)) (m3 : Hid (∀ t, Mem xs' t ↔ S' t)) (m4 : Hid (∀ t, Mem zs' t ↔ T' t)) :
    PairEnd w ((((V.setCell ⟨N1, 0, none⟩ (.slice A xs.length c)).setCell ⟨N1, 1, none⟩ (.slice B zs.length d)).setCell ⟨N2, 0, none⟩ (.slice A' xs'.length c')).setCell ⟨N2, 1, none⟩ (.slice B' zs'.length d')) (.pointer (some ⟨N1, 0, none⟩)) (.pointer (some ⟨N2, 0, none⟩)) S T S' T' := by
  have k1 := box2_set (u := .slice A xs.length c) (v := .slice B zs.length d) g1
  have k2 := set2_other (u := .slice A xs.length c) (v := .slice B zs.length d) g2 (Ne.symm hne)
  refine ⟨N1, N2, A, c, xs, B, d, zs, A', c', xs', B', d', zs', rfl, rfl, ⟨set2_other k1 hne, set2_own k2 (set2_own g1 o1), set2_own k2 (set2_own g1 o2), n1, n2, m1.out, m2.out⟩, ⟨box2_set k2, set2_own k2 (set2_own g1 o3), set2_own k2 (set2_own g1 o4), n3, n4, m3.out, m4.out⟩, ?_, h1, h2⟩
  exact (((hb.setCell (by simpa using h1) _).setCell (by simpa using h1) _).setCell (by simpa using h2) _).setCell (by simpa using h2) _

/-- the box of a law's own condition, at the head of what the law laid -/
def SrcAt (w : World) (A : Option Addr) (c : Nat) (xs : List Iv) (B : Option Addr) (d : Nat) (zs : List Iv) (wx : World) : Prop :=
  wx.heap[w.heap.size]? = some (.cells #[.slice A xs.length c, .slice B zs.length d] 45 (0, 0)) ∧ Below w.heap.size w wx

/-- three boxes at the head of a call: the two conditions, and the result's -/
structure Three (w W : World) (a b a' b' : Value) : Prop where
  hb : Below w.heap.size w W
  hz : w.heap.size + 3 ≤ W.heap.size
  g0 : W.heap[w.heap.size]? = some (.cells #[a, b] 45 (0, 0))
  g1 : W.heap[w.heap.size + 1]? = some (.cells #[a', b'] 45 (0, 0))
  g2 : W.heap[w.heap.size + 2]? = some (.cells #[.slice none 0 0, .slice none 0 0] 45 (0, 0))

section
variable {w W W' : World} {a b a' b' : Value}
theorem Three.start (h : (((w.alloc (.cells #[a, b] 45)).alloc (.cells #[a', b'] 45)).alloc (.cells #[.slice none 0 0, .slice none 0 0] 45)) = W) : Three w W a b a' b' := by
  subst h
  obtain ⟨h1, h2, h3, h4⟩ := two_boxes (w := w) (a := a) (b := b) (a' := a') (b' := b') (t := 45) (t' := 45) rfl
  refine ⟨h1.alloc h1.size _, by simp, box_alloc h3, box_alloc h4, ?_⟩
  have := heap_alloc_new ((w.alloc (.cells #[a, b] 45)).alloc (.cells #[a', b'] 45)) (.cells #[.slice none 0 0, .slice none 0 0] 45)
  rw [h2] at this
  exact this
theorem Three.step (h : Three w W a b a' b') (b1 : Below W.heap.size W W') : Three w W' a b a' b' :=
  ⟨bstep h.hb b1, Nat.le_trans h.hz b1.size, box_below b1 h.g0, box_below b1 h.g1, box_below b1 h.g2⟩
theorem Three.drew (h : Three w W a b a' b') : Three w W.drew a b a' b' := ⟨below_drew h.hb, h.hz, h.g0, h.g1, h.g2⟩
theorem Three.c0 (h : Three w W a b a' b') : W.cell? ⟨w.heap.size, 0, none⟩ = some a ∧ W.cell? ⟨w.heap.size, 1, none⟩ = some b := boxT2 h.g0
theorem Three.c1 (h : Three w W a b a' b') : W.cell? ⟨w.heap.size + 1, 0, none⟩ = some a' ∧ W.cell? ⟨w.heap.size + 1, 1, none⟩ = some b' := boxT2 h.g1
theorem Three.all (h : Three w W a b a' b') : W.cell? ⟨w.heap.size, 0, none⟩ = some a ∧ W.cell? ⟨w.heap.size, 1, none⟩ = some b ∧ W.cell? ⟨w.heap.size + 1, 0, none⟩ = some a' ∧ W.cell? ⟨w.heap.size + 1, 1, none⟩ = some b' ∧ Three w W a b a' b' := ⟨h.c0.1, h.c0.2, h.c1.1, h.c1.2, h⟩
theorem Three.set0 (h : Three w W a b a' b') (u v : Value) : Three w ((W.setCell ⟨w.heap.size, 0, none⟩ u).setCell ⟨w.heap.size, 1, none⟩ v) u v a' b' :=
  ⟨(h.hb.setCell (by simp) _).setCell (by simp) _, by simpa using h.hz, box2_set h.g0, set2_other h.g1 (by omega), set2_other h.g2 (by omega)⟩
theorem Three.set1 (h : Three w W a b a' b') (u v : Value) : Three w ((W.setCell ⟨w.heap.size + 1, 0, none⟩ u).setCell ⟨w.heap.size + 1, 1, none⟩ v) a b u v :=
  ⟨(h.hb.setCell (by simp) _).setCell (by simp) _, by simpa using h.hz, set2_other h.g0 (by omega), box2_set h.g1, set2_other h.g2 (by omega)⟩
end

theorem linked_end {w W W3 : World} {a b a' b' : Value} {A1 A2 : Option Addr} {c1 c2 : Nat} {y1 y2 : List Iv} (h : Three w W a b a' b') (o1 : OwnIv W w.heap.size A1 c1 y1) (o2 : OwnIv W w.heap.size A2 c2 y2)
    (hW : (W.setCell ⟨w.heap.size + 2, 0, none⟩ (.slice A1 y1.length c1)).setCell ⟨w.heap.size + 2, 1, none⟩ (.slice A2 y2.length c2) = W3) :
    W3.cell? ⟨w.heap.size + 2, 0, none⟩ = some (.slice A1 y1.length c1) ∧ W3.cell? ⟨w.heap.size + 2, 1, none⟩ = some (.slice A2 y2.length c2) ∧ Below w.heap.size w W3 ∧ OwnIv W3 w.heap.size A1 c1 y1 ∧ OwnIv W3 w.heap.size A2 c2 y2 := by
  subst hW
  have hb := box2_set (u := .slice A1 y1.length c1) (v := .slice A2 y2.length c2) h.g2
  exact ⟨(boxT2 hb).1, (boxT2 hb).2, (h.hb.setCell (by simp) _).setCell (by simp) _, set2_own h.g2 o1, set2_own h.g2 o2⟩

theorem Three.base {w W : World} {a b a' b' : Value} (h : Three w W a b a' b') : W.cell? ⟨w.heap.size, 0, none⟩ = some a ∧ W.cell? ⟨w.heap.size, 1, none⟩ = some b ∧ W.cell? ⟨w.heap.size + 1, 0, none⟩ = some a' ∧ W.cell? ⟨w.heap.size + 1, 1, none⟩ = some b' ∧ Below w.heap.size w W := ⟨h.c0.1, h.c0.2, h.c1.1, h.c1.2, h.hb⟩
theorem Three.set2 {w W : World} {a b a' b' : Value} (h : Three w W a b a' b') (u v : Value) : ((W.setCell ⟨w.heap.size + 2, 0, none⟩ u).setCell ⟨w.heap.size + 2, 1, none⟩ v).cell? ⟨w.heap.size, 0, none⟩ = some a ∧ ((W.setCell ⟨w.heap.size + 2, 0, none⟩ u).setCell ⟨w.heap.size + 2, 1, none⟩ v).cell? ⟨w.heap.size, 1, none⟩ = some b ∧ ((W.setCell ⟨w.heap.size + 2, 0, none⟩ u).setCell ⟨w.heap.size + 2, 1, none⟩ v).cell? ⟨w.heap.size + 1, 0, none⟩ = some a' ∧ ((W.setCell ⟨w.heap.size + 2, 0, none⟩ u).setCell ⟨w.heap.size + 2, 1, none⟩ v).cell? ⟨w.heap.size + 1, 1, none⟩ = some b' ∧ Below w.heap.size w ((W.setCell ⟨w.heap.size + 2, 0, none⟩ u).setCell ⟨w.heap.size + 2, 1, none⟩ v) := by
  have g0 := set2_other (N := w.heap.size + 2) (u := u) (v := v) h.g0 (by omega)
  have g1 := set2_other (N := w.heap.size + 2) (u := u) (v := v) h.g1 (by omega)
  exact ⟨(boxT2 g0).1, (boxT2 g0).2, (boxT2 g1).1, (boxT2 g1).2, (h.hb.setCell (by simp) _).setCell (by simp) _⟩

theorem mem_lit {t : Int} : Mem [] t ↔ False := by simp [mem_nil]
theorem norm1 {a b : Int} (h : 0 ≤ a ∧ a ≤ b ∧ b ≤ 1099511627776) : Norm [(a, b)] := by rw [norm_cons]; exact ⟨h, by simp, Norm.nil⟩
theorem ivsAt_block {w : World} {g B : Nat} {cs : Array Value} {t : TypeId} {xs : List Iv} (h : w.heap[g]? = some (.cells cs t (0, 0))) (hcs : cs.toList = encIvs xs) (hB : g < B) : IvsAt w B (some ⟨g, 0, none⟩) xs := fun _ => by
  refine ⟨g, 0, rfl, hB, fun i x hi => ?_⟩
  obtain ⟨e1, e2⟩ := encIvs_at hi
  rw [← hcs, Array.getElem?_toList] at e1 e2
  exact ⟨by rw [Nat.zero_add, cell_of_row w g _ cs t (0, 0) h, e1], by rw [Nat.zero_add, cell_of_row w g _ cs t (0, 0) h, e2]⟩

theorem field_tr0 (a b : Value) (w : World) : Sem.run Tryz.prog (Instr.field 45 (.agg #[a, b]) 0) w = .ok a w := by
  simp [Instr.field, go_sem, asAgg]

end Go.Proofs.YtdlebcijgdkfjaaGreatDoor
