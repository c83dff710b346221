/-
  Two conditions made in one statement ('y, z := f(..), g(..)'), in whatever order their boxes are laid: what is left behind it.
-/
import Derived.Test.YtkbiefklilelmaaAwake52
import Derived.Deep.DeepCutAuto
namespace Go.Proofs.Ytkbiefklilelmaa
open Go.RowKit Go.Joins

theorem bcell {W w1 : World} (hb : Below W.heap.size W w1) : (∀ b o, b < W.heap.size → w1.cell? ⟨b, o, none⟩ = W.cell? ⟨b, o, none⟩) ∧ (∀ b o, b < W.heap.size → w1.frozen? ⟨b, o, none⟩ = W.frozen? ⟨b, o, none⟩) :=
  ⟨fun b o h => hb.cell (p := ⟨b, o, none⟩) h, fun b o h => hb.frozen (p := ⟨b, o, none⟩) h⟩

theorem box_below {w w' : World} {N : Nat} {o : Obj} (b : Below w.heap.size w w') (h : w.heap[N]? = some o) : w'.heap[N]? = some o := below_box b (box_lt h) h
theorem own_below {w w' : World} {base c : Nat} {A : Option Addr} {xs : List Iv} (b : Below w.heap.size w w') (h : OwnIv w base A c xs) : OwnIv w' base A c xs := h.below b (Nat.le_refl _)
theorem own_zero {w : World} {base c : Nat} {A : Option Addr} {xs : List Iv} (h : OwnIv w base A c xs) : OwnIv w 0 A c xs := h.lower (Nat.zero_le _)

/-- a store into a condition's box leaves a list of intervals alone -/
theorem own_set {w : World} {base c N k : Nat} {A : Option Addr} {xs : List Iv} {cs : Array Value} {v : Value} (hb : w.heap[N]? = some (.cells cs 24 (0, 0))) (h : OwnIv w base A c xs) : OwnIv (w.setCell ⟨N, k, none⟩ v) base A c xs := by
  refine ⟨h.1, ?_⟩
  rcases h.2 with h2 | ⟨g, cap, cur, h2, h3, h4, h5⟩
  · exact .inl h2
  · refine .inr ⟨g, cap, cur, h2, h3, ?_, h5⟩
    have hne : g ≠ N := by
      rintro rfl
      rw [hb] at h4
      injection h4 with h4
      injection h4 with _ h4
      exact absurd h4 (by decide)
    rw [Below.heap_setCell _ _ _ _ (by simpa using hne)]
    exact h4

theorem set2_other {w : World} {N M : Nat} {o : Obj} {u v : Value} (h : w.heap[M]? = some o) (hne : M ≠ N) : ((w.setCell ⟨N, 0, none⟩ u).setCell ⟨N, 1, none⟩ v).heap[M]? = some o := by
  rw [Below.heap_setCell _ _ _ _ (by simpa using hne), Below.heap_setCell _ _ _ _ (by simpa using hne)]; exact h
theorem set2_own {w : World} {base c N : Nat} {A : Option Addr} {xs : List Iv} {a b u v : Value} (hb : w.heap[N]? = some (.cells #[a, b] 24 (0, 0))) (h : OwnIv w base A c xs) : OwnIv ((w.setCell ⟨N, 0, none⟩ u).setCell ⟨N, 1, none⟩ v) base A c xs := by
  have h1 : (w.setCell ⟨N, 0, none⟩ u).heap[N]? = some (.cells #[u, b] 24 (0, 0)) := by simp [World.setCell, Array.getElem?_modify, hb]
  exact own_set h1 (own_set hb h)

/-- what lies in memory: the box of a condition at N, with its two lists -/
structure TrAt (W : World) (N : Nat) (S T : Int → Prop) (A : Option Addr) (c : Nat) (xs : List Iv) (B : Option Addr) (d : Nat) (zs : List Iv) : Prop where
  box : W.heap[N]? = some (.cells #[.slice A xs.length c, .slice B zs.length d] 24 (0, 0))
  ox : OwnIv W 0 A c xs
  oz : OwnIv W 0 B d zs
  nx : Norm xs
  nz : Norm zs
  mx : ∀ t, Mem xs t ↔ S t
  mz : ∀ t, Mem zs t ↔ T t

theorem TrAt.step {W W' : World} {N : Nat} {S T : Int → Prop} {A B : Option Addr} {c d : Nat} {xs zs : List Iv} (h : TrAt W N S T A c xs B d zs) (b : Below W.heap.size W W') : TrAt W' N S T A c xs B d zs :=
  ⟨box_below b h.box, own_below b h.ox, own_below b h.oz, h.nx, h.nz, h.mx, h.mz⟩

/-- behind the statement -/
def PairEnd (w W : World) (v1 v2 : Value) (S T S' T' : Int → Prop) : Prop :=
  ∃ N1 N2 A c xs B d zs A' c' xs' B' d' zs', v1 = .pointer (some ⟨N1, 0, none⟩) ∧ v2 = .pointer (some ⟨N2, 0, none⟩) ∧ TrAt W N1 S T A c xs B d zs ∧ TrAt W N2 S' T' A' c' xs' B' d' zs' ∧ Below w.heap.size w W ∧ w.heap.size ≤ N1 ∧ w.heap.size ≤ N2

theorem pair_end {w V : World} {N1 N2 c d c' d' : Nat} {S T S' T' : Int → Prop} {A B A' B' : Option Addr} {xs zs xs' zs' : List Iv} {p q p' q' : Value}
    (hb : Below w.heap.size w V) (g1 : V.heap[N1]? = some (.cells #[p, q] 24 (0, 0))) (g2 : V.heap[N2]? = some (.cells #[p', q'] 24 (0, 0))) (hne : N1 ≠ N2) (h1 : w.heap.size ≤ N1) (h2 : w.heap.size ≤ N2)
    (o1 : OwnIv V 0 A c xs) (o2 : OwnIv V 0 B d zs) (o3 : OwnIv V 0 A' c' xs') (o4 : OwnIv V 0 B' d' zs') (n1 : Norm xs) (n2 : Norm zs) (n3 : Norm xs') (n4 : Norm zs')
    (m1 : Hid (∀ t, Mem xs t ↔ S t)) (m2 : Hid (∀ t, Mem zs t ↔ T t)) (m3 : Hid (∀ t, Mem xs' t ↔ S' t)) (m4 : Hid (∀ t, Mem zs' t ↔ T' t)) :
    PairEnd w ((((V.setCell ⟨N1, 0, none⟩ (.slice A xs.length c)).setCell ⟨N1, 1, none⟩ (.slice B zs.length d)).setCell ⟨N2, 0, none⟩ (.slice A' xs'.length c')).setCell ⟨N2, 1, none⟩ (.slice B' zs'.length d')) (.pointer (some ⟨N1, 0, none⟩)) (.pointer (some ⟨N2, 0, none⟩)) S T S' T' := by
  have k1 := box2_set (u := .slice A xs.length c) (v := .slice B zs.length d) g1
  have k2 := set2_other (u := .slice A xs.length c) (v := .slice B zs.length d) g2 (Ne.symm hne)
  refine ⟨N1, N2, A, c, xs, B, d, zs, A', c', xs', B', d', zs', rfl, rfl, ⟨set2_other k1 hne, set2_own k2 (set2_own g1 o1), set2_own k2 (set2_own g1 o2), n1, n2, m1.out, m2.out⟩, ⟨box2_set k2, set2_own k2 (set2_own g1 o3), set2_own k2 (set2_own g1 o4), n3, n4, m3.out, m4.out⟩, ?_, h1, h2⟩
  exact (((hb.setCell (by simpa using h1) _).setCell (by simpa using h1) _).setCell (by simpa using h2) _).setCell (by simpa using h2) _

/-- the box of a law's own condition, at the head of what the law laid -/
def SrcAt (w : World) (A : Option Addr) (c : Nat) (xs : List Iv) (B : Option Addr) (d : Nat) (zs : List Iv) (wx : World) : Prop :=
  wx.heap[w.heap.size]? = some (.cells #[.slice A xs.length c, .slice B zs.length d] 24 (0, 0)) ∧ Below w.heap.size w wx

end Go.Proofs.Ytkbiefklilelmaa
