/-
  Several texts in one: PrepL. Each says at its head what it holds.
-/
import Derived.Test.YtkbiefklilelmaaMR7
import Derived.Test.YtkbiefklilelmaaMR19
import Derived.Test.YtkbiefklilelmaaMR21
import Derived.Test.YtkbiefklilelmaaMR18
import Derived.Test.YtkbiefklilelmaaMR14
import Derived.Deep.RegionLaw
import Derived.Deep.DeepCutAuto

/-
  match.prepare: its words and the memory of its second loop.
-/
namespace Go.Proofs.Ytkbiefklilelmaa
open Go.RowKit

def prepB (vb : Bool) (lv nE lc nC : Nat) (f t en : Int) : Bool := vb && decide (lv = nE ∧ lc = nC ∧ 0 ≤ f ∧ f ≤ t ∧ t ≤ en ∧ en ≤ 1099511627776)
/-- all that prepare asks -/
def PrepOk (a : Aut) (ev : List SlI) (lc : Nat) (f t en : Int) : Prop := prepB (validB a) ev.length a.nE lc a.nC f t en = true ∧ ∀ s ∈ ev, Incr s.xs
/-- the sets that prepare makes are the normal lists of the conditions -/
def SameSets (cs cs' : List SlV) : Prop := cs'.length = cs.length ∧ ∀ (k : Nat) (s s' : SlV), cs[k]? = some s → cs'[k]? = some s' → Norm s'.xs ∧ ∀ t, Mem s'.xs t ↔ Mem s.xs t
def PrepPost (a : Aut) (AV : Option Addr) (cV : Nat) (ev : List SlI) (cs : List SlV) (f t en : Int) (w : World) (e : Ending) (w' : World) : Prop :=
  Below w.heap.size w w' ∧ ((¬ PrepOk a ev cs.length f t en ∧ ∃ x : Array Value, x = #[.slice none 0 0, .slice none 0 0, .slice none 0 0, .slice none 0 0, .slice none 0 0, .slice none 0 0, .int .i64 0] ∧ e = .returned (.tuple #[.agg x, .int .i64 1])) ∨
    (PrepOk a ev cs.length f t en ∧ ∃ AS cS cs', e = .returned (.tuple #[.agg (encX ⟨a, AV, cV, ev, AS, cS, cs', en⟩).toArray, .int .i64 0]) ∧ CsAt w' AS cs' ∧ SameSets cs cs'))

theorem froz7 {w : World} {N : Nat} {cs : Array Value} {t : TypeId} (h : w.heap[N]? = some (.cells cs t (0, 0))) : w.frozen? ⟨N, 0, none⟩ = false ∧ w.frozen? ⟨N, 1, none⟩ = false ∧ w.frozen? ⟨N, 2, none⟩ = false ∧ w.frozen? ⟨N, 3, none⟩ = false ∧ w.frozen? ⟨N, 4, none⟩ = false ∧ w.frozen? ⟨N, 5, none⟩ = false ∧ w.frozen? ⟨N, 6, none⟩ = false := by
  refine ⟨?_, ?_, ?_, ?_, ?_, ?_, ?_⟩ <;> simp [World.frozen?, h]

def PrepRel (ev : List SlI) (W : World) (i : Value) (wr : World) : Prop := ∃ k : Nat, k ≤ ev.length ∧ i = .int .i64 k ∧ (∀ j s, j < k → ev[j]? = some s → Incr s.xs) ∧ Below W.heap.size W wr
/-- the loop over the conditions: so many sets have been made; the struct in block Bx holds them -/
def PrepCs (cs : List SlV) (cells : Option Addr → Nat → Nat → Array Value) (Bx : Nat) (W0 W : World) (i : Value) (wr : World) : Prop :=
  ∃ (k : Nat) (AS : Option Addr) (cS : Nat) (cs' : List SlV), k ≤ cs.length ∧ i = .int .i64 k ∧ cs'.length = k ∧ wr.heap[Bx]? = some (.cells (cells AS cS cs'.length) 83 (0, 0)) ∧
    wr.ownsRow W.heap.size 22 1 (.slice AS cs'.length cS) cs'.length (cs'.flatMap cSlV) ∧ (∀ s ∈ cs', OwnIv wr W.heap.size s.A s.c s.xs) ∧ (∀ (k : Nat) (s s' : SlV), cs[k]? = some s → cs'[k]? = some s' → Norm s'.xs ∧ ∀ t, Mem s'.xs t ↔ Mem s.xs t) ∧ W.heap.size ≤ wr.heap.size ∧ Below W0.heap.size W0 wr
theorem infoSl : (Try.prog.info? 22).map (fun i => (i.zero, i.size, i.bytes)) = some (some (.slice none 0 0), 1, 24) := by kernel_rfl
theorem typesS : 83 ≠ 22 := by decide
theorem slice_forms {w : World} {base : Nat} {e : TypeId} {size n : Nat} {v : Value} {xs : List Value} (h : w.ownsRow base e size v n xs) : ∃ A c, v = .slice A n c := by
  rcases Joins.ownsRow_forms h with ⟨rfl, h0⟩ | ⟨g, cap, rfl⟩
  · exact ⟨none, 0, by rw [h0]⟩
  · exact ⟨_, cap, rfl⟩
/-- seven cells stored, one after the other -/
def put7 (w : World) (N : Nat) (a b c d e f g : Value) : World := ((((((w.setCell ⟨N, 0, none⟩ a).setCell ⟨N, 1, none⟩ b).setCell ⟨N, 2, none⟩ c).setCell ⟨N, 3, none⟩ d).setCell ⟨N, 4, none⟩ e).setCell ⟨N, 5, none⟩ f).setCell ⟨N, 6, none⟩ g
theorem put7_at {w : World} {N : Nat} {a b c d e f g a' b' c' d' e' f' g' : Value} {t : TypeId} (h : w.heap[N]? = some (.cells #[a', b', c', d', e', f', g'] t (0, 0))) : (put7 w N a b c d e f g).heap[N]? = some (.cells #[a, b, c, d, e, f, g] t (0, 0)) := by
  simp [put7, World.setCell, Array.getElem?_modify, h]
theorem put7_below {w0 w : World} {B N : Nat} {a b c d e f g : Value} (h : Below B w0 w) (hB : B ≤ N) : Below B w0 (put7 w N a b c d e f g) :=
  ((((((h.setCell (p := ⟨N, 0, none⟩) hB _).setCell (p := ⟨N, 1, none⟩) hB _).setCell (p := ⟨N, 2, none⟩) hB _).setCell (p := ⟨N, 3, none⟩) hB _).setCell (p := ⟨N, 4, none⟩) hB _).setCell (p := ⟨N, 5, none⟩) hB _).setCell (p := ⟨N, 6, none⟩) hB _
theorem put7_other {w : World} {N k : Nat} {a b c d e f g : Value} (hk : k ≠ N) : (put7 w N a b c d e f g).heap[k]? = w.heap[k]? := by
  unfold put7
  rw [Below.heap_setCell _ _ _ _ hk, Below.heap_setCell _ _ _ _ hk, Below.heap_setCell _ _ _ _ hk, Below.heap_setCell _ _ _ _ hk, Below.heap_setCell _ _ _ _ hk, Below.heap_setCell _ _ _ _ hk, Below.heap_setCell _ _ _ _ hk]
theorem put7_size {w : World} {N : Nat} {a b c d e f g : Value} : (put7 w N a b c d e f g).heap.size = w.heap.size := by simp [put7]

/-- two rows of unlike elements lie apart -/
theorem rows_apart {w : World} {b b' : Nat} {A A' : Option Addr} {c c' n n' : Nat} {xs xs' : List Value} {e e' : TypeId} {sz sz' : Nat} (h : w.ownsRow b e sz (.slice A n c) n xs) (h' : w.ownsRow b' e' sz' (.slice A' n' c') n' xs') (hne : e ≠ e') (g : Nat) (hg : ob A' = some g) : ob A ≠ some g := by
  rcases h'.2 with ⟨h2, _⟩ | ⟨g', cap, cur, h2, h3, h4, _⟩
  · rw [← ob_eq A' n' c', h2] at hg; cases hg
  · rw [← ob_eq A' n' c', h2] at hg
    have : g' = g := by simpa [Value.ownBlock] using hg
    subst this
    exact row_ne h h4 (fun cur e => by injection e with _ e; exact hne e.symm)
theorem typesSI : 22 ≠ 42 := by decide

/-- one set more -/
theorem prep_next {cs cs2 : List SlV} {cells : Option Addr → Nat → Nat → Array Value} {Bx k : Nat} {W0 Wx wr w4 w5 : World} {AS2 sA A1 A5 : Option Addr} {cS2 sc c1 c5 : Nat} {l ys : List Iv}
    (hset : (w5.setCell ⟨Bx, 5, none⟩ (.slice A5 (cs2.length + 1) c5)).heap[Bx]? = some (.cells (cells A5 c5 (cs2.length + 1)) 83 (0, 0)))
    (hlt : k < cs.length) (hk : cs2.length = k) (hx : cs[k]? = some ⟨sA, sc, l⟩) (hBx : Bx < Wx.heap.size) (hWr : Wx.heap.size ≤ wr.heap.size) (hW0 : W0.heap.size ≤ Bx)
    (hin : ∀ s ∈ cs2, OwnIv wr Wx.heap.size s.A s.c s.xs) (hsm : ∀ (k : Nat) (s s' : SlV), cs[k]? = some s → cs2[k]? = some s' → Norm s'.xs ∧ ∀ t, Mem s'.xs t ↔ Mem s.xs t)
    (hb : Below W0.heap.size W0 wr) (hown : wr.ownsRow Wx.heap.size 22 1 (.slice AS2 cs2.length cS2) cs2.length (cs2.flatMap cSlV))
    (hon : OwnIv w4 wr.heap.size A1 c1 ys) (hb4 : Below wr.heap.size wr w4) (hny : Norm ys ∧ ∀ t, Mem ys t ↔ Mem l t)
    (ho5 : w5.ownsRow Wx.heap.size 22 1 (.slice A5 (cs2.length + 1) c5) (cs2.length + 1) (cs2.flatMap cSlV ++ [.slice A1 ys.length c1]))
    (hg5 : (w4.alloc (.cells #[.slice A1 ys.length c1] 22)).grownBy w5 (Value.slice AS2 cs2.length cS2).ownBlock) :
    PrepCs cs cells Bx W0 Wx (.int .i64 ((k : Int) + 1)) (w5.setCell ⟨Bx, 5, none⟩ (.slice A5 (cs2.length + 1) c5)) := by
  have h45 : ∀ g, g < w4.heap.size → ob AS2 ≠ some g → w5.heap[g]? = w4.heap[g]? := fun g hg hne => by
    have h1 := hg5.block g (by simp; omega) (by rw [ob_eq]; exact fun e => hne e.symm)
    rw [h1]; exact Below.heap_alloc w4 _ g hg
  have h56 : ∀ g, Wx.heap.size ≤ g → (w5.setCell ⟨Bx, 5, none⟩ (.slice A5 (cs2.length + 1) c5)).heap[g]? = w5.heap[g]? := fun g hg => Below.heap_setCell _ _ _ _ (by show g ≠ Bx; omega)
  have hz4 := hb4.size
  have hz5 := hg5.size
  have hz0 := hb.size
  simp at hz5
  refine ⟨k + 1, A5, c5, cs2 ++ [⟨A1, c1, ys⟩], hlt, by go_num, by simp [hk], by simpa using hset, ?_, ?_, ?_, ?_, ?_⟩
  · have h1 := own_block (w' := w5.setCell ⟨Bx, 5, none⟩ (.slice A5 (cs2.length + 1) c5)) ho5 (fun g hg => h56 g (own_ob ho5 g hg).1)
    simpa [cSlV] using h1
  · intro s hs
    rcases List.mem_append.1 hs with hs | hs
    · have h0 := hin s hs
      refine own_block (own_block (w' := w5) (own_block (w' := w4) h0 fun g hg => ?_) fun g hg => ?_) fun g hg => ?_
      · exact hb4.block g (own_ob h0 g hg).2
      · exact h45 g (by have := (own_ob h0 g hg).2; omega) (rows_apart hown h0 typesSI g hg)
      · exact h56 g (own_ob h0 g hg).1
    · have hs : s = ⟨A1, c1, ys⟩ := by simpa using hs
      subst hs
      refine OwnIv.lower (base := wr.heap.size) ?_ hWr
      refine own_block (w' := w5.setCell ⟨Bx, 5, none⟩ (.slice A5 (cs2.length + 1) c5)) (own_block (w' := w5) hon fun g hg => ?_) fun g hg => ?_
      · exact h45 g (own_ob hon g hg).2 (fun e => by have := (own_ob hown g e).2; have := (own_ob hon g hg).1; omega)
      · exact h56 g (by have := (own_ob hon g hg).1; omega)
  · intro j s s' h1 h2
    rcases Nat.lt_or_ge j cs2.length with h3 | h3
    · rw [List.getElem?_append_left h3] at h2; exact hsm j s s' h1 h2
    · have hj := (List.getElem?_eq_some_iff.1 h2).1
      simp at hj
      have : j = k := by omega
      subst this
      rw [List.getElem?_append_right h3, show j - cs2.length = 0 by omega] at h2
      injection h2 with h2
      rw [hx] at h1
      injection h1 with h1
      subst h1 h2
      exact hny
  · simp; omega
  · have hb5 : Below W0.heap.size W0 w5 := ((hb.trans (hb4.mono hz0)).alloc (by omega) _).grown hg5 (by simp; omega) (fun g hg => by rw [ob_eq] at hg; have := (own_ob hown g hg).1; omega)
    exact hb5.setCell (p := ⟨Bx, 5, none⟩) hW0 _

theorem flat1_at {α : Type} {f : α → Value} {l : List α} {i : Nat} {x : α} (h : l[i]? = some x) : (l.flatMap fun s => [f s])[i]? = some (f x) := by
  induction l generalizing i with
  | nil => simp at h
  | cons y ys ih =>
    cases i with
    | zero => simp at h; subst h; simp [List.flatMap_cons]
    | succ i => simpa [List.flatMap_cons] using ih (i := i) (by simpa using h)
/-- the sets that the loop has made, read -/
theorem prep_cs {w : World} {base : Nat} {A : Option Addr} {c : Nat} {l : List SlV} (h : w.ownsRow base 22 1 (.slice A l.length c) l.length (l.flatMap cSlV)) (hin : ∀ s ∈ l, OwnIv w base s.A s.c s.xs) : CsAt w A l := by
  refine ⟨fun hx => ?_, fun s hs => (hin s hs).ats⟩
  obtain ⟨g, e, h1, h2⟩ := own_place h (List.length_pos_iff.2 hx)
  refine ⟨g, 0, e, h2, fun i x hi j hj => ?_⟩
  have hlt := (List.getElem?_eq_some_iff.1 hi).1
  have h0 : j = 0 := by omega
  subst h0
  subst e
  rw [show 0 + i * 1 + 0 = i by omega, World.ownsRow.cellAt h i (by omega)]
  exact flat1_at (f := fun s : SlV => Value.slice s.A s.xs.length s.c) hi

end Go.Proofs.Ytkbiefklilelmaa
