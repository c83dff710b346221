/-
  transactions.Group: what it makes of beats.
-/
import Derived.Test.YtlockjbhdibojaaGreatDoorAppendGen
namespace Go.Proofs.YtlockjbhdibojaaGreatDoor
open Go.RowKit

theorem box_lt {w : World} {N : Nat} {o : Obj} (h : w.heap[N]? = some o) : N < w.heap.size := (Array.getElem?_eq_some_iff.1 h).1
theorem box_alloc {w : World} {N : Nat} {o o' : Obj} (h : w.heap[N]? = some o) : (w.alloc o').heap[N]? = some o := (Below.heap_alloc w o' N (box_lt h)).trans h
theorem box_below {w w' : World} {N : Nat} {o : Obj} (b : Below w.heap.size w w') (h : w.heap[N]? = some o) : w'.heap[N]? = some o := (b.block N (box_lt h)).trans h
theorem box_grown {w w' : World} {N : Nat} {o : Obj} {row : Option Nat} (h : w.heap[N]? = some o) (hg : w.grownBy w' row) (hr : row ≠ some N) : w'.heap[N]? = some o := (hg.block N (box_lt h) (fun e => hr e.symm)).trans h
theorem box_set {w : World} {N M k : Nat} {o : Obj} {v : Value} (h : w.heap[N]? = some o) (hne : N ≠ M) : (w.setCell ⟨M, k, none⟩ v).heap[N]? = some o := by
  rw [Below.heap_setCell _ _ _ _ (by simpa using hne)]; exact h
theorem bstep {w0 w w' : World} (h : Below w0.heap.size w0 w) (hb : Below w.heap.size w w') : Below w0.heap.size w0 w' := h.trans (hb.mono h.size)
theorem box2 {w : World} {N : Nat} {a b : Value} {t : TypeId} (h : w.heap[N]? = some (.cells #[a, b] t (0, 0))) : w.cell? ⟨N, 0, none⟩ = some a ∧ w.cell? ⟨N, 1, none⟩ = some b ∧ w.frozen? ⟨N, 0, none⟩ = false ∧ w.frozen? ⟨N, 1, none⟩ = false :=
  ⟨by rw [cell_of_row w N _ _ t (0, 0) h]; rfl, by rw [cell_of_row w N _ _ t (0, 0) h]; rfl, by simp [World.frozen?, h], by simp [World.frozen?, h]⟩
theorem box4 {w : World} {N : Nat} {a b c d : Value} {t : TypeId} (h : w.heap[N]? = some (.cells #[a, b, c, d] t (0, 0))) : w.cell? ⟨N, 0, none⟩ = some a ∧ w.cell? ⟨N, 1, none⟩ = some b ∧ w.cell? ⟨N, 2, none⟩ = some c ∧ w.cell? ⟨N, 3, none⟩ = some d ∧ w.frozen? ⟨N, 2, none⟩ = false :=
  ⟨by rw [cell_of_row w N _ _ t (0, 0) h]; rfl, by rw [cell_of_row w N _ _ t (0, 0) h]; rfl, by rw [cell_of_row w N _ _ t (0, 0) h]; rfl, by rw [cell_of_row w N _ _ t (0, 0) h]; rfl, by simp [World.frozen?, h]⟩

theorem own_ob {w : World} {base : Nat} {e : TypeId} {size n : Nat} {A : Option Addr} {c : Nat} {xs : List Value} (h : w.ownsRow base e size (.slice A n c) n xs) (g : Nat) (hg : ob A = some g) : base ≤ g ∧ g < w.heap.size :=
  World.ownsRow.lt h g ((ob_eq A n c).trans hg)
/-- an own row, where another block was written or grown -/
theorem own_block {w w' : World} {base : Nat} {e : TypeId} {size n : Nat} {A : Option Addr} {c : Nat} {xs : List Value} (h : w.ownsRow base e size (.slice A n c) n xs) (hk : ∀ g, ob A = some g → w'.heap[g]? = w.heap[g]?) : w'.ownsRow base e size (.slice A n c) n xs := by
  refine ⟨h.1, ?_⟩
  rcases h.2 with h2 | ⟨g, cap, cur, h2, h3, h4, h5⟩
  · exact .inl h2
  · refine .inr ⟨g, cap, cur, h2, h3, ?_, h5⟩
    rw [hk g ?_]
    · exact h4
    · rw [← ob_eq A n c, h2]; rfl

/-- the state: the box of 'now' at N, its beats, the transactions so far -/
structure GrpAt (w W : World) (N : Nat) (P : Nat → Prop) (A1 : Option Addr) (c1 : Nat) (rs : List Rb) (A2 : Option Addr) (c2 : Nat) (ts : List Rt) : Prop where
  gn : W.heap[N]? = some (.cells #[.slice A1 rs.length c1, .bool false] 35 (0, 0))
  hN : w.heap.size ≤ N
  o1 : OwnB W w.heap.size A1 c1 rs
  o2 : OwnT W w.heap.size A2 c2 ts
  n1 : ob A1 ≠ some N
  n2 : ob A2 ≠ some N
  ap : ∀ g, ob A1 = some g → ob A2 = some g → False
  pn : ¬ P N
  p1 : ∀ g, ob A1 = some g → ¬ P g
  p2 : ∀ g, ob A2 = some g → ¬ P g
  pl : ∀ b, P b → b < W.heap.size
  pb : ∀ b, b < w.heap.size → P b
  vr : ∀ r ∈ rs, StrsAt W P r.V r.bt.vals
  vt : ∀ t ∈ ts, BeatsAt W P t.A t.bs
  hb : Below w.heap.size w W

section
variable {w W W' : World} {N : Nat} {P : Nat → Prop} {A1 A2 : Option Addr} {c1 c2 : Nat} {rs : List Rb} {ts : List Rt}
theorem GrpAt.lt (h : GrpAt w W N P A1 c1 rs A2 c2 ts) : N < W.heap.size := box_lt h.gn
theorem GrpAt.alloc (h : GrpAt w W N P A1 c1 rs A2 c2 ts) (o : Obj) : GrpAt w (W.alloc o) N P A1 c1 rs A2 c2 ts :=
  ⟨box_alloc h.gn, h.hN, World.ownsRow.alloc h.o1 o, World.ownsRow.alloc h.o2 o, h.n1, h.n2, h.ap, h.pn, h.p1, h.p2, (fun b hb => by have := h.pl b hb; simp; omega), h.pb, fun r hr => (h.vr r hr).stay (stay_alloc o h.pl), fun t ht => (h.vt t ht).stay (stay_alloc o h.pl), h.hb.alloc h.hb.size o⟩
theorem GrpAt.below (h : GrpAt w W N P A1 c1 rs A2 c2 ts) (b : Below W.heap.size W W') : GrpAt w W' N (fun b => P b ∨ (W.heap.size ≤ b ∧ b < W'.heap.size)) A1 c1 rs A2 c2 ts :=
  ⟨box_below b h.gn, h.hN, own_block h.o1 fun g hg => b.block g (own_ob h.o1 g hg).2, own_block h.o2 fun g hg => b.block g (own_ob h.o2 g hg).2, h.n1, h.n2, h.ap,
    (fun hp => hp.elim h.pn fun h' => by have := h.lt; omega), (fun g hg hp => hp.elim (h.p1 g hg) fun h' => by have := (own_ob h.o1 g hg).2; omega), (fun g hg hp => hp.elim (h.p2 g hg) fun h' => by have := (own_ob h.o2 g hg).2; omega),
    fun k hp => hp.elim (fun h' => Nat.lt_of_lt_of_le (h.pl k h') b.size) fun h' => h'.2, fun k hk => .inl (h.pb k hk),
    fun r hr => ((h.vr r hr).stay (stay_below b h.pl)).more fun _ => .inl, fun t ht => ((h.vt t ht).stay (stay_below b h.pl)).more fun _ => .inl, bstep h.hb b⟩
/-- a store into a block that is none of these -/
theorem GrpAt.set (h : GrpAt w W N P A1 c1 rs A2 c2 ts) {M k : Nat} (v : Value) (hm : N < M) (hp : ¬ P M) (h1 : ob A1 ≠ some M) (h2 : ob A2 ≠ some M) : GrpAt w (W.setCell ⟨M, k, none⟩ v) N P A1 c1 rs A2 c2 ts :=
  ⟨box_set h.gn (by omega), h.hN, own_block h.o1 fun g hg => Below.heap_setCell _ _ _ _ (by rintro rfl; exact h1 hg), own_block h.o2 fun g hg => Below.heap_setCell _ _ _ _ (by rintro rfl; exact h2 hg), h.n1, h.n2, h.ap, h.pn, h.p1, h.p2, (fun b hb => by simpa using h.pl b hb), h.pb,
    fun r hr => (h.vr r hr).stay (stay_set hp), fun t ht => (h.vt t ht).stay (stay_set hp), h.hb.setCell (by have := h.hN; simp; omega) _⟩
theorem GrpAt.new_ne (h : GrpAt w W N P A1 c1 rs A2 c2 ts) {A : Option Addr} {g : Nat} (hA : ob A ≠ some N) (hat : ob A = some g ∨ g = W.heap.size + 1) : g ≠ N := by
  rcases hat with e | e
  · rintro rfl; exact hA e
  · have := h.lt; omega
theorem GrpAt.put (h : GrpAt w W N P A1 c1 rs A2 c2 ts) {o : Obj} {w5 : World} {g c' : Nat} {r : Rb} (hg : (W.alloc o).grownBy w5 (ob A1)) (hown : OwnB w5 w.heap.size (some ⟨g, 0, none⟩) c' (rs ++ [r])) (hat : ob A1 = some g ∨ g = W.heap.size + 1) (hv : StrsAt W P r.V r.bt.vals) :
    w5.heap[N]? = some (.cells #[.slice A1 rs.length c1, .bool false] 35 (0, 0)) ∧
    GrpAt w (w5.setCell ⟨N, 0, none⟩ (.slice (some ⟨g, 0, none⟩) (rs.length + 1) c')) N P (some ⟨g, 0, none⟩) c' (rs ++ [r]) A2 c2 ts := by
  have ha := h.alloc o
  have gn5 := box_grown ha.gn hg h.n1
  have hgN := h.new_ne h.n1 hat
  have hst : Stay P W (w5.setCell ⟨N, 0, none⟩ (.slice (some ⟨g, 0, none⟩) (rs.length + 1) c')) := ((stay_alloc o h.pl).trans (stay_grown hg ha.pl fun b hb e => h.p1 b e.symm hb)).trans (stay_set h.pn)
  refine ⟨gn5, ⟨?_, h.hN, own_block hown fun k hk => Below.heap_setCell _ _ _ _ (by rw [ob_some] at hk; injection hk with hk; subst hk; simpa using hgN), own_block (own_block ha.o2 fun k hk => hg.block k (own_ob ha.o2 k hk).2 (fun e => h.ap k e.symm hk)) fun k hk => Below.heap_setCell _ _ _ _ (by rintro rfl; exact h.n2 hk), ?_, h.n2, fun k hk hk2 => ?_, h.pn, fun k hk hp => ?_, h.p2, fun b hb => ?_, h.pb, fun r' hr => ?_, fun t ht => (h.vt t ht).stay hst, ?_⟩⟩
  · simp [World.setCell, Array.getElem?_modify, gn5]
  · rw [ob_some]; intro e; injection e with e; exact hgN e
  · rw [ob_some] at hk
    injection hk with hk
    subst hk
    rcases hat with e | e
    · exact h.ap g e hk2
    · have := (own_ob h.o2 g hk2).2; omega
  · rw [ob_some] at hk
    injection hk with hk
    subst hk
    rcases hat with e | e
    · exact h.p1 g e hp
    · have := h.pl g hp; omega
  · have := h.pl b hb
    have := hg.size
    simp at this ⊢
    omega
  · rcases List.mem_append.1 hr with hr | hr
    · exact (h.vr r' hr).stay hst
    · simp at hr; subst hr; exact hv.stay hst
  · exact (ha.hb.grown hg (by have := h.lt; have := h.hN; simp; omega) (fun k hk => (own_ob h.o1 k hk).1)).setCell (by simpa using h.hN) _
/-- the transaction 'now' goes to the list, and 'now' begins anew -/
theorem GrpAt.done (h : GrpAt w W N P A1 c1 rs A2 c2 ts) {o : Obj} {u : Value} {w5 : World} {g c' : Nat} (hg : ((W.setCell ⟨N, 1, none⟩ u).alloc o).grownBy w5 (ob A2)) (hown : OwnT w5 w.heap.size (some ⟨g, 0, none⟩) c' (ts ++ [⟨A1, c1, rs, true⟩])) (hat : ob A2 = some g ∨ g = W.heap.size + 1) :
    w5.heap[N]? = some (.cells #[.slice A1 rs.length c1, u] 35 (0, 0)) ∧
    GrpAt w ((w5.setCell ⟨N, 0, none⟩ (.slice none 0 0)).setCell ⟨N, 1, none⟩ (.bool false)) N (fun b => P b ∨ ob A1 = some b) none 0 [] (some ⟨g, 0, none⟩) c' (ts ++ [⟨A1, c1, rs, true⟩]) := by
  have g1 : (W.setCell ⟨N, 1, none⟩ u).heap[N]? = some (.cells #[.slice A1 rs.length c1, u] 35 (0, 0)) := by simp [World.setCell, Array.getElem?_modify, h.gn]
  have gn5 := box_grown (box_alloc (o' := o) g1) hg h.n2
  have hgN := h.new_ne h.n2 hat
  have hbl : ∀ b, b ≠ N → b < W.heap.size → ob A2 ≠ some b → ((w5.setCell ⟨N, 0, none⟩ (.slice none 0 0)).setCell ⟨N, 1, none⟩ (.bool false)).heap[b]? = W.heap[b]? := fun b h1 h2 h3 => by
    rw [Below.heap_setCell _ _ _ _ (by simpa using h1), Below.heap_setCell _ _ _ _ (by simpa using h1), hg.block b (by simp; omega) (fun e => h3 e.symm), Below.heap_alloc _ _ _ (by simpa using h2), Below.heap_setCell _ _ _ _ (by simpa using h1)]
  have hst : Stay (fun b => P b ∨ ob A1 = some b) W ((w5.setCell ⟨N, 0, none⟩ (.slice none 0 0)).setCell ⟨N, 1, none⟩ (.bool false)) := fun b hb => by
    rcases hb with hb | hb
    · exact hbl b (by rintro rfl; exact h.pn hb) (h.pl b hb) (fun e => h.p2 b e hb)
    · have := own_ob h.o1 b hb
      exact hbl b (by rintro rfl; exact h.n1 hb) this.2 (fun e => h.ap b hb e)
  have hnow : BeatsAt W (fun b => P b ∨ ob A1 = some b) A1 rs := OwnB.reads h.o1 (fun g hg => .inr hg) fun r hr => (h.vr r hr).more fun _ => .inl
  refine ⟨gn5, ⟨?_, h.hN, World.ownsRow_nil _ _ _ 4, own_block (own_block hown fun k hk => Below.heap_setCell _ _ _ _ (by rw [ob_some] at hk; injection hk with hk; subst hk; simpa using hgN)) fun k hk => Below.heap_setCell _ _ _ _ (by rw [ob_some] at hk; injection hk with hk; subst hk; simpa using hgN), (fun hk => by cases hk), ?_, (fun k hk => by cases hk), fun hp => ?_, (fun k hk => by cases hk), fun k hk hp => ?_, fun b hb => ?_, fun b hb => .inl (h.pb b hb), (fun r hr => by cases hr), fun t ht => ?_, ?_⟩⟩
  · simp [World.setCell, Array.getElem?_modify, gn5]
  · rw [ob_some]; intro e; injection e with e; exact hgN e
  · rcases hp with hp | hp
    · exact h.pn hp
    · exact h.n1 hp
  · rw [ob_some] at hk
    injection hk with hk
    subst hk
    rcases hat with e | e
    · rcases hp with hp | hp
      · exact h.p2 g e hp
      · exact h.ap g hp e
    · rcases hp with hp | hp
      · have := h.pl g hp; omega
      · have := (own_ob h.o1 g hp).2; omega
  · have hs := hg.size
    simp at hs ⊢
    rcases hb with hb | hb
    · have := h.pl b hb; omega
    · have := (own_ob h.o1 b hb).2; omega
  · rcases List.mem_append.1 ht with ht | ht
    · exact ((h.vt t ht).more fun _ => .inl).stay hst
    · simp at ht; subst ht; exact hnow.stay hst
  · have hN := h.hN
    refine ((((h.hb.setCell (by simpa using hN) _).alloc (by have := h.hb.size; simpa using this) o).grown hg (by have := h.lt; simp; omega) (fun k hk => (own_ob h.o2 k hk).1)).setCell (by simpa using hN) _).setCell (by simpa using hN) _
/-- the end: the list alone -/
theorem GrpAt.reads (h : GrpAt w W N P A1 c1 rs A2 c2 ts) : TransAt W (Lo W.heap.size) A2 ts :=
  OwnT.reads h.o2 (fun g hg => (own_ob h.o2 g hg).2) fun t ht => (h.vt t ht).more h.pl
/-- the end: what is left of 'now' goes to the list -/
theorem GrpAt.last (h : GrpAt w W N P A1 c1 rs A2 c2 ts) {o : Obj} {w5 : World} {g c' : Nat} (hg : (W.alloc o).grownBy w5 (ob A2)) (hown : OwnT w5 w.heap.size (some ⟨g, 0, none⟩) c' (ts ++ [⟨A1, c1, rs, false⟩])) :
    TransAt w5 (Lo w5.heap.size) (some ⟨g, 0, none⟩) (ts ++ [⟨A1, c1, rs, false⟩]) ∧ Below w.heap.size w w5 := by
  have hst : Stay (fun b => P b ∨ ob A1 = some b) W w5 := fun b hb => by
    rcases hb with hb | hb
    · rw [hg.block b (by have := h.pl b hb; simp; omega) (fun e => h.p2 b e.symm hb), Below.heap_alloc _ _ _ (h.pl b hb)]
    · have := own_ob h.o1 b hb
      rw [hg.block b (by simp; omega) (fun e => h.ap b hb e.symm), Below.heap_alloc _ _ _ this.2]
  have hlo : ∀ b, (P b ∨ ob A1 = some b) → Lo w5.heap.size b := fun b hb => by
    have hs := hg.size
    simp at hs
    unfold Lo
    rcases hb with hb | hb
    · have := h.pl b hb; omega
    · have := (own_ob h.o1 b hb).2; omega
  have hnow : BeatsAt W (fun b => P b ∨ ob A1 = some b) A1 rs := OwnB.reads h.o1 (fun g hg => .inr hg) fun r hr => (h.vr r hr).more fun _ => .inl
  refine ⟨OwnT.reads hown (fun g' hg' => (own_ob hown g' hg').2) fun t ht => ?_, (h.hb.alloc h.hb.size o).grown hg (by have := h.lt; have := h.hN; simp; omega) (fun k hk => (own_ob h.o2 k hk).1)⟩
  rcases List.mem_append.1 ht with ht | ht
  · exact (((h.vt t ht).more fun _ => .inl).stay hst).more hlo
  · simp at ht; subst ht; exact (hnow.stay hst).more hlo
end

end Go.Proofs.YtlockjbhdibojaaGreatDoor
