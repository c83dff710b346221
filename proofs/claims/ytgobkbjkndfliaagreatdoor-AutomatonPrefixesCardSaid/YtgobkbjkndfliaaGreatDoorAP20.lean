/-
  Several texts in one: Comp. Each says at its head what it holds.
-/
import Derived.Test.YtgobkbjkndfliaaGreatDoorAP4
import Derived.Test.YtgobkbjkndfliaaGreatDoorAP10
import Derived.Maps.AppendAt

/-
  The compiler of automaton in memory: its box, its three rows, and the blocks that its methods leave alone.
-/
namespace Go.Proofs.YtgobkbjkndfliaaGreatDoor
open Go.RowKit

theorem row_ne {w : World} {base : Nat} {A : Option Addr} {c n : Nat} {xs : List Value} {e : TypeId} {size N : Nat} {o : Obj} (h : w.ownsRow base e size (.slice A n c) n xs) (h' : w.heap[N]? = some o) (hne : ∀ cur, o ≠ .cells cur e (0, 0)) : ob A ≠ some N := by
  intro hg
  rcases h.2 with ⟨h2, _⟩ | ⟨g, cap, cur, h2, h3, h4, h5⟩
  · rw [← ob_eq A n c, h2] at hg; cases hg
  · rw [← ob_eq A n c, h2] at hg
    injection hg with hg
    subst hg
    rw [h4] at h'
    injection h' with h'
    exact hne cur h'.symm
theorem rows_apart {w : World} {b b' : Nat} {A A' : Option Addr} {c c' n n' : Nat} {xs xs' : List Value} {e e' : TypeId} {sz sz' : Nat} (h : w.ownsRow b e sz (.slice A n c) n xs) (h' : w.ownsRow b' e' sz' (.slice A' n' c') n' xs') (hne : e ≠ e') (g : Nat) (hg : ob A' = some g) : ob A ≠ some g := by
  rcases h'.2 with ⟨h2, _⟩ | ⟨g', cap, cur, h2, h3, h4, h5⟩
  · rw [← ob_eq A' n' c', h2] at hg; cases hg
  · rw [← ob_eq A' n' c', h2] at hg
    injection hg with hg
    subst hg
    exact row_ne h h4 (fun cur e => by injection e with _ e; exact hne e.symm)

/-- the compiler's box at B, its rows, and blocks that its methods leave alone: all below base among them -/
structure CR (w : World) (base B : Nat) (AE : Option Addr) (ne cE : Nat) (evl : List Value) (AX : Option Addr) (cX : Nat) (E : List Edg) (AS : Option Addr) (cS : Nat) (sts : List Int) (F : Nat → Prop) : Prop where
  box : w.heap[B]? = some (.cells #[.slice AE ne cE, .slice none 0 0, .slice none 0 0, .slice AX E.length cX, .slice AS sts.length cS] 59 (0, 0))
  ev : w.ownsRow base 24 9 (.slice AE ne cE) ne evl
  ed : w.ownsRow base 39 6 (.slice AX E.length cX) E.length (E.flatMap cEdg)
  st : w.ownsRow base 3 1 (.slice AS sts.length cS) sts.length (sts.map (Value.int .i64))
  fr : ∀ b, F b → b < w.heap.size ∧ b ≠ B ∧ ob AE ≠ some b ∧ ob AX ≠ some b ∧ ob AS ≠ some b
  bB : base ≤ B
def CSt (w : World) (base B ne : Nat) (E : List Edg) (sts : List Int) (F : Nat → Prop) : Prop := ∃ AE cE evl AX cX AS cS, CR w base B AE ne cE evl AX cX E AS cS sts F
theorem tCN : 59 ≠ 24 := by decide
theorem tCE : 59 ≠ 39 := by decide
theorem tCI : 59 ≠ 3 := by decide
theorem tNE : 24 ≠ 39 := by decide
theorem tNI : 24 ≠ 3 := by decide
theorem tEI : 39 ≠ 3 := by decide
theorem box5 {w : World} {N : Nat} {a b c d e : Value} {t : TypeId} (h : w.heap[N]? = some (.cells #[a, b, c, d, e] t (0, 0))) : w.cell? ⟨N, 0, none⟩ = some a ∧ w.cell? ⟨N, 1, none⟩ = some b ∧ w.cell? ⟨N, 2, none⟩ = some c ∧ w.cell? ⟨N, 3, none⟩ = some d ∧ w.cell? ⟨N, 4, none⟩ = some e := by
  refine ⟨?_, ?_, ?_, ?_, ?_⟩ <;> (rw [cell_of_row w N _ _ t (0, 0) h]; rfl)
theorem box_froz {w : World} {N j : Nat} {cs : Array Value} {t : TypeId} (h : w.heap[N]? = some (.cells cs t (0, 0))) : w.frozen? ⟨N, j, none⟩ = false := by simp [World.frozen?, h]
section
variable {w w' w2 : World} {base B ne cE : Nat} {AE : Option Addr} {evl : List Value} {AX : Option Addr} {cX : Nat} {E : List Edg} {AS : Option Addr} {cS : Nat} {sts : List Int} {F F' : Nat → Prop}
theorem CR.lt (h : CR w base B AE ne cE evl AX cX E AS cS sts F) : B < w.heap.size := box_lt h.box
theorem CR.sub (h : CR w base B AE ne cE evl AX cX E AS cS sts F) (hf : ∀ b, F' b → F b) : CR w base B AE ne cE evl AX cX E AS cS sts F' := ⟨h.box, h.ev, h.ed, h.st, fun b hb => h.fr b (hf b hb), h.bB⟩
theorem CR.keep (h : CR w base B AE ne cE evl AX cX E AS cS sts F) (hs : w.heap.size ≤ w'.heap.size) (hB : w'.heap[B]? = w.heap[B]?) (hk : ∀ b, ob AE = some b ∨ ob AX = some b ∨ ob AS = some b → w'.heap[b]? = w.heap[b]?) : CR w' base B AE ne cE evl AX cX E AS cS sts F :=
  ⟨hB.trans h.box, own_block h.ev fun g hg => hk g (.inl hg), own_block h.ed fun g hg => hk g (.inr (.inl hg)), own_block h.st fun g hg => hk g (.inr (.inr hg)), fun b hb => ⟨by have := (h.fr b hb).1; omega, (h.fr b hb).2⟩, h.bB⟩
theorem CR.row_lt (h : CR w base B AE ne cE evl AX cX E AS cS sts F) {b : Nat} (hb : ob AE = some b ∨ ob AX = some b ∨ ob AS = some b) : base ≤ b ∧ b < w.heap.size := by
  rcases hb with hb | hb | hb
  · exact own_ob h.ev b hb
  · exact own_ob h.ed b hb
  · exact own_ob h.st b hb
theorem CR.row_ne (h : CR w base B AE ne cE evl AX cX E AS cS sts F) {b : Nat} (hb : ob AE = some b ∨ ob AX = some b ∨ ob AS = some b) : b ≠ B := by
  rintro rfl
  rcases hb with hb | hb | hb
  · exact YtgobkbjkndfliaaGreatDoor.row_ne h.ev h.box (fun cur e => by injection e with _ e; exact tCN e) hb
  · exact YtgobkbjkndfliaaGreatDoor.row_ne h.ed h.box (fun cur e => by injection e with _ e; exact tCE e) hb
  · exact YtgobkbjkndfliaaGreatDoor.row_ne h.st h.box (fun cur e => by injection e with _ e; exact tCI e) hb
theorem CR.below (h : CR w base B AE ne cE evl AX cX E AS cS sts F) (hb : Below w.heap.size w w') : CR w' base B AE ne cE evl AX cX E AS cS sts F :=
  h.keep hb.size (hb.block _ h.lt) fun b hr => hb.block b (h.row_lt hr).2
/-- blocks that are new are left alone too -/
theorem CR.new (h : CR w base B AE ne cE evl AX cX E AS cS sts F) (hb : Below w.heap.size w w') (hf : ∀ b, F' b → F b ∨ (w.heap.size ≤ b ∧ b < w'.heap.size)) : CR w' base B AE ne cE evl AX cX E AS cS sts F' := by
  have h1 := h.below hb
  refine ⟨h1.box, h1.ev, h1.ed, h1.st, fun b hb' => ?_, h1.bB⟩
  rcases hf b hb' with h2 | ⟨h2, h3⟩
  · exact h1.fr b h2
  · have hr : ∀ x, (ob AE = some x ∨ ob AX = some x ∨ ob AS = some x) → x ≠ b := fun x hx e => by have := (h.row_lt hx).2; omega
    exact ⟨h3, fun e => by have := h.lt; omega, fun e => hr b (.inl e) rfl, fun e => hr b (.inr (.inl e)) rfl, fun e => hr b (.inr (.inr e)) rfl⟩
theorem CR.set (h : CR w base B AE ne cE evl AX cX E AS cS sts F) {N k : Nat} (hN : F N) (v : Value) : CR (w.setCell ⟨N, k, none⟩ v) base B AE ne cE evl AX cX E AS cS sts F := by
  obtain ⟨h1, h2, h3, h4, h5⟩ := h.fr N hN
  refine h.keep (by simp) (Below.heap_setCell _ _ _ _ (fun e => h2 (by simpa using e.symm))) fun b hb => Below.heap_setCell _ _ _ _ (fun e => ?_)
  have e : b = N := by simpa using e
  subst e
  rcases hb with hb | hb | hb
  · exact h3 hb
  · exact h4 hb
  · exact h5 hb
/-- a new state's event -/
theorem CR.push_st (h : CR w base B AE ne cE evl AX cX E AS cS sts F) {o : Obj} {A' : Option Addr} {c' : Nat} {sts' : List Int} (hg : (w.alloc o).grownBy w2 (ob AS)) (ho : w2.ownsRow base 3 1 (.slice A' sts'.length c') sts'.length (sts'.map (Value.int .i64))) (hp : ob A' = ob AS ∨ ob A' = some (w.heap.size + 1)) :
    CR (w2.setCell ⟨B, 4, none⟩ (.slice A' sts'.length c')) base B AE ne cE evl AX cX E A' c' sts' F ∧ ∀ b, F b → (w2.setCell ⟨B, 4, none⟩ (.slice A' sts'.length c')).heap[b]? = w.heap[b]? := by
  have hb : ∀ b, b < w.heap.size → ob AS ≠ some b → w2.heap[b]? = w.heap[b]? := fun b h1 h2 => (hg.block b (by simp; omega) (fun e => h2 e.symm)).trans (Below.heap_alloc _ _ _ h1)
  have hsz : w.heap.size ≤ w2.heap.size := by have := hg.size; simp at this; omega
  have hset : ∀ b, b ≠ B → (w2.setCell ⟨B, 4, none⟩ (.slice A' sts'.length c')).heap[b]? = w2.heap[b]? := fun b hb => Below.heap_setCell _ _ _ _ (by simpa using hb)
  have hbox := (hb B h.lt (fun e => h.row_ne (.inr (.inr e)) rfl)).trans h.box
  have hA' : ∀ g, ob A' = some g → g ≠ B := fun g hg' e => by
    rcases hp with h1 | h1
    · exact h.row_ne (.inr (.inr (h1.symm.trans hg'))) e
    · rw [hg'] at h1; injection h1 with h1; have := h.lt; omega
  refine ⟨⟨by simp [World.setCell, Array.getElem?_modify, hbox], own_block (own_block h.ev fun g hg' => hb g (own_ob h.ev g hg').2 (rows_apart h.st h.ev tNI.symm g hg')) fun g hg' => hset g (h.row_ne (.inl hg')),
    own_block (own_block h.ed fun g hg' => hb g (own_ob h.ed g hg').2 (rows_apart h.st h.ed tEI.symm g hg')) fun g hg' => hset g (h.row_ne (.inr (.inl hg'))), own_block ho fun g hg' => hset g (hA' g hg'), fun b hF => ?_, h.bB⟩, fun b hF => ?_⟩
  · obtain ⟨h1, h2, h3, h4, h5⟩ := h.fr b hF
    exact ⟨by simp; omega, h2, h3, h4, fun e => by
      rcases hp with h6 | h6
      · exact h5 (h6.symm.trans e)
      · rw [e] at h6; injection h6 with h6; omega⟩
  · obtain ⟨h1, h2, h3, h4, h5⟩ := h.fr b hF
    exact (hset b h2).trans (hb b h1 h5)
/-- a new edge -/
theorem CR.push_ed (h : CR w base B AE ne cE evl AX cX E AS cS sts F) {o : Obj} {A' : Option Addr} {c' : Nat} {E' : List Edg} (hg : (w.alloc o).grownBy w2 (ob AX)) (ho : w2.ownsRow base 39 6 (.slice A' E'.length c') E'.length (E'.flatMap cEdg)) (hp : ob A' = ob AX ∨ ob A' = some (w.heap.size + 1)) :
    CR (w2.setCell ⟨B, 3, none⟩ (.slice A' E'.length c')) base B AE ne cE evl A' c' E' AS cS sts F ∧ ∀ b, F b → (w2.setCell ⟨B, 3, none⟩ (.slice A' E'.length c')).heap[b]? = w.heap[b]? := by
  have hb : ∀ b, b < w.heap.size → ob AX ≠ some b → w2.heap[b]? = w.heap[b]? := fun b h1 h2 => (hg.block b (by simp; omega) (fun e => h2 e.symm)).trans (Below.heap_alloc _ _ _ h1)
  have hsz : w.heap.size ≤ w2.heap.size := by have := hg.size; simp at this; omega
  have hset : ∀ b, b ≠ B → (w2.setCell ⟨B, 3, none⟩ (.slice A' E'.length c')).heap[b]? = w2.heap[b]? := fun b hb => Below.heap_setCell _ _ _ _ (by simpa using hb)
  have hbox := (hb B h.lt (fun e => h.row_ne (.inr (.inl e)) rfl)).trans h.box
  have hA' : ∀ g, ob A' = some g → g ≠ B := fun g hg' e => by
    rcases hp with h1 | h1
    · exact h.row_ne (.inr (.inl (h1.symm.trans hg'))) e
    · rw [hg'] at h1; injection h1 with h1; have := h.lt; omega
  refine ⟨⟨by simp [World.setCell, Array.getElem?_modify, hbox], own_block (own_block h.ev fun g hg' => hb g (own_ob h.ev g hg').2 (rows_apart h.ed h.ev tNE.symm g hg')) fun g hg' => hset g (h.row_ne (.inl hg')),
    own_block ho fun g hg' => hset g (hA' g hg'), own_block (own_block h.st fun g hg' => hb g (own_ob h.st g hg').2 (rows_apart h.ed h.st tEI g hg')) fun g hg' => hset g (h.row_ne (.inr (.inr hg'))), fun b hF => ?_, h.bB⟩, fun b hF => ?_⟩
  · obtain ⟨h1, h2, h3, h4, h5⟩ := h.fr b hF
    exact ⟨by simp; omega, h2, h3, fun e => by
      rcases hp with h6 | h6
      · exact h4 (h6.symm.trans e)
      · rw [e] at h6; injection h6 with h6; omega, h5⟩
  · obtain ⟨h1, h2, h3, h4, h5⟩ := h.fr b hF
    exact (hset b h2).trans (hb b h1 h4)
/-- a new event -/
theorem CR.push_ev (h : CR w base B AE ne cE evl AX cX E AS cS sts F) {o : Obj} {A' : Option Addr} {c' ne' : Nat} {evl' : List Value} (hg : (w.alloc o).grownBy w2 (ob AE)) (ho : w2.ownsRow base 24 9 (.slice A' ne' c') ne' evl') (hp : ob A' = ob AE ∨ ob A' = some (w.heap.size + 1)) :
    CR (w2.setCell ⟨B, 0, none⟩ (.slice A' ne' c')) base B A' ne' c' evl' AX cX E AS cS sts F ∧ ∀ b, F b → (w2.setCell ⟨B, 0, none⟩ (.slice A' ne' c')).heap[b]? = w.heap[b]? := by
  have hb : ∀ b, b < w.heap.size → ob AE ≠ some b → w2.heap[b]? = w.heap[b]? := fun b h1 h2 => (hg.block b (by simp; omega) (fun e => h2 e.symm)).trans (Below.heap_alloc _ _ _ h1)
  have hsz : w.heap.size ≤ w2.heap.size := by have := hg.size; simp at this; omega
  have hset : ∀ b, b ≠ B → (w2.setCell ⟨B, 0, none⟩ (.slice A' ne' c')).heap[b]? = w2.heap[b]? := fun b hb => Below.heap_setCell _ _ _ _ (by simpa using hb)
  have hbox := (hb B h.lt (fun e => h.row_ne (.inl e) rfl)).trans h.box
  have hA' : ∀ g, ob A' = some g → g ≠ B := fun g hg' e => by
    rcases hp with h1 | h1
    · exact h.row_ne (.inl (h1.symm.trans hg')) e
    · rw [hg'] at h1; injection h1 with h1; have := h.lt; omega
  refine ⟨⟨by simp [World.setCell, Array.getElem?_modify, hbox], own_block ho fun g hg' => hset g (hA' g hg'),
    own_block (own_block h.ed fun g hg' => hb g (own_ob h.ed g hg').2 (rows_apart h.ev h.ed tNE g hg')) fun g hg' => hset g (h.row_ne (.inr (.inl hg'))), own_block (own_block h.st fun g hg' => hb g (own_ob h.st g hg').2 (rows_apart h.ev h.st tNI g hg')) fun g hg' => hset g (h.row_ne (.inr (.inr hg'))), fun b hF => ?_, h.bB⟩, fun b hF => ?_⟩
  · obtain ⟨h1, h2, h3, h4, h5⟩ := h.fr b hF
    exact ⟨by simp; omega, h2, fun e => by
      rcases hp with h6 | h6
      · exact h3 (h6.symm.trans e)
      · rw [e] at h6; injection h6 with h6; omega, h4, h5⟩
  · obtain ⟨h1, h2, h3, h4, h5⟩ := h.fr b hF
    exact (hset b h2).trans (hb b h1 h3)
end

/-- append onto one of the rows, as an equation -/
theorem app_at {w : World} {base : Nat} {t e : TypeId} {i : TypeInfo} {z : Value} {size bytes : Nat} (ty : TypeId) (ht : Tryz.prog.underlying t = some (.slice e)) (hi : Tryz.prog.info? e = some i) (hz : i.zero = some z) (hsize : i.size = size) (hby : i.bytes = bytes) (hzs : z.cells.size = size) (hsz : 0 < size)
    {A : Option Addr} {n c : Nat} {xs : List Value} (hown : w.ownsRow base e size (.slice A n c) n xs) (news : List Value) (hl : news.length = size) (h1 : ∀ u ∈ news, u.oneCell' = true) (hn : n ≤ 1000000) (hb64 : bytes ≤ 1000) (hbase : base ≤ w.heap.size) (ad : Addr) (hnews : ∀ j u, news[j]? = some u → w.cell? (ad.add j) = some u) :
    ∃ A' c' w', (Builtin.append_ #[t, t] ty #[.slice A n c, .slice (some ad) 1 1]).run Tryz.prog w = .ok (.slice A' (n + 1) c') w' ∧ w'.ownsRow base e size (.slice A' (n + 1) c') (n + 1) (xs ++ news) ∧ w.grownBy w' (ob A) ∧ (ob A' = ob A ∨ ob A' = some w.heap.size) ∧ (∃ g, A' = some ⟨g, 0, none⟩) := by
  obtain ⟨v', w', h2, h3, h4, h5, h6⟩ := run_append_own_at (P := Tryz.prog) (w := w) base t ty e i z size bytes ht hi hz hsize hby hzs hsz (.slice A n c) n xs hown ad 1 1 news (by omega) hnews h1 (by simp only [maxLen]; omega) (Nat.le_trans (Nat.mul_le_mul (show n + 1 ≤ 1000001 by omega) hb64) (by omega)) hbase
  rcases Joins.ownsRow_forms h3 with ⟨rfl, h0⟩ | ⟨g, cap, rfl⟩
  · omega
  · refine ⟨_, cap, w', h2, h3, by rw [← ob_eq A n c]; exact h4, ?_, g, rfl⟩
    rw [ob_eq, ob_eq] at h6
    exact h6

/-- memory that has only grown, but for blocks that F does not name -/
structure Kp (F : Nat → Prop) (w w' : World) : Prop where
  os : w'.os = w.os
  tape : w'.tape = w.tape
  output : w'.output = w.output
  size : w.heap.size ≤ w'.heap.size
  block : ∀ b, F b → w'.heap[b]? = w.heap[b]?
section
variable {F F' : Nat → Prop} {a b c : World}
theorem Kp.refl (F : Nat → Prop) (w : World) : Kp F w w := ⟨rfl, rfl, rfl, Nat.le_refl _, fun _ _ => rfl⟩
theorem Kp.trans (h : Kp F a b) (k : Kp F b c) : Kp F a c := ⟨k.os.trans h.os, k.tape.trans h.tape, k.output.trans h.output, Nat.le_trans h.size k.size, fun i hi => (k.block i hi).trans (h.block i hi)⟩
theorem Kp.sub (h : Kp F a b) (hf : ∀ i, F' i → F i) : Kp F' a b := ⟨h.os, h.tape, h.output, h.size, fun i hi => h.block i (hf i hi)⟩
theorem Kp.of {n : Nat} (h : Below n a b) (hf : ∀ i, F i → i < n) : Kp F a b := ⟨h.os, h.tape, h.output, h.size, fun i hi => h.block i (hf i hi)⟩
theorem Kp.below {n : Nat} (h : Kp F a b) (hf : ∀ i, i < n → F i) : Below n a b := ⟨h.os, h.tape, h.output, h.size, fun i hi => h.block i (hf i hi)⟩
theorem Kp.set (h : Kp F a b) {N k : Nat} (hN : ¬ F N) (v : Value) : Kp F a (b.setCell ⟨N, k, none⟩ v) := ⟨h.os, h.tape, h.output, by simpa using h.size, fun i hi => by
  have hne : i ≠ N := fun e => hN (e ▸ hi)
  exact (Below.heap_setCell _ _ _ _ (by simpa using hne)).trans (h.block i hi)⟩
theorem Kp.grown {w w2 : World} {o : Obj} {r : Option Nat} (hg : (w.alloc o).grownBy w2 r) (hf : ∀ i, F i → i < w.heap.size ∧ r ≠ some i) : Kp F w w2 :=
  ⟨hg.os, hg.tape, hg.output, by have := hg.size; simp at this; omega, fun i hi => (hg.block i (by have := (hf i hi).1; simp; omega) (fun e => (hf i hi).2 e.symm)).trans (Below.heap_alloc _ _ _ (hf i hi).1)⟩
end
theorem box12 {w : World} {N : Nat} {a b c d e f g h i j k l : Value} {t : TypeId} (hN : w.heap[N]? = some (.cells #[a, b, c, d, e, f, g, h, i, j, k, l] t (0, 0))) : w.cell? ⟨N, 0, none⟩ = some a ∧ w.cell? ⟨N, 1, none⟩ = some b ∧ w.cell? ⟨N, 2, none⟩ = some c ∧ w.cell? ⟨N, 3, none⟩ = some d ∧ w.cell? ⟨N, 4, none⟩ = some e ∧ w.cell? ⟨N, 5, none⟩ = some f ∧ w.cell? ⟨N, 6, none⟩ = some g ∧ w.cell? ⟨N, 7, none⟩ = some h ∧ w.cell? ⟨N, 8, none⟩ = some i ∧ w.cell? ⟨N, 9, none⟩ = some j ∧ w.cell? ⟨N, 10, none⟩ = some k ∧ w.cell? ⟨N, 11, none⟩ = some l := by
  refine ⟨?_, ?_, ?_, ?_, ?_, ?_, ?_, ?_, ?_, ?_, ?_, ?_⟩ <;> (rw [cell_of_row w N _ _ t (0, 0) hN]; rfl)
theorem own_nine {w : World} {base g n cap k : Nat} {xs : List Value} (h : w.ownsRow base 24 9 (.slice (some ⟨g, 0, none⟩) n cap) n xs) (v0 v1 v2 v3 v4 v5 v6 v7 v8 : Value) :
    ∃ xs', ((((((((((w.setCell ⟨g, k, none⟩ v0).setCell ⟨g, k + 1, none⟩ v1).setCell ⟨g, k + 2, none⟩ v2).setCell ⟨g, k + 3, none⟩ v3).setCell ⟨g, k + 4, none⟩ v4).setCell ⟨g, k + 5, none⟩ v5).setCell ⟨g, k + 6, none⟩ v6).setCell ⟨g, k + 7, none⟩ v7).setCell ⟨g, k + 8, none⟩ v8)).ownsRow base 24 9 (.slice (some ⟨g, 0, none⟩) n cap) n xs' ∧
      w.grownBy ((((((((((w.setCell ⟨g, k, none⟩ v0).setCell ⟨g, k + 1, none⟩ v1).setCell ⟨g, k + 2, none⟩ v2).setCell ⟨g, k + 3, none⟩ v3).setCell ⟨g, k + 4, none⟩ v4).setCell ⟨g, k + 5, none⟩ v5).setCell ⟨g, k + 6, none⟩ v6).setCell ⟨g, k + 7, none⟩ v7).setCell ⟨g, k + 8, none⟩ v8)) (some g) := by
  obtain ⟨h0, g0⟩ := h.stored k v0
  obtain ⟨h1, g1⟩ := h0.stored (k + 1) v1
  obtain ⟨h2, g2⟩ := h1.stored (k + 2) v2
  obtain ⟨h3, g3⟩ := h2.stored (k + 3) v3
  obtain ⟨h4, g4⟩ := h3.stored (k + 4) v4
  obtain ⟨h5, g5⟩ := h4.stored (k + 5) v5
  obtain ⟨h6, g6⟩ := h5.stored (k + 6) v6
  obtain ⟨h7, g7⟩ := h6.stored (k + 7) v7
  obtain ⟨h8, g8⟩ := h7.stored (k + 8) v8
  exact ⟨_, h8, (((((((g0.trans g1).trans g2).trans g3).trans g4).trans g5).trans g6).trans g7).trans g8⟩

/-- an append whose answer is known, at a step of a region that draws its order -/
theorem step_app_eq {P : Program} {ops : Array Oper} {o : Oper} {a : Act} {K : Act → World → Prop} {Q : Exit → Act → World → Prop} {E : Prop} {w w' : World} {r v u : Value} {t : TypeId} (hgd : o.guard = none) (s x : Operand)
    (ho : o.op = .call { callee := .builtin .append, args := #[s, x], argTypes := #[t, t] }) (hs : a.eval s = v) (hx : a.eval x = u) (hrun : (Builtin.append_ #[t, t] o.type #[v, u]).run P w = .ok r w') (h : K (a.put o.dst r) w') :
    if Region.wanted o (yielded ops a.tmps) = true then Oper.wp P o a w K Q else E := by
  have hw : Region.wanted o (yielded ops a.tmps) = true := by simp [Region.wanted, hgd]
  rw [if_pos hw]
  unfold Oper.wp execOp
  simp only [ho, resolve, invoke, builtin, Sem.run_bind, Sem.run_pure, Result.andThen_ok, List.map_toArray, List.map_cons, List.map_nil, hs, hx, hrun]
  exact h

end Go.Proofs.YtgobkbjkndfliaaGreatDoor
