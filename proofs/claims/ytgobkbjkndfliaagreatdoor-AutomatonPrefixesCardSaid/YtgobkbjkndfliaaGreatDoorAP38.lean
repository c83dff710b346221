/-
  Several texts in one: Lift54, RowsM, PathsL. Each says at its head what it holds.
-/
import Derived.Test.YtgobkbjkndfliaaGreatDoorAP6
import Derived.Test.YtgobkbjkndfliaaGreatDoorAP19
import Derived.Test.YtgobkbjkndfliaaGreatDoorAP37
import Derived.Test.YtgobkbjkndfliaaGreatDoorAP11
import Derived.Test.YtgobkbjkndfliaaGreatDoorAP4

/-
  The walk of AutomatonValid, in the order in which the lift hands on what it has read.
-/
namespace Go.Proofs.YtgobkbjkndfliaaGreatDoor
open Go.ChangeShapes Go.WideShapes Go.ChangeAt Go.RowKit Go.Deep

def AutIn (W : World) (a : Aut) : Prop := AutAt W (Lo W.heap.size) a ∧ (∃ evs cds, AutTrees W a evs cds) ∧ AutLe a
section
variable {H : Type} {enc : TypeId × Value → H} {W : World} {base : Nat} {spare : Nat → Bool} {held : Bool}
theorem rd_auto {fuel : Nat} {cs : List Value} {y : DataW H × List MemPlace} (h : DataW.trod enc Tryz.prog W base spare held fuel 30 cs = some y) (hf : Fit Tryz.prog 30 y.1) : ∃ a : Aut, cs = encA a ∧ AutIn W a := by
  obtain ⟨a, evs, cds, e, h1, h2, h3⟩ := rd_aut h hf
  exact ⟨a, e, h1, ⟨evs, cds, h2⟩, h3⟩
theorem rd_ints {fuel : Nat} {cs : List Value} {y : DataW H × List MemPlace} (h : DataW.trod enc Tryz.prog W base spare held fuel 43 cs = some y) (hf : Fit Tryz.prog 43 y.1) :
    ∃ A c xs, cs = [.slice A (List.length xs) c] ∧ IntsAt W W.heap.size A xs ∧ xs.length ≤ 140737488355328 ∧ True := by
  obtain ⟨A, c, rs, rfl, hr, hw⟩ := rd_slice 1 8 (fun z : Int => [.int .i64 z]) (fun _ => True) Tryz.underlying43 cellsInt5 (by decide) (by kernel_rfl)
    (fun n cs y h _ => by obtain ⟨z, rfl, _⟩ := rd_int Tryz.underlying3 h; exact ⟨z, rfl, trivial⟩) h hf
  refine ⟨A, c, rs, rfl, fun hne => ?_, by have : reachBytes < 2 ^ 47 := reachBytes_lt; omega, trivial⟩
  obtain ⟨b, off, rfl, hb, hc⟩ := hr hne
  refine ⟨b, off, rfl, hb, fun i r hi => ?_⟩
  have c0 := (hc i r hi).1 0 (by decide)
  simpa using c0
end
theorem valid_walk (a : Aut) (A1 : Option Addr) (c1 : Nat) (path : List Int) (W : World) (g : AutIn W a) (e1 : IntsAt W W.heap.size A1 path) (e2 : path.length ≤ 140737488355328) (_ : True) :
    Calls Tryz.prog 5 #[.agg (encA a).toArray, .slice A1 path.length c1] W (fun e w' => e = .returned (.bool true) ∧ Below W.heap.size W w') := by
  obtain ⟨h1, ⟨evs, cds, h2⟩, h3⟩ := g
  exact lawValid awake54 a evs cds A1 c1 path W h1 h2 h3 e1 e2

end Go.Proofs.YtgobkbjkndfliaaGreatDoor

/-
  Lists of lists of ints in memory, gathered row by row in a captured variable; slices.Clone of ints.
-/
namespace Go.Proofs.YtgobkbjkndfliaaGreatDoor
open Go.RowKit

theorem infoSl : (Tryz.prog.info? 43).map (fun i => (i.zero, i.size, i.bytes)) = some (some (.slice none 0 0), 1, 24) := by kernel_rfl
def celS (s : SlI) : Value := .slice s.A s.xs.length s.c
theorem celS_one (l : List SlI) : ∀ u ∈ l.map celS, u.oneCell' = true := fun u hu => by
  obtain ⟨s, _, rfl⟩ := List.mem_map.1 hu
  rfl
/-- a block apart from block Bo and from the block of A -/
def Free (Bo : Nat) (A : Option Addr) (W : World) (b : Nat) : Prop := b < W.heap.size ∧ b ≠ Bo ∧ ob A ≠ some b
/-- memory as it was, but for block Bo and the block of A -/
structure PKeep (Bo : Nat) (A : Option Addr) (W W' : World) : Prop where
  os : W'.os = W.os
  tape : W'.tape = W.tape
  output : W'.output = W.output
  size : W.heap.size ≤ W'.heap.size
  block : ∀ b, Free Bo A W b → W'.heap[b]? = W.heap[b]?
def PMov (A A' : Option Addr) (W : World) : Prop := ob A' = ob A ∨ ∃ g, ob A' = some g ∧ W.heap.size ≤ g
/-- the variable in block Bo: a row of slices of the call's own, whose ints lie apart -/
structure PthSt (Bo base : Nat) (A : Option Addr) (c : Nat) (rows : List SlI) (W : World) : Prop where
  box : W.heap[Bo]? = some (.cells #[.slice A rows.length c] 45 (0, 0))
  own : W.ownsRow base 43 1 (.slice A rows.length c) rows.length (rows.map celS)
  each : ∀ s ∈ rows, Row W (Free Bo A W) 1 cInt s.A s.xs
  lt : Bo < base
  le : base ≤ W.heap.size
section
variable {Bo base c : Nat} {A A' A'' : Option Addr} {W W' W'' : World} {rows : List SlI} {b : Nat}
theorem PKeep.refl (Bo : Nat) (A : Option Addr) (W : World) : PKeep Bo A W W := ⟨rfl, rfl, rfl, Nat.le_refl _, fun _ _ => rfl⟩
theorem PMov.refl (A : Option Addr) (W : World) : PMov A A W := .inl rfl
theorem PKeep.below (h : Below W.heap.size W W') : PKeep Bo A W W' := ⟨h.os, h.tape, h.output, h.size, fun b hb => h.block b hb.1⟩
theorem Free.mov (h : Free Bo A W b) (hs : W.heap.size ≤ W'.heap.size) (hm : PMov A A' W) : Free Bo A' W' b := by
  refine ⟨Nat.lt_of_lt_of_le h.1 hs, h.2.1, ?_⟩
  rcases hm with h1 | ⟨g, h1, h2⟩
  · rw [h1]; exact h.2.2
  · rw [h1]; intro e; injection e with e; have := h.1; omega
theorem PKeep.trans (h : PKeep Bo A W W') (hm : PMov A A' W) (k : PKeep Bo A' W' W'') : PKeep Bo A W W'' :=
  ⟨k.os.trans h.os, k.tape.trans h.tape, k.output.trans h.output, Nat.le_trans h.size k.size, fun b hb => (k.block b (hb.mov h.size hm)).trans (h.block b hb)⟩
theorem PMov.trans (h : PMov A A' W) (hs : W.heap.size ≤ W'.heap.size) (k : PMov A' A'' W') : PMov A A'' W := by
  rcases k with k | ⟨g, k1, k2⟩
  · rcases h with h | ⟨g, h1, h2⟩
    · exact .inl (k.trans h)
    · exact .inr ⟨g, k.trans h1, h2⟩
  · exact .inr ⟨g, k1, by omega⟩
theorem row_keep {X : Option Addr} {xs : List Int} (h : Row W (Free Bo A W) 1 cInt X xs) (k : PKeep Bo A W W') (hm : PMov A A' W) : Row W' (Free Bo A' W') 1 cInt X xs :=
  (h.stay (P := Free Bo A W) fun b hb => k.block b hb).more fun _ hb => hb.mov k.size hm
theorem PthSt.ob_base (h : PthSt Bo base A c rows W) : ∀ k, ob A = some k → base ≤ k := fun k hk => (own_ob h.own k hk).1
theorem PthSt.below (h : PthSt Bo base A c rows W) (hb : Below W.heap.size W W') : PthSt Bo base A c rows W' :=
  ⟨box_below hb h.box, own_block h.own fun g hg => hb.block g (own_ob h.own g hg).2, fun s hs => row_keep (h.each s hs) (.below hb) (.refl _ _), h.lt, Nat.le_trans h.le hb.size⟩
/-- a block below base is free -/
theorem PthSt.free (h : PthSt Bo base A c rows W) (hb : b < base) (hne : b ≠ Bo) : Free Bo A W b := ⟨by have := h.le; omega, hne, fun e => by have := h.ob_base b e; omega⟩

/-- behind the append of one row -/
theorem PthSt.push {s : SlI} {g c' : Nat} {W1 W3 : World} (h : PthSt Bo base A c rows W) (hs : Row W (Free Bo A W) 1 cInt s.A s.xs) (hW1 : W1 = W.alloc (.cells #[celS s] 43))
    (hown : W3.ownsRow base 43 1 (.slice (some ⟨g, 0, none⟩) (rows.length + 1) c') (rows.length + 1) (rows.map celS ++ [celS s])) (hg : W1.grownBy W3 (ob A)) (hat : ob A = some g ∨ g = W1.heap.size) :
    W3.cell? ⟨Bo, 0, none⟩ = some (.slice A rows.length c) ∧ W3.frozen? ⟨Bo, 0, none⟩ = false ∧ PthSt Bo base (some ⟨g, 0, none⟩) c' (rows ++ [s]) (W3.setCell ⟨Bo, 0, none⟩ (.slice (some ⟨g, 0, none⟩) (rows.length + 1) c')) ∧
      PKeep Bo A W (W3.setCell ⟨Bo, 0, none⟩ (.slice (some ⟨g, 0, none⟩) (rows.length + 1) c')) ∧ PMov A (some ⟨g, 0, none⟩) W := by
  subst hW1
  have hlt := h.lt
  have hle := h.le
  have hbA := h.ob_base
  have keep : ∀ b, b < W.heap.size → ob A ≠ some b → W3.heap[b]? = W.heap[b]? := fun b hb ha => by
    rw [hg.block b (by simp; omega) (fun e => ha e.symm), Below.heap_alloc _ _ _ hb]
  have hbo : ob A ≠ some Bo := fun e => by have := hbA _ e; omega
  have hbx : W3.heap[Bo]? = some (.cells #[.slice A rows.length c] 45 (0, 0)) := (keep Bo (by omega) hbo).trans h.box
  have hgB : g ≠ Bo := by
    rcases hat with e | e
    · have := hbA _ e; omega
    · simp at e; omega
  have hmv : PMov A (some ⟨g, 0, none⟩) W := by
    rcases hat with e | e
    · exact .inl (by rw [ob_some]; exact e.symm)
    · exact .inr ⟨g, ob_some g, by simp at e; omega⟩
  have hkp : PKeep Bo A W (W3.setCell ⟨Bo, 0, none⟩ (.slice (some ⟨g, 0, none⟩) (rows.length + 1) c')) := by
    refine ⟨hg.os, hg.tape, hg.output, ?_, fun b hb => ?_⟩
    · have := hg.size
      simp at this ⊢
      omega
    · rw [Below.heap_setCell _ _ _ _ (by simpa using hb.2.1)]
      exact keep b hb.1 hb.2.2
  refine ⟨box_cell hbx, box_frozen hbx, ⟨?_, ?_, ?_, h.lt, Nat.le_trans h.le hkp.size⟩, hkp, hmv⟩
  · rw [List.length_append]
    exact box_set1 hbx
  · rw [List.length_append, List.map_append]
    exact own_block hown fun k hk => by
      rw [ob_some] at hk
      injection hk with hk
      subst hk
      exact Below.heap_setCell _ _ _ _ (by simpa using hgB)
  · intro t ht
    rcases List.mem_append.1 ht with ht | ht
    · exact row_keep (h.each t ht) hkp hmv
    · simp at ht
      subst ht
      exact row_keep hs hkp hmv
end

theorem Row.src1 {w : World} {P : Nat → Prop} {A : Option Addr} {xs : List Int} (h : Row w P 1 cInt A xs) : xs.map (Value.int .i64) ≠ [] → ∃ b off, A = some ⟨b, off, none⟩ ∧ ∀ j u, (xs.map (Value.int .i64))[j]? = some u → w.cell? ⟨b, off + j, none⟩ = some u := by
  intro hne
  obtain ⟨b, off, e, _, hc⟩ := h (fun e => hne (by rw [e]; rfl))
  refine ⟨b, off, e, fun j u hu => ?_⟩
  rw [List.getElem?_map] at hu
  cases hj : xs[j]? with
  | none => rw [hj] at hu; cases hu
  | some z =>
    rw [hj] at hu
    simp only [Option.map_some, Option.some.injEq] at hu
    subst hu
    have := hc j z hj 0 (by omega)
    rw [Nat.mul_one, Nat.add_zero] at this
    exact this
theorem row_cap {w : World} {base size n : Nat} {t : TypeId} {v : Value} {vs : List Value} (h : w.ownsRow base t size v n vs) : ∀ g cap, v = .slice (some ⟨g, 0, none⟩) n cap → n ≤ cap := by
  rintro g cap rfl
  rcases h.2 with ⟨h2, _⟩ | ⟨g', cap', cur, h2, _, _, h5, _⟩
  · cases h2
  · injection h2 with _ _ h2
    subst h2
    exact h5
/-- an own row of ints, read -/
theorem ints_of_row {w : World} {base : Nat} {v : Value} {xs : List Int} (h : w.ownsRow base 3 1 v xs.length (xs.map (Value.int .i64))) : ∃ V c, v = .slice V xs.length c ∧ Row w (fun b => base ≤ b ∧ b < w.heap.size) 1 cInt V xs ∧ xs.length ≤ c := by
  have hcap := row_cap h
  rcases Joins.ownsRow_forms h with ⟨rfl, h0⟩ | ⟨g, cap, rfl⟩
  · exact ⟨none, 0, by rw [h0], (fun hne => absurd (List.eq_nil_of_length_eq_zero h0) hne), by omega⟩
  · refine ⟨_, cap, rfl, fun hne => ?_, hcap g cap rfl⟩
    obtain ⟨g', e, h1, h2⟩ := own_place h (List.length_pos_iff.2 hne)
    injection e with e
    injection e with e
    subst e
    refine ⟨g, 0, rfl, ⟨h1, h2⟩, fun i x hi j hj => ?_⟩
    have hlt : i < xs.length := (List.getElem?_eq_some_iff.1 hi).1
    have : j = 0 := by omega
    subst this
    rw [Nat.zero_add, Nat.mul_one, Nat.add_zero, World.ownsRow.cellAt h _ (by omega), List.getElem?_map, hi]
    rfl

set_option maxRecDepth 100000 in
theorem cloneI_any (P : Nat → Prop) (A : Option Addr) (c : Nat) (xs : List Int) (w : World) (hv : Row w P 1 cInt A xs) (hl : xs.length ≤ 1000000) (hp : ∀ b, P b → b < w.heap.size) :
    Calls Tryz.prog 53 #[.slice A xs.length c] w fun e w' => ∃ V cap, e = .returned (.slice V xs.length cap) ∧ Row w' (fun b => w.heap.size ≤ b ∧ b < w'.heap.size) 1 cInt V xs ∧ Below w.heap.size w w' := by
  have q25 : ∀ (w : World) (a : Option Addr) (n c n' c' : Nat), (binOp .eql 43 (.slice a n c) (.slice none n' c')).run Tryz.prog w = .ok (.bool a.isNone) w := fun w a n c n' c' => Lib.run_eql_slice_nil w _ _ a n c n' c' Tryz.underlying43
  cases A with
  | none =>
    have h0 : xs = [] := by
      rcases xs with _ | ⟨v, vs⟩
      · rfl
      · obtain ⟨_, _, e, _⟩ := hv (by simp)
        cases e
    subst h0
    go_enter Tryz.func53, Tryz.ntmps53
    go_wp2
    go_ret
    exact ⟨none, 0, rfl, Row.nil, Below.refl _ _⟩
  | some ad =>
    obtain ⟨i0, hi0, hz0, hz1, hz2⟩ := info_parts infoInt
    have hsrc := (hv.stay (stay_alloc (.cells #[] 3) hp)).src1
    have HS := hide hsrc
    clear hsrc hv hp
    go_enter Tryz.func53, Tryz.ntmps53
    go_wp2_with (at_builtin; (refine append_src rfl _ _ 43 rfl w.heap.size 3 i0 _ 1 8 Tryz.underlying43 hi0 hz0 hz1 hz2 rfl (by decide) (.slice (some ⟨w.heap.size, 0, none⟩) 0 0) 0 [] rfl (World.ownsRow_lit w #[] 0 (Nat.le_refl _) (by simp [maxLen]) rfl) (some ad) xs.length c (xs.map (Value.int .i64)) rfl (by simp) HS.out (by simp [Value.oneCell']) (by simp only [maxLen]; omega) (by omega) (by simp) ?_); intro v' w1 hown hgrow)
    go_ret
    obtain ⟨V, cap, rfl, hs, -⟩ := ints_of_row (xs := xs) (by simpa using hown)
    exact ⟨V, cap, rfl, hs, ((Below.refl _ w).alloc (Nat.le_refl _) _).grown hgrow (by simp) (fun k hk => Nat.le_of_eq (by simpa [Value.ownBlock] using hk))⟩

end Go.Proofs.YtgobkbjkndfliaaGreatDoor

/-
  automaton.Paths and its reference: the paths from a state in the order of the search, in plain words.
-/
namespace Go.Proofs.YtgobkbjkndfliaaGreatDoor

def hereP (fin : List Bool) (s : Int) : List (List Nat) := if fin.getD s.toNat false = true then [[]] else []
def kidP (E : List Edg) (sub : Int → List (List Nat)) (s : Int) (i : Nat) : List (List Nat) := match E[i]? with
  | some e => if e.from_ = s then (sub e.to_).map (fun p => i :: p) else []
  | none => []
/-- the paths from a state with at most so many edges -/
def pathsF (E : List Edg) (fin : List Bool) : Nat → Int → List (List Nat)
  | 0, s => hereP fin s
  | n + 1, s => hereP fin s ++ (List.range E.length).flatMap (kidP E (pathsF E fin n) s)
/-- of them: those that begin with one of the first edges -/
def pathsI (E : List Edg) (fin : List Bool) (n : Nat) (s : Int) (i : Nat) : List (List Nat) := hereP fin s ++ (List.range i).flatMap (kidP E (pathsF E fin n) s)
section
variable {E : List Edg} {fin : List Bool} {n i : Nat} {s : Int} {e : Edg}
theorem pathsF_zero : pathsF E fin 0 s = hereP fin s := rfl
theorem pathsF_succ : pathsF E fin (n + 1) s = hereP fin s ++ (List.range E.length).flatMap (kidP E (pathsF E fin n) s) := rfl
theorem pathsI_zero : pathsI E fin n s 0 = hereP fin s := by simp [pathsI]
theorem pathsI_succ : pathsI E fin n s (i + 1) = pathsI E fin n s i ++ kidP E (pathsF E fin n) s i := by
  unfold pathsI
  rw [List.range_succ, List.flatMap_append, List.append_assoc]
  simp
theorem pathsI_all : pathsI E fin n s E.length = pathsF E fin (n + 1) s := rfl
theorem pathsI_skip (he : E[i]? = some e) (h : e.from_ ≠ s ∨ pathsF E fin n e.to_ = []) : pathsI E fin n s (i + 1) = pathsI E fin n s i := by
  rw [pathsI_succ]
  unfold kidP
  rw [he]
  rcases h with h | h
  · simp [h]
  · simp [h]
theorem pathsI_take (he : E[i]? = some e) (h : e.from_ = s) : pathsI E fin n s (i + 1) = pathsI E fin n s i ++ (pathsF E fin n e.to_).map (fun p => i :: p) := by
  rw [pathsI_succ]
  unfold kidP
  rw [he]
  simp [h]
/-- an automaton's paths from a state: is there one with at most so many edges -/
theorem pathsF_some : pathsF E fin n s ≠ [] ↔ fin.getD s.toNat false = true ∨ ∃ m e, n = m + 1 ∧ e ∈ E ∧ e.from_ = s ∧ pathsF E fin m e.to_ ≠ [] := by
  cases n with
  | zero =>
    rw [pathsF_zero]
    unfold hereP
    constructor
    · intro h
      split at h
      · rename_i h1; exact .inl h1
      · exact absurd rfl h
    · rintro (h | ⟨m, _, h, _⟩)
      · rw [if_pos h]; simp
      · omega
  | succ n =>
    rw [pathsF_succ]
    constructor
    · intro h
      by_cases h1 : fin.getD s.toNat false = true
      · exact .inl h1
      · right
        unfold hereP at h
        rw [if_neg h1, List.nil_append] at h
        obtain ⟨p, hp⟩ := List.exists_mem_of_ne_nil _ h
        obtain ⟨i, _, hi⟩ := List.mem_flatMap.1 hp
        unfold kidP at hi
        split at hi
        · rename_i e he
          split at hi
          · rename_i h2
            refine ⟨n, e, rfl, List.mem_of_getElem? he, h2, fun h3 => ?_⟩
            rw [h3] at hi
            simp at hi
          · simp at hi
        · simp at hi
    · rintro (h | ⟨m, e, h1, h2, h3, h4⟩)
      · unfold hereP
        rw [if_pos h]
        simp
      · have : m = n := by omega
        subst this
        obtain ⟨p, hp⟩ := List.exists_mem_of_ne_nil _ h4
        obtain ⟨i, hi⟩ := List.getElem?_of_mem h2
        refine List.ne_nil_of_mem (a := i :: p) (List.mem_append_right _ (List.mem_flatMap.2 ⟨i, List.mem_range.2 (List.getElem?_eq_some_iff.1 hi).1, ?_⟩))
        unfold kidP
        rw [hi]
        simp only [h3, if_true]
        exact List.mem_map.2 ⟨p, hp, rfl⟩
end

/-- the least number of edges from a state to a final one; a great number where there is none -/
def LeastN (E : List Edg) (fin : List Bool) (s k : Int) : Prop := ∀ n : Nat, n < 1048576 → (pathsF E fin n s ≠ [] ↔ k ≤ (n : Int))
/-- the same, by the first edges alone -/
def LeastI (E : List Edg) (fin : List Bool) (s : Int) (i : Nat) (k : Int) : Prop := ∀ n : Nat, n < 1048576 → ((fin.getD s.toNat false = true ∨ ∃ (m j : Nat) (e : Edg), n = m + 1 ∧ j < i ∧ E[j]? = some e ∧ e.from_ = s ∧ pathsF E fin m e.to_ ≠ []) ↔ k ≤ (n : Int))
section
variable {E : List Edg} {fin : List Bool} {s k k' : Int} {i : Nat} {e : Edg}
theorem LeastI.zero : LeastI E fin s 0 (if fin.getD s.toNat false = true then 0 else 1048576) := fun n hn => by
  by_cases h : fin.getD s.toNat false = true
  · rw [if_pos h]
    exact ⟨fun _ => by omega, fun _ => .inl h⟩
  · rw [if_neg h]
    refine ⟨fun hh => hh.elim (fun h1 => absurd h1 h) fun ⟨_, _, _, _, h2, _⟩ => absurd h2 (Nat.not_lt_zero _), fun h1 => by omega⟩
theorem LeastI.skip (he : E[i]? = some e) (hs : e.from_ ≠ s) (h : LeastI E fin s i k) : LeastI E fin s (i + 1) k := fun n hn => by
  rw [← h n hn]
  refine or_congr_right ⟨?_, ?_⟩
  · rintro ⟨m, j, e', h1, h2, h3, h4, h5⟩
    refine ⟨m, j, e', h1, ?_, h3, h4, h5⟩
    rcases Nat.lt_or_ge j i with h6 | h6
    · exact h6
    · have : j = i := by omega
      subst this
      rw [he] at h3
      injection h3 with h3
      subst h3
      exact absurd h4 hs
  · rintro ⟨m, j, e', h1, h2, h3⟩
    exact ⟨m, j, e', h1, by omega, h3⟩
theorem LeastI.take (he : E[i]? = some e) (hs : e.from_ = s) (h : LeastI E fin s i k) (h' : LeastN E fin e.to_ k') (hk : 0 ≤ k') : LeastI E fin s (i + 1) (min k (k' + 1)) := fun n hn => by
  have h0 := h n hn
  constructor
  · rintro (h1 | ⟨m, j, e', h1, h2, h3, h4, h5⟩)
    · have := h0.1 (.inl h1); omega
    · rcases Nat.lt_or_ge j i with h6 | h6
      · have := h0.1 (.inr ⟨m, j, e', h1, h6, h3, h4, h5⟩); omega
      · have : j = i := by omega
        subst this
        rw [he] at h3
        injection h3 with h3
        subst h3
        have := (h' m (by omega)).1 h5
        omega
  · intro h1
    rcases Int.le_total k (k' + 1) with h2 | h2
    · have h3 : k ≤ (n : Int) := by omega
      rcases h0.2 h3 with h4 | ⟨m, j, e', h4, h5, h6⟩
      · exact .inl h4
      · exact .inr ⟨m, j, e', h4, by omega, h6⟩
    · have h3 : k' + 1 ≤ (n : Int) := by omega
      exact .inr ⟨n - 1, i, e, by omega, by omega, he, hs, (h' (n - 1) (by omega)).2 (by omega)⟩
theorem LeastI.all (h : LeastI E fin s E.length k) : LeastN E fin s k := fun n hn => by
  rw [← h n hn, pathsF_some]
  refine or_congr_right ⟨?_, ?_⟩
  · rintro ⟨m, e, h1, h2, h3⟩
    obtain ⟨j, hj⟩ := List.getElem?_of_mem h2
    exact ⟨m, j, e, h1, (List.getElem?_eq_some_iff.1 hj).1, hj, h3⟩
  · rintro ⟨m, j, e, h1, _, h3, h4⟩
    exact ⟨m, e, h1, List.mem_of_getElem? h3, h4⟩
end

end Go.Proofs.YtgobkbjkndfliaaGreatDoor
