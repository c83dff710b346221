/-
  Several texts in one: Add, Bin. Each says at its head what it holds.
-/
import Derived.Test.YtkbiefklilelmaaMR7
import Derived.Test.YtkbiefklilelmaaMR8
import Derived.Maps.AppendAt
import Derived.RangeFuncBox
import Derived.Test.YtkbiefklilelmaaMR5
import Derived.Test.YtkbiefklilelmaaShelf2
import Derived.Test.YtkbiefklilelmaaMR6

/-
  The closure 'add' of match.input.reach: it takes a state and a time into the map, unless they are there, and lays them on the open list.
-/
namespace Go.Proofs.Ytkbiefklilelmaa
open Go.RowKit

def encP (p : Int × Int) : List Value := [.int .i64 p.1, .int .i64 p.2]
def encPs (l : List (Int × Int)) : List Value := l.flatMap encP
theorem encPs_length (l : List (Int × Int)) : (encPs l).length = l.length * 2 := flat_len encP 2 (fun _ => rfl) l
theorem encPs_snoc (l : List (Int × Int)) (p : Int × Int) : encPs (l ++ [p]) = encPs l ++ [.int .i64 p.1, .int .i64 p.2] := by simp [encPs, encP]
theorem infoP : (Try.prog.info? 112).map (fun i => (i.zero, i.size, i.bytes)) = some (some (.agg #[.int .i64 0, .int .i64 0]), 2, 16) := by kernel_rfl

/-- what the two captured variables of 'add' hold: the map of the pairs R, and the open list O -/
structure RSt (W : World) (base Bm B Bo : Nat) (A : Option Addr) (R O : List (Int × Int)) : Prop where
  bm : W.heap[Bm]? = some (.cells #[.map (some B)] 89 (0, 0))
  bo : ∃ c, W.heap[Bo]? = some (.cells #[.slice A O.length c] 113 (0, 0)) ∧ W.ownsRow base 112 2 (.slice A O.length c) O.length (encPs O)
  map : MapP W B R.length (fun s t => (s, t) ∈ R)
  size : base ≤ W.heap.size
/-- all other blocks are as they were -/
def Others (W W' : World) (B Bo : Nat) (A : Option Addr) : Prop := ∀ b, b < W.heap.size → b ≠ Bo → b ≠ B → ob A ≠ some b → W'.heap[b]? = W.heap[b]?
/-- the open list lies where it lay, or in a new block -/
def Moves (W : World) (A A' : Option Addr) : Prop := ob A' = ob A ∨ ∃ g, ob A' = some g ∧ W.heap.size ≤ g
def AddPost (base Bm B Bo : Nat) (A : Option Addr) (R O : List (Int × Int)) (s t : Int) (W : World) (e : Ending) (W' : World) : Prop :=
  e = .returned (.tuple #[]) ∧ Below base W W' ∧ Others W W' B Bo A ∧
    (((s, t) ∈ R ∧ RSt W' base Bm B Bo A R O) ∨ ((s, t) ∉ R ∧ ∃ A', RSt W' base Bm B Bo A' (R ++ [(s, t)]) (O ++ [(s, t)]) ∧ Moves W A A'))

set_option maxRecDepth 100000 in
set_option maxHeartbeats 2000000 in
theorem add_old (base Bm B Bo : Nat) (A : Option Addr) (R O : List (Int × Int)) (s t : Int) (w : World) (h : RSt w base Bm B Bo A R O) (hs : I64 s) (ht : I64 t) (hR : (s, t) ∈ R) :
    Calls Try.prog 83 #[.int .i64 s, .int .i64 t, .pointer (some ⟨Bm, 0, none⟩), .pointer (some ⟨Bo, 0, none⟩)] w (AddPost base Bm B Bo A R O s t w) := by
  have hl := h.map.look hs ht true (by simp [hR])
  obtain ⟨W0, hW0⟩ : ∃ W0 : World, w.alloc (.cells #[.int .i64 s, .int .i64 t] 112) = W0 := ⟨_, rfl⟩
  have hb0 : Below w.heap.size w W0 := by rw [← hW0]; exact (Below.refl _ _).alloc (Nat.le_refl _) _
  have hl0 := (h.map.block (hb0.block _ h.map.lt)).look hs ht true (by simp [hR])
  have c0 := box_cell ((hb0.block _ (box_lt h.bm)).trans h.bm)
  have g0 : W0.heap[w.heap.size]? = some (.cells #[.int .i64 s, .int .i64 t] 112 (0, 0)) := by rw [← hW0]; exact heap_alloc_new w _
  obtain ⟨k0, k1, _, _⟩ := box2 g0
  have HP := hide (show AddPost base Bm B Bo A R O s t w (.returned (.tuple #[])) W0 from by
    refine ⟨rfl, hb0.mono h.size, fun b hb _ _ _ => hb0.block b hb, .inl ⟨hR, (hb0.block _ (box_lt h.bm)).trans h.bm, ?_, h.map.block (hb0.block _ h.map.lt), Nat.le_trans h.size hb0.size⟩⟩
    obtain ⟨c, h1, h2⟩ := h.bo
    exact ⟨c, (hb0.block _ (box_lt h1)).trans h1, own_block h2 fun g hg => hb0.block g (own_ob h2 g hg).2⟩)
  have HW0 := hide hW0
  clear hW0 hb0 g0 hl h hR hs ht
  unfold pairV at hl0
  go_enter Try.func83, Try.ntmps83
  go_upto_region 1 with (fail)
  rw [HW0.out]
  go_wp2_with fail
  go_end0
  exact HP.out

theorem box_ne {w : World} {M N : Nat} {v u : Value} {t t' : TypeId} (h : w.heap[M]? = some (.cells #[v] t (0, 0))) (h' : w.heap[N]? = some (.cells #[u] t' (0, 0))) (hne : t ≠ t') : M ≠ N := by
  rintro rfl
  rw [h] at h'
  injection h' with h'
  injection h' with _ h'
  exact hne h'
theorem row_ne {w : World} {base : Nat} {A : Option Addr} {c n : Nat} {xs : List Value} {e : TypeId} {size N : Nat} {o : Obj} (h : w.ownsRow base e size (.slice A n c) n xs) (h' : w.heap[N]? = some o) (hne : ∀ cur, o ≠ .cells cur e (0, 0)) : ob A ≠ some N := by
  intro hg
  rcases h.2 with ⟨h2, _⟩ | ⟨g, cap, cur, h2, h3, h4, _⟩
  · rw [← ob_eq A n c, h2] at hg; cases hg
  · rw [← ob_eq A n c, h2] at hg
    have : g = N := by simpa [Value.ownBlock] using hg
    subst this
    rw [h4] at h'
    injection h' with h'
    exact hne cur h'.symm
theorem typesP : 89 ≠ 113 ∧ 113 ≠ 112 ∧ 89 ≠ 112 := by decide

/-- behind the store into the map -/
def HqP (V : World) (K base Bm B Bo : Nat) (A : Option Addr) (cO : Nat) (R O : List (Int × Int)) (s t : Int) : Prop :=
  (V.cell? ⟨K, 0, none⟩ = some (.int .i64 s) ∧ V.cell? ⟨K, 1, none⟩ = some (.int .i64 t) ∧ V.cell? ⟨Bo, 0, none⟩ = some (.slice A O.length cO)) ∧ V.heap[Bo]? = some (.cells #[.slice A O.length cO] 113 (0, 0)) ∧
      V.heap[Bm]? = some (.cells #[.map (some B)] 89 (0, 0)) ∧ V.ownsRow base 112 2 (.slice A O.length cO) O.length (encPs O) ∧ MapP V B (R ++ [(s, t)]).length (fun s' t' => (s', t') ∈ R ++ [(s, t)]) ∧ base ≤ V.heap.size

theorem add_fin (base Bm B Bo : Nat) (A : Option Addr) (R O : List (Int × Int)) (s t : Int) (w W0 V V3 : World) (cO g c : Nat) (h : RSt w base Bm B Bo A R O) (hbo : base ≤ Bo) (hB : base ≤ B) (hR : (s, t) ∉ R) (hb0 : Below w.heap.size w W0) (hg3 : W0.grownBy V (some B))
    (hq : HqP V w.heap.size base Bm B Bo A cO R O s t) (hown3 : V3.ownsRow base 112 2 (.slice (some ⟨g, 0, none⟩) (O.length + 1) c) (O.length + 1) (encPs O ++ [.int .i64 s, .int .i64 t]))
    (hg4 : (V.alloc (.cells #[.int .i64 s, .int .i64 t] 112)).grownBy V3 (Value.slice A O.length cO).ownBlock) (hat : (Value.slice (some ⟨g, 0, none⟩) (O.length + 1) c).ownBlock = (Value.slice A O.length cO).ownBlock ∨ (Value.slice (some ⟨g, 0, none⟩) (O.length + 1) c).ownBlock = some (V.heap.size + 1)) :
    V3.cell? ⟨Bo, 0, none⟩ = some (.slice A O.length cO) ∧ V3.frozen? ⟨Bo, 0, none⟩ = false ∧ AddPost base Bm B Bo A R O s t w (.returned (.tuple #[])) (V3.setCell ⟨Bo, 0, none⟩ (.slice (some ⟨g, 0, none⟩) (O.length + 1) c)) := by
  obtain ⟨_, qo, qm, qown, qmap, qsz⟩ := hq
  rw [ob_eq] at hg4 hat
  have hzw : w.heap.size ≤ V.heap.size := Nat.le_trans hb0.size hg3.size
  have no : ob A ≠ some Bo := row_ne qown qo (fun cur e => by injection e with _ e; exact typesP.2.1 e)
  have nm : ob A ≠ some Bm := row_ne qown qm (fun cur e => by injection e with _ e; exact typesP.2.2 e)
  have nB : ob A ≠ some B := by
    obtain ⟨es, clock, h1⟩ := qmap.obj
    exact row_ne qown h1 (fun cur e => by cases e)
  have fo : V3.heap[Bo]? = _ := box_grown (box_alloc qo) hg4 no
  have fm : V3.heap[Bm]? = _ := box_grown (box_alloc qm) hg4 nm
  have hne : Bm ≠ Bo := box_ne qm qo typesP.1
  have neB : B ≠ Bo := by
    rintro rfl
    obtain ⟨es, clock, h1⟩ := qmap.obj
    rw [h1] at qo; cases qo
  have no3 : ob (some ⟨g, 0, none⟩) ≠ some Bo := row_ne hown3 fo (fun cur e => by injection e with _ e; exact typesP.2.1 e)
  refine ⟨box_cell fo, box_frozen fo, rfl, ?_, ?_, .inr ⟨hR, some ⟨g, 0, none⟩, ⟨box_set fm hne, ⟨c, ?_, ?_⟩, ?_, ?_⟩, ?_⟩⟩
  · refine (((((hb0.mono h.size).grown hg3 (Nat.le_trans h.size hb0.size) (fun k e => by injection e with e; omega)).alloc qsz _).grown hg4 (by simp; omega) fun k e => ?_).setCell (p := ⟨Bo, 0, none⟩) hbo _)
    exact (own_ob qown k e).1
  · intro b hb hbo' hbB hbA
    rw [Below.heap_setCell _ _ _ _ hbo']
    have h1 : b < W0.heap.size := Nat.lt_of_lt_of_le hb hb0.size
    have h2 : b < V.heap.size := Nat.lt_of_lt_of_le h1 hg3.size
    rw [hg4.block b (by simp; omega) (fun e => hbA e.symm), Below.heap_alloc _ _ _ h2, hg3.block b h1 (fun e => hbB (by injection e)), hb0.block b hb]
  · rw [List.length_append]; exact box_set1 fo
  · rw [List.length_append, encPs_snoc]
    exact own_block hown3 fun g' hg' => Below.heap_setCell _ _ _ _ (fun e => no3 (by rw [hg', e]))
  · have hB2 : B < V.heap.size := qmap.lt
    refine qmap.block ?_
    rw [Below.heap_setCell _ _ _ _ neB, hg4.block B (by simp; omega) (fun e => nB e.symm), Below.heap_alloc _ _ _ hB2]
  · have := hg4.size
    simp at this ⊢
    omega
  · rcases hat with h1 | h1
    · rw [ob_eq] at h1; exact .inl h1
    · exact .inr ⟨_, h1, by omega⟩

set_option maxRecDepth 100000 in
set_option maxHeartbeats 2000000 in
theorem add_new (base Bm B Bo : Nat) (A : Option Addr) (R O : List (Int × Int)) (s t : Int) (w : World) (h : RSt w base Bm B Bo A R O) (hbo : base ≤ Bo) (hB : base ≤ B) (hs : I64 s) (ht : I64 t) (hR : (s, t) ∉ R) (hRl : R.length ≤ 1000000) (hOl : O.length ≤ 1000000) :
    Calls Try.prog 83 #[.int .i64 s, .int .i64 t, .pointer (some ⟨Bm, 0, none⟩), .pointer (some ⟨Bo, 0, none⟩)] w (AddPost base Bm B Bo A R O s t w) := by
  obtain ⟨W0, hW0⟩ : ∃ W0 : World, w.alloc (.cells #[.int .i64 s, .int .i64 t] 112) = W0 := ⟨_, rfl⟩
  have hb0 : Below w.heap.size w W0 := by rw [← hW0]; exact (Below.refl _ _).alloc (Nat.le_refl _) _
  have hm0 := h.map.block (hb0.block _ h.map.lt)
  have hl0 := hm0.look hs ht false (by simp [hR])
  have gm0 := (hb0.block _ (box_lt h.bm)).trans h.bm
  have c0 := box_cell gm0
  have g0 : W0.heap[w.heap.size]? = some (.cells #[.int .i64 s, .int .i64 t] 112 (0, 0)) := by rw [← hW0]; exact heap_alloc_new w _
  obtain ⟨k0, k1, _, _⟩ := box2 g0
  obtain ⟨cO, hbo0, hown⟩ := h.bo
  have gbo := (hb0.block _ (box_lt hbo0)).trans hbo0
  have hown0 := own_block (w' := W0) hown fun g hg => hb0.block g (own_ob hown g hg).2
  obtain ⟨D, hD, hDm⟩ := hm0
  have hn : R.length < maxLen := by unfold maxLen; omega
  have hbB : Below base w W0 := hb0.mono h.size
  have HKEY := hide (keyOf_pair hs ht)
  have HVAL := hide (plainElem_bool (H := Unit) Try.underlying4 true)
  have hzB : B < W0.heap.size := hD.lt
  have hne1 : w.heap.size ≠ B := fun e => by obtain ⟨es, clock, h1⟩ := h.map.obj; have := (Array.getElem?_eq_some_iff.1 h1).1; omega
  have hne2 : Bo ≠ B := fun e => by
    obtain ⟨es, clock, h1⟩ := h.map.obj
    rw [← e, hbo0] at h1
    cases h1
  have hne3 : Bm ≠ B := fun e => by
    obtain ⟨es, clock, h1⟩ := h.map.obj
    rw [← e, h.bm] at h1
    cases h1
  have HPUT := hide (show ∀ V : World, V.ownsMap Try.prog 112 (plainElem Try.prog 4) B (R.length + 1) (D.put (kL s t) (.lit (.bool true))) → W0.grownBy V (some B) →
      HqP V w.heap.size base Bm B Bo A cO R O s t from fun V h3 hg => by
    obtain ⟨q0, q1, _, _⟩ := box2 (box_grown g0 hg (by rintro e; injection e with e; exact hne1 e.symm))
    have q2 := box_grown gbo hg (by rintro e; injection e with e; exact hne2 e.symm)
    refine ⟨⟨q0, q1, box_cell q2⟩, q2, box_grown gm0 hg (by rintro e; injection e with e; exact hne3 e.symm), own_block hown0 fun g hgb => hg.block g (own_ob hown0 g hgb).2 ?_, ?_, Nat.le_trans h.size (Nat.le_trans hb0.size hg.size)⟩
    · rintro e
      injection e with e
      subst e
      obtain ⟨es, clock, h1⟩ := h.map.obj
      have h2 := (hb0.block _ h.map.lt).trans h1
      exact row_ne hown0 h2 (fun cur e => by cases e) hgb
    · have := MapP.put hs ht h3 hD hDm
      rw [List.length_append]
      exact this.congr fun s' t' => by simp)
  have HFIN := hide (show ∀ (V V3 : World) (g c : Nat), W0.grownBy V (some B) → HqP V w.heap.size base Bm B Bo A cO R O s t → V3.ownsRow base 112 2 (.slice (some ⟨g, 0, none⟩) (O.length + 1) c) (O.length + 1) (encPs O ++ [.int .i64 s, .int .i64 t]) →
      (V.alloc (.cells #[.int .i64 s, .int .i64 t] 112)).grownBy V3 (Value.slice A O.length cO).ownBlock → ((Value.slice (some ⟨g, 0, none⟩) (O.length + 1) c).ownBlock = (Value.slice A O.length cO).ownBlock ∨ (Value.slice (some ⟨g, 0, none⟩) (O.length + 1) c).ownBlock = some (V.heap.size + 1)) →
      V3.cell? ⟨Bo, 0, none⟩ = some (.slice A O.length cO) ∧ V3.frozen? ⟨Bo, 0, none⟩ = false ∧ AddPost base Bm B Bo A R O s t w (.returned (.tuple #[])) (V3.setCell ⟨Bo, 0, none⟩ (.slice (some ⟨g, 0, none⟩) (O.length + 1) c)) from fun V V3 g c hg3 hq hown3 hg4 hat => add_fin base Bm B Bo A R O s t w W0 V V3 cO g c h hbo hB hR hb0 hg3 hq hown3 hg4 hat)
  have HW0 := hide hW0
  obtain ⟨i0, hi0, hz0, hz1, hz2⟩ := info_parts infoP
  have HI := hide hi0
  have HZ0 := hide hz0
  have HZ1 := hide hz1
  have HZ2 := hide hz2
  have HH := hide h
  have HO := hide hOl
  clear hi0 hz0 hz1 hz2 hW0 hDm h hbo0 hown gm0 g0 gbo hown0 hOl hne1 hne2 hne3 hbB
  unfold pairV at hl0
  go_enter Try.func83, Try.ntmps83
  go_upto_region 1 with (fail)
  rw [HW0.out]
  go_upto_region 3 with ((at_mapUpdate; (refine wpList_mapUpdate_own _ rfl _ _ _ 89 rfl 112 4 pairKey Try.underlying89 _ B R.length D rfl hD hn _ _ (kL s t) rfl rfl HKEY.out (.lit (.bool true)) [] HVAL.out ?_); intro V hm3 hg3; have HQ := hide (HPUT.out V hm3 hg3); obtain ⟨q0, q1, q2⟩ := HQ.out.1; have HG3 := hide hg3; clear hm3 hg3 c0 k0 k1 hl0))
  go_wp2_with (at_builtin; (refine wpList_append_own_at _ rfl _ _ 113 rfl base 112 i0 _ 2 16 Try.underlying113 HI.out HZ0.out HZ1.out HZ2.out rfl (by decide) _ O.length (encPs O) rfl (HQ.out.2.2.2.1.alloc _) ⟨V.heap.size, 0, none⟩ 1 1 [.int .i64 s, .int .i64 t] rfl rfl ?c1 ?c2 ?c3 ?c4 ?c5 ?_))
  case c1 => exact fun j u hu => by rw [cells_push (cs := #[.int .i64 s, .int .i64 t]) (t := 112) rfl]; simpa using hu
  case c2 => simp [Value.oneCell']
  case c3 => have := HO.out; unfold maxLen; omega
  case c4 => have := HO.out; omega
  case c5 => have := HQ.out.2.2.2.2.2; simp; omega
  intro v' V3 hown3 hg4 _ hat4
  obtain ⟨g4, c4, rfl⟩ := ownsRow_succ hown3
  have HF := hide (HFIN.out V V3 g4 c4 HG3.out HQ.out hown3 hg4 hat4)
  have q3 := HF.out.1
  have q4 := HF.out.2.1
  clear hown3 hg4 hat4 q0 q1 q2
  go_wp2_with fail
  go_end0
  exact HF.out.2.2

theorem madd_any (base Bm B Bo : Nat) (A : Option Addr) (R O : List (Int × Int)) (s t : Int) (w : World) (h : RSt w base Bm B Bo A R O) (hbo : base ≤ Bo) (hB : base ≤ B) (hs : I64 s) (ht : I64 t) (hRl : R.length ≤ 1000000) (hOl : O.length ≤ 1000000) :
    Calls Try.prog 83 #[.int .i64 s, .int .i64 t, .pointer (some ⟨Bm, 0, none⟩), .pointer (some ⟨Bo, 0, none⟩)] w (AddPost base Bm B Bo A R O s t w) := by
  by_cases hR : (s, t) ∈ R
  · exact add_old base Bm B Bo A R O s t w h hs ht hR
  · exact add_new base Bm B Bo A R O s t w h hbo hB hs ht hR hRl hOl

end Go.Proofs.Ytkbiefklilelmaa

/-
  slices.BinarySearch of a sorted list of ints, also of an empty one.
-/
namespace Go.Proofs.Ytkbiefklilelmaa
open Go.RowKit

set_option maxRecDepth 100000 in
set_option maxHeartbeats 1000000 in
theorem bin_nil (A : Option Addr) (c : Nat) (x : Int) (w : World) :
    Calls Try.prog 84 #[.slice A 0 c, .int .i64 x] w fun e w' => e = .returned (.tuple #[.int .i64 0, .bool false]) ∧ ∃ q, w' = w.drewN q := by
  go_enter Try.func84, Try.ntmps84
  go_wp2
  refine wp_loop_rounds 1 ?_
  rw [rounds_succ]
  go_wp2
  go_ret2
  exact ⟨rfl, 0, rfl⟩

def BinPost (l : List Int) (x : Int) (w : World) (e : Ending) (w' : World) : Prop := e = .returned (.tuple #[.int .i64 (l.countP (· < x) : Nat), .bool (l.contains x)]) ∧ ∃ q, w' = w.drewN q
theorem bin_any (A : Option Addr) (c : Nat) (l : List Int) (x : Int) (w : World) (h : IntsAt w w.heap.size A l) (hl : l.length ≤ 1000000) (hs : l.Pairwise (· < ·)) :
    Calls Try.prog 84 #[.slice A l.length c, .int .i64 x] w (BinPost l x w) := by
  by_cases hne : l = []
  · subst hne
    exact (bin_nil A c x w).mono fun e w' h => ⟨h.1, h.2⟩
  · obtain ⟨b, off, rfl, hb, hc⟩ := h hne
    refine (Try.slices_BinarySearch_int b off l.length c l x w (Nat.le_refl _) (by omega) (fun j hj => ?_) ?_).mono fun e w' h => ?_
    · rw [hc j l[j] (List.getElem?_eq_getElem hj)]
      simp [List.getD_eq_getElem?_getD, hj]
    · rw [List.take_length]
      exact hs.imp fun h => Int.le_of_lt h
    · rw [List.take_length] at h
      exact h

end Go.Proofs.Ytkbiefklilelmaa
