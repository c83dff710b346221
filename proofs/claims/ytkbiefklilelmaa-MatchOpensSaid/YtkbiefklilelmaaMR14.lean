/-
  Several texts in one: ReachI. Each says at its head what it holds.
-/
import Derived.Test.YtkbiefklilelmaaMR9
import Derived.Test.YtkbiefklilelmaaMR11
import Derived.Test.YtkbiefklilelmaaMR12
import Derived.Test.YtkbiefklilelmaaMR13

/-
  Words for the walk of match.input.reach: its boxes, what its loops keep.
-/
namespace Go.Proofs.Ytkbiefklilelmaa
open Go.RowKit Go.Shelf

/-- the map's block, in the end -/
def ReachPost (x : Inp) (st en : Int) (w : World) (e : Ending) (w' : World) : Prop :=
  ∃ B n : Nat, e = .returned (.map (some B)) ∧ Below w.heap.size w w' ∧ w.heap.size ≤ B ∧ n ≤ 960 ∧ MapP w' B n (fun s t => Rch x st en s t)

/-- the boxes of reach: the input, the map's variable, the open list, the closure -/
structure RBx (W : World) (N : Nat) (x : MIn) (A : Option Addr) (R O : List (Int × Int)) : Prop where
  x : W.heap[N]? = some (.cells (encX x).toArray 83 (0, 0))
  a : W.heap[N + 1 + 1 + 1 + 1]? = some (.cells #[.func (.func 83) #[] #[.pointer (some ⟨N + 1 + 1, 0, none⟩), .pointer (some ⟨N + 1 + 1 + 1, 0, none⟩)]] 114 (0, 0))
  r : RSt W N (N + 1 + 1) (N + 1) (N + 1 + 1 + 1) A R O
theorem RSt.below {W W' : World} {N Bm B Bo : Nat} {A : Option Addr} {R O : List (Int × Int)} (h : RSt W N Bm B Bo A R O) (hb : Below W.heap.size W W') : RSt W' N Bm B Bo A R O := by
  obtain ⟨c, h1, h2⟩ := h.bo
  exact ⟨(hb.block _ (box_lt h.bm)).trans h.bm, ⟨c, (hb.block _ (box_lt h1)).trans h1, own_block h2 fun g hg => hb.block g (own_ob h2 g hg).2⟩, h.map.block (hb.block _ h.map.lt), Nat.le_trans h.size hb.size⟩
theorem RBx.below {W W' : World} {N : Nat} {x : MIn} {A : Option Addr} {R O : List (Int × Int)} (h : RBx W N x A R O) (hb : Below W.heap.size W W') : RBx W' N x A R O :=
  ⟨(hb.block _ (box_lt h.x)).trans h.x, (hb.block _ (box_lt h.a)).trans h.a, h.r.below hb⟩
theorem typesR : 83 ≠ 112 ∧ 114 ≠ 112 ∧ 81 ≠ 112 ∧ 3 ≠ 112 ∧ 36 ≠ 112 := by decide
/-- a block that 'add' leaves alone -/
theorem RSt.other {W : World} {N Bm B Bo : Nat} {A : Option Addr} {R O : List (Int × Int)} (h : RSt W N Bm B Bo A R O) {k : Nat} {cs : Array Value} {t : TypeId} (hk : W.heap[k]? = some (.cells cs t (0, 0))) (ht : t ≠ 112) : ob A ≠ some k := by
  obtain ⟨c, _, h2⟩ := h.bo
  exact row_ne h2 hk (fun cur e => by injection e with _ e; exact ht e)
theorem RSt.ne_map {W : World} {N Bm B Bo : Nat} {A : Option Addr} {R O : List (Int × Int)} (h : RSt W N Bm B Bo A R O) {k : Nat} {cs : Array Value} {t : TypeId} (hk : W.heap[k]? = some (.cells cs t (0, 0))) : k ≠ B := by
  rintro rfl
  obtain ⟨es, clock, h1⟩ := h.map.obj
  rw [h1] at hk
  cases hk
/-- behind 'add' -/
theorem add_out {x : MIn} {N : Nat} {A : Option Addr} {R O : List (Int × Int)} {s t : Int} {W W' : World} {e : Ending} (h : RBx W N x A R O) (hp : AddPost N (N + 1 + 1) (N + 1) (N + 1 + 1 + 1) A R O s t W e W') :
    ∃ A' R' O', RBx W' N x A' R' O' ∧ Added s t R O R' O' ∧ Moves W A A' ∧ Below N W W' ∧ ∀ k cs t', W.heap[k]? = some (.cells cs t' (0, 0)) → k ≠ N + 1 + 1 + 1 → t' ≠ 112 ∨ ob A ≠ some k → W'.heap[k]? = some (.cells cs t' (0, 0)) := by
  obtain ⟨_, hb, ho, hc⟩ := hp
  have keep : ∀ k cs t', W.heap[k]? = some (.cells cs t' (0, 0)) → k ≠ N + 1 + 1 + 1 → t' ≠ 112 ∨ ob A ≠ some k → W'.heap[k]? = some (.cells cs t' (0, 0)) := fun k cs t' hk hn ht =>
    (ho k (box_lt hk) hn (h.r.ne_map hk) (ht.elim (fun h1 => h.r.other hk h1) id)).trans hk
  have kx := keep _ _ _ h.x (by omega) (.inl typesR.1)
  have ka := keep _ _ _ h.a (by omega) (.inl typesR.2.1)
  rcases hc with ⟨hm, hr⟩ | ⟨hn, A', hr, hmv⟩
  · exact ⟨A, R, O, ⟨kx, ka, hr⟩, .inl ⟨hm, rfl, rfl⟩, .inl rfl, hb, keep⟩
  · exact ⟨A', _, _, ⟨kx, ka, hr⟩, .inr ⟨hn, rfl, rfl⟩, hmv, hb, keep⟩

theorem new_at {w W : World} {o : Obj} (h : w.alloc o = W) : W.heap[w.heap.size]? = some o := by rw [← h]; exact heap_alloc_new w o
theorem reach_start {w W0 : World} {x : MIn} (h : ((((w.alloc (.cells (encX x).toArray 83)).alloc (.map #[] 0)).alloc (.cells #[.map (some (w.heap.size + 1))] 89)).alloc (.cells #[.slice none 0 0] 113)).alloc (.cells #[.func (.func 83) #[] #[.pointer (some ⟨w.heap.size + 1 + 1, 0, none⟩), .pointer (some ⟨w.heap.size + 1 + 1 + 1, 0, none⟩)]] 114) = W0) :
    Below w.heap.size w W0 ∧ RBx W0 w.heap.size x none [] [] := by
  obtain ⟨W1, h1⟩ : ∃ W1, w.alloc (.cells (encX x).toArray 83) = W1 := ⟨_, rfl⟩
  obtain ⟨W2, h2⟩ : ∃ W2, W1.alloc (.map #[] 0) = W2 := ⟨_, rfl⟩
  obtain ⟨W3, h3⟩ : ∃ W3, W2.alloc (.cells #[.map (some (w.heap.size + 1))] 89) = W3 := ⟨_, rfl⟩
  obtain ⟨W4, h4⟩ : ∃ W4, W3.alloc (.cells #[.slice none 0 0] 113) = W4 := ⟨_, rfl⟩
  rw [h1, h2, h3, h4] at h
  have z1 : W1.heap.size = w.heap.size + 1 := by rw [← h1]; simp
  have z2 : W2.heap.size = w.heap.size + 1 + 1 := by rw [← h2]; simp [z1]
  have z3 : W3.heap.size = w.heap.size + 1 + 1 + 1 := by rw [← h3]; simp [z2]
  have z4 : W4.heap.size = w.heap.size + 1 + 1 + 1 + 1 := by rw [← h4]; simp [z3]
  have z5 : W0.heap.size = w.heap.size + 1 + 1 + 1 + 1 + 1 := by rw [← h]; simp [z4]
  have b1 : Below w.heap.size w W1 := by rw [← h1]; exact (Below.refl _ _).alloc (Nat.le_refl _) _
  have b2 : Below W1.heap.size W1 W2 := by rw [← h2]; exact (Below.refl _ _).alloc (Nat.le_refl _) _
  have b3 : Below W2.heap.size W2 W3 := by rw [← h3]; exact (Below.refl _ _).alloc (Nat.le_refl _) _
  have b4 : Below W3.heap.size W3 W4 := by rw [← h4]; exact (Below.refl _ _).alloc (Nat.le_refl _) _
  have b5 : Below W4.heap.size W4 W0 := by rw [← h]; exact (Below.refl _ _).alloc (Nat.le_refl _) _
  have b35 := bstep b4 b5
  have b25 := bstep b3 b35
  have b15 := bstep b2 b25
  have g1 := new_at h1
  have m2 : MapP W2 W1.heap.size 0 (fun _ _ => False) := by rw [← h2]; exact MapP.made W1
  have g3 := new_at h3
  have g4 := new_at h4
  have g5 := new_at h
  rw [z1] at m2
  rw [z2] at g3
  rw [z3] at g4
  rw [z4] at g5
  refine ⟨bstep b1 b15, (b15.block _ (by omega)).trans g1, g5, (b35.block _ (by omega)).trans g3, ⟨0, (b5.block _ (by omega)).trans g4, World.ownsRow_nil W0 _ _ 2⟩, ?_, by omega⟩
  exact (m2.block (b25.block _ (by omega))).congr fun s t => by simp

/-- an edge with the list of its event, in memory -/
structure EdgeAt (w : World) (x : MIn) (k be oe bv ov j : Nat) (s : SlI) (f t wh lo hi : Int) : Prop where
  ax : x.a.AX = some ⟨be, oe, none⟩
  av : x.AV = some ⟨bv, ov, none⟩
  get : x.inp.edges[k]? = some ⟨f, t, (j : Int), wh, lo, hi⟩
  e0 : w.cell? ⟨be, oe + k * 6, none⟩ = some (.int .i64 f)
  e1 : w.cell? ⟨be, oe + k * 6 + 1, none⟩ = some (.int .i64 t)
  e2 : w.cell? ⟨be, oe + k * 6 + 2, none⟩ = some (.int .i64 (j : Int))
  e3 : w.cell? ⟨be, oe + k * 6 + 3, none⟩ = some (.int .i64 wh)
  e4 : w.cell? ⟨be, oe + k * 6 + 4, none⟩ = some (.int .i64 lo)
  e5 : w.cell? ⟨be, oe + k * 6 + 5, none⟩ = some (.int .i64 hi)
  v0 : w.cell? ⟨bv, ov + j, none⟩ = some (.slice s.A s.xs.length s.c)
  ints : IntsAt w w.heap.size s.A s.xs
  jl : j < x.ev.length
  nth : nth x.inp.ev (j : Int) = s.xs
  get2 : x.ev[j]? = some s
  len : s.xs.length ≤ 24
  incr : Incr s.xs
  ok : EdgOk x.a.fin.length x.ev.length x.cs.length ⟨f, t, (j : Int), wh, lo, hi⟩
  be : be < w.heap.size
  bv : bv < w.heap.size
theorem edge_at {x : MIn} (ok : MOk x) {w : World} (hm : MAt w x) {k : Nat} (hk : k < x.a.edges.length) : ∃ (be oe bv ov j : Nat) (s : SlI) (f t wh lo hi : Int), EdgeAt w x k be oe bv ov j s f t wh lo hi := by
  obtain ⟨be, oe, e1, hbe, hc⟩ := hm.aut.edges.edg_at hk
  obtain ⟨j, hj, e2, e3⟩ := ok.event (List.getElem_mem hk)
  obtain ⟨bv, ov, e4, hbv, hv, hi⟩ := hm.ev.at_ hj
  have ho := ok.edge _ (List.getElem_mem hk)
  have hs := ok.evs _ (List.getElem_mem hj)
  have hx : x.a.edges[k]? = some x.a.edges[k] := List.getElem?_eq_getElem hk
  generalize x.a.edges[k] = e at *
  obtain ⟨f, t, v, wh, lo, hi'⟩ := e
  dsimp only at *
  subst e2
  obtain ⟨c0, c1, c2, c3, c4, c5⟩ := hc
  exact ⟨be, oe, bv, ov, j, x.ev[j], f, t, wh, lo, hi', e1, e4, hx, c0, c1, c2, c3, c4, c5, hv, hi, hj, e3, List.getElem?_eq_getElem hj, hs.1, hs.2, ho, hbe, hbv⟩

def BaseRel (x : MIn) (st : Int) (w : World) (i : Value) (wr : World) : Prop := ∃ (k : Nat) (A : Option Addr) (R O : List (Int × Int)), k ≤ x.a.edges.length ∧ i = .int .i64 k ∧ BaseSt x.inp st x.en k R O ∧ RBx wr w.heap.size x A R O ∧ Below w.heap.size w wr

def OutRel (x : MIn) (st : Int) (w : World) (g : Nat) (ds : List Deferred) (wr : World) : Prop := ∃ (Ds : List Nat) (A : Option Addr) (R O : List (Int × Int)), ds = mks Ds ∧ Marked wr w.heap.size Ds ∧ OutSt x.inp st x.en R O ∧ RBx wr w.heap.size x A R O ∧ Below w.heap.size w wr ∧ 2 * (960 - R.length) + O.length ≤ g
def EdgRel (x : MIn) (st : Int) (w : World) (p : Int × Int) (m Bt r0 k g : Nat) (ds : List Deferred) (wr : World) : Prop := ∃ (Ds : List Nat) (A : Option Addr) (R O : List (Int × Int)), ds = mks Ds ∧ Marked wr w.heap.size Ds ∧ EdgSt x.inp st x.en p m k R O ∧ RBx wr w.heap.size x A R O ∧
  wr.heap[Bt]? = some (.cells #[.int .i64 p.1, .int .i64 p.2] 112 (0, 0)) ∧ ob A ≠ some Bt ∧ Below w.heap.size w wr ∧ r0 ≤ R.length ∧ k ≤ x.a.edges.length ∧ g = x.a.edges.length - k
theorem rbx_pop {W : World} {N g0 cO Bt : Nat} {x : MIn} {R O1 : List (Int × Int)} {p : Int × Int} {cs : Array Value} (h : RBx W N x (some ⟨g0, 0, none⟩) R (O1 ++ [p])) (ho : W.ownsRow N 112 2 (.slice (some ⟨g0, 0, none⟩) O1.length cO) O1.length (encPs O1)) (hb : W.heap[Bt]? = some (.cells cs 112 (0, 0))) (hlt : g0 < Bt) :
    W.frozen? ⟨N + 1 + 1 + 1, 0, none⟩ = false ∧ RBx (W.setCell ⟨N + 1 + 1 + 1, 0, none⟩ (.slice (some ⟨g0, 0, none⟩) O1.length cO)) N x (some ⟨g0, 0, none⟩) R O1 ∧ (W.setCell ⟨N + 1 + 1 + 1, 0, none⟩ (.slice (some ⟨g0, 0, none⟩) O1.length cO)).heap[Bt]? = some (.cells cs 112 (0, 0)) ∧ ob (some ⟨g0, 0, none⟩) ≠ some Bt := by
  obtain ⟨c, hbo, hown⟩ := h.r.bo
  have ng : ob (some ⟨g0, 0, none⟩) ≠ some (N + 1 + 1 + 1) := h.r.other hbo (by exact typesP.2.1)
  have nB : N + 1 ≠ N + 1 + 1 + 1 := by omega
  refine ⟨box_frozen hbo, ⟨box_set h.x (by omega), box_set h.a (by omega), box_set h.r.bm (by omega), ⟨cO, box_set1 hbo, own_block ho fun g' hg' => Below.heap_setCell _ _ _ _ fun e => ng (by rw [hg', e])⟩, h.r.map.block (Below.heap_setCell _ _ _ _ nB), by have := h.r.size; simpa using this⟩, ?_, fun e => by simp [ob, Value.ownBlock] at e; omega⟩
  rw [Below.heap_setCell _ _ _ _ (fun e => ?_)]
  · exact hb
  · have h1 : Bt = N + 1 + 1 + 1 := e
    rw [h1, hbo] at hb
    injection hb with hb
    injection hb with _ hb
    exact typesP.2.1 hb
def ReachS (x : Inp) (st en : Int) (n : Nat) (w W : World) : Prop := Below w.heap.size w W ∧ MapP W (w.heap.size + 1) n (fun s t => Rch x st en s t)
theorem ReachS.put {x : Inp} {st en : Int} {n D : Nat} {w W : World} (h : ReachS x st en n w W) (hD : w.heap.size ≤ D) (h2 : W.heap[D]? = some (.deferred (some []))) : ReachS x st en n w (W.putObj D (.deferred none)) := by
  refine ⟨h.1.grown (grownBy_putObj' W D _) h.1.size (fun k e => by cases e; exact hD), h.2.block (World.putObj_heap_other fun e => ?_)⟩
  obtain ⟨es, clock, h3⟩ := h.2.obj
  rw [e, h2] at h3
  cases h3
theorem own_pop {w : World} {base : Nat} {A : Option Addr} {c : Nat} {O : List (Int × Int)} {p : Int × Int} (h : w.ownsRow base 112 2 (.slice A (O ++ [p]).length c) (O ++ [p]).length (encPs (O ++ [p]))) :
    ∃ g, A = some ⟨g, 0, none⟩ ∧ base ≤ g ∧ g < w.heap.size ∧ O.length + 1 ≤ c ∧ w.cell? ⟨g, O.length * 2, none⟩ = some (.int .i64 p.1) ∧ w.cell? ⟨g, O.length * 2 + 1, none⟩ = some (.int .i64 p.2) ∧ w.ownsRow base 112 2 (.slice A O.length c) O.length (encPs O) := by
  rcases h.2 with ⟨_, h0⟩ | ⟨g, cap, cur, h2, h3, h4, h5, h6, h7, h8⟩
  · simp at h0
  · injection h2 with h2 _ h2'
    subst h2 h2'
    have hl : (O ++ [p]).length = O.length + 1 := by simp
    have he : encPs (O ++ [p]) = encPs O ++ [.int .i64 p.1, .int .i64 p.2] := encPs_snoc O p
    have hel := encPs_length O
    refine ⟨g, rfl, h3, (Array.getElem?_eq_some_iff.1 h4).1, by omega, ?_, ?_, encPs_length O, .inr ⟨g, _, cur, rfl, h3, h4, by omega, h6, h7, ?_⟩⟩
    · rw [World.ownsRow.cellAt h _ (by rw [hl]; omega), he, List.getElem?_append_right (by omega), hel, Nat.sub_self]; rfl
    · rw [World.ownsRow.cellAt h _ (by rw [hl]; omega), he, List.getElem?_append_right (by omega), hel]
      rw [show O.length * 2 + 1 - O.length * 2 = 1 by omega]; rfl
    · have h9 := congrArg (List.take (O.length * 2)) h8
      rw [hl, List.take_take, Nat.min_eq_left (by omega)] at h9
      rw [h9, he, List.take_append_of_le_length (by omega), ← hel, List.take_length]


/-- what is kept of the boxes when no block of cells, nor the map, turns -/
theorem RBx.keep {W W' : World} {N : Nat} {x : MIn} {A : Option Addr} {R O : List (Int × Int)} (h : RBx W N x A R O) (hk : ∀ (k : Nat) (o : Obj), W.heap[k]? = some o → (∃ cs t, o = .cells cs t (0, 0)) ∨ k = N + 1 → W'.heap[k]? = some o) (hs : W.heap.size ≤ W'.heap.size) : RBx W' N x A R O := by
  obtain ⟨c, h1, h2⟩ := h.r.bo
  refine ⟨hk _ _ h.x (.inl ⟨_, _, rfl⟩), hk _ _ h.a (.inl ⟨_, _, rfl⟩), hk _ _ h.r.bm (.inl ⟨_, _, rfl⟩), ⟨c, hk _ _ h1 (.inl ⟨_, _, rfl⟩), own_block h2 fun g hg => ?_⟩, h.r.map.block ?_, Nat.le_trans h.r.size hs⟩
  · rcases h2.2 with ⟨h3, _⟩ | ⟨g', cap, cur, h3, _, h4, _⟩
    · rw [← ob_eq A O.length c, h3] at hg; cases hg
    · rw [← ob_eq A O.length c, h3] at hg
      have : g' = g := by simpa [Value.ownBlock] using hg
      subst this
      rw [h4]
      exact hk _ _ h4 (.inl ⟨_, _, rfl⟩)
  · obtain ⟨es, clock, h3⟩ := h.r.map.obj
    rw [h3]
    exact hk _ _ h3 (.inr rfl)

/-- the fixed things of a loop over the times of an edge -/
structure RFix where
  x : MIn
  st : Int
  w : World
  p : Int × Int
  m : Nat
  k : Nat
  e : Edg
  Bt : Nat
  Be : Nat
  Bi : Nat
  Bl : Nat
  Bq : Nat
  vl : Value
  vq : Value
  Ds : List Nat
  r0 : Nat
  zl : Nat
structure RFixOk (F : RFix) : Prop where
  zl : F.w.heap.size + 1 + 1 + 1 + 1 < F.zl
  ds : ∀ D ∈ F.Ds, D < F.zl
  bi : F.w.heap.size + 1 + 1 + 1 + 1 < F.Bi
  bl : F.w.heap.size + 1 + 1 + 1 + 1 < F.Bl
  bq : F.w.heap.size + 1 + 1 + 1 + 1 < F.Bq
  nt : F.Bi ≠ F.Bt
  ne : F.Bi ≠ F.Be
  nl : F.Bi ≠ F.Bl
  nq : F.Bi ≠ F.Bq
  te : F.w.heap.size + 1 + 1 + 1 + 1 < F.Be
  tt : F.w.heap.size + 1 + 1 + 1 + 1 < F.Bt
  get : F.x.inp.edges[F.k]? = some F.e
  from_ : F.e.from_ = F.p.1
/-- between two rounds of it -/
structure RIc (F : RFix) (A : Option Addr) (R O : List (Int × Int)) (W : World) : Prop where
  b : RBx W F.w.heap.size F.x A R O
  t : W.heap[F.Bt]? = some (.cells #[.int .i64 F.p.1, .int .i64 F.p.2] 112 (0, 0))
  oa : ob A ≠ some F.Bt
  e : W.heap[F.Be]? = some (.cells (cEdg F.e).toArray 81 (0, 0))
  mrk : Marked W F.w.heap.size F.Ds
  bel : Below F.w.heap.size F.w W
  r0 : F.r0 ≤ R.length
  i : ∃ v, W.heap[F.Bi]? = some (.cells #[v] 3 (0, 0))
  l : W.heap[F.Bl]? = some (.cells #[F.vl] 36 (0, 0))
  q : W.heap[F.Bq]? = some (.cells #[F.vq] 3 (0, 0))
def RI (F : RFix) (pre : List Int) (W : World) : Prop := ∃ A R O, TmSt F.x.inp F.st F.x.en F.p F.m F.k F.e pre R O ∧ RIc F A R O W
def RIx (F : RFix) (c : Code) (pre : List Int) (W : World) : Prop := ∃ A R O ini t, c = .exit 6 ∧ pre = ini ++ [t] ∧ TmSt F.x.inp F.st F.x.en F.p F.m F.k F.e ini R O ∧ ¬ HoldW F.x.inp.cs F.e.while_ F.p.2 t ∧ RIc F A R O W

theorem RIc.own {F : RFix} (ok : RFixOk F) {A : Option Addr} {R O : List (Int × Int)} {W W' : World} {row : Option Nat} (h : RIc F A R O W) (hg : W.grownBy W' row) (hr : ∀ r, row = some r → F.zl ≤ r ∧ ∃ o : Obj, W.heap[r]? = some o ∧ o.isCells = false) : RIc F A R O W' := by
  have keep : ∀ (k : Nat) (o : Obj), W.heap[k]? = some o → (∃ cs t, o = .cells cs t (0, 0)) ∨ k < F.zl → W'.heap[k]? = some o := fun k o hk hc =>
    (hg.block k (Array.getElem?_eq_some_iff.1 hk).1 fun e => by
      obtain ⟨h1, o', h2, h3⟩ := hr k e.symm
      rcases hc with ⟨cs, t, rfl⟩ | h4
      · rw [hk] at h2; injection h2 with h2; subst h2; cases h3
      · omega).trans hk
  have hz := ok.zl
  obtain ⟨v, hv⟩ := h.i
  exact ⟨h.b.keep (fun k o hk hc => keep k o hk (hc.imp id fun e => by omega)) hg.size, keep _ _ h.t (.inl ⟨_, _, rfl⟩), h.oa, keep _ _ h.e (.inl ⟨_, _, rfl⟩),
    ⟨h.mrk.1, fun D hD => ⟨(h.mrk.2 D hD).1, keep _ _ (h.mrk.2 D hD).2 (.inr (ok.ds D hD))⟩⟩, h.bel.grown hg h.bel.size (fun r e => by have := (hr r e).1; omega), h.r0, ⟨v, keep _ _ hv (.inl ⟨_, _, rfl⟩)⟩, keep _ _ h.l (.inl ⟨_, _, rfl⟩), keep _ _ h.q (.inl ⟨_, _, rfl⟩)⟩
theorem ri_own {F : RFix} (ok : RFixOk F) : OwnFrom F.zl (RI F) := fun _ _ _ _ hs hg hr => by
  obtain ⟨A, R, O, h1, h2⟩ := hs
  exact ⟨A, R, O, h1, h2.own ok hg hr⟩
theorem rix_own {F : RFix} (ok : RFixOk F) (c : Code) : OwnFrom F.zl (RIx F c) := fun _ _ _ _ hs hg hr => by
  obtain ⟨A, R, O, ini, t, h1, h2, h3, h4, h5⟩ := hs
  exact ⟨A, R, O, ini, t, h1, h2, h3, h4, h5.own ok hg hr⟩
theorem RIc.free {F : RFix} (ok : RFixOk F) {A : Option Addr} {R O : List (Int × Int)} {W : World} (h : RIc F A R O W) (u : Value) : RIc F A R O (W.setCell ⟨F.Bi, 0, none⟩ u) := by
  obtain ⟨v, hv⟩ := h.i
  have hb := ok.bi
  have na : ob A ≠ some F.Bi := h.b.r.other hv typesR.2.2.2.1
  have keep : ∀ (k : Nat) (o : Obj), W.heap[k]? = some o → k ≠ F.Bi → (W.setCell ⟨F.Bi, 0, none⟩ u).heap[k]? = some o := fun k o hk hn => (Below.heap_setCell _ _ _ _ hn).trans hk
  obtain ⟨c, h1, h2⟩ := h.b.r.bo
  refine ⟨⟨keep _ _ h.b.x (by omega), keep _ _ h.b.a (by omega), keep _ _ h.b.r.bm (by omega), ⟨c, keep _ _ h1 (by omega), own_block h2 fun g hg => Below.heap_setCell _ _ _ _ fun e => na (by rw [hg]; exact congrArg some e)⟩, h.b.r.map.block (Below.heap_setCell _ _ _ _ (by show F.w.heap.size + 1 ≠ F.Bi; omega)), by have := h.b.r.size; simpa using this⟩,
    keep _ _ h.t (Ne.symm ok.nt), h.oa, keep _ _ h.e (Ne.symm ok.ne), h.mrk.keep fun D hD => keep _ _ hD fun e => ?_, h.bel.setCell (p := ⟨F.Bi, 0, none⟩) (by show F.w.heap.size ≤ F.Bi; omega) _, h.r0, ⟨u, box_set1 hv⟩, keep _ _ h.l (Ne.symm ok.nl), keep _ _ h.q (Ne.symm ok.nq)⟩
  rw [e, hv] at hD
  cases hD
theorem RIc.drewN {F : RFix} {A : Option Addr} {R O : List (Int × Int)} {W : World} (h : RIc F A R O W) (n : Nat) : RIc F A R O (W.drewN n) :=
  ⟨⟨h.b.x, h.b.a, ⟨h.b.r.bm, h.b.r.bo, h.b.r.map.block rfl, h.b.r.size⟩⟩, h.t, h.oa, h.e, h.mrk, below_drewN h.bel n, h.r0, h.i, h.l, h.q⟩
theorem ri_free {F : RFix} (ok : RFixOk F) : BoxFree F.Bi (RI F) := fun _ _ hs => by
  obtain ⟨A, R, O, h1, h2⟩ := hs
  exact ⟨fun v => ⟨A, R, O, h1, h2.free ok v⟩, fun n => ⟨A, R, O, h1, h2.drewN n⟩⟩
theorem rix_free {F : RFix} (ok : RFixOk F) (c : Code) : BoxFree F.Bi (RIx F c) := fun _ _ hs => by
  obtain ⟨A, R, O, ini, t, h1, h2, h3, h4, h5⟩ := hs
  exact ⟨fun v => ⟨A, R, O, ini, t, h1, h2, h3, h4, h5.free ok v⟩, fun n => ⟨A, R, O, ini, t, h1, h2, h3, h4, h5.drewN n⟩⟩
theorem RIc.below {F : RFix} {A : Option Addr} {R O : List (Int × Int)} {W W' : World} (h : RIc F A R O W) (hb : Below W.heap.size W W') : RIc F A R O W' := by
  obtain ⟨v, hv⟩ := h.i
  exact ⟨h.b.below hb, (hb.block _ (box_lt h.t)).trans h.t, h.oa, (hb.block _ (box_lt h.e)).trans h.e, h.mrk.keep fun D hD => (hb.block _ (Array.getElem?_eq_some_iff.1 hD).1).trans hD, bstep h.bel hb, h.r0, ⟨v, (hb.block _ (box_lt hv)).trans hv⟩, (hb.block _ (box_lt h.l)).trans h.l, (hb.block _ (box_lt h.q)).trans h.q⟩
theorem below_keeps {B : Nat} {W W' : World} (hb : Below W.heap.size W W') : KeepsFrom B W W' := ⟨hb.size, fun _ _ _ hk _ => (hb.block _ (Array.getElem?_eq_some_iff.1 hk).1).trans hk⟩
/-- behind 'add' in a round -/
theorem ri_add {F : RFix} (ok : RFixOk F) {A : Option Addr} {R O : List (Int × Int)} {pre : List Int} {t : Int} {W W1 W2 : World} {e : Ending} (ht : TmSt F.x.inp F.st F.x.en F.p F.m F.k F.e pre R O) (h : RIc F A R O W) (hb : Below W.heap.size W W1) (hg : GoesW F.x.inp F.x.en F.e F.p.2 t)
    (hp : AddPost F.w.heap.size (F.w.heap.size + 1 + 1) (F.w.heap.size + 1) (F.w.heap.size + 1 + 1 + 1) A R O F.e.to_ t W1 e W2) : KeepsFrom F.zl W W2 ∧ KpT F.w.heap.size F.Bi F.Bl F.Bq W W2 ∧ RI F (pre ++ [t]) W2 := by
  have h1 := h.below hb
  have hz := ok.zl
  have hoth := hp.2.2.1
  obtain ⟨A', R', O', hr, ha, hm, hbl, keep⟩ := add_out h1.b hp
  obtain ⟨v, hv⟩ := h1.i
  obtain ⟨c, hbo, hown⟩ := h1.b.r.bo
  have ki := keep _ _ _ hv (by have := ok.bi; omega) (.inl typesR.2.2.2.1)
  have kl := keep _ _ _ h1.l (by have := ok.bl; omega) (.inl typesR.2.2.2.2)
  have kq := keep _ _ _ h1.q (by have := ok.bq; omega) (.inl typesR.2.2.2.1)
  have kD : ∀ (k : Nat) (o : Obj), W1.heap[k]? = some o → o.isCells = false → k ≠ F.w.heap.size + 1 → W2.heap[k]? = some o := fun k o hk hc hn =>
    (hoth k (Array.getElem?_eq_some_iff.1 hk).1 (fun e => by rw [e, hbo] at hk; injection hk with hk; subst hk; cases hc) hn (row_ne hown hk fun cur e => by subst e; cases hc)).trans hk
  refine ⟨(below_keeps hb).trans ⟨hbl.size, fun k o hk1 hk2 hk3 => kD k o hk2 hk3 (by omega)⟩, ⟨fun b hb' => ?_, ?_, ?_, ?_⟩, A', R', O', ht.add ok.get ok.from_ hg ha, hr, keep _ _ _ h1.t (by have := ok.tt; omega) (.inr h1.oa), ?_, keep _ _ _ h1.e (by have := ok.te; omega) (.inl typesR.2.2.1),
    h1.mrk.keep fun D hD => kD D _ hD rfl (fun e => by obtain ⟨es, clock, h3⟩ := h1.b.r.map.obj; rw [e, h3] at hD; cases hD), h1.bel.trans hbl, Nat.le_trans h.r0 ha.le, ⟨v, ki⟩, kl, kq⟩
  · exact (hbl.block b hb').trans (hb.block b (by have := h.bel.size; omega))
  · obtain ⟨v0, hv0⟩ := h.i
    have : W1.heap[F.Bi]? = W.heap[F.Bi]? := hb.block _ (box_lt hv0)
    rw [ki, ← this, hv]
  · rw [kl, h.l]
  · rw [kq, h.q]
  · rcases hm with h2 | ⟨g, h2, h3⟩
    · rw [h2]; exact h1.oa
    · rw [h2]
      intro e
      injection e with e
      have := box_lt h1.t
      omega

end Go.Proofs.Ytkbiefklilelmaa
