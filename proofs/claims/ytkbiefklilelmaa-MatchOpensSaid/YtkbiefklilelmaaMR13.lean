/-
  Several texts in one: Srch, Marks. Each says at its head what it holds.
-/
import Derived.Test.YtkbiefklilelmaaMR7
import Derived.Test.YtkbiefklilelmaaMR10

/-
  Plain mathematics of the search of match.input.reach: what has been reached, what is still open. No program in sight.
-/
namespace Go.Proofs.Ytkbiefklilelmaa

theorem nodup_le {α : Type} [DecidableEq α] : ∀ {R U : List α}, R.Nodup → (∀ p ∈ R, p ∈ U) → R.length ≤ U.length
  | [], _, _, _ => Nat.zero_le _
  | a :: R, U, hn, hs => by
    rw [List.nodup_cons] at hn
    have ha := hs a (by simp)
    have := nodup_le (R := R) (U := U.erase a) hn.2 fun p hp => by
      have hne : p ≠ a := fun e => hn.1 (e ▸ hp)
      exact (List.mem_erase_of_ne hne).2 (hs p (by simp [hp]))
    rw [List.length_erase_of_mem ha] at this
    have hpos := List.length_pos_of_mem ha
    simp only [List.length_cons]
    omega

def univ (x : Inp) : List (Int × Int) := x.edges.flatMap fun e => (nth x.ev e.event).map fun t => (e.to_, t)
theorem rch_univ {x : Inp} {st en s t : Int} (h : Rch x st en s t) : (s, t) ∈ univ x := by
  unfold univ
  rw [List.mem_flatMap]
  cases h with
  | base e he _ hs => exact ⟨e, he, List.mem_map.2 ⟨_, hs, rfl⟩⟩
  | step u e t _ he hg => exact ⟨e, he, List.mem_map.2 ⟨_, hg.1, rfl⟩⟩
theorem univ_len {x : Inp} (h : ∀ e ∈ x.edges, (nth x.ev e.event).length ≤ 24) : (univ x).length ≤ x.edges.length * 24 := by
  unfold univ
  revert h
  generalize x.edges = es
  induction es with
  | nil => intro _; simp
  | cons e es ih =>
    intro h
    have h1 := h e (by simp)
    have h2 := ih fun e' he' => h e' (by simp [he'])
    rw [List.flatMap_cons, List.length_append, List.length_map, List.length_cons]
    omega

structure Srch (x : Inp) (st en : Int) (R O : List (Int × Int)) : Prop where
  nd : R.Nodup
  ndO : O.Nodup
  sound : ∀ p ∈ R, Rch x st en p.1 p.2
  sub : ∀ p ∈ O, p ∈ R
theorem Srch.len {x : Inp} {st en : Int} {R O : List (Int × Int)} (h : Srch x st en R O) (hu : (univ x).length ≤ 960) : R.length ≤ 960 ∧ O.length ≤ R.length :=
  ⟨Nat.le_trans (nodup_le h.nd fun p hp => rch_univ (h.sound p hp)) hu, nodup_le h.ndO h.sub⟩
theorem Srch.add {x : Inp} {st en s t : Int} {R O : List (Int × Int)} (h : Srch x st en R O) (hr : Rch x st en s t) (hn : (s, t) ∉ R) : Srch x st en (R ++ [(s, t)]) (O ++ [(s, t)]) := by
  refine ⟨?_, ?_, fun p hp => ?_, fun p hp => ?_⟩
  · rw [List.nodup_append]
    exact ⟨h.nd, by simp, fun a ha b hb e => hn (by simp at hb; subst hb; subst e; exact ha)⟩
  · rw [List.nodup_append]
    exact ⟨h.ndO, by simp, fun a ha b hb e => hn (by simp at hb; subst hb; subst e; exact h.sub _ ha)⟩
  · rcases List.mem_append.1 hp with hp | hp
    · exact h.sound p hp
    · simp at hp; subst hp; exact hr
  · rcases List.mem_append.1 hp with hp | hp
    · exact List.mem_append_left _ (h.sub p hp)
    · exact List.mem_append_right _ hp
theorem Srch.nil (x : Inp) (st en : Int) : Srch x st en [] [] := ⟨List.nodup_nil, List.nodup_nil, by simp, by simp⟩

/-- the two ways of 'add' -/
def Added (s t : Int) (R O R' O' : List (Int × Int)) : Prop := ((s, t) ∈ R ∧ R' = R ∧ O' = O) ∨ ((s, t) ∉ R ∧ R' = R ++ [(s, t)] ∧ O' = O ++ [(s, t)])
theorem Added.srch {x : Inp} {st en s t : Int} {R O R' O' : List (Int × Int)} (a : Added s t R O R' O') (h : Srch x st en R O) (hr : Rch x st en s t) : Srch x st en R' O' := by
  rcases a with ⟨_, rfl, rfl⟩ | ⟨hn, rfl, rfl⟩
  · exact h
  · exact h.add hr hn
theorem Added.mem {s t : Int} {R O R' O' : List (Int × Int)} (a : Added s t R O R' O') (q : Int × Int) : q ∈ R' ↔ q ∈ R ∨ q = (s, t) := by
  rcases a with ⟨hm, rfl, rfl⟩ | ⟨hn, rfl, rfl⟩
  · exact ⟨.inl, fun h => h.elim id fun e => e ▸ hm⟩
  · simp
theorem Added.memO {s t : Int} {R O R' O' : List (Int × Int)} (a : Added s t R O R' O') {q : Int × Int} (h : q ∈ O) : q ∈ O' := by
  rcases a with ⟨hm, rfl, rfl⟩ | ⟨hn, rfl, rfl⟩
  · exact h
  · exact List.mem_append_left _ h
theorem Added.newO {s t : Int} {R O R' O' : List (Int × Int)} (a : Added s t R O R' O') {q : Int × Int} (h : q ∈ R') (hn : q ∉ R) : q ∈ O' := by
  rcases a with ⟨hm, rfl, rfl⟩ | ⟨_, rfl, rfl⟩
  · exact absurd h hn
  · rcases List.mem_append.1 h with h | h
    · exact absurd h hn
    · exact List.mem_append_right _ h
theorem Added.len {s t : Int} {R O R' O' : List (Int × Int)} (a : Added s t R O R' O') {m : Nat} (h : R.length = O.length + m) : R'.length = O'.length + m := by
  rcases a with ⟨hm, rfl, rfl⟩ | ⟨_, rfl, rfl⟩
  · exact h
  · simp; omega
theorem Added.le {s t : Int} {R O R' O' : List (Int × Int)} (a : Added s t R O R' O') : R.length ≤ R'.length := by
  rcases a with ⟨hm, rfl, rfl⟩ | ⟨_, rfl, rfl⟩
  · exact Nat.le_refl _
  · simp

/-- a place from which all has been reached that can be -/
def Expd (x : Inp) (en : Int) (R : List (Int × Int)) (p : Int × Int) : Prop := ∀ e ∈ x.edges, e.from_ = p.1 → ∀ t, GoesW x en e p.2 t → (e.to_, t) ∈ R
theorem Expd.more {x : Inp} {en : Int} {R R' : List (Int × Int)} {p : Int × Int} (h : Expd x en R p) (hs : ∀ q ∈ R, q ∈ R') : Expd x en R' p := fun e he hf t hg => hs _ (h e he hf t hg)
def BaseTo (x : Inp) (st : Int) (k : Nat) (R : List (Int × Int)) : Prop := ∀ i e, i < k → x.edges[i]? = some e → e.from_ = 0 → st ∈ nth x.ev e.event → (e.to_, st) ∈ R

/-- the loop over the edges that begin at 0 -/
structure BaseSt (x : Inp) (st en : Int) (k : Nat) (R O : List (Int × Int)) : Prop where
  s : Srch x st en R O
  all : ∀ p ∈ R, p ∈ O
  base : BaseTo x st k R
theorem BaseSt.zero (x : Inp) (st en : Int) : BaseSt x st en 0 [] [] := ⟨Srch.nil x st en, by simp, fun i e hi => absurd hi (Nat.not_lt_zero _)⟩
theorem BaseSt.skip {x : Inp} {st en : Int} {k : Nat} {R O : List (Int × Int)} (h : BaseSt x st en k R O) {e : Edg} (he : x.edges[k]? = some e) (hn : ¬ (e.from_ = 0 ∧ st ∈ nth x.ev e.event)) : BaseSt x st en (k + 1) R O :=
  ⟨h.s, h.all, fun i e' hi he' hf hs => by
    rcases Nat.lt_or_ge i k with h1 | h1
    · exact h.base i e' h1 he' hf hs
    · have : i = k := by omega
      subst this
      rw [he] at he'
      injection he' with he'
      subst he'
      exact absurd ⟨hf, hs⟩ hn⟩
theorem BaseSt.add {x : Inp} {st en : Int} {k : Nat} {R O R' O' : List (Int × Int)} (h : BaseSt x st en k R O) {e : Edg} (he : x.edges[k]? = some e) (hf : e.from_ = 0) (hs : st ∈ nth x.ev e.event) (a : Added e.to_ st R O R' O') : BaseSt x st en (k + 1) R' O' :=
  ⟨a.srch h.s (.base e (List.mem_of_getElem? he) hf hs), fun p hp => by
    by_cases h1 : p ∈ R
    · exact a.memO (h.all p h1)
    · exact a.newO hp h1, fun i e' hi he' hf' hs' => by
    rcases Nat.lt_or_ge i k with h1 | h1
    · exact (a.mem _).2 (.inl (h.base i e' h1 he' hf' hs'))
    · have : i = k := by omega
      subst this
      rw [he] at he'
      injection he' with he'
      subst he'
      exact (a.mem _).2 (.inr rfl)⟩

/-- the loop over the open list -/
structure OutSt (x : Inp) (st en : Int) (R O : List (Int × Int)) : Prop where
  s : Srch x st en R O
  base : BaseTo x st x.edges.length R
  exp : ∀ q ∈ R, q ∈ O ∨ Expd x en R q
theorem BaseSt.out {x : Inp} {st en : Int} {R O : List (Int × Int)} (h : BaseSt x st en x.edges.length R O) : OutSt x st en R O := ⟨h.s, h.base, fun q hq => .inl (h.all q hq)⟩
/-- when nothing is open, what has been reached is what can be reached -/
theorem OutSt.done {x : Inp} {st en : Int} {R : List (Int × Int)} (h : OutSt x st en R []) (s t : Int) : (s, t) ∈ R ↔ Rch x st en s t := by
  refine ⟨fun hm => h.s.sound _ hm, fun hr => ?_⟩
  induction hr with
  | base e he h0 hs =>
    obtain ⟨i, hi⟩ := List.getElem?_of_mem he
    exact h.base i e (List.getElem?_eq_some_iff.1 hi).1 hi h0 hs
  | step u e t _ he hg ih =>
    rcases h.exp _ ih with h1 | h1
    · cases h1
    · exact h1 e he rfl t hg

/-- the loop over the edges, with a place that has been taken from the open list -/
structure EdgSt (x : Inp) (st en : Int) (p : Int × Int) (m k : Nat) (R O : List (Int × Int)) : Prop where
  s : Srch x st en R O
  base : BaseTo x st x.edges.length R
  mem : p ∈ R
  len : R.length = O.length + m
  exp : ∀ q ∈ R, q ∈ O ∨ q = p ∨ Expd x en R q
  upto : ∀ i e, i < k → x.edges[i]? = some e → e.from_ = p.1 → ∀ t, GoesW x en e p.2 t → (e.to_, t) ∈ R
theorem OutSt.pop {x : Inp} {st en : Int} {p : Int × Int} {R O : List (Int × Int)} (h : OutSt x st en R (O ++ [p])) : EdgSt x st en p (R.length - O.length) 0 R O := by
  have hn := List.nodup_append.1 h.s.ndO
  refine ⟨⟨h.s.nd, hn.1, h.s.sound, fun q hq => h.s.sub q (List.mem_append_left _ hq)⟩, h.base, h.s.sub p (by simp), ?_, fun q hq => ?_, fun i e hi => absurd hi (Nat.not_lt_zero _)⟩
  · have := nodup_le h.s.ndO h.s.sub
    rw [List.length_append] at this
    omega
  · rcases h.exp q hq with h1 | h1
    · rcases List.mem_append.1 h1 with h2 | h2
      · exact .inl h2
      · exact .inr (.inl (by simpa using h2))
    · exact .inr (.inr h1)
theorem EdgSt.out {x : Inp} {st en : Int} {p : Int × Int} {m : Nat} {R O : List (Int × Int)} (h : EdgSt x st en p m x.edges.length R O) : OutSt x st en R O :=
  ⟨h.s, h.base, fun q hq => by
    rcases h.exp q hq with h1 | rfl | h1
    · exact .inl h1
    · refine .inr fun e he hf t hg => ?_
      obtain ⟨i, hi⟩ := List.getElem?_of_mem he
      exact h.upto i e (List.getElem?_eq_some_iff.1 hi).1 hi hf t hg
    · exact .inr h1⟩
theorem EdgSt.next {x : Inp} {st en : Int} {p : Int × Int} {m k : Nat} {R O : List (Int × Int)} (h : EdgSt x st en p m k R O) {e : Edg} (he : x.edges[k]? = some e) (hn : e.from_ = p.1 → ∀ t, GoesW x en e p.2 t → (e.to_, t) ∈ R) : EdgSt x st en p m (k + 1) R O :=
  ⟨h.s, h.base, h.mem, h.len, h.exp, fun i e' hi he' hf t hg => by
    rcases Nat.lt_or_ge i k with h1 | h1
    · exact h.upto i e' h1 he' hf t hg
    · have : i = k := by omega
      subst this
      rw [he] at he'
      injection he' with he'
      subst he'
      exact hn hf t hg⟩
theorem EdgSt.add {x : Inp} {st en : Int} {p : Int × Int} {m k : Nat} {R O R' O' : List (Int × Int)} (h : EdgSt x st en p m k R O) {s t : Int} (hr : Rch x st en s t) (a : Added s t R O R' O') : EdgSt x st en p m k R' O' :=
  ⟨a.srch h.s hr, fun i e hi he hf hs => (a.mem _).2 (.inl (h.base i e hi he hf hs)), (a.mem _).2 (.inl h.mem), a.len h.len, fun q hq => by
    by_cases h1 : q ∈ R
    · rcases h.exp q h1 with h2 | h2 | h2
      · exact .inl (a.memO h2)
      · exact .inr (.inl h2)
      · exact .inr (.inr (h2.more fun r hr => (a.mem _).2 (.inl hr)))
    · exact .inl (a.newO hq h1), fun i e hi he hf t hg => (a.mem _).2 (.inl (h.upto i e hi he hf t hg))⟩

/-- the loop over the times of an event: those of 'pre' have been reached -/
structure TmSt (x : Inp) (st en : Int) (p : Int × Int) (m k : Nat) (e : Edg) (pre : List Int) (R O : List (Int × Int)) : Prop where
  h : EdgSt x st en p m k R O
  pre : ∀ t ∈ pre, (e.to_, t) ∈ R
theorem TmSt.add {x : Inp} {st en : Int} {p : Int × Int} {m k : Nat} {e : Edg} {pre : List Int} {R O R' O' : List (Int × Int)} (h : TmSt x st en p m k e pre R O) (he : x.edges[k]? = some e) (hf : e.from_ = p.1) {t : Int} (hg : GoesW x en e p.2 t) (a : Added e.to_ t R O R' O') : TmSt x st en p m k e (pre ++ [t]) R' O' :=
  ⟨h.h.add (.step p.2 e t (by rw [hf]; exact h.h.s.sound p h.h.mem) (List.mem_of_getElem? he) hg) a, fun u hu => by
    rcases List.mem_append.1 hu with hu | hu
    · exact (a.mem _).2 (.inl (h.pre u hu))
    · simp at hu; subst hu; exact (a.mem _).2 (.inr rfl)⟩
/-- the times that are looked at -/
def tms (x : Inp) (en : Int) (e : Edg) (u : Int) : List Int := upTo (nth x.ev e.event) ((nth x.ev e.event).countP (· < u + e.low)) (min (u + e.high) en)
theorem tms_mem {x : Inp} {en : Int} {e : Edg} {u t : Int} (hs : (nth x.ev e.event).Pairwise (· < ·)) : t ∈ tms x en e u ↔ t ∈ nth x.ev e.event ∧ u + e.low ≤ t ∧ t ≤ u + e.high ∧ t ≤ en := by
  unfold tms
  rw [upTo_mem hs]
  constructor
  · rintro ⟨h1, h2, h3⟩; exact ⟨h1, h2, by omega, by omega⟩
  · rintro ⟨h1, h2, h3, h4⟩; exact ⟨h1, h2, by omega⟩
theorem TmSt.done {x : Inp} {st en : Int} {p : Int × Int} {m k : Nat} {e : Edg} {R O : List (Int × Int)} (hs : (nth x.ev e.event).Pairwise (· < ·)) (h : TmSt x st en p m k e (tms x en e p.2) R O) (he : x.edges[k]? = some e) : EdgSt x st en p m (k + 1) R O :=
  h.h.next he fun _ t hg => h.pre t ((tms_mem hs).2 ⟨hg.1, hg.2.1, hg.2.2.1, hg.2.2.2.1⟩)
theorem TmSt.stop {x : Inp} {st en : Int} {p : Int × Int} {m k : Nat} {e : Edg} {pre : List Int} {t : Int} {R O : List (Int × Int)} (hs : (nth x.ev e.event).Pairwise (· < ·)) (h : TmSt x st en p m k e pre R O) (he : x.edges[k]? = some e) (hp : pre ++ [t] <+: tms x en e p.2) (hh : ¬ HoldW x.cs e.while_ p.2 t) : EdgSt x st en p m (k + 1) R O :=
  h.h.next he fun _ u hg => by
    have hm := (tms_mem hs).2 ⟨hg.1, hg.2.1, hg.2.2.1, hg.2.2.2.1⟩
    obtain ⟨rest, hr⟩ := hp
    rw [← hr] at hm
    have hsort : (tms x en e p.2).Pairwise (· < ·) := by
      unfold tms upTo
      exact (hs.drop).sublist (List.takeWhile_sublist _)
    rw [← hr, List.pairwise_append] at hsort
    rcases List.mem_append.1 hm with h1 | h1
    · rcases List.mem_append.1 h1 with h2 | h2
      · exact h.pre u h2
      · simp at h2
        subst h2
        exact absurd hg.2.2.2.2 hh
    · have hlt := hsort.2.2 t (by simp) u h1
      refine absurd ?_ hh
      rcases hg.2.2.2.2 with h3 | h3
      · exact .inl h3
      · exact .inr fun v h4 h5 => h3 v h4 (by omega)

end Go.Proofs.Ytkbiefklilelmaa

/-
  The marks that loops over functions leave among a call's deferred calls: many of them, at the call's end.
-/
namespace Go.Proofs.Ytkbiefklilelmaa
open Go.RowKit Go.Shelf

/-- the marks with the numbers Ds -/
def mks (Ds : List Nat) : List Deferred := Ds.map fun D => { target := .collected D, args := #[] }
def Marked (W : World) (N : Nat) (Ds : List Nat) : Prop := Ds.Nodup ∧ ∀ D ∈ Ds, N ≤ D ∧ W.heap[D]? = some (.deferred (some []))
theorem Marked.nil (W : World) (N : Nat) : Marked W N [] := ⟨List.nodup_nil, by simp⟩
theorem Marked.keep {W W' : World} {N : Nat} {Ds : List Nat} (h : Marked W N Ds) (hk : ∀ D : Nat, W.heap[D]? = some (Obj.deferred (some [])) → W'.heap[D]? = some (Obj.deferred (some []))) : Marked W' N Ds :=
  ⟨h.1, fun D hD => ⟨(h.2 D hD).1, hk D (h.2 D hD).2⟩⟩
theorem Marked.lt {W : World} {N : Nat} {Ds : List Nat} (h : Marked W N Ds) : ∀ D ∈ Ds, D < W.heap.size := fun D hD => (Array.getElem?_eq_some_iff.1 (h.2 D hD).2).1
theorem Marked.cons {W : World} {N D : Nat} {Ds : List Nat} (h : Marked W N Ds) (hn : N ≤ D) (hD : W.heap[D]? = some (.deferred (some []))) (hlt : ∀ E ∈ Ds, E < D) : Marked W N (D :: Ds) :=
  ⟨List.nodup_cons.2 ⟨fun hm => Nat.lt_irrefl _ (hlt D hm), h.1⟩, fun E hE => by
    rcases List.mem_cons.1 hE with rfl | hE
    · exact ⟨hn, hD⟩
    · exact h.2 E hE⟩

/-- the call's end: all marks are taken, one after the other -/
theorem leaves_marks {F : Fence} {n : Nat} {P : Program} {fn : Func} {tmps : Array Value} {R : Ending → World → Prop} {N : Nat} (S : World → Prop)
    (hS : ∀ W D, S W → N ≤ D → W.heap[D]? = some (.deferred (some [])) → S (W.putObj D (.deferred none)))
    (hend : ∀ W, S W → LeavesIn F n P fn tmps R [] .returning W) : ∀ (Ds : List Nat) (W : World), Marked W N Ds → S W → LeavesInM F n P fn tmps R (mks Ds) .returning W
  | [], W, _, h => hend W h
  | D :: Ds, W, hm, h => by
    obtain ⟨hn, hall⟩ := hm
    rw [List.nodup_cons] at hn
    obtain ⟨h1, h2⟩ := hall D (by simp)
    refine ⟨by simp, .inl ⟨D, _, rfl, run_takeDeferred h2, ?_⟩⟩
    refine leaves_marks S hS hend Ds _ ⟨hn.2, fun E hE => ⟨(hall E (by simp [hE])).1, ?_⟩⟩ (hS W D h h1 h2)
    rw [World.putObj_heap_other (fun e => hn.1 (by rw [← e]; exact hE))]
    exact (hall E (by simp [hE])).2

end Go.Proofs.Ytkbiefklilelmaa
