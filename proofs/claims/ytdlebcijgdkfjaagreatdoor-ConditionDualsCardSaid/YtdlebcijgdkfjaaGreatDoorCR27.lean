/-
  Several texts in one: RangeRel. Each says at its head what it holds.
-/
import Derived.Test.YtdlebcijgdkfjaaGreatDoorCR4
import Derived.RangeFuncNested
import Derived.RangeFuncBox
import Derived.RangeFuncLeaves
import Derived.Shelf.Abstract
import Derived.OwnWalkIn
import Derived.TacticsInMore
import Derived.LoopNIn
import Derived.LoopIn

/-
  A loop over an iterator that writes memory by steps of a relation R (the count of a source's calls, new blocks): what the caller's invariant owes, and the law for such a loop.
-/
namespace Go.Proofs.YtdlebcijgdkfjaaGreatDoor
open Go.RowKit Go.Shelf

/-- what is said outlasts the iterator's own steps -/
def RFree {β : Type} (R : World → World → Prop) (J : β → World → Prop) : Prop := ∀ s W W', J s W → R W W' → J s W'

/-- an iterator whose own steps are R; a round keeps Kp -/
def SeqRel {α : Type} (n : Nat) (P : Program) (g : Nat) (lb : Array Value) (encs : α → Array Value) (R : World → World → Prop) (Kp : World → World → Prop) (S Sp : List α → Prop) (T : List α → World → Prop) (N : Nat) (w : World) : Prop :=
  ∀ (l : Nat) (J Jx : List α → World → Prop) (W : World), Below w.heap.size w W → RFree R J → RFree R Jx →
    (∀ pre x W1, J pre W1 → pre.length < N → YieldAt Fence.wide (n - 1) P l (encs x) W1 fun e W' =>
      (e = .returned (.bool true) ∧ J (pre ++ [x]) W' ∧ Kp W1 W') ∨ (e = .returned (.bool false) ∧ Jx (pre ++ [x]) W')) →
    J [] W →
    CallsIn Fence.wide n P g (#[.func (.yield l) #[] #[]] ++ lb) W fun e W' => (∃ v, e = .returned v) ∧ ((∃ xs, S xs ∧ J xs W' ∧ T xs W') ∨ (∃ pre, Sp pre ∧ Jx pre W'))

theorem loop_roundR {P : Program} {W3 : World} {m : Nat} {rec : LoopState → Option Code → Loop} (hrec : ∀ s p s' p', ({ rec s p with state := s', pending := p' } : Loop) = rec s' p') (j : Option Code) (h3 : W3.heap[m]? = some (.loop (rec .busy none))) :
    (Instr.endRound m j).run P W3 = .ok (.bool j.isNone) (W3.putObj m (.loop (rec (if j.isNone then .ready else .done) j))) := by
  have := run_endRound (P := P) j h3
  rw [this, hrec]

/-- the law: a loop over such an iterator, outside of every other such loop; the body may write whatever lay ahead of the loop -/
theorem range_rel {P : Program} {n : Nat} {α : Type} {g : Operand} {ps : Array Tmp} {assign body : Code} {Q : Exit → Act → World → Prop} {a : Act} {w : World}
    (h1 : 1 ≤ n) {gf : Nat} {lb : Array Value} (hg : a.eval g = .func (.func gf) #[] lb) (eg : ∀ args w, (callFunc gf args).run P w = .ok (.enter gf args) w)
    {encs : α → Array Value} {R : World → World → Prop} (hR : ∀ W W', R W W' → ∀ b, w.heap.size ≤ b → b < W.heap.size → W'.heap[b]? = W.heap[b]?) {Kp : World → World → Prop} {S Sp : List α → Prop} {T : List α → World → Prop} {N : Nat} (hseq : SeqRel (n - 1) P gf lb encs R Kp S Sp T N w) (hT : OwnFrom w.heap.size T)
    (hKt : ∀ {A B C : World}, Kp A B → Kp B C → Kp A C) (hKb : ∀ (W : World) (l : Nat) (o o' : Obj), w.heap.size ≤ l → W.heap[l]? = some o → o.isCells = false → o.isWalk = false → Kp W (W.putObj l o')) (hps : ∀ x, (encs x).size = ps.size)
    (I : List α → World → Prop) (Ix : Code → List α → World → Prop) (hI : OwnFrom w.heap.size I) (hIx : ∀ c, OwnFrom w.heap.size (Ix c)) (fI : RFree R I) (fIx : ∀ c, RFree R (Ix c)) (h0 : I [] w) (a₁ : α → Act)
    (hassign : ∀ (l : Nat) (x : α) (W : World) (K : Act → World → Prop), K (a₁ x) W →
      assign.wpIn (Fence.wide.inRound l) (n - 1 - 1) P (Exit.then K (fun _ _ _ => False)) { tmps := (ps.zip (encs x)).foldl (fun t (p, v) => t.setIfInBounds p v) a.tmps, defers := [] } W)
    (hbody : ∀ (l : Nat) (pre : List α) (x : α) (W : World), w.heap.size ≤ l → l < W.heap.size → I pre W → pre.length < N → body.wpIn (Fence.wide.inRound l) (n - 1 - 1) P (ownPostG w.heap.size Kp I Ix (pre ++ [x]) W) (a₁ x) W)
    (hdone : ∀ (D : Nat) (xs : List α) (W : World), w.heap.size ≤ D → S xs → I xs W → T xs W → W.heap[D]? = some (.deferred (some [])) → Q .normal { a with defers := { target := .collected D, args := #[] } :: a.defers } W)
    (hstop : ∀ (D : Nat) (c : Code) (pre : List α) (W : World), w.heap.size ≤ D → Sp pre → Ix c pre W → W.heap[D]? = some (.deferred (some [])) → c.wpIn Fence.wide n P Q { a with defers := { target := .collected D, args := #[] } :: a.defers } W) :
    (Code.rangeFunc g ps assign body).wpIn Fence.wide n P Q a w := by
  refine wpIn_rangeFunc ?_
  intro fn hfn
  obtain ⟨rec, hrec⟩ : ∃ rec : LoopState → Option Code → Loop, rec = fun st pe => { state := st, pending := pe, fn, tmps := a.tmps, params := ps, assign, body, defers := w.heap.size } := ⟨_, rfl⟩
  have hup : ∀ s p s' p', ({ rec s p with state := s', pending := p' } : Loop) = rec s' p' := fun _ _ _ _ => by rw [hrec]
  have hst : ∀ s p, (rec s p).state = s := fun _ _ => by rw [hrec]
  obtain ⟨K, hK⟩ : ∃ K : Nat, K = w.heap.size := ⟨_, rfl⟩
  -- the two blocks of book-keeping
  let Bk : LoopState → Option Code → World → Prop := fun s p W => W.heap[K + 1]? = some (.loop (rec s p)) ∧ W.heap[K]? = some (.deferred (some []))
  have bkR : ∀ s p W W', Bk s p W → R W W' → Bk s p W' := fun s p W W' hb hr =>
    ⟨(hR W W' hr (K + 1) (by omega) (Array.getElem?_eq_some_iff.1 hb.1).1).trans hb.1, (hR W W' hr K (by omega) (Array.getElem?_eq_some_iff.1 hb.2).1).trans hb.2⟩
  have bkPut : ∀ s p s' p' W, Bk s p W → Bk s' p' (W.putObj (K + 1) (.loop (rec s' p'))) := fun s p s' p' W hb =>
    ⟨World.putObj_heap_same (Array.getElem?_eq_some_iff.1 hb.1).1, (World.putObj_heap_other (by omega)).trans hb.2⟩
  obtain ⟨W1, hW1⟩ : ∃ W1, (w.alloc (.deferred (some []))).alloc (.loop (rec .ready none)) = W1 := ⟨_, rfl⟩
  have hBk1 : Bk .ready none W1 := by
    subst hK
    rw [← hW1]
    refine ⟨?_, (Below.heap_alloc _ _ _ (by simp)).trans (World.alloc_heap_new w _)⟩
    have := World.alloc_heap_new (w.alloc (.deferred (some []))) (.loop (rec .ready none))
    rwa [World.size_alloc] at this
  have hI1 : I [] W1 := by rw [← hW1]; exact hI.alloc _ (hI.alloc _ h0)
  have hb1 : Below w.heap.size w W1 := by
    rw [← hW1]; exact ((Below.refl _ w).alloc (Nat.le_refl _) _).alloc (by simp) _
  refine ⟨w.heap.size + 1, [{ target := .collected w.heap.size, args := #[] }], W1, { target := .fn (.func gf) lb, args := #[.func (.yield (w.heap.size + 1)) #[] #[]] }, W1, gf,
    #[.func (.yield (w.heap.size + 1)) #[] #[]] ++ lb, W1, ?_, ?_, ?_, ?_, fun _ => h1, ?_⟩
  · rw [← hW1, hrec]; exact run_enterLoop_outer _ _ _ _ _
  · simp only [resolve, hg]
    simp [go_sem]
  · intro f' hf'; simp [Target.leads] at hf'; subst hf'; trivial
  · simp [invoke, go_sem, eg]
  rw [← hK]
  refine (hseq (K + 1) (fun pre W => I pre W ∧ Bk .ready none W) (fun pre W => ∃ c, Ix c pre W ∧ Bk .done (some c) W) W1 hb1
    (fun s W W' hs hr => ⟨fI s W W' hs.1 hr, bkR _ _ W W' hs.2 hr⟩) (fun s W W' hs hr => by obtain ⟨c, h2, h3⟩ := hs; exact ⟨c, fIx c s W W' h2 hr, bkR _ _ W W' h3 hr⟩) ?_ ⟨hI1, hBk1⟩).mono ?_
  · rintro pre x W ⟨hi, hb⟩ hlen
    have hlt : K + 1 < W.heap.size := (Array.getElem?_eq_some_iff.1 hb.1).1
    have hy := run_yield (P := P) (args := encs x) hb.1 (by rw [hrec]; exact hps x)
    have hbr := run_beginRound (P := P) hb.1 (hst _ _)
    rw [show ({ rec .ready none with state := .busy } : Loop) = rec .busy none by rw [hrec]] at hbr
    rw [hrec] at hy
    refine ⟨fn, _, assign, body, hy, roundIn_of_wpIn hfn (hassign _ x W _ ⟨_, hbr, ?_⟩)⟩
    have hb2 := bkPut _ _ .busy none W hb
    have hw2 : Kp W (W.putObj (K + 1) (.loop (rec .busy none))) := hKb _ _ _ _ (by omega) hb.1 rfl rfl
    refine wpIn_mono (hbody _ pre x _ (by omega) (Array.getElem?_eq_some_iff.1 hb2.1).1 (hI.putObj _ hi (by omega) hb.1 rfl) hlen) ?_
    have fin : ∀ (W3 : World), KeepsFrom w.heap.size (W.putObj (K + 1) (.loop (rec .busy none))) W3 → Bk .busy none W3 := fun W3 hk3 =>
      ⟨hk3.same _ _ (by omega) hb2.1 rfl, hk3.same _ _ (by omega) hb2.2 rfl⟩
    rintro e a3 W3 hp
    cases e with
    | normal =>
      obtain ⟨hk3, hkp3, hi3⟩ := hp
      have hb3 := fin W3 hk3
      exact ⟨_, _, loop_roundR hup none hb3.1, .inl ⟨rfl, ⟨hI.putObj _ hi3 (by omega) hb3.1 rfl, bkPut _ _ _ _ _ hb3⟩, hKt (hKt hw2 hkp3) (hKb _ _ _ _ (by omega) hb3.1 rfl rfl)⟩⟩
    | ret =>
      obtain ⟨hk3, hi3⟩ := hp
      have hb3 := fin W3 hk3
      exact ⟨_, _, loop_roundR hup (some .ret) hb3.1, .inr ⟨rfl, .ret, (hIx _).putObj _ hi3 (by omega) hb3.1 rfl, bkPut _ _ _ _ _ hb3⟩⟩
    | exit id =>
      obtain ⟨hk3, hi3⟩ := hp
      have hb3 := fin W3 hk3
      exact ⟨_, _, loop_roundR hup (some (.exit id)) hb3.1, .inr ⟨rfl, .exit id, (hIx _).putObj _ hi3 (by omega) hb3.1 rfl, bkPut _ _ _ _ _ hb3⟩⟩
    | goto t =>
      obtain ⟨hk3, hi3⟩ := hp
      have hb3 := fin W3 hk3
      exact ⟨_, _, loop_roundR hup (some (.goto t)) hb3.1, .inr ⟨rfl, .goto t, (hIx _).putObj _ hi3 (by omega) hb3.1 rfl, bkPut _ _ _ _ _ hb3⟩⟩
    | panic ch => exact hp.elim
    | outgrown => exact hp.elim
  · have hend : ∀ s p W2, Bk s p W2 → s ≠ .busy → (Instr.endLoop (K + 1)).run P W2 = .ok p (W2.putObj (K + 1) (.loop (rec .exhausted p))) := fun s p W2 hb hs => by
      have := run_endLoop (P := P) hb.1 (by rw [hst]; exact hs)
      rw [this, hrec]
    rintro e W2 ⟨⟨v, rfl⟩, (⟨xs, hS, ⟨hi, hb⟩, hTx⟩ | ⟨pre, hSp, c, hi, hb⟩)⟩
    · exact ⟨none, _, hend _ _ _ hb (by simp), hdone _ xs _ (by omega) hS (hI.putObj _ hi (by omega) hb.1 rfl) (hT.putObj _ hTx (by omega) hb.1 rfl) ((World.putObj_heap_other (by omega)).trans hb.2)⟩
    · exact ⟨some c, _, hend _ _ _ hb (by simp), hstop _ c pre _ (by omega) hSp ((hIx c).putObj _ hi (by omega) hb.1 rfl) ((World.putObj_heap_other (by omega)).trans hb.2)⟩

end Go.Proofs.YtdlebcijgdkfjaaGreatDoor
