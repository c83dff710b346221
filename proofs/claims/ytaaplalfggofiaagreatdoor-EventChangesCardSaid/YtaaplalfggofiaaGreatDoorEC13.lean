/-
  Several texts in one: RangeRel, Iter47. Each says at its head what it holds.
-/
import Derived.Test.YtaaplalfggofiaaGreatDoorEC3
import Derived.RangeFuncNested
import Derived.RangeFuncBox
import Derived.RangeFuncLeaves
import Derived.Shelf.Abstract
import Derived.OwnWalkIn
import Derived.TacticsInMore
import Derived.LoopNIn
import Derived.LoopIn
import Derived.Test.YtaaplalfggofiaaGreatDoorEC12
import Derived.Sort.LoopGhostIn
import Derived.Sort.CutIn
import Derived.Sort.QuietIn

/-
  A loop over an iterator that writes memory by steps of a relation R (the count of a source's calls, new blocks): what the caller's invariant owes, and the law for such a loop.
-/
namespace Go.Proofs.YtaaplalfggofiaaGreatDoor
open Go.RowKit Go.Shelf

/-- what is said outlasts the iterator's own steps -/
def RFree {β : Type} (R : World → World → Prop) (J : β → World → Prop) : Prop := ∀ s W W', J s W → R W W' → J s W'

/-- an iterator whose own steps are R; a round keeps Kp -/
def SeqRel {α : Type} (n : Nat) (P : Program) (g : Nat) (lb : Array Value) (encs : α → Array Value) (R : World → World → Prop) (Kp : World → World → Prop) (S Sp : List α → Prop) (T : List α → World → Prop) (N : Nat) (w : World) : Prop :=
  ∀ (l : Nat) (J Jx : List α → World → Prop) (W : World), Below w.heap.size w W → RFree R J → RFree R Jx →
    (∀ pre x W1, J pre W1 → pre.length < N → YieldAt Fence.wide (n - 1) P l (encs x) W1 fun e W' =>
      (e = .returned (.bool true) ∧ J (pre ++ [x]) W' ∧ Kp W1 W') ∨ (e = .returned (.bool false) ∧ Jx (pre ++ [x]) W')) →
    J [] W →
    CallsIn Fence.wide n P g (#[.func (.yield l) #[] #[]] ++ lb) W fun e W' => (∃ v, e = .returned v) ∧ ((∃ xs, S xs ∧ J xs W' ∧ T xs W') ∨ (∃ pre, Sp pre ∧ Jx pre W'))

theorem loop_roundR {P : Program} {W3 : World} {m : Nat} {rec : LoopState → Option Code → Loop} (hrec : ∀ s p s' p', ({ rec s p with state := s', pending := p' } : Loop) = rec s' p') (j : Option Code) (h3 : W3.heap[m]? = some (.loop (rec .busy none))) :
    (Instr.endRound m j).run P W3 = .ok (.bool j.isNone) (W3.putObj m (.loop (rec (if j.isNone then .ready else .done) j))) := by
  have := run_endRound (P := P) j h3
  rw [this, hrec]

/-- the law: a loop over such an iterator, outside of every other such loop; the body may write whatever lay ahead of the loop -/
theorem range_rel {P : Program} {n : Nat} {α : Type} {g : Operand} {ps : Array Tmp} {assign body : Code} {Q : Exit → Act → World → Prop} {a : Act} {w : World}
    (h1 : 1 ≤ n) {gf : Nat} {lb : Array Value} (hg : a.eval g = .func (.func gf) #[] lb) (eg : ∀ args w, (callFunc gf args).run P w = .ok (.enter gf args) w)
    {encs : α → Array Value} {R : World → World → Prop} (hR : ∀ W W', R W W' → ∀ b, w.heap.size ≤ b → b < W.heap.size → W'.heap[b]? = W.heap[b]?) {Kp : World → World → Prop} {S Sp : List α → Prop} {T : List α → World → Prop} {N : Nat} (hseq : SeqRel (n - 1) P gf lb encs R Kp S Sp T N w) (hT : OwnFrom w.heap.size T)
    (hKt : ∀ {A B C : World}, Kp A B → Kp B C → Kp A C) (hKb : ∀ (W : World) (l : Nat) (o o' : Obj), w.heap.size ≤ l → W.heap[l]? = some o → o.isCells = false → o.isWalk = false → Kp W (W.putObj l o')) (hps : ∀ x, (encs x).size = ps.size)
    (I : List α → World → Prop) (Ix : Code → List α → World → Prop) (hI : OwnFrom w.heap.size I) (hIx : ∀ c, OwnFrom w.heap.size (Ix c)) (fI : RFree R I) (fIx : ∀ c, RFree R (Ix c)) (h0 : I [] w) (a₁ : α → Act)
    (hassign : ∀ (l : Nat) (x : α) (W : World) (K : Act → World → Prop), K (a₁ x) W →
      assign.wpIn (Fence.wide.inRound l) (n - 1 - 1) P (Exit.then K (fun _ _ _ => False)) { tmps := (ps.zip (encs x)).foldl (fun t (p, v) => t.setIfInBounds p v) a.tmps, defers := [] } W)
    (hbody : ∀ (l : Nat) (pre : List α) (x : α) (W : World), w.heap.size ≤ l → l < W.heap.size → I pre W → pre.length < N → body.wpIn (Fence.wide.inRound l) (n - 1 - 1) P (ownPostG w.heap.size Kp I Ix (pre ++ [x]) W) (a₁ x) W)
    (hdone : ∀ (D : Nat) (xs : List α) (W : World), w.heap.size ≤ D → S xs → I xs W → T xs W → W.heap[D]? = some (.deferred (some [])) → Q .normal { a with defers := { target := .collected D, args := #[] } :: a.defers } W)
    (hstop : ∀ (D : Nat) (c : Code) (pre : List α) (W : World), w.heap.size ≤ D → Sp pre → Ix c pre W → W.heap[D]? = some (.deferred (some [])) → c.wpIn Fence.wide n P Q { a with defers := { target := .collected D, args := #[] } :: a.defers } W) :
    (Code.rangeFunc g ps assign body).wpIn Fence.wide n P Q a w := by
  refine wpIn_rangeFunc ?_
  intro fn hfn
  obtain ⟨rec, hrec⟩ : ∃ rec : LoopState → Option Code → Loop, rec = fun st pe => { state := st, pending := pe, fn, tmps := a.tmps, params := ps, assign, body, defers := w.heap.size } := ⟨_, rfl⟩
  have hup : ∀ s p s' p', ({ rec s p with state := s', pending := p' } : Loop) = rec s' p' := fun _ _ _ _ => by rw [hrec]
  have hst : ∀ s p, (rec s p).state = s := fun _ _ => by rw [hrec]
  obtain ⟨K, hK⟩ : ∃ K : Nat, K = w.heap.size := ⟨_, rfl⟩
  -- the two blocks of book-keeping
  let Bk : LoopState → Option Code → World → Prop := fun s p W => W.heap[K + 1]? = some (.loop (rec s p)) ∧ W.heap[K]? = some (.deferred (some []))
  have bkR : ∀ s p W W', Bk s p W → R W W' → Bk s p W' := fun s p W W' hb hr =>
    ⟨(hR W W' hr (K + 1) (by omega) (Array.getElem?_eq_some_iff.1 hb.1).1).trans hb.1, (hR W W' hr K (by omega) (Array.getElem?_eq_some_iff.1 hb.2).1).trans hb.2⟩
  have bkPut : ∀ s p s' p' W, Bk s p W → Bk s' p' (W.putObj (K + 1) (.loop (rec s' p'))) := fun s p s' p' W hb =>
    ⟨World.putObj_heap_same (Array.getElem?_eq_some_iff.1 hb.1).1, (World.putObj_heap_other (by omega)).trans hb.2⟩
  obtain ⟨W1, hW1⟩ : ∃ W1, (w.alloc (.deferred (some []))).alloc (.loop (rec .ready none)) = W1 := ⟨_, rfl⟩
  have hBk1 : Bk .ready none W1 := by
    subst hK
    rw [← hW1]
    refine ⟨?_, (Below.heap_alloc _ _ _ (by simp)).trans (World.alloc_heap_new w _)⟩
    have := World.alloc_heap_new (w.alloc (.deferred (some []))) (.loop (rec .ready none))
    rwa [World.size_alloc] at this
  have hI1 : I [] W1 := by rw [← hW1]; exact hI.alloc _ (hI.alloc _ h0)
  have hb1 : Below w.heap.size w W1 := by
    rw [← hW1]; exact ((Below.refl _ w).alloc (Nat.le_refl _) _).alloc (by simp) _
  refine ⟨w.heap.size + 1, [{ target := .collected w.heap.size, args := #[] }], W1, { target := .fn (.func gf) lb, args := #[.func (.yield (w.heap.size + 1)) #[] #[]] }, W1, gf,
    #[.func (.yield (w.heap.size + 1)) #[] #[]] ++ lb, W1, ?_, ?_, ?_, ?_, fun _ => h1, ?_⟩
  · rw [← hW1, hrec]; exact run_enterLoop_outer _ _ _ _ _
  · simp only [resolve, hg]
    simp [go_sem]
  · intro f' hf'; simp [Target.leads] at hf'; subst hf'; trivial
  · simp [invoke, go_sem, eg]
  rw [← hK]
  refine (hseq (K + 1) (fun pre W => I pre W ∧ Bk .ready none W) (fun pre W => ∃ c, Ix c pre W ∧ Bk .done (some c) W) W1 hb1
    (fun s W W' hs hr => ⟨fI s W W' hs.1 hr, bkR _ _ W W' hs.2 hr⟩) (fun s W W' hs hr => by obtain ⟨c, h2, h3⟩ := hs; exact ⟨c, fIx c s W W' h2 hr, bkR _ _ W W' h3 hr⟩) ?_ ⟨hI1, hBk1⟩).mono ?_
  · rintro pre x W ⟨hi, hb⟩ hlen
    have hlt : K + 1 < W.heap.size := (Array.getElem?_eq_some_iff.1 hb.1).1
    have hy := run_yield (P := P) (args := encs x) hb.1 (by rw [hrec]; exact hps x)
    have hbr := run_beginRound (P := P) hb.1 (hst _ _)
    rw [show ({ rec .ready none with state := .busy } : Loop) = rec .busy none by rw [hrec]] at hbr
    rw [hrec] at hy
    refine ⟨fn, _, assign, body, hy, roundIn_of_wpIn hfn (hassign _ x W _ ⟨_, hbr, ?_⟩)⟩
    have hb2 := bkPut _ _ .busy none W hb
    have hw2 : Kp W (W.putObj (K + 1) (.loop (rec .busy none))) := hKb _ _ _ _ (by omega) hb.1 rfl rfl
    refine wpIn_mono (hbody _ pre x _ (by omega) (Array.getElem?_eq_some_iff.1 hb2.1).1 (hI.putObj _ hi (by omega) hb.1 rfl) hlen) ?_
    have fin : ∀ (W3 : World), KeepsFrom w.heap.size (W.putObj (K + 1) (.loop (rec .busy none))) W3 → Bk .busy none W3 := fun W3 hk3 =>
      ⟨hk3.same _ _ (by omega) hb2.1 rfl, hk3.same _ _ (by omega) hb2.2 rfl⟩
    rintro e a3 W3 hp
    cases e with
    | normal =>
      obtain ⟨hk3, hkp3, hi3⟩ := hp
      have hb3 := fin W3 hk3
      exact ⟨_, _, loop_roundR hup none hb3.1, .inl ⟨rfl, ⟨hI.putObj _ hi3 (by omega) hb3.1 rfl, bkPut _ _ _ _ _ hb3⟩, hKt (hKt hw2 hkp3) (hKb _ _ _ _ (by omega) hb3.1 rfl rfl)⟩⟩
    | ret =>
      obtain ⟨hk3, hi3⟩ := hp
      have hb3 := fin W3 hk3
      exact ⟨_, _, loop_roundR hup (some .ret) hb3.1, .inr ⟨rfl, .ret, (hIx _).putObj _ hi3 (by omega) hb3.1 rfl, bkPut _ _ _ _ _ hb3⟩⟩
    | exit id =>
      obtain ⟨hk3, hi3⟩ := hp
      have hb3 := fin W3 hk3
      exact ⟨_, _, loop_roundR hup (some (.exit id)) hb3.1, .inr ⟨rfl, .exit id, (hIx _).putObj _ hi3 (by omega) hb3.1 rfl, bkPut _ _ _ _ _ hb3⟩⟩
    | goto t =>
      obtain ⟨hk3, hi3⟩ := hp
      have hb3 := fin W3 hk3
      exact ⟨_, _, loop_roundR hup (some (.goto t)) hb3.1, .inr ⟨rfl, .goto t, (hIx _).putObj _ hi3 (by omega) hb3.1 rfl, bkPut _ _ _ _ _ hb3⟩⟩
    | panic ch => exact hp.elim
    | outgrown => exact hp.elim
  · have hend : ∀ s p W2, Bk s p W2 → s ≠ .busy → (Instr.endLoop (K + 1)).run P W2 = .ok p (W2.putObj (K + 1) (.loop (rec .exhausted p))) := fun s p W2 hb hs => by
      have := run_endLoop (P := P) hb.1 (by rw [hst]; exact hs)
      rw [this, hrec]
    rintro e W2 ⟨⟨v, rfl⟩, (⟨xs, hS, ⟨hi, hb⟩, hTx⟩ | ⟨pre, hSp, c, hi, hb⟩)⟩
    · exact ⟨none, _, hend _ _ _ hb (by simp), hdone _ xs _ (by omega) hS (hI.putObj _ hi (by omega) hb.1 rfl) (hT.putObj _ hTx (by omega) hb.1 rfl) ((World.putObj_heap_other (by omega)).trans hb.2)⟩
    · exact ⟨some c, _, hend _ _ _ hb (by simp), hstop _ c pre _ (by omega) hSp ((hIx c).putObj _ hi (by omega) hb.1 rfl) ((World.putObj_heap_other (by omega)).trans hb.2)⟩

end Go.Proofs.YtaaplalfggofiaaGreatDoor

/-
  The iterator of runs.changes: the changes of a signal behind a time, up to another one.
-/
namespace Go.Proofs.YtaaplalfggofiaaGreatDoor
open Go.RowKit Go.Shelf

attribute [local go_sem] Oper.semAt_some

/-- the changes behind a time, up to another one -/
def beh (cs : List Chg) (t to_ : Int) : List Chg := cs.filter fun c => decide (t < c.time) && decide (c.time ≤ to_)
def Sorted47 (cs : List Chg) : Prop := cs.Pairwise fun a b => a.time < b.time
theorem beh_none {cs : List Chg} {t to_ : Int} (h : nextC t cs = none) : beh cs t to_ = [] := by
  unfold nextC at h
  rw [List.find?_eq_none] at h
  unfold beh
  rw [List.filter_eq_nil_iff]
  intro c hc
  have := h c hc
  simp at this ⊢
  omega
theorem beh_step : ∀ {cs : List Chg} {t to_ : Int} {c : Chg}, Sorted47 cs → nextC t cs = some c → t < c.time ∧ (c.time ≤ to_ → beh cs t to_ = c :: beh cs c.time to_) ∧ (to_ < c.time → beh cs t to_ = [])
  | [], _, _, _, _, h => by cases h
  | a :: r, t, to_, c, hs, h => by
    unfold Sorted47 at hs
    rw [List.pairwise_cons] at hs
    unfold nextC at h
    rw [List.find?_cons] at h
    by_cases ha : t < a.time
    · rw [decide_eq_true ha] at h
      injection h with h
      subst h
      refine ⟨ha, fun hle => ?_, fun hlt => ?_⟩
      · unfold beh
        rw [List.filter_cons, if_pos (by simp; omega), List.filter_cons, if_neg (by simp)]
        congr 1
        refine List.filter_congr fun x hx => ?_
        have := hs.1 x hx
        rw [decide_eq_true (show t < x.time by omega), decide_eq_true this]
      · unfold beh
        rw [List.filter_eq_nil_iff]
        intro x hx
        rcases List.mem_cons.1 hx with rfl | hx
        · simp; omega
        · have := hs.1 x hx
          simp; omega
    · rw [decide_eq_false ha] at h
      obtain ⟨h1, h2, h3⟩ := beh_step (to_ := to_) hs.2 h
      have e1 : beh (a :: r) t to_ = beh r t to_ := by unfold beh; rw [List.filter_cons, if_neg (by simp; omega)]
      have e2 : beh (a :: r) c.time to_ = beh r c.time to_ := by unfold beh; rw [List.filter_cons, if_neg (by simp; omega)]
      rw [e1, e2]
      exact ⟨h1, h2, h3⟩
theorem beh_mem {cs : List Chg} {t to_ : Int} {c : Chg} (h : c ∈ beh cs t to_) : c ∈ cs ∧ t < c.time ∧ c.time ≤ to_ := by
  unfold beh at h
  rw [List.mem_filter] at h
  simpa using h
theorem beh_len (cs : List Chg) (t to_ : Int) : (beh cs t to_).length ≤ cs.length := List.length_filter_le _ _

/-- the boxes that the iterator has caught: from, the source, the signal, the error's place, to -/
structure ChB (W : World) (Bf Bs Bg Be Bt : Nat) (f g t : Int) (M E : Nat) : Prop where
  f : W.heap[Bf]? = some (.cells #[.int .i64 f] 3 (0, 0))
  s : W.heap[Bs]? = some (.cells #[srcV M] 107 (0, 0))
  g : W.heap[Bg]? = some (.cells #[.int .i64 g] 3 (0, 0))
  e : W.heap[Be]? = some (.cells #[.pointer (some ⟨E, 0, none⟩)] 266 (0, 0))
  t : W.heap[Bt]? = some (.cells #[.int .i64 t] 3 (0, 0))
theorem ChB.keep {W W' : World} {Bf Bs Bg Be Bt : Nat} {f g t : Int} {M E : Nat} (h : ChB W Bf Bs Bg Be Bt f g t M E) (hk : ∀ b, b = Bf ∨ b = Bs ∨ b = Bg ∨ b = Be ∨ b = Bt → W'.heap[b]? = W.heap[b]?) : ChB W' Bf Bs Bg Be Bt f g t M E :=
  ⟨(hk _ (by simp)).trans h.f, (hk _ (by simp)).trans h.s, (hk _ (by simp)).trans h.g, (hk _ (by simp)).trans h.e, (hk _ (by simp)).trans h.t⟩
def errO (e : Int) : Obj := .cells #[.int .i64 e] 35 (0, 0)
theorem set_cell_other {W : World} {a b j : Nat} {v : Value} (h : b ≠ a) : (W.setCell ⟨a, j, none⟩ v).heap[b]? = W.heap[b]? := by
  simp [World.setCell, Array.getElem?_modify]
  intro e; exact absurd e.symm h
/-- the iterator's own steps: the source's count, the error, new blocks -/
def StepR (M E : Nat) (W W' : World) : Prop := W'.os = W.os ∧ W'.tape = W.tape ∧ W'.output = W.output ∧ W.heap.size ≤ W'.heap.size ∧ ∀ b, b < W.heap.size → b ≠ M → b ≠ E → W'.heap[b]? = W.heap[b]?
/-- what a round keeps: the source with its wave, the error, the boxes -/
def KpC (M E Bf Bs Bg Be Bt : Nat) (W W' : World) : Prop := (∀ b, b ≤ M ∨ b = E ∨ b = Bf ∨ b = Bs ∨ b = Bg ∨ b = Be ∨ b = Bt → W'.heap[b]? = W.heap[b]?) ∧
  ∀ (b : Nat) (cs : Array Value), W.heap[b]? = some (.cells cs 131 (0, 0)) → W'.heap[b]? = some (.cells cs 131 (0, 0))
def chEnc (c : Chg) : Array Value := #[.agg #[.int .i64 c.time, .string c.val]]
/-- how it ends: all changes were handed on, or the source's limit was met -/
def EndC (v : Wv) (L c : Int) (M E : Nat) (all : List Chg) (xs : List Chg) (W : World) : Prop :=
  (xs = all ∧ (L < 0 ∨ c + all.length + 1 ≤ L) ∧ SourceAt W M v L (c + all.length + 1) ∧ W.heap[E]? = some (errO 0)) ∨
  (0 ≤ L ∧ L < c + all.length + 1 ∧ (∃ c', SourceAt W M v L c') ∧ W.heap[E]? = some (errO 14))

theorem StepR.of {M E : Nat} {W W' : World} (h : But W.heap.size (some M) W W') : StepR M E W W' := ⟨h.os, h.tape, h.output, h.size, fun b hb hm _ => h.block b hb (fun e => by injection e with e; exact hm e)⟩
theorem StepR.trans {M E : Nat} {a b c : World} (h : StepR M E a b) (k : StepR M E b c) : StepR M E a c :=
  ⟨k.1.trans h.1, k.2.1.trans h.2.1, k.2.2.1.trans h.2.2.1, Nat.le_trans h.2.2.2.1 k.2.2.2.1, fun j hj h1 h2 => (k.2.2.2.2 j (Nat.lt_of_lt_of_le hj h.2.2.2.1) h1 h2).trans (h.2.2.2.2 j hj h1 h2)⟩
theorem StepR.below {M E : Nat} {W W' : World} (h : Below W.heap.size W W') : StepR M E W W' := ⟨h.os, h.tape, h.output, h.size, fun b hb _ _ => h.block b hb⟩
theorem StepR.err {M E : Nat} {W : World} (u : Value) : StepR M E W (W.setCell ⟨E, 0, none⟩ u) := ⟨rfl, rfl, rfl, by simp [World.setCell], fun b _ _ h2 => set_cell_other h2⟩
theorem ChB.step {W W' : World} {Bf Bs Bg Be Bt : Nat} {f g t : Int} {M E : Nat} (h : ChB W Bf Bs Bg Be Bt f g t M E) (hb : StepR M E W W') (hM : Bf ≠ M ∧ Bs ≠ M ∧ Bg ≠ M ∧ Be ≠ M ∧ Bt ≠ M) (hE : Bf ≠ E ∧ Bs ≠ E ∧ Bg ≠ E ∧ Be ≠ E ∧ Bt ≠ E) : ChB W' Bf Bs Bg Be Bt f g t M E :=
  ⟨(hb.2.2.2.2 _ (box_lt h.f) hM.1 hE.1).trans h.f, (hb.2.2.2.2 _ (box_lt h.s) hM.2.1 hE.2.1).trans h.s, (hb.2.2.2.2 _ (box_lt h.g) hM.2.2.1 hE.2.2.1).trans h.g, (hb.2.2.2.2 _ (box_lt h.e) hM.2.2.2.1 hE.2.2.2.1).trans h.e, (hb.2.2.2.2 _ (box_lt h.t) hM.2.2.2.2 hE.2.2.2.2).trans h.t⟩
/-- between two rounds -/
def CRel (v : Wv) (L c : Int) (M E Bf Bs Bg Be Bt : Nat) (k : Int) (cs : List Chg) (f to_ : Int) (J : List Chg → World → Prop) (g : Nat) (tv : Value) (wr : World) : Prop :=
  ∃ (t : Int) (pre : List Chg), tv = .int .i64 t ∧ f ≤ t ∧ t ≤ to_ ∧ pre ++ beh cs t to_ = beh cs f to_ ∧ g = (beh cs t to_).length ∧ J pre wr ∧ ChB wr Bf Bs Bg Be Bt f k to_ M E ∧ SourceAt wr M v L (c + pre.length) ∧ wr.heap[E]? = some (errO 0)

def IterP (J Jx : List Chg → World → Prop) (v : Wv) (L c : Int) (M E : Nat) (all : List Chg) (e : Ending) (W' : World) : Prop :=
  (∃ v, e = .returned v) ∧ ((∃ xs, True ∧ J xs W' ∧ EndC v L c M E all xs W') ∨ (∃ pre, True ∧ Jx pre W'))
set_option maxRecDepth 100000 in
set_option maxHeartbeats 2000000 in
theorem iter_in (n lp : Nat) (v : Wv) (L c : Int) (M E Bf Bs Bg Be Bt k : Nat) (s : Sgn) (f to_ : Int) (hn : 1 ≤ n) (hs : v.sigs[k]? = some s) (hcs : Sorted47 s.chs) (hl : s.chs.length ≤ 1000) (h0 : 0 ≤ c) (h1 : c ≤ 900000) (hf : -1 ≤ f) (hft : f ≤ to_) (hto : to_ ≤ v.fin) (hME : M < E)
    (hBM : Bf ≠ M ∧ Bs ≠ M ∧ Bg ≠ M ∧ Be ≠ M ∧ Bt ≠ M) (hE : Bf ≠ E ∧ Bs ≠ E ∧ Bg ≠ E ∧ Be ≠ E ∧ Bt ≠ E) (J Jx : List Chg → World → Prop) (fJ : RFree (StepR M E) J)
    (hY : ∀ pre x W, J pre W → pre.length < s.chs.length → YieldAt Fence.wide (n - 1) Tryz.prog lp (chEnc x) W fun e W' =>
      (e = .returned (.bool true) ∧ J (pre ++ [x]) W' ∧ KpC M E Bf Bs Bg Be Bt W W') ∨ (e = .returned (.bool false) ∧ Jx (pre ++ [x]) W'))
    (W : World) (h : ChB W Bf Bs Bg Be Bt f k to_ M E) (hsr : SourceAt W M v L c) (he : W.heap[E]? = some (errO 0)) (hJ0 : J [] W) :
    CallsIn Fence.wide n Tryz.prog 249 #[.func (.yield lp) #[] #[], .pointer (some ⟨Bf, 0, none⟩), .pointer (some ⟨Bs, 0, none⟩), .pointer (some ⟨Bg, 0, none⟩), .pointer (some ⟨Be, 0, none⟩), .pointer (some ⟨Bt, 0, none⟩)] W (IterP J Jx v L c M E (beh s.chs f to_)) := by
  refine callsIn_of_wp Tryz.func249 rfl trivial ?_ rfl
  simp only [Tryz.ntmps249, List.size_toArray, List.length_cons, List.length_nil, Nat.reduceAdd, Nat.reduceSub, Array.replicate_succ, Array.replicate_zero, List.push_toArray, List.append_toArray, List.nil_append, List.cons_append]
  have f1 := box_cell h.f
  gi_wp2_with fail
  gi_loopg [7] (beh s.chs f to_).length (fun g tv wr => CRel v L c M E Bf Bs Bg Be Bt k s.chs f to_ J g tv wr)
  case atStart => exact ⟨f, [], rfl, Int.le_refl _, hft, rfl, rfl, hJ0, h, by simpa using hsr, he⟩
  case round =>
    obtain ⟨t, pre, rfl, ht0, ht1, hpre, hg, hJ, hb, hsr, he⟩ := hrel
    have b1 := box_cell hb.f
    have b2 := box_cell hb.s
    have b3 := box_cell hb.g
    have b4 := box_cell hb.e
    have b5 := box_cell hb.t
    unfold srcV at b2
    have hm := meth_next (some ⟨M, 0, none⟩)
    have hk : k < v.sigs.length := (List.getElem?_eq_some_iff.1 hs).1
    have HPRE := hide hpre
    have hplen : pre.length + (beh s.chs t to_).length = (beh s.chs f to_).length := by rw [← hpre, List.length_append]
    have hal := beh_len s.chs f to_
    have HG := hide hg
    have HJ := hide hJ
    have HB := hide hb
    have HSR := hide hsr
    have HE := hide he
    clear hpre hg hJ hb hsr he
    by_cases hth : 0 ≤ L ∧ L < c + pre.length + 1
    · have hq : callC L (c + pre.length) k v.sigs.length = 14 := by unfold callC; rw [if_pos hth]
      have HNX := hide (next_err M v L (c + pre.length) k t wr HSR.out (by omega) (by omega) 14 hq (by decide))
      clear hq
      gi_wp2_with fail
      refine ⟨trivial, (callsIn_wide.2 HNX.out).mono ?_⟩
      rintro e w2 ⟨rfl, hs2⟩
      have hst : StepR M E wr w2 := StepR.of hs2.2
      have hb2 := HB.out.step hst hBM hE
      have he2 : w2.heap[E]? = some (errO 0) := (hs2.2.block E (box_lt HE.out) (fun e => by injection e with e; omega)).trans HE.out
      have z4 := box_cell hb2.e
      have fe := box_frozen he2
      have ce := box_cell he2
      have HS2 := hide hs2
      have HST := hide hst
      have HE2 := hide he2
      have hlE := box_lt he2
      have hle := box_lt hb2.e
      clear hs2 hst hb2 he2 b1 b2 b3 b4 b5 HNX
      gi_wp2_with fail
      refine bodyPost_ret (results_none rfl _ _ _) rfl ?_
      have hgo : ∀ W9, W9 = w2.setCell ⟨E, 0, none⟩ (.int .i64 14) → StepR M E wr W9 ∧ SourceAt W9 M v L (c + pre.length + 1) ∧ W9.heap[E]? = some (errO 14) := fun W9 h => by
        subst h
        refine ⟨HST.out.trans (StepR.err _), HS2.out.1.keep fun b hb => set_cell_other (by omega), ?_⟩
        have := HE2.out
        unfold errO at this ⊢
        simp [World.setCell, Array.getElem?_modify, this]
      have HGO := hide hgo
      clear hgo
      obtain ⟨y1, y2, y3⟩ := HGO.out _ rfl
      have hbA : ∀ (W9 : World) o, Below W9.heap.size W9 (W9.alloc o) := fun W9 o => (Below.refl _ _).alloc (Nat.le_refl _) _
      refine ⟨⟨_, rfl⟩, .inl ⟨pre, trivial, fJ _ _ _ HJ.out (y1.trans (StepR.below (hbA _ _))), .inr ⟨hth.1, by omega, ⟨_, y2.below (hbA _ _)⟩, box_alloc y3⟩⟩⟩
    · have hq : callC L (c + pre.length) k v.sigs.length = 0 := by unfold callC; rw [if_neg hth, if_neg (by omega)]
      have hroom : L < 0 ∨ c + pre.length + 1 ≤ L := by omega
      have HNX := hide (next_ok M v L (c + pre.length) t k wr HSR.out (by omega) (by omega) hq s hs (by omega) (by omega) hl)
      clear hq hth
      have hbA : ∀ (W9 : World) o, Below W9.heap.size W9 (W9.alloc o) := fun W9 o => (Below.refl _ _).alloc (Nat.le_refl _) _
      have HBA := hide hbA
      cases hnc : nextC t s.chs with
      | none =>
        have hrem := beh_none (to_ := to_) hnc
        have hv : nextV t s.chs = .tuple #[.agg #[.int .i64 0, .string ⟨#[]⟩], .int .i64 6] := by unfold nextV; rw [hnc]
        rw [hv] at HNX
        have hpe : pre = beh s.chs f to_ := by have := HPRE.out; rwa [hrem, List.append_nil] at this
        have HPE := hide hpe
        clear hnc hrem hv hpe hbA
        gi_wp2_with fail
        refine ⟨trivial, (callsIn_wide.2 HNX.out).mono ?_⟩
        rintro e w2 ⟨rfl, hs2⟩
        have HS2 := hide hs2
        have hst : StepR M E wr w2 := StepR.of hs2.2
        have HST := hide hst
        have HE2 := hide (show w2.heap[E]? = some (errO 0) from (hs2.2.block E (box_lt HE.out) (fun e => by injection e with e; omega)).trans HE.out)
        clear hs2 hst b1 b2 b3 b4 b5 HNX
        gi_wp2_with fail
        refine bodyPost_ret (results_none rfl _ _ _) rfl ?_
        refine ⟨⟨_, rfl⟩, .inl ⟨pre, trivial, fJ _ _ _ HJ.out (HST.out.trans (StepR.below (HBA.out _ _))), .inl ⟨HPE.out, by rw [← HPE.out]; exact hroom, by rw [← HPE.out]; exact HS2.out.1.below (HBA.out _ _), box_alloc HE2.out⟩⟩⟩
      | some cg =>
        obtain ⟨g1, g2, g3⟩ := beh_step (to_ := to_) hcs hnc
        have hv : nextV t s.chs = .tuple #[.agg #[.int .i64 cg.time, .string cg.val], .int .i64 0] := by unfold nextV; rw [hnc]
        rw [hv] at HNX
        have hmem : cg.time ≤ to_ → pre.length < s.chs.length := fun h => by have h2 := g2 h; rw [h2] at hplen; simp at hplen; omega
        have HMEM := hide hmem
        have G2 := hide g2
        have G3 := hide g3
        obtain ⟨ct, cv⟩ := cg
        dsimp only at *
        clear hnc hv hbA g2 g3 hmem
        gi_wp2_with fail
        refine ⟨trivial, (callsIn_wide.2 HNX.out).mono ?_⟩
        rintro e w2 ⟨rfl, hs2⟩
        have HS2 := hide hs2
        have hst : StepR M E wr w2 := StepR.of hs2.2
        have hb2 := HB.out.step hst hBM hE
        have z5 := box_cell hb2.t
        have l5 := box_lt hb2.t
        have HB2 := hide hb2
        have HST := hide hst
        have HE2 := hide (show w2.heap[E]? = some (errO 0) from (hs2.2.block E (box_lt HE.out) (fun e => by injection e with e; omega)).trans HE.out)
        clear hs2 hst hb2 b1 b2 b3 b4 b5 HNX
        by_cases hle : ct ≤ to_
        · have hJ2 := fJ _ _ _ HJ.out (HST.out.trans (StepR.below (HBA.out w2 (.cells #[.int .i64 ct, .string cv] 131))))
          have HY := hide (hY pre ⟨ct, cv⟩ _ hJ2 (HMEM.out hle))
          unfold chEnc at HY
          dsimp only at HY
          have HREM := hide (G2.out hle)
          clear hJ2 G2 G3
          obtain ⟨fn, tmps, assign, body, hy, hR⟩ := HY.out
          have HR := hide hR
          clear hR HY
          gi_wp2_with fail
          refine HR.out.mono ?_
          rintro e W3 (⟨rfl, hJ3, hk3⟩ | ⟨rfl, hJx3⟩)
          · have hb3 := (HB2.out.step (StepR.below (HBA.out w2 (.cells #[.int .i64 ct, .string cv] 131))) hBM hE).keep (W' := W3) (fun b hb => hk3.1 b (by rcases hb with h | h | h | h | h <;> simp [h]))
            have HB3 := hide hb3
            have HS3 := hide ((HS2.out.1.below (HBA.out w2 (.cells #[.int .i64 ct, .string cv] 131))).keep (w' := W3) (fun b hb => hk3.1 b (.inl hb)))
            have HE3 := hide ((hk3.1 E (by simp)).trans (box_alloc (o' := .cells #[.int .i64 ct, .string cv] 131) HE2.out))
            have HJ3 := hide hJ3
            have hc3 := hk3.2 w2.heap.size #[.int .i64 ct, .string cv] (heap_alloc_new w2 _)
            have z1 := (box2 hc3).1
            clear hb3 hk3 hJ3 hc3 hy z5 l5
            gi_wp2
            gi_roundg (beh s.chs ct to_).length
            case measure => rw [HG.out, HREM.out]; simp
            case rel =>
              refine ⟨ct, pre ++ [⟨ct, cv⟩], rfl, by omega, hle, ?_, rfl, HJ3.out, HB3.out, ?_, HE3.out⟩
              · have h9 := HPRE.out; rw [HREM.out] at h9; simpa using h9
              · have h9 := HS3.out; rw [show c + ((pre ++ [(⟨ct, cv⟩ : Chg)]).length : Int) = c + pre.length + 1 by simp; omega]; exact h9
          · gi_wp2
            refine bodyPost_ret (results_none rfl _ _ _) rfl ?_
            exact ⟨⟨_, rfl⟩, .inr ⟨_, trivial, hJx3⟩⟩
        · have hrem := G3.out (by omega)
          have hpe : pre = beh s.chs f to_ := by have := HPRE.out; rwa [hrem, List.append_nil] at this
          have HPE := hide hpe
          clear hrem hpe G2 G3 HMEM
          gi_wp2_with fail
          refine ⟨fun _ h => (by cases h), ?_⟩
          gi_wp2_with fail
          refine bodyPost_ret (results_none rfl _ _ _) rfl ?_
          refine ⟨⟨_, rfl⟩, .inl ⟨pre, trivial, fJ _ _ _ HJ.out (HST.out.trans (StepR.below (HBA.out _ _))), .inl ⟨HPE.out, by rw [← HPE.out]; exact hroom, by rw [← HPE.out]; exact HS2.out.1.below (HBA.out _ _), box_alloc HE2.out⟩⟩⟩

end Go.Proofs.YtaaplalfggofiaaGreatDoor
