/-
  Several texts in one: Of47. Each says at its head what it holds.
-/
import Derived.Test.YtaaplalfggofiaaGreatDoorEC21
import Derived.Deep.RegionHeld3
import Derived.Outline

/-
  runs.changes and Of.
-/
namespace Go.Proofs.YtaaplalfggofiaaGreatDoor
open Go.RowKit Go.Shelf

attribute [local go_sem] Oper.semAt_some

theorem alloc5 (w : World) (o0 o1 o2 o3 o4 : Obj) {W : World} (hW : ((((w.alloc o0).alloc o1).alloc o2).alloc o3).alloc o4 = W) : W.heap[w.heap.size]? = some o0 ∧ W.heap[w.heap.size + 1]? = some o1 ∧ W.heap[w.heap.size + 1 + 1]? = some o2 ∧ W.heap[w.heap.size + 1 + 1 + 1]? = some o3 ∧ W.heap[w.heap.size + 1 + 1 + 1 + 1]? = some o4 ∧ Below w.heap.size w W := by
  subst hW
  have s1 : (w.alloc o0).heap.size = w.heap.size + 1 := World.size_alloc _ _
  have s2 : ((w.alloc o0).alloc o1).heap.size = w.heap.size + 1 + 1 := by rw [World.size_alloc, s1]
  have s3 : (((w.alloc o0).alloc o1).alloc o2).heap.size = w.heap.size + 1 + 1 + 1 := by rw [World.size_alloc, s2]
  have s4 : ((((w.alloc o0).alloc o1).alloc o2).alloc o3).heap.size = w.heap.size + 1 + 1 + 1 + 1 := by rw [World.size_alloc, s3]
  have n0 := heap_alloc_new w o0
  have n1 := heap_alloc_new (w.alloc o0) o1
  have n2 := heap_alloc_new ((w.alloc o0).alloc o1) o2
  have n3 := heap_alloc_new (((w.alloc o0).alloc o1).alloc o2) o3
  have n4 := heap_alloc_new ((((w.alloc o0).alloc o1).alloc o2).alloc o3) o4
  rw [s1] at n1
  rw [s2] at n2
  rw [s3] at n3
  rw [s4] at n4
  exact ⟨box_alloc (box_alloc (box_alloc (box_alloc n0))), box_alloc (box_alloc (box_alloc n1)), box_alloc (box_alloc n2), box_alloc n3, n4,
    ((((((Below.refl _ _).alloc (Nat.le_refl _) _).alloc (by omega) _).alloc (by omega) _).alloc (by omega) _).alloc (by omega) _)⟩

set_option maxRecDepth 100000 in
theorem changes_any (M E : Nat) (k f t : Int) (w : World) :
    Calls Tryz.prog 193 #[srcV M, .int .i64 k, .int .i64 f, .int .i64 t, .pointer (some ⟨E, 0, none⟩)] w fun e w' =>
      e = .returned (.func (.func 249) #[] #[.pointer (some ⟨w.heap.size + 1 + 1, 0, none⟩), .pointer (some ⟨w.heap.size, 0, none⟩), .pointer (some ⟨w.heap.size + 1, 0, none⟩), .pointer (some ⟨w.heap.size + 1 + 1 + 1 + 1, 0, none⟩), .pointer (some ⟨w.heap.size + 1 + 1 + 1, 0, none⟩)]) ∧
      Below w.heap.size w w' ∧ ChB w' (w.heap.size + 1 + 1) w.heap.size (w.heap.size + 1) (w.heap.size + 1 + 1 + 1 + 1) (w.heap.size + 1 + 1 + 1) f k t M E ∧ w.heap.size + 1 + 1 + 1 + 1 < w'.heap.size := by
  unfold srcV
  go_enter Tryz.func193, Tryz.ntmps193
  go_wp2_with fail
  go_ret
  obtain ⟨h0, h1, h2, h3, h4, hb⟩ := alloc5 w (.cells #[srcV M] 107) (.cells #[.int .i64 k] 3) (.cells #[.int .i64 f] 3) (.cells #[.int .i64 t] 3) (.cells #[.pointer (some ⟨E, 0, none⟩)] 266) rfl
  exact ⟨rfl, hb, ⟨h2, h0, h1, h4, h3⟩, box_lt h4⟩

theorem seq_changes (v : Wv) (L c : Int) (M E Bf Bs Bg Be Bt k : Nat) (s : Sgn) (f to_ : Int) (hs : v.sigs[k]? = some s) (hcs : Sorted47 s.chs) (hl : s.chs.length ≤ 1000) (h0 : 0 ≤ c) (h1 : c ≤ 900000) (hf : -1 ≤ f) (hft : f ≤ to_) (hto : to_ ≤ v.fin) (hME : M < E)
    (hBM : Bf ≠ M ∧ Bs ≠ M ∧ Bg ≠ M ∧ Be ≠ M ∧ Bt ≠ M) (hE : Bf ≠ E ∧ Bs ≠ E ∧ Bg ≠ E ∧ Be ≠ E ∧ Bt ≠ E) (w : World) (h : ChB w Bf Bs Bg Be Bt f k to_ M E) (hsr : SourceAt w M v L c) (he : w.heap[E]? = some (errO 0)) :
    SeqRel 5 Tryz.prog 249 #[.pointer (some ⟨Bf, 0, none⟩), .pointer (some ⟨Bs, 0, none⟩), .pointer (some ⟨Bg, 0, none⟩), .pointer (some ⟨Be, 0, none⟩), .pointer (some ⟨Bt, 0, none⟩)] chEnc (StepR M E) (KpC M E Bf Bs Bg Be Bt) (fun _ => True) (fun _ => True) (EndC v L c M E (beh s.chs f to_)) s.chs.length w := by
  intro l J Jx W hb fJ fJx hY hJ0
  refine iter_in 5 l v L c M E Bf Bs Bg Be Bt k s f to_ (by omega) hs hcs hl h0 h1 hf hft hto hME hBM hE J Jx fJ hY W (h.keep fun b hb' => ?_) (hsr.below hb) ((hb.block _ (box_lt he)).trans he) hJ0
  rcases hb' with rfl | rfl | rfl | rfl | rfl
  · exact hb.block _ (box_lt h.f)
  · exact hb.block _ (box_lt h.s)
  · exact hb.block _ (box_lt h.g)
  · exact hb.block _ (box_lt h.e)
  · exact hb.block _ (box_lt h.t)

theorem endC_own (v : Wv) (L c : Int) (M E : Nat) (all : List Chg) (base : Nat) (hM : M < base) (hE : E < base) : OwnFrom base (EndC v L c M E all) := by
  intro xs W W' row h hg hr
  have keep : ∀ b, b < base → b < W.heap.size → W'.heap[b]? = W.heap[b]? := fun b h1 h2 => hg.block b h2 fun e => by have := (hr b e.symm).1; omega
  have src : ∀ c', SourceAt W M v L c' → SourceAt W' M v L c' := fun c' h => h.keep fun b hb => keep b (by omega) (Nat.lt_of_le_of_lt hb h.lt)
  rcases h with ⟨h1, h2, h3, h4⟩ | ⟨h1, h2, ⟨c', h3⟩, h4⟩
  · exact .inl ⟨h1, h2, src _ h3, (keep _ hE (box_lt h4)).trans h4⟩
  · exact .inr ⟨h1, h2, ⟨c', src _ h3⟩, (keep _ hE (box_lt h4)).trans h4⟩

/-- what runs.Of answers -/
def OfPost (v : Wv) (L c : Int) (M : Nat) (s : Sgn) (f to_ : Int) (w : World) (e : Ending) (w' : World) : Prop :=
  ((L < 0 ∨ c + (beh s.chs f to_).length + 3 ≤ L) ∧ ∃ (A : Option Addr) (cp : Nat) (l : List Spn), e = .returned (.tuple #[.slice A l.length cp, .int .i64 0]) ∧ OwnSp w' w.heap.size A cp l ∧ Spans (valS s) f to_ l ∧ l.length ≤ s.chs.length + 1 ∧ SrcTo w M v L (c + (beh s.chs f to_).length + 3) w') ∨
  (0 ≤ L ∧ L < c + (beh s.chs f to_).length + 3 ∧ e = .returned (.tuple #[.slice none 0 0, .int .i64 14]) ∧ ∃ c', SrcTo w M v L c' w')

/-- the results' boxes behind a return with an error: the source is as it was -/
theorem errTail {w W : World} {M : Nat} {v : Wv} {L c : Int} (h : SrcTo w M v L c W) (hM : M < w.heap.size) {t : TypeId} (u x : Value) (o : Obj)
    (q0 : W.heap[w.heap.size]? = some (.cells #[u] t (0, 0))) {e : Int} (q1 : W.heap[w.heap.size + 1]? = some (errO e)) (e' : Int) {W9 : World}
    (hW : (((W.setCell ⟨w.heap.size, 0, none⟩ x).setCell ⟨w.heap.size + 1, 0, none⟩ (.int .i64 e')).alloc o).drew = W9) :
    W9.cell? ⟨w.heap.size, 0, none⟩ = some x ∧ W9.cell? ⟨w.heap.size + 1, 0, none⟩ = some (.int .i64 e') ∧ SrcTo w M v L c W9 := by
  have hb : Below w.heap.size W W9 := by
    rw [← hW]
    have h1 := ((Below.refl w.heap.size W).setCell (p := ⟨w.heap.size, 0, none⟩) (Nat.le_refl _) x).setCell (p := ⟨w.heap.size + 1, 0, none⟩) (by simp) (.int .i64 e')
    have h2 := h1.alloc (by simp [World.setCell]; exact h.2.size) o
    exact h2.drew
  have l0 := box_lt q0
  have l1 := box_lt q1
  unfold errO at q1
  subst hW
  refine ⟨?_, ?_, h.set (Nat.le_refl _) hM hb⟩
  · have : ((((W.setCell ⟨w.heap.size, 0, none⟩ x).setCell ⟨w.heap.size + 1, 0, none⟩ (.int .i64 e')).alloc o).drew).heap[w.heap.size]? = some (.cells #[x] t (0, 0)) := by
      refine (box_alloc (w := (W.setCell ⟨w.heap.size, 0, none⟩ x).setCell ⟨w.heap.size + 1, 0, none⟩ (.int .i64 e')) ?_)
      simp [World.setCell, Array.getElem?_modify, q0]
    exact box_cell this
  · have : ((((W.setCell ⟨w.heap.size, 0, none⟩ x).setCell ⟨w.heap.size + 1, 0, none⟩ (.int .i64 e')).alloc o).drew).heap[w.heap.size + 1]? = some (errO e') := by
      refine (box_alloc (w := (W.setCell ⟨w.heap.size, 0, none⟩ x).setCell ⟨w.heap.size + 1, 0, none⟩ (.int .i64 e')) ?_)
      simp [World.setCell, Array.getElem?_modify, q1, errO]
    exact box_cell this
theorem errTail2 {w W : World} {M : Nat} {v : Wv} {L c : Int} (h : SrcTo w M v L c W) (hM : M < w.heap.size) {t : TypeId} (u x : Value)
    (q0 : W.heap[w.heap.size]? = some (.cells #[u] t (0, 0))) {e : Int} (q1 : W.heap[w.heap.size + 1]? = some (errO e)) (e' : Int) {W9 : World}
    (hW : ((W.setCell ⟨w.heap.size, 0, none⟩ x).setCell ⟨w.heap.size + 1, 0, none⟩ (.int .i64 e')).drew = W9) :
    W9.cell? ⟨w.heap.size, 0, none⟩ = some x ∧ W9.cell? ⟨w.heap.size + 1, 0, none⟩ = some (.int .i64 e') ∧ SrcTo w M v L c W9 := by
  have hb : Below w.heap.size W W9 := by
    rw [← hW]
    have h1 := ((Below.refl w.heap.size W).setCell (p := ⟨w.heap.size, 0, none⟩) (Nat.le_refl _) x).setCell (p := ⟨w.heap.size + 1, 0, none⟩) (by simp) (.int .i64 e')
    exact h1.drew
  have l0 := box_lt q0
  have l1 := box_lt q1
  unfold errO at q1
  subst hW
  refine ⟨?_, ?_, h.set (Nat.le_refl _) hM hb⟩
  · have : (((W.setCell ⟨w.heap.size, 0, none⟩ x).setCell ⟨w.heap.size + 1, 0, none⟩ (.int .i64 e')).drew).heap[w.heap.size]? = some (.cells #[x] t (0, 0)) := by
      simp [World.setCell, Array.getElem?_modify, q0, World.drew]
    exact box_cell this
  · have : (((W.setCell ⟨w.heap.size, 0, none⟩ x).setCell ⟨w.heap.size + 1, 0, none⟩ (.int .i64 e')).drew).heap[w.heap.size + 1]? = some (errO e') := by
      simp [World.setCell, Array.getElem?_modify, q1, errO, World.drew]
    exact box_cell this

theorem chO_cells {W : World} {N : Nat} {a : Int} {b : ByteArray} (h : W.heap[N]? = some (chO a b)) : W.cell? ⟨N, 0, none⟩ = some (.int .i64 a) ∧ W.cell? ⟨N, 1, none⟩ = some (.string b) := by
  unfold chO at h
  exact ⟨by rw [cell_of_row W N _ _ _ (0, 0) h]; rfl, by rw [cell_of_row W N _ _ _ (0, 0) h]; rfl⟩
/-- behind the two stores of the results and the taking of a mark -/
theorem tail47 {w W : World} {M : Nat} {v : Wv} {L c : Int} (h : SrcTo w M v L c W) (hM : M < w.heap.size) {t : TypeId} (u x : Value)
    (q0 : W.heap[w.heap.size]? = some (.cells #[u] t (0, 0))) {e : Int} (q1 : W.heap[w.heap.size + 1]? = some (errO e)) (e' : Int) {D : Nat} (hD : w.heap.size + 2 ≤ D) (hd : W.heap[D]? = some (.deferred (some []))) (o : Obj) {W9 : World}
    (hh : W9.heap = ((W.setCell ⟨w.heap.size, 0, none⟩ x).setCell ⟨w.heap.size + 1, 0, none⟩ (.int .i64 e')).heap) (ho : W9.os = W.os) (ht : W9.tape = W.tape) (hp : W9.output = W.output) :
    W9.heap[D]? = some (.deferred (some [])) ∧ (W9.putObj D o).cell? ⟨w.heap.size, 0, none⟩ = some x ∧ (W9.putObj D o).cell? ⟨w.heap.size + 1, 0, none⟩ = some (.int .i64 e') ∧ SrcTo w M v L c (W9.putObj D o) ∧ (∀ g, w.heap.size + 2 ≤ g → g ≠ D → (W9.putObj D o).heap[g]? = W.heap[g]?) := by
  have l0 := box_lt q0
  have l1 := box_lt q1
  unfold errO at q1
  have k0 : W9.heap[w.heap.size]? = some (.cells #[x] t (0, 0)) := by rw [hh]; simp [World.setCell, Array.getElem?_modify, q0]
  have k1 : W9.heap[w.heap.size + 1]? = some (errO e') := by rw [hh]; simp [World.setCell, Array.getElem?_modify, q1, errO]
  have ko : ∀ b, b ≠ w.heap.size → b ≠ w.heap.size + 1 → W9.heap[b]? = W.heap[b]? := fun b h1 h2 => by
    rw [hh, set_cell_other h2, set_cell_other h1]
  have hsz : W9.heap.size = W.heap.size := by rw [hh]; simp [World.setCell]
  have kp : ∀ b, b ≠ w.heap.size → b ≠ w.heap.size + 1 → b ≠ D → (W9.putObj D o).heap[b]? = W.heap[b]? := fun b h1 h2 h3 => (World.putObj_heap_other h3).trans (ko b h1 h2)
  refine ⟨(ko D (by omega) (by omega)).trans hd, box_cell ((World.putObj_heap_other (by omega)).trans k0), box_cell ((World.putObj_heap_other (by omega)).trans k1), ⟨h.1.keep fun b hb => kp b (by omega) (by omega) (by omega), ?_⟩, fun g h1 h2 => kp g (by omega) (by omega) h2⟩
  refine ⟨ho.trans h.2.os, ht.trans h.2.tape, hp.trans h.2.output, ?_, fun b hb hn => (kp b (by omega) (by omega) (by omega)).trans (h.2.block b hb hn)⟩
  rw [World.putObj_size, hsz]
  exact h.2.size
theorem OfI.boxO {F : OFix} {f k to_ : Int} {l l' : List Spn} {A A' : Option Addr} {c c' : Nat} {W W' : World} (ok : F.Ok) (h : OfI F f k to_ l A c W) (_ho : OwnSp W' F.B A' c' l') (hb : But W.heap.size (ob A) W W') : W'.heap[F.O]? = some (.cells #[.slice A l.length c] 65 (0, 0)) := by
  have _ := ok.m
  refine (hb.block F.O (box_lt h.box) fun e => ?_).trans h.box
  obtain ⟨cs', h3⟩ := own_cellsT h.own e.symm
  have h1 := h.box
  rw [h3] at h1
  injection h1 with h1
  injection h1 with _ h1
  cases h1
theorem OfI.kp {F : OFix} {f k to_ : Int} {l : List Spn} {A : Option Addr} {c : Nat} {W W' : World} (ok : F.Ok) (h : OfI F f k to_ l A c W) (hb : Below W.heap.size W W') : KpC F.M F.E (F.O + 1 + 1 + 1) (F.O + 1) (F.O + 1 + 1) (F.O + 1 + 1 + 1 + 1 + 1) (F.O + 1 + 1 + 1 + 1) W W' := by
  have o1 := ok.m
  have o2 := ok.e
  have o3 := ok.b
  have o4 := ok.o
  have o5 := h.but.size
  have o6 := box_lt h.box
  have o7 := box_lt h.ch.f
  have o8 := box_lt h.ch.s
  have o9 := box_lt h.ch.g
  have p1 := box_lt h.ch.e
  have p2 := box_lt h.ch.t
  refine ⟨fun b hb' => hb.block b ?_, fun b cs h1 => (hb.block b (box_lt h1)).trans h1⟩
  rcases hb' with hb' | rfl | rfl | rfl | rfl | rfl | rfl <;> omega

set_option maxRecDepth 100000 in
set_option maxHeartbeats 4000000 in
theorem of_any (v : Wv) (L c : Int) (M k : Nat) (s : Sgn) (f to_ : Int) (w : World) (h : SourceAt w M v L c) (hs : v.sigs[k]? = some s) (hcs : Sorted47 s.chs) (hl : s.chs.length ≤ 1000) (hw : s.kind = 0 → s.width ≤ 1000) (hk3 : s.kind ≠ 3)
    (h0 : 0 ≤ c) (h1 : c ≤ 800000) (hf : 0 ≤ f) (hft : f ≤ to_) (hto : to_ ≤ v.fin) (hfin : v.fin ≤ 4398046511104) :
    Calls Tryz.prog 131 #[srcV M, .int .i64 (k : Int), .int .i64 f, .int .i64 to_] w (OfPost v L c M s f to_ w) := by
  unfold srcV
  refine (callsIn_wide (n := 6)).1 ?_
  refine callsIn_of_wp_marks Tryz.func131 rfl trivial ?_ rfl
  simp only [Tryz.ntmps131, List.size_toArray, List.length_cons, List.length_nil, Nat.reduceAdd, Nat.reduceSub, Array.replicate_succ, Array.replicate_zero, List.push_toArray, List.append_toArray, List.nil_append, List.cons_append]
  have hme := meth_end (some ⟨M, 0, none⟩)
  have hmk := meth_kind (some ⟨M, 0, none⟩)
  have hmv := meth_value (some ⟨M, 0, none⟩)
  have d1 : decide (f < 0) = false := decide_eq_false (by omega)
  have d2 : decide (to_ < f) = false := decide_eq_false (by omega)
  have d3 : decide (v.fin < to_) = false := decide_eq_false (by omega)
  have hk : k < v.sigs.length := (List.getElem?_eq_some_iff.1 hs).1
  have hlt := h.lt
  gi_wp2_with fail
  generalize hW0 : World.alloc (World.alloc _ _) _ = W0
  have hb0 : Below w.heap.size w W0 := by rw [← hW0]; exact ((Below.refl _ _).alloc (Nat.le_refl _) _).alloc (by simp) _
  have r0 : W0.heap[w.heap.size]? = some (.cells #[.slice none 0 0] 65 (0, 0)) := by rw [← hW0]; exact box_alloc (heap_alloc_new w _)
  have r1 : W0.heap[w.heap.size + 1]? = some (errO 0) := by
    rw [← hW0]
    have := heap_alloc_new (w.alloc (.cells #[.slice none 0 0] 65)) (errO 0)
    rw [World.size_alloc] at this
    exact this
  have hs0 := h.below hb0
  have H0 := hide (SrcTo.start h hb0)
  have HS0 := hide hs0
  clear hW0 h hb0
  refine ⟨trivial, (callsIn_wide.2 (end_any M v L c W0 HS0.out)).mono ?_⟩
  rintro e w1 ⟨rfl, rfl⟩
  gi_wp2_with fail
  by_cases hth : 0 ≤ L ∧ L < c + 1
  · have hq : callC L c k v.sigs.length = 14 := by unfold callC; rw [if_pos hth]
    refine ⟨trivial, (callsIn_wide.2 (kind_err M v L c k W0 HS0.out h0 (by omega) 14 hq (by decide))).mono ?_⟩
    rintro e w1 ⟨rfl, hs1⟩
    have HS1 := hide (H0.out.trans hs1)
    have q0 : w1.heap[w.heap.size]? = some (.cells #[.slice none 0 0] 65 (0, 0)) := (hs1.2.block _ (box_lt r0) (fun e => by injection e with e; omega)).trans r0
    have q1 : w1.heap[w.heap.size + 1]? = some (errO 0) := (hs1.2.block _ (box_lt r1) (fun e => by injection e with e; omega)).trans r1
    have z0 := box_cell q0
    have z1 := box_frozen q0
    have z2 := box_cell q1
    have z3 := box_frozen q1
    have l0 := box_lt q0
    have l1 := box_lt q1
    clear hs1 hme hmk hmv
    gi_upto_region 5 with (fail)
    gi_region
    gi_wp2_with fail
    generalize hW9 : World.drew _ = W9
    obtain ⟨x0, x1, x2⟩ := errTail HS1.out hlt _ _ _ q0 q1 _ hW9
    exact ⟨.tuple #[.slice none 0 0, .int .i64 14], by simp [results, Tryz.results131, go_sem, x0, x1], .inr ⟨hth.1, by omega, rfl, c + 1, x2⟩⟩
  · have hq : callC L c k v.sigs.length = 0 := by unfold callC; rw [if_neg hth, if_neg (by omega)]
    refine ⟨trivial, (callsIn_wide.2 (kind_ok M v L c k W0 HS0.out h0 (by omega) hq s hs)).mono ?_⟩
    rintro e w1 ⟨rfl, hs1⟩
    have HS1 := hide (H0.out.trans hs1)
    have q0 : w1.heap[w.heap.size]? = some (.cells #[.slice none 0 0] 65 (0, 0)) := (hs1.2.block _ (box_lt r0) (fun e => by injection e with e; omega)).trans r0
    have q1 : w1.heap[w.heap.size + 1]? = some (errO 0) := (hs1.2.block _ (box_lt r1) (fun e => by injection e with e; omega)).trans r1
    have kd : (s.kind == 3) = false := beq_eq_false_iff_ne.2 hk3
    clear hs1 hme hmk
    gi_wp2_with fail
    obtain ⟨E, hE⟩ : ∃ E, w1.heap.size = E := ⟨_, rfl⟩
    generalize hWE : World.alloc w1 _ = WE
    have hbE : Below w1.heap.size w1 WE := by rw [← hWE]; exact (Below.refl _ _).alloc (Nat.le_refl _) _
    have p2 : WE.heap[E]? = some (errO 0) := by rw [← hWE, ← hE]; exact heap_alloc_new w1 _
    have p0 := (hbE.block _ (box_lt q0)).trans q0
    have p1 := (hbE.block _ (box_lt q1)).trans q1
    have HSE := hide (HS1.out.below hbE)
    rw [hE]
    have hle : w.heap.size + 2 ≤ E := by have := box_lt q1; omega
    clear hbE hWE q0 q1
    by_cases hth2 : 0 ≤ L ∧ L < c + 2
    · have hq2 : callC L (c + 1) k v.sigs.length = 14 := by unfold callC; rw [if_pos (by omega)]
      refine ⟨trivial, (callsIn_wide.2 (value_err M v L (c + 1) k f WE HSE.out.1 (by omega) (by omega) 14 hq2 (by decide))).mono ?_⟩
      rintro e w2 ⟨rfl, hs2⟩
      have HS2 := hide (HSE.out.trans hs2)
      have q0 := (hs2.2.block _ (box_lt p0) (fun e => by injection e with e; omega)).trans p0
      have q1 := (hs2.2.block _ (box_lt p1) (fun e => by injection e with e; omega)).trans p1
      have q2 := (hs2.2.block _ (box_lt p2) (fun e => by injection e with e; omega)).trans p2
      have y0 := box_cell q2
      have y1 := box_frozen q2
      have y2 := box_lt q2
      clear hs2 hmv p0 p1 p2
      gi_upto_region 9 with (fail)
      generalize hW3 : World.setCell w2 _ _ = W3
      have g0 := (set_cell_other (W := w2) (v := .int .i64 14) (j := 0) (b := w.heap.size) (a := E) (by omega)).trans q0
      have g1 := (set_cell_other (W := w2) (v := .int .i64 14) (j := 0) (b := w.heap.size + 1) (a := E) (by omega)).trans q1
      have g2 := box_set1 (u := .int .i64 14) q2
      have HS3 := hide (HS2.out.set (N := E) (w'' := w2.setCell ⟨E, 0, none⟩ (.int .i64 14)) (by omega) hlt ((Below.refl _ _).setCell (p := ⟨E, 0, none⟩) (Nat.le_refl _) _))
      rw [hW3] at g0 g1 g2 HS3
      clear hW3 y0 y1 y2 q0 q1 q2 r0 r1
      have z0 := box_cell g0
      have z1 := box_frozen g0
      have z2 := box_cell g1
      have z3 := box_frozen g1
      have l0 := box_lt g0
      have l1 := box_lt g1
      have z4 := box_cell g2
      have l2 := box_lt g2
      gi_upto_region 10 with (fail)
      gi_region
      gi_wp2_with fail
      generalize hW9 : World.drew _ = W9
      obtain ⟨x0, x1, x2⟩ := errTail2 HS3.out hlt _ _ g0 g1 _ hW9
      exact ⟨.tuple #[.slice none 0 0, .int .i64 14], by simp [results, Tryz.results131, go_sem, x0, x1], .inr ⟨hth2.1, by omega, rfl, _, x2⟩⟩
    · have hq2 : callC L (c + 1) k v.sigs.length = 0 := by unfold callC; rw [if_neg (by omega), if_neg (by omega)]
      refine ⟨trivial, (callsIn_wide.2 (value_ok M v L (c + 1) f k WE HSE.out.1 (by omega) (by omega) hq2 s hs hf (by omega) hw hl)).mono ?_⟩
      rintro e w2 ⟨rfl, hs2⟩
      have HS2 := hide (HSE.out.trans hs2)
      have q0 := (hs2.2.block _ (box_lt p0) (fun e => by injection e with e; omega)).trans p0
      have q1 := (hs2.2.block _ (box_lt p1) (fun e => by injection e with e; omega)).trans p1
      have q2 := (hs2.2.block _ (box_lt p2) (fun e => by injection e with e; omega)).trans p2
      have y0 := box_cell q2
      have y1 := box_frozen q2
      have y2 := box_lt q2
      clear hs2 hmv p0 p1 p2
      gi_upto_region 9 with (fail)
      generalize hW3 : World.setCell w2 _ _ = W3
      have g0 := (set_cell_other (W := w2) (v := .int .i64 0) (j := 0) (b := w.heap.size) (a := E) (by omega)).trans q0
      have g1 := (set_cell_other (W := w2) (v := .int .i64 0) (j := 0) (b := w.heap.size + 1) (a := E) (by omega)).trans q1
      have g2 := box_set1 (u := .int .i64 0) q2
      have HS3 := hide (HS2.out.set (N := E) (w'' := w2.setCell ⟨E, 0, none⟩ (.int .i64 0)) (by omega) hlt ((Below.refl _ _).setCell (p := ⟨E, 0, none⟩) (Nat.le_refl _) _))
      rw [hW3] at g0 g1 g2 HS3
      clear hW3 y0 y1 y2 q0 q1 q2 r0 r1
      have z0 := box_cell g0
      have z1 := box_frozen g0
      have z2 := box_cell g1
      have z3 := box_frozen g1
      have l0 := box_lt g0
      have l1 := box_lt g1
      have z4 := box_cell g2
      have l2 := box_lt g2
      gi_wp2_with fail
      obtain ⟨B, hB⟩ : ∃ B, W3.heap.size = B := ⟨_, rfl⟩
      have hEB : E < B := by omega
      refine ⟨trivial, (callsIn_wide.2 (add_any B none 0 [] f (valS s f) W3 (OwnSp.nil W3 B) (by omega) (by simp))).mono ?_⟩
      rintro e w4 ⟨A4, c4, rfl, ho4, hb4⟩
      have hbl4 := hb4.size
      have hb4' : Below W3.heap.size W3 w4 := ⟨hb4.os, hb4.tape, hb4.output, hb4.size, fun b hb => hb4.block b hb (by intro e; cases e)⟩
      have HS4 := hide (HS3.out.below hb4')
      have HO4 := hide ho4
      have e0 := (hb4'.block _ (box_lt g0)).trans g0
      have e1 := (hb4'.block _ (box_lt g1)).trans g1
      have e2 := (hb4'.block _ (box_lt g2)).trans g2
      clear ho4 hb4 hb4' g0 g1 g2 z0 z1 z2 z3 z4 l0 l1 l2
      have z0 := box_cell e0
      have z1 := box_frozen e0
      have z2 := box_cell e1
      have z3 := box_frozen e1
      have l0 := box_lt e0
      have l1 := box_lt e1
      have z4 := box_cell e2
      have l2 := box_lt e2
      gi_wp2_with fail
      obtain ⟨O, hO⟩ : ∃ O, w4.heap.size = O := ⟨_, rfl⟩
      obtain ⟨W5, hW5⟩ : ∃ W5, w4.alloc (.cells #[.slice A4 (addL [] f (valS s f)).length c4] 65) = W5 := ⟨_, rfl⟩
      rw [hW5, hO]
      have hlt4 := hbl4
      have hb5 : Below w4.heap.size w4 W5 := by rw [← hW5]; exact (Below.refl _ _).alloc (Nat.le_refl _) _
      have hz5 : W5.heap.size = O + 1 := by rw [← hW5, ← hO]; simp
      have g3 : W5.heap[O]? = some (.cells #[.slice A4 (addL [] f (valS s f)).length c4] 65 (0, 0)) := by rw [← hW5, ← hO]; exact heap_alloc_new w4 _
      have H5 := hide (And.intro (HS4.out.below hb5) (And.intro (show OwnSp W5 B A4 c4 (addL [] f (valS s f)) from own_block HO4.out fun g hg => hb5.block g (own_ob HO4.out g hg).2) (And.intro ((hb5.block _ (box_lt e0)).trans e0) (And.intro ((hb5.block _ (box_lt e1)).trans e1) (And.intro ((hb5.block _ (box_lt e2)).trans e2) g3)))))
      have hBO : B ≤ O := by omega
      clear hW5 hb5 e0 e1 e2 z0 z1 z2 z3 z4 l0 l1 l2 g3 hbl4 hO
      refine ⟨trivial, (callsIn_wide.2 (changes_any M E k f to_ W5)).mono ?_⟩
      rintro e w6 ⟨rfl, hb6, hch6, hsz6⟩
      rw [hz5] at hb6 hch6 hsz6
      rw [hz5]
      gi_upto_region 13 with (fail)
      obtain ⟨S5, O5, e0, e1, e2, g3⟩ := H5.out
      obtain ⟨F, hF⟩ : ∃ F : OFix, F = ⟨w, M, E, B, O⟩ := ⟨_, rfl⟩
      have hok : F.Ok := by rw [hF]; exact ⟨hlt, hle, hEB, hBO⟩
      have hb6' : Below W5.heap.size W5 w6 := by rw [hz5]; exact hb6
      have hs6 : OfI F f k to_ (outL f (valS s f) []) A4 c4 w6 := by
        rw [hF]
        exact ⟨(hb6'.block _ (box_lt g3)).trans g3, own_block O5 fun g hg => hb6'.block g (own_ob O5 g hg).2, hch6, (S5.below hb6').2, (hb6'.block _ (box_lt e0)).trans e0, (hb6'.block _ (box_lt e1)).trans e1⟩
      have hsr6 := (S5.below hb6').1
      have he6 : w6.heap[E]? = some (errO 0) := (hb6'.block _ (box_lt e2)).trans e2
      have h00 : OI F f k to_ (outL f (valS s f) []) w6 := ⟨A4, c4, hs6⟩
      have HSEQ := hide (seq_changes v L (c + 1 + 1) M E (O + 1 + 1 + 1) (O + 1) (O + 1 + 1) (O + 1 + 1 + 1 + 1 + 1) (O + 1 + 1 + 1 + 1) k s f to_ hs hcs hl (by omega) (by omega) (by omega) hft hto (by omega) ⟨by omega, by omega, by omega, by omega, by omega⟩ ⟨by omega, by omega, by omega, by omega, by omega⟩ w6 hch6 hsr6 he6)
      have HF := hide hF
      have HOK := hide hok
      have H00 := hide h00
      clear hF hok h00 hs6 hsr6 he6 hb6' hb6 hch6 S5 O5 e0 e1 e2 g3 H5
      refine range_relM (n := 6) (by omega) (gf := 249) (lb := #[.pointer (some ⟨O + 1 + 1 + 1, 0, none⟩), .pointer (some ⟨O + 1, 0, none⟩), .pointer (some ⟨O + 1 + 1, 0, none⟩), .pointer (some ⟨O + 1 + 1 + 1 + 1 + 1, 0, none⟩), .pointer (some ⟨O + 1 + 1 + 1 + 1, 0, none⟩)]) rfl (enters_of Tryz.func249 (by kernel_rfl) rfl)
        (fun W W' hs b hb1 hb2 => hs.2.2.2.2 b hb2 (by omega) (by omega)) HSEQ.out (endC_own _ _ _ _ _ _ _ (by omega) (by omega))
        (fun h k => ⟨fun b hb => (k.1 b hb).trans (h.1 b hb), fun b cs hb => k.2 b cs (h.2 b cs hb)⟩)
        (fun W l' o o' h3 h4 h5 _ => ⟨fun b hb => World.putObj_heap_other (by omega), fun b cs hb => by
          rw [World.putObj_heap_other (fun e => by subst e; rw [h4] at hb; injection hb with hb; subst hb; cases h5)]; exact hb⟩) (fun _ => rfl)
        (fun pre W => OI F f k to_ (outL f (valS s f) pre) W) (fun _ _ _ => False)
        (fun pre X Y row h3 h4 h5 => by obtain ⟨A, c, h6⟩ := h3; exact ⟨A, c, h6.grown HOK.out h4 (fun r e => ⟨by have := (h5 r e).1; rw [HF.out]; dsimp only; omega, (h5 r e).2⟩)⟩) (fun _ _ _ _ _ h3 _ _ => h3.elim)
        (fun pre X Y h3 h4 => by obtain ⟨A, c, h6⟩ := h3; exact ⟨A, c, h6.step HOK.out (by rw [HF.out]; exact h4)⟩) (fun _ _ _ _ h3 _ => h3.elim) H00.out
        ?mk (fun X x pre W => OI F f k to_ (outL f (valS s f) pre) W ∧ W.heap[X]? = some (chO x.time x.val)) ?hAx ?assign ?body ?done ?stop
      case hAx =>
        rintro X x pre Y Y' row ⟨⟨A, c, h6⟩, h7⟩ h4 h5
        refine ⟨⟨A, c, h6.grown HOK.out h4 (fun r e => ⟨by have := (h5 r e).1; rw [HF.out]; dsimp only; omega, (h5 r e).2⟩)⟩, (h4.block X (box_lt h7) fun e => ?_).trans h7⟩
        obtain ⟨_, o', h8, h9⟩ := h5 X e.symm
        rw [h7] at h8; injection h8 with h8; subst h8; cases h9
      case assign =>
        rintro lp pre x W K h3 h4 ⟨A, c, hi⟩ hlen hK
        unfold chEnc
        have hn1 := heap_alloc_new W (chO x.time x.val)
        have hb1 : Below W.heap.size W (W.alloc (chO x.time x.val)) := (Below.refl _ _).alloc (Nat.le_refl _) _
        have hkf : KeepsFrom w6.heap.size W (W.alloc (chO x.time x.val)) := ⟨by simp, fun j o _ h5 _ => (hb1.block j (box_lt h5)).trans h5⟩
        have hkp : KpC M E (O + 1 + 1 + 1) (O + 1) (O + 1 + 1) (O + 1 + 1 + 1 + 1 + 1) (O + 1 + 1 + 1 + 1) W (W.alloc (chO x.time x.val)) := by
          have := hi.kp HOK.out hb1
          rw [HF.out] at this
          exact this
        have hi2 := hi.below HOK.out hb1
        obtain ⟨Z, hZ⟩ : ∃ Z, W.alloc (chO x.time x.val) = Z := ⟨_, rfl⟩
        obtain ⟨X, hX⟩ : ∃ X, W.heap.size = X := ⟨_, rfl⟩
        rw [hZ] at hn1 hkf hkp hi2
        rw [hX] at hn1
        gi_wp2
        rw [show W.alloc (.cells #[.int .i64 x.time, .string x.val] 131) = Z from hZ]
        exact hK X Z hkf hkp ⟨⟨A, c, hi2⟩, hn1⟩
      case body =>
        rintro lp pre x X W h3 h4 ⟨⟨A, c, hi⟩, hX⟩ hlen
        have hl := outL_len f (valS s f) pre
        have hsn := outL_snoc f (valS s f) pre x
        have hb0 : F.B ≤ W.heap.size := by have := box_lt hi.box; have := HOK.out.o; omega
        have hBX := hi.box
        rw [show F.O = O by rw [HF.out]] at hBX
        obtain ⟨x0, x1⟩ := chO_cells hX
        have e0 := box_cell hBX
        have e1 := box_frozen hBX
        have lX := box_lt hX
        have HI := hide hi
        have HSN := hide hsn
        clear hsn hBX hi
        generalize outL f (valS s f) pre = l at *
        have hlen2 := addL_len l x.time x.val
        gi_wp2_with fail
        refine ⟨trivial, (CallsIn.inRound lp (callsIn_wide.2 (add_any F.B A c l x.time x.val W HI.out.own hb0 (by omega)))).mono ?_⟩
        rintro e W1 ⟨A1, c1, rfl, ho1, hb1⟩
        have hO1 := HI.out.boxO HOK.out ho1 hb1
        rw [show F.O = O by rw [HF.out]] at hO1
        have q0 := box_cell hO1
        have q1 := box_frozen hO1
        obtain ⟨W9, hW9⟩ : ∃ W9, W1.setCell ⟨O, 0, none⟩ (.slice A1 (addL l x.time x.val).length c1) = W9 := ⟨_, rfl⟩
        obtain ⟨p1, p2, p3⟩ := HI.out.push HOK.out ho1 hb1 (W9 := W9) (by rw [HF.out]; exact hW9)
        have HP := hide (show OI F f k to_ (outL f (valS s f) (pre ++ [x])) W9 by rw [HSN.out]; exact ⟨A1, c1, p1⟩)
        have r0 := p1.box
        rw [show F.O = O by rw [HF.out]] at r0
        have r1 := box_cell r0
        have HP2 := hide (p2 w6.heap.size)
        have HP3 := hide (show KpC M E (O + 1 + 1 + 1) (O + 1) (O + 1 + 1) (O + 1 + 1 + 1 + 1 + 1) (O + 1 + 1 + 1 + 1) W W9 by rw [HF.out] at p3; exact p3)
        have T1 : decide ((4096 : Int) < ((addL l x.time x.val).length : Int)) = false := decide_eq_false (by omega)
        clear hO1 ho1 hb1 p1 p2 p3 r0 hlen2 hl
        generalize (addL l x.time x.val).length = m at *
        gi_upto_region 15 with (fail)
        gi_wp2_with fail
        exact ⟨HP2.out, HP3.out, HP.out⟩
      case stop =>
        rintro D c pre W _ _ h3
        exact h3.elim
      case done =>
        rintro D xs W hD _ ⟨A, c0, hi⟩ hT HD
        have HD := hide HD
        have b0 := hi.box
        have b1 := hi.r0
        have b2 := hi.r1
        have HI := hide hi
        rw [HF.out] at b0 b1 b2
        dsimp only at b0 b1 b2
        have lw := hi.but.size
        rw [show F.w = w by rw [HF.out]] at lw
        rcases hT with ⟨hx, h2, hsr, he⟩ | ⟨h0L, h2, ⟨c', hsr⟩, he⟩
        · subst hx
          obtain ⟨l, x, hlx, hsp⟩ := out_all hk3 hcs hft hf (by omega : to_ ≤ 4398046511104)
          have hol := outL_len f (valS s f) (beh s.chs f to_)
          have hbl := beh_len s.chs f to_
          have hown := hi.own
          have hbut := hi.but
          rw [hlx] at b0 hown hol
          have hlen : (l ++ [x]).length = l.length + 1 := by simp
          rw [hlen] at b0 hol
          obtain ⟨g, rfl, hg1, hg2⟩ := hown.place (by simp)
          rw [show F.B = B by rw [HF.out]] at hg1 hown
          have hcnt : c + 1 + 1 + ((beh s.chs f to_).length : Int) + 1 = c + (beh s.chs f to_).length + 3 := by omega
          rw [hcnt] at hsr h2
          have hsrt : SrcTo w M v L (c + (beh s.chs f to_).length + 3) W := ⟨hsr, by rw [HF.out] at hbut; exact hbut⟩
          clear hcnt
          have v0 := box_cell b0
          have v1 := box_frozen b0
          have v2 := box_cell he
          have v3 := box_lt he
          have v10 := box_lt b0
          have HS := hide hsp
          have HSRT := hide hsrt
          have hend := end_sp B g c0 l x to_ W hown (by omega)
          have HE := hide hend
          have HOWN := hide hown
          clear hi hsp hsr hsrt hown hlx hbut hend HI
          gi_wp2_with fail
          refine ⟨trivial, (callsIn_wide.2 HE.out).mono ?_⟩
          rintro e W1 ⟨rfl, ho1, hb1⟩
          have c0' := (hb1.block _ (box_lt b1) (fun e => by injection e with e; omega)).trans b1
          have c1' := (hb1.block _ (box_lt b2) (fun e => by injection e with e; omega)).trans b2
          have v4 := box_cell c0'
          have v5 := box_frozen c0'
          have v6 := box_cell c1'
          have v7 := box_frozen c1'
          have v8 := box_lt c0'
          have v9 := box_lt c1'
          have hgD : D ≠ g := fun e => by
            obtain ⟨cs', h9⟩ := own_cellsT HOWN.out (g := g) rfl
            rw [← e, HD.out] at h9
            injection h9 with h9
            cases h9
          have hlg : g < W.heap.size := hg2
          have HD1 := hide (show W1.heap[D]? = some (.deferred (some [])) from (hb1.block D (box_lt HD.out) (fun e => by injection e with e; exact hgD e)).trans HD.out)
          have HS1 := hide (HSRT.out.set (N := g) (w'' := W1) (by omega) hlt ⟨hb1.os, hb1.tape, hb1.output, hb1.size, fun b hb => hb1.block b (by omega) (fun e => by injection e with e; omega)⟩)
          have HO1 := hide ho1
          clear ho1 hb1
          gi_wp2_with fail
          obtain ⟨z1, z2, z3, z4, z5⟩ := tail47 (W9 := (W1.setCell ⟨w.heap.size, 0, none⟩ (.slice (some ⟨g, 0, none⟩) (l.length + 1) c0)).setCell ⟨w.heap.size + 1, 0, none⟩ (.int .i64 0)) HS1.out hlt _ (.slice (some ⟨g, 0, none⟩) (l.length + 1) c0) c0' c1' 0 (by omega) HD1.out (.deferred none) rfl rfl rfl rfl
          refine ⟨by simp, .inl ⟨_, _, rfl, run_takeDeferred z1, ?_⟩⟩
          have hln : (l ++ [(⟨x.f, to_, x.v⟩ : Spn)]).length = l.length + 1 := by simp
          refine ⟨.tuple #[.slice (some ⟨g, 0, none⟩) (l.length + 1) c0, .int .i64 0], by simp [results, Tryz.results131, go_sem, z2, z3], .inl ⟨h2, some ⟨g, 0, none⟩, c0, l ++ [⟨x.f, to_, x.v⟩], by rw [hln], ?_, HS.out, by rw [hln]; omega, z4⟩⟩
          refine Joins.ownsRow_le (own_block HO1.out fun k hk => ?_) (by omega : w.heap.size ≤ B)
          have hk2 : k = g := by injection hk with hk; exact hk.symm
          rw [hk2]
          exact z5 g (by omega) (fun e => hgD e.symm)
        · have v0 := box_cell b0
          have v1 := box_frozen b0
          have v2 := box_cell he
          have v3 := box_lt he
          have v4 := box_cell b1
          have v5 := box_frozen b1
          have v6 := box_cell b2
          have v7 := box_frozen b2
          have v8 := box_lt b1
          have v9 := box_lt b2
          clear hi
          gi_upto_region 18 with (fail)
          gi_region
          gi_wp2_with fail
          have hsrt : SrcTo w M v L c' W := ⟨hsr, by have := HI.out.but; rw [HF.out] at this; exact this⟩
          obtain ⟨z1, z2, z3, z4, _⟩ := tail47 (W9 := ((W.setCell ⟨w.heap.size, 0, none⟩ (.slice none 0 0)).setCell ⟨w.heap.size + 1, 0, none⟩ (.int .i64 14)).drew) hsrt hlt _ (.slice none 0 0) b1 b2 14 (by omega) HD.out (.deferred none) rfl rfl rfl rfl
          refine ⟨by simp, .inl ⟨_, _, rfl, run_takeDeferred z1, ?_⟩⟩
          exact ⟨.tuple #[.slice none 0 0, .int .i64 14], by simp [results, Tryz.results131, go_sem, z2, z3], .inr ⟨h0L, by omega, rfl, c', z4⟩⟩

end Go.Proofs.YtaaplalfggofiaaGreatDoor
