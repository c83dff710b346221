/-
  Several texts in one: Length. Each says at its head what it holds.
-/
import Derived.Test.YtgobkbjkndfliaaGreatDoorAP11
import Derived.Test.YtgobkbjkndfliaaGreatDoorAP14
import Derived.RegionTactic

/-
  automaton.Length: the least and the greatest duration of the paths, backward from the final states.
-/
namespace Go.Proofs.YtgobkbjkndfliaaGreatDoor
open Go.RowKit

/-- a block of ints, of bools that make lays -/
structure MkI (n : Nat) (f : World → World) : Prop where
  ar : ∀ w, ArI (f w) w.heap.size (List.replicate n 0)
  bl : ∀ w, Below w.heap.size w (f w)
structure MkB (n : Nat) (f : World → World) : Prop where
  ar : ∀ w, ArB (f w) w.heap.size (List.replicate n false)
  bl : ∀ w, Below w.heap.size w (f w)
theorem infoBool : (Tryz.prog.info? 4).map (fun i => (i.zero, i.size, i.bytes)) = some (some (.bool false), 1, 1) := by kernel_rfl
theorem mk_ints (n : Nat) (hn : n ≤ 1000000) : ∃ f : World → World, (∀ w, (Instr.makeSlice 43 (.int .i64 (n : Int)) (.int .i64 (n : Int))).run Tryz.prog w = .ok (.slice (some ⟨w.heap.size, 0, none⟩) n n) (f w)) ∧ MkI n f := by
  obtain ⟨i0, hi0, hz0, hz1, hz2⟩ := info_parts infoInt
  have key : ∀ w : World, ∃ w', (Instr.makeSlice 43 (.int .i64 (n : Int)) (.int .i64 (n : Int))).run Tryz.prog w = .ok (.slice (some ⟨w.heap.size, 0, none⟩) n n) w' ∧ ArI w' w.heap.size (List.replicate n 0) ∧ Below w.heap.size w w' := fun w => by
    obtain ⟨w1, h1, h2, h3⟩ := run_make_full (P := Tryz.prog) (w := w) w.heap.size 43 3 i0 _ 1 Tryz.underlying43 hi0 hz0 hz1 .i64 .i64 n (by rw [hz2]; omega) (by simp only [maxLen]; omega) (Nat.le_refl _)
    refine ⟨w1, h1, ArI.made (B := w.heap.size) ?_, (Below.refl _ _).grown h3 (Nat.le_refl _) (fun k e => by cases e)⟩
    rw [Nat.mul_one] at h2
    exact h2
  obtain ⟨f, hf⟩ := Classical.axiomOfChoice key
  exact ⟨f, fun w => (hf w).1, fun w => (hf w).2.1, fun w => (hf w).2.2⟩
theorem mk_bools (n : Nat) (hn : n ≤ 1000000) : ∃ f : World → World, (∀ w, (Instr.makeSlice 27 (.int .i64 (n : Int)) (.int .i64 (n : Int))).run Tryz.prog w = .ok (.slice (some ⟨w.heap.size, 0, none⟩) n n) (f w)) ∧ MkB n f := by
  obtain ⟨i0, hi0, hz0, hz1, hz2⟩ := info_parts infoBool
  have key : ∀ w : World, ∃ w', (Instr.makeSlice 27 (.int .i64 (n : Int)) (.int .i64 (n : Int))).run Tryz.prog w = .ok (.slice (some ⟨w.heap.size, 0, none⟩) n n) w' ∧ ArB w' w.heap.size (List.replicate n false) ∧ Below w.heap.size w w' := fun w => by
    obtain ⟨w1, h1, h2, h3⟩ := run_make_full (P := Tryz.prog) (w := w) w.heap.size 27 4 i0 _ 1 Tryz.underlying27 hi0 hz0 hz1 .i64 .i64 n (by rw [hz2]; omega) (by simp only [maxLen]; omega) (Nat.le_refl _)
    refine ⟨w1, h1, ArB.made (B := w.heap.size) ?_, (Below.refl _ _).grown h3 (Nat.le_refl _) (fun k e => by cases e)⟩
    rw [Nat.mul_one] at h2
    exact h2
  obtain ⟨f, hf⟩ := Classical.axiomOfChoice key
  exact ⟨f, fun w => (hf w).1, fun w => (hf w).2.1, fun w => (hf w).2.2⟩
/-- three new blocks behind a world -/
def Tri3 (w : World) (n : Nat) (A B C : Value) (w' : World) : Prop := ∃ gl gm gk : Nat, A = .slice (some ⟨gl, 0, none⟩) n n ∧ B = .slice (some ⟨gm, 0, none⟩) n n ∧ C = .slice (some ⟨gk, 0, none⟩) n n ∧
  Tri w' gl gm gk (List.replicate n 0) (List.replicate n 0) (List.replicate n false) ∧ w.heap.size ≤ gl ∧ w.heap.size ≤ gm ∧ w.heap.size ≤ gk ∧ Below w.heap.size w w'
section
variable {n : Nat} {fi fb : World → World} {w : World}
theorem tri_lmk (hi : MkI n fi) (hb : MkB n fb) : Tri3 w n (.slice (some ⟨w.heap.size, 0, none⟩) n n) (.slice (some ⟨(fi w).heap.size, 0, none⟩) n n) (.slice (some ⟨(fi (fi w)).heap.size, 0, none⟩) n n) (fb (fi (fi w))) := by
  have a1 := hi.ar w
  have b1 := hi.bl w
  have a2 := hi.ar (fi w)
  have b2 := hi.bl (fi w)
  have a3 := hb.ar (fi (fi w))
  have b3 := hb.bl (fi (fi w))
  have l1 := a1.lt
  have l2 := a2.lt
  exact ⟨_, _, _, rfl, rfl, rfl, ⟨(a1.below b2).below b3, a2.below b3, a3, by omega, by omega, by omega⟩, by omega, by omega, by omega, bstep (bstep b1 b2) b3⟩
theorem tri_mlk (hi : MkI n fi) (hb : MkB n fb) : Tri3 w n (.slice (some ⟨(fi w).heap.size, 0, none⟩) n n) (.slice (some ⟨w.heap.size, 0, none⟩) n n) (.slice (some ⟨(fi (fi w)).heap.size, 0, none⟩) n n) (fb (fi (fi w))) := by
  have a1 := hi.ar w
  have b1 := hi.bl w
  have a2 := hi.ar (fi w)
  have b2 := hi.bl (fi w)
  have a3 := hb.ar (fi (fi w))
  have b3 := hb.bl (fi (fi w))
  have l1 := a1.lt
  have l2 := a2.lt
  exact ⟨_, _, _, rfl, rfl, rfl, ⟨a2.below b3, (a1.below b2).below b3, a3, by omega, by omega, by omega⟩, by omega, by omega, by omega, bstep (bstep b1 b2) b3⟩
theorem tri_lkm (hi : MkI n fi) (hb : MkB n fb) : Tri3 w n (.slice (some ⟨w.heap.size, 0, none⟩) n n) (.slice (some ⟨(fb (fi w)).heap.size, 0, none⟩) n n) (.slice (some ⟨(fi w).heap.size, 0, none⟩) n n) (fi (fb (fi w))) := by
  have a1 := hi.ar w
  have b1 := hi.bl w
  have a2 := hb.ar (fi w)
  have b2 := hb.bl (fi w)
  have a3 := hi.ar (fb (fi w))
  have b3 := hi.bl (fb (fi w))
  have l1 := a1.lt
  have l2 := a2.lt
  exact ⟨_, _, _, rfl, rfl, rfl, ⟨(a1.below b2).below b3, a3, a2.below b3, by omega, by omega, by omega⟩, by omega, by omega, by omega, bstep (bstep b1 b2) b3⟩
theorem tri_mkl (hi : MkI n fi) (hb : MkB n fb) : Tri3 w n (.slice (some ⟨(fb (fi w)).heap.size, 0, none⟩) n n) (.slice (some ⟨w.heap.size, 0, none⟩) n n) (.slice (some ⟨(fi w).heap.size, 0, none⟩) n n) (fi (fb (fi w))) := by
  have a1 := hi.ar w
  have b1 := hi.bl w
  have a2 := hb.ar (fi w)
  have b2 := hb.bl (fi w)
  have a3 := hi.ar (fb (fi w))
  have b3 := hi.bl (fb (fi w))
  have l1 := a1.lt
  have l2 := a2.lt
  exact ⟨_, _, _, rfl, rfl, rfl, ⟨a3, (a1.below b2).below b3, a2.below b3, by omega, by omega, by omega⟩, by omega, by omega, by omega, bstep (bstep b1 b2) b3⟩
theorem tri_klm (hi : MkI n fi) (hb : MkB n fb) : Tri3 w n (.slice (some ⟨(fb w).heap.size, 0, none⟩) n n) (.slice (some ⟨(fi (fb w)).heap.size, 0, none⟩) n n) (.slice (some ⟨w.heap.size, 0, none⟩) n n) (fi (fi (fb w))) := by
  have a1 := hb.ar w
  have b1 := hb.bl w
  have a2 := hi.ar (fb w)
  have b2 := hi.bl (fb w)
  have a3 := hi.ar (fi (fb w))
  have b3 := hi.bl (fi (fb w))
  have l1 := a1.lt
  have l2 := a2.lt
  exact ⟨_, _, _, rfl, rfl, rfl, ⟨a2.below b3, a3, (a1.below b2).below b3, by omega, by omega, by omega⟩, by omega, by omega, by omega, bstep (bstep b1 b2) b3⟩
theorem tri_kml (hi : MkI n fi) (hb : MkB n fb) : Tri3 w n (.slice (some ⟨(fi (fb w)).heap.size, 0, none⟩) n n) (.slice (some ⟨(fb w).heap.size, 0, none⟩) n n) (.slice (some ⟨w.heap.size, 0, none⟩) n n) (fi (fi (fb w))) := by
  have a1 := hb.ar w
  have b1 := hb.bl w
  have a2 := hi.ar (fb w)
  have b2 := hi.bl (fb w)
  have a3 := hi.ar (fi (fb w))
  have b3 := hi.bl (fi (fb w))
  have l1 := a1.lt
  have l2 := a2.lt
  exact ⟨_, _, _, rfl, rfl, rfl, ⟨a3, a2.below b3, (a1.below b2).below b3, by omega, by omega, by omega⟩, by omega, by omega, by omega, bstep (bstep b1 b2) b3⟩
end

theorem Tri3.drew {w w' : World} {n : Nat} {A B C : Value} (h : Tri3 w.drew n A B C w') : Tri3 w n A B C w' := by
  obtain ⟨gl, gm, gk, h1, h2, h3, h4, h5, h6, h7, h8⟩ := h
  exact ⟨gl, gm, gk, h1, h2, h3, h4, h5, h6, h7, ⟨h8.os, h8.tape, h8.output, h8.size, h8.block⟩⟩

/-- the durations of an automaton that is valid, or 0 -/
def LenPost (a : Aut) (w : World) (e : Ending) (w' : World) : Prop := ∃ lo hi : Int, e = .returned (.tuple #[.int .i64 lo, .int .i64 hi]) ∧ ((validB a = false ∧ lo = 0 ∧ hi = 0) ∨ (validB a = true ∧ LenOf a.edges a.fin lo hi)) ∧ Below w.heap.size w w'
theorem valid_costs {a : Aut} (h : validB a = true) : Costs a.edges a.fin.length Edg.low ∧ Costs a.edges a.fin.length Edg.high := by
  unfold validB at h
  rw [Bool.and_eq_true, List.all_eq_true] at h
  obtain ⟨_, h1⟩ := h
  have key : ∀ e ∈ a.edges, edgeB a.fin.length a.nE a.nC e = true := fun e he => by
    obtain ⟨i, hi⟩ := List.getElem?_of_mem he
    have hl := (List.getElem?_eq_some_iff.1 hi).1
    have h2 := h1 i (List.mem_range.2 hl)
    unfold fitsB at h2
    rw [hi] at h2
    simp only [Bool.and_eq_true] at h2
    exact h2.1.1.1
  exact ⟨⟨fun e he => by have := of_decide_eq_true (key e he); omega, fun e he => by have := of_decide_eq_true (key e he); omega⟩, ⟨fun e he => by have := of_decide_eq_true (key e he); omega, fun e he => by have := of_decide_eq_true (key e he); omega⟩⟩
theorem back_take {E : List Edg} {fin : List Bool} {s : Int} {i : Nat} {x : Edg} {lo hi l1 h1 : Int} {b : Bool} (he : E[i]? = some x) (hf : x.from_ = s) (d : Dur (BackI E fin Edg.low s i) (BackI E fin Edg.high s i) lo hi b) (d1 : Dur (BackS E fin Edg.low x.to_) (BackS E fin Edg.high x.to_) l1 h1 true) (hh : 0 ≤ x.high + h1)
    {lo' hi' : Int} (e1 : lo' = if b = true ∧ lo ≤ x.low + l1 then lo else x.low + l1) (e2 : hi' = max hi (x.high + h1)) : Dur (BackI E fin Edg.low s (i + 1)) (BackI E fin Edg.high s (i + 1)) lo' hi' true := by
  obtain ⟨t1, t2⟩ := d1.1 rfl
  refine d.add (t1.shift x.low) (t2.shift x.high) (fun c => ?_) (fun c => ?_) e1 ?_
  · rw [BackI.succ he]; exact or_congr_right ⟨fun h => h.2, fun h => ⟨hf, h⟩⟩
  · rw [BackI.succ he]; exact or_congr_right ⟨fun h => h.2, fun h => ⟨hf, h⟩⟩
  · rw [e2]
    cases b with
    | true => by_cases h : x.high + h1 ≤ hi <;> simp [h] <;> omega
    | false => have := (d.2 rfl).2.1; simp; omega

/-- the outer loop: the states from k on are done, those ahead are untouched -/
def OutRel (E : List Edg) (fin : List Bool) (W : World) (gl gm gk : Nat) (i : Value) (wr : World) : Prop :=
  ∃ (k : Nat) (ls ms : List Int) (ks : List Bool), k ≤ fin.length ∧ i = .int .i64 ((k : Int) - 1) ∧ Tri wr gl gm gk ls ms ks ∧ (ls.length = fin.length ∧ ms.length = fin.length ∧ ks.length = fin.length) ∧
    Hid (∀ j, k ≤ j → j < fin.length → DurAt (BackS E fin Edg.low (j : Int)) (BackS E fin Edg.high (j : Int)) ls ms ks j) ∧ Hid (∀ j, j < k → ZeroAt ls ms ks j) ∧ Below W.heap.size W wr
/-- of the state k the first m edges are done -/
structure InSt (E : List Edg) (fin : List Bool) (k m : Nat) (ls ms : List Int) (ks : List Bool) : Prop where
  l1 : ls.length = fin.length
  l2 : ms.length = fin.length
  l3 : ks.length = fin.length
  done : ∀ j, k < j → j < fin.length → DurAt (BackS E fin Edg.low (j : Int)) (BackS E fin Edg.high (j : Int)) ls ms ks j
  here : DurAt (BackI E fin Edg.low (k : Int) m) (BackI E fin Edg.high (k : Int) m) ls ms ks k
  zero : ∀ j, j < k → ZeroAt ls ms ks j
/-- the inner loop -/
def InRel (E : List Edg) (fin : List Bool) (W : World) (gl gm gk k : Nat) (i : Value) (wr : World) : Prop :=
  ∃ (m : Nat) (ls ms : List Int) (ks : List Bool), m ≤ E.length ∧ i = .int .i64 (m : Int) ∧ Tri wr gl gm gk ls ms ks ∧ InSt E fin k m ls ms ks ∧ Below W.heap.size W wr
section
variable {E : List Edg} {fin : List Bool} {q m : Nat} {ls ms : List Int} {ks : List Bool} {x : Edg} {lo hi l1 h1 : Int} {b : Bool}
theorem in_start (hq : q < fin.length) (hl : ls.length = fin.length ∧ ms.length = fin.length ∧ ks.length = fin.length) (hd : ∀ j, q + 1 ≤ j → j < fin.length → DurAt (BackS E fin Edg.low (j : Int)) (BackS E fin Edg.high (j : Int)) ls ms ks j) (hz : ∀ j, j < q + 1 → ZeroAt ls ms ks j) (hf : fin[q]? = some b) :
    InSt E fin q 0 ls ms (ks.set q b) := by
  have z := hz q (by omega)
  have e1 : ls.set q 0 = ls := set_same z.1
  have e2 : ms.set q 0 = ms := set_same z.2.1
  refine ⟨hl.1, hl.2.1, by simp [hl.2.2], fun j h1 h2 => ?_, ?_, fun j hj => ?_⟩
  · have h := (hd j (by omega) h2).other (s := q) (x := 0) (y := 0) (b := b) (by omega)
    rwa [e1, e2] at h
  · have h := DurAt.here (ls := ls) (ms := ms) (ks := ks) (s := q) (by omega) (by omega) (by omega) (back_start (E := E) (fin := fin) (s := q) (b := b) (by rw [List.getD_eq_getElem?_getD, hf]; rfl))
    rwa [e1, e2] at h
  · have h := (hz j (by omega)).other (s := q) (x := 0) (y := 0) (b := b) (by omega)
    rwa [e1, e2] at h
theorem in_skip (h : InSt E fin q m ls ms ks) (he : E[m]? = some x) (hs : x.from_ ≠ (q : Int) ∨ ((∀ c, ¬ BackS E fin Edg.low x.to_ c) ∧ ∀ c, ¬ BackS E fin Edg.high x.to_ c)) : InSt E fin q (m + 1) ls ms ks :=
  ⟨h.l1, h.l2, h.l3, h.done, h.here.congr (back_skip he (hs.imp_right fun h => h.1)) (back_skip he (hs.imp_right fun h => h.2)), h.zero⟩
theorem in_take (h : InSt E fin q m ls ms ks) (he : E[m]? = some x) (hf : x.from_ = (q : Int)) (d : Dur (BackI E fin Edg.low (q : Int) m) (BackI E fin Edg.high (q : Int) m) lo hi b) (hq : q < fin.length) (d1 : Dur (BackS E fin Edg.low x.to_) (BackS E fin Edg.high x.to_) l1 h1 true) (hh : 0 ≤ x.high + h1)
    {lo' : Int} (e1 : lo' = if b = true ∧ lo ≤ x.low + l1 then lo else x.low + l1) : InSt E fin q (m + 1) (ls.set q lo') (ms.set q (if hi < x.high + h1 then x.high + h1 else hi)) (ks.set q true) :=
  ⟨by simp [h.l1], by simp [h.l2], by simp [h.l3], fun j h1 h2 => (h.done j h1 h2).other (by omega), DurAt.here (by rw [h.l1]; exact hq) (by rw [h.l2]; exact hq) (by rw [h.l3]; exact hq) (back_take he hf d d1 hh e1 (by split <;> omega)), fun j hj => (h.zero j hj).other (by omega)⟩
theorem in_end (h : InSt E fin q E.length ls ms ks) : ∀ j, q ≤ j → j < fin.length → DurAt (BackS E fin Edg.low (j : Int)) (BackS E fin Edg.high (j : Int)) ls ms ks j := fun j h1 h2 => by
  rcases Nat.lt_or_ge q j with h3 | h3
  · exact h.done j h3 h2
  · have : j = q := by omega
    subst this
    exact h.here.congr (fun c => BackI.all) (fun c => BackI.all)
end

set_option maxRecDepth 100000 in
set_option maxHeartbeats 4000000 in
theorem length_any (a : Aut) (w : World) (ha : AutAt w (Lo w.heap.size) a) (hle : AutLe a) :
    Calls Tryz.prog 17 #[.agg (encA a).toArray] w (LenPost a w) := by
  obtain ⟨a', ha'⟩ : ∃ a', a = a' := ⟨_, rfl⟩
  obtain ⟨W0, hW0⟩ : ∃ W0, w.alloc (.cells (encA a).toArray 30) = W0 := ⟨_, rfl⟩
  have g0 : W0.heap[w.heap.size]? = some (.cells (encA a).toArray 30 (0, 0)) := by rw [← hW0]; exact heap_alloc_new w _
  have hb0 : Below w.heap.size w W0 := by rw [← hW0]; exact (Below.refl _ _).alloc (Nat.le_refl _) _
  have hv := valid_any a W0 (ha.grow hb0) hle
  have HA := hide (ha.grow hb0)
  have HB0 := hide hb0
  have l4 := hle.edges
  rw [ha'] at hv hW0 g0 HA ⊢
  obtain ⟨AE, nE, cE, AC, nC, cC, AF, cF, fin, AX, cX, edges⟩ := a
  dsimp only at l4
  have HAA := hide (show a' = ⟨AE, nE, cE, AC, nC, cC, AF, cF, fin, AX, cX, edges⟩ from ha'.symm)
  have hX : encA a' = [.slice AE nE cE, .slice AC nC cC, .slice AF fin.length cF, .slice AX edges.length cX] := by rw [← ha']; rfl
  rw [hX] at hv hW0 g0 ⊢
  have HV := hide hv
  have HW0 := hide hW0
  have HG0 := hide g0
  obtain ⟨y0, y1, y2, y3, -⟩ := box4 g0
  clear ha' hX hv hW0 g0 hb0 ha hle
  go_enter Tryz.func17, Tryz.ntmps17
  go_upto_region 1 with (fail)
  rw [HW0.out]
  cases hvb : validB a' with
  | false =>
    have HN := hide hvb
    rw [hvb] at HV
    clear hvb
    go_wp2_with (go_at_call 14; refine HV.out.mono ?_; rintro e w2 ⟨rfl, hb2⟩; have HB2 := hide hb2; clear hb2)
    go_ret2
    exact ⟨0, 0, rfl, .inl ⟨HN.out, rfl, rfl⟩, bstep HB0.out HB2.out⟩
  | true =>
    obtain ⟨v1, v2, v3, v4⟩ := valid_states hvb
    have HCO := hide (valid_costs hvb)
    rw [HAA.out] at v1 v2 v3 v4
    dsimp only at v1 v2 v3 v4
    have HV4 := hide v4
    have HVB := hide hvb
    rw [hvb] at HV
    clear hvb v3 v4
    obtain ⟨fi, hfi, mi⟩ := mk_ints fin.length (by omega)
    obtain ⟨fb, hfb, mb⟩ := mk_bools fin.length (by omega)
    have MI := hide mi
    have MB := hide mb
    clear mi mb
    go_upto_region 3 with (go_at_call 14; refine HV.out.mono ?_; rintro e w2 ⟨rfl, hb2⟩; have HB2 := hide hb2; clear hb2)
    clear y0 y1 y2 y3
    obtain ⟨y0, y1, y2, y3, -⟩ := box4 ((HB2.out.block _ (box_lt HG0.out)).trans HG0.out)
    go_upto_region 4 with (fail)
    go_cut [5, 6, 7] (fun A B C wx => Tri3 w2 fin.length A B C wx)
    case first =>
      clear y0 y1 y2 y3
      go_region
      all_goals go_wp2_with fail
      all_goals go_meet
      all_goals first | exact (tri_lmk (w := w2.drew) MI.out MB.out).drew | exact (tri_mlk (w := w2.drew) MI.out MB.out).drew | exact (tri_lkm (w := w2.drew) MI.out MB.out).drew | exact (tri_mkl (w := w2.drew) MI.out MB.out).drew | exact (tri_klm (w := w2.drew) MI.out MB.out).drew | exact (tri_kml (w := w2.drew) MI.out MB.out).drew
    case rest =>
      obtain ⟨gl, gm, gk, rfl, rfl, rfl, tri, hgl, hgm, hgk, hbc⟩ := hcut
      have hbc0 := bstep HB2.out hbc
      have hz2 := HB2.out.size
      replace hgl : W0.heap.size ≤ gl := by omega
      replace hgm : W0.heap.size ≤ gm := by omega
      replace hgk : W0.heap.size ≤ gk := by omega
      have HBC := hide hbc0
      have HTRI := hide tri
      clear tri hbc hbc0 hz2 hfi hfb y0 y1 y2 y3
      generalize wc = V at *
      go_wp2_with fail
      go_loopw [8] (fun i wr => OutRel edges fin W0 gl gm gk i wr) (fun i _ => (intOf i + 1).toNat)
      case atStart =>
        exact ⟨fin.length, _, _, _, Nat.le_refl _, rfl, HTRI.out, by simp, fun j h1 h2 => absurd h2 (by omega), fun j hj => ⟨by simp [hj], by simp [hj], by simp [hj]⟩, HBC.out⟩
      case round =>
        obtain ⟨wr1, rfl⟩ : ∃ w2 : World, w2 = wr := ⟨_, rfl⟩
        obtain ⟨k, ls, ms, ks, hk, rfl, tri, hls, hd, hz, hbr⟩ := hrel
        have HLS := hide hls
        have HTR := hide tri
        clear hls tri
        obtain ⟨y0, y1, y2, y3, -⟩ := box4 ((hbr.block _ (box_lt HG0.out)).trans HG0.out)
        have HAW := hide (show AutAt wr1 (Lo wr1.heap.size) ⟨AE, nE, cE, AC, nC, cC, AF, cF, fin, AX, cX, edges⟩ from by have h := HA.out.grow hbr; rw [HAA.out] at h; exact h)
        by_cases hlt : 0 < k
        · obtain ⟨q, rfl⟩ : ∃ q, k = q + 1 := ⟨k - 1, by omega⟩
          have hq1 : ((q + 1 : Nat) : Int) - 1 = (q : Int) := by omega
          rw [hq1]
          clear hq1
          have hqn : q < fin.length := by omega
          obtain ⟨bf, of, hAF, hbf, e0⟩ := HAW.out.fin.bool_at hqn
          dsimp only at hAF
          subst hAF
          have HFQ := hide (List.getElem?_eq_getElem hqn)
          generalize fin[q] = fq at *
          have HZ := hide (hz.out q (by omega))
          have cK := HTR.out.k.cell HZ.out.2.2
          have fK : wr1.frozen? ⟨gk, q, none⟩ = false := HTR.out.k.froz
          go_upto_region 9 with (fail)
          obtain ⟨w5, hw5⟩ : ∃ w5, wr1.setCell ⟨gk, q, none⟩ (.bool fq) = w5 := ⟨_, rfl⟩
          rw [hw5]
          have tri5 : Tri w5 gl gm gk ls ms (ks.set q fq) := by rw [← hw5]; exact HTR.out.setK fq
          have hb5 : Below W0.heap.size W0 w5 := by rw [← hw5]; exact hbr.setCell (p := ⟨gk, q, none⟩) hgk _
          have HST := hide (in_start hqn HLS.out hd.out hz.out HFQ.out)
          have HT5 := hide tri5
          clear hw5 cK fK hd hz HTR HLS HAW y0 y1 y2 y3 e0 tri5 hbr HZ
          obtain ⟨y0, y1, y2, y3, -⟩ := box4 ((hb5.block _ (box_lt HG0.out)).trans HG0.out)
          go_wp2_with fail
          go_loopw [42] (fun i wr => InRel edges fin W0 gl gm gk q i wr) (fun i _ => edges.length - (intOf i).toNat)
          case atStart => exact ⟨0, _, _, _, Nat.zero_le _, rfl, HT5.out, HST.out, hb5⟩
          case round =>
            clear HST HT5 hb5 y0 y1 y2 y3
            obtain ⟨wr2, rfl⟩ : ∃ w2 : World, w2 = wr := ⟨_, rfl⟩
            obtain ⟨m, ls, ms, ks, hm, rfl, tri, hin, hbr⟩ := hrel
            have HTR := hide tri
            have HIN := hide hin
            have HBR := hide hbr
            clear tri hin
            by_cases hlm : m < edges.length
            · have HAW := hide (show AutAt wr2 (Lo wr2.heap.size) ⟨AE, nE, cE, AC, nC, cC, some ⟨bf, of, none⟩, cF, fin, AX, cX, edges⟩ from by have h := HA.out.grow hbr; rw [HAA.out] at h; exact h)
              obtain ⟨be, oe, ax, hbe, e0, e1, e2, e3, e4, e5⟩ := HAW.out.edges.edg_at hlm
              dsimp only at ax
              subst ax
              have he : edges[m]? = some edges[m] := List.getElem?_eq_getElem hlm
              have HE := hide he
              have hco := HCO.out
              rw [HAA.out] at hco
              have hcl := hco.1.st _ (List.getElem_mem hlm)
              have hcc := hco.1.c _ (List.getElem_mem hlm)
              have hcd := hco.2.c _ (List.getElem_mem hlm)
              have HCC := hide hco
              clear he hco
              generalize edges[m] = x at *
              obtain ⟨f, t, ev, wh, lo, hi⟩ := x
              dsimp only at e0 e1 e2 e3 e4 e5 hcl hcc hcd
              obtain ⟨W1, hW1⟩ : ∃ W1 : World, wr2.alloc (.cells #[.int .i64 f, .int .i64 t, .int .i64 ev, .int .i64 wh, .int .i64 lo, .int .i64 hi] 39) = W1 := ⟨_, rfl⟩
              have g1 : W1.heap[wr2.heap.size]? = some (.cells #[.int .i64 f, .int .i64 t, .int .i64 ev, .int .i64 wh, .int .i64 lo, .int .i64 hi] 39 (0, 0)) := by rw [← hW1]; exact heap_alloc_new wr2 _
              have hb1 : Below wr2.heap.size wr2 W1 := by rw [← hW1]; exact (Below.refl _ _).alloc (Nat.le_refl _) _
              have HB1 := hide (bstep hbr hb1)
              have HT1 := hide (HTR.out.below hb1)
              have HW1 := hide hW1
              have hne : W0.heap.size ≤ wr2.heap.size := hbr.size
              clear hW1 hb1 HTR HAW
              obtain ⟨y0, y1, y2, y3, -⟩ := box4 ((hbr.block _ (box_lt HG0.out)).trans HG0.out)
              clear hbr
              go_upto_region 12 with (fail)
              rw [HW1.out]
              clear HW1 e0 e1 e2 e3 e4 e5 y0 y1 y2 y3
              obtain ⟨f0, f1, f2, f3, f4, f5⟩ := box6 g1
              clear g1
              generalize wr2.heap.size = XB at *
              by_cases hf : f = (q : Int)
              · have T1 : (f != (q : Int)) = false := by simp [hf]
                obtain ⟨tn, htn⟩ := Int.eq_ofNat_of_zero_le (show 0 ≤ t by omega)
                subst htn
                have hqt : q < tn := by omega
                have htl : tn < fin.length := by omega
                obtain ⟨l1, h1, b1, c1, c2, c3, d1⟩ := HIN.out.done tn hqt htl
                obtain ⟨lq, hq, bq, c4, c5, c6, d⟩ := HIN.out.here
                have b1l := dur_bound (B := 36283883716608) d1 (by omega) (fun c hc => back_bound HCC.out.1 (by omega) (by omega) hc) (fun c hc => back_bound HCC.out.2 (by omega) (by omega) hc)
                have b2l := dur_bound (B := 37383395344384) d (by omega) (fun c hc => backI_bound HCC.out.1 (by omega) hc) (fun c hc => backI_bound HCC.out.2 (by omega) hc)
                have x1 := HT1.out.l.cell c1
                have x2 := HT1.out.m.cell c2
                have x3 := HT1.out.k.cell c3
                have x4 := HT1.out.l.cell c4
                have x5 := HT1.out.m.cell c5
                have x6 := HT1.out.k.cell c6
                have z4 : W1.frozen? ⟨gl, q, none⟩ = false := HT1.out.l.froz
                have z5 : W1.frozen? ⟨gm, q, none⟩ = false := HT1.out.m.froz
                have z6 : W1.frozen? ⟨gk, q, none⟩ = false := HT1.out.k.froz
                have n1 : ¬ gl = gm := HT1.out.nlm
                have n2 : ¬ gl = gk := HT1.out.nlk
                have n3 : ¬ gm = gk := HT1.out.nmk
                have HC4 := hide c4
                have HD1 := hide d1
                have HD := hide d
                have HF := hide hf
                clear c1 c2 c3 c4 c5 c6 d d1 hf
                cases b1 with
                | false =>
                  have HNX := hide (in_skip HIN.out HE.out (.inr ⟨(HD1.out.2 rfl).2.2.1, (HD1.out.2 rfl).2.2.2⟩))
                  go_wp2_with fail
                  exact ⟨⟨m + 1, ls, ms, ks, hlm, by go_num, HT1.out, HNX.out, HB1.out⟩, by simp [intOf]; omega⟩
                | true =>
                  have hh : 0 ≤ hi + h1 := by omega
                  by_cases hcond : bq = true ∧ lq ≤ lo + l1
                  · obtain ⟨rfl, hle⟩ := hcond
                    have T2 : decide (lo + l1 < lq) = false := decide_eq_false (by omega)
                    have HNX := hide (in_take HIN.out HE.out HF.out HD.out (by omega) HD1.out (by dsimp only; omega) (lo' := lq) (by simp [hle]))
                    rw [set_same HC4.out] at HNX
                    have HTN := hide (fun (n : Nat) (v : Int) => ((show Tri (W1.drewN n) gl gm gk ls ms ks from ⟨HT1.out.l, HT1.out.m, HT1.out.k, n1, n2, n3⟩).setM (i := q) v).setK (i := q) true)
                    have HBN := hide (fun (n : Nat) (v : Value) (u : Value) => ((below_drewN HB1.out n).setCell (p := ⟨gm, q, none⟩) hgm v).setCell (p := ⟨gk, q, none⟩) hgk u)
                    go_upto_region 13 with (fail)
                    go_quiet (fail)
                    go_wp2_with fail
                    exact ⟨⟨m + 1, _, _, _, hlm, by go_num, HTN.out _ _, HNX.out, HBN.out _ _ _⟩, by simp [intOf]; omega⟩
                  · have HNX := hide (in_take HIN.out HE.out HF.out HD.out (by omega) HD1.out (by dsimp only; omega) (lo' := lo + l1) (by rw [if_neg hcond]))
                    have HTN := hide (fun (n : Nat) (u : Int) (v : Int) => (((show Tri (W1.drewN n) gl gm gk ls ms ks from ⟨HT1.out.l, HT1.out.m, HT1.out.k, n1, n2, n3⟩).setL (i := q) u).setM (i := q) v).setK (i := q) true)
                    have HBN := hide (fun (n : Nat) (t : Value) (v : Value) (u : Value) => (((below_drewN HB1.out n).setCell (p := ⟨gl, q, none⟩) hgl t).setCell (p := ⟨gm, q, none⟩) hgm v).setCell (p := ⟨gk, q, none⟩) hgk u)
                    cases bq with
                    | false =>
                      clear hcond
                      go_upto_region 13 with (fail)
                      go_quiet (fail)
                      go_wp2_with fail
                      exact ⟨⟨m + 1, _, _, _, hlm, by go_num, HTN.out _ _ _, HNX.out, HBN.out _ _ _ _⟩, by simp [intOf]; omega⟩
                    | true =>
                      have T2 : decide (lo + l1 < lq) = true := decide_eq_true (by simp at hcond; omega)
                      clear hcond
                      go_upto_region 13 with (fail)
                      go_quiet (fail)
                      go_wp2_with fail
                      exact ⟨⟨m + 1, _, _, _, hlm, by go_num, HTN.out _ _ _, HNX.out, HBN.out _ _ _ _⟩, by simp [intOf]; omega⟩
              · have T1 : (f != (q : Int)) = true := by simp [hf]
                have HNX := hide (in_skip HIN.out HE.out (.inl hf))
                clear hf
                go_wp2_with fail
                exact ⟨⟨m + 1, ls, ms, ks, hlm, by go_num, HT1.out, HNX.out, HB1.out⟩, by simp [intOf]; omega⟩
            · have hme : m = edges.length := by omega
              have HEND := hide (show ∀ j, q ≤ j → j < fin.length → DurAt (BackS edges fin Edg.low (j : Int)) (BackS edges fin Edg.high (j : Int)) ls ms ks j from in_end (by rw [← hme]; exact HIN.out))
              have HZZ := hide HIN.out.zero
              have HLL := hide (And.intro HIN.out.l1 (And.intro HIN.out.l2 HIN.out.l3))
              clear hme HIN hbr
              go_wp2_with fail
              exact ⟨⟨q, ls, ms, ks, by omega, rfl, HTR.out, HLL.out, HEND, HZZ, HBR.out⟩, by simp [intOf]⟩
        · have hk0 : k = 0 := by omega
          subst hk0
          obtain ⟨lo, hi, b, c1, c2, c3, d⟩ := hd.out 0 (Nat.le_refl _) (by omega)
          have x1 := HTR.out.l.cell c1
          have x2 := HTR.out.m.cell c2
          have HF := hide (show LenPost a' w (.returned (.tuple #[.int .i64 lo, .int .i64 hi])) wr1 from ⟨lo, hi, rfl, .inr ⟨HVB.out, by rw [HAA.out]; exact ⟨b, d⟩⟩, bstep HB0.out hbr⟩)
          have hin : 0 < fin.length := by omega
          clear hd hz HLS HTR HAW c1 c2 c3 d hbr
          go_upto_region 18 with (fail)
          go_quiet (fail)
          go_wp2_with fail
          go_ret2
          obtain ⟨lo', hi', e1, e2, e3⟩ := HF.out
          exact ⟨lo', hi', e1, e2, below_drewN e3 _⟩

end Go.Proofs.YtgobkbjkndfliaaGreatDoor
