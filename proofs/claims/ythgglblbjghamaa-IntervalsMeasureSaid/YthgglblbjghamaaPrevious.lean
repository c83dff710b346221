/-
  intervals.Previous: the greatest time up to t, by a loop over slices.Backward.
-/
import Derived.Test.YthgglblbjghamaaSearch
import Derived.Test.YthgglblbjghamaaBack
namespace Go.Proofs.Ythgglblbjghamaa
open Go.RowKit Go.Shelf

attribute [local go_sem] Oper.semAt_some

theorem backL_all {ys : List Iv} {P : Nat × Iv → Prop} (h : ∀ p ∈ backL ys ys.length, P p) : ∀ j (hj : j < ys.length), P (j, ys[j]) := by
  intro j hj
  refine h _ ?_
  unfold backL
  rw [List.mem_map]
  refine ⟨ys.length - 1 - j, by rw [List.mem_range]; omega, ?_⟩
  have e2 : ys.length - 1 - (ys.length - 1 - j) = j := by omega
  simp [backAt, e2, hj]
theorem backL_last {ys : List Iv} {k : Nat} (hk : k ≤ ys.length) {ini : List (Nat × Iv)} {last : Nat × Iv} (e : backL ys k = ini ++ [last]) :
    ∃ j, ∃ hj : j < ys.length, last = (j, ys[j]) ∧ ∀ i (hi : i < ys.length), j < i → (i, ys[i]) ∈ ini := by
  cases k with
  | zero => simp [backL] at e
  | succ k =>
    rw [backL_succ] at e
    obtain ⟨rfl, e5⟩ := List.append_inj' e rfl
    have e6 : backAt ys k = last := by simpa using e5
    subst e6
    refine ⟨ys.length - 1 - k, by omega, by simp [backAt, show ys.length - 1 - k < ys.length by omega], fun i hi hij => ?_⟩
    unfold backL
    rw [List.mem_map]
    refine ⟨ys.length - 1 - i, by rw [List.mem_range]; omega, ?_⟩
    have e2 : ys.length - 1 - (ys.length - 1 - i) = i := by omega
    simp [backAt, e2, hi]

theorem prev_of_all {ys : List Iv} {t : Int} (h : ∀ p ∈ backL ys ys.length, t < p.2.1) : PrevIs (Mem ys) t 0 false := prev_none fun j hj => backL_all h j hj
theorem prev_of_last {ys : List Iv} (hn : Norm ys) {t : Int} {k : Nat} (hk : k ≤ ys.length) {ini : List (Nat × Iv)} {last : Nat × Iv} (e : backL ys k = ini ++ [last]) (h : ∀ p ∈ ini, t < p.2.1) (hl : last.2.1 ≤ t) : PrevIs (Mem ys) t (min last.2.2 t) true := by
  obtain ⟨j, hj, rfl, hm⟩ := backL_last hk e
  exact prev_hit hn hj (fun i hi hij => h _ (hm i hi hij)) hl

/-- the three boxes of Previous -/
def PrevBox (N : Nat) (t : Int) (u : Int) (ok : Bool) (W : World) : Prop :=
  Boxed W N 3 (.int .i64 t) ∧ Boxed W (N + 1) 3 (.int .i64 u) ∧ Boxed W (N + 1 + 1) 4 (.bool ok)
theorem PrevBox.below {N : Nat} {t u : Int} {ok : Bool} {W W' : World} (h : PrevBox N t u ok W) (hb : Below W.heap.size W W') : PrevBox N t u ok W' :=
  ⟨(hb.block _ h.1.lt).trans h.1, (hb.block _ h.2.1.lt).trans h.2.1, (hb.block _ h.2.2.lt).trans h.2.2⟩
theorem PrevBox.alloc {N : Nat} {t u : Int} {ok : Bool} {W : World} (h : PrevBox N t u ok W) (o : Obj) : PrevBox N t u ok (W.alloc o) := ⟨h.1.alloc o, h.2.1.alloc o, h.2.2.alloc o⟩
theorem PrevBox.set {N : Nat} {t u : Int} {ok : Bool} {W : World} (h : PrevBox N t u ok W) (u' : Int) (ok' : Bool) : PrevBox N t u' ok' ((W.setCell ⟨N + 1, 0, none⟩ (.int .i64 u')).setCell ⟨N + 1 + 1, 0, none⟩ (.bool ok')) :=
  ⟨(h.1.other (by omega) _).other (by omega) _, (h.2.1.set _).other (by omega) _, (h.2.2.other (by omega) _).set _⟩
theorem PrevBox.own {N : Nat} {t u : Int} {ok : Bool} {X Y : World} {row : Option Nat} (h : PrevBox N t u ok X) (hg : X.grownBy Y row) (hr : ∀ r, row = some r → ∃ o : Obj, X.heap[r]? = some o ∧ o.isCells = false) : PrevBox N t u ok Y :=
  ⟨boxed_own N _ (fun (_ : Unit) => Value.int .i64 t) () X Y row h.1 hg hr, boxed_own (N + 1) _ (fun (_ : Unit) => Value.int .i64 u) () X Y row h.2.1 hg hr, boxed_own (N + 1 + 1) _ (fun (_ : Unit) => Value.bool ok) () X Y row h.2.2 hg hr⟩

theorem previous_boxes {w W0 : World} {t : Int} (h : ((w.alloc (.cells #[.int .i64 t] 3)).alloc (.cells #[.int .i64 0] 3)).alloc (.cells #[.bool false] 4) = W0) :
    Below w.heap.size w W0 ∧ W0.heap.size = w.heap.size + 3 ∧ PrevBox w.heap.size t 0 false W0 := by
  subst h
  refine ⟨(((Below.refl _ w).alloc (Nat.le_refl _) _).alloc (by simp) _).alloc (by simp; omega) _, by simp, ?_, ?_, ?_⟩
  · exact ((Boxed.new w _ _).alloc _).alloc _
  · have := (Boxed.new (w.alloc (.cells #[.int .i64 t] 3)) 3 (.int .i64 0)).alloc (.cells #[.bool false] 4)
    simpa using this
  · have := Boxed.new ((w.alloc (.cells #[.int .i64 t] 3)).alloc (.cells #[.int .i64 0] 3)) 4 (.bool false)
    simpa using this

/-- between two rounds -/
def PrevI (w W2 : World) (t : Int) (pre : List (Nat × Iv)) (W : World) : Prop :=
  (Hid (∀ p ∈ pre, t < p.2.1) ∧ PrevBox w.heap.size t 0 false W) ∧ Below w.heap.size w W ∧ Below W2.heap.size W2 W
/-- a round has left -/
def PrevIx (w : World) (t : Int) (c : Code) (pre : List (Nat × Iv)) (W : World) : Prop :=
  (c = .ret ∧ ∃ ini last, pre = ini ++ [last] ∧ (∀ p ∈ ini, t < p.2.1) ∧ last.2.1 ≤ t ∧ PrevBox w.heap.size t (min last.2.2 t) true W) ∧ Below w.heap.size w W
/-- the frame in a round -/
def PrevAx (w w1 : World) (A A1 : Option Addr) (c c1 m n : Nat) (t : Int) (x : Nat × Iv) (a' : Act) (W : World) : Prop :=
  ∃ Bx, w.heap.size + 1 + 1 < Bx ∧ W.cell? ⟨Bx, 0, none⟩ = some (.int .i64 x.2.1) ∧ W.cell? ⟨Bx, 1, none⟩ = some (.int .i64 x.2.2) ∧
    a' = { tmps := #[.slice A m c, .int .i64 t, undef, .pointer (some ⟨w.heap.size, 0, none⟩), .pointer (some ⟨w.heap.size + 1, 0, none⟩), .pointer (some ⟨w.heap.size + 1 + 1, 0, none⟩), undef, .pointer (some ⟨Bx, 0, none⟩), .slice A m c, .slice A1 n c1, .func (.func 70) #[] #[.pointer (some ⟨w1.heap.size, 0, none⟩)], .int .i64 (x.1 : Int), .agg #[.int .i64 x.2.1, .int .i64 x.2.2], undef, undef, undef, undef, undef, undef, undef, undef], defers := [] }

theorem prev_new {W : World} {p q : Int} {t : TypeId} : (W.alloc (.cells #[.int .i64 p, .int .i64 q] t)).cell? ⟨W.heap.size, 0, none⟩ = some (.int .i64 p) ∧ (W.alloc (.cells #[.int .i64 p, .int .i64 q] t)).cell? ⟨W.heap.size, 1, none⟩ = some (.int .i64 q) := by
  have h := World.alloc_heap_new W (.cells #[.int .i64 p, .int .i64 q] t)
  exact ⟨by rw [cell_of_row _ _ _ _ t (0, 0) h]; rfl, by rw [cell_of_row _ _ _ _ t (0, 0) h]; rfl⟩

theorem prev_finish {W : World} {N D : Nat} {t u : Int} {ok : Bool} (pb : PrevBox N t u ok W) (hK : W.heap[D]? = some (.deferred (some []))) :
    (W.putObj D (.deferred none)).cell? ⟨N + 1, 0, none⟩ = some (.int .i64 u) ∧ (W.putObj D (.deferred none)).cell? ⟨N + 1 + 1, 0, none⟩ = some (.bool ok) := by
  have := pb.own (grownBy_putObj' W D (.deferred none)) (fun r e => by cases e; exact ⟨_, hK, rfl⟩)
  exact ⟨this.2.1.cell, this.2.2.cell⟩

set_option maxRecDepth 100000 in
set_option maxHeartbeats 4000000 in
theorem previous_any (A : Option Addr) (c : Nat) (xs : List Iv) (t : Int) (w : World) (h : IvsAt w w.heap.size A xs) (hl : xs.length ≤ 1000000000000) :
    Calls Try.prog 41 #[.slice A xs.length c, .int .i64 t] w (RetNB w (PrevIs (Mem xs) t)) := by
  refine (callsIn_wide (n := 6)).1 ?_
  refine callsIn_of_wp_marks Try.func41 rfl trivial ?_ rfl
  simp only [Try.ntmps41, List.size_toArray, List.length_cons, List.length_nil, Nat.reduceAdd, Nat.reduceSub, Array.replicate_succ, Array.replicate_zero, List.push_toArray, List.append_toArray, List.nil_append, List.cons_append]
  gi_wp2_with fail
  obtain ⟨W0, hW0⟩ : ∃ W0 : World, ((w.alloc (.cells #[.int .i64 t] 3)).alloc (.cells #[.int .i64 0] 3)).alloc (.cells #[.bool false] 4) = W0 := ⟨_, rfl⟩
  obtain ⟨hb0, hz0, p0⟩ := previous_boxes hW0
  rw [hW0]
  clear hW0
  refine ⟨trivial, (callsIn_wide.2 (normal_any A c xs W0 ((h.below hb0).more hb0.size) (by omega))).mono ?_⟩
  rintro e w1 ⟨A1, c1, ys, rfl, hown1, hb1, ny, my⟩
  have hly := norm_len ny
  have ry := hown1.ats
  have p1 := p0.below hb1
  have HMY := hide my
  have hbw1 := bstep hb0 hb1
  have hz1 : w.heap.size + 3 ≤ w1.heap.size := by have := hb1.size; omega
  clear my hown1 p0 hb1 hb0 hz0
  gi_wp2_with fail
  refine ⟨trivial, (backward_in 5 A1 ys.length c1 w1).mono ?_⟩
  rintro e w2 ⟨rfl, hw2⟩
  have hc2 : w2.cell? ⟨w1.heap.size, 0, none⟩ = some (.slice A1 ys.length c1) := by rw [hw2]; exact (Boxed.new w1 _ _).cell
  have hz2 : w2.heap.size = w1.heap.size + 1 := by rw [hw2]; simp
  have p2 : PrevBox w.heap.size t 0 false w2 := by rw [hw2]; exact p1.alloc _
  have r2 : IvsAt w2 w2.heap.size A1 ys := by rw [hw2]; exact ry.alloc _
  have hb2 : Below w.heap.size w w2 := by rw [hw2]; exact hbw1.alloc hbw1.size _
  clear hw2 ry p1 hbw1
  have HZ2 := hide hz2
  have hz2' : w1.heap.size < w2.heap.size := by omega
  clear hz2
  gi_wp2_with fail
  refine wpIn_rangeFunc_ownH (n := 6) rfl (by omega) (gf := 70) (lb := #[.pointer (some ⟨w1.heap.size, 0, none⟩)]) rfl trivial (enters_of Try.func70 (by kernel_rfl) rfl)
    (backward_stops 5 w1.heap.size w2.heap.size c1 A1 ys (by omega) (by omega) w2 hz2' (Nat.le_refl _) hc2 r2) belowK_t (belowK_b (Nat.le_refl _)) (Below.refl _ _) (fun _ => rfl)
    (PrevI w w2 t) (PrevIx w t)
    (OwnFrom.and (Own.from (fun s X Y row hs hg hr => ⟨hs.1, hs.2.own hg hr⟩) _) (OwnFrom.and (ownFrom_below (Nat.le_refl _) hb2.size) (ownFrom_below (Nat.le_refl _) (Nat.le_refl _))))
    (fun c => OwnFrom.and (Own.from (fun s X Y row hs hg hr => by obtain ⟨hc, ini, last, e1, e2, e3, e4⟩ := hs; exact ⟨hc, ini, last, e1, e2, e3, e4.own hg hr⟩) _) (ownFrom_below (Nat.le_refl _) hb2.size))
    ⟨⟨fun p hp => absurd hp (by simp), p2⟩, hb2, Below.refl _ _⟩
    (PrevAx w w1 A A1 c c1 xs.length ys.length t)
    (fun x a' _ X Y row hs hg hr => by obtain ⟨Bx, h1, h2, h3, h4⟩ := hs; exact ⟨Bx, h1, cell_kept h2 hg (fun r e => (hr r e).2), cell_kept h3 hg (fun r e => (hr r e).2), h4⟩)
    ?assign ?body ?done ?stop
  case assign =>
    rintro l pre x W K ⟨⟨hp, pb⟩, hB, hB2⟩ hK
    unfold backEnc
    gi_wp2
    exact hK _ _ ((KeepsOthers.alloc _ _).from _) ((Below.refl _ W).alloc hB2.size _) ⟨⟨hp, pb.alloc _⟩, hB.alloc hB.size _, hB2.alloc hB2.size _⟩ ⟨W.heap.size, by have := hB2.size; omega, prev_new.1, prev_new.2, rfl⟩
  case body =>
    rintro l pre x a' W hl ⟨r, hr⟩ ⟨⟨hp, pb⟩, hB, hB2⟩ ⟨Bx, hBx, cX0, cX1, rfl⟩ hlt
    have cT := pb.1.cell
    have cU := pb.2.1.cell
    have fU := pb.2.1.frozen
    have cO := pb.2.2.cell
    have fO := pb.2.2.frozen
    by_cases hx : x.2.1 ≤ t
    · gi_wp2
      exact ⟨((KeepsOthers.setCell _ _ _).trans (KeepsOthers.setCell _ _ _)).from _, ⟨rfl, pre, x, rfl, hp.out, hx, pb.set _ _⟩, (hB.setCell (p := ⟨w.heap.size + 1, 0, none⟩) (by simp) _).setCell (p := ⟨w.heap.size + 1 + 1, 0, none⟩) (by simp; omega) _⟩
    · gi_wp2
      refine ⟨KeepsFrom.refl _ _, Below.refl _ _, ⟨fun p hp' => (List.mem_append.1 hp').elim (hp.out p) (fun e => by simp at e; subst e; omega), pb⟩, hB, hB2⟩
  case done =>
    rintro D zs W hD rfl ⟨⟨hp, pb⟩, hB, hB2⟩ hK
    have HP := hide (prev_of_all hp.out)
    have cU := pb.2.1.cell
    have fU := pb.2.1.frozen
    have cO := pb.2.2.cell
    have fO := pb.2.2.frozen
    gi_wp2
    have hK' := ((KeepsOthers.setCell W ⟨w.heap.size + 1, 0, none⟩ (.int .i64 0)).trans (KeepsOthers.setCell _ ⟨w.heap.size + 1 + 1, 0, none⟩ (.bool false))).same D _ hK rfl
    refine ⟨by simp, .inl ⟨_, _, rfl, run_takeDeferred hK', ?_⟩⟩
    obtain ⟨f1, f2⟩ := prev_finish (pb.set 0 false) hK'
    refine ⟨.tuple #[.int .i64 0, .bool false], by simp [results, Try.f41, go_sem, f1, f2], 0, false, HP.out.congr HMY.out, rfl, ?_⟩
    exact ((hB.setCell (p := ⟨w.heap.size + 1, 0, none⟩) (by simp) _).setCell (p := ⟨w.heap.size + 1 + 1, 0, none⟩) (by simp; omega) _).trans (belowK_b (w := w2) hb2.size _ D _ _ hD hK' rfl rfl)
  case stop =>
    rintro D c' pre W hD ⟨k, hk, rfl⟩ ⟨⟨rfl, ini, last, e1, e2, e3, pb⟩, hB⟩ hK
    have HP := hide (prev_of_last ny hk e1 e2 e3)
    clear e1 e2
    gi_wp2
    refine ⟨by simp, .inl ⟨_, _, rfl, run_takeDeferred hK, ?_⟩⟩
    obtain ⟨f1, f2⟩ := prev_finish pb hK
    refine ⟨.tuple #[.int .i64 (min last.2.2 t), .bool true], by simp [results, Try.f41, go_sem, f1, f2], min last.2.2 t, true, HP.out.congr HMY.out, rfl, ?_⟩
    exact hB.trans (belowK_b (w := w2) hb2.size _ D _ _ hD hK rfl rfl)

end Go.Proofs.Ythgglblbjghamaa
