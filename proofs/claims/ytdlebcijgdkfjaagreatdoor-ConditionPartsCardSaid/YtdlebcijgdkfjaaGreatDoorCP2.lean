/-
  Several texts in one: TruCut, MemT, InW. Each says at its head what it holds.
-/
import Derived.Test.YtdlebcijgdkfjaaGreatDoorCR49
import Derived.Deep.RegionHeld3
import Derived.Test.YtdlebcijgdkfjaaGreatDoorCR11
import Derived.Test.YtdlebcijgdkfjaaGreatDoorCR13

/-
  A region that makes a source of a wave and asks a condition of it: the words for it.
-/
namespace Go.Proofs.YtdlebcijgdkfjaaGreatDoor
open Go.RowKit

def TruSays (v : Wv) (n : Nd) (f t : Int) (w' : World) (A : Option Addr) (lx : Nat) (B : Option Addr) (ly : Nat) (er : Int) : Prop :=
  (¬ GoodT v n f t ∧ er ≠ 0) ∨ (GoodT v n f t ∧ er = 0 ∧ ∃ xs ys : List Iv, lx = xs.length ∧ ly = ys.length ∧ IvsAt w' w'.heap.size A xs ∧ IvsAt w' w'.heap.size B ys ∧ SetsT v n f t xs ys)
theorem TruSays.step {v : Wv} {n : Nd} {f t : Int} {w w' : World} {A B : Option Addr} {lx ly : Nat} {er : Int} (h : TruSays v n f t w A lx B ly er) (hb : Below w.heap.size w w') : TruSays v n f t w' A lx B ly er := by
  rcases h with h | ⟨h1, h2, xs, ys, e1, e2, h3, h4, h5⟩
  · exact .inl h
  · exact .inr ⟨h1, h2, xs, ys, e1, e2, h3.step hb, h4.step hb, h5⟩
/-- the answer, of the lists that the call made -/
def TruRes (v : Wv) (n : Nd) (f t : Int) (w' : World) (A : Option Addr) (lx ca : Nat) (B : Option Addr) (ly cb : Nat) (er : Int) : Prop :=
  (¬ GoodT v n f t ∧ er ≠ 0) ∨ (GoodT v n f t ∧ er = 0 ∧ ∃ xs ys : List Iv, lx = xs.length ∧ ly = ys.length ∧ OwnIv w' 0 A ca xs ∧ OwnIv w' 0 B cb ys ∧ SetsT v n f t xs ys)
theorem TruRes.says {v : Wv} {n : Nd} {f t : Int} {w : World} {A B : Option Addr} {lx ca ly cb : Nat} {er : Int} (h : TruRes v n f t w A lx ca B ly cb er) : TruSays v n f t w A lx B ly er := by
  rcases h with h | ⟨h1, h2, xs, ys, e1, e2, h3, h4, h5⟩
  · exact .inl h
  · exact .inr ⟨h1, h2, xs, ys, e1, e2, h3.ats, h4.ats, h5⟩
theorem truth_res (v : Wv) (n : Nd) (f t : Int) (M : Nat) (w w1 : World) (hb : Below w.heap.size w w1) (hM : w.heap.size ≤ M) (h : SourceAt w1 M v (-1) 0) (hv : SmallOk v) (hf : FewOk 60 n) (ht : TreesAt w (Lo w.heap.size) n.KA n.kids) (hok : okF n) (htab : Tab w) :
    Calls Tryz.prog 17 #[srcV M, .agg (cNd n).toArray, .int .i64 f, .int .i64 t] w1 fun e w2 => ∃ (A : Option Addr) (lx ca : Nat) (B : Option Addr) (ly cb : Nat) (er : Int), e = .returned (.tuple #[.agg #[.slice A lx ca, .slice B ly cb], .int .i64 er]) ∧ TruRes v n f t w2 A lx ca B ly cb er ∧ But w1.heap.size (some M) w1 w2 := by
  refine (truth_any v (-1) 0 M n f t w1 h hv (tree_un ht hb hM) hok hf (few_short n hf) (htab.below hb) (by decide) (by decide) (.inl (by decide)) (fun h => by omega)).mono ?_
  rintro e w2 (⟨h1, rfl, h2⟩ | ⟨h0, h1, rfl, h2⟩ | ⟨h0, h1, zs, hz, ⟨h2, _, rfl, c', h3⟩ | ⟨h2, _, h3, A, ca, xs, B, cb, ys, rfl, ox, oy, nx, ny, mx, my⟩ | ⟨_, h2, _⟩⟩)
  · exact ⟨none, 0, 0, none, 0, 0, 2, rfl, .inl ⟨(fun h => h1 h.1), by decide⟩, h2.2⟩
  · exact ⟨none, 0, 0, none, 0, 0, 7, rfl, .inl ⟨(fun h => by rw [h.2.1] at h1; cases h1), by decide⟩, h2.2⟩
  · exact ⟨none, 0, 0, none, 0, 0, _, rfl, .inl ⟨(fun h => h2 ((fit_good hz hok).2 h.2.2)), h2⟩, h3.2⟩
  · exact ⟨A, _, ca, B, _, cb, 0, rfl, .inr ⟨⟨h0, h1, (fit_good hz hok).1 h2⟩, rfl, xs, ys, rfl, rfl, ox.lower (Nat.zero_le _), oy.lower (Nat.zero_le _), ⟨nx, ny, mx, my⟩⟩, h3.2⟩
  · omega
/-- what such a region leaves: the answer's box and its error -/
def TruBox (v : Wv) (n : Nd) (f t : Int) (W1 wx : World) (a b : Value) : Prop := ∃ (N : Nat) (A : Option Addr) (lx ca : Nat) (B : Option Addr) (ly cb : Nat) (er : Int), a = .pointer (some ⟨N, 0, none⟩) ∧ b = .int .i64 er ∧ wx.heap[N]? = some (.cells #[.slice A lx ca, .slice B ly cb] 45 (0, 0)) ∧ W1.heap.size ≤ N ∧ TruSays v n f t wx A lx B ly er ∧ Below W1.heap.size W1 wx
theorem but_step {W0 W1 W3 : World} {M : Nat} (q : Below W0.heap.size W0 W1) (hb : But W1.heap.size (some M) W1 W3) (hM : W0.heap.size ≤ M) : Below W0.heap.size W0 W3 := q.trans (hb.below q.size fun k e => by injection e with e; omega)
theorem below_al {W0 W : World} (h : Below W0.heap.size W0 W) (o : Obj) : Below W0.heap.size W0 (W.alloc o) := h.alloc h.size o
theorem below_s2 {W0 W : World} (h : Below W0.heap.size W0 W) {N : Nat} (hN : W0.heap.size ≤ N) (u v : Value) : Below W0.heap.size W0 ((W.setCell ⟨N, 0, none⟩ u).setCell ⟨N, 1, none⟩ v) := (h.setCell (p := ⟨N, 0, none⟩) hN _).setCell (p := ⟨N, 1, none⟩) hN _
theorem tru_fin {v : Wv} {n : Nd} {f t : Int} {W1 W3 : World} {N : Nat} {p q : Value} {A B : Option Addr} {lx ca ly cb : Nat} {er : Int} (hr : TruRes v n f t W3 A lx ca B ly cb er) (g : W3.heap[N]? = some (.cells #[p, q] 45 (0, 0))) (hb : Below W1.heap.size W1 W3) (hN : W1.heap.size ≤ N) :
    TruBox v n f t W1 ((W3.setCell ⟨N, 0, none⟩ (.slice A lx ca)).setCell ⟨N, 1, none⟩ (.slice B ly cb)) (.pointer (some ⟨N, 0, none⟩)) (.int .i64 er) := by
  refine ⟨N, A, lx, ca, B, ly, cb, er, rfl, rfl, box2_set g, hN, ?_, below_s2 hb hN _ _⟩
  refine TruRes.says (ca := ca) (cb := cb) ?_
  rcases hr with h | ⟨h1, h2, xs, ys, e1, e2, h3, h4, h5⟩
  · exact .inl h
  · exact .inr ⟨h1, h2, xs, ys, e1, e2, set2_own g h3, set2_own g h4, h5⟩
theorem TruRes.al {v : Wv} {n : Nd} {f t : Int} {w : World} {A B : Option Addr} {lx ca ly cb : Nat} {er : Int} (h : TruRes v n f t w A lx ca B ly cb er) (o : Obj) : TruRes v n f t (w.alloc o) A lx ca B ly cb er := by
  rcases h with h | ⟨h1, h2, xs, ys, e1, e2, h3, h4, h5⟩
  · exact .inl h
  · exact .inr ⟨h1, h2, xs, ys, e1, e2, h3.below ((Below.refl _ _).alloc (Nat.le_refl _) _) (Nat.le_refl _), h4.below ((Below.refl _ _).alloc (Nat.le_refl _) _) (Nat.le_refl _), h5⟩
theorem tru_fin_al {v : Wv} {n : Nd} {f t : Int} {W1 W3 : World} {A B : Option Addr} {lx ca ly cb : Nat} {er : Int} (hr : TruRes v n f t W3 A lx ca B ly cb er) (hb : Below W1.heap.size W1 W3) :
    TruBox v n f t W1 (W3.alloc (.cells #[.slice A lx ca, .slice B ly cb] 45)) (.pointer (some ⟨W3.heap.size, 0, none⟩)) (.int .i64 er) :=
  ⟨W3.heap.size, A, lx, ca, B, ly, cb, er, rfl, rfl, heap_alloc_new _ _, hb.size, (hr.al _).says, below_al hb _⟩
theorem box_first {w w2 w3 : World} {o : Obj} {M : Nat} (hb : Below (w.drew.alloc o).heap.size (w.drew.alloc o) w2) (hM : (w.drew.alloc o).heap.size ≤ M) (hbut : But w2.heap.size (some M) w2 w3) : w3.heap[w.heap.size]? = some o := by
  have h1 : w.heap.size < (w.drew.alloc o).heap.size := by rw [World.size_alloc]; exact Nat.lt_succ_self _
  have h2 : (w.drew.alloc o).heap[w.heap.size]? = some o := heap_alloc_new w.drew o
  exact (hbut.block _ (Nat.lt_of_lt_of_le h1 hb.size) (fun e => by injection e with e; omega)).trans ((hb.block _ h1).trans h2)
theorem box_mid {w2 w3 : World} {o : Obj} {M : Nat} (hM : M < w2.heap.size) (hbut : But (w2.alloc o).heap.size (some M) (w2.alloc o) w3) : w3.heap[w2.heap.size]? = some o :=
  (hbut.block _ (by rw [World.size_alloc]; omega) (fun e => by injection e with e; omega)).trans (heap_alloc_new w2 o)
/-- a wave and a tree in boxes -/
theorem wn_held {W0 : World} {N M : Nat} {a0 a1 a2 b0 b1 b2 b3 b4 b5 b6 b7 b8 : Value} {t t' : TypeId} (h0 : W0.heap[N]? = some (.cells #[a0, a1, a2] t (0, 0))) (h1 : W0.heap[M]? = some (.cells #[b0, b1, b2, b3, b4, b5, b6, b7, b8] t' (0, 0))) (W : World) (hb : Below W0.heap.size W0 W) :
    W.cell? ⟨N, 0, none⟩ = some a0 ∧ W.cell? ⟨N, 1, none⟩ = some a1 ∧ W.cell? ⟨N, 2, none⟩ = some a2 ∧ W.cell? ⟨M, 0, none⟩ = some b0 ∧ W.cell? ⟨M, 1, none⟩ = some b1 ∧ W.cell? ⟨M, 2, none⟩ = some b2 ∧ W.cell? ⟨M, 3, none⟩ = some b3 ∧ W.cell? ⟨M, 4, none⟩ = some b4 ∧ W.cell? ⟨M, 5, none⟩ = some b5 ∧ W.cell? ⟨M, 6, none⟩ = some b6 ∧ W.cell? ⟨M, 7, none⟩ = some b7 ∧ W.cell? ⟨M, 8, none⟩ = some b8 ∧ Below W0.heap.size W0 W := by
  have g0 := (hb.block _ (box_lt h0)).trans h0
  have g1 := (hb.block _ (box_lt h1)).trans h1
  refine ⟨?_, ?_, ?_, ?_, ?_, ?_, ?_, ?_, ?_, ?_, ?_, ?_, hb⟩
  all_goals first | (rw [cell_of_row W N _ _ t (0, 0) g0]; rfl) | (rw [cell_of_row W M _ _ t' (0, 0) g1]; rfl)
theorem GoodT.sub {v : Wv} {n : Nd} {f t a b : Int} (h : GoodT v n f t) (h1 : f ≤ a) (h2 : a ≤ b) (h3 : b ≤ t) : GoodT v n a b := by
  obtain ⟨⟨i1, i2, i3⟩, h4, h5⟩ := h
  exact ⟨⟨by omega, h2, by omega⟩, h4, h5⟩

end Go.Proofs.YtdlebcijgdkfjaaGreatDoor

/-
  Whether a time is a member, within and outside of the times.
-/
namespace Go.Proofs.YtdlebcijgdkfjaaGreatDoor

theorem memT_in {xs : List Iv} {t : Int} (h : 0 ≤ t ∧ t ≤ 1099511627776) : memT xs t = memB xs t := by unfold memT; rw [decide_eq_true h]; rfl
theorem memT_out {xs : List Iv} {t : Int} (h : ¬ (0 ≤ t ∧ t ≤ 1099511627776)) : memT xs t = false := by unfold memT; rw [decide_eq_false h]; rfl
theorem memB_take_succ (xs : List Iv) (k : Nat) (t : Int) (hk : k < xs.length) : memB (xs.take (k + 1)) t = (memB (xs.take k) t || decide (xs[k].1 ≤ t ∧ t ≤ xs[k].2)) := by
  unfold memB; rw [List.take_succ_eq_append_getElem hk, List.any_append]; simp
theorem memB_true {xs : List Iv} {k : Nat} {t : Int} (hk : k < xs.length) (h : xs[k].1 ≤ t ∧ t ≤ xs[k].2) : memB xs t = true := memB_iff.2 ⟨xs[k], List.getElem_mem _, h⟩

end Go.Proofs.YtdlebcijgdkfjaaGreatDoor

/-
  intervals.In.
-/
namespace Go.Proofs.YtdlebcijgdkfjaaGreatDoor
open Go.RowKit Go.Joins

/-- In's closure -/
theorem inFn_any (p q t : Int) (B : Nat) (w : World) (hB : w.cell? ⟨B, 0, none⟩ = some (.int .i64 t)) (hlt : B < w.heap.size) :
    Calls Tryz.prog 68 #[.agg #[.int .i64 p, .int .i64 q], .pointer (some ⟨B, 0, none⟩)] w fun e w' => e = .returned (.bool (decide (p ≤ t ∧ t ≤ q))) ∧ Below w.heap.size w w' := by
  by_cases h1 : p ≤ t
  · have d1 : decide (p ≤ t) = true := decide_eq_true h1
    by_cases h2 : t ≤ q
    · have d2 : decide (t ≤ q) = true := decide_eq_true h2
      have HD := hide (decide_eq_true (p := p ≤ t ∧ t ≤ q) ⟨h1, h2⟩)
      go_enter Tryz.func68, Tryz.ntmps68
      go_wp2
      try go_quiet (fail)
      try go_wp2
      go_ret
      exact ⟨by first | rfl | (rw [HD.out]; rfl), by first | exact (Below.refl _ _).alloc (Nat.le_refl _) _ | exact below_drewN ((Below.refl _ _).alloc (Nat.le_refl _) _) _⟩
    · have d2 : decide (t ≤ q) = false := decide_eq_false h2
      have HD := hide (decide_eq_false (p := p ≤ t ∧ t ≤ q) (fun h => h2 h.2))
      go_enter Tryz.func68, Tryz.ntmps68
      go_wp2
      try go_quiet (fail)
      try go_wp2
      go_ret
      exact ⟨by first | rfl | (rw [HD.out]; rfl), by first | exact (Below.refl _ _).alloc (Nat.le_refl _) _ | exact below_drewN ((Below.refl _ _).alloc (Nat.le_refl _) _) _⟩
  · have d1 : decide (p ≤ t) = false := decide_eq_false h1
    have HD := hide (decide_eq_false (p := p ≤ t ∧ t ≤ q) (fun h => h1 h.1))
    go_enter Tryz.func68, Tryz.ntmps68
    go_wp2
    try go_quiet (fail)
    try go_wp2
    go_ret
    exact ⟨by first | rfl | (rw [HD.out]; rfl), by first | exact (Below.refl _ _).alloc (Nat.le_refl _) _ | exact below_drewN ((Below.refl _ _).alloc (Nat.le_refl _) _) _⟩

def IdxRel (w : World) (xs : List Iv) (t : Int) (i : Value) (wr : World) : Prop := ∃ k : Nat, k ≤ xs.length ∧ i = .int .i64 k ∧ memB (xs.take k) t = false ∧ Below w.heap.size w wr
/-- an index at which it holds, or -1 -/
def RetIdx (w : World) (b : Bool) (e : Ending) (w' : World) : Prop := ∃ n : Int, e = .returned (.int .i64 n) ∧ decide (0 ≤ n) = b ∧ Below w.heap.size w w'

set_option maxHeartbeats 1000000 in
theorem idxFn_any (A : Option Addr) (c : Nat) (xs : List Iv) (t : Int) (B : Nat) (w : World) (h : IvsAt w w.heap.size A xs) (hl : xs.length ≤ 4398046511104) (hB : w.cell? ⟨B, 0, none⟩ = some (.int .i64 t)) (hBl : B < w.heap.size) :
    Calls Tryz.prog 116 #[.slice A xs.length c, .func (.func 68) #[] #[.pointer (some ⟨B, 0, none⟩)]] w (RetIdx w (memB xs t)) := by
  go_enter Tryz.func116, Tryz.ntmps116
  go_wp2_with fail
  go_loopw [8] (fun i wr => IdxRel w xs t i wr) (fun i _ => xs.length - (intOf i).toNat)
  case atStart => exact ⟨0, Nat.zero_le _, rfl, rfl, Below.refl _ _⟩
  case round =>
    obtain ⟨k, hk, rfl, hm, hb⟩ := hrel
    have HM := hide hm
    clear hm
    by_cases hlt : k < xs.length
    · obtain ⟨b, off, rfl, hbb, hc1, hc2⟩ := (h.below hb).at_ hlt
      have HS := hide (memB_take_succ xs k t hlt)
      have hBr := (hb.cell (p := ⟨B, 0, none⟩) hBl).trans hB
      have hBs : B < wr.heap.size := Nat.lt_of_lt_of_le hBl hb.size
      have HC := hide (fun W (h : Below wr.heap.size wr W) => h)
      go_wp2_with fail
      refine (inFn_any xs[k].1 xs[k].2 t B _ hBr hBs).mono ?_
      rintro e w1 ⟨rfl, hb1⟩
      by_cases hin : xs[k].1 ≤ t ∧ t ≤ xs[k].2
      · rw [decide_eq_true hin]
        have HI := hide hin
        clear hin HC
        go_wp2_with fail
        go_ret
        exact ⟨k, rfl, by rw [memB_true hlt HI.out]; exact decide_eq_true (by omega), bstep hb hb1⟩
      · rw [decide_eq_false hin]
        have HI := hide hin
        clear hin HC
        go_wp2_with fail
        go_roundw
        case rel => exact ⟨k + 1, by omega, by go_num, by rw [HS.out, HM.out, decide_eq_false (fun h => HI.out h)]; rfl, bstep hb hb1⟩
        case measure => simp [intOf]; omega
    · go_wp2_with fail
      go_ret
      refine ⟨-1, rfl, ?_, hb⟩
      have h1 := HM.out
      rw [List.take_of_length_le (by omega)] at h1
      rw [h1]
      rfl

theorem contFn_any (A : Option Addr) (c : Nat) (xs : List Iv) (t : Int) (B : Nat) (w : World) (h : IvsAt w w.heap.size A xs) (hl : xs.length ≤ 4398046511104) (hB : w.cell? ⟨B, 0, none⟩ = some (.int .i64 t)) (hBl : B < w.heap.size) :
    Calls Tryz.prog 67 #[.slice A xs.length c, .func (.func 68) #[] #[.pointer (some ⟨B, 0, none⟩)]] w fun e w' => e = .returned (.bool (memB xs t)) ∧ Below w.heap.size w w' := by
  go_enter Tryz.func67, Tryz.ntmps67
  go_wp2_with fail
  refine (idxFn_any A c xs t B _ h hl hB hBl).mono ?_
  rintro e w1 ⟨n, rfl, hn, hb⟩
  have HN := hide hn
  clear hn
  go_wp2_with fail
  go_ret
  exact ⟨by rw [← HN.out]; rfl, hb⟩

theorem in_any (A : Option Addr) (c : Nat) (xs : List Iv) (t : Int) (w : World) (h : IvsAt w w.heap.size A xs) (hl : xs.length ≤ 4398046511104) :
    Calls Tryz.prog 22 #[.slice A xs.length c, .int .i64 t] w fun e w' => e = .returned (.bool (memT xs t)) ∧ Below w.heap.size w w' := by
  have hb0 : Below w.heap.size w (w.alloc (.cells #[.int .i64 t] 3)) := (Below.refl _ _).alloc (Nat.le_refl _) _
  by_cases h1 : 0 ≤ t
  · have d1 : decide (0 ≤ t) = true := decide_eq_true h1
    by_cases h2 : t ≤ 1099511627776
    · have d2 : decide (t ≤ 1099511627776) = true := decide_eq_true h2
      have HT := hide (memT_in (xs := xs) ⟨h1, h2⟩)
      go_enter Tryz.func22, Tryz.ntmps22
      go_wp2_with fail
      refine (contFn_any A c xs t w.heap.size _ (h.step hb0) hl (by simp) (by simp)).mono ?_
      rintro e w1 ⟨rfl, hb⟩
      go_wp2_with fail
      go_ret
      exact ⟨by rw [HT.out]; rfl, bstep hb0 hb⟩
    · have d2 : decide (t ≤ 1099511627776) = false := decide_eq_false h2
      have HT := hide (memT_out (xs := xs) (t := t) (fun h => h2 h.2))
      go_enter Tryz.func22, Tryz.ntmps22
      go_wp2_with fail
      go_ret
      exact ⟨by rw [HT.out]; rfl, hb0⟩
  · have d1 : decide (0 ≤ t) = false := decide_eq_false h1
    have HT := hide (memT_out (xs := xs) (t := t) (fun h => h1 h.1))
    go_enter Tryz.func22, Tryz.ntmps22
    go_wp2_with fail
    go_ret
    exact ⟨by rw [HT.out]; rfl, hb0⟩

end Go.Proofs.YtdlebcijgdkfjaaGreatDoor
