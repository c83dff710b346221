/-
  Several texts in one: TruCut, DualsP, DualsW, NotW, AndW. Each says at its head what it holds.
-/
import Derived.Test.YtdlebcijgdkfjaaGreatDoorCR49
import Derived.Deep.RegionHeld3
import Derived.Test.YtdlebcijgdkfjaaGreatDoorCR14

/-
  A region that makes a source of a wave and asks a condition of it: the words for it.
-/
namespace Go.Proofs.YtdlebcijgdkfjaaGreatDoor
open Go.RowKit

def TruSays (v : Wv) (n : Nd) (f t : Int) (w' : World) (A : Option Addr) (lx : Nat) (B : Option Addr) (ly : Nat) (er : Int) : Prop :=
  (¬ GoodT v n f t ∧ er ≠ 0) ∨ (GoodT v n f t ∧ er = 0 ∧ ∃ xs ys : List Iv, lx = xs.length ∧ ly = ys.length ∧ IvsAt w' w'.heap.size A xs ∧ IvsAt w' w'.heap.size B ys ∧ SetsT v n f t xs ys)
theorem TruSays.step {v : Wv} {n : Nd} {f t : Int} {w w' : World} {A B : Option Addr} {lx ly : Nat} {er : Int} (h : TruSays v n f t w A lx B ly er) (hb : Below w.heap.size w w') : TruSays v n f t w' A lx B ly er := by
  rcases h with h | ⟨h1, h2, xs, ys, e1, e2, h3, h4, h5⟩
  · exact .inl h
  · exact .inr ⟨h1, h2, xs, ys, e1, e2, h3.step hb, h4.step hb, h5⟩
/-- the answer, of the lists that the call made -/
def TruRes (v : Wv) (n : Nd) (f t : Int) (w' : World) (A : Option Addr) (lx ca : Nat) (B : Option Addr) (ly cb : Nat) (er : Int) : Prop :=
  (¬ GoodT v n f t ∧ er ≠ 0) ∨ (GoodT v n f t ∧ er = 0 ∧ ∃ xs ys : List Iv, lx = xs.length ∧ ly = ys.length ∧ OwnIv w' 0 A ca xs ∧ OwnIv w' 0 B cb ys ∧ SetsT v n f t xs ys)
theorem TruRes.says {v : Wv} {n : Nd} {f t : Int} {w : World} {A B : Option Addr} {lx ca ly cb : Nat} {er : Int} (h : TruRes v n f t w A lx ca B ly cb er) : TruSays v n f t w A lx B ly er := by
  rcases h with h | ⟨h1, h2, xs, ys, e1, e2, h3, h4, h5⟩
  · exact .inl h
  · exact .inr ⟨h1, h2, xs, ys, e1, e2, h3.ats, h4.ats, h5⟩
theorem truth_res (v : Wv) (n : Nd) (f t : Int) (M : Nat) (w w1 : World) (hb : Below w.heap.size w w1) (hM : w.heap.size ≤ M) (h : SourceAt w1 M v (-1) 0) (hv : SmallOk v) (hf : FewOk 60 n) (ht : TreesAt w (Lo w.heap.size) n.KA n.kids) (hok : okF n) (htab : Tab w) :
    Calls Tryz.prog 17 #[srcV M, .agg (cNd n).toArray, .int .i64 f, .int .i64 t] w1 fun e w2 => ∃ (A : Option Addr) (lx ca : Nat) (B : Option Addr) (ly cb : Nat) (er : Int), e = .returned (.tuple #[.agg #[.slice A lx ca, .slice B ly cb], .int .i64 er]) ∧ TruRes v n f t w2 A lx ca B ly cb er ∧ But w1.heap.size (some M) w1 w2 := by
  refine (truth_any v (-1) 0 M n f t w1 h hv (tree_un ht hb hM) hok hf (few_short n hf) (htab.below hb) (by decide) (by decide) (.inl (by decide)) (fun h => by omega)).mono ?_
  rintro e w2 (⟨h1, rfl, h2⟩ | ⟨h0, h1, rfl, h2⟩ | ⟨h0, h1, zs, hz, ⟨h2, _, rfl, c', h3⟩ | ⟨h2, _, h3, A, ca, xs, B, cb, ys, rfl, ox, oy, nx, ny, mx, my⟩ | ⟨_, h2, _⟩⟩)
  · exact ⟨none, 0, 0, none, 0, 0, 2, rfl, .inl ⟨(fun h => h1 h.1), by decide⟩, h2.2⟩
  · exact ⟨none, 0, 0, none, 0, 0, 7, rfl, .inl ⟨(fun h => by rw [h.2.1] at h1; cases h1), by decide⟩, h2.2⟩
  · exact ⟨none, 0, 0, none, 0, 0, _, rfl, .inl ⟨(fun h => h2 ((fit_good hz hok).2 h.2.2)), h2⟩, h3.2⟩
  · exact ⟨A, _, ca, B, _, cb, 0, rfl, .inr ⟨⟨h0, h1, (fit_good hz hok).1 h2⟩, rfl, xs, ys, rfl, rfl, ox.lower (Nat.zero_le _), oy.lower (Nat.zero_le _), ⟨nx, ny, mx, my⟩⟩, h3.2⟩
  · omega
/-- what such a region leaves: the answer's box and its error -/
def TruBox (v : Wv) (n : Nd) (f t : Int) (W1 wx : World) (a b : Value) : Prop := ∃ (N : Nat) (A : Option Addr) (lx ca : Nat) (B : Option Addr) (ly cb : Nat) (er : Int), a = .pointer (some ⟨N, 0, none⟩) ∧ b = .int .i64 er ∧ wx.heap[N]? = some (.cells #[.slice A lx ca, .slice B ly cb] 45 (0, 0)) ∧ W1.heap.size ≤ N ∧ TruSays v n f t wx A lx B ly er ∧ Below W1.heap.size W1 wx
theorem but_step {W0 W1 W3 : World} {M : Nat} (q : Below W0.heap.size W0 W1) (hb : But W1.heap.size (some M) W1 W3) (hM : W0.heap.size ≤ M) : Below W0.heap.size W0 W3 := q.trans (hb.below q.size fun k e => by injection e with e; omega)
theorem below_al {W0 W : World} (h : Below W0.heap.size W0 W) (o : Obj) : Below W0.heap.size W0 (W.alloc o) := h.alloc h.size o
theorem below_s2 {W0 W : World} (h : Below W0.heap.size W0 W) {N : Nat} (hN : W0.heap.size ≤ N) (u v : Value) : Below W0.heap.size W0 ((W.setCell ⟨N, 0, none⟩ u).setCell ⟨N, 1, none⟩ v) := (h.setCell (p := ⟨N, 0, none⟩) hN _).setCell (p := ⟨N, 1, none⟩) hN _
theorem tru_fin {v : Wv} {n : Nd} {f t : Int} {W1 W3 : World} {N : Nat} {p q : Value} {A B : Option Addr} {lx ca ly cb : Nat} {er : Int} (hr : TruRes v n f t W3 A lx ca B ly cb er) (g : W3.heap[N]? = some (.cells #[p, q] 45 (0, 0))) (hb : Below W1.heap.size W1 W3) (hN : W1.heap.size ≤ N) :
    TruBox v n f t W1 ((W3.setCell ⟨N, 0, none⟩ (.slice A lx ca)).setCell ⟨N, 1, none⟩ (.slice B ly cb)) (.pointer (some ⟨N, 0, none⟩)) (.int .i64 er) := by
  refine ⟨N, A, lx, ca, B, ly, cb, er, rfl, rfl, box2_set g, hN, ?_, below_s2 hb hN _ _⟩
  refine TruRes.says (ca := ca) (cb := cb) ?_
  rcases hr with h | ⟨h1, h2, xs, ys, e1, e2, h3, h4, h5⟩
  · exact .inl h
  · exact .inr ⟨h1, h2, xs, ys, e1, e2, set2_own g h3, set2_own g h4, h5⟩
theorem TruRes.al {v : Wv} {n : Nd} {f t : Int} {w : World} {A B : Option Addr} {lx ca ly cb : Nat} {er : Int} (h : TruRes v n f t w A lx ca B ly cb er) (o : Obj) : TruRes v n f t (w.alloc o) A lx ca B ly cb er := by
  rcases h with h | ⟨h1, h2, xs, ys, e1, e2, h3, h4, h5⟩
  · exact .inl h
  · exact .inr ⟨h1, h2, xs, ys, e1, e2, h3.below ((Below.refl _ _).alloc (Nat.le_refl _) _) (Nat.le_refl _), h4.below ((Below.refl _ _).alloc (Nat.le_refl _) _) (Nat.le_refl _), h5⟩
theorem tru_fin_al {v : Wv} {n : Nd} {f t : Int} {W1 W3 : World} {A B : Option Addr} {lx ca ly cb : Nat} {er : Int} (hr : TruRes v n f t W3 A lx ca B ly cb er) (hb : Below W1.heap.size W1 W3) :
    TruBox v n f t W1 (W3.alloc (.cells #[.slice A lx ca, .slice B ly cb] 45)) (.pointer (some ⟨W3.heap.size, 0, none⟩)) (.int .i64 er) :=
  ⟨W3.heap.size, A, lx, ca, B, ly, cb, er, rfl, rfl, heap_alloc_new _ _, hb.size, (hr.al _).says, below_al hb _⟩
theorem box_first {w w2 w3 : World} {o : Obj} {M : Nat} (hb : Below (w.drew.alloc o).heap.size (w.drew.alloc o) w2) (hM : (w.drew.alloc o).heap.size ≤ M) (hbut : But w2.heap.size (some M) w2 w3) : w3.heap[w.heap.size]? = some o := by
  have h1 : w.heap.size < (w.drew.alloc o).heap.size := by rw [World.size_alloc]; exact Nat.lt_succ_self _
  have h2 : (w.drew.alloc o).heap[w.heap.size]? = some o := heap_alloc_new w.drew o
  exact (hbut.block _ (Nat.lt_of_lt_of_le h1 hb.size) (fun e => by injection e with e; omega)).trans ((hb.block _ h1).trans h2)
theorem box_mid {w2 w3 : World} {o : Obj} {M : Nat} (hM : M < w2.heap.size) (hbut : But (w2.alloc o).heap.size (some M) (w2.alloc o) w3) : w3.heap[w2.heap.size]? = some o :=
  (hbut.block _ (by rw [World.size_alloc]; omega) (fun e => by injection e with e; omega)).trans (heap_alloc_new w2 o)
/-- a wave and a tree in boxes -/
theorem wn_held {W0 : World} {N M : Nat} {a0 a1 a2 b0 b1 b2 b3 b4 b5 b6 b7 b8 : Value} {t t' : TypeId} (h0 : W0.heap[N]? = some (.cells #[a0, a1, a2] t (0, 0))) (h1 : W0.heap[M]? = some (.cells #[b0, b1, b2, b3, b4, b5, b6, b7, b8] t' (0, 0))) (W : World) (hb : Below W0.heap.size W0 W) :
    W.cell? ⟨N, 0, none⟩ = some a0 ∧ W.cell? ⟨N, 1, none⟩ = some a1 ∧ W.cell? ⟨N, 2, none⟩ = some a2 ∧ W.cell? ⟨M, 0, none⟩ = some b0 ∧ W.cell? ⟨M, 1, none⟩ = some b1 ∧ W.cell? ⟨M, 2, none⟩ = some b2 ∧ W.cell? ⟨M, 3, none⟩ = some b3 ∧ W.cell? ⟨M, 4, none⟩ = some b4 ∧ W.cell? ⟨M, 5, none⟩ = some b5 ∧ W.cell? ⟨M, 6, none⟩ = some b6 ∧ W.cell? ⟨M, 7, none⟩ = some b7 ∧ W.cell? ⟨M, 8, none⟩ = some b8 ∧ Below W0.heap.size W0 W := by
  have g0 := (hb.block _ (box_lt h0)).trans h0
  have g1 := (hb.block _ (box_lt h1)).trans h1
  refine ⟨?_, ?_, ?_, ?_, ?_, ?_, ?_, ?_, ?_, ?_, ?_, ?_, hb⟩
  all_goals first | (rw [cell_of_row W N _ _ t (0, 0) g0]; rfl) | (rw [cell_of_row W M _ _ t' (0, 0) g1]; rfl)
theorem GoodT.sub {v : Wv} {n : Nd} {f t a b : Int} (h : GoodT v n f t) (h1 : f ≤ a) (h2 : a ≤ b) (h3 : b ≤ t) : GoodT v n a b := by
  obtain ⟨⟨i1, i2, i3⟩, h4, h5⟩ := h
  exact ⟨⟨by omega, h2, by omega⟩, h4, h5⟩

end Go.Proofs.YtdlebcijgdkfjaaGreatDoor

/-
  The trees that ConditionDuals makes out of two conditions, and their sets of times.
-/
namespace Go.Proofs.YtdlebcijgdkfjaaGreatDoor
open Go.RowKit

def notN (K : Nat) (k : Nd) : Nd := .mk 28 0 ⟨#[]⟩ ⟨#[]⟩ 0 0 0 0 (some ⟨K, 0, none⟩) 1 [k]
def binN (q : Int) (K : Nat) (n m : Nd) : Nd := .mk q 0 ⟨#[]⟩ ⟨#[]⟩ 0 0 0 0 (some ⟨K, 0, none⟩) 2 [n, m]
section
variable {K KB KC : Nat} {n m k : Nd} {q : Int} {v : Wv} {f t : Int}
theorem i64_0 : I64 0 := ⟨by decide, by decide⟩
theorem ok_not (h : okF k) : okF (notN K k) := (okF_eq _).2 ⟨⟨⟨by show (-9223372036854775808 : Int) ≤ 28; decide, by show (28 : Int) ≤ 9223372036854775807; decide⟩, i64_0, i64_0, i64_0, i64_0⟩, fun x hx => by cases List.mem_singleton.1 hx; exact h⟩
theorem ok_bin (hq : I64 q) (h : okF n) (h' : okF m) : okF (binN q K n m) := (okF_eq _).2 ⟨⟨hq, i64_0, i64_0, i64_0, i64_0⟩, fun x hx => by
  rcases List.mem_cons.1 hx with rfl | hx
  · exact h
  · cases List.mem_singleton.1 hx; exact h'⟩
theorem nodes_not : nodesF (notN K k) = 1 + nodesF k := by rw [nodesF_eq]; show 1 + (0 + nodesF k) = _; omega
theorem nodes_bin : nodesF (binN q K n m) = 1 + nodesF n + nodesF m := by rw [nodesF_eq]; show 1 + (0 + nodesF n + nodesF m) = _; omega
theorem few_not (h : FewOk 60 k) (hn : nodesF k ≤ 59) : FewOk 60 (notN K k) := (FewOk_eq 60 _).2 ⟨by show (0 : Nat) ≤ 60; decide, by show (0 : Nat) ≤ 130; decide, by rw [nodes_not]; omega, fun x hx => by cases List.mem_singleton.1 hx; exact h⟩
theorem few_bin (h : FewOk 60 n) (h' : FewOk 60 m) (hn : nodesF n + nodesF m ≤ 59) : FewOk 60 (binN q K n m) := (FewOk_eq 60 _).2 ⟨by show (0 : Nat) ≤ 60; decide, by show (0 : Nat) ≤ 130; decide, by rw [nodes_bin]; omega, fun x hx => by
  rcases List.mem_cons.1 hx with rfl | hx
  · exact h
  · cases List.mem_singleton.1 hx; exact h'⟩
theorem res_not : resF (notN K k) = resF k := by rw [resF_eq]; rfl
theorem res_both : resF (binN 29 K n m) = (resF n && resF m) := by rw [resF_eq]; rfl
theorem res_either : resF (binN 30 K n m) = (resF n && resF m) := by rw [resF_eq]; rfl
theorem tru_not (env : Int → ByteArray) : truF env (notN K k) = applyS 8 [truF env k] := by rw [truF_eq]; rfl
theorem tru_both (env : Int → ByteArray) : truF env (binN 29 K n m) = applyS 9 [truF env n, truF env m] := by rw [truF_eq]; rfl
theorem tru_either (env : Int → ByteArray) : truF env (binN 30 K n m) = applyS 10 [truF env n, truF env m] := by rw [truF_eq]; rfl
theorem sig_not : sigF (notN K k) = sigF k := by rw [sigF_eq]; show [] ++ (sigF k ++ []) = _; simp
theorem sig_bin (hq : q ≠ 1) : sigF (binN q K n m) = sigF n ++ sigF m := by rw [sigF_eq]; unfold sigB; rw [if_neg (show ¬ (binN q K n m).kind = 1 from hq)]; show [] ++ (sigF n ++ (sigF m ++ [])) = _; simp
theorem agr_none {x a b : Int} : ∀ n : Nd, x ∉ sigF n → agrF x a b n = true := by
  intro n
  induction n using Nd.ind with
  | h n ih =>
  intro hx
  rw [agrF_eq, Bool.and_eq_true]
  constructor
  · rw [sigF_eq] at hx
    unfold sigB at hx
    by_cases k1 : n.kind = 1
    · rw [if_pos k1] at hx
      have : n.a ≠ x := fun e => hx (by rw [e]; simp)
      simp [this]
    · simp [k1]
  · rw [List.all_eq_true]
    exact fun k hk => ih k hk fun h => hx (sig_kid hk h)
theorem agr_not {x a b : Int} : agrF x a b (notN K k) = agrF x a b k := by rw [agrF_eq]; show (!(decide ((28 : Int) = 1) && _ && _) && (agrF x a b k && true)) = _; simp
theorem agr_bin {x a b : Int} (hq : q ≠ 1) : agrF x a b (binN q K n m) = (agrF x a b n && agrF x a b m) := by
  rw [agrF_eq]
  show (!(decide (q = 1) && _ && _) && (agrF x a b n && (agrF x a b m && true))) = _
  rw [decide_eq_false hq]; simp
theorem sigE_iff {x : Int} : sigE v n x = 0 ↔ (0 ≤ x ∧ x < v.sigs.length) ∧ agrF x (sgnAt v x).kind (sgnAt v x).width n = true := by
  constructor
  · intro h
    have := sigE_zero h
    exact ⟨⟨this.1, this.2.1⟩, this.2.2⟩
  · rintro ⟨h1, h2⟩
    unfold sigE
    rw [if_neg (by omega), if_pos h2]
theorem good_not (h : GoodT v k f t) : GoodT v (notN K k) f t := by
  obtain ⟨h1, h2, h3⟩ := h
  refine ⟨h1, by rw [res_not]; exact h2, fun x hx => ?_⟩
  rw [sig_not] at hx
  have := sigE_iff.1 (h3 x hx)
  rw [sigE_iff, agr_not]
  exact this
theorem good_bin (hq : q = 29 ∨ q = 30) (h : GoodT v n f t) (h' : GoodT v m f t) : GoodT v (binN q K n m) f t := by
  have hq1 : q ≠ 1 := by omega
  refine ⟨h.1, ?_, fun x hx => ?_⟩
  · rcases hq with rfl | rfl
    · rw [res_both, h.2.1, h'.2.1]; rfl
    · rw [res_either, h.2.1, h'.2.1]; rfl
  · rw [sig_bin hq1] at hx
    rw [sigE_iff, agr_bin hq1, Bool.and_eq_true]
    have one : ∀ {p : Nd}, GoodT v p f t → ∀ a b, (x ∈ sigF p → agrF x (sgnAt v x).kind (sgnAt v x).width p = true) → agrF x a b p = true ∨ x ∈ sigF p := fun {p} _ a b _ => by
      by_cases hp : x ∈ sigF p
      · exact .inr hp
      · exact .inl (agr_none p hp)
    have each : ∀ {p : Nd}, GoodT v p f t → agrF x (sgnAt v x).kind (sgnAt v x).width p = true := fun {p} hg => by
      by_cases hp : x ∈ sigF p
      · exact (sigE_iff.1 (hg.2.2 x hp)).2
      · exact agr_none p hp
    refine ⟨?_, each h, each h'⟩
    rcases List.mem_append.1 hx with hx | hx
    · exact (sigE_iff.1 (h.2.2 x hx)).1
    · exact (sigE_iff.1 (h'.2.2 x hx)).1
theorem duals_a {xs ys xs' ys' xa ya : List Iv} (hr : resF n = true) (hr' : resF m = true) (h : SetsT v n f t xs ys) (h' : SetsT v m f t xs' ys') (ha : SetsT v (notN KC (binN 29 K n m)) f t xa ya) :
    (∀ x, Mem xa x ↔ Mem ys x ∨ Mem ys' x) ∧ ∀ x, Mem ya x ↔ Mem xs x ∧ Mem xs' x := by
  have T := fun x : Int => and_tri (tru_tri (envW v x) n hr) (tru_tri (envW v x) m hr')
  have N := fun x : Int => not_tri (T x).1
  refine ⟨fun x => ?_, fun x => ?_⟩
  · rw [ha.mx, h.my, h'.my]
    unfold setW
    rw [tru_not, tru_both, (N x).2.1, (T x).2.2]
    constructor
    · rintro ⟨a, b, c | c⟩
      · exact .inl ⟨a, b, c⟩
      · exact .inr ⟨a, b, c⟩
    · rintro (⟨a, b, c⟩ | ⟨a, b, c⟩)
      · exact ⟨a, b, .inl c⟩
      · exact ⟨a, b, .inr c⟩
  · rw [ha.my, h.mx, h'.mx]
    unfold setW
    rw [tru_not, tru_both, (N x).2.2, (T x).2.1]
    exact ⟨fun ⟨a, b, c, d⟩ => ⟨⟨a, b, c⟩, a, b, d⟩, fun ⟨⟨a, b, c⟩, _, _, d⟩ => ⟨a, b, c, d⟩⟩
theorem duals_b {xs ys xs' ys' xa ya : List Iv} {K1 K2 : Nat} (hr : resF n = true) (hr' : resF m = true) (h : SetsT v n f t xs ys) (h' : SetsT v m f t xs' ys') (ha : SetsT v (binN 30 K (notN K1 n) (notN K2 m)) f t xa ya) :
    (∀ x, Mem xa x ↔ Mem ys x ∨ Mem ys' x) ∧ ∀ x, Mem ya x ↔ Mem xs x ∧ Mem xs' x := by
  have N := fun x : Int => not_tri (tru_tri (envW v x) n hr)
  have N' := fun x : Int => not_tri (tru_tri (envW v x) m hr')
  have T := fun x : Int => or_tri (N x).1 (N' x).1
  refine ⟨fun x => ?_, fun x => ?_⟩
  · rw [ha.mx, h.my, h'.my]
    unfold setW
    rw [tru_either, tru_not, tru_not, (T x).2.1, (N x).2.1, (N' x).2.1]
    constructor
    · rintro ⟨a, b, c | c⟩
      · exact .inl ⟨a, b, c⟩
      · exact .inr ⟨a, b, c⟩
    · rintro (⟨a, b, c⟩ | ⟨a, b, c⟩)
      · exact ⟨a, b, .inl c⟩
      · exact ⟨a, b, .inr c⟩
  · rw [ha.my, h.mx, h'.mx]
    unfold setW
    rw [tru_either, tru_not, tru_not, (T x).2.2, (N x).2.2, (N' x).2.2]
    exact ⟨fun ⟨a, b, c, d⟩ => ⟨⟨a, b, c⟩, a, b, d⟩, fun ⟨⟨a, b, c⟩, _, _, d⟩ => ⟨a, b, c, d⟩⟩
end
theorem alloc3 {w V : World} {a b c : Obj} (h : ((w.alloc a).alloc b).alloc c = V) : V.heap[w.heap.size + 1]? = some b ∧ V.heap[w.heap.size + 1 + 1]? = some c ∧ Below w.heap.size w V := by
  subst h
  refine ⟨?_, ?_, (((Below.refl _ _).alloc (Nat.le_refl _) _).alloc (by simp) _).alloc (by simp [World.size_alloc]; omega) _⟩
  · have := box_alloc (o' := c) (heap_alloc_new (w.alloc a) b)
    rwa [World.size_alloc] at this
  · have := heap_alloc_new ((w.alloc a).alloc b) c
    rwa [World.size_alloc, World.size_alloc] at this
set_option maxRecDepth 100000 in
theorem notD_any (k : Nd) (w : World) : Calls Tryz.prog 27 #[.agg (cNd k).toArray] w fun e w' => ∃ K, e = .returned (.agg (cNd (notN K k)).toArray) ∧ w.heap.size ≤ K ∧ w'.heap[K]? = some (.cells (cNd k).toArray 32 (0, 0)) ∧ Below w.heap.size w w' := by
  obtain ⟨kind, at_, name, value, a, b, c, d, KA, kc, kids⟩ := k
  unfold cNd
  dsimp only
  go_enter Tryz.func27, Tryz.ntmps27
  go_wp2_with fail
  obtain ⟨V, hV⟩ : ∃ V, (((w.alloc (.cells #[.int .i64 kind, .int .i64 at_, .string name, .string value, .int .i64 a, .int .i64 b, .int .i64 c, .int .i64 d, .slice KA kids.length kc] 32)).alloc (.cells #[.int .i64 28, .int .i64 0, .string ⟨#[]⟩, .string ⟨#[]⟩, .int .i64 0, .int .i64 0, .int .i64 0, .int .i64 0, .slice (some ⟨w.heap.size + 1 + 1, 0, none⟩) 1 1] 32)).alloc (.cells #[.int .i64 kind, .int .i64 at_, .string name, .string value, .int .i64 a, .int .i64 b, .int .i64 c, .int .i64 d, .slice KA kids.length kc] 32)) = V := ⟨_, rfl⟩
  obtain ⟨g1, g2, hb⟩ := alloc3 hV
  obtain ⟨f0, f1, f2, f3, f4, f5, f6, f7, f8⟩ := box9 g1
  rw [hV]
  exact bodyPost_ret (v := .agg #[.int .i64 28, .int .i64 0, .string ⟨#[]⟩, .string ⟨#[]⟩, .int .i64 0, .int .i64 0, .int .i64 0, .int .i64 0, .slice (some ⟨w.heap.size + 1 + 1, 0, none⟩) 1 1]) (by simp [results, Tryz.results27, go_sem, f0, f1, f2, f3, f4, f5, f6, f7, f8]) rfl ⟨w.heap.size + 1 + 1, rfl, by omega, g2, hb⟩

end Go.Proofs.YtdlebcijgdkfjaaGreatDoor

/-
  condition.Truth of the trees that ConditionDuals makes; the boxes of its walk.
-/
namespace Go.Proofs.YtdlebcijgdkfjaaGreatDoor
open Go.RowKit

theorem truth_un (v : Wv) (n : Nd) (f t : Int) (M : Nat) (X : World) (hs : SourceAt X M v (-1) 0) (hv : SmallOk v) (hf : FewOk 60 n) (ht : TreesAt X (Un M X.heap.size) n.KA n.kids) (hok : okF n) (htab : Tab X) :
    Calls Tryz.prog 17 #[srcV M, .agg (cNd n).toArray, .int .i64 f, .int .i64 t] X fun e w2 => ∃ (A : Option Addr) (lx ca : Nat) (B : Option Addr) (ly cb : Nat) (er : Int), e = .returned (.tuple #[.agg #[.slice A lx ca, .slice B ly cb], .int .i64 er]) ∧ TruRes v n f t w2 A lx ca B ly cb er ∧ But X.heap.size (some M) X w2 := by
  refine (truth_any v (-1) 0 M n f t X hs hv ht hok hf (few_short n hf) htab (by decide) (by decide) (.inl (by decide)) (fun h => by omega)).mono ?_
  rintro e w2 (⟨h1, rfl, h2⟩ | ⟨h0, h1, rfl, h2⟩ | ⟨h0, h1, zs, hz, ⟨h2, _, rfl, c', h3⟩ | ⟨h2, _, h3, A, ca, xs, B, cb, ys, rfl, ox, oy, nx, ny, mx, my⟩ | ⟨_, h2, _⟩⟩)
  · exact ⟨none, 0, 0, none, 0, 0, 2, rfl, .inl ⟨(fun h => h1 h.1), by decide⟩, h2.2⟩
  · exact ⟨none, 0, 0, none, 0, 0, 7, rfl, .inl ⟨(fun h => by rw [h.2.1] at h1; cases h1), by decide⟩, h2.2⟩
  · exact ⟨none, 0, 0, none, 0, 0, _, rfl, .inl ⟨(fun h => h2 ((fit_good hz hok).2 h.2.2)), h2⟩, h3.2⟩
  · exact ⟨A, _, ca, B, _, cb, 0, rfl, .inr ⟨⟨h0, h1, (fit_good hz hok).1 h2⟩, rfl, xs, ys, rfl, rfl, ox.lower (Nat.zero_le _), oy.lower (Nat.zero_le _), ⟨nx, ny, mx, my⟩⟩, h3.2⟩
  · omega
section
variable {x y X w : World} {M K KB K1 K2 N : Nat} {o : Obj} {cs : Array Value} {t' : TypeId} {v : Wv} {n m : Nd} {L c : Int}
theorem drew_size : w.drew.heap.size = w.heap.size := rfl
theorem heap_at (h : K = x.heap.size) : (x.alloc o).heap[K]? = some o := by subst h; exact heap_alloc_new x o
theorem blk_of (hb : Below y.heap.size y x) (h : y.heap[K]? = some o) : x.heap[K]? = some o := (hb.block K (box_lt h)).trans h
theorem src_al (h : SourceAt x M v L c) : SourceAt (x.alloc o) M v L c := h.below ((Below.refl _ _).alloc (Nat.le_refl _) _)
theorem src_of (hb : Below y.heap.size y x) (h : SourceAt y M v L c) : SourceAt x M v L c := h.below hb
theorem src_ne (h : SourceAt x M v L c) (hk : x.heap[K]? = some (.cells cs t' (0, 0))) (ht : t' ≠ 50) : K ≠ M := by
  rintro rfl
  have := h.box
  rw [hk] at this
  unfold memO at this
  injection this with this
  injection this with _ this
  exact ht this
theorem but_box (hbut : But y.heap.size (some M) y x) (hs : SourceAt y M v L c) (hk : y.heap[K]? = some (.cells cs t' (0, 0))) (ht : t' ≠ 50) : x.heap[K]? = some (.cells cs t' (0, 0)) :=
  (hbut.block K (box_lt hk) fun e => src_ne hs hk ht (by injection e)).trans hk
/-- one node in a block -/
theorem row_one (hk : X.heap[K]? = some (.cells (cNd n).toArray t' (0, 0))) (hp : K < X.heap.size ∧ K ≠ M) : Row X (Un M X.heap.size) 9 cNd (some ⟨K, 0, none⟩) [n] := fun _ => by
  refine ⟨K, 0, rfl, hp, fun i x hi j hj => ?_⟩
  cases i with
  | zero =>
    cases hi
    rw [cell_of_row X K _ _ t' (0, 0) hk]
    simp
  | succ i => cases hi
theorem cNd_len (n : Nd) : (cNd n).length = 9 := by cases n; rfl
/-- two nodes in a block -/
theorem row_two (hk : X.heap[K]? = some (.cells (cNd n ++ cNd m).toArray t' (0, 0))) (hp : K < X.heap.size ∧ K ≠ M) : Row X (Un M X.heap.size) 9 cNd (some ⟨K, 0, none⟩) [n, m] := fun _ => by
  refine ⟨K, 0, rfl, hp, fun i x hi j hj => ?_⟩
  rw [cell_of_row X K _ _ t' (0, 0) hk]
  match i, hi with
  | 0, hi =>
    cases hi
    simp [List.getElem?_append, cNd_len, hj]
  | 1, hi =>
    cases hi
    rw [List.getElem?_toArray, List.getElem?_append_right (by rw [cNd_len]; omega), cNd_len, show 0 + 1 * 9 + j - 9 = j by omega]
  | i + 2, hi => cases hi
theorem trees_one (hk : X.heap[K]? = some (.cells (cNd n).toArray t' (0, 0))) (hp : K < X.heap.size ∧ K ≠ M) (h : TreesAt X (Un M X.heap.size) n.KA n.kids) : TreesAt X (Un M X.heap.size) (some ⟨K, 0, none⟩) [n] :=
  .mk _ _ (by simp) (row_one hk hp) fun k hk => by cases List.mem_singleton.1 hk; exact h
theorem trees_two (hk : X.heap[K]? = some (.cells (cNd n ++ cNd m).toArray t' (0, 0))) (hp : K < X.heap.size ∧ K ≠ M) (h : TreesAt X (Un M X.heap.size) n.KA n.kids) (h' : TreesAt X (Un M X.heap.size) m.KA m.kids) : TreesAt X (Un M X.heap.size) (some ⟨K, 0, none⟩) [n, m] :=
  .mk _ _ (by simp) (row_two hk hp) fun k hk => by
    rcases List.mem_cons.1 hk with rfl | hk
    · exact h
    · cases List.mem_singleton.1 hk; exact h'
theorem chain3d (w1 : World) (a b c : Obj) {V : World} (hV : ((w1.alloc a).alloc b).alloc c = V) : V.heap[w1.heap.size]? = some a ∧ V.heap[w1.heap.size + 1]? = some b ∧ V.heap[w1.heap.size + 1 + 1]? = some c ∧ Below w1.heap.size w1 V := by
  obtain ⟨h1, h2, h3⟩ := alloc3 hV
  subst hV
  exact ⟨box_alloc (box_alloc (heap_alloc_new w1 a)), h1, h2, h3⟩
end
/-- two lists of nodes and the source lie apart -/
structure DuOk (w : World) (v : Wv) (n m : Nd) : Prop where
  small : SmallOk v
  fn : FewOk 60 n
  fm : FewOk 60 m
  nn : nodesF n ≤ 25
  nm : nodesF m ≤ 25
theorem truth_a (v : Wv) (n m : Nd) (f t : Int) (w X : World) (M K KB : Nat) (d : DuOk w v n m) (htn : TreesAt w (Lo w.heap.size) n.KA n.kids) (htm : TreesAt w (Lo w.heap.size) m.KA m.kids) (hon : okF n) (hom : okF m) (htab : Tab w) (hb : Below w.heap.size w X) (hM : w.heap.size ≤ M) (hs : SourceAt X M v (-1) 0)
    (hk : X.heap[K]? = some (.cells (cNd (binN 29 KB n m)).toArray 32 (0, 0))) (hkb : X.heap[KB]? = some (.cells (cNd n ++ cNd m).toArray 32 (0, 0))) :
    Calls Tryz.prog 17 #[srcV M, .agg (cNd (notN K (binN 29 KB n m))).toArray, .int .i64 f, .int .i64 t] X fun e w2 => ∃ (A : Option Addr) (lx ca : Nat) (B : Option Addr) (ly cb : Nat) (er : Int), e = .returned (.tuple #[.agg #[.slice A lx ca, .slice B ly cb], .int .i64 er]) ∧ TruRes v (notN K (binN 29 KB n m)) f t w2 A lx ca B ly cb er ∧ But X.heap.size (some M) X w2 := by
  have d1 := d.nn
  have d2 := d.nm
  refine truth_un v _ f t M X hs d.small (few_not (few_bin d.fn d.fm (by omega)) (by rw [nodes_bin]; omega)) ?_ (ok_not (ok_bin ⟨by decide, by decide⟩ hon hom)) (htab.below hb)
  refine trees_one hk ⟨box_lt hk, src_ne hs hk (by decide)⟩ ?_
  exact trees_two hkb ⟨box_lt hkb, src_ne hs hkb (by decide)⟩ (tree_un htn hb hM) (tree_un htm hb hM)
theorem truth_b (v : Wv) (n m : Nd) (f t : Int) (w X : World) (M K1 K2 KB : Nat) (d : DuOk w v n m) (htn : TreesAt w (Lo w.heap.size) n.KA n.kids) (htm : TreesAt w (Lo w.heap.size) m.KA m.kids) (hon : okF n) (hom : okF m) (htab : Tab w) (hb : Below w.heap.size w X) (hM : w.heap.size ≤ M) (hs : SourceAt X M v (-1) 0)
    (hk1 : X.heap[K1]? = some (.cells (cNd n).toArray 32 (0, 0))) (hk2 : X.heap[K2]? = some (.cells (cNd m).toArray 32 (0, 0))) (hkb : X.heap[KB]? = some (.cells (cNd (notN K1 n) ++ cNd (notN K2 m)).toArray 32 (0, 0))) :
    Calls Tryz.prog 17 #[srcV M, .agg (cNd (binN 30 KB (notN K1 n) (notN K2 m))).toArray, .int .i64 f, .int .i64 t] X fun e w2 => ∃ (A : Option Addr) (lx ca : Nat) (B : Option Addr) (ly cb : Nat) (er : Int), e = .returned (.tuple #[.agg #[.slice A lx ca, .slice B ly cb], .int .i64 er]) ∧ TruRes v (binN 30 KB (notN K1 n) (notN K2 m)) f t w2 A lx ca B ly cb er ∧ But X.heap.size (some M) X w2 := by
  have d1 := d.nn
  have d2 := d.nm
  refine truth_un v _ f t M X hs d.small (few_bin (few_not d.fn (by omega)) (few_not d.fm (by omega)) (by rw [nodes_not, nodes_not]; omega)) ?_ (ok_bin ⟨by decide, by decide⟩ (ok_not hon) (ok_not hom)) (htab.below hb)
  exact trees_two hkb ⟨box_lt hkb, src_ne hs hkb (by decide)⟩ (trees_one hk1 ⟨box_lt hk1, src_ne hs hk1 (by decide)⟩ (tree_un htn hb hM)) (trees_one hk2 ⟨box_lt hk2, src_ne hs hk2 (by decide)⟩ (tree_un htm hb hM))

end Go.Proofs.YtdlebcijgdkfjaaGreatDoor

/-
  condition.Not.
-/
namespace Go.Proofs.YtdlebcijgdkfjaaGreatDoor
open Go.RowKit Go.Joins

set_option maxRecDepth 100000 in
theorem tnot_any (A B : Option Addr) (c d : Nat) (xs zs : List Iv) (w : World) (hx : IvsAt w w.heap.size A xs) (hz : IvsAt w w.heap.size B zs) (lx : xs.length ≤ 4398046511104) (lz : zs.length ≤ 4398046511104) :
    Calls Tryz.prog 28 #[.agg #[.slice A xs.length c, .slice B zs.length d]] w (RetTr w (Mem zs) (Mem xs)) := by
  go_enter Tryz.func28, Tryz.ntmps28
  go_wp2_with fail
  obtain ⟨W0, hW0⟩ : ∃ W0 : World, ((w.alloc (.cells #[.slice A xs.length c, .slice B zs.length d] 45)).alloc (.cells #[.slice none 0 0, .slice none 0 0] 45)) = W0 := ⟨_, rfl⟩
  obtain ⟨hb0, hz0, bx, br⟩ := two_boxes hW0
  rw [hW0]
  clear hW0
  go_region_held3 (fun wx => wx.cell? ⟨w.heap.size, 0, none⟩ = some (.slice A xs.length c) ∧ wx.cell? ⟨w.heap.size, 1, none⟩ = some (.slice B zs.length d) ∧ Below w.heap.size w wx)
    (first | assumption | exact ⟨(boxT2 bx).1, (boxT2 bx).2, below_drew hb0⟩ | exact clip_k3 hb2 bx2)
    (first
      | (go_at_call_of 71 zs; refine (normal_any B d zs W0.drew ((hz.below (below_drew hb0)).more (below_drew hb0).size) lz).mono ?_; rintro e w1 ⟨A1, c1, y1, rfl, o1, b1, n1, m1⟩; obtain ⟨hz1, hb1, bx1, br1, k1⟩ := clip_k1 hz0 hb0 bx br b1; have M1 := hide m1; clear m1)
      | (go_at_call_of 71 xs; refine (normal_any A c xs w1 ((hx.below hb1).more hb1.size) lx).mono ?_; rintro e w2 ⟨A2, c2, y2, rfl, o2, b2, n2, m2⟩; obtain ⟨hz2, hb2, bx2, br2, k2⟩ := clip_k2 hz1 hb1 bx1 br1 b2; have M2 := hide m2; clear m2; have q1 := (boxT2 br2).1; have q2 := (boxT2 br2).2; have q3 := (box2_frozen br2).1; have q4 := (box2_frozen br2).2))
  obtain ⟨W3, hW3⟩ : ∃ W3 : World, (w2.setCell ⟨w.heap.size + 1, 0, none⟩ (.slice A1 y1.length c1)).setCell ⟨w.heap.size + 1, 1, none⟩ (.slice A2 y2.length c2) = W3 := ⟨_, rfl⟩
  obtain ⟨f1, f2, hb3, r1, r2⟩ := tr_end hb2 br2 o1 (Nat.le_of_eq hz0.symm) b2 o2 hz1 hW3
  rw [hW3]
  clear hW3
  go_wp2_with fail
  exact bodyPost_ret (v := .agg #[.slice A1 y1.length c1, .slice A2 y2.length c2]) (by simp [results, Tryz.results28, go_sem, f1, f2]) rfl ⟨A1, c1, y1, A2, c2, y2, rfl, r1, r2, hb3, n1, n2, M1.out, M2.out⟩

end Go.Proofs.YtdlebcijgdkfjaaGreatDoor

/-
  condition.And.
-/
namespace Go.Proofs.YtdlebcijgdkfjaaGreatDoor
open Go.RowKit Go.Joins

set_option maxRecDepth 100000 in
set_option maxHeartbeats 4000000 in
theorem tand_any (A B A' B' : Option Addr) (c d c' d' : Nat) (xs zs xs' zs' : List Iv) (w : World) (hx : IvsAt w w.heap.size A xs) (hz : IvsAt w w.heap.size B zs) (hx' : IvsAt w w.heap.size A' xs') (hz' : IvsAt w w.heap.size B' zs')
    (lx : xs.length ≤ 4398046511104) (lz : zs.length ≤ 4398046511104) (lx' : xs'.length ≤ 4398046511104) (lz' : zs'.length ≤ 4398046511104) :
    Calls Tryz.prog 29 #[.agg #[.slice A xs.length c, .slice B zs.length d], .agg #[.slice A' xs'.length c', .slice B' zs'.length d']] w (RetTr w (fun t => Mem xs t ∧ Mem xs' t) (fun t => Mem zs t ∨ Mem zs' t)) := by
  go_enter Tryz.func29, Tryz.ntmps29
  go_wp2_with fail
  obtain ⟨W0, hW0⟩ : ∃ W0 : World, (((w.alloc (.cells #[.slice A xs.length c, .slice B zs.length d] 45)).alloc (.cells #[.slice A' xs'.length c', .slice B' zs'.length d'] 45)).alloc (.cells #[.slice none 0 0, .slice none 0 0] 45)) = W0 := ⟨_, rfl⟩
  have t0 := (Three.start hW0)
  rw [hW0]
  clear hW0
  have T0 := hide t0
  have k0 := (t0.drew).base
  clear t0
  have hb := T0.out.hb
  have hxW : IvsAt W0.drew W0.drew.heap.size A xs := (hx.below hb).more hb.size
  have hxW' : IvsAt W0.drew W0.drew.heap.size A' xs' := (hx'.below hb).more hb.size
  have hzW : IvsAt W0.drew W0.drew.heap.size B zs := (hz.below hb).more hb.size
  have hzW' : IvsAt W0.drew W0.drew.heap.size B' zs' := (hz'.below hb).more hb.size
  go_region_held3 (fun wx => wx.cell? ⟨w.heap.size, 0, none⟩ = some (.slice A xs.length c) ∧ wx.cell? ⟨w.heap.size, 1, none⟩ = some (.slice B zs.length d) ∧ wx.cell? ⟨w.heap.size + 1, 0, none⟩ = some (.slice A' xs'.length c') ∧ wx.cell? ⟨w.heap.size + 1, 1, none⟩ = some (.slice B' zs'.length d') ∧ Below w.heap.size w wx)
    (first | (with_reducible assumption) | exact k0 | exact T2.out.set2 _ _)
    (first
      | (go_at_call_of 19 xs; refine (intersect_any A A' c c' xs xs' W0.drew hxW hxW' lx lx').mono ?_; rintro e w1 ⟨A1, c1, y1, rfl, o1, b1, n1, m1⟩; have M1 := hide m1; clear m1; have b1' := bstep (w0 := W0) (w := W0.drew) (below_drew (Below.refl _ _)) b1; have t1 := T0.out.step b1'; have k1 := t1.base; have T1 := hide t1; clear t1)
      | (go_at_call_of 72 zs; refine (union_any B B' d d' zs zs' w1 (hzW.step b1) (hzW'.step b1) lz lz').mono ?_; rintro e w2 ⟨A2, c2, y2, rfl, o2, b2, n2, m2⟩; have M2 := hide m2; clear m2; have t2 := T1.out.step b2; have k2 := t2.base; obtain ⟨i5, i6⟩ := boxT2 t2.g2; obtain ⟨i7, i8⟩ := box2_frozen t2.g2; have T2 := hide t2; clear t2))
  obtain ⟨W3, hW3⟩ : ∃ W3 : World, (w2.setCell ⟨w.heap.size + 2, 0, none⟩ (.slice A1 y1.length c1)).setCell ⟨w.heap.size + 2, 1, none⟩ (.slice A2 y2.length c2) = W3 := ⟨_, rfl⟩
  obtain ⟨f1, f2, hb3, q1, q2⟩ := linked_end T2.out (own_below b2 (o1.lower hb.size)) (o2.lower T1.out.hb.size) hW3
  rw [hW3]
  clear hW3
  go_wp2_with fail
  exact bodyPost_ret (v := .agg #[.slice A1 y1.length c1, .slice A2 y2.length c2]) (by simp [results, Tryz.results29, go_sem, f1, f2]) rfl ⟨A1, c1, y1, A2, c2, y2, rfl, q1, q2, hb3, n1, n2, M1.out, M2.out⟩

end Go.Proofs.YtdlebcijgdkfjaaGreatDoor
