/-
  Several texts in one: New47, CTruthN, LawReads51, LiftTab, LiftReads. Each says at its head what it holds.
-/
import Derived.Test.YtdlebcijgdkfjaaGreatDoorCR45
import Derived.Test.YtdlebcijgdkfjaaGreatDoorCR48
import Derived.Test.YtdlebcijgdkfjaaGreatDoorCR38
import Derived.Test.YtdlebcijgdkfjaaGreatDoorCR14
import Derived.Test.YtdlebcijgdkfjaaGreatDoorCR19
import Derived.Test.YtdlebcijgdkfjaaGreatDoorRows
import Derived.Lib.LaidTab
import Derived.LaidMore

/-
  wavestorelaw47.New: a source of a wave.
-/
namespace Go.Proofs.YtdlebcijgdkfjaaGreatDoor
open Go.RowKit

set_option maxRecDepth 100000 in
theorem new_any (v : Wv) (w : World) (h : SigsAt w (Lo w.heap.size) v.A v.sigs) : Calls Tryz.prog 14 #[.agg (cWv v).toArray] w fun e w' => ∃ M, e = .returned (.pointer (some ⟨M, 0, none⟩)) ∧ w.heap.size ≤ M ∧ SourceAt w' M v (-1) 0 ∧ Below w.heap.size w w' := by
  unfold cWv
  obtain ⟨W0, hW0⟩ : ∃ W0, w.alloc (.cells #[.slice v.A v.sigs.length v.cA, .slice v.G v.gn v.cG, .int .i64 v.fin] 29) = W0 := ⟨_, rfl⟩
  have g0 : W0.heap[w.heap.size]? = some (.cells #[.slice v.A v.sigs.length v.cA, .slice v.G v.gn v.cG, .int .i64 v.fin] 29 (0, 0)) := by rw [← hW0]; exact heap_alloc_new w _
  have hb0 : Below w.heap.size w W0 := by rw [← hW0]; exact (Below.refl _ _).alloc (Nat.le_refl _) _
  have c0 := cell_of_row W0 w.heap.size 0 _ _ (0, 0) g0
  have c1 := cell_of_row W0 w.heap.size 1 _ _ (0, 0) g0
  have c2 := cell_of_row W0 w.heap.size 2 _ _ (0, 0) g0
  simp only [List.getElem?_toArray, List.getElem?_cons_zero, List.getElem?_cons_succ] at c0 c1 c2
  have HW0 := hide hW0
  have hz := hb0.size
  clear hW0 g0
  go_enter Tryz.func14, Tryz.ntmps14
  go_upto_region 1 with (fail)
  rw [HW0.out]
  go_wp2_with fail
  go_ret
  have hb1 : Below w.heap.size w (W0.alloc (memO v (-1) 0)) := hb0.alloc hz _
  exact ⟨W0.heap.size, rfl, hz, ⟨heap_alloc_new W0 (memO v (-1) 0), (h.stay (stay_below hb1 fun _ h => h)).more fun b hb => Nat.lt_of_lt_of_le hb hz⟩, hb1⟩

end Go.Proofs.YtdlebcijgdkfjaaGreatDoor

/-
  condition.Truth at a source just made: what a law about a condition of a small wave needs.
-/
namespace Go.Proofs.YtdlebcijgdkfjaaGreatDoor
open Go.RowKit

/-- the condition has a result in the range -/
def GoodT (v : Wv) (n : Nd) (f t : Int) : Prop := inR v f t ∧ resF n = true ∧ ∀ x ∈ sigF n, sigE v n x = 0
theorem fit_good {v : Wv} {n : Nd} {zs : List Int} (hz : SigsOf n zs) (hok : okF n) : fitE v n zs = 0 ↔ ∀ x ∈ sigF n, sigE v n x = 0 := by
  rw [fitE_ok]
  exact ⟨fun h x hx => h x ((hz.2.2.1 x (sig_I64 n hok x hx)).2 hx), fun h x hx => h x ((hz.2.2.1 x (hz.2.1 x hx)).1 hx)⟩
theorem sigs_same {n : Nd} {zs ys : List Int} (hz : SigsOf n zs) (hy : SigsOf n ys) : zs = ys := by
  have hp : zs.Perm ys := (List.perm_ext_iff_of_nodup hz.1 hy.1).2 fun x => ⟨fun h => (hy.2.2.1 x (hz.2.1 x h)).2 ((hz.2.2.1 x (hz.2.1 x h)).1 h), fun h => (hz.2.2.1 x (hy.2.1 x h)).2 ((hy.2.2.1 x (hy.2.1 x h)).1 h)⟩
  exact hp.eq_of_pairwise (fun a b _ _ h1 h2 => by omega) hz.2.2.2 hy.2.2.2
theorem few_short {most : Nat} (n : Nd) : FewOk most n → n.fold (fun m l => m.value.size ≤ 130 ∧ ∀ p ∈ l, p) := by
  induction n using Nd.ind with
  | h n ih =>
  intro h
  have h2 := (FewOk_eq most n).1 h
  rw [Nd.fold_eq]
  refine ⟨h2.2.1, fun p hp => ?_⟩
  obtain ⟨k, hk, rfl⟩ := List.mem_map.1 hp
  exact ih k hk (h2.2.2.2 k hk)
/-- two lists, normal, of the times at which the condition is true and false -/
structure SetsT (v : Wv) (n : Nd) (f t : Int) (xs ys : List Iv) : Prop where
  nx : Norm xs
  ny : Norm ys
  mx : ∀ x, Mem xs x ↔ setW v n f t ⟨#[49]⟩ x
  my : ∀ x, Mem ys x ↔ setW v n f t ⟨#[48]⟩ x
def TruNew (v : Wv) (n : Nd) (f t : Int) (M : Nat) (e : Ending) (w' : World) : Prop :=
  (¬ GoodT v n f t ∧ ∃ er : Int, er ≠ 0 ∧ e = .returned (.tuple #[zTr, .int .i64 er])) ∨
  (GoodT v n f t ∧ (∃ zs, SigsOf n zs ∧ SourceAt w' M v (-1) (allC v f t zs)) ∧ ∃ (A : Option Addr) (ca : Nat) (xs : List Iv) (B : Option Addr) (cb : Nat) (ys : List Iv), e = .returned (.tuple #[.agg #[.slice A xs.length ca, .slice B ys.length cb], .int .i64 0]) ∧ IvsAt w' w'.heap.size A xs ∧ IvsAt w' w'.heap.size B ys ∧ SetsT v n f t xs ys)
theorem tree_un {w w' : World} {M : Nat} {n : Nd} (h : TreesAt w (Lo w.heap.size) n.KA n.kids) (hb : Below w.heap.size w w') (hM : w.heap.size ≤ M) : TreesAt w' (Un M w'.heap.size) n.KA n.kids :=
  (h.stay (stay_below hb fun _ h => h)).more fun b hb2 => ⟨Nat.lt_of_lt_of_le hb2 hb.size, fun e => by subst e; exact absurd hb2 (Nat.not_lt.2 hM)⟩
theorem truth_new (v : Wv) (n : Nd) (f t : Int) (M : Nat) (w w1 : World) (hb : Below w.heap.size w w1) (hM : w.heap.size ≤ M) (h : SourceAt w1 M v (-1) 0) (hv : SmallOk v) (hf : FewOk 60 n) (ht : TreesAt w (Lo w.heap.size) n.KA n.kids) (hok : okF n) (htab : Tab w) :
    Calls Tryz.prog 17 #[srcV M, .agg (cNd n).toArray, .int .i64 f, .int .i64 t] w1 fun e w2 => TruNew v n f t M e w2 ∧ Below w.heap.size w w2 := by
  have fin : ∀ {c : Int} {w2 : World}, SrcTo w1 M v (-1) c w2 → Below w.heap.size w w2 := fun hs => hb.trans (hs.2.below hb.size fun k e => by injection e with e; omega)
  refine (truth_any v (-1) 0 M n f t w1 h hv (tree_un ht hb hM) hok hf (few_short n hf) (htab.below hb) (by decide) (by decide) (.inl (by decide)) (fun h => by omega)).mono ?_
  rintro e w2 (⟨h1, rfl, h2⟩ | ⟨h0, h1, rfl, h2⟩ | ⟨h0, h1, zs, hz, ⟨h2, _, rfl, c', h3⟩ | ⟨h2, _, h3, A, ca, xs, B, cb, ys, rfl, ox, oy, nx, ny, mx, my⟩ | ⟨_, h2, _⟩⟩)
  · exact ⟨.inl ⟨(fun h => h1 h.1), 2, by decide, rfl⟩, fin h2⟩
  · exact ⟨.inl ⟨(fun h => by rw [h.2.1] at h1; cases h1), 7, by decide, rfl⟩, fin h2⟩
  · exact ⟨.inl ⟨(fun h => h2 ((fit_good hz hok).2 h.2.2)), _, h2, rfl⟩, fin h3⟩
  · refine ⟨.inr ⟨⟨h0, h1, (fit_good hz hok).1 h2⟩, ⟨zs, hz, ?_⟩, A, ca, xs, B, cb, ys, rfl, ox.ats, oy.ats, ⟨nx, ny, mx, my⟩⟩, fin h3⟩
    have := h3.1
    rwa [Int.zero_add] at this
  · omega

end Go.Proofs.YtdlebcijgdkfjaaGreatDoor

/-
  wavestorelaw51.ConditionReads, walked.
-/
namespace Go.Proofs.YtdlebcijgdkfjaaGreatDoor
open Go.RowKit

theorem box3w {w : World} {N : Nat} {a b c : Value} {t : TypeId} (h : w.heap[N]? = some (.cells #[a, b, c] t (0, 0))) : w.cell? ⟨N, 0, none⟩ = some a ∧ w.cell? ⟨N, 1, none⟩ = some b ∧ w.cell? ⟨N, 2, none⟩ = some c := by
  refine ⟨?_, ?_, ?_⟩ <;> (rw [cell_of_row w N _ _ t (0, 0) h]; rfl)
def SourceBox (w : World) (M : Nat) (L : Int) : Prop := ∃ (v : Wv) (c : Int), SourceAt w M v L c
def BoolT (w : World) (e : Ending) (w' : World) : Prop := e = .returned (.bool true) ∧ Below w.heap.size w w'
/-- what the call with a limit says, when the one without has a result -/
def TruLim (v : Wv) (n : Nd) (f t : Int) (L : Int) (zs : List Int) (e : Ending) (w' : World) : Prop :=
  (allC v f t zs ≤ L ∧ ∃ (A : Option Addr) (ca : Nat) (xs : List Iv) (B : Option Addr) (cb : Nat) (ys : List Iv), e = .returned (.tuple #[.agg #[.slice A xs.length ca, .slice B ys.length cb], .int .i64 0]) ∧ IvsAt w' w'.heap.size A xs ∧ IvsAt w' w'.heap.size B ys ∧ SetsT v n f t xs ys) ∨
  (L < allC v f t zs ∧ e = .returned (.tuple #[zTr, .int .i64 14]))
theorem truth_lim (v : Wv) (n : Nd) (f t : Int) (M : Nat) (L : Int) (zs : List Int) (w w1 : World) (hb : Below w.heap.size w w1) (hM : w.heap.size ≤ M) (h : SourceAt w1 M v L 0) (hL : 0 ≤ L) (hg : GoodT v n f t) (hz : SigsOf n zs) (hv : SmallOk v) (hf : FewOk 60 n) (ht : TreesAt w (Lo w.heap.size) n.KA n.kids) (hok : okF n) (htab : Tab w) :
    Calls Tryz.prog 17 #[srcV M, .agg (cNd n).toArray, .int .i64 f, .int .i64 t] w1 fun e w2 => TruLim v n f t L zs e w2 ∧ SourceBox w2 M L ∧ Below w.heap.size w w2 := by
  have fin : ∀ {c : Int} {w2 : World}, SrcTo w1 M v L c w2 → SourceBox w2 M L ∧ Below w.heap.size w w2 := fun hs => ⟨⟨_, _, hs.1⟩, hb.trans (hs.2.below hb.size fun k e => by injection e with e; omega)⟩
  refine (truth_any v L 0 M n f t w1 h hv (tree_un ht hb hM) hok hf (few_short n hf) (htab.below hb) (by decide) (by decide) (.inr hL) (fun _ => hg)).mono ?_
  rintro e w2 (⟨h1, rfl, h2⟩ | ⟨h0, h1, rfl, h2⟩ | ⟨h0, h1, zs', hz', ⟨h2, _, rfl, c', h3⟩ | ⟨h2, h9, h3, A, ca, xs, B, cb, ys, rfl, ox, oy, nx, ny, mx, my⟩ | ⟨_, _, h2, rfl, c', h3⟩⟩)
  · exact absurd hg.1 h1
  · rw [hg.2.1] at h1; cases h1
  · exact absurd ((fit_good hz' hok).2 hg.2.2) h2
  · obtain rfl := sigs_same hz' hz
    refine ⟨.inl ⟨by omega, A, ca, xs, B, cb, ys, rfl, ox.ats, oy.ats, ⟨nx, ny, mx, my⟩⟩, fin h3⟩
  · obtain rfl := sigs_same hz' hz
    exact ⟨.inr ⟨by omega, rfl⟩, fin h3⟩

theorem zsame (w : World) : Calls Tryz.prog 18 #[.agg #[.slice none 0 0, .slice none 0 0], .agg #[.slice none 0 0, .slice none 0 0]] w fun e w' => e = .returned (.bool true) ∧ Below w.heap.size w w' :=
  tsame_true none none none none 0 0 0 0 [] [] [] [] w IvsAt.nil IvsAt.nil IvsAt.nil IvsAt.nil (by simp [Norm]) (by simp [Norm]) (by simp [Norm]) (by simp [Norm]) (fun _ => Iff.rfl) (fun _ => Iff.rfl)
theorem SourceAt.limit {w : World} {M : Nat} {v : Wv} {L c : Int} (h : SourceAt w M v L c) (L' : Int) : SourceAt (w.setCell ⟨M, 3, none⟩ (.int .i64 L')) M v L' c := by
  refine ⟨?_, h.sig.stay fun b hb => ?_⟩
  · have hb := h.box
    unfold memO at hb
    simp [World.setCell, Array.getElem?_modify, hb, memO]
  · have : b ≠ M := fun e => by subst e; exact Nat.lt_irrefl _ hb
    simp [World.setCell, Array.getElem?_modify]
    intro e; exact absurd e.symm this
theorem SourceAt.froz {w : World} {M : Nat} {v : Wv} {L c : Int} (h : SourceAt w M v L c) : w.frozen? ⟨M, 3, none⟩ = false := by
  have hb := h.box
  unfold memO at hb
  simp [World.frozen?, hb]
theorem rem_u8 {lim : Int} (h0 : 0 ≤ lim) : lim.tmod 64 = lim % 64 := Int.tmod_eq_emod_of_nonneg h0

set_option maxRecDepth 100000 in
set_option maxHeartbeats 8000000 in
theorem reads_all (v : Wv) (gs : List (Int × Int)) (n : Nd) (f t lim : Int) (w : World) (hl0 : 0 ≤ lim) (hS : SigsAt w (Lo w.heap.size) v.A v.sigs) (hG : Row w (Lo w.heap.size) 2 cGp v.G gs) (hgn : v.gn = gs.length) (hsz : ∀ s ∈ v.sigs, ∀ c ∈ s.chs, c.val.size ≤ 9223372036854775807)
    (ht : TreesAt w (Lo w.heap.size) n.KA n.kids) (hok : okF n) (htab : Tab w) :
    Calls Tryz.prog 5 #[.agg (cWv v).toArray, .agg (cNd n).toArray, .int .i64 f, .int .i64 t, .int .u8 lim] w (BoolT w) := by
  have HFW := hide (fun (W : World) (hb : Below w.heap.size w W) => few51_any v gs n W (hS.grow hb) (hG.grow hb) hgn hsz (ht.grow hb))
  have HNEW := hide (fun (W : World) (hb : Below w.heap.size w W) => new_any v W (hS.grow hb))
  have HTR := hide (fun (W W1 : World) (hb : Below w.heap.size w W) (hb1 : Below W.heap.size W W1) (M : Nat) (hM : W.heap.size ≤ M) (h : SourceAt W1 M v (-1) 0) (hv : SmallOk v ∧ FewOk 60 n) => truth_new v n f t M W W1 hb1 hM h hv.1 hv.2 (ht.grow hb) hok (htab.below hb))
  have HTL := hide (fun (W W1 : World) (hb : Below w.heap.size w W) (hb1 : Below W.heap.size W W1) (M : Nat) (hM : W.heap.size ≤ M) (L : Int) (hL : 0 ≤ L) (h : SourceAt W1 M v L 0) (hv : SmallOk v ∧ FewOk 60 n) (zs : List Int) (hz : SigsOf n zs) (hg : GoodT v n f t) => truth_lim v n f t M L zs W W1 hb1 hM h hL hg hz hv.1 hv.2 (ht.grow hb) hok (htab.below hb))
  unfold srcV at HTR HTL
  clear hS hG hgn hsz ht hok htab
  obtain ⟨A, cA, sigs, G, gn, cG, fin⟩ := v
  obtain ⟨kind, at_, name, value, a, b, c, d, KA, kc, kids⟩ := n
  unfold cWv cNd at *
  dsimp only at *
  generalize hvv : Wv.mk A cA sigs G gn cG fin = v at *
  generalize hnn : Nd.mk kind at_ name value a b c d KA kc kids = n at *
  clear hvv hnn
  obtain ⟨W0, hW0⟩ : ∃ W0, (w.alloc (.cells #[.slice A sigs.length cA, .slice G gn cG, .int .i64 fin] 29)).alloc (.cells #[.int .i64 kind, .int .i64 at_, .string name, .string value, .int .i64 a, .int .i64 b, .int .i64 c, .int .i64 d, .slice KA kids.length kc] 32) = W0 := ⟨_, rfl⟩
  obtain ⟨p0, p1, hb0⟩ := chain2 _ _ _ hW0
  have HB0 := hide hb0
  have HG0 := hide p0
  have HG1 := hide p1
  have hl0' := box_lt p0
  have hl1' := box_lt p1
  have HCE := hide (fun (W : World) (hb : Below W0.heap.size W0 W) => box3w ((hb.block _ hl0').trans p0))
  have HYE := hide (fun (W : World) (hb : Below W0.heap.size W0 W) => box9 ((hb.block _ hl1').trans p1))
  obtain ⟨c0, c1, c2⟩ := HCE.out W0 (Below.refl _ _)
  obtain ⟨y0, y1, y2, y3, y4, y5, y6, y7, y8⟩ := HYE.out W0 (Below.refl _ _)
  have HW0 := hide hW0
  clear hW0 p0 p1 hb0
  go_enter Tryz.func5, Tryz.ntmps5
  go_upto_region 1 with (fail)
  rw [HW0.out]
  go_wp2_with fail
  refine (HFW.out W0 HB0.out).mono ?_
  rintro e w1 ⟨b1, rfl, hs1, hb1⟩
  have HS1 := hide hs1
  have HB1 := hide hb1
  have HBB1 := hide (bstep HB0.out hb1)
  clear hs1 hb1 c0 c1 c2 y0 y1 y2 y3 y4 y5 y6 y7 y8
  cases b1 with
  | false =>
    go_wp2_with fail
    refine (awake51 _).mono ?_
    rintro e w2 ⟨rfl, hb2⟩
    have HB2 := hide (bstep HBB1.out hb2)
    clear hb2
    go_wp2_with fail
    go_ret
    exact ⟨rfl, HB2.out⟩
  | true =>
    obtain ⟨c0, c1, c2⟩ := HCE.out w1 HB1.out
    have HSM := hide (HS1.out rfl)
    clear HS1
    go_wp2_with fail
    refine (HNEW.out w1 HBB1.out).mono ?_
    rintro e w2 ⟨M, rfl, hM, hsrc, hb2⟩
    have HB2 := hide (bstep HB1.out hb2)
    have HT2 := hide (HTR.out w1 w2 HBB1.out hb2 M hM hsrc HSM.out)
    have hM1 := hsrc.lt
    clear hsrc hb2 c0 c1 c2
    obtain ⟨y0, y1, y2, y3, y4, y5, y6, y7, y8⟩ := HYE.out w2 HB2.out
    go_wp2_with fail
    refine HT2.out.mono ?_
    rintro e w3 ⟨⟨hng, er, her, rfl⟩ | ⟨hg, ⟨zs, hz, hsrc3⟩, X, ca, xs, Y, cb, ys, rfl, ix, iy, hst⟩, hb3⟩
    · have T1 : (er != 0) = true := by simp [her]
      have HB3 := hide (bstep HBB1.out hb3)
      unfold zTr
      clear y0 y1 y2 y3 y4 y5 y6 y7 y8 hb3 her hng
      go_wp2_with fail
      refine (zsame _).mono ?_
      rintro e w4 ⟨rfl, hb4⟩
      have HB4 := hide (bstep (HB3.out.alloc HB3.out.size _) hb4)
      clear hb4
      go_wp2_with fail
      refine (awake51 _).mono ?_
      rintro e w5 ⟨rfl, hb5⟩
      have HB5 := hide (bstep HB4.out hb5)
      clear hb5
      go_wp2_with fail
      go_ret
      exact ⟨rfl, HB5.out⟩
    · generalize hcnt : allC v f t zs = cnt at *
      have HTL2 := hide (fun (W W1 : World) (hb : Below w.heap.size w W) (hb1 : Below W.heap.size W W1) (M : Nat) (hM : W.heap.size ≤ M) (L : Int) (hL : 0 ≤ L) (h : SourceAt W1 M v L 0) => HTL.out W W1 hb hb1 M hM L hL h HSM.out zs hz hg)
      obtain ⟨V3, hV3⟩ : ∃ V3, w3.alloc (.cells #[.slice X xs.length ca, .slice Y ys.length cb] 45) = V3 := ⟨_, rfl⟩
      have g3 : V3.heap[w3.heap.size]? = some (.cells #[.slice X xs.length ca, .slice Y ys.length cb] 45 (0, 0)) := by rw [← hV3]; exact heap_alloc_new w3 _
      have hv3 : Below w3.heap.size w3 V3 := by rw [← hV3]; exact (Below.refl _ _).alloc (Nat.le_refl _) _
      have HS3 := hide (hsrc3.below hv3)
      have HIX := hide (And.intro (ix.step hv3) (iy.step hv3))
      have HB3 := hide (bstep (bstep HB1.out hb3) hv3)
      have HBB3 := hide (bstep (bstep HBB1.out hb3) hv3)
      have HG3 := hide g3
      have HST := hide hst
      have HV3 := hide hV3
      have HCN := hide hcnt
      have hz3 := box_lt g3
      have hMlt := hsrc3.lt
      clear hV3 g3 hv3 hsrc3 ix iy hst hz hg hcnt y0 y1 y2 y3 y4 y5 y6 y7 y8 hb3
      go_upto_region 7 with (fail)
      rw [HV3.out]
      obtain ⟨c0, c1, c2⟩ := HCE.out V3 HB3.out
      go_wp2_with fail
      refine (HNEW.out V3 HBB3.out).mono ?_
      rintro e w4 ⟨M2, rfl, hM2, hsrc4, hb4⟩
      clear c0 c1 c2
      obtain ⟨-, -, -, z3, z4, -⟩ := hsrc4.cells
      have z5 := hsrc4.froz
      have hl4 := hsrc4.lt
      have hr : lim.tmod 64 = lim % 64 := rem_u8 hl0
      generalize hLL : lim % 64 = LL at *
      have hLL0 : 0 ≤ LL := by omega
      have hLL1 : LL < 64 := by omega
      have hs5 := hsrc4.limit LL
      obtain ⟨w5, hw5⟩ : ∃ w5, w4.setCell ⟨M2, 3, none⟩ (.int .i64 LL) = w5 := ⟨_, rfl⟩
      have hb5 : Below V3.heap.size V3 w5 := by rw [← hw5]; exact hb4.setCell (p := ⟨M2, 3, none⟩) hM2 _
      rw [hw5] at hs5
      have HT5 := hide (HTL2.out V3 w5 HBB3.out hb5 M2 hM2 LL hLL0 hs5)
      obtain ⟨y0, y1, y2, y3, y4, y5, y6, y7, y8⟩ := HYE.out w5 (bstep HB3.out hb5)
      have HB5 := hide hb5
      clear hsrc4 hb4 hs5 hb5 hLL
      go_wp2_with fail
      refine HT5.out.mono ?_
      rintro e w6 ⟨hTL, ⟨vv, cc2, hbx⟩, hb6⟩
      have hB6 : Below V3.heap.size V3 w6 := hb6
      have HM2 := hide hbx
      have HS6 := hide (HS3.out.below hB6)
      have HG6 := hide ((hB6.block _ hz3).trans HG3.out)
      have HIX6 := hide (And.intro (HIX.out.1.step hB6) (HIX.out.2.step hB6))
      have HB6 := hide (bstep HBB3.out hB6)
      clear hb6 hbx hB6 y0 y1 y2 y3 y4 y5 y6 y7 y8 z3 z4 z5 hr hw5
      rcases hTL with ⟨hle, X', ca', xs', Y', cb', ys', rfl, ix', iy', hst'⟩ | ⟨hlt, rfl⟩
      · obtain ⟨V6, hV6⟩ : ∃ V6, w6.alloc (.cells #[.slice X' xs'.length ca', .slice Y' ys'.length cb'] 45) = V6 := ⟨_, rfl⟩
        have g6 : V6.heap[w6.heap.size]? = some (.cells #[.slice X' xs'.length ca', .slice Y' ys'.length cb'] 45 (0, 0)) := by rw [← hV6]; exact heap_alloc_new w6 _
        have hv6 : Below w6.heap.size w6 V6 := by rw [← hV6]; exact (Below.refl _ _).alloc (Nat.le_refl _) _
        have g7 := (hv6.block _ (box_lt HG6.out)).trans HG6.out
        have q3 := (HM2.out.below hv6).cells.2.2.2.1
        have q4 := (HS6.out.below hv6).cells.2.2.2.2.1
        have T1 : decide (cnt ≤ LL) = true := decide_eq_true (by have := HCN.out; omega)
        have HB7 := hide (bstep HB6.out hv6)
        have HQ := hide (fun k => tsame_true X Y X' Y' ca cb ca' cb' xs ys xs' ys' (V6.drewN k) ((HIX6.out.1.step hv6).drewN k) ((HIX6.out.2.step hv6).drewN k) ((ix'.step hv6).drewN k) ((iy'.step hv6).drewN k) HST.out.nx HST.out.ny hst'.nx hst'.ny (fun x => (HST.out.mx x).trans (hst'.mx x).symm) (fun x => (HST.out.my x).trans (hst'.my x).symm))
        obtain ⟨e0, e1⟩ := boxT2 g6
        obtain ⟨e2, e3⟩ := boxT2 g7
        have HV6 := hide hV6
        clear hV6 g6 g7 hv6 ix' iy' hst' hle
        go_upto_region 10 with (fail)
        rw [HV6.out]
        go_quiet (fail)
        go_wp2_with fail
        refine (HQ.out _).mono ?_
        rintro e w7 ⟨rfl, hb7⟩
        have HB8 := hide (bstep (below_drewN HB7.out _) hb7)
        clear hb7
        go_wp2_with fail
        refine (awake51 _).mono ?_
        rintro e w8 ⟨rfl, hb8⟩
        have HB9 := hide (bstep HB8.out hb8)
        clear hb8
        go_wp2_with fail
        go_ret
        exact ⟨rfl, HB9.out⟩
      · unfold zTr
        obtain ⟨V6, hV6⟩ : ∃ V6, w6.alloc (.cells #[.slice none 0 0, .slice none 0 0] 45) = V6 := ⟨_, rfl⟩
        have g6 : V6.heap[w6.heap.size]? = some (.cells #[.slice none 0 0, .slice none 0 0] 45 (0, 0)) := by rw [← hV6]; exact heap_alloc_new w6 _
        have hv6 : Below w6.heap.size w6 V6 := by rw [← hV6]; exact (Below.refl _ _).alloc (Nat.le_refl _) _
        have q3 := (HM2.out.below hv6).cells.2.2.2.1
        have q4 := (HS6.out.below hv6).cells.2.2.2.2.1
        have T1 : decide (cnt ≤ LL) = false := decide_eq_false (by have := HCN.out; omega)
        have HB7 := hide (bstep HB6.out hv6)
        obtain ⟨e0, e1⟩ := boxT2 g6
        have HV6 := hide hV6
        clear hV6 g6 hv6 hlt
        go_upto_region 10 with (fail)
        rw [HV6.out]
        go_quiet (fail)
        go_wp2_with fail
        refine (zsame _).mono ?_
        rintro e w7 ⟨rfl, hb7⟩
        have HB8 := hide (bstep (below_drewN HB7.out _) hb7)
        clear hb7
        go_wp2_with fail
        refine (awake51 _).mono ?_
        rintro e w8 ⟨rfl, hb8⟩
        have HB9 := hide (bstep HB8.out hb8)
        clear hb8
        go_wp2_with fail
        go_ret
        exact ⟨rfl, HB9.out⟩

end Go.Proofs.YtdlebcijgdkfjaaGreatDoor

/-
  The table of the powers of ten, out of what the rows list.
-/
namespace Go.Proofs.YtdlebcijgdkfjaaGreatDoor
open Go.RowKit

theorem tab_of_laid {W : World} (h : laidMetH Tryz.prog Rows.conditionComparesRow.laid W) : Tab W := by
  rw [MakeChecks.laidMetH_plain _ _ _ (by kernel_rfl)] at h
  obtain ⟨ps, h0, _⟩ := h
  obtain ⟨_, _, _, _, _, _, _, _, _, _, h1, _⟩ := h0
  obtain ⟨_, _, _, _, _, _, _, _, _, _, h2, _⟩ := h1
  obtain ⟨g', t', cs, fuel, p, q, hg', ht', hvar, hd, _, _⟩ := h2
  have hg : Tryz.prog.globalNamed "internal/strconv.uint64pow10" = some 3 := by kernel_rfl
  have hty : (Tryz.prog.globals[3]?).map (·.type) = some 306 := by kernel_rfl
  obtain rfl := Option.some.inj (hg.symm.trans hg')
  obtain rfl := Option.some.inj (hty.symm.trans ht')
  refine ⟨?_⟩
  unfold Lib.TabIs
  rw [hvar]
  have hd' : DataW.trod (fun _ => ()) Tryz.prog W 0 (fun _ => true) false fuel 306 cs.toList = some (Lib.tabData .u64 Lib.pow10Tab, p) := hd
  have := Lib.cells_of_tab (n := 20) (k := .u64) (e := 230) (by kernel_rfl) (by kernel_rfl) (by kernel_rfl) (by kernel_rfl) hd'
  rw [← this]

end Go.Proofs.YtdlebcijgdkfjaaGreatDoor

/-
  The walk of ConditionReads, in the order in which the lift hands on what it has read.
-/
namespace Go.Proofs.YtdlebcijgdkfjaaGreatDoor
open Go.ChangeShapes Go.WideShapes Go.ChangeAt Go.RowKit Go.Deep

theorem reads_walk (v : Wv) (n : Nd) (f t lim : Int) (W : World) (g : WaveIn W v) (h : TreeIn W n) (_ : I64 f) (_ : I64 t) (l : 0 ≤ lim ∧ lim ≤ 255) (tab : Tab W) :
    Calls Tryz.prog 5 #[.agg (cWv v).toArray, .agg (cNd n).toArray, .int .i64 f, .int .i64 t, .int .u8 lim] W (fun e w' => e = .returned (.bool true) ∧ Below W.heap.size W w') := by
  obtain ⟨h1, h2, gs, h3, h4⟩ := g
  exact reads_all v gs n f t lim W l.1 h1 h4 h3 h2 h.1 h.2 tab
theorem tab_reads {W : World} (h : laidMetH Tryz.prog Rows.conditionReadsRow.laid W) : Tab W := tab_of_laid h

end Go.Proofs.YtdlebcijgdkfjaaGreatDoor
