/-
  Several texts in one: LawOpens, LiftOpens, MatchOpensProof, MatchBoth. Each says at its head what it holds.
-/
import Derived.Test.YtkbiefklilelmaaMR51
import Derived.Test.YtkbiefklilelmaaMR32
import Derived.Test.YtkbiefklilelmaaMR35
import Derived.Test.YtkbiefklilelmaaMR37
import Derived.Test.YtkbiefklilelmaaMR50

/-
  wavestorelaw55.MatchOpens: true.
-/
namespace Go.Proofs.Ytkbiefklilelmaa
open Go.RowKit

/-- what Open answers, told apart by whether the arguments fit -/
def OpenH (a : Aut) (ev : List SlI) (cs : List SlV) (f t en : Int) (w : World) (e : Ending) (w' : World) : Prop :=
  ∃ (A : Option Addr) (c : Nat) (xs : List Int) (er : Int), e = .returned (.tuple #[.slice A xs.length c, .int .i64 er]) ∧ IntsAt w' w'.heap.size A xs ∧ xs.length ≤ 960 ∧ Below w.heap.size w w' ∧ ((¬ PrepOk a ev cs.length f t en ∧ er = 1 ∧ xs = []) ∨ (PrepOk a ev cs.length f t en ∧ er = 0 ∧ IsOpen (inpOf a ev cs) f t en xs))
theorem OpenPost.h {a : Aut} {ev : List SlI} {cs : List SlV} {f t en : Int} {w w' : World} {e : Ending} (h : OpenPost a ev cs f t en w e w') : OpenH a ev cs f t en w e w' := by
  obtain ⟨hb, ⟨hn, rfl⟩ | ⟨hp, A, c, xs, rfl, ho, hl, hr⟩⟩ := h
  · exact ⟨none, 0, [], 1, rfl, fun hx => absurd rfl hx, by simp, hb, .inl ⟨hn, rfl, rfl⟩⟩
  · exact ⟨A, c, xs, 0, rfl, OwnInt.ats ho, hl, hb, .inr ⟨hp, rfl, hr⟩⟩

set_option maxRecDepth 100000 in
set_option maxHeartbeats 8000000 in
theorem lawOpens (a : Aut) (evs cds : List Nd) (AV AC' : Option Addr) (cV cC' : Nat) (ev : List SlI) (cs : List SlV) (f t en : Int) (w : World) (ha : AutAt w (Lo w.heap.size) a) (ht : AutTrees w a evs cds) (hle : AutLe a) (hev : EvAt w AV ev) (hcs : CsAt w AC' cs)
    (b1 : ev.length ≤ 140737488355328) (b2 : cs.length ≤ 140737488355328) (b3 : ∀ s ∈ ev, s.xs.length ≤ 140737488355328) (b4 : ∀ s ∈ cs, s.xs.length ≤ 140737488355328) :
    Calls Try.prog 9 #[.agg (encA a).toArray, .slice AV ev.length cV, .slice AC' cs.length cC', .int .i64 f, .int .i64 t, .int .i64 en] w (fun e w' => e = .returned (.bool true) ∧ Below w.heap.size w w') := by
  obtain ⟨W0, hW0⟩ : ∃ W0, w.alloc (.cells (encA a).toArray 50) = W0 := ⟨_, rfl⟩
  have g0 := new_at hW0
  have hb0 : Below w.heap.size w W0 := by rw [← hW0]; exact (Below.refl _ _).alloc (Nat.le_refl _) _
  have HB0 := hide hb0
  have HFEW := hide (few_any a evs cds AV AC' cV cC' ev cs W0 (ht.grow hb0) hle (hev.step hb0) (hcs.step hb0) b1 b2 b3 b4)
  have HRUN := hide (fun (hf : FewAll a ev cs) (U : World) (hU : Below W0.heap.size W0 U) => (open_any a AV cV ev AC' cC' cs f t en U ((ha.grow hb0).grow hU) hle ((hev.step hb0).step hU) ((hcs.step hb0).step hU) hf.1 hf.2.1 hf.2.2.1 hf.2.2.2.1 fun s hs => by have := hf.2.2.2.2 s hs; omega).mono fun e w' h => OpenPost.h h)
  have HREF := hide (fun (hf : FewAll a ev cs) (U : World) (hU : Below W0.heap.size W0 U) => (ropen_any a AV cV ev AC' cC' cs f t en U ((ha.grow hb0).grow hU) hle ((hev.step hb0).step hU) ((hcs.step hb0).step hU) hf.1 hf.2.1 hf.2.2.1 hf.2.2.2.1 fun s hs => by have := hf.2.2.2.2 s hs; omega).mono fun e w' h => OpenPost.h h)
  obtain ⟨a', ha'⟩ : ∃ a', a = a' := ⟨_, rfl⟩
  rw [ha'] at HFEW HRUN HREF hW0 g0 ⊢
  obtain ⟨AE, nE, cE, AC, nC, cC, AF, cF, fin, AX, cX, edges⟩ := a
  have hX : encA a' = [.slice AE nE cE, .slice AC nC cC, .slice AF fin.length cF, .slice AX edges.length cX] := by rw [← ha']; rfl
  rw [hX] at HFEW HRUN HREF hW0 g0 ⊢
  have HW0 := hide hW0
  have HG0 := hide g0
  obtain ⟨y0, y1, y2, y3, -⟩ := box4 g0
  clear ha' hX hW0 g0 hb0 ha ht hle hev hcs b1 b2 b3 b4
  go_enter Try.func9, Try.ntmps9
  go_upto_region 1 with (fail)
  rw [HW0.out]
  go_cut [21] (fun v wx => ∃ z : Bool, v = .bool z ∧ Below W0.heap.size W0 wx ∧ (z = false → FewAll a' ev cs))
  case first =>
    go_wp2_with (
       go_at_call 30
       refine HFEW.out.mono ?_
       rintro e w2 ⟨y, rfl, hb2, hy⟩
       have HB2 := hide hb2
       have HY := hide hy
       clear hb2 hy
       cases y)
    all_goals go_meet
    all_goals exact ⟨_, rfl, HB2.out, fun e => by first | exact HY.out rfl | exact HY.out trivial | exact HY.out | cases e⟩
  case rest =>
    obtain ⟨z, rfl, hbc, hz⟩ := hcut
    have HBC := hide hbc
    have HZ := hide hz
    clear hbc hz y0 y1 y2 y3
    cases z with
    | true =>
      go_wp2_with (go_at_call 31; refine (awake55 _).mono ?_; rintro e w3 ⟨rfl, hb3⟩; have HB3 := hide (bstep (bstep HB0.out HBC.out) hb3); clear hb3)
      go_ret
      exact ⟨rfl, HB3.out⟩
    | false =>
      have HF := hide (HZ.out rfl)
      clear HZ HFEW
      have HR1 := hide (HRUN.out HF.out wc HBC.out)
      obtain ⟨y0, y1, y2, y3, -⟩ := box4 ((HBC.out.block _ (box_lt HG0.out)).trans HG0.out)
      go_upto_region 4 with (go_at_call 35; refine HR1.out.mono ?_; rintro e u1 ⟨A1, c1, xs, r1, rfl, hx1, hl1, hb1, hr1⟩; have HX1 := hide hx1; have HB1 := hide hb1; have HRR1 := hide hr1; clear hx1 hb1 hr1)
      have HBU1 := hide (bstep HBC.out HB1.out)
      have HR2 := hide (HREF.out HF.out u1 HBU1.out)
      clear y0 y1 y2 y3 HR1
      obtain ⟨y0, y1, y2, y3, -⟩ := box4 ((HBU1.out.block _ (box_lt HG0.out)).trans HG0.out)
      go_upto_region 5 with (go_at_call 36; refine HR2.out.mono ?_; rintro e u2 ⟨A2, c2, ys, r2, rfl, hx2, hl2, hb2, hr2⟩; have HX2 := hide hx2; have HB2 := hide hb2; have HRR2 := hide hr2; clear hx2 hb2 hr2)
      clear y0 y1 y2 y3 HR2 HRUN HREF
      obtain ⟨er, es⟩ := both_same (fun _ _ h h' => h.uniq h') HRR1.out HRR2.out
      subst er es
      have T1 : (r1 == r1) = true := beq_self_eq_true _
      have HX3 := hide (HX1.out.step HB2.out)
      have HBW := hide (bstep (bstep HB0.out HBU1.out) HB2.out)
      have HSAME := hide (ints_eq5 A1 A2 c1 c2 xs u2 HX3.out HX2.out (by omega))
      clear HRR1 HRR2 HX1
      go_wp2_with (first
        | (go_at_call 37
           refine HSAME.out.mono ?_
           rintro e u3 ⟨rfl, hb3⟩
           have HB3 := hide (bstep HBW.out hb3)
           clear hb3)
        | (go_at_call 31
           refine (awake55 _).mono ?_
           rintro e w3 ⟨rfl, hb4⟩
           have HB4 := hide (bstep HB3.out hb4)
           clear hb4))
      go_ret
      exact ⟨rfl, HB4.out⟩

end Go.Proofs.Ytkbiefklilelmaa

/-
  The walk of MatchOpens, in the order in which the lift hands on what it has read.
-/
namespace Go.Proofs.Ytkbiefklilelmaa
open Go.RowKit

theorem opens_walk (a : Aut) (A1 : Option Addr) (c1 : Nat) (ev : List SlI) (A2 : Option Addr) (c2 : Nat) (cs : List SlV) (from_ to_ en : Int) (W : World) (g : AutIn W a) (e1 : EvAt W A1 ev) (e2 : ∀ s ∈ ev, s.xs.length ≤ 140737488355328) (e3 : ev.length ≤ 140737488355328) (f1 : CsAt W A2 cs) (f2 : ∀ s ∈ cs, s.xs.length ≤ 140737488355328) (f3 : cs.length ≤ 140737488355328)
    (_ : I64 from_) (_ : I64 to_) (_ : I64 en) : Calls Try.prog 9 #[.agg (encA a).toArray, .slice A1 ev.length c1, .slice A2 cs.length c2, .int .i64 from_, .int .i64 to_, .int .i64 en] W (fun e w' => e = .returned (.bool true) ∧ Below W.heap.size W w') := by
  obtain ⟨h1, ⟨evs, cds, h2⟩, h3⟩ := g
  exact lawOpens a evs cds A1 A2 c1 c2 ev cs from_ to_ en W h1 h2 h3 e1 f1 e3 f3 e2 f2

end Go.Proofs.Ytkbiefklilelmaa

/-
  The statement of wavestorelaw55.MatchOpens is proved: for every input the law returns true, and each argument reads afterwards as before.
-/
namespace Go.Proofs.Ytkbiefklilelmaa
open Go.ChangeShapes Go.WideShapes Go.ChangeAt Go.RowKit Go.Deep

set_option maxRecDepth 100000 in
theorem matchOpens_lifted (os : Os) (started : os.Started) (H : Type) (enc : TypeId × Value → H) :
    ReturnsInHanded {} Try.checked os 9 .any (Rows.matchOpensSpec.pre6 enc Try.prog Try.f9 Rows.matchOpensRow.domain false) (Rows.matchOpensSpec.post enc Try.prog Try.f9 false true false false) := by
  refine returnsInHanded_of_change_sized (C := Try.checked) ownK started (by kernel_rfl) Try.func9
    (ChangeSpec.witness6 (enc := enc) (C := Try.checked) false ⟨#[], #[.agg #[.slice none 0 0, .slice none 0 0, .slice none 0 0, .slice none 0 0], .slice none 0 0, .slice none 0 0, .int .i64 0, .int .i64 0, .int .i64 0], []⟩ 8 (by kernel_rfl) (by kernel_rfl) (by kernel_rfl) (by kernel_rfl)) ?_
  intro W base args ds gs before hval0 hW hcnd hsz _
  have hval : ∀ (j : Nat) t v, Try.f9.params[j]? = some t → args[j]? = some v → Value.okWide Try.prog W .any base t v := hval0
  have hW' := hW
  obtain ⟨p, q, hA0, hV, rfl, hfz, hnd⟩ := hW
  have hA : DataW.TrodAll enc Try.prog W 0 (fun _ => true) true Try.f9.params.toList args.toList ds p := hA0
  rw [Try.params9] at hA hval
  obtain ⟨v0, vs0, d0, ds0, p0, q0, hargs, rfl, rfl, h0, r0⟩ := trodAll_cons hA
  obtain ⟨v1, vs1, d1, ds1, p1, q1, rfl, rfl, rfl, h1, r1⟩ := trodAll_cons r0
  obtain ⟨v2, vs2, d2, ds2, p2, q2, rfl, rfl, rfl, h2, r2⟩ := trodAll_cons r1
  obtain ⟨v3, vs3, d3, ds3, p3, q3, rfl, rfl, rfl, h3, r3⟩ := trodAll_cons r2
  obtain ⟨v4, vs4, d4, ds4, p4, q4, rfl, rfl, rfl, h4, r4⟩ := trodAll_cons r3
  obtain ⟨v5, vs5, d5, ds5, p5, q5, rfl, rfl, rfl, h5, r5⟩ := trodAll_cons r4
  obtain ⟨rfl, rfl, rfl⟩ := trodAll_nil r5
  obtain rfl : args = #[v0, v1, v2, v3, v4, v5] := by cases args; simp_all
  obtain ⟨rfl, rfl⟩ := trodVars_none hV
  obtain ⟨cs0, rfl, _⟩ := okWide_struct Try.underlying50 (hval 0 50 v0 rfl rfl)
  have k0 := h0
  have lt0 : ∀ x ∈ p0, x.block < W.heap.size := by obtain ⟨m, hm⟩ := k0; exact DataW.trod_lt m _ _ _ hm
  obtain ⟨fu0, hf0⟩ := h0
  obtain ⟨z0, e0, g0⟩ := rd_auto hf0 (fit_each hsz (j := 0) (by rw [Try.params9]; rfl) rfl)
  clear hf0
  obtain rfl : cs0 = (encA z0).toArray := by cases cs0; simpa [Value.cells] using e0
  clear e0
  obtain ⟨b1, len1, cap1, rfl⟩ := okWide_slice Try.underlying51 (hval 1 51 v1 rfl rfl)
  have k1 := h1
  have lt1 : ∀ x ∈ p1, x.block < W.heap.size := by obtain ⟨m, hm⟩ := k1; exact DataW.trod_lt m _ _ _ hm
  obtain ⟨fu1, hf1⟩ := h1
  obtain ⟨a1, c1, z1, e1, g1_0, g1_1, g1_2⟩ := rd_evs hf1 (fit_each hsz (j := 1) (by rw [Try.params9]; rfl) rfl)
  clear hf1
  simp only [Value.cells, List.cons.injEq, and_true] at e1
  rw [e1] at hval k1 hW' ⊢
  clear e1
  obtain ⟨b2, len2, cap2, rfl⟩ := okWide_slice Try.underlying52 (hval 2 52 v2 rfl rfl)
  have k2 := h2
  have lt2 : ∀ x ∈ p2, x.block < W.heap.size := by obtain ⟨m, hm⟩ := k2; exact DataW.trod_lt m _ _ _ hm
  obtain ⟨fu2, hf2⟩ := h2
  obtain ⟨a2, c2, z2, e2, g2_0, g2_1, g2_2⟩ := rd_css hf2 (fit_each hsz (j := 2) (by rw [Try.params9]; rfl) rfl)
  clear hf2
  simp only [Value.cells, List.cons.injEq, and_true] at e2
  rw [e2] at hval k2 hW' ⊢
  clear e2
  obtain ⟨a3, rfl, rfl, rfl, w3⟩ := open_int Try.underlying3 (hval 3 3 v3 rfl rfl) h3
  obtain ⟨a4, rfl, rfl, rfl, w4⟩ := open_int Try.underlying3 (hval 4 3 v4 rfl rfl) h4
  obtain ⟨a5, rfl, rfl, rfl, w5⟩ := open_int Try.underlying3 (hval 5 3 v5 rfl rfl) h5
  clear hA0 hval0
  refine (opens_walk z0 a1 c1 z1 a2 c2 z2 a3 a4 a5 W g0 g1_0 g1_1 g1_2 g2_0 g2_1 g2_2 (bounds_i64 w3) (bounds_i64 w4) (bounds_i64 w5)).mono fun e W' ⟨he, bel⟩ => ?_
  subst he
  exact ⟨_, rfl, _, _, _, [], _, [], hW', trodAll_mk1 (shut_bool Try.underlying4 _), (trodAll_cons_mk (Below.trod laidOut (by kernel_rfl) (of_decide_eq_true (by kernel_rfl)) k0 bel lt0) (trodAll_cons_mk (Below.trod laidOut (by kernel_rfl) (of_decide_eq_true (by kernel_rfl)) k1 bel lt1) (trodAll_cons_mk (Below.trod laidOut (by kernel_rfl) (of_decide_eq_true (by kernel_rfl)) k2 bel lt2) (trodAll_cons_mk (shut_int Try.underlying3 w3) (trodAll_cons_mk (shut_int Try.underlying3 w4) (trodAll_cons_mk (shut_int Try.underlying3 w5) trodAll_mk0)))))), rfl, bel.frame _, fun h => by cases h⟩

theorem matchOpens_holds : Rows.MatchOpensSaid :=
  OpenClaim.holds_of_wide 9 Try.f9 rfl rfl rfl rfl rfl rfl rfl ⟨rfl, rfl, rfl, rfl, rfl⟩ rfl rfl rfl rfl rfl (by kernel_rfl) Try.func9 (by kernel_rfl)
    (of_decide_eq_true (by kernel_rfl)) (by unfold Func.isWrapper; first | (rw [if_pos (by decide +kernel)]; kernel_rfl) | (rw [if_neg (by decide +kernel)]; exact ⟨rfl, rfl⟩))
    (fun os started H enc _ => matchOpens_lifted os started H enc)

#print axioms matchOpens_holds
end Go.Proofs.Ytkbiefklilelmaa

/-
  The statements of wavestorelaw55.MatchRuns and MatchOpens, both proved (this text joins them).
-/
namespace Go.Proofs.Ytkbiefklilelmaa

theorem matchBoth_holds : Rows.MatchRunsSaid ∧ Rows.MatchOpensSaid := ⟨matchRuns_holds, matchOpens_holds⟩

end Go.Proofs.Ytkbiefklilelmaa
