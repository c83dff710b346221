/-
  Several texts in one: EventSamplesProof. Each says at its head what it holds.
-/
import Derived.Test.YtbhcmnfeeogdhaaGreatDoorES1
import Derived.Test.YtbhcmnfeeogdhaaGreatDoorES26
import Derived.Test.YtbhcmnfeeogdhaaGreatDoorES27
import Derived.Test.YtbhcmnfeeogdhaaGreatDoorTie
import Derived.Test.YtbhcmnfeeogdhaaGreatDoorCards
import Derived.LaidMore
import Derived.Lay
import Derived.SevenTiedAt
import Derived.Stop.Joined

/-
  The statement of wavestorelaw53.EventSamples is proved: for every input the law returns true, and each argument reads afterwards as before; the listed package-level variables are tied to the program's text (the card).
-/
namespace Go.Proofs.YtbhcmnfeeogdhaaGreatDoor
open Go.ChangeShapes Go.WideShapes Go.ChangeAt Go.RowKit Go.Deep

set_option maxRecDepth 100000 in
theorem eventSamples_lifted (os : Os) (started : os.Started) (H : Type) (enc : TypeId × Value → H) :
    ReturnsInHanded {} Tryz.checked os 6 .any (fun w args => (Rows.eventSamplesSpec.pre enc Tryz.prog Tryz.f6 Rows.eventSamplesRow.domain false w args ∧ laidMetH Tryz.prog Rows.eventSamplesRow.laid w) ∧ sizedMet enc Tryz.prog Tryz.f6 (OpenSpec.ofChange Rows.eventSamplesSpec) false w args) (Rows.eventSamplesSpec.post enc Tryz.prog Tryz.f6 false true false false) := by
  refine returnsInHanded_of_change_and (C := Tryz.checked) (X := fun w _ => laidMetH Tryz.prog Rows.eventSamplesRow.laid w) (fun _ _ _ hh h => h.of_heap hh) ownK started (by kernel_rfl) Tryz.func6
    (ChangeSpec.witness_shaped (enc := enc) (C := Tryz.checked) (os := os) (X := fun w _ => laidMetH Tryz.prog Rows.eventSamplesRow.laid w) false (World.laidAll Tryz.prog os Rows.eventSamplesRow.laid) #[.agg #[.slice none 0 0, .slice none 0 0, .int .i64 0], .agg #[.int .i64 0, .int .i64 0, .string ByteArray.empty, .string ByteArray.empty, .int .i64 0, .int .i64 0, .int .i64 0, .int .i64 0, .slice none 0 0], .slice none 0 0] 8 (World.laidAll_os _ _ _)
      (World.shaped_of_ZipB (by kernel_rfl) (by kernel_rfl)) (by kernel_rfl) (by kernel_rfl) (by kernel_rfl)
      (by rw [MakeChecks.laidMetH_plain _ _ _ (by kernel_rfl)]; exact laidMet_laidAll _ (by kernel_rfl) (by kernel_rfl))) ?_
  intro W base args ds gs before hval0 hW hcnd hsz _ _
  have hval : ∀ (j : Nat) t v, Tryz.f6.params[j]? = some t → args[j]? = some v → Value.okWide Tryz.prog W .any base t v := hval0
  have hW' := hW
  obtain ⟨p, q, hA0, hV, rfl, hfz, hnd⟩ := hW
  have hA : DataW.TrodAll enc Tryz.prog W 0 (fun _ => true) true Tryz.f6.params.toList args.toList ds p := hA0
  rw [Tryz.params6] at hA hval
  obtain ⟨v0, vs0, d0, ds0, p0, q0, hargs, rfl, rfl, h0, r0⟩ := trodAll_cons hA
  obtain ⟨v1, vs1, d1, ds1, p1, q1, rfl, rfl, rfl, h1, r1⟩ := trodAll_cons r0
  obtain ⟨v2, vs2, d2, ds2, p2, q2, rfl, rfl, rfl, h2, r2⟩ := trodAll_cons r1
  obtain ⟨rfl, rfl, rfl⟩ := trodAll_nil r2
  obtain rfl : args = #[v0, v1, v2] := by cases args; simp_all
  obtain ⟨rfl, rfl⟩ := trodVars_none hV
  obtain ⟨cs0, rfl, _⟩ := okWide_struct Tryz.underlying27 (hval 0 27 v0 rfl rfl)
  have k0 := h0
  have lt0 : ∀ x ∈ p0, x.block < W.heap.size := by obtain ⟨m, hm⟩ := k0; exact DataW.trod_lt m _ _ _ hm
  obtain ⟨fu0, hf0⟩ := h0
  obtain ⟨z0, e0, g0⟩ := rd_wave hf0 (fit_each hsz (j := 0) (by rw [Tryz.params6]; rfl) rfl)
  clear hf0
  obtain rfl : cs0 = (cWv z0).toArray := by cases cs0; simpa [Value.cells] using e0
  clear e0
  obtain ⟨cs1, rfl, _⟩ := okWide_struct Tryz.underlying30 (hval 1 30 v1 rfl rfl)
  have k1 := h1
  have lt1 : ∀ x ∈ p1, x.block < W.heap.size := by obtain ⟨m, hm⟩ := k1; exact DataW.trod_lt m _ _ _ hm
  obtain ⟨fu1, hf1⟩ := h1
  obtain ⟨z1, e1, g1⟩ := rd_node hf1 (fit_each hsz (j := 1) (by rw [Tryz.params6]; rfl) rfl)
  clear hf1
  obtain rfl : cs1 = (cNd z1).toArray := by cases cs1; simpa [Value.cells] using e1
  clear e1
  obtain ⟨b2, len2, cap2, rfl⟩ := okWide_slice Tryz.underlying32 (hval 2 32 v2 rfl rfl)
  have k2 := h2
  have lt2 : ∀ x ∈ p2, x.block < W.heap.size := by obtain ⟨m, hm⟩ := k2; exact DataW.trod_lt m _ _ _ hm
  obtain ⟨fu2, hf2⟩ := h2
  obtain ⟨a2, c2, z2, e2, g2_0, g2_1, g2_2⟩ := rd_ints hf2 (fit_each hsz (j := 2) (by rw [Tryz.params6]; rfl) rfl)
  clear hf2
  simp only [Value.cells, List.cons.injEq, and_true] at e2
  rw [e2] at hval k2 hW' ⊢
  clear e2
  clear hA0 hval0
  refine (samples_walk z0 z1 a2 c2 z2 W g0 g1 g2_0 g2_1 g2_2).mono fun e W' ⟨he, bel⟩ => ?_
  subst he
  exact ⟨_, rfl, _, _, _, [], _, [], hW', trodAll_mk1 (shut_bool Tryz.underlying4 _), (trodAll_cons_mk (Below.trod laidOut (by kernel_rfl) (of_decide_eq_true (by kernel_rfl)) k0 bel lt0) (trodAll_cons_mk (Below.trod laidOut (by kernel_rfl) (of_decide_eq_true (by kernel_rfl)) k1 bel lt1) (trodAll_cons_mk (Below.trod laidOut (by kernel_rfl) (of_decide_eq_true (by kernel_rfl)) k2 bel lt2) trodAll_mk0))), rfl, bel.frame _, fun h => by cases h⟩

theorem eventSamples_row : Rows.EventSamplesSaid :=
  OpenClaim.holds_of_wide 6 Tryz.f6 rfl rfl rfl rfl rfl rfl rfl ⟨rfl, rfl, rfl, rfl, rfl⟩ rfl rfl rfl rfl rfl (by as_aux_lemma => kernel_rfl) Tryz.func6 eventSamples_facts
    (of_decide_eq_true (by as_aux_lemma => kernel_rfl)) (by unfold Func.isWrapper; first | (rw [if_pos (by decide +kernel)]; kernel_rfl) | (rw [if_neg (by decide +kernel)]; exact ⟨rfl, rfl⟩))
    (fun os started H enc _ => eventSamples_lifted os started H enc)

theorem eventSamples_holds : Rows.EventSamplesCardSaid :=
  Claim7.holds_tied_plain_at .later [] Rows.eventSamplesCard.laidKinds true Rows.eventSamplesCard.stood.harness false
    eventSamples_row (fun _ h => by cases h) eventSamples_words (fun _ h => by cases h) eventSamples_row_tie rfl ⟨rfl, rfl⟩ (by kernel_rfl) rfl
    (fun f fn hf hfn => by
      obtain rfl : f = 6 := Option.some.inj ((show Tryz.prog.funcNamed "wavestore/wavestorelaw53.EventSamples" = some 6 by kernel_rfl).symm.trans hf) |>.symm
      obtain rfl : fn = Tryz.f6 := (Option.some.inj (Tryz.func6.symm.trans hfn)).symm
      exact ⟨eventSamples_looks, fun j t ht => by
        rw [Tryz.params6] at ht
        match j, ht with
        | 0, ht => obtain rfl : t = 27 := by simpa using ht.symm
                   exact (show Tryz.prog.wantsStandIn 27 = false by kernel_rfl)
        | 1, ht => obtain rfl : t = 30 := by simpa using ht.symm
                   exact (show Tryz.prog.wantsStandIn 30 = false by kernel_rfl)
        | 2, ht => obtain rfl : t = 32 := by simpa using ht.symm
                   exact (show Tryz.prog.wantsStandIn 32 = false by kernel_rfl)
        | _ + 3, ht => simp at ht⟩)
    eventSamples_goes

#print axioms eventSamples_holds
end Go.Proofs.YtbhcmnfeeogdhaaGreatDoor
