/-
  Several texts in one: EventChangesProof. Each says at its head what it holds.
-/
import Derived.Test.YtaaplalfggofiaaGreatDoorEC1
import Derived.Test.YtaaplalfggofiaaGreatDoorEC35
import Derived.Test.YtaaplalfggofiaaGreatDoorEC36
import Derived.Test.YtaaplalfggofiaaGreatDoorTie
import Derived.Test.YtaaplalfggofiaaGreatDoorCards
import Derived.LaidMore
import Derived.Lay
import Derived.SevenTiedAt
import Derived.Stop.Joined

/-
  The statement of wavestorelaw53.EventChanges is proved: for every input the law returns true, and each argument reads afterwards as before; the listed package-level variables are tied to the program's text (the card).
-/
namespace Go.Proofs.YtaaplalfggofiaaGreatDoor
open Go.ChangeShapes Go.WideShapes Go.ChangeAt Go.RowKit Go.Deep

set_option maxRecDepth 100000 in
theorem eventChanges_lifted (os : Os) (started : os.Started) (H : Type) (enc : TypeId × Value → H) :
    ReturnsInHanded {} Tryz.checked os 8 .any (fun w args => (Rows.eventChangesSpec.pre enc Tryz.prog Tryz.f8 Rows.eventChangesRow.domain false w args ∧ laidMetH Tryz.prog Rows.eventChangesRow.laid w) ∧ sizedMet enc Tryz.prog Tryz.f8 (OpenSpec.ofChange Rows.eventChangesSpec) false w args) (Rows.eventChangesSpec.post enc Tryz.prog Tryz.f8 false true false false) := by
  refine returnsInHanded_of_change_and (C := Tryz.checked) (X := fun w _ => laidMetH Tryz.prog Rows.eventChangesRow.laid w) (fun _ _ _ hh h => h.of_heap hh) ownK started (by kernel_rfl) Tryz.func8
    (ChangeSpec.witness_shaped (enc := enc) (C := Tryz.checked) (os := os) (X := fun w _ => laidMetH Tryz.prog Rows.eventChangesRow.laid w) false (World.laidAll Tryz.prog os Rows.eventChangesRow.laid) #[.agg #[.slice none 0 0, .slice none 0 0, .int .i64 0], .agg #[.int .i64 0, .int .i64 0, .string ByteArray.empty, .string ByteArray.empty, .int .i64 0, .int .i64 0, .int .i64 0, .int .i64 0, .slice none 0 0], .int .i64 0, .int .i64 0] 8 (World.laidAll_os _ _ _)
      (World.shaped_of_ZipB (by kernel_rfl) (by kernel_rfl)) (by kernel_rfl) (by kernel_rfl) (by kernel_rfl)
      (by rw [MakeChecks.laidMetH_plain _ _ _ (by kernel_rfl)]; exact laidMet_laidAll _ (by kernel_rfl) (by kernel_rfl))) ?_
  intro W base args ds gs before hval0 hW hcnd hsz _ _
  have hval : ∀ (j : Nat) t v, Tryz.f8.params[j]? = some t → args[j]? = some v → Value.okWide Tryz.prog W .any base t v := hval0
  have hW' := hW
  obtain ⟨p, q, hA0, hV, rfl, hfz, hnd⟩ := hW
  have hA : DataW.TrodAll enc Tryz.prog W 0 (fun _ => true) true Tryz.f8.params.toList args.toList ds p := hA0
  rw [Tryz.params8] at hA hval
  obtain ⟨v0, vs0, d0, ds0, p0, q0, hargs, rfl, rfl, h0, r0⟩ := trodAll_cons hA
  obtain ⟨v1, vs1, d1, ds1, p1, q1, rfl, rfl, rfl, h1, r1⟩ := trodAll_cons r0
  obtain ⟨v2, vs2, d2, ds2, p2, q2, rfl, rfl, rfl, h2, r2⟩ := trodAll_cons r1
  obtain ⟨v3, vs3, d3, ds3, p3, q3, rfl, rfl, rfl, h3, r3⟩ := trodAll_cons r2
  obtain ⟨rfl, rfl, rfl⟩ := trodAll_nil r3
  obtain rfl : args = #[v0, v1, v2, v3] := by cases args; simp_all
  obtain ⟨rfl, rfl⟩ := trodVars_none hV
  obtain ⟨cs0, rfl, _⟩ := okWide_struct Tryz.underlying25 (hval 0 25 v0 rfl rfl)
  have k0 := h0
  have lt0 : ∀ x ∈ p0, x.block < W.heap.size := by obtain ⟨m, hm⟩ := k0; exact DataW.trod_lt m _ _ _ hm
  obtain ⟨fu0, hf0⟩ := h0
  obtain ⟨z0, e0, g0⟩ := rd_wave hf0 (fit_each hsz (j := 0) (by rw [Tryz.params8]; rfl) rfl)
  clear hf0
  obtain rfl : cs0 = (cWv z0).toArray := by cases cs0; simpa [Value.cells] using e0
  clear e0
  obtain ⟨cs1, rfl, _⟩ := okWide_struct Tryz.underlying28 (hval 1 28 v1 rfl rfl)
  have k1 := h1
  have lt1 : ∀ x ∈ p1, x.block < W.heap.size := by obtain ⟨m, hm⟩ := k1; exact DataW.trod_lt m _ _ _ hm
  obtain ⟨fu1, hf1⟩ := h1
  obtain ⟨z1, e1, g1⟩ := rd_node hf1 (fit_each hsz (j := 1) (by rw [Tryz.params8]; rfl) rfl)
  clear hf1
  obtain rfl : cs1 = (cNd z1).toArray := by cases cs1; simpa [Value.cells] using e1
  clear e1
  obtain ⟨a2, rfl, rfl, rfl, w2⟩ := open_int Tryz.underlying3 (hval 2 3 v2 rfl rfl) h2
  obtain ⟨a3, rfl, rfl, rfl, w3⟩ := open_int Tryz.underlying3 (hval 3 3 v3 rfl rfl) h3
  clear hA0 hval0
  refine (changes_walk z0 z1 a2 a3 W g0 g1 (bounds_i64 w2) (bounds_i64 w3)).mono fun e W' ⟨he, bel⟩ => ?_
  subst he
  exact ⟨_, rfl, _, _, _, [], _, [], hW', trodAll_mk1 (shut_bool Tryz.underlying4 _), (trodAll_cons_mk (Below.trod laidOut (by kernel_rfl) (of_decide_eq_true (by kernel_rfl)) k0 bel lt0) (trodAll_cons_mk (Below.trod laidOut (by kernel_rfl) (of_decide_eq_true (by kernel_rfl)) k1 bel lt1) (trodAll_cons_mk (shut_int Tryz.underlying3 w2) (trodAll_cons_mk (shut_int Tryz.underlying3 w3) trodAll_mk0)))), rfl, bel.frame _, fun h => by cases h⟩

theorem eventChanges_row : Rows.EventChangesSaid :=
  OpenClaim.holds_of_wide 8 Tryz.f8 rfl rfl rfl rfl rfl rfl rfl ⟨rfl, rfl, rfl, rfl, rfl⟩ rfl rfl rfl rfl rfl (by as_aux_lemma => kernel_rfl) Tryz.func8 eventChanges_facts
    (of_decide_eq_true (by as_aux_lemma => kernel_rfl)) (by unfold Func.isWrapper; first | (rw [if_pos (by decide +kernel)]; kernel_rfl) | (rw [if_neg (by decide +kernel)]; exact ⟨rfl, rfl⟩))
    (fun os started H enc _ => eventChanges_lifted os started H enc)

theorem eventChanges_holds : Rows.EventChangesCardSaid :=
  Claim7.holds_tied_plain_at .later [] Rows.eventChangesCard.laidKinds true Rows.eventChangesCard.stood.harness false
    eventChanges_row (fun _ h => by cases h) eventChanges_words (fun _ h => by cases h) eventChanges_row_tie rfl ⟨rfl, rfl⟩ (by kernel_rfl) rfl
    (fun f fn hf hfn => by
      obtain rfl : f = 8 := Option.some.inj ((show Tryz.prog.funcNamed "wavestore/wavestorelaw53.EventChanges" = some 8 by kernel_rfl).symm.trans hf) |>.symm
      obtain rfl : fn = Tryz.f8 := (Option.some.inj (Tryz.func8.symm.trans hfn)).symm
      exact ⟨eventChanges_looks, fun j t ht => by
        rw [Tryz.params8] at ht
        match j, ht with
        | 0, ht => obtain rfl : t = 25 := by simpa using ht.symm
                   exact (show Tryz.prog.wantsStandIn 25 = false by kernel_rfl)
        | 1, ht => obtain rfl : t = 28 := by simpa using ht.symm
                   exact (show Tryz.prog.wantsStandIn 28 = false by kernel_rfl)
        | 2, ht => obtain rfl : t = 3 := by simpa using ht.symm
                   exact (show Tryz.prog.wantsStandIn 3 = false by kernel_rfl)
        | 3, ht => obtain rfl : t = 3 := by simpa using ht.symm
                   exact (show Tryz.prog.wantsStandIn 3 = false by kernel_rfl)
        | _ + 4, ht => simp at ht⟩)
    eventChanges_goes

#print axioms eventChanges_holds
end Go.Proofs.YtaaplalfggofiaaGreatDoor
