/-
  The statement of wavestorelaw57.TransactionsComplete is proved: for every input the law returns true, and each argument reads afterwards as before; the listed package-level variables are tied to the program's text (the card).
-/
import Derived.Test.YtlockjbhdibojaaGreatDoorLift57
import Derived.Test.YtlockjbhdibojaaGreatDoorLawComplete
import Derived.Test.YtlockjbhdibojaaGreatDoorTie
import Derived.Test.YtlockjbhdibojaaGreatDoorCards
import Derived.LaidMore
import Derived.Lay
import Derived.SevenTiedAt
import Derived.Stop.Joined
namespace Go.Proofs.YtlockjbhdibojaaGreatDoor
open Go.ChangeShapes Go.WideShapes Go.ChangeAt Go.RowKit Go.Deep

set_option maxRecDepth 100000 in
theorem transactionsComplete_lifted (os : Os) (started : os.Started) (H : Type) (enc : TypeId × Value → H) :
    ReturnsInHanded {} Tryz.checked os 4 .any (fun w args => (Rows.transactionsCompleteSpec.pre enc Tryz.prog Tryz.f4 Rows.transactionsCompleteRow.domain false w args ∧ laidMetH Tryz.prog Rows.transactionsCompleteRow.laid w) ∧ sizedMet enc Tryz.prog Tryz.f4 (OpenSpec.ofChange Rows.transactionsCompleteSpec) false w args) (Rows.transactionsCompleteSpec.post enc Tryz.prog Tryz.f4 false true false false) := by
  refine returnsInHanded_of_change_and (C := Tryz.checked) (X := fun w _ => laidMetH Tryz.prog Rows.transactionsCompleteRow.laid w) (fun _ _ _ hh h => h.of_heap hh) ownK started (by kernel_rfl) Tryz.func4
    (ChangeSpec.witness_shaped (enc := enc) (C := Tryz.checked) (os := os) (X := fun w _ => laidMetH Tryz.prog Rows.transactionsCompleteRow.laid w) false (World.laidAll Tryz.prog os Rows.transactionsCompleteRow.laid) #[.slice none 0 0] 8 (World.laidAll_os _ _ _)
      (World.shaped_of_ZipB (by kernel_rfl) (by kernel_rfl)) (by kernel_rfl) (by kernel_rfl) (by kernel_rfl)
      (by rw [MakeChecks.laidMetH_plain _ _ _ (by kernel_rfl)]; exact laidMet_laidAll _ (by kernel_rfl) (by kernel_rfl))) ?_
  intro W base args ds gs before hval0 hW hcnd hsz _ _
  have hval : ∀ (j : Nat) t v, Tryz.f4.params[j]? = some t → args[j]? = some v → Value.okWide Tryz.prog W .any base t v := hval0
  have hW' := hW
  obtain ⟨p, q, hA0, hV, rfl, hfz, hnd⟩ := hW
  have hA : DataW.TrodAll enc Tryz.prog W 0 (fun _ => true) true Tryz.f4.params.toList args.toList ds p := hA0
  rw [Tryz.params4] at hA hval
  obtain ⟨v0, vs0, d0, ds0, p0, q0, hargs, rfl, rfl, h0, r0⟩ := trodAll_cons hA
  obtain ⟨rfl, rfl, rfl⟩ := trodAll_nil r0
  obtain rfl : args = #[v0] := by cases args; simp_all
  obtain ⟨rfl, rfl⟩ := trodVars_none hV
  obtain ⟨b0, len0, cap0, rfl⟩ := okWide_slice Tryz.underlying22 (hval 0 22 v0 rfl rfl)
  have k0 := h0
  have lt0 : ∀ x ∈ p0, x.block < W.heap.size := by obtain ⟨m, hm⟩ := k0; exact DataW.trod_lt m _ _ _ hm
  obtain ⟨fu0, hf0⟩ := h0
  obtain ⟨a0, c0, z0, e0, g0_0, g0_1, g0_2⟩ := rd_beats hf0 (fit_each hsz (j := 0) (by rw [Tryz.params4]; rfl) rfl)
  clear hf0
  simp only [Value.cells, List.cons.injEq, and_true] at e0
  rw [e0] at hval k0 hW' ⊢
  clear e0
  clear hA0 hval0
  refine (complete_all a0 c0 z0 W g0_0 g0_1 g0_2).mono fun e W' ⟨he, bel⟩ => ?_
  subst he
  exact ⟨_, rfl, _, _, _, [], _, [], hW', trodAll_mk1 (shut_bool Tryz.underlying4 _), (trodAll_cons_mk (Below.trod laidOut (by kernel_rfl) (of_decide_eq_true (by kernel_rfl)) k0 bel lt0) trodAll_mk0), rfl, bel.frame _, fun h => by cases h⟩

theorem transactionsComplete_row : Rows.TransactionsCompleteSaid :=
  OpenClaim.holds_of_wide 4 Tryz.f4 rfl rfl rfl rfl rfl rfl rfl ⟨rfl, rfl, rfl, rfl, rfl⟩ rfl rfl rfl rfl rfl (by kernel_rfl) Tryz.func4 (by kernel_rfl)
    (of_decide_eq_true (by kernel_rfl)) (by unfold Func.isWrapper; first | (rw [if_pos (by decide +kernel)]; kernel_rfl) | (rw [if_neg (by decide +kernel)]; exact ⟨rfl, rfl⟩))
    (fun os started H enc _ => transactionsComplete_lifted os started H enc)

theorem transactionsComplete_holds : Rows.TransactionsCompleteCardSaid :=
  Claim7.holds_tied_plain_at .later [] Rows.transactionsCompleteCard.laidKinds true Rows.transactionsCompleteCard.stood.harness false
    transactionsComplete_row (fun _ h => by cases h) (by kernel_rfl) (fun _ h => by cases h) transactionsComplete_row_tie rfl ⟨rfl, rfl⟩ (by kernel_rfl) rfl
    (fun f fn hf hfn => by
      obtain rfl : f = 4 := Option.some.inj ((show Tryz.prog.funcNamed "wavestore/wavestorelaw57.TransactionsComplete" = some 4 by kernel_rfl).symm.trans hf) |>.symm
      obtain rfl : fn = Tryz.f4 := (Option.some.inj (Tryz.func4.symm.trans hfn)).symm
      exact ⟨by kernel_rfl, fun j t ht => by
        rw [Tryz.params4] at ht
        match j, ht with
        | 0, ht => obtain rfl : t = 22 := by simpa using ht.symm
                   exact (show Tryz.prog.wantsStandIn 22 = false by kernel_rfl)
        | _ + 1, ht => simp at ht⟩)
    (by kernel_rfl)

#print axioms transactionsComplete_holds
end Go.Proofs.YtlockjbhdibojaaGreatDoor
