/-
  Several texts in one: AutomatonPrefixesProof. Each says at its head what it holds.
-/
import Derived.Test.YtgobkbjkndfliaaGreatDoorPF1
import Derived.Test.YtgobkbjkndfliaaGreatDoorPF3
import Derived.Test.YtgobkbjkndfliaaGreatDoorPF4
import Derived.Test.YtgobkbjkndfliaaGreatDoorTie
import Derived.Test.YtgobkbjkndfliaaGreatDoorCards
import Derived.LaidMore
import Derived.Lay
import Derived.SevenTiedAt
import Derived.Stop.Joined

/-
  The statement of wavestorelaw54.AutomatonPrefixes is proved: for every input the law returns true, and each argument reads afterwards as before; the listed package-level variables are tied to the program's text (the card).
-/
namespace Go.Proofs.YtgobkbjkndfliaaGreatDoor
open Go.ChangeShapes Go.WideShapes Go.ChangeAt Go.RowKit Go.Deep

set_option maxRecDepth 100000 in
theorem automatonPrefixes_lifted (os : Os) (started : os.Started) (H : Type) (enc : TypeId × Value → H) :
    ReturnsInHanded {} Tryz.checked os 8 .any (fun w args => (Rows.automatonPrefixesSpec.pre enc Tryz.prog Tryz.f8 Rows.automatonPrefixesRow.domain false w args ∧ laidMetH Tryz.prog Rows.automatonPrefixesRow.laid w) ∧ sizedMet enc Tryz.prog Tryz.f8 (OpenSpec.ofChange Rows.automatonPrefixesSpec) false w args) (Rows.automatonPrefixesSpec.post enc Tryz.prog Tryz.f8 false true false false) := by
  refine returnsInHanded_of_change_and (C := Tryz.checked) (X := fun w _ => laidMetH Tryz.prog Rows.automatonPrefixesRow.laid w) (fun _ _ _ hh h => h.of_heap hh) ownK started (by kernel_rfl) Tryz.func8
    (ChangeSpec.witness_shaped (enc := enc) (C := Tryz.checked) (os := os) (X := fun w _ => laidMetH Tryz.prog Rows.automatonPrefixesRow.laid w) false (World.laidAll Tryz.prog os Rows.automatonPrefixesRow.laid) #[.agg #[.slice none 0 0, .slice none 0 0, .slice none 0 0, .slice none 0 0], .int .u8 0] 8 (World.laidAll_os _ _ _)
      (World.shaped_of_ZipB (by kernel_rfl) (by kernel_rfl)) (by kernel_rfl) (by kernel_rfl) (by kernel_rfl)
      (by rw [MakeChecks.laidMetH_plain _ _ _ (by kernel_rfl)]; exact laidMet_laidAll _ (by kernel_rfl) (by kernel_rfl))) ?_
  intro W base args ds gs before hval0 hW hcnd hsz _ _
  have hval : ∀ (j : Nat) t v, Tryz.f8.params[j]? = some t → args[j]? = some v → Value.okWide Tryz.prog W .any base t v := hval0
  have hW' := hW
  obtain ⟨p, q, hA0, hV, rfl, hfz, hnd⟩ := hW
  have hA : DataW.TrodAll enc Tryz.prog W 0 (fun _ => true) true Tryz.f8.params.toList args.toList ds p := hA0
  rw [Tryz.params8] at hA hval
  obtain ⟨v0, vs0, d0, ds0, p0, q0, hargs, rfl, rfl, h0, r0⟩ := trodAll_cons hA
  obtain ⟨v1, vs1, d1, ds1, p1, q1, rfl, rfl, rfl, h1, r1⟩ := trodAll_cons r0
  obtain ⟨rfl, rfl, rfl⟩ := trodAll_nil r1
  obtain rfl : args = #[v0, v1] := by cases args; simp_all
  obtain ⟨rfl, rfl⟩ := trodVars_none hV
  obtain ⟨cs0, rfl, _⟩ := okWide_struct Tryz.underlying30 (hval 0 30 v0 rfl rfl)
  have k0 := h0
  have lt0 : ∀ x ∈ p0, x.block < W.heap.size := by obtain ⟨m, hm⟩ := k0; exact DataW.trod_lt m _ _ _ hm
  obtain ⟨fu0, hf0⟩ := h0
  obtain ⟨z0, e0, g0⟩ := rd_auto hf0 (fit_each hsz (j := 0) (by rw [Tryz.params8]; rfl) rfl)
  clear hf0
  obtain rfl : cs0 = (encA z0).toArray := by cases cs0; simpa [Value.cells] using e0
  clear e0
  obtain ⟨a1, rfl, rfl, rfl, w1⟩ := open_int Tryz.underlying5 (hval 1 5 v1 rfl rfl) h1
  clear hA0 hval0
  refine (pref_walk z0 a1 W g0 (bounds_u8 w1)).mono fun e W' ⟨he, bel⟩ => ?_
  subst he
  exact ⟨_, rfl, _, _, _, [], _, [], hW', trodAll_mk1 (shut_bool Tryz.underlying4 _), (trodAll_cons_mk (Below.trod laidOut (by kernel_rfl) (of_decide_eq_true (by kernel_rfl)) k0 bel lt0) (trodAll_cons_mk (shut_int Tryz.underlying5 w1) trodAll_mk0)), rfl, bel.frame _, fun h => by cases h⟩

theorem automatonPrefixes_row : Rows.AutomatonPrefixesSaid :=
  OpenClaim.holds_of_wide 8 Tryz.f8 rfl rfl rfl rfl rfl rfl rfl ⟨rfl, rfl, rfl, rfl, rfl⟩ rfl rfl rfl rfl rfl (by as_aux_lemma => kernel_rfl) Tryz.func8 automatonPrefixes_facts
    (of_decide_eq_true (by as_aux_lemma => kernel_rfl)) (by unfold Func.isWrapper; first | (rw [if_pos (by decide +kernel)]; kernel_rfl) | (rw [if_neg (by decide +kernel)]; exact ⟨rfl, rfl⟩))
    (fun os started H enc _ => automatonPrefixes_lifted os started H enc)

theorem automatonPrefixes_holds : Rows.AutomatonPrefixesCardSaid :=
  Claim7.holds_tied_plain_at .later [] Rows.automatonPrefixesCard.laidKinds true Rows.automatonPrefixesCard.stood.harness false
    automatonPrefixes_row (fun _ h => by cases h) automatonPrefixes_words (fun _ h => by cases h) automatonPrefixes_row_tie rfl ⟨rfl, rfl⟩ (by kernel_rfl) rfl
    (fun f fn hf hfn => by
      obtain rfl : f = 8 := Option.some.inj ((show Tryz.prog.funcNamed "wavestore/wavestorelaw54.AutomatonPrefixes" = some 8 by kernel_rfl).symm.trans hf) |>.symm
      obtain rfl : fn = Tryz.f8 := (Option.some.inj (Tryz.func8.symm.trans hfn)).symm
      exact ⟨automatonPrefixes_looks, fun j t ht => by
        rw [Tryz.params8] at ht
        match j, ht with
        | 0, ht => obtain rfl : t = 30 := by simpa using ht.symm
                   exact (show Tryz.prog.wantsStandIn 30 = false by kernel_rfl)
        | 1, ht => obtain rfl : t = 5 := by simpa using ht.symm
                   exact (show Tryz.prog.wantsStandIn 5 = false by kernel_rfl)
        | _ + 2, ht => simp at ht⟩)
    automatonPrefixes_goes

#print axioms automatonPrefixes_holds
end Go.Proofs.YtgobkbjkndfliaaGreatDoor
