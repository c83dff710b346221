/-
  wavestoreref03.Text.
-/
import Derived.Test.YtdlebcijgdkfjaaGreatDoorRefTxt
namespace Go.Proofs.YtdlebcijgdkfjaaGreatDoor
open Go.RowKit

def TextP (d : Dec) (v : Value) : Prop := if fitB d = true then v = .tuple #[.string (bs (txt d)), .int .i64 0] else ∃ e : Int, e ≠ 0 ∧ v = .tuple #[.string (bs []), .int .i64 e]

set_option maxRecDepth 100000 in
theorem text_of (neg : Bool) (ds : List UInt8) (f : Int) (dn : Bool) (dd : List UInt8) (df : Int) (hn : nrm neg ds f = ⟨dn, dd, df⟩) (w : World) (hl : ds.length ≤ 200) (h0 : -1000000 ≤ f) (h1 : f ≤ 1000000) (hdl : dd.length ≤ 200) : Calls Tryz.prog 198 #[pv neg ds f] w fun e w' => (∃ v, e = .returned v ∧ TextP ⟨dn, dd, df⟩ v) ∧ Below w.heap.size w w' := by
  unfold pv
  go_enter Tryz.func198, Tryz.ntmps198
  go_wp2_with fail
  have p0 : PB w w.heap.size neg ds f (w.alloc (pcs neg ds f)) := ⟨(Below.refl _ _).alloc (Nat.le_refl _) _, heap_alloc_new w _⟩
  refine (strip_any neg ds f _ (by omega) h0 h1).mono ?_
  rw [hn]
  rintro e w1 ⟨rfl, b1⟩
  have p1 := p0.step b1
  clear p0 b1 hn
  unfold pv
  obtain ⟨c0, c1, c2, f0, f1', f2⟩ := p1.at
  have P1 := hide ((((p1.set0 (Nat.le_refl _) dn).set1 (Nat.le_refl _) dd).set2 (Nat.le_refl _) df).bel)
  clear p1
  cases dd with
  | nil =>
    have hsz : (bs ([] : List UInt8)).size = 0 := rfl
    have he := bs_nil_empty
    go_wp2_with fail
    go_ret2
    exact ⟨⟨_, rfl, rfl⟩, P1.out⟩
  | cons c cs =>
    have hsz : (bs (c :: cs)).size = cs.length + 1 := by rw [bs_size]; rfl
    have he : (bs (c :: cs)).toList.isEmpty = false := by rw [ByteArray.toList_eq]; simp [bs]
    by_cases hF : fitB ⟨dn, c :: cs, df⟩ = true
    · have hF' := hF
      unfold fitB at hF'
      have hf3 : cs.length + 1 ≤ 17 ∧ -400 ≤ df ∧ df ≤ 400 := by simpa [and_assoc] using hF'
      obtain ⟨g1, g2, g3⟩ := hf3
      have HF := hide hF
      clear hF hF'
      have IH := fun w => rdec_any df w g2 g3
      have hz4 : (bs (decI df)).size ≤ 4 := by rw [bs_size]; exact decI_len df g2 g3
      cases cs with
      | nil =>
        cases dn
        all_goals
          go_wp2_with fail
          refine (IH _).mono ?_
          rintro e w2 ⟨rfl, b2⟩
          go_wp2_with fail
          go_ret2
          exact ⟨⟨_, rfl, by unfold TextP; rw [if_pos HF.out]; exact congrArg (fun s => Value.tuple #[.string s, .int .i64 0]) (by apply ByteArray.ext; simp [bs, txt])⟩, bstep P1.out b2⟩
      | cons c2 cs =>
        have g4 : cs.length + 1 + 1 ≤ 17 := g1
        have hsz2 : (bs (c :: c2 :: cs)).size = cs.length + 1 + 1 := hsz
        clear hsz
        cases dn
        all_goals
          go_wp2_with fail
          refine (IH _).mono ?_
          rintro e w2 ⟨rfl, b2⟩
          go_wp2_with fail
          go_ret2
          exact ⟨⟨_, rfl, by unfold TextP; rw [if_pos HF.out]; exact congrArg (fun s => Value.tuple #[.string s, .int .i64 0]) (by apply ByteArray.ext; simp [bs, txt])⟩, bstep P1.out b2⟩
    · have HF := hide hF
      have hf3 : ¬ (cs.length + 1 ≤ 17) ∨ df < -400 ∨ 400 < df := by
        apply Classical.byContradiction
        intro h
        apply hF
        unfold fitB
        simp
        omega
      clear hF
      rcases hf3 with g | g | g
      · go_wp2_with fail
        go_ret2
        exact ⟨⟨_, rfl, by unfold TextP; rw [if_neg HF.out]; exact ⟨_, by decide, rfl⟩⟩, P1.out⟩
      · by_cases g' : cs.length + 1 ≤ 17
        · go_wp2_with fail
          go_ret2
          exact ⟨⟨_, rfl, by unfold TextP; rw [if_neg HF.out]; exact ⟨_, by decide, rfl⟩⟩, P1.out⟩
        · go_wp2_with fail
          go_ret2
          exact ⟨⟨_, rfl, by unfold TextP; rw [if_neg HF.out]; exact ⟨_, by decide, rfl⟩⟩, P1.out⟩
      · by_cases g' : cs.length + 1 ≤ 17
        · go_wp2_with fail
          go_ret2
          exact ⟨⟨_, rfl, by unfold TextP; rw [if_neg HF.out]; exact ⟨_, by decide, rfl⟩⟩, P1.out⟩
        · go_wp2_with fail
          go_ret2
          exact ⟨⟨_, rfl, by unfold TextP; rw [if_neg HF.out]; exact ⟨_, by decide, rfl⟩⟩, P1.out⟩

end Go.Proofs.YtdlebcijgdkfjaaGreatDoor
