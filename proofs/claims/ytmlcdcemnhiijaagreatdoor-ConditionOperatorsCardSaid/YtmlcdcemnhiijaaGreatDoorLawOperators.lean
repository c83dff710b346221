/-
  The walk of wavestorelaw51.ConditionOperators.
-/
import Derived.Test.YtmlcdcemnhiijaaGreatDoorRef51d
import Derived.Test.YtmlcdcemnhiijaaGreatDoorAwake51
namespace Go.Proofs.YtmlcdcemnhiijaaGreatDoor
open Go.RowKit

def OpRel (vs : List ByteArray) (i : Value) : Prop := ∃ k : Nat, k ≤ vs.length ∧ i = .int .i64 k ∧ ∀ v ∈ vs.take k, v.size ≤ 130
theorem sizes_take_succ {vs : List ByteArray} {k : Nat} (hk : k < vs.length) (h : ∀ v ∈ vs.take k, v.size ≤ 130) (hb : vs[k].size ≤ 130) : ∀ v ∈ vs.take (k + 1), v.size ≤ 130 := fun v hv => by
  rw [List.take_succ_eq_append_getElem hk] at hv
  rcases List.mem_append.1 hv with hv | hv
  · exact h v hv
  · simp at hv; subst hv; exact hb

set_option maxRecDepth 100000 in
set_option maxHeartbeats 4000000 in
theorem operators_any (n : Nf) (A : Option Addr) (c : Nat) (vs : List ByteArray) (w : World) (hA : StrsAt w (Lo w.heap.size) A vs) (hc : vs.length ≤ c) (hl : vs.length * 16 ≤ 140737488355328) (hv : ∀ v ∈ vs, v.size ≤ maxLen) (hk : I64 n.kind) (ha : I64 n.a) (hb : I64 n.b) :
    Calls Tryz.prog 3 #[.agg (encNf n).toArray, .slice A vs.length c] w fun e w' => e = .returned (.bool true) ∧ Below w.heap.size w w' := by
  have HV := hide hv
  have HKAB := hide (And.intro hk (And.intro ha hb))
  clear hv hk ha hb
  by_cases h5 : 5 < vs.length
  · have t5 : (5 : Int) < (vs.length : Int) := by omega
    obtain ⟨kind, at_, name, value, na, nb', nc, nd, kids⟩ := n
    dsimp only [encNf] at *
    go_enter Tryz.func3, Tryz.ntmps3
    go_wp2_with fail
    refine (awake51 _).mono ?_
    rintro e w1 ⟨rfl, b1⟩
    go_wp2_with fail
    go_ret
    exact ⟨rfl, bstep ((Below.refl _ _).alloc (Nat.le_refl _) _) b1⟩
  have t5 : (vs.length : Int) ≤ 5 := by omega
  obtain ⟨n0, hn0⟩ : ∃ m : Nf, n = m := ⟨n, rfl⟩
  have HN0 := hide hn0
  clear hn0
  obtain ⟨kind, at_, name, value, na, nb', nc, nd, kids⟩ := n
  dsimp only [encNf] at *
  go_enter Tryz.func3, Tryz.ntmps3
  go_wp2_with fail
  obtain ⟨W0, hW0⟩ : ∃ W0 : World, w.alloc (.cells #[.int .i64 kind, .int .i64 at_, .string name, .string value, .int .i64 na, .int .i64 nb', .int .i64 nc, .int .i64 nd, kids] 24) = W0 := ⟨_, rfl⟩
  have gN : W0.heap[w.heap.size]? = some (.cells #[.int .i64 kind, .int .i64 at_, .string name, .string value, .int .i64 na, .int .i64 nb', .int .i64 nc, .int .i64 nd, kids] 24 (0, 0)) := by rw [← hW0]; exact heap_alloc_new w _
  have hb0 : Below w.heap.size w W0 := by rw [← hW0]; exact (Below.refl _ _).alloc (Nat.le_refl _) _
  rw [hW0]
  clear hW0
  have hzN := box_lt gN
  have hA0 : StrsAt W0 (Lo W0.heap.size) A vs := (hA.stay (stay_below hb0 fun _ h => h)).more fun b hb => Nat.lt_of_lt_of_le hb hb0.size
  have HK := hide (show ∀ W : World, Below W0.heap.size W0 W → W.cell? ⟨w.heap.size, 0, none⟩ = some (.int .i64 kind) ∧ W.cell? ⟨w.heap.size, 1, none⟩ = some (.int .i64 at_) ∧ W.cell? ⟨w.heap.size, 2, none⟩ = some (.string name) ∧ W.cell? ⟨w.heap.size, 3, none⟩ = some (.string value) ∧ W.cell? ⟨w.heap.size, 4, none⟩ = some (.int .i64 na) ∧ W.cell? ⟨w.heap.size, 5, none⟩ = some (.int .i64 nb') ∧ W.cell? ⟨w.heap.size, 6, none⟩ = some (.int .i64 nc) ∧ W.cell? ⟨w.heap.size, 7, none⟩ = some (.int .i64 nd) ∧ W.cell? ⟨w.heap.size, 8, none⟩ = some kids ∧ Below W0.heap.size W0 W from fun W hb => by
    have g := (hb.block _ hzN).trans gN
    exact ⟨by rw [cell_of_row W _ _ _ _ (0, 0) g]; rfl, by rw [cell_of_row W _ _ _ _ (0, 0) g]; rfl, by rw [cell_of_row W _ _ _ _ (0, 0) g]; rfl, by rw [cell_of_row W _ _ _ _ (0, 0) g]; rfl, by rw [cell_of_row W _ _ _ _ (0, 0) g]; rfl, by rw [cell_of_row W _ _ _ _ (0, 0) g]; rfl, by rw [cell_of_row W _ _ _ _ (0, 0) g]; rfl, by rw [cell_of_row W _ _ _ _ (0, 0) g]; rfl, by rw [cell_of_row W _ _ _ _ (0, 0) g]; rfl, hb⟩)
  clear hA gN
  go_loop [13] (fun i => OpRel vs i) (fun i => vs.length - (intOf i).toNat)
  case atStart => exact ⟨0, Nat.zero_le _, rfl, by simp⟩
  case round =>
    obtain ⟨k, hk, rfl, hsm⟩ := hrel
    have HS := hide hsm
    clear hsm
    by_cases hlt : k < vs.length
    · obtain ⟨b1, o1, hAe, _, q1⟩ := hA0.at_ hlt
      subst hAe
      have hmx := HV.out _ (List.getElem_mem hlt)
      unfold maxLen at hmx
      by_cases hsz : 130 < vs[k].size
      · generalize vs[k] = v at *
        have tsz : (130 : Int) < (v.size : Int) := by omega
        go_wp2_with fail
        refine (awake51 _).mono ?_
        rintro e w1 ⟨rfl, b1⟩
        go_wp2_with fail
        go_ret
        exact ⟨rfl, bstep hb0 b1⟩
      · have HT := hide (sizes_take_succ hlt HS.out (by omega))
        generalize vs[k] = v at *
        have tsz : (v.size : Int) ≤ 130 := by omega
        go_wp2_with fail
        go_round
        case rel => exact ⟨k + 1, by omega, by go_num, HT.out⟩
        case measure => simp [intOf]; omega
    · have hke : k = vs.length := by omega
      subst hke
      have hsm := HS.out
      rw [List.take_length] at hsm
      have HSM := hide hsm
      clear hsm
      obtain ⟨R, hR⟩ : ∃ R : ByteArray, (⟨(applyL kind na nb' (vL vs)).toArray⟩ : ByteArray) = R := ⟨_, rfl⟩
      have C1 := hide (show ∀ W : World, Below W0.heap.size W0 W → Calls Tryz.prog 6 #[.agg #[.int .i64 kind, .int .i64 at_, .string name, .string value, .int .i64 na, .int .i64 nb', .int .i64 nc, .int .i64 nd, kids], .slice A vs.length c] W fun e w' => e = .returned (.string R) ∧ Below W.heap.size W w' from fun W hb => by
        rw [← hR]
        exact apply_any ⟨kind, at_, name, value, na, nb', nc, nd, kids⟩ A c vs W ((hA0.stay (stay_below hb fun _ h => h)).more fun b hb' => Nat.lt_of_lt_of_le hb' hb.size) (by omega) hc HSM.out HKAB.out.2.1 HKAB.out.2.2)
      have C2 := hide (show ∀ W : World, Below W0.heap.size W0 W → Calls Tryz.prog 7 #[.agg #[.int .i64 kind, .int .i64 at_, .string name, .string value, .int .i64 na, .int .i64 nb', .int .i64 nc, .int .i64 nd, kids], .slice A vs.length c] W fun e w' => e = .returned (.string R) ∧ Below W.heap.size W w' from fun W hb => by
        rw [← hR]
        exact rapply_any ⟨kind, at_, name, value, na, nb', nc, nd, kids⟩ A c vs W ((hA0.stay (stay_below hb fun _ h => h)).more fun b hb' => Nat.lt_of_lt_of_le hb' hb.size) (by omega) hc HSM.out HKAB.out.2.1 HKAB.out.2.2 HKAB.out.1)
      clear hR
      have hbd : Below W0.heap.size W0 W0.drew := below_drew (Below.refl _ _)
      have S0 := HK.out W0.drew hbd
      go_wp2_with fail
      go_region_held3 (fun wx => wx.cell? ⟨w.heap.size, 0, none⟩ = some (.int .i64 kind) ∧ wx.cell? ⟨w.heap.size, 1, none⟩ = some (.int .i64 at_) ∧ wx.cell? ⟨w.heap.size, 2, none⟩ = some (.string name) ∧ wx.cell? ⟨w.heap.size, 3, none⟩ = some (.string value) ∧ wx.cell? ⟨w.heap.size, 4, none⟩ = some (.int .i64 na) ∧ wx.cell? ⟨w.heap.size, 5, none⟩ = some (.int .i64 nb') ∧ wx.cell? ⟨w.heap.size, 6, none⟩ = some (.int .i64 nc) ∧ wx.cell? ⟨w.heap.size, 7, none⟩ = some (.int .i64 nd) ∧ wx.cell? ⟨w.heap.size, 8, none⟩ = some kids ∧ Below W0.heap.size W0 wx)
        (first | (with_reducible assumption) | exact S0)
        (first
          | (go_at_call 6; refine (C1.out W0.drew hbd).mono ?_; rintro e w1 ⟨rfl, r1⟩; have b1 := bstep hbd r1; have S1 := HK.out w1 b1)
          | (go_at_call 7; refine (C2.out w1 b1).mono ?_; rintro e w2 ⟨rfl, r2⟩; have b2 := bstep b1 r2; have S2 := HK.out w2 b2)
          | (go_at_call 5; refine (awake51 w2).mono ?_; rintro e w3 ⟨rfl, r3⟩; have b3 := bstep b2 r3; have S3 := HK.out w3 b3))
      go_wp2_with fail
      go_ret
      exact ⟨rfl, bstep hb0 b3⟩

theorem operators_all (n : Nf) (A : Option Addr) (c : Nat) (vs : List ByteArray) (w : World) (hn : I64 n.kind ∧ I64 n.a ∧ I64 n.b) (hA : StrsAt w (Lo w.heap.size) A vs) (hc : vs.length ≤ c) (hl : vs.length * 16 ≤ 140737488355328) (hv : ∀ v ∈ vs, v.size ≤ maxLen) :
    Calls Tryz.prog 3 #[.agg (encNf n).toArray, .slice A vs.length c] w fun e w' => e = .returned (.bool true) ∧ Below w.heap.size w w' :=
  operators_any n A c vs w hA hc hl hv hn.1 hn.2.1 hn.2.2

end Go.Proofs.YtmlcdcemnhiijaaGreatDoor
