/-
  Several texts in one: CNumR. Each says at its head what it holds.
-/
import Derived.Test.YtgobkbjkndfliaaGreatDoorAP23
import Derived.Test.YtgobkbjkndfliaaGreatDoorAP24

/-
  compiler.number at the repetition of the law's example.
-/
namespace Go.Proofs.YtgobkbjkndfliaaGreatDoor
open Go.RowKit

def cNumRep (A : Option Addr) (c g c' : Nat) : List Value := [.int .i64 47, .int .i64 0, .string ByteArray.empty, .string ByteArray.empty, .int .i64 1, .int .i64 2, .int .i64 0, .int .i64 3, .slice A 1 c, .int .i64 0, .int .i64 (-1), .slice (some ⟨g, 0, none⟩) 1 c']
/-- what number answers at the repetition -/
def NumR (A : Option Addr) (c : Nat) (A2 : Option Addr) (c2 : Nat) (base B ne : Nat) (E : List Edg) (sts : List Int) (F : Nat → Prop) (w : World) (e : Ending) (w' : World) : Prop :=
  ∃ g c', e = .returned (.agg (cNumRep A c g c').toArray) ∧ w'.ownsRow w.heap.size 65 12 (.slice (some ⟨g, 0, none⟩) 1 c') 1 (cNumEv 38 A2 c2 ne) ∧ CSt w' base B (ne + 1) E sts (fun b => F b ∨ b = g) ∧ Kp F w w'

theorem own_lower {w : World} {base base' : Nat} {e : TypeId} {size : Nat} {v : Value} {n : Nat} {xs : List Value} (h : w.ownsRow base e size v n xs) (hb : base' ≤ base) : w.ownsRow base' e size v n xs :=
  ⟨h.1, h.2.imp_right fun ⟨g, cap, cur, h1, h2, h3⟩ => ⟨g, cap, cur, h1, Nat.le_trans hb h2, h3⟩⟩
theorem set12_block {w : World} {N b : Nat} {v0 v1 v2 v3 v4 v5 v6 v7 v8 v9 v10 v11 : Value} (_ : Unit) (h : b ≠ N) : ((((((((((((w.setCell ⟨N, 0, none⟩ v0).setCell ⟨N, 1, none⟩ v1).setCell ⟨N, 2, none⟩ v2).setCell ⟨N, 3, none⟩ v3).setCell ⟨N, 4, none⟩ v4).setCell ⟨N, 5, none⟩ v5).setCell ⟨N, 6, none⟩ v6).setCell ⟨N, 7, none⟩ v7).setCell ⟨N, 8, none⟩ v8).setCell ⟨N, 9, none⟩ v9).setCell ⟨N, 10, none⟩ v10).setCell ⟨N, 11, none⟩ v11).heap[b]? = w.heap[b]? := by
  have k : ∀ (u : World) (j : Nat) (v : Value), (u.setCell ⟨N, j, none⟩ v).heap[b]? = u.heap[b]? := fun u j v => Below.heap_setCell _ _ _ _ (by simpa using h)
  simp only [k]

set_option maxRecDepth 100000 in
set_option maxHeartbeats 4000000 in
theorem num_rep (A A2 : Option Addr) (c2 : Nat) (base B ne : Nat) (E : List Edg) (sts : List Int) (F : Nat → Prop) (w : World) (ht : TreesAt w F A [evN 38 A2 c2]) (hc : CSt w base B ne E sts F) (hn : ne ≤ 1000) :
    Calls Tryz.prog 36 #[.pointer (some ⟨B, 0, none⟩), .agg #[.int .i64 47, .int .i64 0, .string ByteArray.empty, .string ByteArray.empty, .int .i64 1, .int .i64 2, .int .i64 0, .int .i64 3, .slice A 1 1]] w (NumR A 1 A2 c2 base B ne E sts F w) := by
  have HCR := hide hc
  have HT := hide ht
  clear hc ht
  go_enter Tryz.func36, Tryz.ntmps36
  go_upto_region 2 with (fail)
  obtain ⟨W0, hW0⟩ : ∃ W0, ((w.alloc (.cells #[.int .i64 47, .int .i64 0, .string ByteArray.empty, .string ByteArray.empty, .int .i64 1, .int .i64 2, .int .i64 0, .int .i64 3, .slice A 1 1] 24)).alloc (.cells #[.int .i64 0, .int .i64 0, .string { data := #[] }, .string { data := #[] }, .int .i64 0, .int .i64 0, .int .i64 0, .int .i64 0, .slice none 0 0, .int .i64 0, .int .i64 0, .slice none 0 0] 65)).alloc (.cells #[.int .i64 47, .int .i64 0, .string ByteArray.empty, .string ByteArray.empty, .int .i64 1, .int .i64 2, .int .i64 0, .int .i64 3, .slice A 1 1, .int .i64 0, .int .i64 (-1), .slice none 0 0] 65) = W0 := ⟨_, rfl⟩
  rw [hW0]
  obtain ⟨p0, p1, p2, hbW, hsW⟩ := chain3 _ _ _ _ hW0
  have hltw := HCR.out.lt
  have HT0 := hide (HT.out.stay (w' := W0) (fun b hb => hbW.block b (hltw.1 b hb)))
  obtain ⟨bk, ok, rfl, hbk, hcc⟩ := HT0.out.row.at_ (k := 0) (by simp)
  obtain ⟨q0, q1, q2, q3, q4, q5, q6, q7, q8⟩ := nine hcc
  simp only [Nat.zero_mul, Nat.add_zero] at q0 q1 q2 q3 q4 q5 q6 q7 q8
  replace q8 : _ = some (Value.slice A2 1 c2) := q8
  obtain ⟨W1, hW1⟩ : ∃ W1, W0.alloc (.cells #[.int .i64 38, .int .i64 0, .string ByteArray.empty, .string ByteArray.empty, .int .i64 0, .int .i64 0, .int .i64 0, .int .i64 0, .slice A2 1 c2] 24) = W1 := ⟨_, rfl⟩
  have g1 := new_at hW1
  have hb1 : Below W0.heap.size W0 W1 := by rw [← hW1]; exact (Below.refl _ _).alloc (Nat.le_refl _) _
  have hs1 : W1.heap.size = w.heap.size + 1 + 1 + 1 + 1 := by rw [← hW1]; simp [hsW]
  have hbw : Below w.heap.size w W1 := bstep hbW hb1
  have HC1 := hide ((HCR.out.new (F' := fun b => F b ∨ (w.heap.size ≤ b ∧ b < w.heap.size + 1 + 1 + 1 + 1)) hbw (fun b hb => hb.imp_right fun h => by omega)).drew)
  have HNE := hide (num_ev 38 A2 c2 (.inr rfl) base B ne E sts _ W1.drew HC1.out hn)
  have HKP1 := hide (show Kp F w W1.drew from (Kp.of hbw fun b hb => hltw.1 b hb).drew)
  have HP0 := hide ((hb1.block _ (box_lt p0)).trans p0)
  have HP1 := hide ((hb1.block _ (box_lt p1)).trans p1)
  have HP2 := hide ((hb1.block _ (box_lt p2)).trans p2)
  have HW1 := hide hW1
  obtain ⟨y0, y1, y2, y3, y4, y5, y6, y7, y8⟩ := box9 p0
  clear hW0 hltw hcc hbk hW1 hbw hb1 p0 p1 p2 hbW hsW
  have HS1 := hide hs1
  clear hs1
  go_wp2_with fail
  refine wp_loop_rounds 2 ?_
  rw [rounds_succ]
  go_upto_region 15 with (fail)
  rw [HW1.out]
  clear y0 y1 y2 y3 y4 y5 y6 y7 y8 q0 q1 q2 q3 q4 q5 q6 q7 q8
  obtain ⟨k0, k1, k2, k3, k4, k5, k6, k7, k8⟩ := box9 g1
  obtain ⟨-, -, -, -, -, -, -, -, -, -, -, x11⟩ := box12 HP2.out
  clear g1 HT HT0
  go_region_law
    (first
      | (refine step_app_eq rfl (.tmp 57) (.tmp 61) rfl rfl rfl hap2 ?_)
      | (go_simp
         go_at_call 36
         refine HNE.out.mono ?_
         rintro e w2 ⟨he, hc2, hk2⟩
         unfold cNumEv at he
         subst he
         have HC2 := hide hc2
         have HK2 := hide hk2
         have hz2 : w.heap.size + 1 + 1 + 1 + 1 ≤ w2.heap.size := by have h := hk2.size; have h1 := HS1.out; have h2 : W1.drew.heap.size = W1.heap.size := rfl; omega
         have hq2 := (hk2.block (w.heap.size + 1 + 1) (Or.inr (by omega))).trans HP2.out
         obtain ⟨g, c', W3, hap, hrow, hgr, hpl, hgk⟩ := kid_app (w2 := w2) (kb := w2.heap.size) (World.ownsRow_nil _ _ _ 12) (cNumEv 38 A2 c2 ne) rfl (by simp [cNumEv, Value.oneCell']) (Nat.le_refl _) (by omega)
         have hap2 : (Builtin.append_ #[63, 63] 63 #[.slice none 0 0, .slice (some ⟨w2.heap.size, 0, none⟩) 1 1]).run Tryz.prog (w2.alloc (.cells #[.int .i64 38, .int .i64 0, .string ByteArray.empty, .string ByteArray.empty, .int .i64 0, .int .i64 0, .int .i64 0, .int .i64 0, .slice A2 1 c2, .int .i64 (ne : Int), .int .i64 (-1), .slice none 0 0] 65)) = .ok (.slice (some ⟨g, 0, none⟩) 1 c') W3 := hap
         have hb3 : ∀ b, b < w2.heap.size → W3.heap[b]? = w2.heap[b]? := fun b hb => (hgr.block b (by simp; omega) (fun e => by cases e)).trans (Below.heap_alloc _ _ _ hb)
         have hq3 := (hb3 (w.heap.size + 1 + 1) (by omega)).trans hq2
         obtain ⟨-, -, -, -, -, -, -, -, -, -, -, x11b⟩ := box12 hq2
         obtain ⟨-, -, -, -, -, -, -, -, -, -, -, x11c⟩ := box12 hq3
         have f11 := box_froz (j := 11) hq3
         have HB3 := hide hb3
         have HQ3 := hide hq3
         have HROW := hide hrow
         have HGR := hide hgr
         have HGK := hide hgk
         have HZ2 := hide hz2
         have hw2n : ¬ w.heap.size + 1 + 1 = w2.heap.size := by omega
         have hw2l : w.heap.size + 1 + 1 < w2.heap.size := by omega
         clear hc2 hk2 hap hrow hgr hgk hb3 hq2 hq3 hz2 hpl)
      | fail)
  all_goals
    go_wp2_with fail
    obtain ⟨W5, hW5⟩ : ∃ W5, W3.setCell ⟨w.heap.size + 1 + 1, 11, none⟩ (.slice (some ⟨g, 0, none⟩) 1 c') = W5 := ⟨_, rfl⟩
    rw [hW5]
    have h53 : ∀ b, b ≠ w.heap.size + 1 + 1 → W5.heap[b]? = W3.heap[b]? := fun b hb => by rw [← hW5]; exact Below.heap_setCell _ _ _ _ (by simpa using hb)
    have h5s : W5.heap.size = W3.heap.size := by rw [← hW5]; simp
    have hbx := set_cells (k := 11) (v := .slice (some ⟨g, 0, none⟩) 1 c') HQ3.out
    rw [hW5] at hbx
    simp only [List.setIfInBounds_toArray, List.set] at hbx
    have hz2 := HZ2.out
    have hgk := HGK.out
    have h52 : ∀ b, b < w2.heap.size → b ≠ w.heap.size + 1 + 1 → W5.heap[b]? = w2.heap[b]? := fun b h1 h2 => (h53 b h2).trans (HB3.out b h1)
    have HX0 := hide ((h52 w.heap.size (by omega) (by omega)).trans ((HK2.out.block w.heap.size (Or.inr (by omega))).trans HP0.out))
    have HX1 := hide ((h52 (w.heap.size + 1) (by omega) (by omega)).trans ((HK2.out.block (w.heap.size + 1) (Or.inr (by omega))).trans HP1.out))
    have HX2 := hide hbx
    have HROW5 := hide (own_block HROW.out fun b hb => h53 b (fun e => by rw [ob_some] at hb; injection hb with hb; omega))
    have hgz : w2.heap.size ≤ W3.heap.size := by have := HGR.out.size; simp at this; omega
    have HC5 := hide (HC2.out.step (w' := W5) (F' := fun b => (F b ∨ b = g) ∨ (w.heap.size ≤ b ∧ b < w.heap.size + 1 + 1 + 1)) (by omega) (fun b h1 h2 => h52 b h1 (fun e => h2 (Or.inr (by omega)))) (fun b hb => by
      rcases hb with (hb | rfl) | hb
      · exact Or.inl (Or.inl hb)
      · exact Or.inr (by omega)
      · exact Or.inl (Or.inr (by omega))))
    have HGZ := hide (show w2.heap.size ≤ g ∧ g < W3.heap.size ∧ w.heap.size + 1 + 1 + 1 + 1 ≤ w2.heap.size from ⟨hgk.1, hgk.2, hz2⟩)
    have HK5 := hide (show Kp F w W5 from by
      have h1 := (HKP1.out.trans (HK2.out.sub (F' := F) fun b hb => Or.inl hb))
      have h2 : Kp F w2 W3 := Kp.grown HGR.out fun b hb => ⟨by have := HC2.out.lt.1 b (Or.inl hb); exact this, fun e => by cases e⟩
      rw [← hW5]
      exact (h1.trans h2).set (fun h => by have := HCR.out.lt.1 _ h; omega) _)
    clear hap2 hW5 h53 hbx h52 x11b x11c f11 hw2n hw2l HB3 HROW HGR HQ3 HZ2
    have HNF := hide (show ¬ F (w.heap.size + 1) from fun h => by have := HCR.out.lt.1 _ h; omega)
    have hm1 : w.heap.size ≤ w.heap.size + 1 ∧ w.heap.size + 1 < w.heap.size + 1 + 1 + 1 := by omega
    obtain ⟨-, -, -, -, -, -, -, -, y8⟩ := box9 HX0.out
    obtain ⟨x0, x1, x2, x3, x4, x5, x6, x7, x8, x9, x10, x11⟩ := box12 HX2.out
    obtain ⟨q0, q1, q2, q3, q4, q5, q6, q7, q8, q9, q10, q11⟩ := box12 HX1.out
    have zf : ∀ j, W5.frozen? ⟨w.heap.size + 1, j, none⟩ = false := fun j => box_froz HX1.out
    have z0 := zf 0
    have z1 := zf 1
    have z2 := zf 2
    have z3 := zf 3
    have z4 := zf 4
    have z5 := zf 5
    have z6 := zf 6
    have z7 := zf 7
    have z8 := zf 8
    have z9 := zf 9
    have z10 := zf 10
    have z11 := zf 11
    clear zf hz2 hgk h5s
    rw [rounds_succ]
    go_wp2_with fail
    refine wp_loop_rounds 1 ?_
    rw [rounds_succ]
    go_wp2_with fail
    refine name_body fun wf hwf => ?_
    have hbf := twelve_box HX1.out (.int .i64 47) (.int .i64 0) (.string ByteArray.empty) (.string ByteArray.empty) (.int .i64 1) (.int .i64 2) (.int .i64 0) (.int .i64 3) (.slice (some ⟨bk, ok, none⟩) 1 1) (.int .i64 0) (.int .i64 (-1)) (.slice (some ⟨g, 0, none⟩) 1 c')
    rw [hwf] at hbf
    obtain ⟨x0, x1, x2, x3, x4, x5, x6, x7, x8, x9, x10, x11⟩ := box12 hbf
    have HWF := hide hwf
    clear hwf hbf q0 q1 q2 q3 q4 q5 q6 q7 q8 q9 q10 q11 z0 z1 z2 z3 z4 z5 z6 z7 z8 z9 z10 z11
    refine bodyPost_ret (v := .agg (cNumRep (some ⟨bk, ok, none⟩) 1 g c').toArray) (by simp [results, Tryz.results36, go_sem, x0, x1, x2, x3, x4, x5, x6, x7, x8, x9, x10, x11, cNumRep]) rfl ?_
    rw [← HWF.out]
    refine ⟨g, c', rfl, ?_, ?_, ?_⟩
    · have h1 := own_lower HROW5.out (base' := w.heap.size) (by have := HGZ.out.2.2; omega)
      refine own_block h1 fun b hb => ?_
      have hb2 : b = g := by rw [ob_some] at hb; injection hb with hb; exact hb.symm
      exact set12_block () (by have := HGZ.out; omega)
    · exact ((((((((((((HC5.out.set (N := w.heap.size + 1) (Or.inr hm1) _).set (Or.inr hm1) _).set (Or.inr hm1) _).set (Or.inr hm1) _).set (Or.inr hm1) _).set (Or.inr hm1) _).set (Or.inr hm1) _).set (Or.inr hm1) _).set (Or.inr hm1) _).set (Or.inr hm1) _).set (Or.inr hm1) _).set (Or.inr hm1) _).sub fun b h => Or.inl h
    · exact (((((((((((HK5.out.set HNF.out _).set HNF.out _).set HNF.out _).set HNF.out _).set HNF.out _).set HNF.out _).set HNF.out _).set HNF.out _).set HNF.out _).set HNF.out _).set HNF.out _).set HNF.out _

end Go.Proofs.YtgobkbjkndfliaaGreatDoor
