/-
  Several texts in one: CNumT. Each says at its head what it holds.
-/
import Derived.Test.YtgobkbjkndfliaaGreatDoorAP25
import Derived.Deep.CutBlock

/-
  compiler.number at the pattern of the law's example.
-/
namespace Go.Proofs.YtgobkbjkndfliaaGreatDoor
open Go.RowKit

def cNumThen (A : Option Addr) (g c' : Nat) : List Value := [.int .i64 45, .int .i64 0, .string ByteArray.empty, .string ByteArray.empty, .int .i64 1, .int .i64 5, .int .i64 0, .int .i64 0, .slice A 2 2, .int .i64 0, .int .i64 (-1), .slice (some ⟨g, 0, none⟩) 2 c']
/-- what number answers at the pattern -/
def NumT (A A1 A3 A2 : Option Addr) (c1 c2 : Nat) (base B ne : Nat) (E : List Edg) (sts : List Int) (F : Nat → Prop) (w : World) (e : Ending) (w' : World) : Prop :=
  ∃ g c' g2 c2', e = .returned (.agg (cNumThen A g c').toArray) ∧ w'.ownsRow w.heap.size 65 12 (.slice (some ⟨g, 0, none⟩) 2 c') 2 (cNumEv 37 A1 c1 ne ++ cNumRep A3 1 g2 c2') ∧ w'.ownsRow w.heap.size 65 12 (.slice (some ⟨g2, 0, none⟩) 1 c2') 1 (cNumEv 38 A2 c2 (ne + 1)) ∧
    CSt w' base B (ne + 2) E sts (fun b => F b ∨ b = g ∨ b = g2) ∧ Kp F w w'

set_option maxRecDepth 100000 in
set_option maxHeartbeats 8000000 in
theorem num_then (A A1 A2 A3 : Option Addr) (c1 c2 : Nat) (base B ne : Nat) (E : List Edg) (sts : List Int) (F : Nat → Prop) (w : World) (ht : TreesAt w F A [evN 37 A1 c1, repN A3 1 A2 c2]) (hc : CSt w base B ne E sts F) (hn : ne ≤ 900) :
    Calls Tryz.prog 36 #[.pointer (some ⟨B, 0, none⟩), .agg #[.int .i64 45, .int .i64 0, .string ByteArray.empty, .string ByteArray.empty, .int .i64 1, .int .i64 5, .int .i64 0, .int .i64 0, .slice A 2 2]] w (NumT A A1 A3 A2 c1 c2 base B ne E sts F w) := by
  have HCR := hide hc
  have HT := hide ht
  clear hc ht
  go_enter Tryz.func36, Tryz.ntmps36
  go_upto_region 2 with (fail)
  obtain ⟨W0, hW0⟩ : ∃ W0, ((w.alloc (.cells #[.int .i64 45, .int .i64 0, .string ByteArray.empty, .string ByteArray.empty, .int .i64 1, .int .i64 5, .int .i64 0, .int .i64 0, .slice A 2 2] 24)).alloc (.cells #[.int .i64 0, .int .i64 0, .string { data := #[] }, .string { data := #[] }, .int .i64 0, .int .i64 0, .int .i64 0, .int .i64 0, .slice none 0 0, .int .i64 0, .int .i64 0, .slice none 0 0] 65)).alloc (.cells #[.int .i64 45, .int .i64 0, .string ByteArray.empty, .string ByteArray.empty, .int .i64 1, .int .i64 5, .int .i64 0, .int .i64 0, .slice A 2 2, .int .i64 0, .int .i64 (-1), .slice none 0 0] 65) = W0 := ⟨_, rfl⟩
  rw [hW0]
  obtain ⟨p0, p1, p2, hbW, hsW⟩ := chain3 _ _ _ _ hW0
  have hltw := HCR.out.lt
  have HT0 := hide (HT.out.stay (w' := W0) (fun b hb => hbW.block b (hltw.1 b hb)))
  obtain ⟨bk, ok, rfl, hbk, hcc⟩ := HT0.out.row.at_ (k := 0) (by simp)
  have HBK := hide hbk
  obtain ⟨q0, q1, q2, q3, q4, q5, q6, q7, q8⟩ := nine hcc
  simp only [Nat.zero_mul, Nat.add_zero] at q0 q1 q2 q3 q4 q5 q6 q7 q8
  replace q8 : _ = some (Value.slice A1 1 c1) := q8
  obtain ⟨W1, hW1⟩ : ∃ W1, W0.alloc (.cells #[.int .i64 37, .int .i64 0, .string ByteArray.empty, .string ByteArray.empty, .int .i64 0, .int .i64 0, .int .i64 0, .int .i64 0, .slice A1 1 c1] 24) = W1 := ⟨_, rfl⟩
  have g1 := new_at hW1
  have hb1 : Below W0.heap.size W0 W1 := by rw [← hW1]; exact (Below.refl _ _).alloc (Nat.le_refl _) _
  have hs1 : W1.heap.size = w.heap.size + 1 + 1 + 1 + 1 := by rw [← hW1]; simp [hsW]
  have hbw : Below w.heap.size w W1 := bstep hbW hb1
  have HC1 := hide ((HCR.out.new (F' := fun b => F b ∨ (w.heap.size ≤ b ∧ b < w.heap.size + 1 + 1 + 1 + 1)) hbw (fun b hb => hb.imp_right fun h => by omega)).drew)
  have HNE := hide (num_ev 37 A1 c1 (.inl rfl) base B ne E sts _ W1.drew HC1.out (by omega))
  have HKP1 := hide (show Kp F w W1.drew from (Kp.of hbw fun b hb => hltw.1 b hb).drew)
  have HP0 := hide ((hb1.block _ (box_lt p0)).trans p0)
  have HP1 := hide ((hb1.block _ (box_lt p1)).trans p1)
  have HP2 := hide ((hb1.block _ (box_lt p2)).trans p2)
  have HW1 := hide hW1
  obtain ⟨y0, y1, y2, y3, y4, y5, y6, y7, y8⟩ := box9 p0
  clear hW0 hltw hcc hbk hW1 hbw hb1 p0 p1 p2 hbW hsW
  have HS1 := hide hs1
  clear hs1
  go_wp2_with fail
  refine wp_loop_rounds 3 ?_
  rw [rounds_succ]
  go_upto_block 2 with (fail)
  go_cut [53] (fun _ wx => ∃ g c', wx.heap[w.heap.size]? = some (.cells #[.int .i64 45, .int .i64 0, .string ByteArray.empty, .string ByteArray.empty, .int .i64 1, .int .i64 5, .int .i64 0, .int .i64 0, .slice (some ⟨bk, ok, none⟩) 2 2] 24 (0, 0)) ∧ wx.heap[w.heap.size + 1]? = some (.cells #[.int .i64 0, .int .i64 0, .string { data := #[] }, .string { data := #[] }, .int .i64 0, .int .i64 0, .int .i64 0, .int .i64 0, .slice none 0 0, .int .i64 0, .int .i64 0, .slice none 0 0] 65 (0, 0)) ∧ wx.heap[w.heap.size + 1 + 1]? = some (.cells #[.int .i64 45, .int .i64 0, .string ByteArray.empty, .string ByteArray.empty, .int .i64 1, .int .i64 5, .int .i64 0, .int .i64 0, .slice (some ⟨bk, ok, none⟩) 2 2, .int .i64 0, .int .i64 (-1), .slice (some ⟨g, 0, none⟩) 1 c'] 65 (0, 0)) ∧ wx.ownsRow (w.heap.size + 1 + 1 + 1 + 1) 65 12 (.slice (some ⟨g, 0, none⟩) 1 c') 1 (cNumEv 37 A1 c1 ne) ∧ CSt wx base B (ne + 1) E sts (fun b => (F b ∨ b = g) ∨ (w.heap.size ≤ b ∧ b < w.heap.size + 1 + 1 + 1)) ∧ Kp F w wx ∧ w.heap.size + 1 + 1 + 1 + 1 ≤ g ∧ g < wx.heap.size)
  case first =>
    go_upto_region 15 with (fail)
    rw [HW1.out]
    clear y0 y1 y2 y3 y4 y5 y6 y7 y8 q0 q1 q2 q3 q4 q5 q6 q7 q8
    obtain ⟨k0, k1, k2, k3, k4, k5, k6, k7, k8⟩ := box9 g1
    obtain ⟨-, -, -, -, -, -, -, -, -, -, -, x11⟩ := box12 HP2.out
    clear g1 HT0
    go_region_law
      (first
        | (refine step_app_eq rfl (.tmp 57) (.tmp 61) rfl rfl rfl hap2 ?_)
        | (go_simp
           go_at_call 36
           refine HNE.out.mono ?_
           rintro e w2 ⟨he, hc2, hk2⟩
           unfold cNumEv at he
           subst he
           have HC2 := hide hc2
           have HK2 := hide hk2
           have hz2 : w.heap.size + 1 + 1 + 1 + 1 ≤ w2.heap.size := by have h := hk2.size; have h1 := HS1.out; have h2 : W1.drew.heap.size = W1.heap.size := rfl; omega
           have hq2 := (hk2.block (w.heap.size + 1 + 1) (Or.inr (by omega))).trans HP2.out
           obtain ⟨g, c', W3, hap, hrow, hgr, hpl, hgk⟩ := kid_app (w2 := w2) (kb := w2.heap.size) (World.ownsRow_nil _ _ _ 12) (cNumEv 37 A1 c1 ne) rfl (by simp [cNumEv, Value.oneCell']) (Nat.le_refl _) (by omega)
           have hap2 : (Builtin.append_ #[63, 63] 63 #[.slice none 0 0, .slice (some ⟨w2.heap.size, 0, none⟩) 1 1]).run Tryz.prog (w2.alloc (.cells #[.int .i64 37, .int .i64 0, .string ByteArray.empty, .string ByteArray.empty, .int .i64 0, .int .i64 0, .int .i64 0, .int .i64 0, .slice A1 1 c1, .int .i64 (ne : Int), .int .i64 (-1), .slice none 0 0] 65)) = .ok (.slice (some ⟨g, 0, none⟩) 1 c') W3 := hap
           have hb3 : ∀ b, b < w2.heap.size → W3.heap[b]? = w2.heap[b]? := fun b hb => (hgr.block b (by simp; omega) (fun e => by cases e)).trans (Below.heap_alloc _ _ _ hb)
           have hq3 := (hb3 (w.heap.size + 1 + 1) (by omega)).trans hq2
           obtain ⟨-, -, -, -, -, -, -, -, -, -, -, x11b⟩ := box12 hq2
           obtain ⟨-, -, -, -, -, -, -, -, -, -, -, x11c⟩ := box12 hq3
           have f11 := box_froz (j := 11) hq3
           have HB3 := hide hb3
           have HQ3 := hide hq3
           have HROW := hide hrow
           have HGR := hide hgr
           have HGK := hide hgk
           have HZ2 := hide hz2
           have hw2n : ¬ w.heap.size + 1 + 1 = w2.heap.size := by omega
           have hw2l : w.heap.size + 1 + 1 < w2.heap.size := by omega
           clear hc2 hk2 hap hrow hgr hgk hb3 hq2 hq3 hz2 hpl)
        | fail)
    all_goals
      go_wp2_with fail
      obtain ⟨W5, hW5⟩ : ∃ W5, W3.setCell ⟨w.heap.size + 1 + 1, 11, none⟩ (.slice (some ⟨g, 0, none⟩) 1 c') = W5 := ⟨_, rfl⟩
      rw [hW5]
      have h53 : ∀ b, b ≠ w.heap.size + 1 + 1 → W5.heap[b]? = W3.heap[b]? := fun b hb => by rw [← hW5]; exact Below.heap_setCell _ _ _ _ (by simpa using hb)
      have h5s : W5.heap.size = W3.heap.size := by rw [← hW5]; simp
      have hbx := set_cells (k := 11) (v := .slice (some ⟨g, 0, none⟩) 1 c') HQ3.out
      rw [hW5] at hbx
      simp only [List.setIfInBounds_toArray, List.set] at hbx
      have hz2 := HZ2.out
      have hgk := HGK.out
      have h52 : ∀ b, b < w2.heap.size → b ≠ w.heap.size + 1 + 1 → W5.heap[b]? = w2.heap[b]? := fun b h1 h2 => (h53 b h2).trans (HB3.out b h1)
      have HX0 := hide ((h52 w.heap.size (by omega) (by omega)).trans ((HK2.out.block w.heap.size (Or.inr (by omega))).trans HP0.out))
      have HX1 := hide ((h52 (w.heap.size + 1) (by omega) (by omega)).trans ((HK2.out.block (w.heap.size + 1) (Or.inr (by omega))).trans HP1.out))
      have HX2 := hide hbx
      have HROW5 := hide (own_block HROW.out fun b hb => h53 b (fun e => by rw [ob_some] at hb; injection hb with hb; omega))
      have hgz : w2.heap.size ≤ W3.heap.size := by have := HGR.out.size; simp at this; omega
      have HC5 := hide (HC2.out.step (w' := W5) (F' := fun b => (F b ∨ b = g) ∨ (w.heap.size ≤ b ∧ b < w.heap.size + 1 + 1 + 1)) (by omega) (fun b h1 h2 => h52 b h1 (fun e => h2 (Or.inr (by omega)))) (fun b hb => by
        rcases hb with (hb | rfl) | hb
        · exact Or.inl (Or.inl hb)
        · exact Or.inr (by omega)
        · exact Or.inl (Or.inr (by omega))))
      have HGZ := hide (show w2.heap.size ≤ g ∧ g < W3.heap.size ∧ w.heap.size + 1 + 1 + 1 + 1 ≤ w2.heap.size from ⟨hgk.1, hgk.2, hz2⟩)
      have HK5 := hide (show Kp F w W5 from by
        have h1 := (HKP1.out.trans (HK2.out.sub (F' := F) fun b hb => Or.inl hb))
        have h2 : Kp F w2 W3 := Kp.grown HGR.out fun b hb => ⟨by have := HC2.out.lt.1 b (Or.inl hb); exact this, fun e => by cases e⟩
        rw [← hW5]
        exact (h1.trans h2).set (fun h => by have := HCR.out.lt.1 _ h; omega) _)
      clear hap2 hW5 h53 hbx h52 x11b x11c f11 hw2n hw2l HB3 HROW HGR HQ3 HZ2
      go_meet
      exact ⟨g, c', HX0.out, HX1.out, HX2.out, own_lower HROW5.out (by have := HGZ.out.2.2; omega), HC5.out, HK5.out, by have := HGZ.out; omega, by have := HGZ.out; omega⟩
  case rest =>
    obtain ⟨g, c', hx0, hx1, hx2, hrow, hc2, hkw, hg1, hg2⟩ := hcut
    have HX0 := hide hx0
    have HX1 := hide hx1
    have HX2 := hide hx2
    have HROW := hide hrow
    have HC2 := hide hc2
    have HKW := hide hkw
    have HG1 := hide (show w.heap.size + 1 + 1 + 1 + 1 ≤ g ∧ g < wc.heap.size from ⟨hg1, hg2⟩)
    clear hx0 hx1 hx2 hrow hc2 hkw hg1 hg2 q0 q1 q2 q3 q4 q5 q6 q7 q8 y0 y1 y2 y3 y4 y5 y6 y7 y8 g1 HC1 HNE HKP1 HP0 HP1 HP2 HW1 HS1 HT0
    have HT1 := hide (HT.out.stay (w' := wc) (fun b hb => HKW.out.block b hb))
    obtain ⟨_, _, e, _, hd⟩ := HT1.out.row.at_ (k := 1) (by simp)
    injection e with e
    injection e with e1 e2
    subst e1 e2
    obtain ⟨r0, r1, r2, r3, r4, r5, r6, r7, r8⟩ := nine hd
    clear hd
    simp only [Nat.one_mul] at r0 r1 r2 r3 r4 r5 r6 r7 r8
    replace r8 : _ = some (Value.slice A3 1 1) := r8
    have HIN := hide (show w.heap.size + 1 + 1 < wc.heap.size from box_lt HX2.out)
    go_wp2_with fail
    rw [rounds_succ]
    go_upto_block 2 with (fail)
    go_cut [53] (fun _ wx => ∃ g3 c3 g2 d2, wx.heap[w.heap.size]? = some (.cells #[.int .i64 45, .int .i64 0, .string ByteArray.empty, .string ByteArray.empty, .int .i64 1, .int .i64 5, .int .i64 0, .int .i64 0, .slice (some ⟨bk, ok, none⟩) 2 2] 24 (0, 0)) ∧ wx.heap[w.heap.size + 1]? = some (.cells #[.int .i64 0, .int .i64 0, .string { data := #[] }, .string { data := #[] }, .int .i64 0, .int .i64 0, .int .i64 0, .int .i64 0, .slice none 0 0, .int .i64 0, .int .i64 0, .slice none 0 0] 65 (0, 0)) ∧ wx.heap[w.heap.size + 1 + 1]? = some (.cells #[.int .i64 45, .int .i64 0, .string ByteArray.empty, .string ByteArray.empty, .int .i64 1, .int .i64 5, .int .i64 0, .int .i64 0, .slice (some ⟨bk, ok, none⟩) 2 2, .int .i64 0, .int .i64 (-1), .slice (some ⟨g3, 0, none⟩) 2 c3] 65 (0, 0)) ∧ wx.ownsRow (w.heap.size + 1 + 1 + 1 + 1) 65 12 (.slice (some ⟨g3, 0, none⟩) 2 c3) 2 (cNumEv 37 A1 c1 ne ++ cNumRep A3 1 g2 d2) ∧ wx.ownsRow (w.heap.size + 1 + 1 + 1 + 1) 65 12 (.slice (some ⟨g2, 0, none⟩) 1 d2) 1 (cNumEv 38 A2 c2 (ne + 1)) ∧ CSt wx base B (ne + 2) E sts (fun b => (F b ∨ b = g3 ∨ b = g2) ∨ (w.heap.size ≤ b ∧ b < w.heap.size + 1 + 1 + 1)) ∧ Kp F w wx ∧ w.heap.size + 1 + 1 + 1 + 1 ≤ g3 ∧ w.heap.size + 1 + 1 + 1 + 1 ≤ g2)
    case first =>
      go_upto_region 15 with (fail)
      obtain ⟨W1, hW1⟩ : ∃ W1, wc.alloc (.cells #[.int .i64 47, .int .i64 0, .string ByteArray.empty, .string ByteArray.empty, .int .i64 1, .int .i64 2, .int .i64 0, .int .i64 3, .slice A3 1 1] 24) = W1 := ⟨_, rfl⟩
      rw [hW1]
      have g1 := new_at hW1
      have hb1 : Below wc.heap.size wc W1 := by rw [← hW1]; exact (Below.refl _ _).alloc (Nat.le_refl _) _
      have HB1 := hide hb1
      have HC1 := hide ((HC2.out.new (F' := fun b => (F b ∨ b = g) ∨ (w.heap.size ≤ b ∧ b < w.heap.size + 1 + 1 + 1)) hb1 (fun b hb => Or.inl hb)).drew)
      have HNE := hide (num_rep A3 A2 c2 base B (ne + 1) E sts (fun b => (F b ∨ b = g) ∨ (w.heap.size ≤ b ∧ b < w.heap.size + 1 + 1 + 1)) W1.drew (((HT1.out.each (repN A3 1 A2 c2) (by simp)).stay (w' := W1.drew) (fun b hb => hb1.block b (HC2.out.lt.1 b (Or.inl (Or.inl hb))))).more (fun b h => Or.inl (Or.inl h))) HC1.out (by omega))
      have HKP1 := hide (show Kp F w W1.drew from (HKW.out.trans (Kp.of hb1 fun b hb => HC2.out.lt.1 b (Or.inl (Or.inl hb)))).drew)
      have HP0 := hide ((hb1.block _ (box_lt HX0.out)).trans HX0.out)
      have HP1 := hide ((hb1.block _ (box_lt HX1.out)).trans HX1.out)
      have HP2 := hide ((hb1.block _ (box_lt HX2.out)).trans HX2.out)
      have HROW1 := hide (show W1.drew.ownsRow (w.heap.size + 1 + 1 + 1 + 1) 65 12 (.slice (some ⟨g, 0, none⟩) 1 c') 1 (cNumEv 37 A1 c1 ne) from own_block HROW.out fun b hb => hb1.block b (own_ob HROW.out b hb).2)
      have HS1 := hide (show g < W1.heap.size from Nat.lt_of_lt_of_le HG1.out.2 hb1.size)
      clear hb1 hW1 r0 r1 r2 r3 r4 r5 r6 r7 r8
      obtain ⟨k0, k1, k2, k3, k4, k5, k6, k7, k8⟩ := box9 g1
      obtain ⟨-, -, -, -, -, -, -, -, -, -, -, x11⟩ := box12 HP2.out
      clear g1
      go_region_law
        (first
          | (refine step_app_eq rfl (.tmp 57) (.tmp 61) rfl rfl rfl hap2 ?_)
          | (go_simp
             go_at_call 36
             refine HNE.out.mono ?_
             rintro e w2 ⟨g2, d2, he, hrow2, hc2, hk2⟩
             unfold cNumRep at he
             subst he
             have HC3 := hide hc2
             have HK2 := hide hk2
             have hsz2 : W1.heap.size ≤ w2.heap.size := hk2.size
             have hg0 := HG1.out
             have hg2 := HS1.out
             have hog := own_ob hrow2 g2 (ob_some g2)
             have hog1 : W1.heap.size ≤ g2 := hog.1
             have hog2 : g2 < w2.heap.size := hog.2
             have hq2 := (hk2.block (w.heap.size + 1 + 1) (Or.inr (by omega))).trans HP2.out
             have hrowg : w2.ownsRow (w.heap.size + 1 + 1 + 1 + 1) 65 12 (.slice (some ⟨g, 0, none⟩) 1 c') 1 (cNumEv 37 A1 c1 ne) := own_block HROW1.out fun b hb => hk2.block b (Or.inl (Or.inr (by rw [ob_some] at hb; injection hb with hb; exact hb.symm)))
             obtain ⟨g3, c3, W3, hap, hrow3, hgr, hpl, hgk⟩ := kid_app (w2 := w2) (kb := w.heap.size + 1 + 1 + 1 + 1) hrowg (cNumRep A3 1 g2 d2) rfl (by simp [cNumRep, Value.oneCell']) (by omega) (by omega)
             have hap2 : (Builtin.append_ #[63, 63] 63 #[.slice (some ⟨g, 0, none⟩) 1 c', .slice (some ⟨w2.heap.size, 0, none⟩) 1 1]).run Tryz.prog (w2.alloc (.cells #[.int .i64 47, .int .i64 0, .string ByteArray.empty, .string ByteArray.empty, .int .i64 1, .int .i64 2, .int .i64 0, .int .i64 3, .slice A3 1 1, .int .i64 0, .int .i64 (-1), .slice (some ⟨g2, 0, none⟩) 1 d2] 65)) = .ok (.slice (some ⟨g3, 0, none⟩) 2 c3) W3 := hap
             have hb3 : ∀ b, b < w2.heap.size → b ≠ g → W3.heap[b]? = w2.heap[b]? := fun b hb hne => (hgr.block b (by simp; omega) (fun e => by rw [ob_some] at e; injection e with e; exact hne e)).trans (Below.heap_alloc _ _ _ hb)
             have hq3 := (hb3 (w.heap.size + 1 + 1) (by omega) (by omega)).trans hq2
             obtain ⟨-, -, -, -, -, -, -, -, -, -, -, x11b⟩ := box12 hq2
             obtain ⟨-, -, -, -, -, -, -, -, -, -, -, x11c⟩ := box12 hq3
             have f11 := box_froz (j := 11) hq3
             have HB3 := hide hb3
             have HQ3 := hide hq3
             have HROW2 := hide hrow2
             have HROW3 := hide hrow3
             have HGR := hide hgr
             have HGK := hide (show (g = g3 ∨ g3 = w2.heap.size + 1) ∧ w.heap.size + 1 + 1 + 1 + 1 ≤ g3 ∧ g3 < W3.heap.size from ⟨hpl.imp_left fun e => by rw [ob_some] at e; injection e, hgk⟩)
             have HZ2 := hide (show W1.heap.size ≤ w2.heap.size ∧ W1.heap.size ≤ g2 ∧ g2 < w2.heap.size from ⟨hsz2, hog1, hog2⟩)
             have hw2n : ¬ w.heap.size + 1 + 1 = w2.heap.size := by omega
             have hw2l : w.heap.size + 1 + 1 < w2.heap.size := by omega
             clear hc2 hk2 hap hrow2 hrow3 hrowg hgr hgk hb3 hq2 hq3 hsz2 hpl hg0 hg2 hog hog1 hog2)
          | fail)
      all_goals
        go_wp2_with fail
        obtain ⟨W5, hW5⟩ : ∃ W5, W3.setCell ⟨w.heap.size + 1 + 1, 11, none⟩ (.slice (some ⟨g3, 0, none⟩) 2 c3) = W5 := ⟨_, rfl⟩
        rw [hW5]
        have h53 : ∀ b, b ≠ w.heap.size + 1 + 1 → W5.heap[b]? = W3.heap[b]? := fun b hb => by rw [← hW5]; exact Below.heap_setCell _ _ _ _ (by simpa using hb)
        have h5s : W5.heap.size = W3.heap.size := by rw [← hW5]; simp
        have hbx := set_cells (k := 11) (v := .slice (some ⟨g3, 0, none⟩) 2 c3) HQ3.out
        rw [hW5] at hbx
        simp only [List.setIfInBounds_toArray, List.set] at hbx
        obtain ⟨hz1, hz2, hz3⟩ := HZ2.out
        obtain ⟨hgk0, hgk1, hgk2⟩ := HGK.out
        have hg0 := HG1.out
        have hs1 := HS1.out
        have h52 : ∀ b, b < w2.heap.size → b ≠ w.heap.size + 1 + 1 → b ≠ g → W5.heap[b]? = w2.heap[b]? := fun b h1 h2 h3 => (h53 b h2).trans (HB3.out b h1 h3)
        have hin := HIN.out
        have hx0 := (h52 w.heap.size (by omega) (by omega) (by omega)).trans ((HK2.out.block w.heap.size (Or.inr (by omega))).trans HP0.out)
        have hx1 := (h52 (w.heap.size + 1) (by omega) (by omega) (by omega)).trans ((HK2.out.block (w.heap.size + 1) (Or.inr (by omega))).trans HP1.out)
        have hrow5 := own_block HROW3.out (w' := W5) fun b hb => h53 b (fun e => by rw [ob_some] at hb; injection hb with hb; omega)
        have hrow6 := own_block HROW2.out (w' := W5) fun b hb => h52 b (by rw [ob_some] at hb; injection hb with hb; omega) (fun e => by rw [ob_some] at hb; injection hb with hb; omega) (fun e => by rw [ob_some] at hb; injection hb with hb; omega)
        have hgz : w2.heap.size ≤ W3.heap.size := by have := HGR.out.size; simp at this; omega
        have hc5 := HC3.out.step (w' := W5) (F' := fun b => (F b ∨ b = g3 ∨ b = g2) ∨ (w.heap.size ≤ b ∧ b < w.heap.size + 1 + 1 + 1)) (by omega) (fun b h1 h2 => h52 b h1 (fun e => h2 (Or.inl (Or.inr (by omega)))) (fun e => h2 (Or.inl (Or.inl (Or.inr e))))) (fun b hb => by
          rcases hb with (hb | rfl | rfl) | hb
          · exact Or.inl (Or.inl (Or.inl (Or.inl hb)))
          · rcases hgk0 with e | e
            · exact Or.inl (Or.inl (Or.inl (Or.inr e.symm)))
            · exact Or.inr (by omega)
          · exact Or.inl (Or.inr rfl)
          · exact Or.inl (Or.inl (Or.inr hb)))
        have hk5 : Kp F w W5 := by
          have h1 := (HKP1.out.trans (HK2.out.sub (F' := F) fun b hb => Or.inl (Or.inl hb)))
          have h2 : Kp F w2 W3 := Kp.grown HGR.out fun b hb => ⟨by have := HC3.out.lt.1 b (Or.inl (Or.inl (Or.inl hb))); exact this, fun e => by rw [ob_some] at e; injection e with e; have := HCR.out.lt.1 b hb; omega⟩
          rw [← hW5]
          exact (h1.trans h2).set (fun h => by have := HCR.out.lt.1 _ h; omega) _
        go_meet
        exact ⟨g3, c3, g2, d2, hx0, hx1, hbx, hrow5, own_lower hrow6 (by show w.heap.size + 1 + 1 + 1 + 1 ≤ W1.heap.size; omega), hc5, hk5, by omega, by omega⟩
    case rest =>
      obtain ⟨g3, c3, g2, d2, hx0, hx1, hx2, hrow3, hrow2, hc3, hkw, hg3, hg2⟩ := hcut
      clear HX0 HX1 HX2 HROW HC2 HKW HT1 HG1 HIN r0 r1 r2 r3 r4 r5 r6 r7 r8
      have HX0 := hide hx0
      have HX1 := hide hx1
      have HX2 := hide hx2
      have HROW3 := hide hrow3
      have HROW2 := hide hrow2
      have HC5 := hide hc3
      have HK5 := hide hkw
      have HGZ := hide (show w.heap.size + 1 + 1 + 1 + 1 ≤ g3 ∧ w.heap.size + 1 + 1 + 1 + 1 ≤ g2 from ⟨hg3, hg2⟩)
      have HNF := hide (show ¬ F (w.heap.size + 1) from fun h => by have := HCR.out.lt.1 _ h; omega)
      have hm1 : w.heap.size ≤ w.heap.size + 1 ∧ w.heap.size + 1 < w.heap.size + 1 + 1 + 1 := by omega
      obtain ⟨-, -, -, -, -, -, -, -, y8⟩ := box9 hx0
      obtain ⟨x0, x1, x2, x3, x4, x5, x6, x7, x8, x9, x10, x11⟩ := box12 hx2
      obtain ⟨q0, q1, q2, q3, q4, q5, q6, q7, q8, q9, q10, q11⟩ := box12 hx1
      have zf : ∀ j, wc.frozen? ⟨w.heap.size + 1, j, none⟩ = false := fun j => box_froz HX1.out
      have z0 := zf 0
      have z1 := zf 1
      have z2 := zf 2
      have z3 := zf 3
      have z4 := zf 4
      have z5 := zf 5
      have z6 := zf 6
      have z7 := zf 7
      have z8 := zf 8
      have z9 := zf 9
      have z10 := zf 10
      have z11 := zf 11
      clear zf hx0 hx1 hx2 hrow3 hrow2 hc3 hkw hg3 hg2
      go_wp2_with fail
      rw [rounds_succ]
      go_wp2_with fail
      refine wp_loop_rounds 1 ?_
      rw [rounds_succ]
      go_wp2_with fail
      refine name_body fun wf hwf => ?_
      have hbf := twelve_box HX1.out (.int .i64 45) (.int .i64 0) (.string ByteArray.empty) (.string ByteArray.empty) (.int .i64 1) (.int .i64 5) (.int .i64 0) (.int .i64 0) (.slice (some ⟨bk, ok, none⟩) 2 2) (.int .i64 0) (.int .i64 (-1)) (.slice (some ⟨g3, 0, none⟩) 2 c3)
      rw [hwf] at hbf
      obtain ⟨x0, x1, x2, x3, x4, x5, x6, x7, x8, x9, x10, x11⟩ := box12 hbf
      have HWF := hide hwf
      clear hwf hbf q0 q1 q2 q3 q4 q5 q6 q7 q8 q9 q10 q11 z0 z1 z2 z3 z4 z5 z6 z7 z8 z9 z10 z11
      refine bodyPost_ret (v := .agg (cNumThen (some ⟨bk, ok, none⟩) g3 c3).toArray) (by simp [results, Tryz.results36, go_sem, x0, x1, x2, x3, x4, x5, x6, x7, x8, x9, x10, x11, cNumThen]) rfl ?_
      rw [← HWF.out]
      refine ⟨g3, c3, g2, d2, rfl, ?_, ?_, ?_, ?_⟩
      · refine own_block (own_lower HROW3.out (by omega)) fun b hb => ?_
        have hb2 : b = g3 := by rw [ob_some] at hb; injection hb with hb; exact hb.symm
        exact set12_block () (by have := HGZ.out; omega)
      · refine own_block (own_lower HROW2.out (by omega)) fun b hb => ?_
        have hb2 : b = g2 := by rw [ob_some] at hb; injection hb with hb; exact hb.symm
        exact set12_block () (by have := HGZ.out; omega)
      · exact ((((((((((((HC5.out.set (N := w.heap.size + 1) (Or.inr hm1) _).set (Or.inr hm1) _).set (Or.inr hm1) _).set (Or.inr hm1) _).set (Or.inr hm1) _).set (Or.inr hm1) _).set (Or.inr hm1) _).set (Or.inr hm1) _).set (Or.inr hm1) _).set (Or.inr hm1) _).set (Or.inr hm1) _).set (Or.inr hm1) _).sub fun b h => Or.inl h
      · exact (((((((((((HK5.out.set HNF.out _).set HNF.out _).set HNF.out _).set HNF.out _).set HNF.out _).set HNF.out _).set HNF.out _).set HNF.out _).set HNF.out _).set HNF.out _).set HNF.out _).set HNF.out _

end Go.Proofs.YtgobkbjkndfliaaGreatDoor
