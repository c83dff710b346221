/-
  Several texts in one: CNum, CKid, EvN. Each says at its head what it holds.
-/
import Derived.Test.YtgobkbjkndfliaaGreatDoorAP21
import Derived.Deep.RegionLaw
import Derived.Test.YtgobkbjkndfliaaGreatDoorAP4
import Derived.Deep.DeepCutAuto
import Derived.Deep.QuietTactic
import Derived.BigQuiet
import Derived.IntWalk
import Derived.Handy

/-
  compiler.number at the events of the law's example.
-/
namespace Go.Proofs.YtgobkbjkndfliaaGreatDoor
open Go.RowKit

theorem infoNode : (Tryz.prog.info? 24).map (fun i => (i.zero, i.size, i.bytes)) = some (some (.agg #[.int .i64 0, .int .i64 0, .string ByteArray.empty, .string ByteArray.empty, .int .i64 0, .int .i64 0, .int .i64 0, .int .i64 0, .slice none 0 0]), 9, 104) := by kernel_rfl
/-- what number answers -/
def NumE (cs : List Value) (base B ne : Nat) (E : List Edg) (sts : List Int) (F : Nat → Prop) (w : World) (e : Ending) (w' : World) : Prop := e = .returned (.agg cs.toArray) ∧ CSt w' base B ne E sts F ∧ Kp F w w'
def cNumEv (K : Int) (A : Option Addr) (c ev : Nat) : List Value := [.int .i64 K, .int .i64 0, .string ByteArray.empty, .string ByteArray.empty, .int .i64 0, .int .i64 0, .int .i64 0, .int .i64 0, .slice A 1 c, .int .i64 (ev : Int), .int .i64 (-1), .slice none 0 0]

theorem own_tail {w : World} {base g n cap : Nat} {xs news : List Value} (h : w.ownsRow base 24 9 (.slice (some ⟨g, 0, none⟩) (n + 1) cap) (n + 1) (xs ++ news)) (hl : news.length = 9) (j : Nat) (hj : j < 9) : w.cell? ⟨g, n * 9 + j, none⟩ = news[j]? := by
  have h1 := h.1
  rw [List.length_append] at h1
  have h2 : xs.length = n * 9 := by omega
  rw [h.cellAt _ (by omega), List.getElem?_append_right (by omega), h2]
  congr 1
  omega
theorem box12_ev {w : World} {N : Nat} {a b c d e f g h i j k l : Value} {t : TypeId} (hN : w.heap[N]? = some (.cells #[a, b, c, d, e, f, g, h, i, j, k, l] t (0, 0))) (v : Value) : (w.setCell ⟨N, 9, none⟩ v).heap[N]? = some (.cells #[a, b, c, d, e, f, g, h, i, v, k, l] t (0, 0)) := by
  simp [World.setCell, Array.getElem?_modify, hN]

set_option maxRecDepth 100000 in
set_option maxHeartbeats 2000000 in
theorem num_ev (K : Int) (A : Option Addr) (c : Nat) (hK : K = 37 ∨ K = 38) (base B ne : Nat) (E : List Edg) (sts : List Int) (F : Nat → Prop) (w : World) (hc : CSt w base B ne E sts F) (hn : ne ≤ 1000) :
    Calls Tryz.prog 36 #[.pointer (some ⟨B, 0, none⟩), .agg #[.int .i64 K, .int .i64 0, .string ByteArray.empty, .string ByteArray.empty, .int .i64 0, .int .i64 0, .int .i64 0, .int .i64 0, .slice A 1 c]] w (NumE (cNumEv K A c ne) base B (ne + 1) E sts F w) := by
  obtain ⟨AE, cE, evl, AX, cX, AS, cS, hcr⟩ := hc
  have HCR := hide hcr
  clear hcr
  go_enter Tryz.func36, Tryz.ntmps36
  go_upto_region 2 with (fail)
  obtain ⟨W0, hW0⟩ : ∃ W0, ((w.alloc (.cells #[.int .i64 K, .int .i64 0, .string ByteArray.empty, .string ByteArray.empty, .int .i64 0, .int .i64 0, .int .i64 0, .int .i64 0, .slice A 1 c] 24)).alloc (.cells #[.int .i64 0, .int .i64 0, .string { data := #[] }, .string { data := #[] }, .int .i64 0, .int .i64 0, .int .i64 0, .int .i64 0, .slice none 0 0, .int .i64 0, .int .i64 0, .slice none 0 0] 65)).alloc (.cells #[.int .i64 K, .int .i64 0, .string ByteArray.empty, .string ByteArray.empty, .int .i64 0, .int .i64 0, .int .i64 0, .int .i64 0, .slice A 1 c, .int .i64 0, .int .i64 (-1), .slice none 0 0] 65) = W0 := ⟨_, rfl⟩
  rw [hW0]
  obtain ⟨p0, p1, p2, hbW, hsW⟩ := chain3 _ _ _ _ hW0
  have HC0 := hide (HCR.out.new (F' := fun b => F b ∨ (w.heap.size ≤ b ∧ b < w.heap.size + 1 + 1 + 1)) hbW (fun b hb => hb.imp_right fun h => by omega))
  have HKP0 := hide (show Kp F w W0 from Kp.of hbW fun b hb => (HCR.out.fr b hb).1)
  have hwB : B ≠ w.heap.size + 1 + 1 := by have := HCR.out.lt; omega
  have hwB0 : w.heap.size ≠ w.heap.size + 1 + 1 := by omega
  have hwB1 : w.heap.size + 1 ≠ w.heap.size + 1 + 1 := by omega
  have HP1 := hide p1
  have HP0 := hide p0
  have HP2 := hide p2
  obtain ⟨y0, y1, y2, y3, y4, y5, y6, y7, y8⟩ := box9 p0
  obtain ⟨b0, b1, b2, b3, b4⟩ := box5 HC0.out.box
  obtain ⟨x0, x1, x2, x3, x4, x5, x6, x7, x8, x9, x10, x11⟩ := box12 p2
  have zf : ∀ j, W0.frozen? ⟨w.heap.size + 1 + 1, j, none⟩ = false := fun j => box_froz p2
  have z9 := zf 9
  clear zf hW0 p0 p1 p2 hbW
  have T1 : (K == 45) = false := by rcases hK with rfl | rfl <;> rfl
  have T2 : (K == 47) = false := by rcases hK with rfl | rfl <;> rfl
  have T3 : (K == 46) = false := by rcases hK with rfl | rfl <;> rfl
  clear hK
  go_upto_region 5 with (fail)
  obtain ⟨W1, hW1⟩ : ∃ W1, W0.setCell ⟨w.heap.size + 1 + 1, 9, none⟩ (.int .i64 (ne : Int)) = W1 := ⟨_, rfl⟩
  rw [hW1]
  have HC1 := hide (show CR W1 base B AE ne cE evl AX cX E AS cS sts (fun b => F b ∨ (w.heap.size ≤ b ∧ b < w.heap.size + 1 + 1 + 1)) from by rw [← hW1]; exact HC0.out.set (Or.inr (by omega)) _)
  have HKP1 := hide (show Kp F w W1 from by rw [← hW1]; exact HKP0.out.set (fun h => by have := (HCR.out.fr _ h).1; omega) _)
  have HQ2 := hide (box12_ev HP2.out (.int .i64 (ne : Int)))
  have HQ1 := hide (box_set (v := .int .i64 (ne : Int)) (k := 9) HP1.out hwB1)
  have HQ0 := hide (box_set (v := .int .i64 (ne : Int)) (k := 9) HP0.out hwB0)
  rw [hW1] at HQ2 HQ1 HQ0
  have HSW := hide (show w.heap.size + 1 + 1 + 1 ≤ W1.heap.size from by rw [← hW1]; simp; omega)
  clear hW1 y0 y1 y2 y3 y4 y5 y6 y7 y8 x0 x1 x2 x3 x4 x5 x6 x7 x8 x9 x10 x11 b0 b1 b2 b3 b4 z9 HP0 HP1 HP2 HC0 HKP0 hsW
  obtain ⟨y0, y1, y2, y3, y4, y5, y6, y7, y8⟩ := box9 HQ0.out
  obtain ⟨b0, b1, b2, b3, b4⟩ := box5 HC1.out.box
  obtain ⟨i0, hi0, hz0, hz1, hz2⟩ := info_parts infoNode
  obtain ⟨Wz, hWz⟩ : ∃ Wz, W1.drew.alloc (.cells #[.int .i64 0, .int .i64 0, .string { data := #[] }, .string { data := #[] }, .int .i64 0, .int .i64 0, .int .i64 0, .int .i64 0, .slice none 0 0] 24) = Wz := ⟨_, rfl⟩
  have gz := new_at hWz
  have hbz : Below W1.drew.heap.size W1.drew Wz := by rw [← hWz]; exact (Below.refl _ _).alloc (Nat.le_refl _) _
  have hCz := HC1.out.keep (w' := Wz) hbz.size (hbz.block _ HC1.out.lt) (fun b hb => hbz.block b (HC1.out.row_lt hb).2)
  obtain ⟨A', c', W2, hap, how, hgr, hpl, g, rfl⟩ := app_at 22 Tryz.underlying22 hi0 hz0 hz1 hz2 rfl (by decide) hCz.ev [.int .i64 0, .int .i64 0, .string { data := #[] }, .string { data := #[] }, .int .i64 0, .int .i64 0, .int .i64 0, .int .i64 0, .slice none 0 0] rfl (by simp [Value.oneCell']) (by omega) (by omega) (by have := hCz.bB; have := hCz.lt; omega) ⟨W1.drew.heap.size, 0, none⟩ (fun j u hu => by rw [addr_add, Nat.zero_add, cell_of_row Wz _ j _ _ (0, 0) gz]; simpa using hu)
  rw [← hWz] at hap
  have hap2 : (Builtin.append_ #[22, 22] 22 #[.slice AE ne cE, .slice (some ⟨W1.heap.size, 0, none⟩) 1 1]).run Tryz.prog ((W1.alloc (.cells #[.int .i64 0, .int .i64 0, .string { data := #[] }, .string { data := #[] }, .int .i64 0, .int .i64 0, .int .i64 0, .int .i64 0, .slice none 0 0] 24)).drew) = .ok (.slice (some ⟨g, 0, none⟩) (ne + 1) c') W2 := hap
  clear hap
  have e0 := own_tail how rfl 0 (by omega)
  have e1 := own_tail how rfl 1 (by omega)
  have e2 := own_tail how rfl 2 (by omega)
  have e3 := own_tail how rfl 3 (by omega)
  have e4 := own_tail how rfl 4 (by omega)
  have e5 := own_tail how rfl 5 (by omega)
  have e6 := own_tail how rfl 6 (by omega)
  have e7 := own_tail how rfl 7 (by omega)
  have e8 := own_tail how rfl 8 (by omega)
  simp only [List.getElem?_cons_zero, List.getElem?_cons_succ, Nat.add_zero] at e0 e1 e2 e3 e4 e5 e6 e7 e8
  have hgB : ¬ g = B := fun e => by
    rcases hpl with h | h
    · exact hCz.row_ne (.inl h.symm) e
    · rw [ob_some] at h; injection h with h; have := hCz.lt; omega
  have hBg : ¬ B = g := fun e => hgB e.symm
  have hbox2 := (hgr.block B hCz.lt (fun e => hCz.row_ne (.inl e.symm) rfl)).trans hCz.box
  obtain ⟨d0, -⟩ := box5 hbox2
  have d1 := box_froz (j := 0) hbox2
  have f0 := how.frozenAt (ne * 9)
  have f1 := how.frozenAt (ne * 9 + 1)
  have f2 := how.frozenAt (ne * 9 + 2)
  have f3 := how.frozenAt (ne * 9 + 3)
  have f4 := how.frozenAt (ne * 9 + 4)
  have f5 := how.frozenAt (ne * 9 + 5)
  have f6 := how.frozenAt (ne * 9 + 6)
  have f7 := how.frozenAt (ne * 9 + 7)
  have f8 := how.frozenAt (ne * 9 + 8)
  have hcd : CR W1.drew base B AE ne cE evl AX cX E AS cS sts (fun b => F b ∨ (w.heap.size ≤ b ∧ b < w.heap.size + 1 + 1 + 1)) := HC1.out.keep (Nat.le_refl _) rfl fun _ _ => rfl
  have hgr2 := hgr
  rw [← hWz] at hgr2
  have hpl2 : ob (some ⟨g, 0, none⟩) = ob AE ∨ ob (some ⟨g, 0, none⟩) = some (W1.drew.heap.size + 1) := by
    rw [← hWz] at hpl
    simpa using hpl
  have HEA := hide (hcd.ev_a (k := ne * 9) hgr2 how hpl2 (.int .i64 K) (.int .i64 0) (.string ByteArray.empty) (.string ByteArray.empty) (.int .i64 0) (.int .i64 0) (.int .i64 0) (.int .i64 0) (.slice A 1 c))
  have HEB := hide (hcd.ev_b (k := ne * 9) hgr2 how hpl2 (.int .i64 K) (.int .i64 0) (.string ByteArray.empty) (.string ByteArray.empty) (.int .i64 0) (.int .i64 0) (.int .i64 0) (.int .i64 0) (.slice A 1 c))
  unfold nineSet at HEA HEB
  clear hi0 hz0 hz1 hz2 gz hbz hCz how hgr hpl hbox2 hWz hgr2 hpl2 hcd
  have hw1 : w.heap.size < W1.heap.size := by have := HSW.out; omega
  have hw2 : B < W1.heap.size := HC1.out.lt
  have hne1 : (ne : Int) < (ne : Int) + 1 := by omega
  go_cut [32] (fun _ wx => CSt wx base B (ne + 1) E sts (fun b => F b ∨ (w.heap.size ≤ b ∧ b < w.heap.size + 1 + 1 + 1)) ∧ Kp (fun b => F b ∨ (w.heap.size ≤ b ∧ b < w.heap.size + 1 + 1 + 1)) W1.drew wx)
  case first =>
    go_region_law
      (first
        | (refine step_app_eq rfl (.tmp 28) (.tmp 31) rfl rfl rfl hap2 ?_)
        | fail)
    all_goals go_wp2_with fail
    all_goals go_meet
    all_goals first
      | (with_reducible exact HEA.out)
      | (with_reducible exact HEB.out)
  case rest =>
    obtain ⟨hc3, hk3⟩ := hcut
    clear HEA HEB hap2 e0 e1 e2 e3 e4 e5 e6 e7 e8 f0 f1 f2 f3 f4 f5 f6 f7 f8 d0 d1 b0 b1 b2 b3 b4 y0 y1 y2 y3 y4 y5 y6 y7 y8
    have hm1 : w.heap.size ≤ w.heap.size + 1 ∧ w.heap.size + 1 < w.heap.size + 1 + 1 + 1 := by omega
    have HS1 := hide ((hk3.block (w.heap.size + 1) (Or.inr hm1)).trans HQ1.out)
    have HS2 := hide ((hk3.block (w.heap.size + 1 + 1) (Or.inr (by omega))).trans HQ2.out)
    obtain ⟨x0, x1, x2, x3, x4, x5, x6, x7, x8, x9, x10, x11⟩ := box12 HS2.out
    obtain ⟨q0, q1, q2, q3, q4, q5, q6, q7, q8, q9, q10, q11⟩ := box12 HS1.out
    have zf : ∀ j, wc.frozen? ⟨w.heap.size + 1, j, none⟩ = false := fun j => box_froz HS1.out
    have z0 := zf 0
    have z1 := zf 1
    have z2 := zf 2
    have z3 := zf 3
    have z4 := zf 4
    have z5 := zf 5
    have z6 := zf 6
    have z7 := zf 7
    have z8 := zf 8
    have z9 := zf 9
    have z10 := zf 10
    have z11 := zf 11
    obtain ⟨AE3, cE3, evl3, AX3, cX3, AS3, cS3, hcr3⟩ := hc3
    have HC3 := hide hcr3
    have HK3 := hide (show Kp F W1.drew wc from hk3.sub fun b h => Or.inl h)
    have HKW := hide (show Kp F w wc from HKP1.out.trans ⟨HK3.out.os, HK3.out.tape, HK3.out.output, HK3.out.size, HK3.out.block⟩)
    have HNF := hide (show ¬ F (w.heap.size + 1) from fun h => by have := (HCR.out.fr _ h).1; omega)
    clear zf hk3 hcr3
    go_wp2_with fail
    refine name_body fun wf hwf => ?_
    have hbf := twelve_box HS1.out (.int .i64 K) (.int .i64 0) (.string ByteArray.empty) (.string ByteArray.empty) (.int .i64 0) (.int .i64 0) (.int .i64 0) (.int .i64 0) (.slice A 1 c) (.int .i64 (ne : Int)) (.int .i64 (-1)) (.slice none 0 0)
    rw [hwf] at hbf
    obtain ⟨x0, x1, x2, x3, x4, x5, x6, x7, x8, x9, x10, x11⟩ := box12 hbf
    have HWF := hide hwf
    clear hwf hbf q0 q1 q2 q3 q4 q5 q6 q7 q8 q9 q10 q11 z0 z1 z2 z3 z4 z5 z6 z7 z8 z9 z10 z11
    refine bodyPost_ret (v := .agg (cNumEv K A c ne).toArray) (by simp [results, Tryz.results36, go_sem, x0, x1, x2, x3, x4, x5, x6, x7, x8, x9, x10, x11, cNumEv]) rfl ?_
    rw [← HWF.out]
    refine ⟨rfl, ⟨AE3, cE3, evl3, AX3, cX3, AS3, cS3, ?_⟩, ?_⟩
    · exact ((((((((((((HC3.out.set (N := w.heap.size + 1) (Or.inr hm1) _).set (Or.inr hm1) _).set (Or.inr hm1) _).set (Or.inr hm1) _).set (Or.inr hm1) _).set (Or.inr hm1) _).set (Or.inr hm1) _).set (Or.inr hm1) _).set (Or.inr hm1) _).set (Or.inr hm1) _).set (Or.inr hm1) _).set (Or.inr hm1) _).sub fun b h => Or.inl h
    · exact (((((((((((HKW.out.set HNF.out _).set HNF.out _).set HNF.out _).set HNF.out _).set HNF.out _).set HNF.out _).set HNF.out _).set HNF.out _).set HNF.out _).set HNF.out _).set HNF.out _).set HNF.out _

end Go.Proofs.YtgobkbjkndfliaaGreatDoor

/-
  The compiler in memory: steps that leave its box and rows alone; rows of numbered patterns.
-/
namespace Go.Proofs.YtgobkbjkndfliaaGreatDoor
open Go.RowKit

section
variable {w w' : World} {base B ne cE : Nat} {AE : Option Addr} {evl : List Value} {AX : Option Addr} {cX : Nat} {E : List Edg} {AS : Option Addr} {cS : Nat} {sts : List Int} {F F' : Nat → Prop}
/-- a step that writes blocks of F alone -/
theorem CR.step (h : CR w base B AE ne cE evl AX cX E AS cS sts F) (hs : w.heap.size ≤ w'.heap.size) (hk : ∀ b, b < w.heap.size → ¬ F b → w'.heap[b]? = w.heap[b]?) (hf : ∀ b, F' b → F b ∨ (w.heap.size ≤ b ∧ b < w'.heap.size)) : CR w' base B AE ne cE evl AX cX E AS cS sts F' := by
  have hB : ¬ F B := fun h1 => (h.fr B h1).2.1 rfl
  have hr : ∀ b, ob AE = some b ∨ ob AX = some b ∨ ob AS = some b → ¬ F b := fun b h1 h2 => by
    obtain ⟨_, _, h3, h4, h5⟩ := h.fr b h2
    rcases h1 with h1 | h1 | h1
    · exact h3 h1
    · exact h4 h1
    · exact h5 h1
  have h1 := h.keep hs (hk B h.lt hB) fun b hb => hk b (h.row_lt hb).2 (hr b hb)
  refine ⟨h1.box, h1.ev, h1.ed, h1.st, fun b hb => ?_, h1.bB⟩
  rcases hf b hb with h2 | ⟨h2, h3⟩
  · exact h1.fr b h2
  · have hne : ∀ x, (ob AE = some x ∨ ob AX = some x ∨ ob AS = some x) → x ≠ b := fun x hx e => by have := (h.row_lt hx).2; omega
    exact ⟨h3, fun e => by have := h.lt; omega, fun e => hne b (.inl e) rfl, fun e => hne b (.inr (.inl e)) rfl, fun e => hne b (.inr (.inr e)) rfl⟩
theorem CSt.step {ne : Nat} {E : List Edg} {sts : List Int} (h : CSt w base B ne E sts F) (hs : w.heap.size ≤ w'.heap.size) (hk : ∀ b, b < w.heap.size → ¬ F b → w'.heap[b]? = w.heap[b]?) (hf : ∀ b, F' b → F b ∨ (w.heap.size ≤ b ∧ b < w'.heap.size)) : CSt w' base B ne E sts F' := by
  obtain ⟨AE, cE, evl, AX, cX, AS, cS, h⟩ := h
  exact ⟨AE, cE, evl, AX, cX, AS, cS, h.step hs hk hf⟩
theorem CSt.lt {ne : Nat} {E : List Edg} {sts : List Int} (h : CSt w base B ne E sts F) : (∀ b, F b → b < w.heap.size) ∧ B < w.heap.size := by
  obtain ⟨AE, cE, evl, AX, cX, AS, cS, h⟩ := h
  exact ⟨fun b hb => (h.fr b hb).1, h.lt⟩
theorem CSt.set {ne : Nat} {E : List Edg} {sts : List Int} (h : CSt w base B ne E sts F) {N k : Nat} (hN : F N) (v : Value) : CSt (w.setCell ⟨N, k, none⟩ v) base B ne E sts F := by
  obtain ⟨AE, cE, evl, AX, cX, AS, cS, h⟩ := h
  exact ⟨AE, cE, evl, AX, cX, AS, cS, h.set hN v⟩
theorem CSt.sub {ne : Nat} {E : List Edg} {sts : List Int} (h : CSt w base B ne E sts F) (hf : ∀ b, F' b → F b) : CSt w base B ne E sts F' := by
  obtain ⟨AE, cE, evl, AX, cX, AS, cS, h⟩ := h
  exact ⟨AE, cE, evl, AX, cX, AS, cS, h.sub hf⟩
theorem CSt.new {ne : Nat} {E : List Edg} {sts : List Int} (h : CSt w base B ne E sts F) (hb : Below w.heap.size w w') (hf : ∀ b, F' b → F b ∨ (w.heap.size ≤ b ∧ b < w'.heap.size)) : CSt w' base B ne E sts F' :=
  h.step hb.size (fun i h1 _ => hb.block i h1) hf
theorem CSt.drew {ne : Nat} {E : List Edg} {sts : List Int} (h : CSt w base B ne E sts F) : CSt w.drew base B ne E sts F := h.step (Nat.le_refl _) (fun _ _ _ => rfl) fun _ hb => .inl hb
end
theorem Kp.drew {F : Nat → Prop} {a b : World} (h : Kp F a b) : Kp F a b.drew := ⟨h.os, h.tape, h.output, h.size, h.block⟩
theorem Kp.undrew {F : Nat → Prop} {a b : World} (h : Kp F a.drew b) : Kp F a b := ⟨h.os, h.tape, h.output, h.size, h.block⟩
theorem infoNumd : (Tryz.prog.info? 65).map (fun i => (i.zero, i.size, i.bytes)) = some (some (.agg #[.int .i64 0, .int .i64 0, .string ByteArray.empty, .string ByteArray.empty, .int .i64 0, .int .i64 0, .int .i64 0, .int .i64 0, .slice none 0 0, .int .i64 0, .int .i64 0, .slice none 0 0]), 12, 144) := by kernel_rfl
/-- a numbered pattern behind those that are there -/
theorem kid_app {w2 : World} {kb n c : Nat} {A : Option Addr} {xs : List Value} (hown : w2.ownsRow kb 65 12 (.slice A n c) n xs) (cs : List Value) (hl : cs.length = 12) (h1 : ∀ u ∈ cs, u.oneCell' = true) (hb : kb ≤ w2.heap.size) (hn : n ≤ 1000) :
    ∃ g c' W3, (Builtin.append_ #[63, 63] 63 #[.slice A n c, .slice (some ⟨w2.heap.size, 0, none⟩) 1 1]).run Tryz.prog (w2.alloc (.cells cs.toArray 65)) = .ok (.slice (some ⟨g, 0, none⟩) (n + 1) c') W3 ∧
      W3.ownsRow kb 65 12 (.slice (some ⟨g, 0, none⟩) (n + 1) c') (n + 1) (xs ++ cs) ∧ (w2.alloc (.cells cs.toArray 65)).grownBy W3 (ob A) ∧ (ob A = some g ∨ g = w2.heap.size + 1) ∧ kb ≤ g ∧ g < W3.heap.size := by
  obtain ⟨i0, hi0, hz0, hz1, hz2⟩ := info_parts infoNumd
  obtain ⟨A', c', W3, h2, h3, h4, h5, g, rfl⟩ := app_at 63 Tryz.underlying63 hi0 hz0 hz1 hz2 rfl (by decide) (World.ownsRow.alloc hown (.cells cs.toArray 65)) cs hl h1 (by omega) (by omega) (by simp; omega) ⟨w2.heap.size, 0, none⟩ (fun j u hu => by rw [addr_add, Nat.zero_add, cell_of_row _ _ j _ _ (0, 0) (heap_alloc_new w2 _)]; simpa using hu)
  have h6 := own_ob h3 g (ob_some g)
  refine ⟨g, c', W3, h2, h3, h4, ?_, h6⟩
  rcases h5 with h5 | h5
  · exact .inl (h5.symm.trans (ob_some g))
  · rw [ob_some] at h5
    injection h5 with h5
    simp at h5
    exact .inr h5
/-- the cells of a row of numbered patterns -/
theorem kid_cell {w : World} {kb g n c : Nat} {xs : List Value} (h : w.ownsRow kb 65 12 (.slice (some ⟨g, 0, none⟩) n c) n xs) (j : Nat) (hj : j < n * 12) : w.cell? ⟨g, j, none⟩ = xs[j]? := h.cellAt j hj

end Go.Proofs.YtgobkbjkndfliaaGreatDoor

/-
  The events of the law's example: rise and fall of a signal of one bit. Horizon and event.isEvent at them.
-/
namespace Go.Proofs.YtgobkbjkndfliaaGreatDoor
open Go.RowKit

def sigN : Nd := .mk 1 0 ByteArray.empty ByteArray.empty 0 1 0 0 none 0 []
def evN (K : Int) (A : Option Addr) (c : Nat) : Nd := .mk K 0 ByteArray.empty ByteArray.empty 0 0 0 0 A c [sigN]

set_option maxRecDepth 100000 in
theorem hor_sig (w : World) : Calls Tryz.prog 18 #[.agg #[.int .i64 1, .int .i64 0, .string ByteArray.empty, .string ByteArray.empty, .int .i64 0, .int .i64 1, .int .i64 0, .int .i64 0, .slice none 0 0]] w (RetV (.tuple #[.int .i64 0, .int .i64 0]) w) := by
  obtain ⟨W0, hW0⟩ : ∃ W0, w.alloc (.cells #[.int .i64 1, .int .i64 0, .string ByteArray.empty, .string ByteArray.empty, .int .i64 0, .int .i64 1, .int .i64 0, .int .i64 0, .slice none 0 0] 24) = W0 := ⟨_, rfl⟩
  have g0 := new_at hW0
  have hb0 : Below w.heap.size w W0 := by rw [← hW0]; exact (Below.refl _ _).alloc (Nat.le_refl _) _
  have HG0 := hide g0
  have HB0 := hide hb0
  have HW0 := hide hW0
  obtain ⟨y0, y1, y2, y3, y4, y5, y6, y7, y8⟩ := box9 g0
  clear g0 hb0 hW0
  go_enter Tryz.func18, Tryz.ntmps18
  go_upto_region 1 with (fail)
  rw [HW0.out]
  go_wp2_with fail
  go_rounds 1
  go_ret2
  exact ⟨rfl, HB0.out⟩

set_option maxRecDepth 100000 in
set_option maxHeartbeats 1000000 in
theorem hor_ev (K : Int) (A : Option Addr) (c : Nat) (hK : K = 37 ∨ K = 38) (w : World) (ht : TreesAt w (Lo w.heap.size) A [sigN]) : Calls Tryz.prog 18 #[.agg #[.int .i64 K, .int .i64 0, .string ByteArray.empty, .string ByteArray.empty, .int .i64 0, .int .i64 0, .int .i64 0, .int .i64 0, .slice A 1 c]] w (RetV (.tuple #[.int .i64 1, .int .i64 0]) w) := by
  have HT := hide ht
  clear ht
  obtain ⟨W0, hW0⟩ : ∃ W0, w.alloc (.cells #[.int .i64 K, .int .i64 0, .string ByteArray.empty, .string ByteArray.empty, .int .i64 0, .int .i64 0, .int .i64 0, .int .i64 0, .slice A 1 c] 24) = W0 := ⟨_, rfl⟩
  have g0 := new_at hW0
  have hb0 : Below w.heap.size w W0 := by rw [← hW0]; exact (Below.refl _ _).alloc (Nat.le_refl _) _
  have HG0 := hide g0
  have HB0 := hide hb0
  have HW0 := hide hW0
  obtain ⟨y0, y1, y2, y3, y4, y5, y6, y7, y8⟩ := box9 g0
  clear g0 hb0 hW0
  go_enter Tryz.func18, Tryz.ntmps18
  go_upto_region 1 with (fail)
  rw [HW0.out]
  obtain ⟨bk, ok, rfl, hbk, hc⟩ := (HT.out.grow HB0.out).row.at_ (k := 0) (by simp)
  obtain ⟨c0, c1, c2, c3, c4, c5, c6, c7, c8⟩ := nine hc
  clear hc
  simp only [Nat.zero_mul, Nat.add_zero] at c0 c1 c2 c3 c4 c5 c6 c7 c8
  obtain ⟨W1, hW1⟩ : ∃ W1, W0.alloc (.cells #[.int .i64 1, .int .i64 0, .string ByteArray.empty, .string ByteArray.empty, .int .i64 0, .int .i64 1, .int .i64 0, .int .i64 0, .slice none 0 0] 24) = W1 := ⟨_, rfl⟩
  have g1 := new_at hW1
  have hb1 : Below W0.heap.size W0 W1 := by rw [← hW1]; exact (Below.refl _ _).alloc (Nat.le_refl _) _
  have HB1 := hide (bstep HB0.out hb1)
  have HW1 := hide hW1
  have HG1 := hide ((hb1.block _ (box_lt HG0.out)).trans HG0.out)
  clear hW1 hb1
  go_wp2_with fail
  refine wp_loop_rounds 2 ?_
  rw [rounds_succ]
  go_upto_region 5 with (fail)
  rw [HW1.out]
  clear HW1 c0 c1 c2 c3 c4 c5 c6 c7 c8 y0 y1 y2 y3 y4 y5 y6 y7 y8
  obtain ⟨x0, x1, x2, x3, x4, x5, x6, x7, x8⟩ := box9 g1
  clear g1
  go_upto_region 6 with (go_at_call 18; refine (hor_sig _).mono ?_; rintro e w2 ⟨rfl, hb2⟩; have HB2 := hide (bstep HB1.out hb2); have HG2 := hide ((hb2.block _ (box_lt HG1.out)).trans HG1.out); clear hb2)
  clear x0 x1 x2 x3 x4 x5 x6 x7 x8
  obtain ⟨y0, y1, y2, y3, y4, y5, y6, y7, y8⟩ := box9 HG2.out
  go_wp2_with fail
  rw [rounds_succ]
  rcases hK with rfl | rfl
  all_goals
    go_wp2_with fail
    go_ret2
    exact ⟨rfl, HB2.out⟩

end Go.Proofs.YtgobkbjkndfliaaGreatDoor
