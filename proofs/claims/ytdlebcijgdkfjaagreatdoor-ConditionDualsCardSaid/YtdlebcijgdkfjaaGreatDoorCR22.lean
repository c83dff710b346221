/-
  Several texts in one: DecP. Each says at its head what it holds.
-/
import Derived.Test.YtdlebcijgdkfjaaGreatDoorCR21
import Derived.Deep.RegionHeld3
import Derived.IntWalk

/-
  decimal.magnitude, compare, Compare.
-/
namespace Go.Proofs.YtdlebcijgdkfjaaGreatDoor
open Go.RowKit

structure DB (d : Dec) : Prop where
  len : d.ds.length ≤ 1000
  f0 : -2000000 ≤ d.fst
  f1 : d.fst ≤ 2000000
theorem DB.exp {d : Dec} (h : DB d) : -3000000 ≤ expD d ∧ expD d ≤ 3000000 := by
  have := h.len
  have := h.f0
  have := h.f1
  unfold expD
  split <;> omega
theorem DB.first {d : Dec} (h : d.ds ≠ []) : expD d + d.ds.length - 1 = d.fst := by unfold expD; rw [if_neg h]; omega
theorem cfirst_d {d : Dec} (h : DB d) (A : Option Addr) (c : Nat) (w : World) (hne : d.ds ≠ []) : Calls Tryz.prog 194 #[.agg #[.bool d.neg, .slice A d.ds.length c, .int .i64 (expD d)]] w fun r w' => r = .returned (.int .i64 d.fst) ∧ Below w.heap.size w w' := by
  have := cfirst_any d.neg A d.ds.length c (expD d) w h.len h.exp.1 h.exp.2
  rw [DB.first hne] at this
  exact this
theorem csign_d {d : Dec} (h : DB d) (A : Option Addr) (c : Nat) (w : World) : Calls Tryz.prog 136 #[.agg #[.bool d.neg, .slice A d.ds.length c, .int .i64 (expD d)]] w fun r w' => r = .returned (.int .i64 (sgnD d)) ∧ Below w.heap.size w w' := by
  have := csign_any d.neg A d.ds.length c (expD d) w h.len
  have e : sgnB d.neg d.ds.length = sgnD d := by
    unfold sgnB sgnD
    cases d.ds <;> simp
  rw [e] at this
  exact this

/-- two numbers in boxes -/
structure TB (w : World) (a b : Dec) (A B : Option Addr) (c d : Nat) (W : World) : Prop where
  bel : Below w.heap.size w W
  bA : W.heap[w.heap.size]? = some (ncs a.neg A a.ds.length c (expD a))
  bB : W.heap[w.heap.size + 1]? = some (ncs b.neg B b.ds.length d (expD b))
def SixC (w : World) (a b : Dec) (A B : Option Addr) (c d : Nat) (W : World) : Prop :=
  W.cell? ⟨w.heap.size, 0, none⟩ = some (.bool a.neg) ∧ W.cell? ⟨w.heap.size, 1, none⟩ = some (.slice A a.ds.length c) ∧ W.cell? ⟨w.heap.size, 2, none⟩ = some (.int .i64 (expD a)) ∧
  W.cell? ⟨w.heap.size + 1, 0, none⟩ = some (.bool b.neg) ∧ W.cell? ⟨w.heap.size + 1, 1, none⟩ = some (.slice B b.ds.length d) ∧ W.cell? ⟨w.heap.size + 1, 2, none⟩ = some (.int .i64 (expD b))
section
variable {w W W' : World} {a b : Dec} {A B : Option Addr} {c d : Nat}
theorem TB.cells (h : TB w a b A B c d W) : SixC w a b A B c d W := by
  obtain ⟨c0, c1, c2, _⟩ := ncs_at h.bA
  obtain ⟨d0, d1, d2, _⟩ := ncs_at h.bB
  exact ⟨c0, c1, c2, d0, d1, d2⟩
theorem TB.step (h : TB w a b A B c d W) (hb : Below W.heap.size W W') : TB w a b A B c d W' := ⟨bstep h.bel hb, box_below hb h.bA, box_below hb h.bB⟩
theorem TB.drew (h : TB w a b A B c d W) : TB w a b A B c d W.drew := h.step (below_drew (Below.refl _ _))
theorem TB.start (hW : (w.alloc (ncs a.neg A a.ds.length c (expD a))).alloc (ncs b.neg B b.ds.length d (expD b)) = W) : TB w a b A B c d W := by
  subst hW
  refine ⟨((Below.refl _ _).alloc (Nat.le_refl _) _).alloc (by simp) _, box_alloc (heap_alloc_new w _), ?_⟩
  have := heap_alloc_new (w.alloc (ncs a.neg A a.ds.length c (expD a))) (ncs b.neg B b.ds.length d (expD b))
  rw [World.size_alloc] at this
  exact this
end

set_option maxRecDepth 100000 in
set_option maxHeartbeats 1000000 in
theorem mag_any (a b : Dec) (A B : Option Addr) (c d : Nat) (w : World) (ha : DB a) (hb : DB b) (hA : BytesAt w A a.ds) (hB : BytesAt w B b.ds) :
    Calls Tryz.prog 137 #[.agg #[.bool a.neg, .slice A a.ds.length c, .int .i64 (expD a)], .agg #[.bool b.neg, .slice B b.ds.length d, .int .i64 (expD b)]] w fun e w' => e = .returned (.int .i64 (magD a b)) ∧ Below w.heap.size w w' := by
  have hla := ha.len
  have hlb := hb.len
  by_cases ea : a.ds = []
  · have HM := hide (show magD a b = cmpI (a.ds.length : Int) (b.ds.length : Int) by unfold magD; rw [if_pos (.inl ea)])
    have tz : ((a.ds.length : Int) == 0) = true := by rw [ea]; rfl
    clear ea
    go_enter Tryz.func137, Tryz.ntmps137
    go_wp2_with fail
    refine (cmpInt_any _ _ _).mono ?_
    rintro e w1 ⟨rfl, rfl⟩
    go_wp2_with fail
    go_ret
    exact ⟨by rw [HM.out]; rfl, ((Below.refl _ _).alloc (Nat.le_refl _) _).alloc (by simp) _⟩
  · have tz : ((a.ds.length : Int) == 0) = false := beq_eq_false_iff_ne.2 (by have := List.length_pos_iff.2 ea; omega)
    by_cases eb : b.ds = []
    · have HM := hide (show magD a b = cmpI (a.ds.length : Int) (b.ds.length : Int) by unfold magD; rw [if_pos (.inr eb)])
      have tz2 : ((b.ds.length : Int) == 0) = true := by rw [eb]; rfl
      clear ea eb
      go_enter Tryz.func137, Tryz.ntmps137
      go_wp2_with fail
      refine (cmpInt_any _ _ _).mono ?_
      rintro e w1 ⟨rfl, rfl⟩
      go_wp2_with fail
      go_ret
      exact ⟨by rw [HM.out]; rfl, ((Below.refl _ _).alloc (Nat.le_refl _) _).alloc (by simp) _⟩
    · have tz2 : ((b.ds.length : Int) == 0) = false := beq_eq_false_iff_ne.2 (by have := List.length_pos_iff.2 eb; omega)
      have HM := hide (show magD a b = if a.fst = b.fst then lexC a.ds b.ds else cmpI a.fst b.fst by unfold magD; rw [if_neg (fun h => h.elim ea eb)])
      obtain ⟨q, hq⟩ : ∃ q, cmpI a.fst b.fst = q := ⟨_, rfl⟩
      have HCI := hide (fun W => by have h := cmpInt_any a.fst b.fst W; rw [hq] at h; exact h)
      have HQ := hide (show (q = 0 ∧ magD a b = lexC a.ds b.ds) ∨ (q ≠ 0 ∧ magD a b = q) by
        rw [HM.out]
        by_cases hf : a.fst = b.fst
        · rw [if_pos hf]
          left
          refine ⟨?_, rfl⟩
          rw [← hq]
          unfold cmpI
          rw [if_neg (by omega), if_neg (by omega)]
        · rw [if_neg hf]
          right
          refine ⟨?_, hq⟩
          rw [← hq]
          unfold cmpI
          split
          · omega
          · rw [if_pos (by omega)]; omega)
      clear hq HM
      have FA := hide (fun W => cfirst_d ha A c W ea)
      have FB := hide (fun W => cfirst_d hb B d W eb)
      have HA := hide hA
      have HB := hide hB
      clear ea eb hA hB ha hb
      go_enter Tryz.func137, Tryz.ntmps137
      go_upto_region 3 with (fail)
      generalize hW0 : World.alloc (World.alloc _ _) _ = W0
      have tb := TB.start hW0
      have T0 := hide tb
      have T1 := hide tb.drew
      have k0 := T1.out.cells
      unfold SixC at k0
      clear tb hW0
      go_region_held3 (fun wx => wx.cell? ⟨w.heap.size, 0, none⟩ = some (.bool a.neg) ∧ wx.cell? ⟨w.heap.size, 1, none⟩ = some (.slice A a.ds.length c) ∧ wx.cell? ⟨w.heap.size, 2, none⟩ = some (.int .i64 (expD a)) ∧ wx.cell? ⟨w.heap.size + 1, 0, none⟩ = some (.bool b.neg) ∧ wx.cell? ⟨w.heap.size + 1, 1, none⟩ = some (.slice B b.ds.length d) ∧ wx.cell? ⟨w.heap.size + 1, 2, none⟩ = some (.int .i64 (expD b)))
        (first | (with_reducible assumption) | exact k0 | exact k1 | exact k2)
        (first
          | (go_at_call_of 194 A; refine (FA.out W0.drew).mono ?_; rintro e w1 ⟨rfl, b1⟩; have T2 := hide (T1.out.step b1); have k1 := T2.out.cells; unfold SixC at k1)
          | (go_at_call_of 194 B; refine (FB.out w1).mono ?_; rintro e w2 ⟨rfl, b2⟩; have T3 := hide (T2.out.step b2); have k2 := T3.out.cells; unfold SixC at k2)
          | (go_at_call 135; refine (HCI.out w2).mono ?_; rintro e w3 ⟨rfl, rfl⟩))
      obtain ⟨c0, c1, c2, d0, d1, d2⟩ := k2
      clear k0 k1 T0 T1 T2 b1 b2
      rcases HQ.out with ⟨hq, hm⟩ | ⟨hq, hm⟩
      · subst hq
        have HM := hide hm
        clear hm
        go_wp2_with fail
        refine (bcmp_any A B c d a.ds b.ds _ (HA.out.below T3.out.bel) (HB.out.below T3.out.bel)).mono ?_
        rintro e w4 ⟨rfl, rfl⟩
        go_wp2_with fail
        go_ret
        exact ⟨by rw [HM.out]; rfl, T3.out.bel⟩
      · have t5 : (q != 0) = true := bne_iff_ne.2 hq
        have HM := hide hm
        clear hm hq
        go_wp2_with fail
        go_ret
        exact ⟨by rw [HM.out]; rfl, T3.out.bel⟩

set_option maxRecDepth 100000 in
set_option maxHeartbeats 1000000 in
theorem dcmp_any (a b : Dec) (A B : Option Addr) (c d : Nat) (w : World) (ha : DB a) (hb : DB b) (hA : BytesAt w A a.ds) (hB : BytesAt w B b.ds) :
    Calls Tryz.prog 85 #[.agg #[.bool a.neg, .slice A a.ds.length c, .int .i64 (expD a)], .agg #[.bool b.neg, .slice B b.ds.length d, .int .i64 (expD b)]] w fun e w' => e = .returned (.int .i64 (cmpD a b)) ∧ Below w.heap.size w w' := by
  obtain ⟨q, hq⟩ : ∃ q, cmpI (sgnD a) (sgnD b) = q := ⟨_, rfl⟩
  have HCI := hide (fun W => by have h := cmpInt_any (sgnD a) (sgnD b) W; rw [hq] at h; exact h)
  have hs1 : -1 ≤ sgnD a ∧ sgnD a ≤ 1 := by unfold sgnD; split <;> (try split) <;> omega
  have hm1 : -1 ≤ magD a b ∧ magD a b ≤ 1 := by
    unfold magD
    split
    · unfold cmpI; split <;> (try split) <;> omega
    · split
      · rcases lex_vals a.ds b.ds with h | h | h <;> omega
      · unfold cmpI; split <;> (try split) <;> omega
  have HQ := hide (show (q = 0 ∧ cmpD a b = sgnD a * magD a b) ∨ (q ≠ 0 ∧ cmpD a b = q) by
    unfold cmpD
    by_cases hf : sgnD a = sgnD b
    · rw [if_pos hf]
      left
      refine ⟨?_, rfl⟩
      rw [← hq]
      unfold cmpI
      rw [if_neg (by omega), if_neg (by omega)]
    · rw [if_neg hf]
      right
      refine ⟨?_, hq⟩
      rw [← hq]
      unfold cmpI
      split
      · omega
      · rw [if_pos (by omega)]; omega)
  clear hq
  have SA := hide (fun W => csign_d ha A c W)
  have SB := hide (fun W => csign_d hb B d W)
  have MG := hide (fun W h1 h2 => mag_any a b A B c d W ha hb h1 h2)
  have HA := hide hA
  have HB := hide hB
  have HMU := hide (show IntKind.i64.wrap (sgnD a * magD a b) = sgnD a * magD a b from IntWalk.i64_in _ (by
    obtain ⟨x1, x2⟩ := hs1
    obtain ⟨y1, y2⟩ := hm1
    generalize sgnD a = x at *
    generalize magD a b = y at *
    have : x = -1 ∨ x = 0 ∨ x = 1 := by omega
    rcases this with rfl | rfl | rfl <;> omega))
  clear hA hB ha hb hs1 hm1
  generalize hsa : sgnD a = sa at *
  generalize hma : magD a b = ma at *
  clear hsa hma
  go_enter Tryz.func85, Tryz.ntmps85
  go_upto_region 1 with (fail)
  generalize hW0 : World.alloc (World.alloc _ _) _ = W0
  have tb := TB.start hW0
  have T1 := hide tb.drew
  have k0 := T1.out.cells
  unfold SixC at k0
  clear tb hW0
  go_region_held3 (fun wx => wx.cell? ⟨w.heap.size, 0, none⟩ = some (.bool a.neg) ∧ wx.cell? ⟨w.heap.size, 1, none⟩ = some (.slice A a.ds.length c) ∧ wx.cell? ⟨w.heap.size, 2, none⟩ = some (.int .i64 (expD a)) ∧ wx.cell? ⟨w.heap.size + 1, 0, none⟩ = some (.bool b.neg) ∧ wx.cell? ⟨w.heap.size + 1, 1, none⟩ = some (.slice B b.ds.length d) ∧ wx.cell? ⟨w.heap.size + 1, 2, none⟩ = some (.int .i64 (expD b)))
    (first | (with_reducible assumption) | exact k0 | exact k1 | exact k2)
    (first
      | (go_at_call_of 136 A; refine (SA.out W0.drew).mono ?_; rintro e w1 ⟨rfl, b1⟩; have T2 := hide (T1.out.step b1); have k1 := T2.out.cells; unfold SixC at k1)
      | (go_at_call_of 136 B; refine (SB.out w1).mono ?_; rintro e w2 ⟨rfl, b2⟩; have T3 := hide (T2.out.step b2); have k2 := T3.out.cells; unfold SixC at k2)
      | (go_at_call 135; refine (HCI.out w2).mono ?_; rintro e w3 ⟨rfl, rfl⟩))
  clear k0 k1 k2 T1 T2 b1 b2
  rcases HQ.out with ⟨hq, hm⟩ | ⟨hq, hm⟩
  · subst hq
    have HM := hide hm
    clear hm
    go_upto_region 4 with (fail)
    have T4 := hide T3.out.drew
    have k0 := T4.out.cells
    unfold SixC at k0
    go_region_held3 (fun wx => wx.cell? ⟨w.heap.size, 0, none⟩ = some (.bool a.neg) ∧ wx.cell? ⟨w.heap.size, 1, none⟩ = some (.slice A a.ds.length c) ∧ wx.cell? ⟨w.heap.size, 2, none⟩ = some (.int .i64 (expD a)) ∧ wx.cell? ⟨w.heap.size + 1, 0, none⟩ = some (.bool b.neg) ∧ wx.cell? ⟨w.heap.size + 1, 1, none⟩ = some (.slice B b.ds.length d) ∧ wx.cell? ⟨w.heap.size + 1, 2, none⟩ = some (.int .i64 (expD b)))
      (first | (with_reducible assumption) | exact k0 | exact k1 | exact k3)
      (first
        | (go_at_call 136; refine (SA.out w2.drew).mono ?_; rintro e w4 ⟨rfl, b4⟩; have T5 := hide (T4.out.step b4); have k1 := T5.out.cells; unfold SixC at k1)
        | (go_at_call 137; refine (MG.out w4 (HA.out.below T5.out.bel) (HB.out.below T5.out.bel)).mono ?_; rintro e w5 ⟨rfl, b5⟩; have T6 := hide (T5.out.step b5); have k3 := T6.out.cells; unfold SixC at k3))
    go_wp2_with fail
    go_ret
    exact ⟨(show Ending.returned (.int .i64 (IntKind.i64.wrap (sa * ma))) = .returned (.int .i64 (cmpD a b)) by rw [HMU.out, HM.out]), T6.out.bel⟩
  · have t5 : (q != 0) = true := bne_iff_ne.2 hq
    have HM := hide hm
    clear hm hq
    go_wp2_with fail
    go_ret
    exact ⟨by rw [HM.out]; rfl, T3.out.bel⟩

theorem can_ok {s : ByteArray} {d : Dec} (h : canonC 1048576 s.data.toList = some d) : DB d := by
  have o := ((canon_iff (by omega)).1 h).1
  have := o.len
  have := o.f0
  have := o.f1
  exact ⟨by omega, by omega, by omega⟩
/-- the comparison, where both texts are canonical -/
def cmpB (s t : ByteArray) : Option Int := match canonC 1048576 s.data.toList, canonC 1048576 t.data.toList with
  | some a, some b => some (cmpD a b)
  | _, _ => none
set_option maxRecDepth 100000 in
set_option maxHeartbeats 1000000 in
theorem compare_dec (s t : ByteArray) (w : World) (hT : Tab w) : Calls Tryz.prog 35 #[.string s, .string t] w fun e w' => e = .returned (.tuple #[.int .i64 ((cmpB s t).getD 0), .bool (cmpB s t).isSome]) ∧ Below w.heap.size w w' := by
  have HT := hide hT
  clear hT
  cases hs : canonC 1048576 s.data.toList with
  | none =>
    have HC := hide (show cmpB s t = none by unfold cmpB; rw [hs])
    go_enter Tryz.func35, Tryz.ntmps35
    go_wp2_with fail
    refine (canonical_any s _ HT.out).mono ?_
    rintro e w1 ⟨hv, b1⟩
    unfold CanP at hv
    rw [hs] at hv
    obtain ⟨neg, A, n, c, e', rfl⟩ := hv
    have HB1 := hide b1
    have HB2 := hide (b1.alloc b1.size (ncs neg A n c e'))
    clear b1 hs
    go_wp2_with fail
    refine (canonical_any t _ (HT.out.below HB2.out)).mono ?_
    rintro e w2 ⟨hv, b2⟩
    have HB3 := hide (bstep HB2.out b2)
    clear b2
    cases ht : canonC 1048576 t.data.toList with
    | none =>
      unfold CanP at hv
      rw [ht] at hv
      obtain ⟨neg2, A2, n2, c2, e2, rfl⟩ := hv
      clear ht
      go_wp2_with fail
      go_ret2
      exact ⟨by rw [HC.out]; rfl, HB3.out.alloc HB3.out.size _⟩
    | some d =>
      unfold CanP at hv
      rw [ht] at hv
      obtain ⟨A2, c2, rfl, _, _, _⟩ := hv
      clear ht
      go_wp2_with fail
      go_ret2
      exact ⟨by rw [HC.out]; rfl, HB3.out.alloc HB3.out.size _⟩
  | some a =>
    cases ht : canonC 1048576 t.data.toList with
    | none =>
      have HC := hide (show cmpB s t = none by unfold cmpB; rw [hs, ht])
      go_enter Tryz.func35, Tryz.ntmps35
      go_wp2_with fail
      refine (canonical_any s _ HT.out).mono ?_
      rintro e w1 ⟨hv, b1⟩
      unfold CanP at hv
      rw [hs] at hv
      obtain ⟨A, c, rfl, _, _, _⟩ := hv
      have HB2 := hide (b1.alloc b1.size (ncs a.neg A a.ds.length c (expD a)))
      clear b1 hs
      go_wp2_with fail
      refine (canonical_any t _ (HT.out.below HB2.out)).mono ?_
      rintro e w2 ⟨hv, b2⟩
      have HB3 := hide (bstep HB2.out b2)
      clear b2
      unfold CanP at hv
      rw [ht] at hv
      obtain ⟨neg2, A2, n2, c2, e2, rfl⟩ := hv
      clear ht
      go_wp2_with fail
      go_ret2
      exact ⟨by rw [HC.out]; rfl, HB3.out.alloc HB3.out.size _⟩
    | some b =>
      have HC := hide (show cmpB s t = some (cmpD a b) by unfold cmpB; rw [hs, ht])
      have DA := hide (can_ok hs)
      have DD := hide (can_ok ht)
      go_enter Tryz.func35, Tryz.ntmps35
      go_wp2_with fail
      refine (canonical_any s _ HT.out).mono ?_
      rintro e w1 ⟨hv, b1⟩
      unfold CanP at hv
      rw [hs] at hv
      obtain ⟨A, c, rfl, hA, _, _⟩ := hv
      have HB2 := hide (b1.alloc b1.size (ncs a.neg A a.ds.length c (expD a)))
      have hx1 := heap_alloc_new w1 (ncs a.neg A a.ds.length c (expD a))
      have hA2 := hA.below (w' := w1.alloc (ncs a.neg A a.ds.length c (expD a))) ((Below.refl _ _).alloc (Nat.le_refl _) _)
      clear b1 hs hA
      go_wp2_with fail
      refine (canonical_any t _ (HT.out.below HB2.out)).mono ?_
      rintro e w2 ⟨hv, b2⟩
      unfold CanP at hv
      rw [ht] at hv
      obtain ⟨B, d, rfl, hB, _, _⟩ := hv
      have HB3 := hide ((bstep HB2.out b2).alloc (bstep HB2.out b2).size (ncs b.neg B b.ds.length d (expD b)))
      have hx2 := box_below b2 hx1
      have HA3 := hide ((hA2.below b2).below (w' := w2.alloc (ncs b.neg B b.ds.length d (expD b))) ((Below.refl _ _).alloc (Nat.le_refl _) _))
      have HB4 := hide (hB.below (w' := w2.alloc (ncs b.neg B b.ds.length d (expD b))) ((Below.refl _ _).alloc (Nat.le_refl _) _))
      have hlt := box_lt hx2
      obtain ⟨c0, c1, c2, _⟩ := ncs_at hx2
      clear b2 ht hx1 hA2 hB hx2
      go_wp2_with fail
      refine (dcmp_any a b A B c d _ DA.out DD.out HA3.out HB4.out).mono ?_
      rintro e w3 ⟨rfl, b3⟩
      go_wp2_with fail
      go_ret2
      exact ⟨by rw [HC.out]; rfl, bstep HB3.out b3⟩

end Go.Proofs.YtdlebcijgdkfjaaGreatDoor
