/-
  wavestoreref52.Until, reverse and Since: what they make of lists of results.
-/
import Derived.Test.YtkbiefklilelmaaUntilL
namespace Go.Proofs.Ytkbiefklilelmaa
open Go.RowKit Go.Joins

def RevRel (w : World) (x : List Int) (out i : Value) (wr : World) : Prop :=
  ∃ (k : Nat) (j : Int) (A : Option Addr) (c : Nat), k ≤ x.length ∧ j = (x.length : Int) - 1 - k ∧ i = .int .i64 j ∧ out = .slice A k c ∧ OwnInt wr w.heap.size A c (x.reverse.take k) ∧ Below w.heap.size w wr
theorem rev_take (x : List Int) (k m : Nat) (h : k < x.length) (hm : m < x.length) (e : m = x.length - 1 - k) : x.reverse.take (k + 1) = x.reverse.take k ++ [x[m]] := by
  subst e
  rw [List.take_succ_eq_append_getElem (by simpa using h), List.getElem_reverse]

set_option maxRecDepth 100000 in
theorem reverse_any (A : Option Addr) (c : Nat) (x : List Int) (w : World) (hx : IntsAt w w.heap.size A x) (hl : x.length ≤ 65) :
    Calls Try.prog 51 #[.slice A x.length c] w (RetInts w fun ps => ps = x.reverse) := by
  have hxl : (x.length : Int) ≤ 65 := by omega
  go_enter Try.func51, Try.ntmps51
  go_wp2_with fail
  go_loopw [3, 4] (fun out i wr => RevRel w x out i wr) (fun _ i _ => (intOf i + 1).toNat)
  case atStart => exact ⟨0, _, some ⟨w.heap.size, 0, none⟩, 0, by omega, by simp, rfl, rfl, OwnInt.empty _ _ (Nat.le_refl _), (Below.refl _ _).alloc (Nat.le_refl _) _⟩
  case round =>
    obtain ⟨k, j, A2, c2, hk, hj, rfl, rfl, hown, hb⟩ := hrel
    by_cases hlt : k < x.length
    · obtain ⟨m, hm⟩ : ∃ m : Nat, j = m := ⟨j.toNat, by omega⟩
      subst hm
      have hml : m < x.length := by omega
      have HS := hide (rev_take x k m hlt hml (by omega))
      have HLM := hide (show k = (x.reverse.take k).length by simp; omega)
      obtain ⟨bb, off, hAe, hbb, hc1⟩ := (hx.below hb).at_ hml
      subst hAe
      have HJ := hide hj
      clear hj
      generalize x.reverse.take k = ms at *
      generalize x[m] = xm at *
      have hm65 : m < 65 := by omega
      have hk65 : k ≤ 65 := by omega
      go_wp2_with (at_builtin; (refine append_int1 rfl _ _ rfl w.heap.size A2 c2 ms k rfl HLM.out _ _ rfl _ rfl (by simp) hown (by omega) hb.size ?_)
                   intro g' c' w5 hown5 hg' hgrow hrow)
      go_roundw
      case rel =>
        have := HJ.out
        refine ⟨k + 1, (m : Int) - 1, some ⟨g', 0, none⟩, c', by omega, by omega, rfl, rfl, ?_, ?_⟩
        · rw [HS.out]; exact hown5
        · exact (hb.alloc hb.size _).grown hgrow (by have := hb.size; simp; omega) hrow
      case measure => simp [intOf]
    · have hke : k = x.length := by omega
      subst hke
      have hj0 : j < 0 := by omega
      have hj1 : -2 ≤ j := by omega
      clear hj
      go_wp2_with fail
      go_ret
      refine ⟨A2, c2, x.reverse, by simp, ?_, hb, rfl⟩
      have e : x.reverse.take x.length = x.reverse := List.take_of_length_le (by simp)
      rw [e] at hown
      exact hown

def RUntilRel (w : World) (x y : List Int) (a b : Int) (out t : Value) (wr : World) : Prop :=
  ∃ (k : Nat) (A : Option Addr) (c : Nat), k ≤ x.length ∧ t = .int .i64 k ∧ out = .slice A k c ∧ OwnInt wr w.heap.size A c (untilL x y a b k) ∧ Below w.heap.size w wr
def RUntilIn (wo : World) (x y : List Int) (a b : Int) (k : Nat) (r held u : Value) (wr : World) : Prop :=
  ∃ n : Nat, n ≤ unN b x.length k ∧ u = .int .i64 ((k + n : Nat) : Int) ∧ r = .int .i64 (unS x y a k n).1 ∧ held = .int .i64 (unS x y a k n).2 ∧ wr = wo

set_option maxRecDepth 100000 in
set_option maxHeartbeats 4000000 in
theorem runtil_any (A B : Option Addr) (c d : Nat) (x y : List Int) (a b : Int) (w : World) (hx : IntsAt w w.heap.size A x) (hy : IntsAt w w.heap.size B y) (hl : x.length ≤ 65) (hly : y.length = x.length) (h1 : 0 ≤ a) (h2 : a ≤ b) (h3 : b ≤ 1099511627776) :
    Calls Try.prog 25 #[.slice A x.length c, .slice B y.length d, .int .i64 a, .int .i64 b] w (RetInts w fun ps => ps = untilL x y a b x.length) := by
  have HLY := hide hly
  clear hly
  go_enter Try.func25, Try.ntmps25
  go_wp2_with fail
  go_loopw [9, 10, 11, 12, 13] (fun out t _ _ _ wr => RUntilRel w x y a b out t wr) (fun _ t _ _ _ _ => x.length - (intOf t).toNat)
  case atStart => exact ⟨0, some ⟨w.heap.size, 0, none⟩, 0, by omega, by simp, rfl, OwnInt.empty _ _ (Nat.le_refl _), (Below.refl _ _).alloc (Nat.le_refl _) _⟩
  case round =>
    obtain ⟨k, A2, c2, hk, rfl, rfl, hown, hb⟩ := hrel
    by_cases hlt : k < x.length
    · obtain ⟨wo, rfl⟩ : ∃ wo : World, wo = wr := ⟨_, rfl⟩
      have HS := hide (untilL_succ x y a b k)
      have HLM := hide (untilL_len x y a b k)
      have hx' := hx.below hb
      have hy' := hy.below hb
      have hxl : (x.length : Int) ≤ 65 := by omega
      have hk65 : k < 65 := by omega
      go_wp2_with fail
      go_loopw [11, 12, 13] (fun r held u wr => RUntilIn wo x y a b k r held u wr) (fun _ _ u _ => x.length - (intOf u).toNat)
      case atStart => exact ⟨0, by omega, by simp, by rfl, by rfl, rfl⟩
      case round =>
        obtain ⟨n, hn, rfl, rfl, rfl, rfl⟩ := hrel
        have HNU := hide (show unN b x.length k = min (x.length - k) (b + 1).toNat from rfl)
        by_cases hle : n < unN b x.length k
        · have hN := HNU.out
          have hml : k + n < x.length := by omega
          have hnb : (n : Int) ≤ b := by omega
          have hml2 : k + n < y.length := by rw [HLY.out]; exact hml
          obtain ⟨bb, off, hAe, hbb, hc1⟩ := hx'.at_ hml
          obtain ⟨bd, ofd, hBe, hbd, hd1⟩ := hy'.at_ hml2
          subst hAe hBe
          have HR := hide (unS_r x y a k n)
          have HH := hide (unS_h x y a k n)
          have HGx := hide (show x.getD (k + n) 0 = x[k + n] by simp [hml])
          have HGy := hide (show y.getD (k + n) 0 = y[k + n] by simp [hml2])
          generalize unS x y a k n = rh at *
          obtain ⟨r0, h0⟩ := rh
          generalize x[k + n] = xm at *
          generalize y[k + n] = ym at *
          generalize hm : k + n = m at *
          have HM := hide hm
          have hm1 : (m : Int) ≤ k + b := by omega
          have hm2 : m < 65 := by omega
          clear hN hm
          have hd2 : decide ((m : Int) < (x.length : Int)) = true := decide_eq_true (by omega)
          by_cases han : a ≤ (n : Int)
          · have hta : (k : Int) + a ≤ m := by have := HM.out; omega
            go_wp2_with fail
            go_roundw
            case rel =>
              have := HM.out
              refine ⟨n + 1, by omega, by congr 1; omega, ?_, ?_, rfl⟩
              · rw [HR.out, if_pos han, HGy.out]
              · rw [HH.out, HGx.out]
            case measure => simp [intOf]; omega
          · have hta : ¬ (k : Int) + a ≤ m := by have := HM.out; omega
            go_wp2_with fail
            go_roundw
            case rel =>
              have := HM.out
              refine ⟨n + 1, by omega, by congr 1; omega, ?_, ?_, rfl⟩
              · rw [HR.out, if_neg han]
              · rw [HH.out, HGx.out]
            case measure => simp [intOf]; omega
        · have hn' : n = unN b x.length k := by omega
          have HN := hide hn'
          have hout : x.length ≤ k + n ∨ (k : Int) + b < ((k + n : Nat) : Int) := by have := HNU.out; omega
          have hkn : k + n ≤ x.length := by have := HNU.out; omega
          have hown' := hown
          generalize hms : untilL x y a b k = ms at *
          generalize hm : k + n = m at *
          have HM := hide hm
          clear hn' hms hown hm hn hle
          have hlm : k = ms.length := HLM.out.symm
          have HLM' := hide hlm
          have hle2 : ms.length ≤ 65 := by omega
          clear hlm
          rcases hout with hout | hout
          · have hd2 : decide ((m : Int) < (x.length : Int)) = false := decide_eq_false (by omega)
            go_wp2_with (at_builtin; (refine append_int1 rfl _ _ rfl w.heap.size A2 c2 ms k rfl HLM'.out _ _ rfl _ rfl (by simp) hown' (by omega) hb.size ?_)
                         intro g' c' w5 hown5 hg' hgrow hrow)
            go_roundw
            case rel =>
              refine ⟨k + 1, some ⟨g', 0, none⟩, c', by omega, by go_num, rfl, ?_, ?_⟩
              · rw [HS.out, ← HN.out]; exact hown5
              · exact (hb.alloc hb.size _).grown hgrow (by have := hb.size; simp; omega) hrow
            case measure => simp [intOf]; omega
          · by_cases hml : m < x.length
            · have hd2 : decide ((m : Int) < (x.length : Int)) = true := decide_eq_true (by omega)
              go_wp2_with (at_builtin; (refine append_int1 rfl _ _ rfl w.heap.size A2 c2 ms k rfl HLM'.out _ _ rfl _ rfl (by simp) hown' (by omega) hb.size ?_)
                           intro g' c' w5 hown5 hg' hgrow hrow)
              go_roundw
              case rel =>
                refine ⟨k + 1, some ⟨g', 0, none⟩, c', by omega, by go_num, rfl, ?_, ?_⟩
                · rw [HS.out, ← HN.out]; exact hown5
                · exact (hb.alloc hb.size _).grown hgrow (by have := hb.size; simp; omega) hrow
              case measure => simp [intOf]; omega
            · have hd2 : decide ((m : Int) < (x.length : Int)) = false := decide_eq_false (by omega)
              go_wp2_with (at_builtin; (refine append_int1 rfl _ _ rfl w.heap.size A2 c2 ms k rfl HLM'.out _ _ rfl _ rfl (by simp) hown' (by omega) hb.size ?_)
                           intro g' c' w5 hown5 hg' hgrow hrow)
              go_roundw
              case rel =>
                refine ⟨k + 1, some ⟨g', 0, none⟩, c', by omega, by go_num, rfl, ?_, ?_⟩
                · rw [HS.out, ← HN.out]; exact hown5
                · exact (hb.alloc hb.size _).grown hgrow (by have := hb.size; simp; omega) hrow
              case measure => simp [intOf]; omega
    · have hke : k = x.length := by omega
      subst hke
      go_wp2_with fail
      go_ret
      refine ⟨A2, c2, untilL x y a b x.length, by rw [untilL_len]; rfl, hown, hb, rfl⟩

set_option maxRecDepth 100000 in
theorem rsince_any (A B : Option Addr) (c d : Nat) (x y : List Int) (a b : Int) (w : World) (hx : IntsAt w w.heap.size A x) (hy : IntsAt w w.heap.size B y) (hl : x.length ≤ 65) (hly : y.length = x.length) (h1 : 0 ≤ a) (h2 : a ≤ b) (h3 : b ≤ 1099511627776) :
    Calls Try.prog 26 #[.slice A x.length c, .slice B y.length d, .int .i64 a, .int .i64 b] w (RetInts w fun ps => ps = (untilL x.reverse y.reverse a b x.length).reverse) := by
  have HLY := hide hly
  clear hly
  have hly2 : y.length ≤ 65 := by rw [HLY.out]; exact hl
  go_enter Try.func26, Try.ntmps26
  go_wp2_with fail
  refine (reverse_any A c x w hx hl).mono ?_
  rintro e w1 ⟨A1, c1, p1, rfl, o1, b1, e1⟩
  have E1 := hide e1
  clear e1
  go_wp2_with fail
  refine (reverse_any B d y w1 (hy.step b1) hly2).mono ?_
  rintro e w2 ⟨A2, c2, p2, rfl, o2, b2, e2⟩
  have E2 := hide e2
  clear e2
  have hl1 : p1.length ≤ 65 := by rw [E1.out, List.length_reverse]; exact hl
  have HL2 := hide (show p2.length = p1.length by rw [E1.out, E2.out, List.length_reverse, List.length_reverse]; exact HLY.out)
  go_wp2_with fail
  refine (runtil_any A1 A2 c1 c2 p1 p2 a b w2 (o1.ats.step b2) o2.ats hl1 HL2.out h1 h2 h3).mono ?_
  rintro e w3 ⟨A3, c3, p3, rfl, o3, b3, e3⟩
  have E3 := hide e3
  clear e3
  have hl3 : p3.length ≤ 65 := by rw [E3.out, untilL_len]; exact hl1
  go_wp2_with fail
  refine (reverse_any A3 c3 p3 w3 o3.ats hl3).mono ?_
  rintro e w4 ⟨A4, c4, p4, rfl, o4, b4, e4⟩
  have E4 := hide e4
  clear e4
  go_wp2_with fail
  go_ret
  have hb3 := bstep (bstep b1 b2) b3
  exact ⟨A4, c4, p4, rfl, o4.lower hb3.size, bstep hb3 b4, by rw [E4.out, E3.out, E2.out, E1.out, List.length_reverse]⟩

end Go.Proofs.Ytkbiefklilelmaa
