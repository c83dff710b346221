/-
  Several texts in one: IsOpen. Each says at its head what it holds.
-/
import Derived.Test.YtkbiefklilelmaaMR24
import Derived.Test.YtkbiefklilelmaaMR14

/-
  match.input.isOpen: whether a way that has reached some states can go on behind the end.
-/
namespace Go.Proofs.Ytkbiefklilelmaa
open Go.RowKit

/-- an edge that leads on behind the end -/
def OpE (x : Inp) (en : Int) (e : Edg) (s u : Int) : Prop := e.from_ = s ∧ en - u < e.high ∧ HoldW x.cs e.while_ u (en + 1)
def OpAt (x : Inp) (en s u : Int) : Prop := ∃ e ∈ x.edges, OpE x en e s u
def IsOpPost (x : Inp) (en : Int) (m : Int → Int → Prop) (w : World) (e : Ending) (w' : World) : Prop := ∃ b : Bool, e = .returned (.bool b) ∧ (b = true ↔ ∃ s u, m s u ∧ OpAt x en s u) ∧ Below w.heap.size w w'
theorem ranges_block {w w' : World} {B r n : Nat} {D : DataW Unit} {left : Lit → Bool} {cnt : Nat} (h : w.ranges Try.prog 112 (plainElem Try.prog 4) B r n D left cnt) (h1 : w'.heap[B]? = w.heap[B]?) (h2 : w'.heap[r]? = w.heap[r]?) : w'.ranges Try.prog 112 (plainElem Try.prog 4) B r n D left cnt := by
  obtain ⟨es, clock, since, seen, c0, h3, h4, h5, h6, h7, h8⟩ := h
  exact ⟨es, clock, since, seen, c0, h1.trans h3, h4, h5, h6, h2.trans h7, h8⟩
theorem ranges_lt {w : World} {B r n : Nat} {D : DataW Unit} {left : Lit → Bool} {cnt : Nat} (h : w.ranges Try.prog 112 (plainElem Try.prog 4) B r n D left cnt) : B < w.heap.size ∧ r < w.heap.size := by
  obtain ⟨es, clock, since, seen, c0, h3, _, _, _, h7, _⟩ := h
  exact ⟨(Array.getElem?_eq_some_iff.1 h3).1, (Array.getElem?_eq_some_iff.1 h7).1⟩
def OpRel (x : Inp) (en : Int) (m : Int → Int → Prop) (B r n : Nat) (D : DataW Unit) (w : World) (wr : World) : Prop :=
  ∃ (left : Lit → Bool) (cnt : Nat), wr.ranges Try.prog 112 (plainElem Try.prog 4) B r n D left cnt ∧ Below w.heap.size w wr ∧ ∀ s u, Vis m left s u → ¬ OpAt x en s u
def OpIn (x : Inp) (en s u : Int) (w : World) (i : Value) (wr : World) : Prop :=
  ∃ k : Nat, k ≤ x.edges.length ∧ i = .int .i64 k ∧ Below w.heap.size w wr ∧ ∀ j e, j < k → x.edges[j]? = some e → ¬ OpE x en e s u

set_option maxRecDepth 100000 in
set_option maxHeartbeats 8000000 in
theorem isOpen_any (x : MIn) (B n : Nat) (m : Int → Int → Prop) (w : World) (h : MAt w x) (ok : MOk x) (hnm : ∀ s ∈ x.cs, Norm s.xs) (hm : MapP w B n m) (h64 : ∀ s t, m s t → I64 s ∧ I64 t) (hin : ∀ s t, m s t → 0 ≤ t ∧ t ≤ x.en) :
    Calls Try.prog 64 #[.agg (encX x).toArray, .map (some B)] w (IsOpPost x.inp x.en m w) := by
  obtain ⟨x', hx'⟩ : ∃ x', x = x' := ⟨_, rfl⟩
  obtain ⟨D, hown, hD⟩ := hm
  have HD := hide (show HoldsP D m from hD)
  have H64 := hide h64
  have HIN := hide hin
  have HNM := hide hnm
  have HOK := hide ok
  have l1 := ok.few
  have en0 := ok.e0
  have en1 := ok.e1
  obtain ⟨W0, hW0⟩ : ∃ W0, w.alloc (.cells (encX x).toArray 83) = W0 := ⟨_, rfl⟩
  have g0 := new_at hW0
  have hb0 : Below w.heap.size w W0 := by rw [← hW0]; exact (Below.refl _ _).alloc (Nat.le_refl _) _
  have HM := hide (h.step hb0)
  have HB0 := hide hb0
  have HG0 := hide g0
  have hown0 : W0.ownsMap Try.prog 112 (plainElem Try.prog 4) B n D := by rw [← hW0]; exact hown.alloc _
  have hBl := hown0.lt
  rw [hx'] at HOK HM HG0 HIN HNM hW0 ⊢
  obtain ⟨⟨AE, nE, cE, AC, nC, cC, AF, cF, fin, AX, cX, edges⟩, AV, cV, ev, AS, cS, cs, en⟩ := x
  dsimp only at l1 en0 en1
  have HX := hide hx'
  have hX : encX x' = [.slice AE nE cE, .slice AC nC cC, .slice AF fin.length cF, .slice AX edges.length cX, .slice AV ev.length cV, .slice AS cs.length cS, .int .i64 en] := by rw [← hx']; rfl
  have HEX := hide hX
  have HEN := hide (show x'.en = en by rw [← hx'])
  rw [hX] at hW0 ⊢
  have HW0 := hide hW0
  clear h ok hX hx' hW0 g0 hb0 hD hown h64 hin hnm
  go_enter Try.func64, Try.ntmps64
  go_upto_region 1 with (fail)
  rw [HW0.out]
  go_wp2_with (at_range; (refine wpList_range_own _ rfl _ 89 rfl 112 4 pairKey Try.underlying89 _ B n D rfl hown0 ?_); intro w1 hrg1 hg1 hs1)
  go_frame
  have hbw1 : Below W0.heap.size W0 w1 := (Below.refl _ _).grown hg1 (Nat.le_refl _) (fun k e => by cases e)
  have HSTART := hide (show OpRel x'.inp x'.en m B W0.heap.size n D W0 w1 from ⟨_, _, hrg1, hbw1, fun s u hs => absurd hs (vis_start HD.out H64.out s u)⟩)
  clear hrg1 hg1 hs1 hbw1 hown0
  go_loopw [5] (fun _ wr => OpRel x'.inp x'.en m B W0.heap.size n D W0 wr) (fun _ wr => wr.rangeLeft B W0.heap.size)
  case atStart => exact HSTART.out
  case round =>
    obtain ⟨left, cnt, hrg, hbr, hno⟩ := hrel
    have HBR := hide hbr
    have HRG := hide hrg
    have HNO := hide hno
    clear hbr hno HSTART
    go_wp2_with (at_next; refine wpList_next_ranges _ rfl _ rfl 112 pairKey _ mkKP mkBV invPair invBool B W0.heap.size n D left cnt rfl hrg ?_ ?_)
    · intro _ hl0
      have HE := hide (show IsOpPost x'.inp x'.en m w (.returned (.bool false)) wr from ⟨false, rfl, ⟨(fun e => by cases e), fun ⟨s, u, h1, h2⟩ => absurd h2 (HNO.out s u ⟨h1, hl0 _⟩)⟩, bstep HB0.out HBR.out⟩)
      clear hl0 hrg
      go_wp2_with fail
      go_ret
      exact HE.out
    · intro xk xv kl ya yb w2 cnt2 hkey hlk hv hat hrg2 hlt hg2 hs2 hen
      obtain ⟨rfl, hx1, hx2, hmx⟩ := come_pair HD.out hkey hat
      have hb2 := HBR.out.grown hg2 HBR.out.size (fun k e => by injection e with e; omega)
      have HVS := hide (fun a b => vis_step H64.out hmx a b (left := left))
      have HI := hide (HIN.out _ _ hmx)
      have HMX := hide hmx
      have HRG2 := hide hrg2
      have HLT := hide hlt
      have HB2 := hide hb2
      clear hkey hlk hv hat hrg2 hlt hg2 hs2 hb2 hmx hrg
      obtain ⟨ks, kt⟩ := xk
      obtain ⟨xv⟩ := xv
      unfold mkKP mkBV pairV at hen
      unfold mkKP mkBV pairV
      dsimp only at hx1 hx2 hen HI HVS HMX ⊢
      obtain ⟨W3, hW3⟩ : ∃ W3 : World, w2.alloc (.cells #[.int .i64 ks, .int .i64 kt] 112) = W3 := ⟨_, rfl⟩
      have g3 := new_at hW3
      have hb3 : Below w2.heap.size w2 W3 := by rw [← hW3]; exact (Below.refl _ _).alloc (Nat.le_refl _) _
      have HG3 := hide g3
      have HB3 := hide (bstep HB2.out hb3)
      have HRG3 := hide (show W3.ranges Try.prog 112 (plainElem Try.prog 4) B W0.heap.size n D (fun z => left z && !z.sameKey (kL ks kt)) cnt2 by rw [← hW3]; exact HRG2.out.alloc _)
      have gx3 := (HB3.out.block _ (box_lt HG0.out)).trans HG0.out
      rw [HEX.out] at gx3
      obtain ⟨-, -, -, x3, -, -, -⟩ := box7 gx3
      have hkt : 0 ≤ kt ∧ kt ≤ en := by rw [← HEN.out]; exact HI.out
      have HW3 := hide hW3
      have hlB := (ranges_lt HRG3.out).1
      have hlR := (ranges_lt HRG3.out).2
      clear hW3 g3 hb3 gx3
      go_upto_region 4 with (fail)
      rw [HW3.out]
      clear hen
      generalize w2.heap.size = Bk at *
      go_wp2_with fail
      obtain ⟨wo, rfl⟩ : ∃ wo : World, wo = wr := ⟨_, rfl⟩
      go_loopw [18] (fun i wr => OpIn x'.inp x'.en ks kt W3 i wr) (fun i _ => edges.length - (intOf i).toNat)
      case atStart => exact ⟨0, Nat.zero_le _, rfl, Below.refl _ _, fun j e hj => absurd hj (Nat.not_lt_zero _)⟩
      case round =>
        obtain ⟨k, hk, rfl, hbr2, hno2⟩ := hrel
        have hk' : k ≤ edges.length := by rw [← HX.out] at hk; exact hk
        have HBR2 := hide hbr2
        have HNO2 := hide hno2
        clear hk hbr2 hno2 x3
        by_cases hlt : k < edges.length
        · obtain ⟨be, oe, bv, ov, j, s, f, t, wh, lo, hi, ea⟩ := edge_at HOK.out (HM.out.step (bstep HB3.out HBR2.out)) (k := k) (by rw [← HX.out]; exact hlt)
          have ax := ea.ax
          have av := ea.av
          rw [← HX.out] at ax av
          dsimp only at ax av
          subst ax av
          obtain ⟨-, -, get, e0, e1, e2, e3, e4, e5, -, -, -, -, -, -, -, eok, -, -⟩ := ea
          have GET := hide get
          have EOK := hide eok
          clear get eok
          obtain ⟨W4, hW4⟩ : ∃ W4 : World, wr.alloc (.cells #[.int .i64 f, .int .i64 t, .int .i64 (j : Int), .int .i64 wh, .int .i64 lo, .int .i64 hi] 81) = W4 := ⟨_, rfl⟩
          have g4 := new_at hW4
          have hb4 : Below wr.heap.size wr W4 := by rw [← hW4]; exact (Below.refl _ _).alloc (Nat.le_refl _) _
          obtain ⟨f0, f1, f2, f3, f4, f5⟩ := box6 g4
          have HB4 := hide (bstep HBR2.out hb4)
          obtain ⟨p0, p1, -, -⟩ := box2 ((HB4.out.block _ (box_lt HG3.out)).trans HG3.out)
          have gx4 := ((bstep HB3.out HB4.out).block _ (box_lt HG0.out)).trans HG0.out
          rw [HEX.out] at gx4
          obtain ⟨x0, x1, x2, x3, x4, x5, x6⟩ := box7 gx4
          have HW4 := hide hW4
          have hkn : k + 1 ≤ x'.inp.edges.length := by rw [← HX.out]; exact hlt
          have HKN := hide hkn
          have hwh : wh = -1 ∨ ∃ kc : Nat, ∃ hk : kc < x'.cs.length, wh = (kc : Int) ∧ Norm x'.cs[kc].xs := by
            by_cases hw : wh = -1
            · exact .inl hw
            · obtain ⟨kc, h1, h2, _⟩ := HOK.out.cond (List.mem_of_getElem? GET.out) (by exact hw)
              exact .inr ⟨kc, h1, h2, HNM.out _ (List.getElem_mem h1)⟩
          have hh := holds_any x' wh kt (en + 1) hwh W4 (HM.out.step (bstep HB3.out HB4.out)) ⟨hkt.1, by omega⟩ ⟨by omega, by omega⟩ (by have := HOK.out.ncs; omega)
          rw [HEX.out] at hh
          have HH := hide hh
          have HNX := hide (show (¬ OpE x'.inp x'.en ⟨f, t, (j : Int), wh, lo, hi⟩ ks kt) → ∀ j e, j < k + 1 → x'.inp.edges[j]? = some e → ¬ OpE x'.inp x'.en e ks kt from fun h1 j' e h2 h3 => by
            rcases Nat.lt_or_ge j' k with h4 | h4
            · exact HNO2.out j' e h4 h3
            · have : j' = k := by omega
              subst this
              rw [GET.out] at h3
              injection h3 with h3
              subst h3
              exact h1)
          clear hkn hW4 g4 hb4 gx4 hwh hh
          go_upto_region 7 with (fail)
          rw [HW4.out]
          generalize wr.heap.size = Be at *
          clear e0 e1 e2 e3 e4 e5
          by_cases hf : f = ks
          · have T1 : (f == ks) = true := beq_iff_eq.2 hf
            have HF := hide hf
            clear hf
            by_cases hh : en - kt < hi
            · have T2 : decide (en - kt < hi) = true := decide_eq_true hh
              have HHI := hide hh
              clear hh
              go_wp2_with fail
              refine HH.out.mono ?_
              rintro e w5 ⟨bb, rfl, hbb, hb5⟩
              have HB5 := hide (bstep HB4.out hb5)
              cases bb with
              | true =>
                have HE := hide (show IsOpPost x'.inp x'.en m w (.returned (.bool true)) w5 from ⟨true, rfl, ⟨fun _ => ⟨ks, kt, HMX.out, _, List.mem_of_getElem? GET.out, HF.out, by rw [HEN.out]; exact HHI.out, by rw [HEN.out]; exact hbb.1 rfl⟩, fun _ => rfl⟩, bstep HB0.out (bstep HB3.out HB5.out)⟩)
                clear hbb hb5
                go_wp2_with fail
                go_ret
                exact HE.out
              | false =>
                have HN := hide (HNX.out fun ⟨_, _, h3⟩ => by rw [HEN.out] at h3; have h4 := hbb.2 h3; cases h4)
                clear hbb hb5
                go_wp2_with fail
                exact ⟨⟨k + 1, HKN.out, by go_num, HB5.out, HN.out⟩, by simp [intOf]; omega⟩
            · have T2 : decide (en - kt < hi) = false := decide_eq_false hh
              have HN := hide (HNX.out fun ⟨_, h2, _⟩ => hh (by rw [HEN.out] at h2; exact h2))
              clear hh
              go_wp2_with fail
              exact ⟨⟨k + 1, HKN.out, by go_num, HB4.out, HN.out⟩, by simp [intOf]; omega⟩
          · have T1 : (f == ks) = false := beq_eq_false_iff_ne.2 hf
            have HN := hide (HNX.out fun ⟨h1, _⟩ => hf h1)
            clear hf
            go_wp2_with fail
            exact ⟨⟨k + 1, HKN.out, by go_num, HB4.out, HN.out⟩, by simp [intOf]; omega⟩
        · have hke : k = edges.length := by omega
          subst hke
          have HRGW := hide (ranges_block HRG3.out (HBR2.out.block _ hlB) (HBR2.out.block _ hlR))
          have HMS := hide (show wr.rangeLeft B W0.heap.size < wo.rangeLeft B W0.heap.size by rw [HRGW.out.left_eq, HRG.out.left_eq]; exact HLT.out)
          have HNV := hide (show ∀ s u, Vis m (fun z => left z && !z.sameKey (kL ks kt)) s u → ¬ OpAt x'.inp x'.en s u from fun s u hs => by
            rcases (HVS.out s u).1 hs with h1 | ⟨rfl, rfl⟩
            · exact HNO.out s u h1
            · rintro ⟨e, he, h2⟩
              obtain ⟨j, hj⟩ := List.getElem?_of_mem he
              have hl : j < edges.length := by have := (List.getElem?_eq_some_iff.1 hj).1; rw [← HX.out] at this; exact this
              exact HNO2.out j e hl hj h2)
          go_wp2_with fail
          exact ⟨⟨_, cnt2, HRGW.out, bstep HB3.out HBR2.out, HNV.out⟩, HMS.out⟩

end Go.Proofs.Ytkbiefklilelmaa
