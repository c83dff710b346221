/-
  Several texts in one: Ends. Each says at its head what it holds.
-/
import Derived.Test.YtkbiefklilelmaaMR24
import Derived.Test.YtkbiefklilelmaaMR14

/-
  match.input.ends: the least time at which a final state has been reached.
-/
namespace Go.Proofs.Ytkbiefklilelmaa
open Go.RowKit

/-- the final times among some pairs -/
def FinOf (fin : List Bool) (V : Int → Int → Prop) (t : Int) : Prop := ∃ s : Int, V s t ∧ fin.getD s.toNat false = true
/-- what is known of the least one -/
def LeastB (S : Int → Prop) (v : Int) (ok : Bool) : Prop := (ok = true → LeastOf S v) ∧ (ok = false → ∀ t, ¬ S t)
theorem LeastB.skip {fin : List Bool} {V V' : Int → Int → Prop} {v s t : Int} {ok : Bool} (h : LeastB (FinOf fin V) v ok) (hV : ∀ a b, V' a b ↔ V a b ∨ (a = s ∧ b = t)) (hs : fin.getD s.toNat false = false ∨ (ok = true ∧ v ≤ t)) : LeastB (FinOf fin V') v ok := by
  have key : ∀ u, FinOf fin V' u → FinOf fin V u ∨ (fin.getD s.toNat false = true ∧ u = t) := by
    rintro u ⟨a, ha, hf⟩
    rcases (hV a u).1 ha with h1 | ⟨rfl, rfl⟩
    · exact .inl ⟨a, h1, hf⟩
    · exact .inr ⟨hf, rfl⟩
  have more : ∀ u, FinOf fin V u → FinOf fin V' u := fun u ⟨a, ha, hf⟩ => ⟨a, (hV a u).2 (.inl ha), hf⟩
  refine ⟨fun e => ⟨more _ (h.1 e).1, fun u hu => ?_⟩, fun e u hu => ?_⟩
  · rcases key u hu with h1 | ⟨h1, rfl⟩
    · exact (h.1 e).2 u h1
    · rcases hs with h2 | ⟨_, h2⟩
      · rw [h1] at h2; cases h2
      · exact h2
  · rcases key u hu with h1 | ⟨h1, rfl⟩
    · exact h.2 e u h1
    · rcases hs with h2 | ⟨h2, _⟩
      · rw [h1] at h2; cases h2
      · rw [e] at h2; cases h2
theorem LeastB.take {fin : List Bool} {V V' : Int → Int → Prop} {v s t : Int} {ok : Bool} (h : LeastB (FinOf fin V) v ok) (hV : ∀ a b, V' a b ↔ V a b ∨ (a = s ∧ b = t)) (hf : fin.getD s.toNat false = true) (hs : ok = false ∨ t < v) : LeastB (FinOf fin V') t true := by
  refine ⟨fun _ => ⟨⟨s, (hV s t).2 (.inr ⟨rfl, rfl⟩), hf⟩, fun u hu => ?_⟩, fun e => by cases e⟩
  obtain ⟨a, ha, hf'⟩ := hu
  rcases (hV a u).1 ha with h1 | ⟨_, rfl⟩
  · cases ok with
    | false => exact absurd ⟨a, h1, hf'⟩ (h.2 rfl u)
    | true =>
      have h2 := (h.1 rfl).2 u ⟨a, h1, hf'⟩
      rcases hs with h3 | h3
      · cases h3
      · omega
  · exact Int.le_refl _
def EndsPost (fin : List Bool) (m : Int → Int → Prop) (w : World) (e : Ending) (w' : World) : Prop := ∃ (v : Int) (ok : Bool), e = .returned (.tuple #[.int .i64 v, .bool ok]) ∧ LeastB (FinOf fin m) v ok ∧ Below w.heap.size w w'
def EndsRel (fin : List Bool) (m : Int → Int → Prop) (B r n : Nat) (D : DataW Unit) (w : World) (least ok : Value) (wr : World) : Prop :=
  ∃ (left : Lit → Bool) (cnt : Nat) (v : Int) (b : Bool), wr.ranges Try.prog 112 (plainElem Try.prog 4) B r n D left cnt ∧ least = .int .i64 v ∧ ok = .bool b ∧ LeastB (FinOf fin (Vis m left)) v b ∧ Below w.heap.size w wr

set_option maxRecDepth 100000 in
set_option maxHeartbeats 4000000 in
theorem ends_any (x : MIn) (B n : Nat) (m : Int → Int → Prop) (w : World) (h : MAt w x) (hm : MapP w B n m) (h64 : ∀ s t, m s t → I64 s ∧ I64 t) (hin : ∀ s t, m s t → 0 ≤ s ∧ s < x.a.fin.length) (hfl : x.a.fin.length ≤ 33) :
    Calls Try.prog 58 #[.agg (encX x).toArray, .map (some B)] w (EndsPost x.a.fin m w) := by
  obtain ⟨D, hown, hD⟩ := hm
  have HD := hide (show HoldsP D m from hD)
  have H64 := hide h64
  have HIN := hide hin
  obtain ⟨⟨AE, nE, cE, AC, nC, cC, AF, cF, fin, AX, cX, edges⟩, AV, cV, ev, AS, cS, cs, en⟩ := x
  dsimp only [encX, encA, List.cons_append, List.nil_append] at *
  obtain ⟨W0, hW0⟩ : ∃ W0, w.alloc (.cells #[.slice AE nE cE, .slice AC nC cC, .slice AF fin.length cF, .slice AX edges.length cX, .slice AV ev.length cV, .slice AS cs.length cS, .int .i64 en] 83) = W0 := ⟨_, rfl⟩
  have g0 := new_at hW0
  have hb0 : Below w.heap.size w W0 := by rw [← hW0]; exact (Below.refl _ _).alloc (Nat.le_refl _) _
  have hfin := (h.step hb0).aut.fin
  dsimp only at hfin
  have hown0 : W0.ownsMap Try.prog 112 (plainElem Try.prog 4) B n D := by rw [← hW0]; exact hown.alloc _
  have HG0 := hide g0
  have HB0 := hide hb0
  have HFIN := hide hfin
  have HW0 := hide hW0
  clear hD h64 hin h hown hW0 g0 hb0 hfin
  go_enter Try.func58, Try.ntmps58
  go_upto_region 1 with (fail)
  rw [HW0.out]
  go_wp2_with (at_range; (refine wpList_range_own _ rfl _ 89 rfl 112 4 pairKey Try.underlying89 _ B n D rfl hown0 ?_); intro w1 hrg1 hg1 hs1)
  go_frame
  have hbw1 : Below W0.heap.size W0 w1 := (Below.refl _ _).grown hg1 (Nat.le_refl _) (fun k e => by cases e)
  have HSTART := hide (show EndsRel fin m B W0.heap.size n D W0 (.int .i64 0) (.bool false) w1 from ⟨_, _, 0, false, hrg1, rfl, rfl, ⟨(fun e => by cases e), fun _ t ⟨s, hs, _⟩ => vis_start HD.out H64.out s t hs⟩, hbw1⟩)
  have hBl := hown0.lt
  clear hrg1 hg1 hs1 hbw1 hown0
  go_loopw [6, 7] (fun a b wr => EndsRel fin m B W0.heap.size n D W0 a b wr) (fun _ _ wr => wr.rangeLeft B W0.heap.size)
  case atStart => exact HSTART.out
  case round =>
    obtain ⟨left, cnt, v, ok, hrg, rfl, rfl, hlb, hbr⟩ := hrel
    have HLB := hide hlb
    have HBR := hide hbr
    have HRG := hide hrg
    clear hlb hbr HSTART
    go_wp2_with (at_next; refine wpList_next_ranges _ rfl _ rfl 112 pairKey _ mkKP mkBV invPair invBool B W0.heap.size n D left cnt rfl hrg ?_ ?_)
    · intro _ hl0
      have HE := hide (show LeastB (FinOf fin m) v ok from by
        have h1 := HLB.out
        have h2 : ∀ t, FinOf fin (Vis m left) t ↔ FinOf fin m t := fun t => ⟨fun ⟨s, h3, h4⟩ => ⟨s, h3.1, h4⟩, fun ⟨s, h3, h4⟩ => ⟨s, ⟨h3, hl0 _⟩, h4⟩⟩
        exact ⟨fun e => (h1.1 e).congr h2, fun e t h3 => h1.2 e t ((h2 t).2 h3)⟩)
      clear hl0 hrg
      go_wp2_with fail
      go_ret2
      exact ⟨v, ok, rfl, HE.out, bstep HB0.out HBR.out⟩
    · intro xk xv kl ya yb w2 cnt2 hkey hlk hv hat hrg2 hlt hg2 hs2 hen
      obtain ⟨rfl, hx1, hx2, hmx⟩ := come_pair HD.out hkey hat
      have hb2 := HBR.out.grown hg2 HBR.out.size (fun k e => by injection e with e; omega)
      have HVS := hide (fun a b => vis_step H64.out hmx a b (left := left))
      have HI := hide (HIN.out _ _ hmx)
      have HRG2 := hide hrg2
      have HLT := hide hlt
      have HB2 := hide hb2
      clear hkey hlk hv hat hrg2 hlt hg2 hs2 hb2 hmx hrg
      obtain ⟨ks, kt⟩ := xk
      obtain ⟨xv⟩ := xv
      unfold mkKP mkBV pairV at hen
      unfold mkKP mkBV pairV
      dsimp only at hx1 hx2 hen HI HVS ⊢
      obtain ⟨i, hki⟩ := Int.eq_ofNat_of_zero_le HI.out.1
      subst hki
      have hil : i < fin.length := by have := HI.out.2; omega
      obtain ⟨fb, fo, hAF, hfb, q0⟩ := ((HFIN.out.stay (stay_below HB2.out fun _ h => h)).more fun _ hb' => Nat.lt_of_lt_of_le hb' HB2.out.size).bool_at hil
      subst hAF
      obtain ⟨W3, hW3⟩ : ∃ W3 : World, w2.alloc (.cells #[.int .i64 (i : Int), .int .i64 kt] 112) = W3 := ⟨_, rfl⟩
      have g3 := new_at hW3
      have hb3 : Below w2.heap.size w2 W3 := by rw [← hW3]; exact (Below.refl _ _).alloc (Nat.le_refl _) _
      obtain ⟨p0, p1, -, -⟩ := box2 g3
      have HB3 := hide (bstep HB2.out hb3)
      have HRG3 := hide (show W3.ranges Try.prog 112 (plainElem Try.prog 4) B W0.heap.size n D (fun z => left z && !z.sameKey (kL (i : Int) kt)) cnt2 by rw [← hW3]; exact HRG2.out.alloc _)
      obtain ⟨-, -, x2, -, -, -, -⟩ := box7 ((HB3.out.block _ (box_lt HG0.out)).trans HG0.out)
      have q1 := (hb3.cell (p := ⟨fb, fo + i, none⟩) hfb).trans q0
      have HGD := hide (show fin.getD (i : Int).toNat false = fin[i] by rw [Int.toNat_natCast, List.getD_eq_getElem?_getD, List.getElem?_eq_getElem hil]; rfl)
      have HMS := hide (show W3.rangeLeft B W0.heap.size < wr.rangeLeft B W0.heap.size by rw [HRG3.out.left_eq, HRG.out.left_eq]; exact HLT.out)
      generalize fin[i] = fi at *
      have HW3 := hide hW3
      clear hW3 g3 hb3 q0
      go_upto_region 5 with (fail)
      rw [HW3.out]
      clear hen
      generalize w2.heap.size = Bk at *
      cases fi with
      | false =>
        have HN := hide (HLB.out.skip HVS.out (.inl HGD.out))
        go_wp2_with fail
        exact ⟨⟨_, cnt2, v, ok, HRG3.out, rfl, rfl, HN.out, HB3.out⟩, HMS.out⟩
      | true =>
        cases ok with
        | false =>
          have HN := hide (HLB.out.take HVS.out HGD.out (.inl rfl))
          go_wp2_with fail
          exact ⟨⟨_, cnt2, kt, true, HRG3.out, rfl, rfl, HN.out, HB3.out⟩, HMS.out⟩
        | true =>
          by_cases hlt : kt < v
          · have T1 : decide (kt < v) = true := decide_eq_true hlt
            have HN := hide (HLB.out.take HVS.out HGD.out (.inr hlt))
            clear hlt
            go_wp2_with fail
            exact ⟨⟨_, cnt2, kt, true, HRG3.out, rfl, rfl, HN.out, HB3.out⟩, HMS.out⟩
          · have T1 : decide (kt < v) = false := decide_eq_false hlt
            have HN := hide (HLB.out.skip HVS.out (.inr ⟨rfl, by omega⟩))
            clear hlt
            go_wp2_with fail
            exact ⟨⟨_, cnt2, v, true, HRG3.out, rfl, rfl, HN.out, HB3.out⟩, HMS.out⟩

end Go.Proofs.Ytkbiefklilelmaa
