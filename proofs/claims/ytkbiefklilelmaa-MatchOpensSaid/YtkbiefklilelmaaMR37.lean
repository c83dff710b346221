/-
  Several texts in one: LawEnds, Lift55, RefHas. Each says at its head what it holds.
-/
import Derived.Test.YtkbiefklilelmaaMR32
import Derived.Test.YtkbiefklilelmaaMR35
import Derived.Test.YtkbiefklilelmaaMR36
import Derived.Test.YtkbiefklilelmaaMR33

/-
  wavestorelaw55.MatchEnds: true.
-/
namespace Go.Proofs.Ytkbiefklilelmaa
open Go.RowKit

theorem eql_oc (a b c d : Int) (w : World) : (binOp .eql 64 (.agg #[.int .i64 a, .int .i64 b]) (.agg #[.int .i64 c, .int .i64 d])).run Try.prog w = .ok (.bool (a == c && b == d)) w := by
  rw [run_eql_struct, eq_oc]; rfl
/-- what Run and Open answer, in one form -/
def RunG (a : Aut) (ev : List SlI) (cs : List SlV) (f t en : Int) (w : World) (e : Ending) (w' : World) : Prop :=
  ∃ (A : Option Addr) (c : Nat) (xs : List Iv) (er : Int), e = .returned (.tuple #[.slice A xs.length c, .int .i64 er]) ∧ IvsAt w' w'.heap.size A xs ∧ xs.length ≤ 960 ∧ Below w.heap.size w w' ∧ (er = 1 ∨ (er = 0 ∧ PrepOk a ev cs.length f t en ∧ IsRun (inpOf a ev cs) f t en xs))
def OpenG (a : Aut) (ev : List SlI) (cs : List SlV) (f t en : Int) (w : World) (e : Ending) (w' : World) : Prop :=
  ∃ (A : Option Addr) (c : Nat) (xs : List Int) (er : Int), e = .returned (.tuple #[.slice A xs.length c, .int .i64 er]) ∧ IntsAt w' w'.heap.size A xs ∧ xs.length ≤ 960 ∧ Below w.heap.size w w' ∧ (er = 1 ∨ (er = 0 ∧ PrepOk a ev cs.length f t en ∧ IsOpen (inpOf a ev cs) f t en xs))
theorem RunPost.g {a : Aut} {ev : List SlI} {cs : List SlV} {f t en : Int} {w w' : World} {e : Ending} (h : RunPost a ev cs f t en w e w') : RunG a ev cs f t en w e w' := by
  obtain ⟨hb, ⟨_, rfl⟩ | ⟨hp, A, c, xs, rfl, ho, hl, hr⟩⟩ := h
  · exact ⟨none, 0, [], 1, rfl, fun hx => absurd rfl hx, by simp, hb, .inl rfl⟩
  · exact ⟨A, c, xs, 0, rfl, OwnOc.ats ho, hl, hb, .inr ⟨rfl, hp, hr⟩⟩
theorem OpenPost.g {a : Aut} {ev : List SlI} {cs : List SlV} {f t en : Int} {w w' : World} {e : Ending} (h : OpenPost a ev cs f t en w e w') : OpenG a ev cs f t en w e w' := by
  obtain ⟨hb, ⟨_, rfl⟩ | ⟨hp, A, c, xs, rfl, ho, hl, hr⟩⟩ := h
  · exact ⟨none, 0, [], 1, rfl, fun hx => absurd rfl hx, by simp, hb, .inl rfl⟩
  · exact ⟨A, c, xs, 0, rfl, OwnInt.ats ho, hl, hb, .inr ⟨rfl, hp, hr⟩⟩
def EatRel (xs ys : List Iv) (w : World) (at_ i : Value) (wr : World) : Prop := ∃ k n : Nat, k ≤ ys.length ∧ i = .int .i64 k ∧ at_ = .int .i64 n ∧ Eaten xs ys k n ∧ Below w.heap.size w wr
def SeenRel (os : List Int) (m : Int) (w : World) (op i : Value) (wr : World) : Prop := ∃ j : Nat, j ≤ os.length ∧ i = .int .i64 j ∧ op = .bool (decide (m ∈ os.take j)) ∧ w = wr
theorem seen_app (m : Int) (l : List Int) (x : Int) : decide (m ∈ l ++ [x]) = (decide (m ∈ l) || (x == m)) := by
  by_cases h1 : m ∈ l
  · simp [h1]
  · by_cases h2 : m = x
    · simp [h2]
    · simp [h1, h2, Ne.symm h2]
theorem seen_next {os : List Int} {m : Int} {j : Nat} (hj : j < os.length) : decide (m ∈ os.take (j + 1)) = (decide (m ∈ os.take j) || (os[j] == m)) := by
  rw [take_succ' hj]
  exact seen_app _ _ _

set_option maxRecDepth 100000 in
set_option maxHeartbeats 8000000 in
theorem lawEnds (a : Aut) (evs cds : List Nd) (AV AC' : Option Addr) (cV cC' : Nat) (ev : List SlI) (cs : List SlV) (to_ en later : Int) (w : World) (ha : AutAt w (Lo w.heap.size) a) (ht : AutTrees w a evs cds) (hle : AutLe a) (hev : EvAt w AV ev) (hcs : CsAt w AC' cs)
    (b1 : ev.length ≤ 140737488355328) (b2 : cs.length ≤ 140737488355328) (b3 : ∀ s ∈ ev, s.xs.length ≤ 140737488355328) (b4 : ∀ s ∈ cs, s.xs.length ≤ 140737488355328) :
    Calls Try.prog 10 #[.agg (encA a).toArray, .slice AV ev.length cV, .slice AC' cs.length cC', .int .i64 to_, .int .i64 en, .int .i64 later] w (fun e w' => e = .returned (.bool true) ∧ Below w.heap.size w w') := by
  obtain ⟨W0, hW0⟩ : ∃ W0, w.alloc (.cells (encA a).toArray 50) = W0 := ⟨_, rfl⟩
  have g0 := new_at hW0
  have hb0 : Below w.heap.size w W0 := by rw [← hW0]; exact (Below.refl _ _).alloc (Nat.le_refl _) _
  have HB0 := hide hb0
  have HFEW := hide (few_any a evs cds AV AC' cV cC' ev cs W0 (ht.grow hb0) hle (hev.step hb0) (hcs.step hb0) b1 b2 b3 b4)
  have HRUN := hide (fun (hf : FewAll a ev cs) (en' : Int) (U : World) (hU : Below W0.heap.size W0 U) => (run_any a AV cV ev AC' cC' cs 0 to_ en' U ((ha.grow hb0).grow hU) hle ((hev.step hb0).step hU) ((hcs.step hb0).step hU) hf.1 hf.2.1 hf.2.2.1 hf.2.2.2.1 fun s hs => by have := hf.2.2.2.2 s hs; omega).mono fun e w' h => RunPost.g h)
  have HOPEN := hide (fun (hf : FewAll a ev cs) (en' : Int) (U : World) (hU : Below W0.heap.size W0 U) => (open_any a AV cV ev AC' cC' cs 0 to_ en' U ((ha.grow hb0).grow hU) hle ((hev.step hb0).step hU) ((hcs.step hb0).step hU) hf.1 hf.2.1 hf.2.2.1 hf.2.2.2.1 fun s hs => by have := hf.2.2.2.2 s hs; omega).mono fun e w' h => OpenPost.g h)
  obtain ⟨a', ha'⟩ : ∃ a', a = a' := ⟨_, rfl⟩
  rw [ha'] at HFEW HRUN HOPEN hW0 g0 ⊢
  obtain ⟨AE, nE, cE, AC, nC, cC, AF, cF, fin, AX, cX, edges⟩ := a
  have hX : encA a' = [.slice AE nE cE, .slice AC nC cC, .slice AF fin.length cF, .slice AX edges.length cX] := by rw [← ha']; rfl
  rw [hX] at HFEW HRUN HOPEN hW0 g0 ⊢
  have HW0 := hide hW0
  have HG0 := hide g0
  obtain ⟨y0, y1, y2, y3, -⟩ := box4 g0
  clear ha' hX hW0 g0 hb0 ha ht hle hev hcs b1 b2 b3 b4
  go_enter Try.func10, Try.ntmps10
  go_upto_region 1 with (fail)
  rw [HW0.out]
  go_cut [39] (fun v wx => ∃ z : Bool, v = .bool z ∧ Below W0.heap.size W0 wx ∧ (z = false → FewAll a' ev cs ∧ to_ ≤ en ∧ en ≤ later))
  case first =>
    obtain ⟨t1, T1⟩ : ∃ t1, decide (en < to_) = t1 := ⟨_, rfl⟩
    obtain ⟨t2, T2⟩ : ∃ t2, decide (later < en) = t2 := ⟨_, rfl⟩
    have H1 := hide (show t1 = false → to_ ≤ en from fun e => by rw [e] at T1; exact Int.not_lt.1 (of_decide_eq_false T1))
    have H2 := hide (show t2 = false → en ≤ later from fun e => by rw [e] at T2; exact Int.not_lt.1 (of_decide_eq_false T2))
    cases t1 <;> cases t2 <;>
      (go_wp2_with (
         go_at_call 30
         refine HFEW.out.mono ?_
         rintro e w2 ⟨y, rfl, hb2, hy⟩
         have HB2 := hide hb2
         have HY := hide hy
         clear hb2 hy
         cases y))
    all_goals go_meet
    all_goals exact ⟨_, rfl, HB2.out, fun e => by first | exact ⟨by first | exact HY.out rfl | exact HY.out trivial | exact HY.out, by first | exact H1.out rfl | exact H1.out trivial | exact H1.out, by first | exact H2.out rfl | exact H2.out trivial | exact H2.out⟩ | cases e⟩
  case rest =>
    obtain ⟨z, rfl, hbc, hz⟩ := hcut
    have HBC := hide hbc
    have HZ := hide hz
    clear hbc hz y0 y1 y2 y3
    cases z with
    | true =>
      go_wp2_with (go_at_call 31; refine (awake55 _).mono ?_; rintro e w3 ⟨rfl, hb3⟩; have HB3 := hide (bstep (bstep HB0.out HBC.out) hb3); clear hb3)
      go_ret
      exact ⟨rfl, HB3.out⟩
    | false =>
      obtain ⟨hfew, hte, hel⟩ := HZ.out rfl
      have HF := hide hfew
      have HTE := hide hte
      have HEL := hide hel
      clear hfew hte hel HZ HFEW
      have HR1 := hide (HRUN.out HF.out en wc HBC.out)
      obtain ⟨y0, y1, y2, y3, -⟩ := box4 ((HBC.out.block _ (box_lt HG0.out)).trans HG0.out)
      go_upto_region 4 with (go_at_call 32; refine HR1.out.mono ?_; rintro e u1 ⟨A1, c1, xs, r1, rfl, hx1, hl1, hb1, hr1⟩; have HX1 := hide hx1; have HB1 := hide hb1; have HRR1 := hide hr1; clear hx1 hb1 hr1)
      have HBU1 := hide (bstep HBC.out HB1.out)
      have HR2 := hide (HOPEN.out HF.out en u1 HBU1.out)
      clear y0 y1 y2 y3 HR1
      obtain ⟨y0, y1, y2, y3, -⟩ := box4 ((HBU1.out.block _ (box_lt HG0.out)).trans HG0.out)
      go_upto_region 5 with (go_at_call 35; refine HR2.out.mono ?_; rintro e u2 ⟨A2, c2, os, r2, rfl, hx2, hl2, hb2, hr2⟩; have HX2 := hide hx2; have HB2 := hide hb2; have HRR2 := hide hr2; clear hx2 hb2 hr2)
      have HBU2 := hide (bstep HBU1.out HB2.out)
      have HR3 := hide (HRUN.out HF.out later u2 HBU2.out)
      clear y0 y1 y2 y3 HR2
      obtain ⟨y0, y1, y2, y3, -⟩ := box4 ((HBU2.out.block _ (box_lt HG0.out)).trans HG0.out)
      go_upto_region 6 with (go_at_call 32; refine HR3.out.mono ?_; rintro e u3 ⟨A3, c3, ys, r3, rfl, hx3, hl3, hb3, hr3⟩; have HX3 := hide hx3; have HB3 := hide hb3; have HRR3 := hide hr3; clear hx3 hb3 hr3)
      have HBU3 := hide (bstep HBU2.out HB3.out)
      have HBW := hide (bstep HB0.out HBU3.out)
      clear y0 y1 y2 y3 HR3 HRUN HOPEN
      rcases HRR1.out with h1 | ⟨h1, hp, hrun1⟩
      · subst h1
        go_wp2_with (go_at_call 31; refine (awake55 _).mono ?_; rintro e w3 ⟨rfl, hb3⟩; have HB5 := hide (bstep HBW.out hb3); clear hb3)
        go_ret
        exact ⟨rfl, HB5.out⟩
      · subst h1
        have HPO := hide hp
        have HRN1 := hide hrun1
        clear hp hrun1
        rcases HRR2.out with h2 | ⟨h2, _, hrun2⟩
        · subst h2
          go_wp2_with (go_at_call 31; refine (awake55 _).mono ?_; rintro e w3 ⟨rfl, hb3⟩; have HB5 := hide (bstep HBW.out hb3); clear hb3)
          go_ret
          exact ⟨rfl, HB5.out⟩
        · subst h2
          have HRN2 := hide hrun2
          clear hrun2
          rcases HRR3.out with h3 | ⟨h3, _, hrun3⟩
          · subst h3
            go_wp2_with (go_at_call 31; refine (awake55 _).mono ?_; rintro e w3 ⟨rfl, hb3⟩; have HB5 := hide (bstep HBW.out hb3); clear hb3)
            go_ret
            exact ⟨rfl, HB5.out⟩
          · subst h3
            have HRN3 := hide hrun3
            clear hrun3
            have hlow : ∀ e ∈ (inpOf a' ev cs).edges, 0 ≤ e.low := fun e he => by
              have hb := HPO.out.1
              unfold prepB at hb
              rw [Bool.and_eq_true] at hb
              exact ((valid_edge hb.1).2.1 e he).l0
            have HLAW := hide (ends_law hlow HTE.out HEL.out HRN1.out HRN3.out HRN2.out)
            have HXP := hide HRN1.out.1
            have HYP := hide HRN3.out.1
            clear hlow HPO HF HRN1 HRN2 HRN3 HRR1 HRR2 HRR3 HTE HEL
            have HXS := hide (HX1.out.step (bstep HB2.out HB3.out))
            have HOS := hide (HX2.out.step HB3.out)
            clear HX1 HX2
            go_wp2_with fail
            go_loopw [19, 81] (fun at_ i wr => EatRel xs ys u3 at_ i wr) (fun _ i _ => ys.length - (intOf i).toNat)
            case atStart => exact ⟨0, 0, Nat.zero_le _, rfl, rfl, Eaten.zero HLAW.out.1, Below.refl _ _⟩
            case round =>
              obtain ⟨k, n, hk, rfl, rfl, heat, hbr⟩ := hrel
              have HEAT := hide heat
              have HBR := hide hbr
              clear heat hbr
              by_cases hlt : k < ys.length
              · obtain ⟨by_, oy, rfl, hby, e0, e1⟩ := (HX3.out.step HBR.out).at_ hlt
                have hk' : ys[k]? = some ys[k] := List.getElem?_eq_getElem hlt
                generalize ys[k] = mm at *
                obtain ⟨m1, m2⟩ := mm
                dsimp only at e0 e1
                have HK := hide hk'
                clear hk'
                obtain ⟨U4, hU4⟩ : ∃ U4, wr.alloc (.cells #[.int .i64 m1, .int .i64 m2] 64) = U4 := ⟨_, rfl⟩
                have g4 := new_at hU4
                have hb4 : Below wr.heap.size wr U4 := by rw [← hU4]; exact (Below.refl _ _).alloc (Nat.le_refl _) _
                have HB4 := hide (bstep HBR.out hb4)
                go_upto_region 12 with (fail)
                have HXN := hide (HXS.out.step HB4.out)
                have HON := hide (HOS.out.step HB4.out)
                obtain ⟨v0, v1, -, -⟩ := box2 g4
                have HG4 := hide g4
                clear e0 e1 hU4 g4 hb4
                go_cut [96] (fun v wx => ∃ z : Bool, v = .bool z ∧ (z = true ↔ xs[n]? = some (m1, m2)) ∧ Below U4.heap.size U4 wx)
                case first =>
                  by_cases hn : n < xs.length
                  · have T1 : decide ((n : Int) < (xs.length : Int)) = true := decide_eq_true (by omega)
                    obtain ⟨bx, ox, rfl, hbx, f0, f1⟩ := HXN.out.at_ hn
                    have hq := eql_oc xs[n].1 xs[n].2 m1 m2
                    have HV := hide (show (xs[n].1 == m1 && xs[n].2 == m2) = true ↔ xs[n]? = some (m1, m2) from by
                      rw [List.getElem?_eq_getElem hn]
                      generalize xs[n] = p
                      obtain ⟨p1, p2⟩ := p
                      by_cases q1 : p1 = m1 <;> by_cases q2 : p2 = m2 <;> simp [q1, q2])
                    generalize xs[n] = p at *
                    go_quiet (fail)
                    go_wp2_with fail
                    go_meet
                    exact ⟨_, rfl, HV.out, below_drewN (Below.refl _ _) nq⟩
                  · have T1 : decide ((n : Int) < (xs.length : Int)) = false := decide_eq_false (by omega)
                    have HV := hide (show false = true ↔ xs[n]? = some (m1, m2) from by rw [List.getElem?_eq_none (by omega)]; simp)
                    go_quiet (fail)
                    go_wp2_with fail
                    go_meet
                    exact ⟨false, rfl, HV.out, below_drewN (Below.refl _ _) nq⟩
                case rest =>
                  obtain ⟨z, rfl, hz, hbw⟩ := hcut
                  have HBX := hide (bstep HB4.out hbw)
                  have HONX := hide (HON.out.step hbw)
                  have HZ := hide hz
                  obtain ⟨v0, v1, -, -⟩ := box2 ((hbw.block _ (box_lt HG4.out)).trans HG4.out)
                  clear hz hbw HON HXN
                  cases z with
                  | true =>
                    have HE1 := hide (HEAT.out.hit HXP.out HK.out (HZ.out.1 rfl))
                    have hnx : n < xs.length := by have := HE1.out.1; omega
                    go_wp2_with fail
                    exact ⟨⟨k + 1, n + 1, hlt, by go_num, by go_num, HE1.out, HBX.out⟩, by simp [intOf]; omega⟩
                  | false =>
                    obtain ⟨heat2, hnm⟩ := HEAT.out.miss HXP.out HYP.out HK.out (fun e => by have := HZ.out.2 e; cases this)
                    obtain ⟨hmo, hem⟩ := HLAW.out.2 _ (List.mem_of_getElem? HK.out) hnm
                    dsimp only at hmo hem
                    have HEA2 := hide heat2
                    have HMO := hide hmo
                    have T2 : decide (m2 ≤ en) = false := decide_eq_false (by omega)
                    clear heat2 hnm hmo hem
                    go_wp2_with fail
                    go_loopw [22, 101] (fun op i wq => SeenRel os m1 wc op i wq) (fun _ i _ => os.length - (intOf i).toNat)
                    case atStart => exact ⟨0, Nat.zero_le _, rfl, by simp, rfl⟩
                    case round =>
                      obtain ⟨j, hj, rfl, rfl, rfl⟩ := hrel
                      by_cases hlt2 : j < os.length
                      · obtain ⟨bo, oo, rfl, hbo, e0⟩ := HONX.out.at_ hlt2
                        have HSN := hide (seen_next (m := m1) hlt2)
                        generalize os[j] = q at *
                        generalize decide (m1 ∈ os.take j) = o at *
                        cases o with
                        | true =>
                          go_wp2_with fail
                          exact ⟨⟨j + 1, hlt2, by go_num, by rw [HSN.out]; rfl, rfl⟩, by simp [intOf]; omega⟩
                        | false =>
                          go_wp2_with fail
                          exact ⟨⟨j + 1, hlt2, by go_num, by rw [HSN.out]; rfl, rfl⟩, by simp [intOf]; omega⟩
                      · have hto : decide (m1 ∈ os.take j) = true := decide_eq_true (by rw [List.take_of_length_le (by omega)]; exact HMO.out)
                        generalize decide (m1 ∈ os.take j) = o at *
                        subst hto
                        go_wp2_with fail
                        exact ⟨⟨k + 1, n, hlt, by go_num, rfl, HEA2.out, HBX.out⟩, by simp [intOf]; omega⟩
              · have hke : k = ys.length := by omega
                subst hke
                have hdone := HEAT.out.done
                subst hdone
                have T1 : ((xs.length : Int) == (xs.length : Int)) = true := beq_self_eq_true _
                go_wp2_with (go_at_call 31; refine (awake55 _).mono ?_; rintro e w3 ⟨rfl, hb3⟩; have HB5 := hide (bstep (bstep HBW.out HBR.out) hb3); clear hb3)
                go_ret
                exact ⟨rfl, HB5.out⟩

end Go.Proofs.Ytkbiefklilelmaa

/-
  The walk of MatchEnds, in the order in which the lift hands on what it has read.
-/
namespace Go.Proofs.Ytkbiefklilelmaa
open Go.ChangeShapes Go.WideShapes Go.ChangeAt Go.RowKit Go.Deep

def AutIn (W : World) (a : Aut) : Prop := AutAt W (Lo W.heap.size) a ∧ (∃ evs cds, AutTrees W a evs cds) ∧ AutLe a
theorem rd_auto {H : Type} {enc : TypeId × Value → H} {W : World} {base : Nat} {spare : Nat → Bool} {held : Bool} {fuel : Nat} {cs : List Value} {y : DataW H × List MemPlace} (h : DataW.trod enc Try.prog W base spare held fuel 50 cs = some y) (hf : Fit Try.prog 50 y.1) : ∃ a : Aut, cs = encA a ∧ AutIn W a := by
  obtain ⟨a, evs, cds, e, h1, h2, h3⟩ := rd_aut h hf
  exact ⟨a, e, h1, ⟨evs, cds, h2⟩, h3⟩
theorem ends_walk (a : Aut) (A1 : Option Addr) (c1 : Nat) (ev : List SlI) (A2 : Option Addr) (c2 : Nat) (cs : List SlV) (to_ en later : Int) (W : World) (g : AutIn W a) (e1 : EvAt W A1 ev) (e2 : ∀ s ∈ ev, s.xs.length ≤ 140737488355328) (e3 : ev.length ≤ 140737488355328) (f1 : CsAt W A2 cs) (f2 : ∀ s ∈ cs, s.xs.length ≤ 140737488355328) (f3 : cs.length ≤ 140737488355328)
    (_ : I64 to_) (_ : I64 en) (_ : I64 later) : Calls Try.prog 10 #[.agg (encA a).toArray, .slice A1 ev.length c1, .slice A2 cs.length c2, .int .i64 to_, .int .i64 en, .int .i64 later] W (fun e w' => e = .returned (.bool true) ∧ Below W.heap.size W w') := by
  obtain ⟨h1, ⟨evs, cds, h2⟩, h3⟩ := g
  exact lawEnds a evs cds A1 A2 c1 c2 ev cs to_ en later W h1 h2 h3 e1 f1 e3 f3 e2 f2

end Go.Proofs.Ytkbiefklilelmaa

/-
  wavestoreref55.has: whether a list contains a number.
-/
namespace Go.Proofs.Ytkbiefklilelmaa
open Go.RowKit

def HasRel (l : List Int) (n : Int) (w : World) (i : Value) (wr : World) : Prop := ∃ k : Nat, k ≤ l.length ∧ i = .int .i64 k ∧ w = wr ∧ decide (n ∈ l.take k) = false
set_option maxHeartbeats 1000000 in
theorem rhas_any (A : Option Addr) (c : Nat) (l : List Int) (n : Int) (w : World) (h : IntsAt w w.heap.size A l) (hl : l.length ≤ 140737488355328) :
    Calls Try.prog 89 #[.slice A l.length c, .int .i64 n] w (fun e w' => e = .returned (.bool (decide (n ∈ l))) ∧ w = w') := by
  have H := hide h
  clear h
  go_enter Try.func89, Try.ntmps89
  go_wp2_with fail
  go_loopw [5] (fun i wr => HasRel l n w i wr) (fun i _ => l.length - (intOf i).toNat)
  case atStart => exact ⟨0, Nat.zero_le _, rfl, rfl, by simp⟩
  case round =>
    obtain ⟨k, hk, rfl, rfl, hno⟩ := hrel
    have HNO := hide hno
    clear hno
    by_cases hlt : k < l.length
    · obtain ⟨b, o, rfl, hb, e0⟩ := H.out.at_ hlt
      have HSN := hide (seen_next (m := n) hlt)
      have HM := hide (List.getElem_mem hlt)
      generalize l[k] = q at *
      by_cases hq : q = n
      · have T1 : (q == n) = true := beq_iff_eq.2 hq
        have HE := hide (show (Ending.returned (.bool true) : Ending) = .returned (.bool (decide (n ∈ l))) from by rw [decide_eq_true (by rw [← hq]; exact HM.out)])
        clear hq
        go_wp2_with fail
        go_ret
        exact ⟨HE.out, rfl⟩
      · have T1 : (q == n) = false := beq_eq_false_iff_ne.2 hq
        have HN := hide (show decide (n ∈ l.take (k + 1)) = false from by rw [HSN.out, HNO.out, T1]; rfl)
        clear hq HSN
        go_wp2_with fail
        exact ⟨⟨k + 1, hlt, by go_num, rfl, HN.out⟩, by simp [intOf]; omega⟩
    · have HE := hide (show (Ending.returned (.bool false) : Ending) = .returned (.bool (decide (n ∈ l))) from by have h1 := HNO.out; rw [List.take_of_length_le (by omega)] at h1; rw [h1])
      go_wp2_with fail
      go_ret
      exact ⟨HE.out, rfl⟩

end Go.Proofs.Ytkbiefklilelmaa
