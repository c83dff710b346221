/-
  Several texts in one: LawEnds, Lift55, PartsS, Ops, Shift. Each says at its head what it holds.
-/
import Derived.Test.YtkbiefklilelmaaMP14
import Derived.Test.YtkbiefklilelmaaMP15
import Derived.Test.YtkbiefklilelmaaMP13
import Derived.Test.YtkbiefklilelmaaMP7

/-
  wavestorelaw55.MatchEnds: true.
-/
namespace Go.Proofs.Ytkbiefklilelmaa
open Go.RowKit

theorem eql_oc (a b c d : Int) (w : World) : (binOp .eql 64 (.agg #[.int .i64 a, .int .i64 b]) (.agg #[.int .i64 c, .int .i64 d])).run Try.prog w = .ok (.bool (a == c && b == d)) w := by
  rw [run_eql_struct, eq_oc]; rfl
/-- what Run and Open answer, in one form -/
def RunG (a : Aut) (ev : List SlI) (cs : List SlV) (f t en : Int) (w : World) (e : Ending) (w' : World) : Prop :=
  ∃ (A : Option Addr) (c : Nat) (xs : List Iv) (er : Int), e = .returned (.tuple #[.slice A xs.length c, .int .i64 er]) ∧ IvsAt w' w'.heap.size A xs ∧ xs.length ≤ 960 ∧ Below w.heap.size w w' ∧ (er = 1 ∨ (er = 0 ∧ PrepOk a ev cs.length f t en ∧ IsRun (inpOf a ev cs) f t en xs))
def OpenG (a : Aut) (ev : List SlI) (cs : List SlV) (f t en : Int) (w : World) (e : Ending) (w' : World) : Prop :=
  ∃ (A : Option Addr) (c : Nat) (xs : List Int) (er : Int), e = .returned (.tuple #[.slice A xs.length c, .int .i64 er]) ∧ IntsAt w' w'.heap.size A xs ∧ xs.length ≤ 960 ∧ Below w.heap.size w w' ∧ (er = 1 ∨ (er = 0 ∧ PrepOk a ev cs.length f t en ∧ IsOpen (inpOf a ev cs) f t en xs))
theorem RunPost.g {a : Aut} {ev : List SlI} {cs : List SlV} {f t en : Int} {w w' : World} {e : Ending} (h : RunPost a ev cs f t en w e w') : RunG a ev cs f t en w e w' := by
  obtain ⟨hb, ⟨_, rfl⟩ | ⟨hp, A, c, xs, rfl, ho, hl, hr⟩⟩ := h
  · exact ⟨none, 0, [], 1, rfl, fun hx => absurd rfl hx, by simp, hb, .inl rfl⟩
  · exact ⟨A, c, xs, 0, rfl, OwnOc.ats ho, hl, hb, .inr ⟨rfl, hp, hr⟩⟩
theorem OpenPost.g {a : Aut} {ev : List SlI} {cs : List SlV} {f t en : Int} {w w' : World} {e : Ending} (h : OpenPost a ev cs f t en w e w') : OpenG a ev cs f t en w e w' := by
  obtain ⟨hb, ⟨_, rfl⟩ | ⟨hp, A, c, xs, rfl, ho, hl, hr⟩⟩ := h
  · exact ⟨none, 0, [], 1, rfl, fun hx => absurd rfl hx, by simp, hb, .inl rfl⟩
  · exact ⟨A, c, xs, 0, rfl, OwnInt.ats ho, hl, hb, .inr ⟨rfl, hp, hr⟩⟩
def EatRel (xs ys : List Iv) (w : World) (at_ i : Value) (wr : World) : Prop := ∃ k n : Nat, k ≤ ys.length ∧ i = .int .i64 k ∧ at_ = .int .i64 n ∧ Eaten xs ys k n ∧ Below w.heap.size w wr
def SeenRel (os : List Int) (m : Int) (w : World) (op i : Value) (wr : World) : Prop := ∃ j : Nat, j ≤ os.length ∧ i = .int .i64 j ∧ op = .bool (decide (m ∈ os.take j)) ∧ w = wr
theorem seen_app (m : Int) (l : List Int) (x : Int) : decide (m ∈ l ++ [x]) = (decide (m ∈ l) || (x == m)) := by
  by_cases h1 : m ∈ l
  · simp [h1]
  · by_cases h2 : m = x
    · simp [h2]
    · simp [h1, h2, Ne.symm h2]
theorem seen_next {os : List Int} {m : Int} {j : Nat} (hj : j < os.length) : decide (m ∈ os.take (j + 1)) = (decide (m ∈ os.take j) || (os[j] == m)) := by
  rw [take_succ' hj]
  exact seen_app _ _ _

set_option maxRecDepth 100000 in
set_option maxHeartbeats 8000000 in
theorem lawEnds (a : Aut) (evs cds : List Nd) (AV AC' : Option Addr) (cV cC' : Nat) (ev : List SlI) (cs : List SlV) (to_ en later : Int) (w : World) (ha : AutAt w (Lo w.heap.size) a) (ht : AutTrees w a evs cds) (hle : AutLe a) (hev : EvAt w AV ev) (hcs : CsAt w AC' cs)
    (b1 : ev.length ≤ 140737488355328) (b2 : cs.length ≤ 140737488355328) (b3 : ∀ s ∈ ev, s.xs.length ≤ 140737488355328) (b4 : ∀ s ∈ cs, s.xs.length ≤ 140737488355328) :
    Calls Try.prog 10 #[.agg (encA a).toArray, .slice AV ev.length cV, .slice AC' cs.length cC', .int .i64 to_, .int .i64 en, .int .i64 later] w (fun e w' => e = .returned (.bool true) ∧ Below w.heap.size w w') := by
  obtain ⟨W0, hW0⟩ : ∃ W0, w.alloc (.cells (encA a).toArray 50) = W0 := ⟨_, rfl⟩
  have g0 := new_at hW0
  have hb0 : Below w.heap.size w W0 := by rw [← hW0]; exact (Below.refl _ _).alloc (Nat.le_refl _) _
  have HB0 := hide hb0
  have HFEW := hide (few_any a evs cds AV AC' cV cC' ev cs W0 (ht.grow hb0) hle (hev.step hb0) (hcs.step hb0) b1 b2 b3 b4)
  have HRUN := hide (fun (hf : FewAll a ev cs) (en' : Int) (U : World) (hU : Below W0.heap.size W0 U) => (run_any a AV cV ev AC' cC' cs 0 to_ en' U ((ha.grow hb0).grow hU) hle ((hev.step hb0).step hU) ((hcs.step hb0).step hU) hf.1 hf.2.1 hf.2.2.1 hf.2.2.2.1 fun s hs => by have := hf.2.2.2.2 s hs; omega).mono fun e w' h => RunPost.g h)
  have HOPEN := hide (fun (hf : FewAll a ev cs) (en' : Int) (U : World) (hU : Below W0.heap.size W0 U) => (open_any a AV cV ev AC' cC' cs 0 to_ en' U ((ha.grow hb0).grow hU) hle ((hev.step hb0).step hU) ((hcs.step hb0).step hU) hf.1 hf.2.1 hf.2.2.1 hf.2.2.2.1 fun s hs => by have := hf.2.2.2.2 s hs; omega).mono fun e w' h => OpenPost.g h)
  obtain ⟨a', ha'⟩ : ∃ a', a = a' := ⟨_, rfl⟩
  rw [ha'] at HFEW HRUN HOPEN hW0 g0 ⊢
  obtain ⟨AE, nE, cE, AC, nC, cC, AF, cF, fin, AX, cX, edges⟩ := a
  have hX : encA a' = [.slice AE nE cE, .slice AC nC cC, .slice AF fin.length cF, .slice AX edges.length cX] := by rw [← ha']; rfl
  rw [hX] at HFEW HRUN HOPEN hW0 g0 ⊢
  have HW0 := hide hW0
  have HG0 := hide g0
  obtain ⟨y0, y1, y2, y3, -⟩ := box4 g0
  clear ha' hX hW0 g0 hb0 ha ht hle hev hcs b1 b2 b3 b4
  go_enter Try.func10, Try.ntmps10
  go_upto_region 1 with (fail)
  rw [HW0.out]
  go_cut [39] (fun v wx => ∃ z : Bool, v = .bool z ∧ Below W0.heap.size W0 wx ∧ (z = false → FewAll a' ev cs ∧ to_ ≤ en ∧ en ≤ later))
  case first =>
    obtain ⟨t1, T1⟩ : ∃ t1, decide (en < to_) = t1 := ⟨_, rfl⟩
    obtain ⟨t2, T2⟩ : ∃ t2, decide (later < en) = t2 := ⟨_, rfl⟩
    have H1 := hide (show t1 = false → to_ ≤ en from fun e => by rw [e] at T1; exact Int.not_lt.1 (of_decide_eq_false T1))
    have H2 := hide (show t2 = false → en ≤ later from fun e => by rw [e] at T2; exact Int.not_lt.1 (of_decide_eq_false T2))
    cases t1 <;> cases t2 <;>
      (go_wp2_with (
         go_at_call 30
         refine HFEW.out.mono ?_
         rintro e w2 ⟨y, rfl, hb2, hy⟩
         have HB2 := hide hb2
         have HY := hide hy
         clear hb2 hy
         cases y))
    all_goals go_meet
    all_goals exact ⟨_, rfl, HB2.out, fun e => by first | exact ⟨by first | exact HY.out rfl | exact HY.out trivial | exact HY.out, by first | exact H1.out rfl | exact H1.out trivial | exact H1.out, by first | exact H2.out rfl | exact H2.out trivial | exact H2.out⟩ | cases e⟩
  case rest =>
    obtain ⟨z, rfl, hbc, hz⟩ := hcut
    have HBC := hide hbc
    have HZ := hide hz
    clear hbc hz y0 y1 y2 y3
    cases z with
    | true =>
      go_wp2_with (go_at_call 31; refine (awake55 _).mono ?_; rintro e w3 ⟨rfl, hb3⟩; have HB3 := hide (bstep (bstep HB0.out HBC.out) hb3); clear hb3)
      go_ret
      exact ⟨rfl, HB3.out⟩
    | false =>
      obtain ⟨hfew, hte, hel⟩ := HZ.out rfl
      have HF := hide hfew
      have HTE := hide hte
      have HEL := hide hel
      clear hfew hte hel HZ HFEW
      have HR1 := hide (HRUN.out HF.out en wc HBC.out)
      obtain ⟨y0, y1, y2, y3, -⟩ := box4 ((HBC.out.block _ (box_lt HG0.out)).trans HG0.out)
      go_upto_region 4 with (go_at_call 32; refine HR1.out.mono ?_; rintro e u1 ⟨A1, c1, xs, r1, rfl, hx1, hl1, hb1, hr1⟩; have HX1 := hide hx1; have HB1 := hide hb1; have HRR1 := hide hr1; clear hx1 hb1 hr1)
      have HBU1 := hide (bstep HBC.out HB1.out)
      have HR2 := hide (HOPEN.out HF.out en u1 HBU1.out)
      clear y0 y1 y2 y3 HR1
      obtain ⟨y0, y1, y2, y3, -⟩ := box4 ((HBU1.out.block _ (box_lt HG0.out)).trans HG0.out)
      go_upto_region 5 with (go_at_call 35; refine HR2.out.mono ?_; rintro e u2 ⟨A2, c2, os, r2, rfl, hx2, hl2, hb2, hr2⟩; have HX2 := hide hx2; have HB2 := hide hb2; have HRR2 := hide hr2; clear hx2 hb2 hr2)
      have HBU2 := hide (bstep HBU1.out HB2.out)
      have HR3 := hide (HRUN.out HF.out later u2 HBU2.out)
      clear y0 y1 y2 y3 HR2
      obtain ⟨y0, y1, y2, y3, -⟩ := box4 ((HBU2.out.block _ (box_lt HG0.out)).trans HG0.out)
      go_upto_region 6 with (go_at_call 32; refine HR3.out.mono ?_; rintro e u3 ⟨A3, c3, ys, r3, rfl, hx3, hl3, hb3, hr3⟩; have HX3 := hide hx3; have HB3 := hide hb3; have HRR3 := hide hr3; clear hx3 hb3 hr3)
      have HBU3 := hide (bstep HBU2.out HB3.out)
      have HBW := hide (bstep HB0.out HBU3.out)
      clear y0 y1 y2 y3 HR3 HRUN HOPEN
      rcases HRR1.out with h1 | ⟨h1, hp, hrun1⟩
      · subst h1
        go_wp2_with (go_at_call 31; refine (awake55 _).mono ?_; rintro e w3 ⟨rfl, hb3⟩; have HB5 := hide (bstep HBW.out hb3); clear hb3)
        go_ret
        exact ⟨rfl, HB5.out⟩
      · subst h1
        have HPO := hide hp
        have HRN1 := hide hrun1
        clear hp hrun1
        rcases HRR2.out with h2 | ⟨h2, _, hrun2⟩
        · subst h2
          go_wp2_with (go_at_call 31; refine (awake55 _).mono ?_; rintro e w3 ⟨rfl, hb3⟩; have HB5 := hide (bstep HBW.out hb3); clear hb3)
          go_ret
          exact ⟨rfl, HB5.out⟩
        · subst h2
          have HRN2 := hide hrun2
          clear hrun2
          rcases HRR3.out with h3 | ⟨h3, _, hrun3⟩
          · subst h3
            go_wp2_with (go_at_call 31; refine (awake55 _).mono ?_; rintro e w3 ⟨rfl, hb3⟩; have HB5 := hide (bstep HBW.out hb3); clear hb3)
            go_ret
            exact ⟨rfl, HB5.out⟩
          · subst h3
            have HRN3 := hide hrun3
            clear hrun3
            have hlow : ∀ e ∈ (inpOf a' ev cs).edges, 0 ≤ e.low := fun e he => by
              have hb := HPO.out.1
              unfold prepB at hb
              rw [Bool.and_eq_true] at hb
              exact ((valid_edge hb.1).2.1 e he).l0
            have HLAW := hide (ends_law hlow HTE.out HEL.out HRN1.out HRN3.out HRN2.out)
            have HXP := hide HRN1.out.1
            have HYP := hide HRN3.out.1
            clear hlow HPO HF HRN1 HRN2 HRN3 HRR1 HRR2 HRR3 HTE HEL
            have HXS := hide (HX1.out.step (bstep HB2.out HB3.out))
            have HOS := hide (HX2.out.step HB3.out)
            clear HX1 HX2
            go_wp2_with fail
            go_loopw [19, 81] (fun at_ i wr => EatRel xs ys u3 at_ i wr) (fun _ i _ => ys.length - (intOf i).toNat)
            case atStart => exact ⟨0, 0, Nat.zero_le _, rfl, rfl, Eaten.zero HLAW.out.1, Below.refl _ _⟩
            case round =>
              obtain ⟨k, n, hk, rfl, rfl, heat, hbr⟩ := hrel
              have HEAT := hide heat
              have HBR := hide hbr
              clear heat hbr
              by_cases hlt : k < ys.length
              · obtain ⟨by_, oy, rfl, hby, e0, e1⟩ := (HX3.out.step HBR.out).at_ hlt
                have hk' : ys[k]? = some ys[k] := List.getElem?_eq_getElem hlt
                generalize ys[k] = mm at *
                obtain ⟨m1, m2⟩ := mm
                dsimp only at e0 e1
                have HK := hide hk'
                clear hk'
                obtain ⟨U4, hU4⟩ : ∃ U4, wr.alloc (.cells #[.int .i64 m1, .int .i64 m2] 64) = U4 := ⟨_, rfl⟩
                have g4 := new_at hU4
                have hb4 : Below wr.heap.size wr U4 := by rw [← hU4]; exact (Below.refl _ _).alloc (Nat.le_refl _) _
                have HB4 := hide (bstep HBR.out hb4)
                go_upto_region 12 with (fail)
                have HXN := hide (HXS.out.step HB4.out)
                have HON := hide (HOS.out.step HB4.out)
                obtain ⟨v0, v1, -, -⟩ := box2 g4
                have HG4 := hide g4
                clear e0 e1 hU4 g4 hb4
                go_cut [96] (fun v wx => ∃ z : Bool, v = .bool z ∧ (z = true ↔ xs[n]? = some (m1, m2)) ∧ Below U4.heap.size U4 wx)
                case first =>
                  by_cases hn : n < xs.length
                  · have T1 : decide ((n : Int) < (xs.length : Int)) = true := decide_eq_true (by omega)
                    obtain ⟨bx, ox, rfl, hbx, f0, f1⟩ := HXN.out.at_ hn
                    have hq := eql_oc xs[n].1 xs[n].2 m1 m2
                    have HV := hide (show (xs[n].1 == m1 && xs[n].2 == m2) = true ↔ xs[n]? = some (m1, m2) from by
                      rw [List.getElem?_eq_getElem hn]
                      generalize xs[n] = p
                      obtain ⟨p1, p2⟩ := p
                      by_cases q1 : p1 = m1 <;> by_cases q2 : p2 = m2 <;> simp [q1, q2])
                    generalize xs[n] = p at *
                    go_quiet (fail)
                    go_wp2_with fail
                    go_meet
                    exact ⟨_, rfl, HV.out, below_drewN (Below.refl _ _) nq⟩
                  · have T1 : decide ((n : Int) < (xs.length : Int)) = false := decide_eq_false (by omega)
                    have HV := hide (show false = true ↔ xs[n]? = some (m1, m2) from by rw [List.getElem?_eq_none (by omega)]; simp)
                    go_quiet (fail)
                    go_wp2_with fail
                    go_meet
                    exact ⟨false, rfl, HV.out, below_drewN (Below.refl _ _) nq⟩
                case rest =>
                  obtain ⟨z, rfl, hz, hbw⟩ := hcut
                  have HBX := hide (bstep HB4.out hbw)
                  have HONX := hide (HON.out.step hbw)
                  have HZ := hide hz
                  obtain ⟨v0, v1, -, -⟩ := box2 ((hbw.block _ (box_lt HG4.out)).trans HG4.out)
                  clear hz hbw HON HXN
                  cases z with
                  | true =>
                    have HE1 := hide (HEAT.out.hit HXP.out HK.out (HZ.out.1 rfl))
                    have hnx : n < xs.length := by have := HE1.out.1; omega
                    go_wp2_with fail
                    exact ⟨⟨k + 1, n + 1, hlt, by go_num, by go_num, HE1.out, HBX.out⟩, by simp [intOf]; omega⟩
                  | false =>
                    obtain ⟨heat2, hnm⟩ := HEAT.out.miss HXP.out HYP.out HK.out (fun e => by have := HZ.out.2 e; cases this)
                    obtain ⟨hmo, hem⟩ := HLAW.out.2 _ (List.mem_of_getElem? HK.out) hnm
                    dsimp only at hmo hem
                    have HEA2 := hide heat2
                    have HMO := hide hmo
                    have T2 : decide (m2 ≤ en) = false := decide_eq_false (by omega)
                    clear heat2 hnm hmo hem
                    go_wp2_with fail
                    go_loopw [22, 101] (fun op i wq => SeenRel os m1 wc op i wq) (fun _ i _ => os.length - (intOf i).toNat)
                    case atStart => exact ⟨0, Nat.zero_le _, rfl, by simp, rfl⟩
                    case round =>
                      obtain ⟨j, hj, rfl, rfl, rfl⟩ := hrel
                      by_cases hlt2 : j < os.length
                      · obtain ⟨bo, oo, rfl, hbo, e0⟩ := HONX.out.at_ hlt2
                        have HSN := hide (seen_next (m := m1) hlt2)
                        generalize os[j] = q at *
                        generalize decide (m1 ∈ os.take j) = o at *
                        cases o with
                        | true =>
                          go_wp2_with fail
                          exact ⟨⟨j + 1, hlt2, by go_num, by rw [HSN.out]; rfl, rfl⟩, by simp [intOf]; omega⟩
                        | false =>
                          go_wp2_with fail
                          exact ⟨⟨j + 1, hlt2, by go_num, by rw [HSN.out]; rfl, rfl⟩, by simp [intOf]; omega⟩
                      · have hto : decide (m1 ∈ os.take j) = true := decide_eq_true (by rw [List.take_of_length_le (by omega)]; exact HMO.out)
                        generalize decide (m1 ∈ os.take j) = o at *
                        subst hto
                        go_wp2_with fail
                        exact ⟨⟨k + 1, n, hlt, by go_num, rfl, HEA2.out, HBX.out⟩, by simp [intOf]; omega⟩
              · have hke : k = ys.length := by omega
                subst hke
                have hdone := HEAT.out.done
                subst hdone
                have T1 : ((xs.length : Int) == (xs.length : Int)) = true := beq_self_eq_true _
                go_wp2_with (go_at_call 31; refine (awake55 _).mono ?_; rintro e w3 ⟨rfl, hb3⟩; have HB5 := hide (bstep (bstep HBW.out HBR.out) hb3); clear hb3)
                go_ret
                exact ⟨rfl, HB5.out⟩

end Go.Proofs.Ytkbiefklilelmaa

/-
  The walk of MatchEnds, in the order in which the lift hands on what it has read.
-/
namespace Go.Proofs.Ytkbiefklilelmaa
open Go.ChangeShapes Go.WideShapes Go.ChangeAt Go.RowKit Go.Deep

def AutIn (W : World) (a : Aut) : Prop := AutAt W (Lo W.heap.size) a ∧ (∃ evs cds, AutTrees W a evs cds) ∧ AutLe a
theorem rd_auto {H : Type} {enc : TypeId × Value → H} {W : World} {base : Nat} {spare : Nat → Bool} {held : Bool} {fuel : Nat} {cs : List Value} {y : DataW H × List MemPlace} (h : DataW.trod enc Try.prog W base spare held fuel 50 cs = some y) (hf : Fit Try.prog 50 y.1) : ∃ a : Aut, cs = encA a ∧ AutIn W a := by
  obtain ⟨a, evs, cds, e, h1, h2, h3⟩ := rd_aut h hf
  exact ⟨a, e, h1, ⟨evs, cds, h2⟩, h3⟩
theorem ends_walk (a : Aut) (A1 : Option Addr) (c1 : Nat) (ev : List SlI) (A2 : Option Addr) (c2 : Nat) (cs : List SlV) (to_ en later : Int) (W : World) (g : AutIn W a) (e1 : EvAt W A1 ev) (e2 : ∀ s ∈ ev, s.xs.length ≤ 140737488355328) (e3 : ev.length ≤ 140737488355328) (f1 : CsAt W A2 cs) (f2 : ∀ s ∈ cs, s.xs.length ≤ 140737488355328) (f3 : cs.length ≤ 140737488355328)
    (_ : I64 to_) (_ : I64 en) (_ : I64 later) : Calls Try.prog 10 #[.agg (encA a).toArray, .slice A1 ev.length c1, .slice A2 cs.length c2, .int .i64 to_, .int .i64 en, .int .i64 later] W (fun e w' => e = .returned (.bool true) ∧ Below W.heap.size W w') := by
  obtain ⟨h1, ⟨evs, cds, h2⟩, h3⟩ := g
  exact lawEnds a evs cds A1 A2 c1 c2 ev cs to_ en later W h1 h2 h3 e1 f1 e3 f3 e2 f2

end Go.Proofs.Ytkbiefklilelmaa

/-
  MatchParts: the times up to an end, moved; the sets, moved. No program in sight.
-/
namespace Go.Proofs.Ytkbiefklilelmaa

/-- the times up to an end, to each of which a number is added -/
def cutE (en by_ : Int) (l : List Int) : List Int := (l.takeWhile fun t => decide (t ≤ en)).map (· + by_)
theorem mem_take {en t : Int} (ht : t ≤ en) : ∀ {l : List Int}, l.Pairwise (· < ·) → (t ∈ l ↔ t ∈ l.takeWhile fun t => decide (t ≤ en))
  | [], _ => by simp
  | x :: xs, h => by
    rw [List.pairwise_cons] at h
    by_cases hx : x ≤ en
    · rw [List.takeWhile_cons_of_pos (by simpa using hx), List.mem_cons, List.mem_cons, mem_take ht h.2]
    · rw [List.takeWhile_cons_of_neg (by simpa using hx)]
      constructor
      · intro hm
        rcases List.mem_cons.1 hm with rfl | hm
        · omega
        · have := h.1 t hm; omega
      · intro hm; simp at hm
theorem mem_cutE {en by_ t : Int} {l : List Int} (h : l.Pairwise (· < ·)) (ht : t ≤ en) : t ∈ l ↔ t + by_ ∈ cutE en by_ l := by
  unfold cutE
  rw [List.mem_map, mem_take ht h]
  constructor
  · intro hm; exact ⟨t, hm, rfl⟩
  · rintro ⟨u, hu, e⟩
    have : u = t := by omega
    subst this
    exact hu
theorem cutE_in {en by_ u : Int} {l : List Int} (hu : u ∈ cutE en by_ l) : ∃ t ∈ l, t ≤ en ∧ u = t + by_ := by
  unfold cutE at hu
  obtain ⟨t, ht, rfl⟩ := List.mem_map.1 hu
  have h1 := (List.takeWhile_sublist _).subset ht
  have h2 : ∀ {xs : List Int}, t ∈ xs.takeWhile (fun t => decide (t ≤ en)) → t ≤ en := fun {xs} hm => by
    induction xs with
    | nil => simp at hm
    | cons x xs ih =>
      by_cases hx : x ≤ en
      · rw [List.takeWhile_cons_of_pos (by simpa using hx)] at hm
        rcases List.mem_cons.1 hm with rfl | hm
        · exact hx
        · exact ih hm
      · rw [List.takeWhile_cons_of_neg (by simpa using hx)] at hm
        simp at hm
  exact ⟨t, h1, h2 ht, rfl⟩
theorem incr_cutE {en by_ : Int} {l : List Int} (h : Incr l) (h0 : 0 ≤ by_) (h1 : by_ ≤ 1000) (he : en ≤ 1000) : Incr (cutE en by_ l) := by
  refine ⟨?_, fun u hu => ?_⟩
  · unfold cutE
    rw [List.pairwise_map]
    exact (h.1.sublist (List.takeWhile_sublist _)).imp fun h => by omega
  · obtain ⟨t, ht, h2, rfl⟩ := cutE_in hu
    have := h.2 t ht
    omega
theorem cutE_len (en by_ : Int) (l : List Int) : (cutE en by_ l).length ≤ l.length := by
  unfold cutE
  rw [List.length_map]
  exact (List.takeWhile_sublist _).length_le

theorem moved_of {a : Aut} {ev ev' : List SlI} {cs cs' : List SlV} {en by_ : Int} (hev : ev'.map SlI.xs = ev.map fun s => cutE en by_ s.xs) (hinc : ∀ s ∈ ev, Incr s.xs) (hl : cs'.length = cs.length)
    (hcs : ∀ (k : Nat) (s s' : SlV), cs[k]? = some s → cs'[k]? = some s' → ∀ t, 0 ≤ t → t ≤ en → (Mem s.xs t ↔ Mem s'.xs (t + by_))) : MovedI (inpOf a ev cs) (inpOf a ev' cs') en by_ := by
  refine ⟨rfl, rfl, fun i t ht => ?_, fun i t h0 ht => ?_⟩
  · show t ∈ nth (ev.map SlI.xs) i ↔ t + by_ ∈ nth (ev'.map SlI.xs) i
    rw [hev]
    unfold nth
    rw [List.getD_eq_getElem?_getD, List.getD_eq_getElem?_getD, List.getElem?_map, List.getElem?_map]
    cases hx : ev[i.toNat]? with
    | none => simp
    | some s => exact mem_cutE (hinc s (List.mem_of_getElem? hx)).1 ht
  · show Mem (nth (cs.map SlV.xs) i) t ↔ Mem (nth (cs'.map SlV.xs) i) (t + by_)
    unfold nth
    rw [List.getD_eq_getElem?_getD, List.getD_eq_getElem?_getD, List.getElem?_map, List.getElem?_map]
    by_cases h : i.toNat < cs.length
    · have h' : i.toNat < cs'.length := by rw [hl]; exact h
      rw [List.getElem?_eq_getElem h, List.getElem?_eq_getElem h']
      exact hcs _ _ _ (List.getElem?_eq_getElem h) (List.getElem?_eq_getElem h') t h0 ht
    · rw [List.getElem?_eq_none (by omega), List.getElem?_eq_none (by rw [hl]; omega)]
      simp [Mem]

end Go.Proofs.Ytkbiefklilelmaa

/-
  intervals.Without, Complement, delays, moved, Shift, Grow, Shrink: the sets of their results.
-/
namespace Go.Proofs.Ytkbiefklilelmaa
open Go.RowKit Go.Joins

def dlyB (a b : Int) : Bool := decide (-1099511627776 ≤ a ∧ b ≤ 1099511627776 ∧ a ≤ b)
theorem dlyB_iff {a b : Int} : dlyB a b = true ↔ -1099511627776 ≤ a ∧ b ≤ 1099511627776 ∧ a ≤ b := by simp [dlyB]

def Time (t : Int) : Prop := 0 ≤ t ∧ t ≤ 1099511627776
def complS (S : Int → Prop) (lo hi : Int) (t : Int) : Prop := lo ≤ t ∧ t ≤ hi ∧ Time t ∧ ¬ S t
def growS (S : Int → Prop) (a b lo hi : Int) (t : Int) : Prop := dlyB a b = true ∧ lo ≤ t ∧ t ≤ hi ∧ Time t ∧ ∃ u, t + a ≤ u ∧ u ≤ t + b ∧ S u
def shiftS (S : Int → Prop) (d lo hi : Int) (t : Int) : Prop := dlyB d d = true ∧ lo ≤ t ∧ t ≤ hi ∧ Time t ∧ S (t - d)
def shrinkS (S : Int → Prop) (a b lo hi : Int) (t : Int) : Prop := dlyB a b = true ∧ complS (growS (complS S lo hi) a b lo hi) lo hi t
theorem complS_congr {S S' : Int → Prop} (h : ∀ t, S t ↔ S' t) (lo hi t : Int) : complS S lo hi t ↔ complS S' lo hi t := by unfold complS; rw [h]
theorem growS_congr {S S' : Int → Prop} (h : ∀ t, S t ↔ S' t) (a b lo hi t : Int) : growS S a b lo hi t ↔ growS S' a b lo hi t := by unfold growS; simp only [h]

theorem without_rule : RuleOf 106 (fun x y => x && !y) := by
  intro x y w
  cases x <;> cases y <;>
  · go_enter Try.func106, Try.ntmps106
    go_wp2
    go_ret
    exact ⟨rfl, rfl⟩

theorem without_any (A B : Option Addr) (c d : Nat) (a b : List Iv) (w : World) (ha : IvsAt w w.heap.size A a) (hb : IvsAt w w.heap.size B b) (hla : a.length ≤ 4398046511104) (hlb : b.length ≤ 4398046511104) :
    Calls Try.prog 91 #[.slice A a.length c, .slice B b.length d] w (RetIvs w fun t => Mem a t ∧ ¬ Mem b t) := by
  go_enter Try.func91, Try.ntmps91
  go_wp2_with fail
  refine (combine_any 106 (enters_of Try.func106 (by kernel_rfl) rfl) _ without_rule rfl A B c d a b _ ha hb hla hlb).mono ?_
  rintro e w1 ⟨A1, c1, ys, rfl, hown, hb, hn, hm⟩
  go_wp2_with fail
  go_ret
  exact ⟨A1, c1, ys, rfl, hown, hb, hn, fun t => by rw [hm, Bool.and_eq_true, memT_iff, Bool.not_eq_true', Bool.eq_false_iff, Ne, memT_iff]⟩

theorem ivsAt_new {w : World} {t : TypeId} {p q : Int} : IvsAt (w.alloc (.cells #[.int .i64 p, .int .i64 q] t)) (w.alloc (.cells #[.int .i64 p, .int .i64 q] t)).heap.size (some ⟨w.heap.size, 0, none⟩) [(p, q)] := fun _ => by
  refine ⟨w.heap.size, 0, rfl, by simp, fun i x hi => ?_⟩
  match i, hi with
  | 0, hi => simp at hi; subst hi; simp
  | i + 1, hi => simp at hi

theorem complement_any (A : Option Addr) (c : Nat) (xs : List Iv) (lo hi : Int) (w : World) (h : IvsAt w w.heap.size A xs) (hl : xs.length ≤ 4398046511104) :
    Calls Try.prog 68 #[.slice A xs.length c, .int .i64 lo, .int .i64 hi] w (RetIvs w (complS (Mem xs) lo hi)) := by
  go_enter Try.func68, Try.ntmps68
  go_wp2_with fail
  have hb0 : Below w.heap.size w (w.alloc (.cells #[.int .i64 lo, .int .i64 hi] 42)) := (Below.refl _ _).alloc (Nat.le_refl _) _
  refine (without_any (some ⟨w.heap.size, 0, none⟩) A 1 c [(lo, hi)] xs _ ivsAt_new ((h.below hb0).more hb0.size) (by simp) hl).mono ?_
  rintro e w1 ⟨A1, c1, ys, rfl, hown, hb, hn, hm⟩
  go_wp2_with fail
  go_ret
  refine ⟨A1, c1, ys, rfl, hown.lower hb0.size, hb0.trans (hb.mono hb0.size), hn, fun t => ?_⟩
  rw [hm, mem_one]
  unfold complS Time
  simp only
  constructor
  · rintro ⟨h1, h2⟩; exact ⟨by omega, by omega, by omega, h2⟩
  · rintro ⟨h1, h2, h3, h4⟩; exact ⟨by omega, h4⟩

theorem delays_any (a b : Int) (w : World) : Calls Try.prog 66 #[.int .i64 a, .int .i64 b] w fun e w' => e = .returned (.bool (dlyB a b)) ∧ w = w' := by
  have hd : dlyB a b = decide (-1099511627776 ≤ a ∧ b ≤ 1099511627776 ∧ a ≤ b) := rfl
  by_cases h1 : -1099511627776 ≤ a
  · by_cases h2 : b ≤ 1099511627776
    · by_cases h3 : a ≤ b
      · have HD := hide (hd.trans (decide_eq_true ⟨h1, h2, h3⟩))
        clear hd
        go_enter Try.func66, Try.ntmps66
        go_wp2
        go_ret
        exact ⟨by rw [HD.out]; rfl, rfl⟩
      · have HD := hide (hd.trans (decide_eq_false (fun h => h3 h.2.2)))
        clear hd
        go_enter Try.func66, Try.ntmps66
        go_wp2
        go_ret
        exact ⟨by rw [HD.out]; rfl, rfl⟩
    · have HD := hide (hd.trans (decide_eq_false (fun h => h2 h.2.1)))
      clear hd
      go_enter Try.func66, Try.ntmps66
      go_wp2
      go_ret
      exact ⟨by rw [HD.out]; rfl, rfl⟩
  · have HD := hide (hd.trans (decide_eq_false (fun h => h1 h.1)))
    clear hd
    go_enter Try.func66, Try.ntmps66
    go_wp2
    go_ret
    exact ⟨by rw [HD.out]; rfl, rfl⟩

def movedL (f l : Int) (ys : List Iv) : List Iv := ys.map fun x => (x.1 + f, x.2 + l)
theorem movedL_take_succ (f l : Int) (ys : List Iv) (k : Nat) (hk : k < ys.length) : movedL f l (ys.take (k + 1)) = movedL f l (ys.take k) ++ [(ys[k].1 + f, ys[k].2 + l)] := by
  unfold movedL; rw [List.take_succ_eq_append_getElem hk, List.map_append]; rfl
theorem movedL_mem (f l : Int) (hfl : f ≤ l) {ys : List Iv} (hn : Norm ys) (t : Int) : Mem (movedL f l ys) t ↔ Time t ∧ ∃ u, t - l ≤ u ∧ u ≤ t - f ∧ Mem ys u := by
  unfold Mem movedL Time
  constructor
  · rintro ⟨h1, h2, x, hx, h3, h4⟩
    rw [List.mem_map] at hx
    obtain ⟨y, hy, rfl⟩ := hx
    have := hn.1 y hy
    unfold Okv at this
    simp only at h3 h4
    exact ⟨⟨h1, h2⟩, max y.1 (t - l), by omega, by omega, by omega, by omega, y, hy, by omega, by omega⟩
  · rintro ⟨⟨h1, h2⟩, u, h3, h4, h5, h6, y, hy, h7, h8⟩
    exact ⟨h1, h2, _, List.mem_map.2 ⟨y, hy, rfl⟩, by simp only; omega, by simp only; omega⟩

def MovedRel (w : World) (f l : Int) (ys : List Iv) (out i : Value) (wr : World) : Prop :=
  ∃ (k : Nat) (A : Option Addr) (c : Nat), k ≤ ys.length ∧ i = .int .i64 k ∧ out = .slice A (movedL f l (ys.take k)).length c ∧ OwnIv wr w.heap.size A c (movedL f l (ys.take k)) ∧ Below w.heap.size w wr

set_option maxHeartbeats 1000000 in
theorem moved_any (A : Option Addr) (c : Nat) (xs : List Iv) (f l lo hi : Int) (w : World) (h : IvsAt w w.heap.size A xs) (hl : xs.length ≤ 4398046511104) (h1 : -1099511627776 ≤ f) (h2 : l ≤ 1099511627776) (h3 : f ≤ l) :
    Calls Try.prog 67 #[.slice A xs.length c, .int .i64 f, .int .i64 l, .int .i64 lo, .int .i64 hi] w (RetIvs w fun t => lo ≤ t ∧ t ≤ hi ∧ Time t ∧ ∃ u, t - l ≤ u ∧ u ≤ t - f ∧ Mem xs u) := by
  go_enter Try.func67, Try.ntmps67
  go_wp2_with fail
  refine (normal_any A c xs _ h hl).mono ?_
  rintro e w1 ⟨A1, c1, ys, rfl, hown1, hb1, ny, my⟩
  have hly := norm_len ny
  have ry := hown1.ats
  have HMY := hide my
  clear my hown1 h
  go_wp2_with fail
  go_loopw [11, 17] (fun out i wr => MovedRel w1 f l ys out i wr) (fun _ i _ => ys.length - (intOf i).toNat)
  case atStart => exact ⟨0, none, 0, Nat.zero_le _, rfl, rfl, OwnIv.nil _ _, Below.refl _ _⟩
  case round =>
    obtain ⟨k, A2, c2, hk, rfl, rfl, hown, hb⟩ := hrel
    have hll : (movedL f l (ys.take k)).length ≤ 4398046511104 := by
      unfold movedL; rw [List.length_map]; have := List.length_take_le k ys; omega
    by_cases hlt : k < ys.length
    · obtain ⟨b, off, rfl, hbb, hc1, hc2⟩ := (ry.below hb).at_ hlt
      have HS := hide (movedL_take_succ f l ys k hlt)
      have hoy := ny.1 ys[k] (List.getElem_mem _)
      unfold Okv at hoy
      generalize movedL f l (ys.take k) = ms at *
      go_wp2_with (at_builtin; (refine append_iv rfl _ _ rfl w1.heap.size A2 c2 ms _ rfl rfl (ys[k].1 + f) (ys[k].2 + l) _ rfl _ rfl (by simp) (hown.alloc _) hll (by have := hb.size; simp; omega) ?_)
                   intro g' c' w2 row hown2 hg' hgrow hrow)
      go_roundw
      case rel =>
        refine ⟨k + 1, some ⟨g', 0, none⟩, c', by omega, by go_num, by rw [HS.out]; simp, by rw [HS.out]; exact hown2, ?_⟩
        exact ((hb.alloc hb.size _).alloc (by have := hb.size; simp; omega) _).grown hgrow (by have := hb.size; simp; omega) hrow
      case measure => simp [intOf]; omega
    · have hke : k = ys.length := by omega
      subst hke
      rw [List.take_length] at hown hll ⊢
      go_wp2_with fail
      refine (clip_any A2 c2 (movedL f l ys) lo hi _ hown.ats hll).mono ?_
      rintro e w3 ⟨A3, c3, zs, rfl, hown3, hb3, n3, m3⟩
      go_wp2_with fail
      go_ret
      refine ⟨A3, c3, zs, rfl, hown3.lower (Nat.le_trans hb1.size hb.size), hb1.trans ((hb.mono hb1.size).trans (hb3.mono (Nat.le_trans hb1.size hb.size))), n3, fun t => ?_⟩
      rw [m3, movedL_mem f l h3 ny]
      simp only [HMY.out]

theorem grow_any (A : Option Addr) (c : Nat) (xs : List Iv) (a b lo hi : Int) (w : World) (h : IvsAt w w.heap.size A xs) (hl : xs.length ≤ 4398046511104) :
    Calls Try.prog 42 #[.slice A xs.length c, .int .i64 a, .int .i64 b, .int .i64 lo, .int .i64 hi] w (RetIvs w (growS (Mem xs) a b lo hi)) := by
  go_enter Try.func42, Try.ntmps42
  go_wp2_with fail
  refine (delays_any a b _).mono ?_
  rintro e w1 ⟨rfl, rfl⟩
  cases hd : dlyB a b
  · have HD := hide hd
    clear hd
    go_wp2_with fail
    go_ret
    exact ⟨none, 0, [], rfl, OwnIv.nil _ _, Below.refl _ _, Norm.nil, fun t => by unfold growS; rw [HD.out]; simp [mem_nil]⟩
  · have HD := hide hd
    have hv := dlyB_iff.1 hd
    clear hd
    go_wp2_with fail
    refine (moved_any A c xs (-b) (-a) lo hi _ h hl (by omega) (by omega) (by omega)).mono ?_
    rintro e w1 ⟨A1, c1, ys, rfl, hown, hb, hn, hm⟩
    go_wp2_with fail
    go_ret
    refine ⟨A1, c1, ys, rfl, hown, hb, hn, fun t => ?_⟩
    rw [hm]
    unfold growS
    constructor
    · rintro ⟨h1, h2, h3, u, h4, h5, h6⟩
      exact ⟨HD.out, h1, h2, h3, u, by omega, by omega, h6⟩
    · rintro ⟨_, h1, h2, h3, u, h4, h5, h6⟩
      exact ⟨h1, h2, h3, u, by omega, by omega, h6⟩

theorem shrink_any (A : Option Addr) (c : Nat) (xs : List Iv) (a b lo hi : Int) (w : World) (h : IvsAt w w.heap.size A xs) (hl : xs.length ≤ 4398046511104) :
    Calls Try.prog 43 #[.slice A xs.length c, .int .i64 a, .int .i64 b, .int .i64 lo, .int .i64 hi] w (RetIvs w (shrinkS (Mem xs) a b lo hi)) := by
  go_enter Try.func43, Try.ntmps43
  go_wp2_with fail
  refine (delays_any a b _).mono ?_
  rintro e w1 ⟨rfl, rfl⟩
  cases hd : dlyB a b
  · have HD := hide hd
    clear hd
    go_wp2_with fail
    go_ret
    exact ⟨none, 0, [], rfl, OwnIv.nil _ _, Below.refl _ _, Norm.nil, fun t => by unfold shrinkS; rw [HD.out]; simp [mem_nil]⟩
  · have HD := hide hd
    clear hd
    go_wp2_with fail
    refine (complement_any A c xs lo hi _ h hl).mono ?_
    rintro e w1 ⟨A1, c1, ys, rfl, hown, hb, hn, hm⟩
    have HM := hide hm
    clear hm
    have hly := norm_len hn
    go_wp2_with fail
    refine (grow_any A1 c1 ys a b lo hi _ hown.ats (by omega)).mono ?_
    rintro e w2 ⟨A2, c2, zs, rfl, hown2, hb2, hn2, hm2⟩
    have HM2 := hide hm2
    clear hm2
    have hlz := norm_len hn2
    go_wp2_with fail
    refine (complement_any A2 c2 zs lo hi _ hown2.ats (by omega)).mono ?_
    rintro e w3 ⟨A3, c3, us, rfl, hown3, hb3, hn3, hm3⟩
    have HM3 := hide hm3
    clear hm3
    go_wp2_with fail
    go_ret
    refine ⟨A3, c3, us, rfl, hown3.lower (Nat.le_trans hb.size hb2.size), hb.trans ((hb2.mono hb.size).trans (hb3.mono (Nat.le_trans hb.size hb2.size))), hn3, fun t => ?_⟩
    rw [HM3.out, complS_congr (fun t => (HM2.out t).trans (growS_congr HM.out a b lo hi t))]
    unfold shrinkS
    rw [HD.out]
    simp

end Go.Proofs.Ytkbiefklilelmaa

/-
  intervals.Shift: the set of its result.
-/
namespace Go.Proofs.Ytkbiefklilelmaa
open Go.RowKit Go.Joins

theorem shift_any (A : Option Addr) (c : Nat) (xs : List Iv) (d lo hi : Int) (w : World) (h : IvsAt w w.heap.size A xs) (hl : xs.length ≤ 4398046511104) :
    Calls Try.prog 38 #[.slice A xs.length c, .int .i64 d, .int .i64 lo, .int .i64 hi] w (RetIvs w (shiftS (Mem xs) d lo hi)) := by
  go_enter Try.func38, Try.ntmps38
  go_wp2_with fail
  refine (delays_any d d _).mono ?_
  rintro e w1 ⟨rfl, rfl⟩
  cases hd : dlyB d d
  · have HD := hide hd
    clear hd
    go_wp2_with fail
    go_ret
    exact ⟨none, 0, [], rfl, OwnIv.nil _ _, Below.refl _ _, Norm.nil, fun t => by unfold shiftS; rw [HD.out]; simp [mem_nil]⟩
  · have HD := hide hd
    have hv := dlyB_iff.1 hd
    clear hd
    go_wp2_with fail
    refine (moved_any A c xs d d lo hi _ h hl hv.1 hv.2.1 hv.2.2).mono ?_
    rintro e w1 ⟨A1, c1, ys, rfl, hown, hb, hn, hm⟩
    go_wp2_with fail
    go_ret
    refine ⟨A1, c1, ys, rfl, hown, hb, hn, fun t => ?_⟩
    rw [hm]
    unfold shiftS
    constructor
    · rintro ⟨h1, h2, h3, u, h4, h5, h6⟩
      have : u = t - d := by omega
      subst this
      exact ⟨HD.out, h1, h2, h3, h6⟩
    · rintro ⟨_, h1, h2, h3, h6⟩
      exact ⟨h1, h2, h3, t - d, by omega, by omega, h6⟩

end Go.Proofs.Ytkbiefklilelmaa
