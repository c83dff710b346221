/-
  Several texts in one: Same55, Few55. Each says at its head what it holds.
-/
import Derived.Test.YtkbiefklilelmaaMR19
import Derived.Test.YtkbiefklilelmaaMR31
import Derived.Test.YtkbiefklilelmaaMR15

/-
  wavestoreref55.Same: whether two lists of matches are equal; wavestoreref55.Few: whether times and sets are few.
-/
namespace Go.Proofs.Ytkbiefklilelmaa
open Go.RowKit Go.Joins

theorem OwnOc.ats {w : World} {base : Nat} {A : Option Addr} {c : Nat} {xs : List Iv} (h : OwnOc w base A c xs) : IvsAt w w.heap.size A xs := fun hx => by
  obtain ⟨g, e, h1, h2⟩ := own_place h (List.length_pos_iff.2 hx)
  subst e
  refine ⟨g, 0, rfl, h2, fun i x hi => ?_⟩
  have hlt : i < xs.length := (List.getElem?_eq_some_iff.1 hi).1
  obtain ⟨e1, e2⟩ := encIvs_at hi
  exact ⟨by rw [Nat.zero_add, World.ownsRow.cellAt h _ (by omega), e1], by rw [Nat.zero_add, World.ownsRow.cellAt h _ (by omega), e2]⟩

theorem eq_oc (a b c d : Int) (w : World) : (Op.equalIn 10000 64 (.agg #[.int .i64 a, .int .i64 b]) (.agg #[.int .i64 c, .int .i64 d])).run Try.prog w = .ok (a == c && b == d) w := by
  have u3 := Try.underlying3
  have a3 := Try.isAgg3
  have z3 := Try.sizeOf3
  have hS : Try.prog.underlying 64 = some (.struct (Try.prog.fieldsOf 64)) := by kernel_rfl
  have hp : Try.prog.stoodInHeld 64 = false := by kernel_rfl
  rw [show (10000 : Nat) = 9999 + 1 from rfl, run_equalIn_agg w 9999 64 _ _ hS hp]
  simp only [Program.fieldsOf, Try.underlying64]
  go_simp
  by_cases h1 : a = c <;> by_cases h2 : b = d <;> simp [h1, h2]
theorem neq_oc (a b c d : Int) (w : World) : (binOp .neq 64 (.agg #[.int .i64 a, .int .i64 b]) (.agg #[.int .i64 c, .int .i64 d])).run Try.prog w = .ok (.bool (!(a == c && b == d))) w := by
  rw [run_neq_struct, eq_oc]; rfl

def OsRel (w : World) (xs ys : List Iv) (i : Value) (wr : World) : Prop :=
  ∃ (k q : Nat), k ≤ xs.length ∧ i = .int .i64 k ∧ xs.take k = ys.take k ∧ wr = w.drewN q

set_option maxHeartbeats 1000000 in
theorem osame_any (A B : Option Addr) (c d : Nat) (xs ys : List Iv) (w : World) (hx : IvsAt w w.heap.size A xs) (hy : IvsAt w w.heap.size B ys) (hl : xs.length ≤ 4398046511104) (_hl2 : ys.length ≤ 4398046511104) :
    Calls Try.prog 34 #[.slice A xs.length c, .slice B ys.length d] w fun e w' => e = .returned (.bool (decide (xs = ys))) ∧ ∃ q, w' = w.drewN q := by
  by_cases hlen : xs.length = ys.length
  · have HL := hide hlen
    have hne : ((xs.length : Int) != (ys.length : Int)) = false := by simp [hlen]
    clear hlen
    go_enter Try.func34, Try.ntmps34
    go_wp2
    go_loopw [5] (fun i wr => OsRel w xs ys i wr) (fun i _ => xs.length - (intOf i).toNat)
    case atStart => exact ⟨0, 0, Nat.zero_le _, rfl, rfl, rfl⟩
    case round =>
      obtain ⟨k, q, hk, rfl, htk, rfl⟩ := hrel
      have HTK := hide htk
      clear htk
      by_cases hlt : k < xs.length
      · have hlt2 : k < ys.length := by have := HL.out; omega
        obtain ⟨b, off, rfl, hbb, hc1, hc2⟩ := hx.at_ hlt
        obtain ⟨b', off', rfl, hbb', hc1', hc2'⟩ := hy.at_ hlt2
        have hne2 := neq_oc xs[k].1 xs[k].2 ys[k].1 ys[k].2
        go_wp2
        go_quiet (fail)
        go_wp2
        · have hw : (!xs[k].1 == ys[k].1) = true ∨ (!xs[k].2 == ys[k].2) = true := by assumption
          go_ret
          exact ⟨by rw [decide_eq_false (fun e => same_ne e hlt hlt2 hw)]; rfl, q + nq, by rw [World.drewN_drewN]⟩
        · have hw : (!xs[k].1 == ys[k].1) = false ∧ (!xs[k].2 == ys[k].2) = false := by assumption
          go_roundw
          case rel => exact ⟨k + 1, q + nq, by omega, by go_num, same_step HTK.out hlt hlt2 hw, rfl⟩
          case measure => simp [intOf]; omega
      · go_wp2
        go_ret
        refine ⟨?_, _, rfl⟩
        have h1 := HTK.out
        have h2 := HL.out
        rw [List.take_of_length_le (by omega), List.take_of_length_le (by omega)] at h1
        rw [decide_eq_true h1]
        rfl
  · have hne : ((xs.length : Int) != (ys.length : Int)) = true := by simp; omega
    have HL := hide hlen
    clear hlen
    go_enter Try.func34, Try.ntmps34
    go_wp2
    go_ret
    exact ⟨by rw [decide_eq_false (fun e => HL.out (by rw [e]))]; rfl, 0, rfl⟩


/-- what r55.Few asks -/
def FewEv (ev : List SlI) (cs : List SlV) : Prop := ev.length ≤ 40 ∧ cs.length ≤ 40 ∧ (∀ s ∈ ev, s.xs.length ≤ 24) ∧ ∀ s ∈ cs, s.xs.length ≤ 12
def FewPost (p : Prop) (w : World) (e : Ending) (w' : World) : Prop := ∃ b : Bool, e = .returned (.bool b) ∧ Below w.heap.size w w' ∧ (b = true → p)
def Few1 (ev : List SlI) (w : World) (i : Value) (wr : World) : Prop := ∃ k : Nat, k ≤ ev.length ∧ i = .int .i64 k ∧ w = wr ∧ ∀ j s, j < k → ev[j]? = some s → s.xs.length ≤ 24
def Few2 (cs : List SlV) (w : World) (i : Value) (wr : World) : Prop := ∃ k : Nat, k ≤ cs.length ∧ i = .int .i64 k ∧ w = wr ∧ ∀ j s, j < k → cs[j]? = some s → s.xs.length ≤ 12
theorem upto_next {α : Type} {l : List α} {k : Nat} {p : α → Prop} {x : α} (h : ∀ j s, j < k → l[j]? = some s → p s) (hx : l[k]? = some x) (hp : p x) : ∀ j s, j < k + 1 → l[j]? = some s → p s := fun j s hj hs => by
  rcases Nat.lt_or_ge j k with h1 | h1
  · exact h j s h1 hs
  · have : j = k := by omega
    subst this
    rw [hx] at hs
    injection hs with hs
    subst hs
    exact hp
theorem upto_end {α : Type} {l : List α} {p : α → Prop} (h : ∀ j s, j < l.length → l[j]? = some s → p s) : ∀ s ∈ l, p s := fun s hs => by
  obtain ⟨j, hj⟩ := List.getElem?_of_mem hs
  exact h j s (List.getElem?_eq_some_iff.1 hj).1 hj

set_option maxHeartbeats 1000000 in
theorem few55_any (AV AC : Option Addr) (cV cC : Nat) (ev : List SlI) (cs : List SlV) (w : World) (hev : EvAt w AV ev) (hcs : CsAt w AC cs) (b1 : ev.length ≤ 140737488355328) (b2 : cs.length ≤ 140737488355328) (b3 : ∀ s ∈ ev, s.xs.length ≤ 140737488355328) (b4 : ∀ s ∈ cs, s.xs.length ≤ 140737488355328) :
    Calls Try.prog 55 #[.slice AV ev.length cV, .slice AC cs.length cC] w (FewPost (FewEv ev cs) w) := by
  have HEV := hide hev
  have HCS := hide hcs
  have HB3 := hide b3
  have HB4 := hide b4
  have HNO := hide (show FewPost (FewEv ev cs) w (.returned (.bool false)) w from ⟨false, rfl, Below.refl _ _, fun e => by cases e⟩)
  clear hev hcs b3 b4
  by_cases h1 : ev.length ≤ 40
  · have T1 : decide ((40 : Int) < (ev.length : Int)) = false := decide_eq_false (by omega)
    by_cases h2 : cs.length ≤ 40
    · have T2 : decide ((40 : Int) < (cs.length : Int)) = false := decide_eq_false (by omega)
      go_enter Try.func55, Try.ntmps55
      go_wp2_with fail
      go_loopw [5] (fun i wr => Few1 ev w i wr) (fun i _ => ev.length - (intOf i).toNat)
      case atStart => exact ⟨0, Nat.zero_le _, rfl, rfl, fun j s hj => absurd hj (Nat.not_lt_zero _)⟩
      case round =>
        obtain ⟨k, hk, rfl, rfl, hin⟩ := hrel
        have HIN := hide hin
        clear hin
        by_cases hlt : k < ev.length
        · obtain ⟨bv, ov, rfl, hbv, e0, hi⟩ := HEV.out.at_ hlt
          have hx : ev[k]? = some ev[k] := List.getElem?_eq_getElem hlt
          have hb := HB3.out _ (List.getElem_mem hlt)
          generalize ev[k] = s at *
          obtain ⟨sA, sc, l⟩ := s
          dsimp only at hi hb e0
          have HX := hide hx
          clear hx hi
          by_cases h24 : l.length ≤ 24
          · have T3 : decide ((24 : Int) < (l.length : Int)) = false := decide_eq_false (by omega)
            have HN := hide (upto_next (p := fun s : SlI => s.xs.length ≤ 24) HIN.out HX.out h24)
            go_wp2_with fail
            exact ⟨⟨k + 1, hlt, by go_num, rfl, HN.out⟩, by simp [intOf]; omega⟩
          · have T3 : decide ((24 : Int) < (l.length : Int)) = true := decide_eq_true (by omega)
            go_wp2_with fail
            go_ret
            exact HNO.out
        · have hke : k = ev.length := by omega
          subst hke
          have HE := hide (upto_end HIN.out)
          go_wp2_with fail
          go_loopw [6] (fun i wr => Few2 cs w i wr) (fun i _ => cs.length - (intOf i).toNat)
          case atStart => exact ⟨0, Nat.zero_le _, rfl, rfl, fun j s hj => absurd hj (Nat.not_lt_zero _)⟩
          case round =>
            obtain ⟨k, hk, rfl, rfl, hin⟩ := hrel
            have HIN2 := hide hin
            clear hin
            by_cases hlt : k < cs.length
            · obtain ⟨bv, ov, rfl, hbv, e0, hi⟩ := HCS.out.at_ hlt
              have hx : cs[k]? = some cs[k] := List.getElem?_eq_getElem hlt
              have hb := HB4.out _ (List.getElem_mem hlt)
              generalize cs[k] = s at *
              obtain ⟨sA, sc, l⟩ := s
              dsimp only at hi hb e0
              have HX := hide hx
              clear hx hi
              by_cases h24 : l.length ≤ 12
              · have T3 : decide ((12 : Int) < (l.length : Int)) = false := decide_eq_false (by omega)
                have HN := hide (upto_next (p := fun s : SlV => s.xs.length ≤ 12) HIN2.out HX.out h24)
                go_wp2_with fail
                exact ⟨⟨k + 1, hlt, by go_num, rfl, HN.out⟩, by simp [intOf]; omega⟩
              · have T3 : decide ((12 : Int) < (l.length : Int)) = true := decide_eq_true (by omega)
                go_wp2_with fail
                go_ret
                exact HNO.out
            · have hke : k = cs.length := by omega
              subst hke
              have HF := hide (show FewPost (FewEv ev cs) w (.returned (.bool true)) w from ⟨true, rfl, Below.refl _ _, fun _ => ⟨h1, h2, HE.out, upto_end HIN2.out⟩⟩)
              go_wp2_with fail
              go_ret
              exact HF.out
    · have T2 : decide ((40 : Int) < (cs.length : Int)) = true := decide_eq_true (by omega)
      go_enter Try.func55, Try.ntmps55
      go_wp2_with fail
      go_ret
      exact HNO.out
  · have T1 : decide ((40 : Int) < (ev.length : Int)) = true := decide_eq_true (by omega)
    go_enter Try.func55, Try.ntmps55
    go_wp2_with fail
    go_ret
    exact HNO.out

end Go.Proofs.Ytkbiefklilelmaa

/-
  wavestoreref54.Few ends, whatever the automaton; wavestorelaw55.few: what it lets in.
-/
namespace Go.Proofs.Ytkbiefklilelmaa
open Go.RowKit

/-- the lists of trees of an automaton -/
structure AutTrees (w : World) (a : Aut) (evs cds : List Nd) : Prop where
  nE : a.nE = evs.length
  nC : a.nC = cds.length
  ev : TreesAt w (Lo w.heap.size) a.AE evs
  cd : TreesAt w (Lo w.heap.size) a.AC cds
theorem AutTrees.grow {w w' : World} {a : Aut} {evs cds : List Nd} (h : AutTrees w a evs cds) (hb : Below w.heap.size w w') : AutTrees w' a evs cds := ⟨h.nE, h.nC, h.ev.grow hb, h.cd.grow hb⟩

set_option maxRecDepth 100000 in
set_option maxHeartbeats 4000000 in
theorem few54_any (a : Aut) (evs cds : List Nd) (w : World) (ht : AutTrees w a evs cds) (hle : AutLe a) : Calls Try.prog 54 #[.agg (encA a).toArray] w (BoolPost w) := by
  obtain ⟨AE, nE, cE, AC, nC, cC, AF, cF, fin, AX, cX, edges⟩ := a
  obtain ⟨hE, hC, hev, hcd⟩ := ht
  have n1 := hle.nE
  have n2 := hle.nC
  have n3 := hle.fin
  have n4 := hle.edges
  dsimp only at hE hC hev hcd n1 n2 n3 n4
  subst hE hC
  obtain ⟨W0, hW0⟩ : ∃ W0, w.alloc (.cells #[.slice AE evs.length cE, .slice AC cds.length cC, .slice AF fin.length cF, .slice AX edges.length cX] 50) = W0 := ⟨_, rfl⟩
  have g0 := new_at hW0
  have hb0 : Below w.heap.size w W0 := by rw [← hW0]; exact (Below.refl _ _).alloc (Nat.le_refl _) _
  have HE := hide (hev.grow hb0)
  have HC := hide (hcd.grow hb0)
  have HG0 := hide g0
  have HB0 := hide hb0
  have HW0 := hide hW0
  have HNO := hide (show ∀ wr, Below W0.heap.size W0 wr → BoolPost w (.returned (.bool false)) wr from fun wr hb => ⟨false, rfl, bstep hb0 hb⟩)
  obtain ⟨y0, y1, y2, y3, -⟩ := box4 g0
  clear g0 hb0 hW0 hev hcd hle
  show Calls _ _ #[.agg #[.slice AE evs.length cE, .slice AC cds.length cC, .slice AF fin.length cF, .slice AX edges.length cX]] w (BoolPost w)
  go_enter Try.func54, Try.ntmps54
  go_upto_region 1 with (fail)
  rw [HW0.out]
  go_cut [26] (fun v wx => ∃ b : Bool, v = .bool b ∧ Below W0.heap.size W0 wx)
  case first =>
    obtain ⟨t1, T1⟩ : ∃ t1, decide ((40 : Int) < (evs.length : Int)) = t1 := ⟨_, rfl⟩
    obtain ⟨t2, T2⟩ : ∃ t2, decide ((40 : Int) < (cds.length : Int)) = t2 := ⟨_, rfl⟩
    obtain ⟨t3, T3⟩ : ∃ t3, decide ((40 : Int) < (fin.length : Int)) = t3 := ⟨_, rfl⟩
    obtain ⟨t4, T4⟩ : ∃ t4, decide ((200 : Int) < (edges.length : Int)) = t4 := ⟨_, rfl⟩
    cases t1 <;> cases t2 <;> cases t3 <;> cases t4 <;> (go_wp2_with fail; go_meet; exact ⟨_, rfl, Below.refl _ _⟩)
  case rest =>
    obtain ⟨bt, rfl, hbc⟩ := hcut
    have HBC := hide hbc
    clear hbc y0 y1 y2 y3
    cases bt with
    | true =>
      go_wp2_with fail
      go_ret
      exact HNO.out _ HBC.out
    | false =>
      go_wp2_with fail
      go_loopw [3] (fun i wr => FewRel evs.length W0 i wr) (fun i _ => evs.length - (intOf i).toNat)
      case atStart => exact ⟨0, Nat.zero_le _, rfl, HBC.out⟩
      case round =>
        obtain ⟨j, hj, rfl, hbr⟩ := hrel
        have HBR := hide hbr
        obtain ⟨x0, x1, -, -, -⟩ := box4 ((hbr.block _ (box_lt HG0.out)).trans HG0.out)
        clear hbr
        by_cases hlt : j < evs.length
        · have hT := HE.out.grow HBR.out
          obtain ⟨bk, ok, rfl, hbk, hc⟩ := hT.row.at_ hlt
          have hcall := few49_any 20 evs[j] wr (hT.each _ (List.getElem_mem hlt))
          generalize evs[j] = m at *
          obtain ⟨m1, m2, m3, m4, m5, m6, m7, m8, mK, mc, ml⟩ := m
          unfold cNd at hc hcall
          have HCL := hide hcall
          have c0 := hc 0 (by omega)
          have c1 := hc 1 (by omega)
          have c2 := hc 2 (by omega)
          have c3 := hc 3 (by omega)
          have c4 := hc 4 (by omega)
          have c5 := hc 5 (by omega)
          have c6 := hc 6 (by omega)
          have c7 := hc 7 (by omega)
          have c8 := hc 8 (by omega)
          simp only [List.getElem?_cons_zero, List.getElem?_cons_succ, Nat.add_zero] at c0 c1 c2 c3 c4 c5 c6 c7 c8
          clear hc hcall hT
          go_upto_if 40 with (go_at_call 76; refine HCL.out.mono ?_; rintro e w2 ⟨y, rfl, hb2⟩; have HB2 := hide hb2; clear hb2)
          cases y with
          | true =>
            go_wp2_with fail
            exact ⟨⟨j + 1, hlt, by go_num, bstep HBR.out HB2.out⟩, by simp [intOf]; omega⟩
          | false =>
            go_wp2_with fail
            go_ret
            exact HNO.out _ (bstep HBR.out HB2.out)
        · clear x0 x1
          obtain ⟨x0, x1, -, -, -⟩ := box4 ((HBR.out.block _ (box_lt HG0.out)).trans HG0.out)
          go_wp2_with fail
          clear x0 x1
          go_loopw [4] (fun i wr => FewRel cds.length W0 i wr) (fun i _ => cds.length - (intOf i).toNat)
          case atStart => exact ⟨0, Nat.zero_le _, rfl, HBR.out⟩
          case round =>
            obtain ⟨j2, hj2, rfl, hbr⟩ := hrel
            have HBR2 := hide hbr
            obtain ⟨x0, x1, -, -, -⟩ := box4 ((hbr.block _ (box_lt HG0.out)).trans HG0.out)
            clear hbr
            by_cases hlt2 : j2 < cds.length
            · have hT := HC.out.grow HBR2.out
              obtain ⟨bk, ok, rfl, hbk, hc⟩ := hT.row.at_ hlt2
              have hcall := few49_any 20 cds[j2] wr (hT.each _ (List.getElem_mem hlt2))
              generalize cds[j2] = m at *
              obtain ⟨m1, m2, m3, m4, m5, m6, m7, m8, mK, mc, ml⟩ := m
              unfold cNd at hc hcall
              have HCL := hide hcall
              have c0 := hc 0 (by omega)
              have c1 := hc 1 (by omega)
              have c2 := hc 2 (by omega)
              have c3 := hc 3 (by omega)
              have c4 := hc 4 (by omega)
              have c5 := hc 5 (by omega)
              have c6 := hc 6 (by omega)
              have c7 := hc 7 (by omega)
              have c8 := hc 8 (by omega)
              simp only [List.getElem?_cons_zero, List.getElem?_cons_succ, Nat.add_zero] at c0 c1 c2 c3 c4 c5 c6 c7 c8
              clear hc hcall hT
              go_upto_if 54 with (go_at_call 76; refine HCL.out.mono ?_; rintro e w2 ⟨y, rfl, hb2⟩; have HB2 := hide hb2; clear hb2)
              cases y with
              | true =>
                go_wp2_with fail
                exact ⟨⟨j2 + 1, hlt2, by go_num, bstep HBR2.out HB2.out⟩, by simp [intOf]; omega⟩
              | false =>
                go_wp2_with fail
                go_ret
                exact HNO.out _ (bstep HBR2.out HB2.out)
            · have HF := hide (show BoolPost w (.returned (.bool true)) wr from ⟨true, rfl, bstep HB0.out HBR2.out⟩)
              go_wp2_with fail
              go_ret
              exact HF.out

/-- what the law's few lets in -/
def FewAll (a : Aut) (ev : List SlI) (cs : List SlV) : Prop := a.edges.length ≤ 40 ∧ FewEv ev cs
set_option maxRecDepth 100000 in
set_option maxHeartbeats 4000000 in
theorem few_any (a : Aut) (evs cds : List Nd) (AV AC' : Option Addr) (cV cC' : Nat) (ev : List SlI) (cs : List SlV) (w : World) (ht : AutTrees w a evs cds) (hle : AutLe a) (hev : EvAt w AV ev) (hcs : CsAt w AC' cs) (b1 : ev.length ≤ 140737488355328) (b2 : cs.length ≤ 140737488355328) (b3 : ∀ s ∈ ev, s.xs.length ≤ 140737488355328) (b4 : ∀ s ∈ cs, s.xs.length ≤ 140737488355328) :
    Calls Try.prog 30 #[.agg (encA a).toArray, .slice AV ev.length cV, .slice AC' cs.length cC'] w (FewPost (FewAll a ev cs) w) := by
  obtain ⟨W0, hW0⟩ : ∃ W0, w.alloc (.cells (encA a).toArray 50) = W0 := ⟨_, rfl⟩
  have g0 := new_at hW0
  have hb0 : Below w.heap.size w W0 := by rw [← hW0]; exact (Below.refl _ _).alloc (Nat.le_refl _) _
  have HF := hide (few54_any a evs cds W0 (ht.grow hb0) hle)
  have HF2 := hide (show ∀ w2, Below W0.heap.size W0 w2 → _ from fun w2 hb => few55_any AV AC' cV cC' ev cs w2 ((hev.step hb0).step hb) ((hcs.step hb0).step hb) b1 b2 b3 b4)
  have HB0 := hide hb0
  have n4 := hle.edges
  obtain ⟨AE, nE, cE, AC, nC, cC, AF, cF, fin, AX, cX, edges⟩ := a
  dsimp only at n4
  have hX : ∀ a b c d : Value, ([a, b, c, d] : List Value).toArray = #[a, b, c, d] := fun _ _ _ _ => rfl
  unfold encA at HF hW0 g0 ⊢
  dsimp only at HF hW0 g0 ⊢
  have HW0 := hide hW0
  have HG0 := hide g0
  obtain ⟨y0, y1, y2, y3, -⟩ := box4 g0
  clear hW0 g0 hb0 ht hle hev hcs b1 b2 b3 b4 hX
  go_enter Try.func30, Try.ntmps30
  go_upto_region 1 with (fail)
  rw [HW0.out]
  go_cut [6] (fun v wx => ∃ b : Bool, v = .bool b ∧ Below W0.heap.size W0 wx ∧ (b = true → edges.length ≤ 40 ∧ FewEv ev cs))
  case first =>
    by_cases h40 : edges.length ≤ 40
    · have T1 : decide ((edges.length : Int) ≤ 40) = true := decide_eq_true (by omega)
      go_wp2_with (first
        | (go_at_call 54
           refine HF.out.mono ?_
           rintro e w2 ⟨y, rfl, hb2⟩
           have HB2 := hide hb2
           have y3 := (hb2.cell (p := ⟨w.heap.size, 3, none⟩) (box_lt HG0.out)).trans y3
           clear hb2
           cases y)
        | (go_at_call 55
           refine (HF2.out _ HB2.out).mono ?_
           rintro e w3 ⟨z, rfl, hb3, hz⟩
           have HB3 := hide hb3
           have HZ := hide hz
           clear hb3 hz))
      all_goals go_meet
      · exact ⟨false, rfl, HB2.out, fun e => by cases e⟩
      · exact ⟨z, rfl, bstep HB2.out HB3.out, fun e => ⟨h40, HZ.out e⟩⟩
    · have T1 : decide ((edges.length : Int) ≤ 40) = false := decide_eq_false (by omega)
      go_wp2_with (
           go_at_call 54
           refine HF.out.mono ?_
           rintro e w2 ⟨y, rfl, hb2⟩
           have HB2 := hide hb2
           have y3 := (hb2.cell (p := ⟨w.heap.size, 3, none⟩) (box_lt HG0.out)).trans y3
           clear hb2
           cases y)
      all_goals go_meet
      all_goals exact ⟨false, rfl, HB2.out, fun e => by cases e⟩
  case rest =>
    obtain ⟨bt, rfl, hbc, hbt⟩ := hcut
    have HE := hide (show FewPost (FewAll ⟨AE, nE, cE, AC, nC, cC, AF, cF, fin, AX, cX, edges⟩ ev cs) w (.returned (.bool bt)) wc from ⟨bt, rfl, bstep HB0.out hbc, hbt⟩)
    clear hbc hbt
    go_wp2_with fail
    go_ret
    exact HE.out

end Go.Proofs.Ytkbiefklilelmaa
