/-
  Several texts in one: Same55, Few55, Reads55, Aw55S. Each says at its head what it holds.
-/
import Derived.Test.YtkbiefklilelmaaMP7
import Derived.Test.YtkbiefklilelmaaMP13
import Derived.Test.YtkbiefklilelmaaMP6
import Derived.Test.YtkbiefklilelmaaMP1
import Derived.Test.YtkbiefklilelmaaMP10

/-
  wavestoreref55.Same: whether two lists of matches are equal; wavestoreref55.Few: whether times and sets are few.
-/
namespace Go.Proofs.Ytkbiefklilelmaa
open Go.RowKit Go.Joins

theorem OwnOc.ats {w : World} {base : Nat} {A : Option Addr} {c : Nat} {xs : List Iv} (h : OwnOc w base A c xs) : IvsAt w w.heap.size A xs := fun hx => by
  obtain ⟨g, e, h1, h2⟩ := own_place h (List.length_pos_iff.2 hx)
  subst e
  refine ⟨g, 0, rfl, h2, fun i x hi => ?_⟩
  have hlt : i < xs.length := (List.getElem?_eq_some_iff.1 hi).1
  obtain ⟨e1, e2⟩ := encIvs_at hi
  exact ⟨by rw [Nat.zero_add, World.ownsRow.cellAt h _ (by omega), e1], by rw [Nat.zero_add, World.ownsRow.cellAt h _ (by omega), e2]⟩

theorem eq_oc (a b c d : Int) (w : World) : (Op.equalIn 10000 64 (.agg #[.int .i64 a, .int .i64 b]) (.agg #[.int .i64 c, .int .i64 d])).run Try.prog w = .ok (a == c && b == d) w := by
  have u3 := Try.underlying3
  have a3 := Try.isAgg3
  have z3 := Try.sizeOf3
  have hS : Try.prog.underlying 64 = some (.struct (Try.prog.fieldsOf 64)) := by kernel_rfl
  have hp : Try.prog.stoodInHeld 64 = false := by kernel_rfl
  rw [show (10000 : Nat) = 9999 + 1 from rfl, run_equalIn_agg w 9999 64 _ _ hS hp]
  simp only [Program.fieldsOf, Try.underlying64]
  go_simp
  by_cases h1 : a = c <;> by_cases h2 : b = d <;> simp [h1, h2]
theorem neq_oc (a b c d : Int) (w : World) : (binOp .neq 64 (.agg #[.int .i64 a, .int .i64 b]) (.agg #[.int .i64 c, .int .i64 d])).run Try.prog w = .ok (.bool (!(a == c && b == d))) w := by
  rw [run_neq_struct, eq_oc]; rfl

def OsRel (w : World) (xs ys : List Iv) (i : Value) (wr : World) : Prop :=
  ∃ (k q : Nat), k ≤ xs.length ∧ i = .int .i64 k ∧ xs.take k = ys.take k ∧ wr = w.drewN q

set_option maxHeartbeats 1000000 in
theorem osame_any (A B : Option Addr) (c d : Nat) (xs ys : List Iv) (w : World) (hx : IvsAt w w.heap.size A xs) (hy : IvsAt w w.heap.size B ys) (hl : xs.length ≤ 4398046511104) (_hl2 : ys.length ≤ 4398046511104) :
    Calls Try.prog 34 #[.slice A xs.length c, .slice B ys.length d] w fun e w' => e = .returned (.bool (decide (xs = ys))) ∧ ∃ q, w' = w.drewN q := by
  by_cases hlen : xs.length = ys.length
  · have HL := hide hlen
    have hne : ((xs.length : Int) != (ys.length : Int)) = false := by simp [hlen]
    clear hlen
    go_enter Try.func34, Try.ntmps34
    go_wp2
    go_loopw [5] (fun i wr => OsRel w xs ys i wr) (fun i _ => xs.length - (intOf i).toNat)
    case atStart => exact ⟨0, 0, Nat.zero_le _, rfl, rfl, rfl⟩
    case round =>
      obtain ⟨k, q, hk, rfl, htk, rfl⟩ := hrel
      have HTK := hide htk
      clear htk
      by_cases hlt : k < xs.length
      · have hlt2 : k < ys.length := by have := HL.out; omega
        obtain ⟨b, off, rfl, hbb, hc1, hc2⟩ := hx.at_ hlt
        obtain ⟨b', off', rfl, hbb', hc1', hc2'⟩ := hy.at_ hlt2
        have hne2 := neq_oc xs[k].1 xs[k].2 ys[k].1 ys[k].2
        go_wp2
        go_quiet (fail)
        go_wp2
        · have hw : (!xs[k].1 == ys[k].1) = true ∨ (!xs[k].2 == ys[k].2) = true := by assumption
          go_ret
          exact ⟨by rw [decide_eq_false (fun e => same_ne e hlt hlt2 hw)]; rfl, q + nq, by rw [World.drewN_drewN]⟩
        · have hw : (!xs[k].1 == ys[k].1) = false ∧ (!xs[k].2 == ys[k].2) = false := by assumption
          go_roundw
          case rel => exact ⟨k + 1, q + nq, by omega, by go_num, same_step HTK.out hlt hlt2 hw, rfl⟩
          case measure => simp [intOf]; omega
      · go_wp2
        go_ret
        refine ⟨?_, _, rfl⟩
        have h1 := HTK.out
        have h2 := HL.out
        rw [List.take_of_length_le (by omega), List.take_of_length_le (by omega)] at h1
        rw [decide_eq_true h1]
        rfl
  · have hne : ((xs.length : Int) != (ys.length : Int)) = true := by simp; omega
    have HL := hide hlen
    clear hlen
    go_enter Try.func34, Try.ntmps34
    go_wp2
    go_ret
    exact ⟨by rw [decide_eq_false (fun e => HL.out (by rw [e]))]; rfl, 0, rfl⟩


/-- what r55.Few asks -/
def FewEv (ev : List SlI) (cs : List SlV) : Prop := ev.length ≤ 40 ∧ cs.length ≤ 40 ∧ (∀ s ∈ ev, s.xs.length ≤ 24) ∧ ∀ s ∈ cs, s.xs.length ≤ 12
def FewPost (p : Prop) (w : World) (e : Ending) (w' : World) : Prop := ∃ b : Bool, e = .returned (.bool b) ∧ Below w.heap.size w w' ∧ (b = true → p)
def Few1 (ev : List SlI) (w : World) (i : Value) (wr : World) : Prop := ∃ k : Nat, k ≤ ev.length ∧ i = .int .i64 k ∧ w = wr ∧ ∀ j s, j < k → ev[j]? = some s → s.xs.length ≤ 24
def Few2 (cs : List SlV) (w : World) (i : Value) (wr : World) : Prop := ∃ k : Nat, k ≤ cs.length ∧ i = .int .i64 k ∧ w = wr ∧ ∀ j s, j < k → cs[j]? = some s → s.xs.length ≤ 12
theorem upto_next {α : Type} {l : List α} {k : Nat} {p : α → Prop} {x : α} (h : ∀ j s, j < k → l[j]? = some s → p s) (hx : l[k]? = some x) (hp : p x) : ∀ j s, j < k + 1 → l[j]? = some s → p s := fun j s hj hs => by
  rcases Nat.lt_or_ge j k with h1 | h1
  · exact h j s h1 hs
  · have : j = k := by omega
    subst this
    rw [hx] at hs
    injection hs with hs
    subst hs
    exact hp
theorem upto_end {α : Type} {l : List α} {p : α → Prop} (h : ∀ j s, j < l.length → l[j]? = some s → p s) : ∀ s ∈ l, p s := fun s hs => by
  obtain ⟨j, hj⟩ := List.getElem?_of_mem hs
  exact h j s (List.getElem?_eq_some_iff.1 hj).1 hj

set_option maxHeartbeats 1000000 in
theorem few55_any (AV AC : Option Addr) (cV cC : Nat) (ev : List SlI) (cs : List SlV) (w : World) (hev : EvAt w AV ev) (hcs : CsAt w AC cs) (b1 : ev.length ≤ 140737488355328) (b2 : cs.length ≤ 140737488355328) (b3 : ∀ s ∈ ev, s.xs.length ≤ 140737488355328) (b4 : ∀ s ∈ cs, s.xs.length ≤ 140737488355328) :
    Calls Try.prog 55 #[.slice AV ev.length cV, .slice AC cs.length cC] w (FewPost (FewEv ev cs) w) := by
  have HEV := hide hev
  have HCS := hide hcs
  have HB3 := hide b3
  have HB4 := hide b4
  have HNO := hide (show FewPost (FewEv ev cs) w (.returned (.bool false)) w from ⟨false, rfl, Below.refl _ _, fun e => by cases e⟩)
  clear hev hcs b3 b4
  by_cases h1 : ev.length ≤ 40
  · have T1 : decide ((40 : Int) < (ev.length : Int)) = false := decide_eq_false (by omega)
    by_cases h2 : cs.length ≤ 40
    · have T2 : decide ((40 : Int) < (cs.length : Int)) = false := decide_eq_false (by omega)
      go_enter Try.func55, Try.ntmps55
      go_wp2_with fail
      go_loopw [5] (fun i wr => Few1 ev w i wr) (fun i _ => ev.length - (intOf i).toNat)
      case atStart => exact ⟨0, Nat.zero_le _, rfl, rfl, fun j s hj => absurd hj (Nat.not_lt_zero _)⟩
      case round =>
        obtain ⟨k, hk, rfl, rfl, hin⟩ := hrel
        have HIN := hide hin
        clear hin
        by_cases hlt : k < ev.length
        · obtain ⟨bv, ov, rfl, hbv, e0, hi⟩ := HEV.out.at_ hlt
          have hx : ev[k]? = some ev[k] := List.getElem?_eq_getElem hlt
          have hb := HB3.out _ (List.getElem_mem hlt)
          generalize ev[k] = s at *
          obtain ⟨sA, sc, l⟩ := s
          dsimp only at hi hb e0
          have HX := hide hx
          clear hx hi
          by_cases h24 : l.length ≤ 24
          · have T3 : decide ((24 : Int) < (l.length : Int)) = false := decide_eq_false (by omega)
            have HN := hide (upto_next (p := fun s : SlI => s.xs.length ≤ 24) HIN.out HX.out h24)
            go_wp2_with fail
            exact ⟨⟨k + 1, hlt, by go_num, rfl, HN.out⟩, by simp [intOf]; omega⟩
          · have T3 : decide ((24 : Int) < (l.length : Int)) = true := decide_eq_true (by omega)
            go_wp2_with fail
            go_ret
            exact HNO.out
        · have hke : k = ev.length := by omega
          subst hke
          have HE := hide (upto_end HIN.out)
          go_wp2_with fail
          go_loopw [6] (fun i wr => Few2 cs w i wr) (fun i _ => cs.length - (intOf i).toNat)
          case atStart => exact ⟨0, Nat.zero_le _, rfl, rfl, fun j s hj => absurd hj (Nat.not_lt_zero _)⟩
          case round =>
            obtain ⟨k, hk, rfl, rfl, hin⟩ := hrel
            have HIN2 := hide hin
            clear hin
            by_cases hlt : k < cs.length
            · obtain ⟨bv, ov, rfl, hbv, e0, hi⟩ := HCS.out.at_ hlt
              have hx : cs[k]? = some cs[k] := List.getElem?_eq_getElem hlt
              have hb := HB4.out _ (List.getElem_mem hlt)
              generalize cs[k] = s at *
              obtain ⟨sA, sc, l⟩ := s
              dsimp only at hi hb e0
              have HX := hide hx
              clear hx hi
              by_cases h24 : l.length ≤ 12
              · have T3 : decide ((12 : Int) < (l.length : Int)) = false := decide_eq_false (by omega)
                have HN := hide (upto_next (p := fun s : SlV => s.xs.length ≤ 12) HIN2.out HX.out h24)
                go_wp2_with fail
                exact ⟨⟨k + 1, hlt, by go_num, rfl, HN.out⟩, by simp [intOf]; omega⟩
              · have T3 : decide ((12 : Int) < (l.length : Int)) = true := decide_eq_true (by omega)
                go_wp2_with fail
                go_ret
                exact HNO.out
            · have hke : k = cs.length := by omega
              subst hke
              have HF := hide (show FewPost (FewEv ev cs) w (.returned (.bool true)) w from ⟨true, rfl, Below.refl _ _, fun _ => ⟨h1, h2, HE.out, upto_end HIN2.out⟩⟩)
              go_wp2_with fail
              go_ret
              exact HF.out
    · have T2 : decide ((40 : Int) < (cs.length : Int)) = true := decide_eq_true (by omega)
      go_enter Try.func55, Try.ntmps55
      go_wp2_with fail
      go_ret
      exact HNO.out
  · have T1 : decide ((40 : Int) < (ev.length : Int)) = true := decide_eq_true (by omega)
    go_enter Try.func55, Try.ntmps55
    go_wp2_with fail
    go_ret
    exact HNO.out

end Go.Proofs.Ytkbiefklilelmaa

/-
  wavestoreref54.Few ends, whatever the automaton; wavestorelaw55.few: what it lets in.
-/
namespace Go.Proofs.Ytkbiefklilelmaa
open Go.RowKit

/-- the lists of trees of an automaton -/
structure AutTrees (w : World) (a : Aut) (evs cds : List Nd) : Prop where
  nE : a.nE = evs.length
  nC : a.nC = cds.length
  ev : TreesAt w (Lo w.heap.size) a.AE evs
  cd : TreesAt w (Lo w.heap.size) a.AC cds
theorem AutTrees.grow {w w' : World} {a : Aut} {evs cds : List Nd} (h : AutTrees w a evs cds) (hb : Below w.heap.size w w') : AutTrees w' a evs cds := ⟨h.nE, h.nC, h.ev.grow hb, h.cd.grow hb⟩

set_option maxRecDepth 100000 in
set_option maxHeartbeats 4000000 in
theorem few54_any (a : Aut) (evs cds : List Nd) (w : World) (ht : AutTrees w a evs cds) (hle : AutLe a) : Calls Try.prog 54 #[.agg (encA a).toArray] w (BoolPost w) := by
  obtain ⟨AE, nE, cE, AC, nC, cC, AF, cF, fin, AX, cX, edges⟩ := a
  obtain ⟨hE, hC, hev, hcd⟩ := ht
  have n1 := hle.nE
  have n2 := hle.nC
  have n3 := hle.fin
  have n4 := hle.edges
  dsimp only at hE hC hev hcd n1 n2 n3 n4
  subst hE hC
  obtain ⟨W0, hW0⟩ : ∃ W0, w.alloc (.cells #[.slice AE evs.length cE, .slice AC cds.length cC, .slice AF fin.length cF, .slice AX edges.length cX] 50) = W0 := ⟨_, rfl⟩
  have g0 := new_at hW0
  have hb0 : Below w.heap.size w W0 := by rw [← hW0]; exact (Below.refl _ _).alloc (Nat.le_refl _) _
  have HE := hide (hev.grow hb0)
  have HC := hide (hcd.grow hb0)
  have HG0 := hide g0
  have HB0 := hide hb0
  have HW0 := hide hW0
  have HNO := hide (show ∀ wr, Below W0.heap.size W0 wr → BoolPost w (.returned (.bool false)) wr from fun wr hb => ⟨false, rfl, bstep hb0 hb⟩)
  obtain ⟨y0, y1, y2, y3, -⟩ := box4 g0
  clear g0 hb0 hW0 hev hcd hle
  show Calls _ _ #[.agg #[.slice AE evs.length cE, .slice AC cds.length cC, .slice AF fin.length cF, .slice AX edges.length cX]] w (BoolPost w)
  go_enter Try.func54, Try.ntmps54
  go_upto_region 1 with (fail)
  rw [HW0.out]
  go_cut [26] (fun v wx => ∃ b : Bool, v = .bool b ∧ Below W0.heap.size W0 wx)
  case first =>
    obtain ⟨t1, T1⟩ : ∃ t1, decide ((40 : Int) < (evs.length : Int)) = t1 := ⟨_, rfl⟩
    obtain ⟨t2, T2⟩ : ∃ t2, decide ((40 : Int) < (cds.length : Int)) = t2 := ⟨_, rfl⟩
    obtain ⟨t3, T3⟩ : ∃ t3, decide ((40 : Int) < (fin.length : Int)) = t3 := ⟨_, rfl⟩
    obtain ⟨t4, T4⟩ : ∃ t4, decide ((200 : Int) < (edges.length : Int)) = t4 := ⟨_, rfl⟩
    cases t1 <;> cases t2 <;> cases t3 <;> cases t4 <;> (go_wp2_with fail; go_meet; exact ⟨_, rfl, Below.refl _ _⟩)
  case rest =>
    obtain ⟨bt, rfl, hbc⟩ := hcut
    have HBC := hide hbc
    clear hbc y0 y1 y2 y3
    cases bt with
    | true =>
      go_wp2_with fail
      go_ret
      exact HNO.out _ HBC.out
    | false =>
      go_wp2_with fail
      go_loopw [3] (fun i wr => FewRel evs.length W0 i wr) (fun i _ => evs.length - (intOf i).toNat)
      case atStart => exact ⟨0, Nat.zero_le _, rfl, HBC.out⟩
      case round =>
        obtain ⟨j, hj, rfl, hbr⟩ := hrel
        have HBR := hide hbr
        obtain ⟨x0, x1, -, -, -⟩ := box4 ((hbr.block _ (box_lt HG0.out)).trans HG0.out)
        clear hbr
        by_cases hlt : j < evs.length
        · have hT := HE.out.grow HBR.out
          obtain ⟨bk, ok, rfl, hbk, hc⟩ := hT.row.at_ hlt
          have hcall := few49_any 20 evs[j] wr (hT.each _ (List.getElem_mem hlt))
          generalize evs[j] = m at *
          obtain ⟨m1, m2, m3, m4, m5, m6, m7, m8, mK, mc, ml⟩ := m
          unfold cNd at hc hcall
          have HCL := hide hcall
          have c0 := hc 0 (by omega)
          have c1 := hc 1 (by omega)
          have c2 := hc 2 (by omega)
          have c3 := hc 3 (by omega)
          have c4 := hc 4 (by omega)
          have c5 := hc 5 (by omega)
          have c6 := hc 6 (by omega)
          have c7 := hc 7 (by omega)
          have c8 := hc 8 (by omega)
          simp only [List.getElem?_cons_zero, List.getElem?_cons_succ, Nat.add_zero] at c0 c1 c2 c3 c4 c5 c6 c7 c8
          clear hc hcall hT
          go_upto_if 40 with (go_at_call 76; refine HCL.out.mono ?_; rintro e w2 ⟨y, rfl, hb2⟩; have HB2 := hide hb2; clear hb2)
          cases y with
          | true =>
            go_wp2_with fail
            exact ⟨⟨j + 1, hlt, by go_num, bstep HBR.out HB2.out⟩, by simp [intOf]; omega⟩
          | false =>
            go_wp2_with fail
            go_ret
            exact HNO.out _ (bstep HBR.out HB2.out)
        · clear x0 x1
          obtain ⟨x0, x1, -, -, -⟩ := box4 ((HBR.out.block _ (box_lt HG0.out)).trans HG0.out)
          go_wp2_with fail
          clear x0 x1
          go_loopw [4] (fun i wr => FewRel cds.length W0 i wr) (fun i _ => cds.length - (intOf i).toNat)
          case atStart => exact ⟨0, Nat.zero_le _, rfl, HBR.out⟩
          case round =>
            obtain ⟨j2, hj2, rfl, hbr⟩ := hrel
            have HBR2 := hide hbr
            obtain ⟨x0, x1, -, -, -⟩ := box4 ((hbr.block _ (box_lt HG0.out)).trans HG0.out)
            clear hbr
            by_cases hlt2 : j2 < cds.length
            · have hT := HC.out.grow HBR2.out
              obtain ⟨bk, ok, rfl, hbk, hc⟩ := hT.row.at_ hlt2
              have hcall := few49_any 20 cds[j2] wr (hT.each _ (List.getElem_mem hlt2))
              generalize cds[j2] = m at *
              obtain ⟨m1, m2, m3, m4, m5, m6, m7, m8, mK, mc, ml⟩ := m
              unfold cNd at hc hcall
              have HCL := hide hcall
              have c0 := hc 0 (by omega)
              have c1 := hc 1 (by omega)
              have c2 := hc 2 (by omega)
              have c3 := hc 3 (by omega)
              have c4 := hc 4 (by omega)
              have c5 := hc 5 (by omega)
              have c6 := hc 6 (by omega)
              have c7 := hc 7 (by omega)
              have c8 := hc 8 (by omega)
              simp only [List.getElem?_cons_zero, List.getElem?_cons_succ, Nat.add_zero] at c0 c1 c2 c3 c4 c5 c6 c7 c8
              clear hc hcall hT
              go_upto_if 54 with (go_at_call 76; refine HCL.out.mono ?_; rintro e w2 ⟨y, rfl, hb2⟩; have HB2 := hide hb2; clear hb2)
              cases y with
              | true =>
                go_wp2_with fail
                exact ⟨⟨j2 + 1, hlt2, by go_num, bstep HBR2.out HB2.out⟩, by simp [intOf]; omega⟩
              | false =>
                go_wp2_with fail
                go_ret
                exact HNO.out _ (bstep HBR2.out HB2.out)
            · have HF := hide (show BoolPost w (.returned (.bool true)) wr from ⟨true, rfl, bstep HB0.out HBR2.out⟩)
              go_wp2_with fail
              go_ret
              exact HF.out

/-- what the law's few lets in -/
def FewAll (a : Aut) (ev : List SlI) (cs : List SlV) : Prop := a.edges.length ≤ 40 ∧ FewEv ev cs
set_option maxRecDepth 100000 in
set_option maxHeartbeats 4000000 in
theorem few_any (a : Aut) (evs cds : List Nd) (AV AC' : Option Addr) (cV cC' : Nat) (ev : List SlI) (cs : List SlV) (w : World) (ht : AutTrees w a evs cds) (hle : AutLe a) (hev : EvAt w AV ev) (hcs : CsAt w AC' cs) (b1 : ev.length ≤ 140737488355328) (b2 : cs.length ≤ 140737488355328) (b3 : ∀ s ∈ ev, s.xs.length ≤ 140737488355328) (b4 : ∀ s ∈ cs, s.xs.length ≤ 140737488355328) :
    Calls Try.prog 30 #[.agg (encA a).toArray, .slice AV ev.length cV, .slice AC' cs.length cC'] w (FewPost (FewAll a ev cs) w) := by
  obtain ⟨W0, hW0⟩ : ∃ W0, w.alloc (.cells (encA a).toArray 50) = W0 := ⟨_, rfl⟩
  have g0 := new_at hW0
  have hb0 : Below w.heap.size w W0 := by rw [← hW0]; exact (Below.refl _ _).alloc (Nat.le_refl _) _
  have HF := hide (few54_any a evs cds W0 (ht.grow hb0) hle)
  have HF2 := hide (show ∀ w2, Below W0.heap.size W0 w2 → _ from fun w2 hb => few55_any AV AC' cV cC' ev cs w2 ((hev.step hb0).step hb) ((hcs.step hb0).step hb) b1 b2 b3 b4)
  have HB0 := hide hb0
  have n4 := hle.edges
  obtain ⟨AE, nE, cE, AC, nC, cC, AF, cF, fin, AX, cX, edges⟩ := a
  dsimp only at n4
  have hX : ∀ a b c d : Value, ([a, b, c, d] : List Value).toArray = #[a, b, c, d] := fun _ _ _ _ => rfl
  unfold encA at HF hW0 g0 ⊢
  dsimp only at HF hW0 g0 ⊢
  have HW0 := hide hW0
  have HG0 := hide g0
  obtain ⟨y0, y1, y2, y3, -⟩ := box4 g0
  clear hW0 g0 hb0 ht hle hev hcs b1 b2 b3 b4 hX
  go_enter Try.func30, Try.ntmps30
  go_upto_region 1 with (fail)
  rw [HW0.out]
  go_cut [6] (fun v wx => ∃ b : Bool, v = .bool b ∧ Below W0.heap.size W0 wx ∧ (b = true → edges.length ≤ 40 ∧ FewEv ev cs))
  case first =>
    by_cases h40 : edges.length ≤ 40
    · have T1 : decide ((edges.length : Int) ≤ 40) = true := decide_eq_true (by omega)
      go_wp2_with (first
        | (go_at_call 54
           refine HF.out.mono ?_
           rintro e w2 ⟨y, rfl, hb2⟩
           have HB2 := hide hb2
           have y3 := (hb2.cell (p := ⟨w.heap.size, 3, none⟩) (box_lt HG0.out)).trans y3
           clear hb2
           cases y)
        | (go_at_call 55
           refine (HF2.out _ HB2.out).mono ?_
           rintro e w3 ⟨z, rfl, hb3, hz⟩
           have HB3 := hide hb3
           have HZ := hide hz
           clear hb3 hz))
      all_goals go_meet
      · exact ⟨false, rfl, HB2.out, fun e => by cases e⟩
      · exact ⟨z, rfl, bstep HB2.out HB3.out, fun e => ⟨h40, HZ.out e⟩⟩
    · have T1 : decide ((edges.length : Int) ≤ 40) = false := decide_eq_false (by omega)
      go_wp2_with (
           go_at_call 54
           refine HF.out.mono ?_
           rintro e w2 ⟨y, rfl, hb2⟩
           have HB2 := hide hb2
           have y3 := (hb2.cell (p := ⟨w.heap.size, 3, none⟩) (box_lt HG0.out)).trans y3
           clear hb2
           cases y)
      all_goals go_meet
      all_goals exact ⟨false, rfl, HB2.out, fun e => by cases e⟩
  case rest =>
    obtain ⟨bt, rfl, hbc, hbt⟩ := hcut
    have HE := hide (show FewPost (FewAll ⟨AE, nE, cE, AC, nC, cC, AF, cF, fin, AX, cX, edges⟩ ev cs) w (.returned (.bool bt)) wc from ⟨bt, rfl, bstep HB0.out hbc, hbt⟩)
    clear hbc hbt
    go_wp2_with fail
    go_ret
    exact HE.out

end Go.Proofs.Ytkbiefklilelmaa

/-
  Trees of nodes, automata, lists of times and of sets, read out of the arguments.
-/
namespace Go.Proofs.Ytkbiefklilelmaa
open Go.ChangeShapes Go.WideShapes Go.ChangeAt Go.RowKit Go.Deep

section
variable {H : Type} {enc : TypeId × Value → H} {P : Program} {W : World} {base : Nat} {spare : Nat → Bool} {held : Bool}
theorem rd_slice_lt {α : Type} {t e : TypeId} (size bytes : Nat) (cells : α → List Value) (hd : α → Prop) (ht : P.underlying t = some (.slice e)) (hs : P.cellsOf e = size) (hpos : 0 < size) (hby : P.bytesOf e = bytes) {fuel : Nat}
    (rd : ∀ n cs y, n < fuel → DataW.trod enc P W base spare held n e cs = some y → Fit P e y.1 → ∃ a, cs = cells a ∧ hd a)
    {cs : List Value} {y : DataW H × List MemPlace} (h : DataW.trod enc P W base spare held fuel t cs = some y) (hf : Fit P t y.1) :
    ∃ (A : Option Addr) (c : Nat) (xs : List α), cs = [.slice A xs.length c] ∧ RowAt W (fun b => b < W.heap.size) size cells hd A xs ∧ xs.length * bytes ≤ reachBytes := by
  rcases DataW.trod_slice ht h with ⟨rfl, rfl⟩ | ⟨a, len, cap, elems, rest, n, hfu, rfl, rfl, hb, hl, hc, hel, hi, _⟩
  · exact ⟨none, 0, [], rfl, fun h => absurd rfl h, by simp⟩
  · have hfit : ∀ i (h : i < elems.length), Fit P e elems[i].1 := fun i h m hm => hf m (by
      simp only [DataW.weights, ht, List.mem_cons, List.mem_append]
      exact .inr (.inl (weightsAll_mem (List.mem_map.2 ⟨elems[i], List.getElem_mem h, rfl⟩) m hm)))
    have hrow : ∀ i, i < len → ∃ x : α, (∀ j, j < size → W.cell? ((a.add (i * size)).add j) = (cells x)[j]?) ∧ hd x ∧ (cells x).length = size := fun i hlt => by
      have h1 := hi i hlt
      have hlt' : i < elems.length := by omega
      rw [List.getElem?_eq_getElem hlt', Option.bind_eq_some_iff] at h1
      obtain ⟨cs, hcs, htr⟩ := h1
      obtain ⟨x, rfl, hx⟩ := rd n cs _ (by omega) htr (hfit i hlt')
      obtain ⟨_, hcl, hat⟩ := World.cells?_some hcs
      rw [hs] at hcl hat
      exact ⟨x, hat, hx, hcl⟩
    obtain ⟨xs, hxl, hx⟩ := pick_list _ len hrow
    refine ⟨some a, cap, xs, by rw [hxl], fun hne => ?_, ?_⟩
    · have hp : 0 < xs.length := List.length_pos_iff.2 hne
      obtain ⟨b, off, spot⟩ := a
      have h0 : W.cell? ((Addr.add ⟨b, off, spot⟩ (0 * size)).add 0) = (cells xs[0])[0]? := (hx 0 _ (List.getElem?_eq_getElem hp)).1 0 hpos
      have hl0 := (hx 0 _ (List.getElem?_eq_getElem hp)).2.2
      rw [List.getElem?_eq_getElem (by omega)] at h0
      have hspot : spot = none := by simpa [Addr.add] using World.cell?_spot h0
      subst hspot
      have hblk := World.block_lt_of_cell? _ _ h0
      rw [addr_plus, addr_plus] at hblk
      refine ⟨b, off, rfl, hblk, fun i x hi => ⟨fun j hj => ?_, (hx i x hi).2.1⟩⟩
      have := (hx i x hi).1 j hj
      rwa [addr_plus, addr_plus] at this
    · have := hf ((elems.length + rest.length) * P.bytesOf e) (by simp [DataW.weights, ht])
      rw [hby] at this
      have h2 : xs.length * bytes ≤ (elems.length + rest.length) * bytes := Nat.mul_le_mul_right _ (by omega)
      omega
theorem rd_struct_lt {t : TypeId} {fs : Array Field} (ht : P.underlying t = some (.struct fs)) {n : Nat} {cs : List Value} {y : DataW H × List MemPlace} (h : DataW.trod enc P W base spare held n t cs = some y) (hf : Fit P t y.1) :
    cs.length = P.cellsOf t ∧ ∀ (i : Nat) (ft : TypeId) (off k : Nat), (fs[i]?.map fun f => (f.type, f.offset)) = some (ft, off) → P.cellsOf ft = k → ∃ m z, m < n ∧ DataW.trod enc P W base spare held m ft ((cs.drop off).take k) = some z ∧ Fit P ft z.1 := by
  obtain ⟨xs, m, hfu, rfl, hl, hxl, hx⟩ := DataW.trod_struct ht h
  refine ⟨hl, fun i ft off k hi hk => ?_⟩
  subst hk
  rw [Option.map_eq_some_iff] at hi
  obtain ⟨f, hi, e⟩ := hi
  injection e with e1 e2
  subst e1 e2
  have hlt : i < fs.size := (Array.getElem?_eq_some_iff.1 hi).1
  have h1 := hx i f hi
  rw [List.getElem?_eq_getElem (by omega)] at h1
  refine ⟨m, _, by omega, h1, fun k hk => hf k ?_⟩
  simp only [DataW.weights, ht]
  refine DataW.weights_mem_each (j := i) (t := f.type) (d := xs[i].1) ?_ ?_ k hk
  · rw [List.getElem?_map, Array.getElem?_toList, hi]; rfl
  · rw [List.getElem?_map, List.getElem?_eq_getElem (by omega)]; rfl
/-- the row that a reader gives -/
theorem row_of {α : Type} {size : Nat} {cells : α → List Value} {hd : α → Prop} {A : Option Addr} {xs : List α} (h : RowAt W (fun b => b < W.heap.size) size cells hd A xs) : Row W (Lo W.heap.size) size cells A xs ∧ ∀ x ∈ xs, hd x := by
  refine ⟨fun hne => ?_, fun x hx => ?_⟩
  · obtain ⟨b, off, e, hb, hc⟩ := h hne
    exact ⟨b, off, e, hb, fun i x hi j hj => (hc i x hi).1 j hj⟩
  · obtain ⟨i, hi⟩ := List.getElem?_of_mem hx
    obtain ⟨b, off, _, _, hc⟩ := h (fun e => by subst e; simp at hx)
    exact (hc i x hi).2
end

theorem cellsInt5 : Try.prog.cellsOf 3 = 1 := by kernel_rfl
theorem cellsBool5 : Try.prog.cellsOf 4 = 1 := by kernel_rfl
theorem cellsStr5 : Try.prog.cellsOf 9 = 1 := by kernel_rfl
theorem cellsNds5 : Try.prog.cellsOf 46 = 1 := by kernel_rfl
theorem cellsNd5 : Try.prog.cellsOf 105 = 9 := by kernel_rfl
theorem cellsEdg5 : Try.prog.cellsOf 81 = 6 := by kernel_rfl
theorem cellsIv5 : Try.prog.cellsOf 42 = 2 := by kernel_rfl
theorem cellsInts5 : Try.prog.cellsOf 36 = 1 := by kernel_rfl
theorem cellsIvs5 : Try.prog.cellsOf 22 = 1 := by kernel_rfl
theorem cellsBools5 : Try.prog.cellsOf 47 = 1 := by kernel_rfl
theorem cellsEdgs5 : Try.prog.cellsOf 48 = 1 := by kernel_rfl
theorem cellsAut5 : Try.prog.cellsOf 50 = 4 := by kernel_rfl

section
variable {H : Type} {enc : TypeId × Value → H} {W : World} {base : Nat} {spare : Nat → Bool} {held : Bool}

set_option maxRecDepth 100000 in
theorem rd_trees : ∀ (fuel : Nat) {cs : List Value} {y : DataW H × List MemPlace}, DataW.trod enc Try.prog W base spare held fuel 46 cs = some y → Fit Try.prog 46 y.1 →
    ∃ A c l, cs = [.slice A (List.length l) c] ∧ TreesAt W (Lo W.heap.size) A l := by
  intro fuel
  induction fuel using Nat.strongRecOn with
  | ind fuel ih =>
  intro cs y h hf
  obtain ⟨A, c, l, rfl, hr, hw⟩ := rd_slice_lt 9 104 cNd (fun n => TreesAt W (Lo W.heap.size) n.KA n.kids) Try.underlying46 cellsNd5 (by decide) (by kernel_rfl) (fun n cs y hn h hf => by
    obtain ⟨hl, hx⟩ := rd_struct_lt Try.underlying105 h hf
    rw [cellsNd5] at hl
    match cs, hl with
    | [c0, c1, c2, c3, c4, c5, c6, c7, c8], _ =>
      obtain ⟨_, _, _, h0, _⟩ := hx 0 3 0 1 rfl cellsInt5
      obtain ⟨_, _, _, h1, _⟩ := hx 1 3 1 1 rfl cellsInt5
      obtain ⟨_, _, _, h2, _⟩ := hx 2 9 2 1 rfl cellsStr5
      obtain ⟨_, _, _, h3, _⟩ := hx 3 9 3 1 rfl cellsStr5
      obtain ⟨_, _, _, h4, _⟩ := hx 4 3 4 1 rfl cellsInt5
      obtain ⟨_, _, _, h5, _⟩ := hx 5 3 5 1 rfl cellsInt5
      obtain ⟨_, _, _, h6, _⟩ := hx 6 3 6 1 rfl cellsInt5
      obtain ⟨_, _, _, h7, _⟩ := hx 7 3 7 1 rfl cellsInt5
      obtain ⟨m, _, hm, h8, f8⟩ := hx 8 46 8 1 rfl cellsNds5
      simp only [List.drop_zero, List.drop_succ_cons, List.take_succ_cons, List.take_zero] at h0 h1 h2 h3 h4 h5 h6 h7 h8
      obtain ⟨a0, e0, _⟩ := rd_int Try.underlying3 h0
      obtain ⟨a1, e1, _⟩ := rd_int Try.underlying3 h1
      obtain ⟨a2, e2, _⟩ := rd_string Try.underlying9 h2
      obtain ⟨a3, e3, _⟩ := rd_string Try.underlying9 h3
      obtain ⟨a4, e4, _⟩ := rd_int Try.underlying3 h4
      obtain ⟨a5, e5, _⟩ := rd_int Try.underlying3 h5
      obtain ⟨a6, e6, _⟩ := rd_int Try.underlying3 h6
      obtain ⟨a7, e7, _⟩ := rd_int Try.underlying3 h7
      obtain ⟨K, kc, kl, e8, hk⟩ := ih m (by omega) h8 f8
      simp only [List.cons.injEq, and_true] at e0 e1 e2 e3 e4 e5 e6 e7 e8
      subst e0 e1 e2 e3 e4 e5 e6 e7 e8
      exact ⟨.mk a0 a1 a2 a3 a4 a5 a6 a7 K kc kl, rfl, hk⟩) h hf
  obtain ⟨h1, h2⟩ := row_of hr
  exact ⟨A, c, l, rfl, .mk A l (by have : reachBytes < 2 ^ 47 := reachBytes_lt; omega) h1 h2⟩

theorem rd_ints5 {fuel : Nat} {cs : List Value} {y : DataW H × List MemPlace} (h : DataW.trod enc Try.prog W base spare held fuel 36 cs = some y) (hf : Fit Try.prog 36 y.1) :
    ∃ s : SlI, cs = cSlI s ∧ IntsAt W W.heap.size s.A s.xs ∧ s.xs.length ≤ 140737488355328 := by
  obtain ⟨A, c, rs, rfl, hr, hw⟩ := rd_slice 1 8 (fun z : Int => [.int .i64 z]) (fun _ => True) Try.underlying36 cellsInt5 (by decide) (by kernel_rfl)
    (fun n cs y h _ => by obtain ⟨z, rfl, _⟩ := rd_int Try.underlying3 h; exact ⟨z, rfl, trivial⟩) h hf
  refine ⟨⟨A, c, rs⟩, rfl, fun hne => ?_, by have : reachBytes < 2 ^ 47 := reachBytes_lt; show rs.length ≤ _; omega⟩
  obtain ⟨b, off, rfl, hb, hc⟩ := hr hne
  refine ⟨b, off, rfl, hb, fun i r hi => ?_⟩
  have c0 := (hc i r hi).1 0 (by decide)
  simpa using c0
theorem rd_ivs5 {fuel : Nat} {cs : List Value} {y : DataW H × List MemPlace} (h : DataW.trod enc Try.prog W base spare held fuel 22 cs = some y) (hf : Fit Try.prog 22 y.1) :
    ∃ s : SlV, cs = cSlV s ∧ IvsAt W W.heap.size s.A s.xs ∧ s.xs.length ≤ 140737488355328 := by
  obtain ⟨A, c, rs, rfl, hr, hw⟩ := rd_slice 2 16 encIv (fun _ => True) Try.underlying22 cellsIv5 (by decide) (by kernel_rfl)
    (fun n cs y h hf => by
      obtain ⟨hl, hx⟩ := rd_struct Try.underlying42 h hf
      rw [cellsIv5] at hl
      match cs, hl with
      | [c0, c1], _ =>
        obtain ⟨_, _, h0, _⟩ := hx 0 3 0 1 rfl cellsInt5
        obtain ⟨_, _, h1, _⟩ := hx 1 3 1 1 rfl cellsInt5
        simp only [List.drop_zero, List.drop_succ_cons, List.take_succ_cons, List.take_zero] at h0 h1
        obtain ⟨a0, e0, _⟩ := rd_int Try.underlying3 h0
        obtain ⟨a1, e1, _⟩ := rd_int Try.underlying3 h1
        simp only [List.cons.injEq, and_true] at e0 e1
        subst e0 e1
        exact ⟨(a0, a1), rfl, trivial⟩) h hf
  refine ⟨⟨A, c, rs⟩, rfl, fun hne => ?_, by have : reachBytes < 2 ^ 47 := reachBytes_lt; show rs.length ≤ _; omega⟩
  obtain ⟨b, off, rfl, hb, hc⟩ := hr hne
  refine ⟨b, off, rfl, hb, fun i r hi => ?_⟩
  have c0 := (hc i r hi).1 0 (by decide)
  have c1 := (hc i r hi).1 1 (by decide)
  exact ⟨by simpa [encIv] using c0, by simpa [encIv] using c1⟩
theorem rd_evs {fuel : Nat} {cs : List Value} {y : DataW H × List MemPlace} (h : DataW.trod enc Try.prog W base spare held fuel 51 cs = some y) (hf : Fit Try.prog 51 y.1) :
    ∃ A c l, cs = [.slice A (List.length l) c] ∧ EvAt W A l ∧ (∀ s ∈ l, s.xs.length ≤ 140737488355328) ∧ l.length ≤ 140737488355328 := by
  obtain ⟨A, c, rs, rfl, hr, hw⟩ := rd_slice 1 24 cSlI (fun s => IntsAt W W.heap.size s.A s.xs ∧ s.xs.length ≤ 140737488355328) Try.underlying51 cellsInts5 (by decide) (by kernel_rfl)
    (fun n cs y h hf => rd_ints5 h hf) h hf
  obtain ⟨h1, h2⟩ := row_of hr
  exact ⟨A, c, rs, rfl, ⟨h1, fun s hs => (h2 s hs).1⟩, fun s hs => (h2 s hs).2, by have : reachBytes < 2 ^ 47 := reachBytes_lt; omega⟩
theorem rd_css {fuel : Nat} {cs : List Value} {y : DataW H × List MemPlace} (h : DataW.trod enc Try.prog W base spare held fuel 52 cs = some y) (hf : Fit Try.prog 52 y.1) :
    ∃ A c l, cs = [.slice A (List.length l) c] ∧ CsAt W A l ∧ (∀ s ∈ l, s.xs.length ≤ 140737488355328) ∧ l.length ≤ 140737488355328 := by
  obtain ⟨A, c, rs, rfl, hr, hw⟩ := rd_slice 1 24 cSlV (fun s => IvsAt W W.heap.size s.A s.xs ∧ s.xs.length ≤ 140737488355328) Try.underlying52 cellsIvs5 (by decide) (by kernel_rfl)
    (fun n cs y h hf => rd_ivs5 h hf) h hf
  obtain ⟨h1, h2⟩ := row_of hr
  exact ⟨A, c, rs, rfl, ⟨h1, fun s hs => (h2 s hs).1⟩, fun s hs => (h2 s hs).2, by have : reachBytes < 2 ^ 47 := reachBytes_lt; omega⟩

theorem rd_edgs {fuel : Nat} {cs : List Value} {y : DataW H × List MemPlace} (h : DataW.trod enc Try.prog W base spare held fuel 48 cs = some y) (hf : Fit Try.prog 48 y.1) :
    ∃ A c l, cs = [.slice A (List.length l) c] ∧ Row W (Lo W.heap.size) 6 cEdg A l ∧ (∀ e ∈ l, I64E e) ∧ l.length ≤ 140737488355328 := by
  obtain ⟨A, c, rs, rfl, hr, hw⟩ := rd_slice 6 48 cEdg I64E Try.underlying48 cellsEdg5 (by decide) (by kernel_rfl)
    (fun n cs y h hf => by
      obtain ⟨hl, hx⟩ := rd_struct Try.underlying81 h hf
      rw [cellsEdg5] at hl
      match cs, hl with
      | [c0, c1, c2, c3, c4, c5], _ =>
        obtain ⟨_, _, h0, _⟩ := hx 0 3 0 1 rfl cellsInt5
        obtain ⟨_, _, h1, _⟩ := hx 1 3 1 1 rfl cellsInt5
        obtain ⟨_, _, h2, _⟩ := hx 2 3 2 1 rfl cellsInt5
        obtain ⟨_, _, h3, _⟩ := hx 3 3 3 1 rfl cellsInt5
        obtain ⟨_, _, h4, _⟩ := hx 4 3 4 1 rfl cellsInt5
        obtain ⟨_, _, h5, _⟩ := hx 5 3 5 1 rfl cellsInt5
        simp only [List.drop_zero, List.drop_succ_cons, List.take_succ_cons, List.take_zero] at h0 h1 h2 h3 h4 h5
        obtain ⟨a0, e0, b0⟩ := rd_int Try.underlying3 h0
        obtain ⟨a1, e1, b1⟩ := rd_int Try.underlying3 h1
        obtain ⟨a2, e2, b2⟩ := rd_int Try.underlying3 h2
        obtain ⟨a3, e3, b3⟩ := rd_int Try.underlying3 h3
        obtain ⟨a4, e4, b4⟩ := rd_int Try.underlying3 h4
        obtain ⟨a5, e5, b5⟩ := rd_int Try.underlying3 h5
        simp only [List.cons.injEq, and_true] at e0 e1 e2 e3 e4 e5
        subst e0 e1 e2 e3 e4 e5
        exact ⟨⟨a0, a1, a2, a3, a4, a5⟩, rfl, b0, b1, b2, b3, b4, b5⟩) h hf
  obtain ⟨h1, h2⟩ := row_of hr
  exact ⟨A, c, rs, rfl, h1, h2, by have : reachBytes < 2 ^ 47 := reachBytes_lt; omega⟩
theorem rd_bools {fuel : Nat} {cs : List Value} {y : DataW H × List MemPlace} (h : DataW.trod enc Try.prog W base spare held fuel 47 cs = some y) (hf : Fit Try.prog 47 y.1) :
    ∃ A c l, cs = [.slice A (List.length l) c] ∧ Row W (Lo W.heap.size) 1 cBool A l ∧ l.length ≤ 140737488355328 := by
  obtain ⟨A, c, rs, rfl, hr, hw⟩ := rd_slice 1 1 cBool (fun _ => True) Try.underlying47 cellsBool5 (by decide) (by kernel_rfl)
    (fun n cs y h hf => by obtain ⟨z, rfl⟩ := rd_bool Try.underlying4 h; exact ⟨z, rfl, trivial⟩) h hf
  obtain ⟨h1, h2⟩ := row_of hr
  exact ⟨A, c, rs, rfl, h1, by have : reachBytes < 2 ^ 47 := reachBytes_lt; omega⟩
theorem rd_aut {fuel : Nat} {cs : List Value} {y : DataW H × List MemPlace} (h : DataW.trod enc Try.prog W base spare held fuel 50 cs = some y) (hf : Fit Try.prog 50 y.1) :
    ∃ (a : Aut) (evs cds : List Nd), cs = encA a ∧ AutAt W (Lo W.heap.size) a ∧ AutTrees W a evs cds ∧ AutLe a := by
  obtain ⟨hl, hx⟩ := rd_struct Try.underlying50 h hf
  rw [cellsAut5] at hl
  match cs, hl with
  | [c0, c1, c2, c3], _ =>
    obtain ⟨_, _, h0, f0⟩ := hx 0 46 0 1 rfl cellsNds5
    obtain ⟨_, _, h1, f1⟩ := hx 1 46 1 1 rfl cellsNds5
    obtain ⟨_, _, h2, f2⟩ := hx 2 47 2 1 rfl cellsBools5
    obtain ⟨_, _, h3, f3⟩ := hx 3 48 3 1 rfl cellsEdgs5
    simp only [List.drop_zero, List.drop_succ_cons, List.take_succ_cons, List.take_zero] at h0 h1 h2 h3
    obtain ⟨A0, q0, l0, e0, t0⟩ := rd_trees _ h0 f0
    obtain ⟨A1, q1, l1, e1, t1⟩ := rd_trees _ h1 f1
    obtain ⟨A2, q2, l2, e2, r2, n2⟩ := rd_bools h2 f2
    obtain ⟨A3, q3, l3, e3, r3, i3, n3⟩ := rd_edgs h3 f3
    simp only [List.cons.injEq, and_true] at e0 e1 e2 e3
    subst e0 e1 e2 e3
    exact ⟨⟨A0, l0.length, q0, A1, l1.length, q1, A2, q2, l2, A3, q3, l3⟩, l0, l1, rfl, ⟨r2, r3⟩, ⟨rfl, rfl, t0, t1⟩, ⟨t0.len, t1.len, n2, n3, i3⟩⟩
end

end Go.Proofs.Ytkbiefklilelmaa

/-
  The example of wavestorelaw55.awake: its matches and open times. No program in sight.
-/
namespace Go.Proofs.Ytkbiefklilelmaa

def aw1 : Edg := ⟨0, 1, 0, -1, 0, 0⟩
def aw2 : Edg := ⟨1, 2, 1, -1, 1, 5⟩
def awI : Inp := ⟨[aw1, aw2], [false, false, true], [[1, 8], [3, 4, 20]], []⟩

def AwR (st en s t : Int) : Prop := (st = 1 ∨ st = 8) ∧ ((s = 1 ∧ t = st) ∨ (s = 2 ∧ (t = 3 ∨ t = 4 ∨ t = 20) ∧ st + 1 ≤ t ∧ t ≤ st + 5 ∧ t ≤ en))
theorem aw_ev0 (t : Int) : t ∈ nth awI.ev 0 ↔ t = 1 ∨ t = 8 := by simp [nth, awI]
theorem aw_ev1 (t : Int) : t ∈ nth awI.ev 1 ↔ t = 3 ∨ t = 4 ∨ t = 20 := by simp [nth, awI]
theorem aw_edge {e : Edg} (h : e ∈ awI.edges) : e = aw1 ∨ e = aw2 := by simpa [awI] using h
theorem aw_rch {st en s t : Int} : Rch awI st en s t ↔ AwR st en s t := by
  constructor
  · intro h
    induction h with
    | base e he h0 hs =>
      rcases aw_edge he with rfl | rfl
      · exact ⟨(aw_ev0 _).1 hs, .inl ⟨rfl, rfl⟩⟩
      · simp [aw2] at h0
    | step u e t _ he hg ih =>
      rcases aw_edge he with rfl | rfl
      · obtain ⟨_, h | h⟩ := ih
        · simp [aw1] at h
        · simp [aw1] at h
      · obtain ⟨h1, h | h⟩ := ih
        · obtain ⟨g1, g2, g3, g4, _⟩ := hg
          have := (aw_ev1 _).1 g1
          simp only [aw2] at g2 g3 h ⊢
          exact ⟨h1, .inr ⟨rfl, this, by omega, by omega, g4⟩⟩
        · simp [aw2] at h
  · rintro ⟨h1, ⟨rfl, rfl⟩ | ⟨rfl, h2, h3, h4, h5⟩⟩
    · exact .base aw1 (by simp [awI]) rfl ((aw_ev0 _).2 h1)
    · exact .step st aw2 t (.base aw1 (by simp [awI]) rfl ((aw_ev0 _).2 h1)) (by simp [awI]) ⟨(aw_ev1 _).2 h2, h3, h4, h5, .inl rfl⟩
theorem aw_fin {st en t : Int} : FinS awI st en t ↔ (st = 1 ∨ st = 8) ∧ (t = 3 ∨ t = 4 ∨ t = 20) ∧ st + 1 ≤ t ∧ t ≤ st + 5 ∧ t ≤ en := by
  constructor
  · rintro ⟨s, h1, h2⟩
    obtain ⟨h3, ⟨rfl, rfl⟩ | ⟨rfl, h4⟩⟩ := aw_rch.1 h1
    · simp [awI] at h2
    · exact ⟨h3, h4⟩
  · rintro ⟨h1, h2⟩
    exact ⟨2, aw_rch.2 ⟨h1, .inr ⟨rfl, h2⟩⟩, rfl⟩
theorem aw_start {f g t : Int} : StartS awI f g t ↔ f ≤ t ∧ t ≤ g ∧ (t = 1 ∨ t = 8) := by
  constructor
  · rintro ⟨h1, h2, e, he, h0, h3⟩
    rcases aw_edge he with rfl | rfl
    · exact ⟨h1, h2, (aw_ev0 _).1 h3⟩
    · simp [aw2] at h0
  · rintro ⟨h1, h2, h3⟩
    exact ⟨h1, h2, aw1, by simp [awI], rfl, (aw_ev0 _).2 h3⟩
theorem aw_run : IsRun awI 0 25 25 [(1, 3)] := by
  refine ⟨List.pairwise_singleton _ _, fun p => ?_⟩
  obtain ⟨a, b⟩ := p
  rw [aw_start]
  unfold LeastOf
  simp only [aw_fin, List.mem_singleton, Prod.mk.injEq]
  constructor
  · rintro ⟨rfl, rfl⟩
    exact ⟨by omega, by omega, fun t ht => by omega⟩
  · rintro ⟨h1, h2, h3⟩
    obtain ⟨h4, h5, h6⟩ := h2
    have ha : a = 1 := by omega
    subst ha
    have := h3 3 (by omega)
    omega
theorem aw_open : IsOpen awI 0 10 10 [8] := by
  refine ⟨List.pairwise_singleton _ _, fun t => ?_⟩
  rw [aw_start]
  unfold OpenS
  simp only [aw_fin, List.mem_singleton]
  constructor
  · rintro rfl
    refine ⟨by omega, fun ⟨t, ht⟩ => by omega, 8, aw2, by simp [awI], aw_rch.2 ⟨.inr rfl, .inl ⟨rfl, rfl⟩⟩, by decide, .inl rfl⟩
  · rintro ⟨⟨_, _, h1 | h1⟩, h2, _⟩
    · exact absurd ⟨3, by omega⟩ h2
    · exact h1

end Go.Proofs.Ytkbiefklilelmaa
