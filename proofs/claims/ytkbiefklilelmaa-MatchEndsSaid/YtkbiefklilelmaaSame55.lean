/-
  wavestoreref55.Same: whether two lists of matches are equal; wavestoreref55.Few: whether times and sets are few.
-/
import Derived.Test.YtkbiefklilelmaaSame
import Derived.Test.YtkbiefklilelmaaRun
namespace Go.Proofs.Ytkbiefklilelmaa
open Go.RowKit Go.Joins

theorem OwnOc.ats {w : World} {base : Nat} {A : Option Addr} {c : Nat} {xs : List Iv} (h : OwnOc w base A c xs) : IvsAt w w.heap.size A xs := fun hx => by
  obtain ⟨g, e, h1, h2⟩ := own_place h (List.length_pos_iff.2 hx)
  subst e
  refine ⟨g, 0, rfl, h2, fun i x hi => ?_⟩
  have hlt : i < xs.length := (List.getElem?_eq_some_iff.1 hi).1
  obtain ⟨e1, e2⟩ := encIvs_at hi
  exact ⟨by rw [Nat.zero_add, World.ownsRow.cellAt h _ (by omega), e1], by rw [Nat.zero_add, World.ownsRow.cellAt h _ (by omega), e2]⟩

theorem eq_oc (a b c d : Int) (w : World) : (Op.equalIn 10000 64 (.agg #[.int .i64 a, .int .i64 b]) (.agg #[.int .i64 c, .int .i64 d])).run Try.prog w = .ok (a == c && b == d) w := by
  have u3 := Try.underlying3
  have a3 := Try.isAgg3
  have z3 := Try.sizeOf3
  have hS : Try.prog.underlying 64 = some (.struct (Try.prog.fieldsOf 64)) := by kernel_rfl
  have hp : Try.prog.stoodInHeld 64 = false := by kernel_rfl
  rw [show (10000 : Nat) = 9999 + 1 from rfl, run_equalIn_agg w 9999 64 _ _ hS hp]
  simp only [Program.fieldsOf, Try.underlying64]
  go_simp
  by_cases h1 : a = c <;> by_cases h2 : b = d <;> simp [h1, h2]
theorem neq_oc (a b c d : Int) (w : World) : (binOp .neq 64 (.agg #[.int .i64 a, .int .i64 b]) (.agg #[.int .i64 c, .int .i64 d])).run Try.prog w = .ok (.bool (!(a == c && b == d))) w := by
  rw [run_neq_struct, eq_oc]; rfl

def OsRel (w : World) (xs ys : List Iv) (i : Value) (wr : World) : Prop :=
  ∃ (k q : Nat), k ≤ xs.length ∧ i = .int .i64 k ∧ xs.take k = ys.take k ∧ wr = w.drewN q

set_option maxHeartbeats 1000000 in
theorem osame_any (A B : Option Addr) (c d : Nat) (xs ys : List Iv) (w : World) (hx : IvsAt w w.heap.size A xs) (hy : IvsAt w w.heap.size B ys) (hl : xs.length ≤ 4398046511104) (_hl2 : ys.length ≤ 4398046511104) :
    Calls Try.prog 34 #[.slice A xs.length c, .slice B ys.length d] w fun e w' => e = .returned (.bool (decide (xs = ys))) ∧ ∃ q, w' = w.drewN q := by
  by_cases hlen : xs.length = ys.length
  · have HL := hide hlen
    have hne : ((xs.length : Int) != (ys.length : Int)) = false := by simp [hlen]
    clear hlen
    go_enter Try.func34, Try.ntmps34
    go_wp2
    go_loopw [5] (fun i wr => OsRel w xs ys i wr) (fun i _ => xs.length - (intOf i).toNat)
    case atStart => exact ⟨0, 0, Nat.zero_le _, rfl, rfl, rfl⟩
    case round =>
      obtain ⟨k, q, hk, rfl, htk, rfl⟩ := hrel
      have HTK := hide htk
      clear htk
      by_cases hlt : k < xs.length
      · have hlt2 : k < ys.length := by have := HL.out; omega
        obtain ⟨b, off, rfl, hbb, hc1, hc2⟩ := hx.at_ hlt
        obtain ⟨b', off', rfl, hbb', hc1', hc2'⟩ := hy.at_ hlt2
        have hne2 := neq_oc xs[k].1 xs[k].2 ys[k].1 ys[k].2
        go_wp2
        go_quiet (fail)
        go_wp2
        · have hw : (!xs[k].1 == ys[k].1) = true ∨ (!xs[k].2 == ys[k].2) = true := by assumption
          go_ret
          exact ⟨by rw [decide_eq_false (fun e => same_ne e hlt hlt2 hw)]; rfl, q + nq, by rw [World.drewN_drewN]⟩
        · have hw : (!xs[k].1 == ys[k].1) = false ∧ (!xs[k].2 == ys[k].2) = false := by assumption
          go_roundw
          case rel => exact ⟨k + 1, q + nq, by omega, by go_num, same_step HTK.out hlt hlt2 hw, rfl⟩
          case measure => simp [intOf]; omega
      · go_wp2
        go_ret
        refine ⟨?_, _, rfl⟩
        have h1 := HTK.out
        have h2 := HL.out
        rw [List.take_of_length_le (by omega), List.take_of_length_le (by omega)] at h1
        rw [decide_eq_true h1]
        rfl
  · have hne : ((xs.length : Int) != (ys.length : Int)) = true := by simp; omega
    have HL := hide hlen
    clear hlen
    go_enter Try.func34, Try.ntmps34
    go_wp2
    go_ret
    exact ⟨by rw [decide_eq_false (fun e => HL.out (by rw [e]))]; rfl, 0, rfl⟩


/-- what r55.Few asks -/
def FewEv (ev : List SlI) (cs : List SlV) : Prop := ev.length ≤ 40 ∧ cs.length ≤ 40 ∧ (∀ s ∈ ev, s.xs.length ≤ 24) ∧ ∀ s ∈ cs, s.xs.length ≤ 12
def FewPost (p : Prop) (w : World) (e : Ending) (w' : World) : Prop := ∃ b : Bool, e = .returned (.bool b) ∧ Below w.heap.size w w' ∧ (b = true → p)
def Few1 (ev : List SlI) (w : World) (i : Value) (wr : World) : Prop := ∃ k : Nat, k ≤ ev.length ∧ i = .int .i64 k ∧ w = wr ∧ ∀ j s, j < k → ev[j]? = some s → s.xs.length ≤ 24
def Few2 (cs : List SlV) (w : World) (i : Value) (wr : World) : Prop := ∃ k : Nat, k ≤ cs.length ∧ i = .int .i64 k ∧ w = wr ∧ ∀ j s, j < k → cs[j]? = some s → s.xs.length ≤ 12
theorem upto_next {α : Type} {l : List α} {k : Nat} {p : α → Prop} {x : α} (h : ∀ j s, j < k → l[j]? = some s → p s) (hx : l[k]? = some x) (hp : p x) : ∀ j s, j < k + 1 → l[j]? = some s → p s := fun j s hj hs => by
  rcases Nat.lt_or_ge j k with h1 | h1
  · exact h j s h1 hs
  · have : j = k := by omega
    subst this
    rw [hx] at hs
    injection hs with hs
    subst hs
    exact hp
theorem upto_end {α : Type} {l : List α} {p : α → Prop} (h : ∀ j s, j < l.length → l[j]? = some s → p s) : ∀ s ∈ l, p s := fun s hs => by
  obtain ⟨j, hj⟩ := List.getElem?_of_mem hs
  exact h j s (List.getElem?_eq_some_iff.1 hj).1 hj

set_option maxHeartbeats 1000000 in
theorem few55_any (AV AC : Option Addr) (cV cC : Nat) (ev : List SlI) (cs : List SlV) (w : World) (hev : EvAt w AV ev) (hcs : CsAt w AC cs) (b1 : ev.length ≤ 140737488355328) (b2 : cs.length ≤ 140737488355328) (b3 : ∀ s ∈ ev, s.xs.length ≤ 140737488355328) (b4 : ∀ s ∈ cs, s.xs.length ≤ 140737488355328) :
    Calls Try.prog 55 #[.slice AV ev.length cV, .slice AC cs.length cC] w (FewPost (FewEv ev cs) w) := by
  have HEV := hide hev
  have HCS := hide hcs
  have HB3 := hide b3
  have HB4 := hide b4
  have HNO := hide (show FewPost (FewEv ev cs) w (.returned (.bool false)) w from ⟨false, rfl, Below.refl _ _, fun e => by cases e⟩)
  clear hev hcs b3 b4
  by_cases h1 : ev.length ≤ 40
  · have T1 : decide ((40 : Int) < (ev.length : Int)) = false := decide_eq_false (by omega)
    by_cases h2 : cs.length ≤ 40
    · have T2 : decide ((40 : Int) < (cs.length : Int)) = false := decide_eq_false (by omega)
      go_enter Try.func55, Try.ntmps55
      go_wp2_with fail
      go_loopw [5] (fun i wr => Few1 ev w i wr) (fun i _ => ev.length - (intOf i).toNat)
      case atStart => exact ⟨0, Nat.zero_le _, rfl, rfl, fun j s hj => absurd hj (Nat.not_lt_zero _)⟩
      case round =>
        obtain ⟨k, hk, rfl, rfl, hin⟩ := hrel
        have HIN := hide hin
        clear hin
        by_cases hlt : k < ev.length
        · obtain ⟨bv, ov, rfl, hbv, e0, hi⟩ := HEV.out.at_ hlt
          have hx : ev[k]? = some ev[k] := List.getElem?_eq_getElem hlt
          have hb := HB3.out _ (List.getElem_mem hlt)
          generalize ev[k] = s at *
          obtain ⟨sA, sc, l⟩ := s
          dsimp only at hi hb e0
          have HX := hide hx
          clear hx hi
          by_cases h24 : l.length ≤ 24
          · have T3 : decide ((24 : Int) < (l.length : Int)) = false := decide_eq_false (by omega)
            have HN := hide (upto_next (p := fun s : SlI => s.xs.length ≤ 24) HIN.out HX.out h24)
            go_wp2_with fail
            exact ⟨⟨k + 1, hlt, by go_num, rfl, HN.out⟩, by simp [intOf]; omega⟩
          · have T3 : decide ((24 : Int) < (l.length : Int)) = true := decide_eq_true (by omega)
            go_wp2_with fail
            go_ret
            exact HNO.out
        · have hke : k = ev.length := by omega
          subst hke
          have HE := hide (upto_end HIN.out)
          go_wp2_with fail
          go_loopw [6] (fun i wr => Few2 cs w i wr) (fun i _ => cs.length - (intOf i).toNat)
          case atStart => exact ⟨0, Nat.zero_le _, rfl, rfl, fun j s hj => absurd hj (Nat.not_lt_zero _)⟩
          case round =>
            obtain ⟨k, hk, rfl, rfl, hin⟩ := hrel
            have HIN2 := hide hin
            clear hin
            by_cases hlt : k < cs.length
            · obtain ⟨bv, ov, rfl, hbv, e0, hi⟩ := HCS.out.at_ hlt
              have hx : cs[k]? = some cs[k] := List.getElem?_eq_getElem hlt
              have hb := HB4.out _ (List.getElem_mem hlt)
              generalize cs[k] = s at *
              obtain ⟨sA, sc, l⟩ := s
              dsimp only at hi hb e0
              have HX := hide hx
              clear hx hi
              by_cases h24 : l.length ≤ 12
              · have T3 : decide ((12 : Int) < (l.length : Int)) = false := decide_eq_false (by omega)
                have HN := hide (upto_next (p := fun s : SlV => s.xs.length ≤ 12) HIN2.out HX.out h24)
                go_wp2_with fail
                exact ⟨⟨k + 1, hlt, by go_num, rfl, HN.out⟩, by simp [intOf]; omega⟩
              · have T3 : decide ((12 : Int) < (l.length : Int)) = true := decide_eq_true (by omega)
                go_wp2_with fail
                go_ret
                exact HNO.out
            · have hke : k = cs.length := by omega
              subst hke
              have HF := hide (show FewPost (FewEv ev cs) w (.returned (.bool true)) w from ⟨true, rfl, Below.refl _ _, fun _ => ⟨h1, h2, HE.out, upto_end HIN2.out⟩⟩)
              go_wp2_with fail
              go_ret
              exact HF.out
    · have T2 : decide ((40 : Int) < (cs.length : Int)) = true := decide_eq_true (by omega)
      go_enter Try.func55, Try.ntmps55
      go_wp2_with fail
      go_ret
      exact HNO.out
  · have T1 : decide ((40 : Int) < (ev.length : Int)) = true := decide_eq_true (by omega)
    go_enter Try.func55, Try.ntmps55
    go_wp2_with fail
    go_ret
    exact HNO.out

end Go.Proofs.Ytkbiefklilelmaa
