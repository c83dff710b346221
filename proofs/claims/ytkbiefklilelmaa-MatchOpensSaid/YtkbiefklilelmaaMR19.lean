/-
  Several texts in one: Same, Incr. Each says at its head what it holds.
-/
import Derived.Test.YtkbiefklilelmaaMR18
import Derived.Laws.StructEq
import Derived.Test.YtkbiefklilelmaaMR7
import Derived.Deep.DeepCutAuto
import Derived.Deep.QuietTactic
import Derived.BigQuiet
import Derived.IntWalk

/-
  wavestoreref46.Same: whether two lists are equal.
-/
namespace Go.Proofs.Ytkbiefklilelmaa
open Go.RowKit Go.Joins

theorem eq_iv (a b c d : Int) (w : World) : (Op.equalIn 10000 42 (.agg #[.int .i64 a, .int .i64 b]) (.agg #[.int .i64 c, .int .i64 d])).run Try.prog w = .ok (a == c && b == d) w := by
  have u3 := Try.underlying3
  have a3 := Try.isAgg3
  have z3 := Try.sizeOf3
  have hS : Try.prog.underlying 42 = some (.struct (Try.prog.fieldsOf 42)) := by kernel_rfl
  have hp : Try.prog.stoodInHeld 42 = false := by kernel_rfl
  rw [show (10000 : Nat) = 9999 + 1 from rfl, run_equalIn_agg w 9999 42 _ _ hS hp]
  simp only [Program.fieldsOf, Try.underlying42]
  go_simp
  by_cases h1 : a = c <;> by_cases h2 : b = d <;> simp [h1, h2]
theorem neq_iv (a b c d : Int) (w : World) : (binOp .neq 42 (.agg #[.int .i64 a, .int .i64 b]) (.agg #[.int .i64 c, .int .i64 d])).run Try.prog w = .ok (.bool (!(a == c && b == d))) w := by
  rw [run_neq_struct, eq_iv]; rfl

theorem same_ne {xs ys : List Iv} (e : xs = ys) {k : Nat} (h1 : k < xs.length) (h2 : k < ys.length) (hw : (!xs[k].1 == ys[k].1) = true ∨ (!xs[k].2 == ys[k].2) = true) : False := by
  subst e; simp at hw
theorem same_step {xs ys : List Iv} {k : Nat} (ht : xs.take k = ys.take k) (h1 : k < xs.length) (h2 : k < ys.length) (hw : (!xs[k].1 == ys[k].1) = false ∧ (!xs[k].2 == ys[k].2) = false) : xs.take (k + 1) = ys.take (k + 1) := by
  rw [List.take_succ_eq_append_getElem h1, List.take_succ_eq_append_getElem h2, ht]
  simp only [Bool.not_eq_false', beq_iff_eq] at hw
  rw [Prod.ext hw.1 hw.2]

def SameRel (w : World) (xs ys : List Iv) (i : Value) (wr : World) : Prop :=
  ∃ (k q : Nat), k ≤ xs.length ∧ i = .int .i64 k ∧ xs.take k = ys.take k ∧ wr = w.drewN q

set_option maxHeartbeats 1000000 in
theorem same_any (A B : Option Addr) (c d : Nat) (xs ys : List Iv) (w : World) (hx : IvsAt w w.heap.size A xs) (hy : IvsAt w w.heap.size B ys) (hl : xs.length ≤ 4398046511104) (_hl2 : ys.length ≤ 4398046511104) :
    Calls Try.prog 39 #[.slice A xs.length c, .slice B ys.length d] w fun e w' => e = .returned (.bool (decide (xs = ys))) ∧ ∃ q, w' = w.drewN q := by
  by_cases hlen : xs.length = ys.length
  · have HL := hide hlen
    have hne : ((xs.length : Int) != (ys.length : Int)) = false := by simp [hlen]
    clear hlen
    go_enter Try.func39, Try.ntmps39
    go_wp2
    go_loopw [5] (fun i wr => SameRel w xs ys i wr) (fun i _ => xs.length - (intOf i).toNat)
    case atStart => exact ⟨0, 0, Nat.zero_le _, rfl, rfl, rfl⟩
    case round =>
      obtain ⟨k, q, hk, rfl, htk, rfl⟩ := hrel
      have HTK := hide htk
      clear htk
      by_cases hlt : k < xs.length
      · have hlt2 : k < ys.length := by have := HL.out; omega
        obtain ⟨b, off, rfl, hbb, hc1, hc2⟩ := hx.at_ hlt
        obtain ⟨b', off', rfl, hbb', hc1', hc2'⟩ := hy.at_ hlt2
        have hne2 := neq_iv xs[k].1 xs[k].2 ys[k].1 ys[k].2
        go_wp2
        go_quiet (fail)
        go_wp2
        · have hw : (!xs[k].1 == ys[k].1) = true ∨ (!xs[k].2 == ys[k].2) = true := by assumption
          go_ret
          exact ⟨by rw [decide_eq_false (fun e => same_ne e hlt hlt2 hw)]; rfl, q + nq, by rw [World.drewN_drewN]⟩
        · have hw : (!xs[k].1 == ys[k].1) = false ∧ (!xs[k].2 == ys[k].2) = false := by assumption
          go_roundw
          case rel => exact ⟨k + 1, q + nq, by omega, by go_num, same_step HTK.out hlt hlt2 hw, rfl⟩
          case measure => simp [intOf]; omega
      · go_wp2
        go_ret
        refine ⟨?_, _, rfl⟩
        have h1 := HTK.out
        have h2 := HL.out
        rw [List.take_of_length_le (by omega), List.take_of_length_le (by omega)] at h1
        rw [decide_eq_true h1]
        rfl
  · have hne : ((xs.length : Int) != (ys.length : Int)) = true := by simp; omega
    have HL := hide hlen
    clear hlen
    go_enter Try.func39, Try.ntmps39
    go_wp2
    go_ret
    exact ⟨by rw [decide_eq_false (fun e => HL.out (by rw [e]))]; rfl, 0, rfl⟩

/-- two lists that are the normal lists of one set -/
theorem sameR_true (A B : Option Addr) (c d : Nat) (xs ys : List Iv) (w : World) (hx : IvsAt w w.heap.size A xs) (hy : IvsAt w w.heap.size B ys) (nx : Norm xs) (ny : Norm ys) (h : ∀ t, Mem xs t ↔ Mem ys t) :
    Calls Try.prog 39 #[.slice A xs.length c, .slice B ys.length d] w fun e w' => e = .returned (.bool true) ∧ Below w.heap.size w w' :=
  (same_any A B c d xs ys w hx hy (by have := norm_len nx; omega) (by have := norm_len ny; omega)).mono fun _ _ ⟨he, q, hw⟩ => ⟨by rw [he, decide_eq_true (norm_ext nx ny h)], by rw [hw]; exact below_drewN (Below.refl _ _) q⟩

end Go.Proofs.Ytkbiefklilelmaa

/-
  match.increasing and the reference's times: whether a list consists of times in strictly increasing order.
-/
namespace Go.Proofs.Ytkbiefklilelmaa
open Go.RowKit

/-- a truth value that says whether P holds; memory that was there is as it was -/
def SaysP (P : Prop) (w : World) (e : Ending) (w' : World) : Prop := ∃ b : Bool, e = .returned (.bool b) ∧ (b = true ↔ P) ∧ Below w.heap.size w w'
theorem incr_nil : Incr [] := ⟨List.Pairwise.nil, by simp⟩
theorem incr_snoc {l : List Int} {t : Int} : Incr (l ++ [t]) ↔ Incr l ∧ (0 ≤ t ∧ t ≤ 1099511627776) ∧ ∀ u ∈ l, u < t := by
  unfold Incr
  rw [List.pairwise_append]
  constructor
  · rintro ⟨⟨h1, _, h3⟩, h4⟩
    exact ⟨⟨h1, fun u hu => h4 u (by simp [hu])⟩, h4 t (by simp), fun u hu => h3 u hu t (by simp)⟩
  · rintro ⟨⟨h1, h2⟩, h3, h4⟩
    refine ⟨⟨h1, by simp, fun a ha b hb => by simp at hb; subst hb; exact h4 a ha⟩, fun u hu => ?_⟩
    rcases List.mem_append.1 hu with hu | hu
    · exact h2 u hu
    · simp at hu; subst hu; exact h3
theorem incr_take {l : List Int} (h : Incr l) (k : Nat) : Incr (l.take k) := ⟨h.1.sublist (List.take_sublist _ _), fun t ht => h.2 t (List.mem_of_mem_take ht)⟩
/-- the next time, when the ones before are in order -/
theorem incr_step {l : List Int} {k : Nat} (hk : k < l.length) (h : Incr (l.take k)) : Incr (l.take (k + 1)) ↔ (0 ≤ l[k] ∧ l[k] ≤ 1099511627776) ∧ (∀ j (_ : j < l.length), j + 1 = k → l[j] < l[k]) := by
  rw [List.take_succ_eq_append_getElem hk, incr_snoc]
  constructor
  · rintro ⟨_, h2, h3⟩
    refine ⟨h2, fun j hj hjk => h3 _ ?_⟩
    rw [List.mem_take_iff_getElem]
    exact ⟨j, by omega, rfl⟩
  · rintro ⟨h2, h3⟩
    refine ⟨h, h2, fun u hu => ?_⟩
    obtain ⟨i, hi, rfl⟩ := List.mem_take_iff_getElem.1 hu
    have hpos : 0 < k := by omega
    have h4 := h3 (k - 1) (by omega) (by omega)
    rcases Nat.lt_or_ge i (k - 1) with h5 | h5
    · have h6 := h.1
      rw [List.pairwise_iff_getElem] at h6
      have := h6 i (k - 1) (by rw [List.length_take]; omega) (by rw [List.length_take]; omega) h5
      rw [List.getElem_take, List.getElem_take] at this
      omega
    · have : i = k - 1 := by omega
      subst this
      exact h4
theorem not_incr {l : List Int} {k : Nat} (h : ¬ Incr (l.take k)) : ¬ Incr l := fun h1 => h (incr_take h1 k)
def IncRel (l : List Int) (w : World) (i : Value) (wr : World) : Prop := ∃ k : Nat, k ≤ l.length ∧ i = .int .i64 k ∧ Incr (l.take k) ∧ Below w.heap.size w wr

set_option maxRecDepth 100000 in
set_option maxHeartbeats 4000000 in
theorem increasing_any (A : Option Addr) (c : Nat) (l : List Int) (w : World) (h : IntsAt w w.heap.size A l) (hl : l.length ≤ 140737488355328) :
    Calls Try.prog 78 #[.slice A l.length c] w (SaysP (Incr l) w) := by
  go_enter Try.func78, Try.ntmps78
  go_wp2_with fail
  go_loopw [7] (fun i wr => IncRel l w i wr) (fun i _ => l.length - (intOf i).toNat)
  case atStart => exact ⟨0, Nat.zero_le _, rfl, incr_nil, Below.refl _ _⟩
  case round =>
    obtain ⟨k, hk, rfl, hinc, hbr⟩ := hrel
    have HBR := hide hbr
    by_cases hlt : k < l.length
    · have hr := (h.below hbr).more hbr.size
      obtain ⟨b, off, rfl, hb, e0⟩ := hr.at_ hlt
      have HST := hide (incr_step hlt hinc)
      have HN := hide (fun (h1 : ¬ Incr (l.take (k + 1))) => not_incr h1)
      have hprev : ∀ hp : 0 < k, wr.cell? ⟨b, off + (k - 1), none⟩ = some (.int .i64 (l[k - 1]'(by omega))) := fun hp => by
        obtain ⟨b', off', he, _, e1⟩ := hr.at_ (k := k - 1) (by omega)
        injection he with he
        injection he with e2 e3
        subst e2 e3
        exact e1
      have HPREV := hide hprev
      clear hinc hr hprev hbr
      obtain ⟨t, ht⟩ : ∃ t, l[k] = t := ⟨_, rfl⟩
      rw [ht] at e0 HST
      clear ht
      by_cases s1 : t < 0
      · have T1 : decide (t < 0) = true := decide_eq_true s1
        have HE := hide (show SaysP (Incr l) w (.returned (.bool false)) wr from ⟨false, rfl, ⟨(fun e => by cases e), fun e => absurd e (HN.out fun h1 => by have := (HST.out.1 h1).1; omega)⟩, HBR.out⟩)
        clear s1
        go_wp2_with fail
        go_ret
        exact HE.out
      · have T1 : decide (t < 0) = false := decide_eq_false s1
        by_cases s2 : 1099511627776 < t
        · have T2 : decide (1099511627776 < t) = true := decide_eq_true s2
          have HE := hide (show SaysP (Incr l) w (.returned (.bool false)) wr from ⟨false, rfl, ⟨(fun e => by cases e), fun e => absurd e (HN.out fun h1 => by have := (HST.out.1 h1).1; omega)⟩, HBR.out⟩)
          clear s1 s2
          go_wp2_with fail
          go_ret
          exact HE.out
        · have T2 : decide (1099511627776 < t) = false := decide_eq_false s2
          by_cases s3 : 0 < k
          · have e1 := HPREV.out s3
            have T3 : decide (0 < k) = true := decide_eq_true s3
            obtain ⟨u, hu⟩ : ∃ u, l[k - 1]'(by omega) = u := ⟨_, rfl⟩
            rw [hu] at e1
            have HU := hide hu
            have hk1 : ((k : Int) - 1).toNat = k - 1 := by omega
            clear hu
            by_cases s4 : t ≤ u
            · have T4 : decide (t ≤ u) = true := decide_eq_true s4
              have HE := hide (show SaysP (Incr l) w (.returned (.bool false)) wr from ⟨false, rfl, ⟨(fun e => by cases e), fun e => absurd e (HN.out fun h1 => by have := (HST.out.1 h1).2 (k - 1) (by omega) (by omega); rw [HU.out] at this; omega)⟩, HBR.out⟩)
              clear s1 s2 s4
              go_wp2_with fail
              go_ret
              exact HE.out
            · have T4 : decide (t ≤ u) = false := decide_eq_false s4
              have HI := hide (HST.out.2 ⟨by omega, fun j hj hjk => by have : j = k - 1 := by omega
                                                                       subst this
                                                                       rw [HU.out]; omega⟩)
              clear s1 s2 s4
              go_wp2_with fail
              exact ⟨⟨k + 1, hlt, by go_num, HI.out, HBR.out⟩, by simp [intOf]; omega⟩
          · have T3 : decide (0 < k) = false := decide_eq_false s3
            have HI := hide (HST.out.2 ⟨by omega, fun j hj hjk => by omega⟩)
            clear s1 s2
            go_wp2_with fail
            exact ⟨⟨k + 1, hlt, by go_num, HI.out, HBR.out⟩, by simp [intOf]; omega⟩
    · have hke : k = l.length := by omega
      subst hke
      have HE := hide (show SaysP (Incr l) w (.returned (.bool true)) wr from ⟨true, rfl, ⟨fun _ => by rwa [List.take_length] at hinc, fun _ => rfl⟩, HBR.out⟩)
      clear hinc hbr
      go_wp2_with fail
      go_ret
      exact HE.out

set_option maxRecDepth 100000 in
set_option maxHeartbeats 4000000 in
theorem rtimes_any (A : Option Addr) (c : Nat) (l : List Int) (w : World) (h : IntsAt w w.heap.size A l) (hl : l.length ≤ 140737488355328) :
    Calls Try.prog 87 #[.slice A l.length c] w (SaysP (Incr l) w) := by
  go_enter Try.func87, Try.ntmps87
  go_wp2_with fail
  go_loopw [3] (fun i wr => IncRel l w i wr) (fun i _ => l.length - (intOf i).toNat)
  case atStart => exact ⟨0, Nat.zero_le _, rfl, incr_nil, Below.refl _ _⟩
  case round =>
    obtain ⟨k, hk, rfl, hinc, hbr⟩ := hrel
    have HBR := hide hbr
    by_cases hlt : k < l.length
    · have hr := (h.below hbr).more hbr.size
      obtain ⟨b, off, rfl, hb, e0⟩ := hr.at_ hlt
      have HST := hide (incr_step hlt hinc)
      have HN := hide (fun (h1 : ¬ Incr (l.take (k + 1))) => not_incr h1)
      have hprev : ∀ hp : 0 < k, wr.cell? ⟨b, off + (k - 1), none⟩ = some (.int .i64 (l[k - 1]'(by omega))) := fun hp => by
        obtain ⟨b', off', he, _, e1⟩ := hr.at_ (k := k - 1) (by omega)
        injection he with he
        injection he with e2 e3
        subst e2 e3
        exact e1
      have HPREV := hide hprev
      clear hinc hr hprev hbr
      obtain ⟨t, ht⟩ : ∃ t, l[k] = t := ⟨_, rfl⟩
      rw [ht] at e0 HST
      clear ht
      by_cases s1 : t < 0
      · have T1 : decide (t < 0) = true := decide_eq_true s1
        have HE := hide (show ∀ q, SaysP (Incr l) w (.returned (.bool false)) (wr.drewN q) from fun q => ⟨false, rfl, ⟨(fun e => by cases e), fun e => absurd e (HN.out fun h1 => by have := (HST.out.1 h1).1; omega)⟩, below_drewN HBR.out q⟩)
        clear s1
        go_upto_region 4 with (fail)
        go_quiet (fail)
        go_wp2_with fail
        go_ret
        exact HE.out nq
      · have T1 : decide (t < 0) = false := decide_eq_false s1
        by_cases s2 : 1099511627776 < t
        · have T2 : decide (1099511627776 < t) = true := decide_eq_true s2
          have HE := hide (show ∀ q, SaysP (Incr l) w (.returned (.bool false)) (wr.drewN q) from fun q => ⟨false, rfl, ⟨(fun e => by cases e), fun e => absurd e (HN.out fun h1 => by have := (HST.out.1 h1).1; omega)⟩, below_drewN HBR.out q⟩)
          clear s1 s2
          go_upto_region 4 with (fail)
          go_quiet (fail)
          go_wp2_with fail
          go_ret
          exact HE.out nq
        · have T2 : decide (1099511627776 < t) = false := decide_eq_false s2
          by_cases s3 : 0 < k
          · have e1 := HPREV.out s3
            have T3 : decide (0 < k) = true := decide_eq_true s3
            obtain ⟨u, hu⟩ : ∃ u, l[k - 1]'(by omega) = u := ⟨_, rfl⟩
            rw [hu] at e1
            have HU := hide hu
            have hk1 : ((k : Int) - 1).toNat = k - 1 := by omega
            have hw1 : IntKind.i64.wrap ((k : Int) - 1) = (k : Int) - 1 := IntWalk.i64_in _ (by omega)
            have hw2 : (0 : Int) ≤ (k : Int) - 1 := by omega
            have hw3 : (k : Int) - 1 < (l.length : Int) := by omega
            clear hu
            by_cases s4 : t ≤ u
            · have T4 : decide (t ≤ u) = true := decide_eq_true s4
              have HE := hide (show ∀ q, SaysP (Incr l) w (.returned (.bool false)) (wr.drewN q) from fun q => ⟨false, rfl, ⟨(fun e => by cases e), fun e => absurd e (HN.out fun h1 => by have := (HST.out.1 h1).2 (k - 1) (by omega) (by omega); rw [HU.out] at this; omega)⟩, below_drewN HBR.out q⟩)
              clear s1 s2 s4
              go_upto_region 4 with (fail)
              go_quiet (fail)
              go_wp2_with fail
              go_ret
              exact HE.out nq
            · have T4 : decide (t ≤ u) = false := decide_eq_false s4
              have HI := hide (HST.out.2 ⟨by omega, fun j hj hjk => by have : j = k - 1 := by omega
                                                                       subst this
                                                                       rw [HU.out]; omega⟩)
              clear s1 s2 s4
              go_upto_region 4 with (fail)
              go_quiet (fail)
              go_wp2_with fail
              exact ⟨⟨k + 1, hlt, by go_num, HI.out, below_drewN HBR.out nq⟩, by simp [intOf]; omega⟩
          · have T3 : decide (0 < k) = false := decide_eq_false s3
            have HI := hide (HST.out.2 ⟨by omega, fun j hj hjk => by omega⟩)
            clear s1 s2
            go_upto_region 4 with (fail)
            go_quiet (fail)
            go_wp2_with fail
            exact ⟨⟨k + 1, hlt, by go_num, HI.out, below_drewN HBR.out nq⟩, by simp [intOf]; omega⟩
    · have hke : k = l.length := by omega
      subst hke
      have HE := hide (show SaysP (Incr l) w (.returned (.bool true)) wr from ⟨true, rfl, ⟨fun _ => by rwa [List.take_length] at hinc, fun _ => rfl⟩, HBR.out⟩)
      clear hinc hbr
      go_wp2_with fail
      go_ret
      exact HE.out

end Go.Proofs.Ytkbiefklilelmaa
