/-
  slices.BinarySearchFunc in a normal list, with the closure of match.input.holds.
-/
import Derived.Test.YtkbiefklilelmaaMatchM
import Derived.Deep.LoopGhost
import Derived.Deep.DeepCutAuto
namespace Go.Proofs.Ytkbiefklilelmaa
open Go.RowKit

theorem holds1_any (a b t : Int) (w : World) (hb : I64 (b - t)) :
    Calls Try.prog 105 #[.agg #[.int .i64 a, .int .i64 b], .int .i64 t] w fun e w' => e = .returned (.int .i64 (b - t)) ∧ Below w.heap.size w w' := by
  unfold I64 at hb
  go_enter Try.func105, Try.ntmps105
  go_wp2
  go_ret
  exact ⟨rfl, (Below.refl _ _).alloc (Nat.le_refl _) _⟩

/-- the first place from which the intervals do not end before t -/
def FirstAt (xs : List Iv) (t : Int) (i : Nat) : Prop := i ≤ xs.length ∧ (∀ j (_ : j < xs.length), j < i → xs[j].2 < t) ∧ ∀ j (_ : j < xs.length), i ≤ j → t ≤ xs[j].2
theorem norm_ends {xs : List Iv} (hn : Norm xs) : ∀ (i j : Nat) (hi : i < xs.length) (hj : j < xs.length), i ≤ j → xs[i].2 ≤ xs[j].2 := fun i j hi hj h => by
  rcases Nat.lt_or_ge i j with h1 | h1
  · have h2 := List.pairwise_iff_getElem.1 hn.2 i j hi hj h1
    have h3 := hn.1 _ (List.getElem_mem hj)
    unfold Okv at h3
    omega
  · have : i = j := by omega
    subst this
    exact Int.le_refl _
def BsfPost (xs : List Iv) (t : Int) (w : World) (e : Ending) (w' : World) : Prop := ∃ (i : Nat) (b : Bool), e = .returned (.tuple #[.int .i64 (i : Int), .bool b]) ∧ FirstAt xs t i ∧ Below w.heap.size w w'
def BsfRel (xs : List Iv) (t : Int) (W : World) (g : Nat) (s9 s10 : Value) (wr : World) : Prop :=
  ∃ lo hi : Nat, s9 = .int .i64 lo ∧ s10 = .int .i64 hi ∧ lo ≤ hi ∧ hi ≤ xs.length ∧ hi - lo ≤ g ∧ Below W.heap.size W wr ∧ (∀ j (_ : j < xs.length), j < lo → xs[j].2 < t) ∧ ∀ j (_ : j < xs.length), hi ≤ j → t ≤ xs[j].2

set_option maxRecDepth 100000 in
set_option maxHeartbeats 4000000 in
theorem bsf_any (A : Option Addr) (c : Nat) (xs : List Iv) (t : Int) (w : World) (h : IvsAt w w.heap.size A xs) (hn : Norm xs) (ht : 0 ≤ t ∧ t ≤ 1099511627777) :
    Calls Try.prog 104 #[.slice A xs.length c, .int .i64 t, .func (.func 105) #[] #[]] w (BsfPost xs t w) := by
  have hlen := norm_len hn
  have HN := hide hn
  clear hn
  go_enter Try.func104, Try.ntmps104
  go_wp2_with fail
  go_loopg [9, 10] xs.length (fun g s9 s10 wr => BsfRel xs t w g s9 s10 wr)
  case atStart => exact ⟨0, xs.length, rfl, rfl, Nat.zero_le _, Nat.le_refl _, by omega, Below.refl _ _, fun j _ hj => absurd hj (Nat.not_lt_zero _), fun j h1 h2 => by omega⟩
  case round =>
    obtain ⟨lo, hi, rfl, rfl, hlh, hin, hg, hbr, h1, h2⟩ := hrel
    have I := hide (And.intro h1 h2)
    have HBR := hide hbr
    clear h1 h2
    have hivs := (h.below hbr).more hbr.size
    by_cases hlt : lo < hi
    · obtain ⟨b, off, rfl, hbb, hc1, hc2⟩ := hivs.at_ (k := (lo + hi) / 2) (by omega)
      have hok := HN.out.1 _ (List.getElem_mem (show (lo + hi) / 2 < xs.length by omega))
      obtain ⟨y, hy⟩ : ∃ y, xs[(lo + hi) / 2]'(by omega) = y := ⟨_, rfl⟩
      rw [hy] at hc1 hc2 hok
      have HY := hide hy
      clear hy hbr hivs
      unfold Okv at hok
      obtain ⟨y1, y2⟩ := y
      dsimp only at *
      have hw0 : I64 (y2 - t) := by unfold I64; omega
      have HW0 := hide hw0
      clear hw0
      have HC := hide (norm_ends HN.out)
      by_cases s : y2 < t
      · have T1 : decide (y2 - t < 0) = true := decide_eq_true (by omega)
        have S := hide s
        clear s
        go_wp2_with ((with_reducible go_at_call 105); refine (holds1_any _ _ _ _ HW0.out).mono ?_; rintro e w2 ⟨rfl, hb2⟩)
        go_roundg (hi - ((lo + hi) / 2 + 1))
        case measure => omega
        case rel =>
          refine ⟨(lo + hi) / 2 + 1, hi, by rw [show ((lo : Int) + (hi : Int)) / 2 + 1 = (((lo + hi) / 2 + 1 : Nat) : Int) by omega], rfl, by omega, hin, Nat.le_refl _, bstep HBR.out hb2, fun j hj h => ?_, I.out.2⟩
          have h1 := HC.out j ((lo + hi) / 2) hj (by omega) (by omega)
          rw [HY.out] at h1
          have := S.out
          dsimp only at h1
          omega
      · have T1 : decide (y2 - t < 0) = false := decide_eq_false (by omega)
        have S := hide s
        clear s
        go_wp2_with ((with_reducible go_at_call 105); refine (holds1_any _ _ _ _ HW0.out).mono ?_; rintro e w2 ⟨rfl, hb2⟩)
        go_roundg ((lo + hi) / 2 - lo)
        case measure => omega
        case rel =>
          refine ⟨lo, (lo + hi) / 2, rfl, by rw [show ((lo : Int) + (hi : Int)) / 2 = (((lo + hi) / 2 : Nat) : Int) by omega], by omega, by omega, Nat.le_refl _, bstep HBR.out hb2, I.out.1, fun j hj h => ?_⟩
          have h1 := HC.out ((lo + hi) / 2) j (by omega) hj h
          rw [HY.out] at h1
          have := S.out
          dsimp only at h1
          omega
    · have : hi = lo := by omega
      subst this
      have HF := hide (show FirstAt xs t hi from ⟨hin, I.out.1, I.out.2⟩)
      by_cases hx : hi < xs.length
      · obtain ⟨b, off, rfl, hbb, hc1, hc2⟩ := hivs.at_ hx
        have hok := HN.out.1 _ (List.getElem_mem hx)
        obtain ⟨y, hy⟩ : ∃ y, xs[hi] = y := ⟨_, rfl⟩
        rw [hy] at hc1 hc2 hok
        clear hy hivs
        unfold Okv at hok
        obtain ⟨y1, y2⟩ := y
        dsimp only at *
        have T1 : decide (hi < xs.length) = true := decide_eq_true hx
        have hw0 : I64 (y2 - t) := by unfold I64; omega
        have HW0 := hide hw0
        clear hw0
        go_wp2_with fail
        refine (holds1_any _ _ _ _ HW0.out).mono ?_
        rintro e w2 ⟨rfl, hb2⟩
        go_wp2_with fail
        go_ret2
        exact ⟨hi, _, rfl, HF.out, bstep HBR.out hb2⟩
      · have T1 : decide (hi < xs.length) = false := decide_eq_false hx
        go_wp2_with fail
        go_ret2
        exact ⟨hi, _, rfl, HF.out, HBR.out⟩

/-- in a normal list: all times between two ones belong to the set just if one interval holds them all -/
theorem norm_span {xs : List Iv} (hn : Norm xs) {u v : Int} (hu : 0 ≤ u) (huv : u ≤ v) (_hv : v ≤ 1099511627776) {i : Nat} (hi : FirstAt xs u i) : (∀ t, u ≤ t → t ≤ v → Mem xs t) ↔ ∃ h : i < xs.length, xs[i].1 ≤ u ∧ v ≤ xs[i].2 := by
  have key : ∀ t, u ≤ t → Mem xs t → ∃ j, ∃ hj : j < xs.length, i ≤ j ∧ xs[j].1 ≤ t ∧ t ≤ xs[j].2 := fun t ht hm => by
    obtain ⟨_, _, x, hx, h1, h2⟩ := hm
    obtain ⟨j, hj, rfl⟩ := List.getElem_of_mem hx
    refine ⟨j, hj, ?_, h1, h2⟩
    rcases Nat.lt_or_ge j i with h3 | h3
    · have := hi.2.1 j hj h3
      omega
    · exact h3
  have far : ∀ a b (ha : a < xs.length) (hb : b < xs.length), a < b → xs[a].2 + 2 ≤ xs[b].1 := fun a b ha hb h => List.pairwise_iff_getElem.1 hn.2 a b ha hb h
  constructor
  · intro h
    obtain ⟨j, hj, hij, h1, h2⟩ := key u (Int.le_refl _) (h u (Int.le_refl _) huv)
    have hil : i < xs.length := by omega
    have e : j = i := by
      rcases Nat.lt_or_ge i j with h3 | h3
      · have h4 := far i j hil hj h3
        have h5 := hi.2.2 i hil (Nat.le_refl _)
        omega
      · omega
    subst e
    refine ⟨hj, h1, Int.not_lt.1 fun h3 => ?_⟩
    obtain ⟨k, hk, hik, h4, h5⟩ := key (xs[j].2 + 1) (by omega) (h _ (by omega) (by omega))
    rcases Nat.lt_or_ge j k with h6 | h6
    · have := far j k hj hk h6
      omega
    · have : k = j := by omega
      subst this
      omega
  · rintro ⟨h, h1, h2⟩ t ht htv
    have := hn.1 _ (List.getElem_mem h)
    unfold Okv at this
    exact ⟨by omega, by omega, _, List.getElem_mem h, by omega, by omega⟩

end Go.Proofs.Ytkbiefklilelmaa
