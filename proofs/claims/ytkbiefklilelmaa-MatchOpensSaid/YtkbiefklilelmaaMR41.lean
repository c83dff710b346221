/-
  Several texts in one: Ops, RefNormal, RefHolds. Each says at its head what it holds.
-/
import Derived.Test.YtkbiefklilelmaaMR18
import Derived.Test.YtkbiefklilelmaaMR40
import Derived.Test.YtkbiefklilelmaaMR7

/-
  intervals.Without, Complement, delays, moved, Shift, Grow, Shrink: the sets of their results.
-/
namespace Go.Proofs.Ytkbiefklilelmaa
open Go.RowKit Go.Joins

def dlyB (a b : Int) : Bool := decide (-1099511627776 ≤ a ∧ b ≤ 1099511627776 ∧ a ≤ b)
theorem dlyB_iff {a b : Int} : dlyB a b = true ↔ -1099511627776 ≤ a ∧ b ≤ 1099511627776 ∧ a ≤ b := by simp [dlyB]

def Time (t : Int) : Prop := 0 ≤ t ∧ t ≤ 1099511627776
def complS (S : Int → Prop) (lo hi : Int) (t : Int) : Prop := lo ≤ t ∧ t ≤ hi ∧ Time t ∧ ¬ S t
def growS (S : Int → Prop) (a b lo hi : Int) (t : Int) : Prop := dlyB a b = true ∧ lo ≤ t ∧ t ≤ hi ∧ Time t ∧ ∃ u, t + a ≤ u ∧ u ≤ t + b ∧ S u
def shiftS (S : Int → Prop) (d lo hi : Int) (t : Int) : Prop := dlyB d d = true ∧ lo ≤ t ∧ t ≤ hi ∧ Time t ∧ S (t - d)
def shrinkS (S : Int → Prop) (a b lo hi : Int) (t : Int) : Prop := dlyB a b = true ∧ complS (growS (complS S lo hi) a b lo hi) lo hi t
theorem complS_congr {S S' : Int → Prop} (h : ∀ t, S t ↔ S' t) (lo hi t : Int) : complS S lo hi t ↔ complS S' lo hi t := by unfold complS; rw [h]
theorem growS_congr {S S' : Int → Prop} (h : ∀ t, S t ↔ S' t) (a b lo hi t : Int) : growS S a b lo hi t ↔ growS S' a b lo hi t := by unfold growS; simp only [h]

theorem without_rule : RuleOf 106 (fun x y => x && !y) := by
  intro x y w
  cases x <;> cases y <;>
  · go_enter Try.func106, Try.ntmps106
    go_wp2
    go_ret
    exact ⟨rfl, rfl⟩

theorem without_any (A B : Option Addr) (c d : Nat) (a b : List Iv) (w : World) (ha : IvsAt w w.heap.size A a) (hb : IvsAt w w.heap.size B b) (hla : a.length ≤ 4398046511104) (hlb : b.length ≤ 4398046511104) :
    Calls Try.prog 91 #[.slice A a.length c, .slice B b.length d] w (RetIvs w fun t => Mem a t ∧ ¬ Mem b t) := by
  go_enter Try.func91, Try.ntmps91
  go_wp2_with fail
  refine (combine_any 106 (enters_of Try.func106 (by kernel_rfl) rfl) _ without_rule rfl A B c d a b _ ha hb hla hlb).mono ?_
  rintro e w1 ⟨A1, c1, ys, rfl, hown, hb, hn, hm⟩
  go_wp2_with fail
  go_ret
  exact ⟨A1, c1, ys, rfl, hown, hb, hn, fun t => by rw [hm, Bool.and_eq_true, memT_iff, Bool.not_eq_true', Bool.eq_false_iff, Ne, memT_iff]⟩

theorem ivsAt_new {w : World} {t : TypeId} {p q : Int} : IvsAt (w.alloc (.cells #[.int .i64 p, .int .i64 q] t)) (w.alloc (.cells #[.int .i64 p, .int .i64 q] t)).heap.size (some ⟨w.heap.size, 0, none⟩) [(p, q)] := fun _ => by
  refine ⟨w.heap.size, 0, rfl, by simp, fun i x hi => ?_⟩
  match i, hi with
  | 0, hi => simp at hi; subst hi; simp
  | i + 1, hi => simp at hi

theorem complement_any (A : Option Addr) (c : Nat) (xs : List Iv) (lo hi : Int) (w : World) (h : IvsAt w w.heap.size A xs) (hl : xs.length ≤ 4398046511104) :
    Calls Try.prog 68 #[.slice A xs.length c, .int .i64 lo, .int .i64 hi] w (RetIvs w (complS (Mem xs) lo hi)) := by
  go_enter Try.func68, Try.ntmps68
  go_wp2_with fail
  have hb0 : Below w.heap.size w (w.alloc (.cells #[.int .i64 lo, .int .i64 hi] 42)) := (Below.refl _ _).alloc (Nat.le_refl _) _
  refine (without_any (some ⟨w.heap.size, 0, none⟩) A 1 c [(lo, hi)] xs _ ivsAt_new ((h.below hb0).more hb0.size) (by simp) hl).mono ?_
  rintro e w1 ⟨A1, c1, ys, rfl, hown, hb, hn, hm⟩
  go_wp2_with fail
  go_ret
  refine ⟨A1, c1, ys, rfl, hown.lower hb0.size, hb0.trans (hb.mono hb0.size), hn, fun t => ?_⟩
  rw [hm, mem_one]
  unfold complS Time
  simp only
  constructor
  · rintro ⟨h1, h2⟩; exact ⟨by omega, by omega, by omega, h2⟩
  · rintro ⟨h1, h2, h3, h4⟩; exact ⟨by omega, h4⟩

theorem delays_any (a b : Int) (w : World) : Calls Try.prog 66 #[.int .i64 a, .int .i64 b] w fun e w' => e = .returned (.bool (dlyB a b)) ∧ w = w' := by
  have hd : dlyB a b = decide (-1099511627776 ≤ a ∧ b ≤ 1099511627776 ∧ a ≤ b) := rfl
  by_cases h1 : -1099511627776 ≤ a
  · by_cases h2 : b ≤ 1099511627776
    · by_cases h3 : a ≤ b
      · have HD := hide (hd.trans (decide_eq_true ⟨h1, h2, h3⟩))
        clear hd
        go_enter Try.func66, Try.ntmps66
        go_wp2
        go_ret
        exact ⟨by rw [HD.out]; rfl, rfl⟩
      · have HD := hide (hd.trans (decide_eq_false (fun h => h3 h.2.2)))
        clear hd
        go_enter Try.func66, Try.ntmps66
        go_wp2
        go_ret
        exact ⟨by rw [HD.out]; rfl, rfl⟩
    · have HD := hide (hd.trans (decide_eq_false (fun h => h2 h.2.1)))
      clear hd
      go_enter Try.func66, Try.ntmps66
      go_wp2
      go_ret
      exact ⟨by rw [HD.out]; rfl, rfl⟩
  · have HD := hide (hd.trans (decide_eq_false (fun h => h1 h.1)))
    clear hd
    go_enter Try.func66, Try.ntmps66
    go_wp2
    go_ret
    exact ⟨by rw [HD.out]; rfl, rfl⟩

def movedL (f l : Int) (ys : List Iv) : List Iv := ys.map fun x => (x.1 + f, x.2 + l)
theorem movedL_take_succ (f l : Int) (ys : List Iv) (k : Nat) (hk : k < ys.length) : movedL f l (ys.take (k + 1)) = movedL f l (ys.take k) ++ [(ys[k].1 + f, ys[k].2 + l)] := by
  unfold movedL; rw [List.take_succ_eq_append_getElem hk, List.map_append]; rfl
theorem movedL_mem (f l : Int) (hfl : f ≤ l) {ys : List Iv} (hn : Norm ys) (t : Int) : Mem (movedL f l ys) t ↔ Time t ∧ ∃ u, t - l ≤ u ∧ u ≤ t - f ∧ Mem ys u := by
  unfold Mem movedL Time
  constructor
  · rintro ⟨h1, h2, x, hx, h3, h4⟩
    rw [List.mem_map] at hx
    obtain ⟨y, hy, rfl⟩ := hx
    have := hn.1 y hy
    unfold Okv at this
    simp only at h3 h4
    exact ⟨⟨h1, h2⟩, max y.1 (t - l), by omega, by omega, by omega, by omega, y, hy, by omega, by omega⟩
  · rintro ⟨⟨h1, h2⟩, u, h3, h4, h5, h6, y, hy, h7, h8⟩
    exact ⟨h1, h2, _, List.mem_map.2 ⟨y, hy, rfl⟩, by simp only; omega, by simp only; omega⟩

def MovedRel (w : World) (f l : Int) (ys : List Iv) (out i : Value) (wr : World) : Prop :=
  ∃ (k : Nat) (A : Option Addr) (c : Nat), k ≤ ys.length ∧ i = .int .i64 k ∧ out = .slice A (movedL f l (ys.take k)).length c ∧ OwnIv wr w.heap.size A c (movedL f l (ys.take k)) ∧ Below w.heap.size w wr

set_option maxHeartbeats 1000000 in
theorem moved_any (A : Option Addr) (c : Nat) (xs : List Iv) (f l lo hi : Int) (w : World) (h : IvsAt w w.heap.size A xs) (hl : xs.length ≤ 4398046511104) (h1 : -1099511627776 ≤ f) (h2 : l ≤ 1099511627776) (h3 : f ≤ l) :
    Calls Try.prog 67 #[.slice A xs.length c, .int .i64 f, .int .i64 l, .int .i64 lo, .int .i64 hi] w (RetIvs w fun t => lo ≤ t ∧ t ≤ hi ∧ Time t ∧ ∃ u, t - l ≤ u ∧ u ≤ t - f ∧ Mem xs u) := by
  go_enter Try.func67, Try.ntmps67
  go_wp2_with fail
  refine (normal_any A c xs _ h hl).mono ?_
  rintro e w1 ⟨A1, c1, ys, rfl, hown1, hb1, ny, my⟩
  have hly := norm_len ny
  have ry := hown1.ats
  have HMY := hide my
  clear my hown1 h
  go_wp2_with fail
  go_loopw [11, 17] (fun out i wr => MovedRel w1 f l ys out i wr) (fun _ i _ => ys.length - (intOf i).toNat)
  case atStart => exact ⟨0, none, 0, Nat.zero_le _, rfl, rfl, OwnIv.nil _ _, Below.refl _ _⟩
  case round =>
    obtain ⟨k, A2, c2, hk, rfl, rfl, hown, hb⟩ := hrel
    have hll : (movedL f l (ys.take k)).length ≤ 4398046511104 := by
      unfold movedL; rw [List.length_map]; have := List.length_take_le k ys; omega
    by_cases hlt : k < ys.length
    · obtain ⟨b, off, rfl, hbb, hc1, hc2⟩ := (ry.below hb).at_ hlt
      have HS := hide (movedL_take_succ f l ys k hlt)
      have hoy := ny.1 ys[k] (List.getElem_mem _)
      unfold Okv at hoy
      generalize movedL f l (ys.take k) = ms at *
      go_wp2_with (at_builtin; (refine append_iv rfl _ _ rfl w1.heap.size A2 c2 ms _ rfl rfl (ys[k].1 + f) (ys[k].2 + l) _ rfl _ rfl (by simp) (hown.alloc _) hll (by have := hb.size; simp; omega) ?_)
                   intro g' c' w2 row hown2 hg' hgrow hrow)
      go_roundw
      case rel =>
        refine ⟨k + 1, some ⟨g', 0, none⟩, c', by omega, by go_num, by rw [HS.out]; simp, by rw [HS.out]; exact hown2, ?_⟩
        exact ((hb.alloc hb.size _).alloc (by have := hb.size; simp; omega) _).grown hgrow (by have := hb.size; simp; omega) hrow
      case measure => simp [intOf]; omega
    · have hke : k = ys.length := by omega
      subst hke
      rw [List.take_length] at hown hll ⊢
      go_wp2_with fail
      refine (clip_any A2 c2 (movedL f l ys) lo hi _ hown.ats hll).mono ?_
      rintro e w3 ⟨A3, c3, zs, rfl, hown3, hb3, n3, m3⟩
      go_wp2_with fail
      go_ret
      refine ⟨A3, c3, zs, rfl, hown3.lower (Nat.le_trans hb1.size hb.size), hb1.trans ((hb.mono hb1.size).trans (hb3.mono (Nat.le_trans hb1.size hb.size))), n3, fun t => ?_⟩
      rw [m3, movedL_mem f l h3 ny]
      simp only [HMY.out]

theorem grow_any (A : Option Addr) (c : Nat) (xs : List Iv) (a b lo hi : Int) (w : World) (h : IvsAt w w.heap.size A xs) (hl : xs.length ≤ 4398046511104) :
    Calls Try.prog 42 #[.slice A xs.length c, .int .i64 a, .int .i64 b, .int .i64 lo, .int .i64 hi] w (RetIvs w (growS (Mem xs) a b lo hi)) := by
  go_enter Try.func42, Try.ntmps42
  go_wp2_with fail
  refine (delays_any a b _).mono ?_
  rintro e w1 ⟨rfl, rfl⟩
  cases hd : dlyB a b
  · have HD := hide hd
    clear hd
    go_wp2_with fail
    go_ret
    exact ⟨none, 0, [], rfl, OwnIv.nil _ _, Below.refl _ _, Norm.nil, fun t => by unfold growS; rw [HD.out]; simp [mem_nil]⟩
  · have HD := hide hd
    have hv := dlyB_iff.1 hd
    clear hd
    go_wp2_with fail
    refine (moved_any A c xs (-b) (-a) lo hi _ h hl (by omega) (by omega) (by omega)).mono ?_
    rintro e w1 ⟨A1, c1, ys, rfl, hown, hb, hn, hm⟩
    go_wp2_with fail
    go_ret
    refine ⟨A1, c1, ys, rfl, hown, hb, hn, fun t => ?_⟩
    rw [hm]
    unfold growS
    constructor
    · rintro ⟨h1, h2, h3, u, h4, h5, h6⟩
      exact ⟨HD.out, h1, h2, h3, u, by omega, by omega, h6⟩
    · rintro ⟨_, h1, h2, h3, u, h4, h5, h6⟩
      exact ⟨h1, h2, h3, u, by omega, by omega, h6⟩

theorem shrink_any (A : Option Addr) (c : Nat) (xs : List Iv) (a b lo hi : Int) (w : World) (h : IvsAt w w.heap.size A xs) (hl : xs.length ≤ 4398046511104) :
    Calls Try.prog 43 #[.slice A xs.length c, .int .i64 a, .int .i64 b, .int .i64 lo, .int .i64 hi] w (RetIvs w (shrinkS (Mem xs) a b lo hi)) := by
  go_enter Try.func43, Try.ntmps43
  go_wp2_with fail
  refine (delays_any a b _).mono ?_
  rintro e w1 ⟨rfl, rfl⟩
  cases hd : dlyB a b
  · have HD := hide hd
    clear hd
    go_wp2_with fail
    go_ret
    exact ⟨none, 0, [], rfl, OwnIv.nil _ _, Below.refl _ _, Norm.nil, fun t => by unfold shrinkS; rw [HD.out]; simp [mem_nil]⟩
  · have HD := hide hd
    clear hd
    go_wp2_with fail
    refine (complement_any A c xs lo hi _ h hl).mono ?_
    rintro e w1 ⟨A1, c1, ys, rfl, hown, hb, hn, hm⟩
    have HM := hide hm
    clear hm
    have hly := norm_len hn
    go_wp2_with fail
    refine (grow_any A1 c1 ys a b lo hi _ hown.ats (by omega)).mono ?_
    rintro e w2 ⟨A2, c2, zs, rfl, hown2, hb2, hn2, hm2⟩
    have HM2 := hide hm2
    clear hm2
    have hlz := norm_len hn2
    go_wp2_with fail
    refine (complement_any A2 c2 zs lo hi _ hown2.ats (by omega)).mono ?_
    rintro e w3 ⟨A3, c3, us, rfl, hown3, hb3, hn3, hm3⟩
    have HM3 := hide hm3
    clear hm3
    go_wp2_with fail
    go_ret
    refine ⟨A3, c3, us, rfl, hown3.lower (Nat.le_trans hb.size hb2.size), hb.trans ((hb2.mono hb.size).trans (hb3.mono (Nat.le_trans hb.size hb2.size))), hn3, fun t => ?_⟩
    rw [HM3.out, complS_congr (fun t => (HM2.out t).trans (growS_congr HM.out a b lo hi t))]
    unfold shrinkS
    rw [HD.out]
    simp

end Go.Proofs.Ytkbiefklilelmaa

/-
  The reference's Combine by its three rules, and Normal.
-/
namespace Go.Proofs.Ytkbiefklilelmaa
open Go.RowKit Go.Joins

theorem rl_either (x y : Bool) : rl 0 x y = (x || y) := rfl
theorem rl_both (x y : Bool) : rl 1 x y = (x && y) := rfl
theorem rl_first (x y : Bool) : rl 2 x y = (x && !y) := rfl

theorem refEither_any (A B : Option Addr) (c d : Nat) (a b : List Iv) (w : World) (ha : IvsAt w w.heap.size A a) (hb : IvsAt w w.heap.size B b) (hla : a.length ≤ 1000000000000) (hlb : b.length ≤ 1000000000000) :
    Calls Try.prog 72 #[.slice A a.length c, .slice B b.length d, .int .i64 0] w (RetIvs w fun t => Mem a t ∨ Mem b t) :=
  (refCombine_any 0 (.inl rfl) A B c d a b w ha hb hla hlb).mono fun _ _ h => h.congr fun t => by
    rw [rl_either, Bool.or_eq_true, memT_iff, memT_iff]
    exact ⟨fun h => h.2.2, fun h => h.elim (fun h => ⟨h.1, h.2.1, .inl h⟩) (fun h => ⟨h.1, h.2.1, .inr h⟩)⟩
theorem refBoth_any (A B : Option Addr) (c d : Nat) (a b : List Iv) (w : World) (ha : IvsAt w w.heap.size A a) (hb : IvsAt w w.heap.size B b) (hla : a.length ≤ 1000000000000) (hlb : b.length ≤ 1000000000000) :
    Calls Try.prog 72 #[.slice A a.length c, .slice B b.length d, .int .i64 1] w (RetIvs w fun t => Mem a t ∧ Mem b t) :=
  (refCombine_any 1 (.inr (.inl rfl)) A B c d a b w ha hb hla hlb).mono fun _ _ h => h.congr fun t => by
    rw [rl_both, Bool.and_eq_true, memT_iff, memT_iff]
    exact ⟨fun h => h.2.2, fun h => ⟨h.1.1, h.1.2.1, h⟩⟩
theorem refFirst_any (A B : Option Addr) (c d : Nat) (a b : List Iv) (w : World) (ha : IvsAt w w.heap.size A a) (hb : IvsAt w w.heap.size B b) (hla : a.length ≤ 1000000000000) (hlb : b.length ≤ 1000000000000) :
    Calls Try.prog 72 #[.slice A a.length c, .slice B b.length d, .int .i64 2] w (RetIvs w fun t => Mem a t ∧ ¬ Mem b t) :=
  (refCombine_any 2 (.inr (.inr rfl)) A B c d a b w ha hb hla hlb).mono fun _ _ h => h.congr fun t => by
    rw [rl_first, Bool.and_eq_true, memT_iff, Bool.not_eq_true', Bool.eq_false_iff, Ne, memT_iff]
    exact ⟨fun h => h.2.2, fun h => ⟨h.1.1, h.1.2.1, h⟩⟩

theorem refNormal_any (A : Option Addr) (c : Nat) (xs : List Iv) (w : World) (h : IvsAt w w.heap.size A xs) (hl : xs.length ≤ 1000000000000) :
    Calls Try.prog 50 #[.slice A xs.length c] w (RetIvs w (Mem xs)) := by
  go_enter Try.func50, Try.ntmps50
  go_wp2_with fail
  refine (refEither_any A none c 0 xs [] _ h IvsAt.nil hl (by simp)).mono ?_
  rintro e w1 ⟨A1, c1, ys, rfl, hown, hb, hn, hm⟩
  go_wp2_with fail
  go_ret
  exact ⟨A1, c1, ys, rfl, hown, hb, hn, fun t => by rw [hm]; simp [mem_nil]⟩

end Go.Proofs.Ytkbiefklilelmaa

/-
  wavestoreref55.holds: whether a condition holds at all times behind u up to v.
-/
namespace Go.Proofs.Ytkbiefklilelmaa
open Go.RowKit Go.Joins

theorem rrange_any (lo hi : Int) (w : World) : Calls Try.prog 90 #[.int .i64 lo, .int .i64 hi] w (RetIvs w (Mem [(lo, hi)])) := by
  go_enter Try.func90, Try.ntmps90
  go_wp2_with fail
  have hb0 : Below w.heap.size w (w.alloc (.cells #[.int .i64 lo, .int .i64 hi] 42)) := (Below.refl _ _).alloc (Nat.le_refl _) _
  refine (refNormal_any (some ⟨w.heap.size, 0, none⟩) 1 [(lo, hi)] _ ivsAt_new (by simp)).mono ?_
  rintro e w1 ⟨A1, c1, ys, rfl, hown, hb, hn, hm⟩
  go_wp2_with fail
  go_ret
  exact ⟨A1, c1, ys, rfl, hown.lower hb0.size, bstep hb0 hb, hn, hm⟩

def RHoldPost (cs : List SlV) (wh u v : Int) (w : World) (e : Ending) (w' : World) : Prop := ∃ b : Bool, e = .returned (.bool b) ∧ (b = true ↔ HoldW (cs.map SlV.xs) wh u (v + 1)) ∧ Below w.heap.size w w'
theorem empty_iff {l ys : List Iv} {cs : List SlV} {k : Nat} {u v : Int} (hk : nth (cs.map SlV.xs) (k : Int) = l) (hu : 0 ≤ u) (hv : v ≤ 1099511627776) (hn : Norm ys) (hm : ∀ t, Mem ys t ↔ (Mem [(u + 1, v)] t ∧ ¬ Mem l t)) : ((ys.length : Int) == 0) = true ↔ HoldW (cs.map SlV.xs) (k : Int) u (v + 1) := by
  have h0 : (∀ t, ¬ Mem ys t) ↔ ys = [] := ⟨fun h => norm_ext hn Norm.nil (fun t => ⟨fun ht => absurd ht (h t), fun ht => by unfold Mem at ht; simp at ht⟩), fun h t => by subst h; simp [Mem]⟩
  rw [beq_iff_eq]
  unfold HoldW
  rw [hk]
  constructor
  · intro hl
    have he : ys = [] := List.eq_nil_of_length_eq_zero (by omega)
    refine .inr fun t h1 h2 => Classical.byContradiction fun hno => ?_
    exact h0.2 he t ((hm t).2 ⟨by unfold Mem; exact ⟨by omega, by omega, (u + 1, v), by simp, by omega, by omega⟩, hno⟩)
  · rintro (h | h)
    · omega
    · have : ys = [] := h0.1 fun t ht => by
        obtain ⟨h1, h2⟩ := (hm t).1 ht
        unfold Mem at h1
        simp at h1
        exact h2 (h t (by omega) (by omega))
      rw [this]; rfl

set_option maxRecDepth 100000 in
set_option maxHeartbeats 4000000 in
theorem rholds_any (AC : Option Addr) (cC : Nat) (cs : List SlV) (wh u v : Int) (w : World) (hw : wh = -1 ∨ ∃ k : Nat, k < cs.length ∧ wh = (k : Int)) (hcs : CsAt w AC cs) (_hl : cs.length ≤ 140737488355328) (hll : ∀ s ∈ cs, s.xs.length ≤ 1000000000000) (hu : 0 ≤ u ∧ u ≤ 1099511627776) (hv : v ≤ 1099511627776 ∧ -1 ≤ v) :
    Calls Try.prog 65 #[.slice AC cs.length cC, .int .i64 wh, .int .i64 u, .int .i64 v] w (RHoldPost cs wh u v w) := by
  rcases hw with rfl | ⟨k, hk, rfl⟩
  · have HE := hide (show RHoldPost cs (-1) u v w (.returned (.bool true)) w from ⟨true, rfl, ⟨fun _ => .inl rfl, fun _ => rfl⟩, Below.refl _ _⟩)
    clear hcs hll
    go_enter Try.func65, Try.ntmps65
    go_wp2_with fail
    go_ret
    exact HE.out
  · have T0 : decide ((k : Int) < 0) = false := decide_eq_false (by omega)
    by_cases huv : v ≤ u
    · have T1 : decide (v ≤ u) = true := decide_eq_true huv
      have HE := hide (show RHoldPost cs (k : Int) u v w (.returned (.bool true)) w from ⟨true, rfl, ⟨fun _ => .inr fun t h1 h2 => by omega, fun _ => rfl⟩, Below.refl _ _⟩)
      clear hcs hll
      go_enter Try.func65, Try.ntmps65
      go_wp2_with fail
      go_ret
      exact HE.out
    · have T1 : decide (v ≤ u) = false := decide_eq_false huv
      have hnth : nth (cs.map SlV.xs) (k : Int) = cs[k].xs := by rw [nth_at (k := k) (by simpa using hk) rfl]; simp
      have HI := hide (fun ys (hn : Norm ys) hm => empty_iff (ys := ys) hnth hu.1 hv.1 hn hm)
      obtain ⟨b, off, rfl, hb, e0, hivs⟩ := hcs.at_ hk
      have hsl := hll _ (List.getElem_mem hk)
      generalize cs[k] = s at *
      obtain ⟨sA, sc, l⟩ := s
      dsimp only at e0 hivs hsl HI
      have HIV := hide hivs
      have hwr : IntKind.i64.wrap (u + 1) = u + 1 := by first | go_num | (simp [IntKind.wrap, IntKind.bits]; omega)
      have HRG := hide (rrange_any (u + 1) v w.drew)
      clear hcs hll hnth hivs
      go_enter Try.func65, Try.ntmps65
      go_upto_region 3 with (fail)
      go_region_law
        (first
          | (go_simp
             go_at_call 90
             refine HRG.out.mono ?_
             rintro e w5 ⟨A5, c5, ys5, rfl, ho5, hb5, n5, m5⟩
             have HB5 := hide (show Below w.heap.size w w5 from ⟨hb5.os, hb5.tape, hb5.output, hb5.size, hb5.block⟩)
             have hc5 := refFirst_any A5 sA c5 sc ys5 l w5 ho5.ats (HIV.out.step HB5.out) (by have := norm_len n5; omega) (by omega)
             have HC5 := hide hc5
             have HM5 := hide m5
             have e5 := (HB5.out.cell (p := ⟨b, off + k, none⟩) hb).trans e0
             clear hb5 ho5 n5 m5 hc5)
          | (go_simp
             go_at_call 72
             refine HC5.out.mono ?_
             rintro e w6 ⟨A6, c6, ys6, rfl, ho6, hb6, n6, m6⟩
             have HM6 := hide m6
             have HN6 := hide n6
             have HB6 := hide (bstep HB5.out hb6)
             clear ho6 hb6 n6 m6)
          | fail)
      all_goals
        have HE := hide (show RHoldPost cs (k : Int) u v w (.returned (.bool ((ys6.length : Int) == 0))) w6 from ⟨_, rfl, HI.out ys6 HN6.out (fun t => (HM6.out t).trans (and_congr (HM5.out t) Iff.rfl)), HB6.out⟩)
        go_wp2_with fail
        go_ret
        exact HE.out

end Go.Proofs.Ytkbiefklilelmaa
