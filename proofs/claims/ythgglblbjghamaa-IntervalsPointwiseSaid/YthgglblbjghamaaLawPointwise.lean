/-
  wavestorelaw46.IntervalsPointwise returns true.
-/
import Derived.Test.YthgglblbjghamaaAwake
import Derived.Test.YthgglblbjghamaaContains
namespace Go.Proofs.Ythgglblbjghamaa
open Go.RowKit Go.Joins

def someB (xs : List Iv) (s : Int) (n : Nat) : Bool := (List.range n).any fun j => memT xs (s + j)
def allB (xs : List Iv) (lo hi s : Int) (n : Nat) : Bool := (List.range n).all fun j => decide (s + j < lo ∨ hi < s + j) || memT xs (s + j)
theorem someB_succ (xs : List Iv) (s : Int) (n : Nat) : someB xs s (n + 1) = (someB xs s n || memT xs (s + n)) := by
  unfold someB; rw [List.range_succ, List.any_append]; simp
theorem allB_succ (xs : List Iv) (lo hi s : Int) (n : Nat) : allB xs lo hi s (n + 1) = (allB xs lo hi s n && (decide (s + n < lo ∨ hi < s + n) || memT xs (s + n))) := by
  unfold allB; rw [List.range_succ, List.all_append]; simp
theorem someB_iff {xs : List Iv} {s : Int} {n : Nat} : someB xs s n = true ↔ ∃ u, s ≤ u ∧ u < s + n ∧ Mem xs u := by
  unfold someB
  rw [List.any_eq_true]
  constructor
  · rintro ⟨j, hj, h⟩
    rw [List.mem_range] at hj
    exact ⟨s + j, by omega, by omega, memT_iff.1 h⟩
  · rintro ⟨u, h1, h2, h3⟩
    refine ⟨(u - s).toNat, List.mem_range.2 (by omega), ?_⟩
    rw [show s + ((u - s).toNat : Int) = u by omega]
    exact memT_iff.2 h3
theorem allB_iff {xs : List Iv} {lo hi s : Int} {n : Nat} : allB xs lo hi s n = true ↔ ∀ u, s ≤ u → u < s + n → lo ≤ u → u ≤ hi → Mem xs u := by
  unfold allB
  rw [List.all_eq_true]
  constructor
  · intro h u h1 h2 h3 h4
    have := h (u - s).toNat (List.mem_range.2 (by omega))
    rw [show s + ((u - s).toNat : Int) = u by omega, Bool.or_eq_true, decide_eq_true_eq] at this
    rcases this with h5 | h5
    · omega
    · exact memT_iff.1 h5
  · intro h j hj
    rw [List.mem_range] at hj
    rw [Bool.or_eq_true, decide_eq_true_eq]
    by_cases h5 : s + (j : Int) < lo ∨ hi < s + (j : Int)
    · exact .inl h5
    · exact .inr (memT_iff.2 (h (s + j) (by omega) (by omega) (by omega) (by omega)))

/-- what the eight results are at a time, as tests -/
theorem point_eq {S : Prop} {ys : List Iv} {t : Int} {v : Bool} (h : Mem ys t ↔ S) (hv : v = true ↔ S) : memT ys t = v := by
  rw [Bool.eq_iff_iff, memT_iff, h, hv]

/-- the eight results at a time -/
theorem pw1 {xs ys y1 : List Iv} {k : Int} {x y : Bool} (hx : memT xs k = x) (hy : memT ys k = y) (h : ∀ t, Mem y1 t ↔ Mem xs t ∨ Mem ys t) : memT y1 k = (x || y) := by
  refine point_eq (h k) ?_
  rw [← hx, ← hy, Bool.or_eq_true, memT_iff, memT_iff]
theorem pw2 {xs ys y1 : List Iv} {k : Int} {x y : Bool} (hx : memT xs k = x) (hy : memT ys k = y) (h : ∀ t, Mem y1 t ↔ Mem xs t ∧ Mem ys t) : memT y1 k = (x && y) := by
  refine point_eq (h k) ?_
  rw [← hx, ← hy, Bool.and_eq_true, memT_iff, memT_iff]
theorem pw3 {xs ys y1 : List Iv} {k : Int} {x y : Bool} (hx : memT xs k = x) (hy : memT ys k = y) (h : ∀ t, Mem y1 t ↔ Mem xs t ∧ ¬ Mem ys t) : memT y1 k = (x && !y) := by
  refine point_eq (h k) ?_
  rw [← hx, ← hy, Bool.and_eq_true, memT_iff, Bool.not_eq_true', Bool.eq_false_iff, Ne, memT_iff]
theorem pw4 {xs y1 : List Iv} {lo hi k : Int} {x z : Bool} (hx : memT xs k = x) (hz : decide (lo ≤ k ∧ k ≤ hi) = z) (h : ∀ t, Mem y1 t ↔ lo ≤ t ∧ t ≤ hi ∧ Mem xs t) : memT y1 k = (z && x) := by
  refine point_eq (h k) ?_
  rw [← hx, ← hz, Bool.and_eq_true, memT_iff, decide_eq_true_eq, and_assoc]
theorem pw5 {xs y1 : List Iv} {lo hi k : Int} {x z : Bool} (hk : Time k) (hx : memT xs k = x) (hz : decide (lo ≤ k ∧ k ≤ hi) = z) (h : ∀ t, Mem y1 t ↔ complS (Mem xs) lo hi t) : memT y1 k = (z && !x) := by
  refine point_eq (h k) ?_
  unfold complS
  rw [← hx, ← hz, Bool.and_eq_true, Bool.not_eq_true', Bool.eq_false_iff, Ne, memT_iff, decide_eq_true_eq, and_assoc]
  exact ⟨fun h => ⟨h.1, h.2.1, hk, h.2.2⟩, fun h => ⟨h.1, h.2.1, h.2.2.2⟩⟩
theorem pw6 {xs y1 : List Iv} {lo hi p k : Int} {x z : Bool} (hk : Time k) (hp : -60 ≤ p ∧ p ≤ 60) (hx : memT xs (k - p) = x) (hz : decide (lo ≤ k ∧ k ≤ hi) = z) (h : ∀ t, Mem y1 t ↔ shiftS (Mem xs) p lo hi t) : memT y1 k = (z && x) := by
  refine point_eq (h k) ?_
  unfold shiftS
  rw [← hx, ← hz, Bool.and_eq_true, memT_iff, decide_eq_true_eq, and_assoc, dlyB_iff]
  exact ⟨fun h => ⟨by omega, h.1, h.2.1, hk, h.2.2⟩, fun h => ⟨h.2.1, h.2.2.1, h.2.2.2.2⟩⟩
theorem pw7 {xs y1 : List Iv} {lo hi p q k : Int} {x z : Bool} (hk : Time k) (hp : -60 ≤ p ∧ q ≤ 60 ∧ p ≤ q) (hx : x = true ↔ ∃ u, k + p ≤ u ∧ u ≤ k + q ∧ Mem xs u) (hz : decide (lo ≤ k ∧ k ≤ hi) = z) (h : ∀ t, Mem y1 t ↔ growS (Mem xs) p q lo hi t) : memT y1 k = (z && x) := by
  refine point_eq (h k) ?_
  unfold growS
  rw [← hz, Bool.and_eq_true, hx, decide_eq_true_eq, and_assoc, dlyB_iff]
  exact ⟨fun h => ⟨by omega, h.1, h.2.1, hk, h.2.2⟩, fun h => ⟨h.2.1, h.2.2.1, h.2.2.2.2⟩⟩
theorem pw8 {xs y1 : List Iv} {lo hi p q k : Int} {x z : Bool} (hk : Time k) (hr : 0 ≤ lo ∧ hi ≤ 50) (hp : -60 ≤ p ∧ q ≤ 60 ∧ p ≤ q) (hx : x = true ↔ ∀ u, k + p ≤ u → u ≤ k + q → lo ≤ u → u ≤ hi → Mem xs u) (hz : decide (lo ≤ k ∧ k ≤ hi) = z) (h : ∀ t, Mem y1 t ↔ shrinkS (Mem xs) p q lo hi t) : memT y1 k = (z && x) := by
  refine point_eq (h k) ?_
  have hd : dlyB p q = true := dlyB_iff.2 (by omega)
  unfold shrinkS
  rw [← hz, Bool.and_eq_true, hx, decide_eq_true_eq]
  constructor
  · rintro ⟨⟨h1, h2⟩, h3⟩
    refine ⟨hd, h1, h2, hk, ?_⟩
    rintro ⟨_, _, _, _, u, h4, h5, h6, h7, _, h8⟩
    exact h8 (h3 u h4 h5 h6 h7)
  · rintro ⟨_, h1, h2, _, h3⟩
    refine ⟨⟨h1, h2⟩, fun u h4 h5 h6 h7 => ?_⟩
    by_cases h8 : Mem xs u
    · exact h8
    · exact absurd ⟨hd, h1, h2, hk, u, h4, h5, h6, h7, by unfold Time; omega, h8⟩ h3

def PwRel (w : World) (i : Value) (wr : World) : Prop := ∃ k : Nat, k ≤ 51 ∧ i = .int .i64 k ∧ Below w.heap.size w wr
def PwIn (w : World) (xs : List Iv) (lo hi s e : Int) (so al u : Value) (wr : World) : Prop :=
  ∃ n : Nat, s + n ≤ e + 1 ∧ u = .int .i64 (s + n) ∧ so = .bool (someB xs s n) ∧ al = .bool (allB xs lo hi s n) ∧ Below w.heap.size w wr
def PwEnd (w : World) (xs : List Iv) (lo hi s e : Int) (so al : Value) (wr : World) : Prop :=
  ∃ x y : Bool, so = .bool x ∧ al = .bool y ∧ (x = true ↔ ∃ u, s ≤ u ∧ u ≤ e ∧ Mem xs u) ∧ (y = true ↔ ∀ u, s ≤ u → u ≤ e → lo ≤ u → u ≤ hi → Mem xs u) ∧ Below w.heap.size w wr

set_option maxRecDepth 100000 in
set_option maxHeartbeats 4000000 in
theorem pointwise_walk (A : Option Addr) (c : Nat) (xs : List Iv) (B : Option Addr) (d : Nat) (ys : List Iv) (lo hi p q : Int) (w : World) (hx : IvsAt w w.heap.size A xs) (hy : IvsAt w w.heap.size B ys) (_ : I64 lo) (_ : I64 hi) (_ : I64 p) (_ : I64 q) :
    Calls Try.prog 6 #[.slice A xs.length c, .slice B ys.length d, .int .i64 lo, .int .i64 hi, .int .i64 p, .int .i64 q] w fun e w' => e = .returned (.bool true) ∧ Below w.heap.size w w' := by
  by_cases hall : (xs.length ≤ 24 ∧ ys.length ≤ 24) ∧ 0 ≤ lo ∧ hi ≤ 50 ∧ lo ≤ hi ∧ -60 ≤ p ∧ q ≤ 60 ∧ p ≤ q
  · obtain ⟨hfew, g1, g2, g3, g4, g5, g6⟩ := hall
    have hd0 : fewB xs.length ys.length = true := fewB_iff.2 hfew
    obtain ⟨f1, f2⟩ := hfew
    have t1 : decide (lo < 0) = false := decide_eq_false (by omega)
    have t2 : decide (50 < hi) = false := decide_eq_false (by omega)
    have t3 : decide (hi < lo) = false := decide_eq_false (by omega)
    have t4 : decide (p < -60) = false := decide_eq_false (by omega)
    have t5 : decide (60 < q) = false := decide_eq_false (by omega)
    have t6 : decide (q < p) = false := decide_eq_false (by omega)
    go_enter Try.func6, Try.ntmps6
    go_wp2_with fail
    refine (few_any _ _ _ _ _ _ _).mono ?_
    rintro e w' ⟨rfl, rfl⟩
    rw [hd0]
    clear hd0
    go_wp2_with fail
    refine (union_any A B c d xs ys _ hx hy (by omega) (by omega)).mono ?_
    rintro e1 w1 ⟨A1, c1, y1, rfl, o1, b1, n1, m1⟩
    have M1 := hide m1
    clear m1
    go_wp2_with fail
    refine (intersect_any A B c d xs ys _ (hx.step b1) (hy.step b1) (by omega) (by omega)).mono ?_
    rintro e2 w2 ⟨A2, c2, y2, rfl, o2, b2, n2, m2⟩
    have M2 := hide m2
    clear m2
    have hx2 := (hx.step b1).step b2
    have hy2 := (hy.step b1).step b2
    have r1 := o1.ats.step b2
    have hb2 := bstep b1 b2
    clear o1 b1 b2 hx hy
    go_wp2_with fail
    refine (without_any A B c d xs ys _ hx2 hy2 (by omega) (by omega)).mono ?_
    rintro e3 w3 ⟨A3, c3, y3, rfl, o3, b3, n3, m3⟩
    have M3 := hide m3
    clear m3
    go_wp2_with fail
    refine (clip_any A c xs lo hi _ (hx2.step b3) (by omega)).mono ?_
    rintro e4 w4 ⟨A4, c4, y4, rfl, o4, b4, n4, m4⟩
    have M4 := hide m4
    clear m4
    have hx4 := (hx2.step b3).step b4
    have hy4 := (hy2.step b3).step b4
    have r1' := (r1.step b3).step b4
    have r2 := (o2.ats.step b3).step b4
    have r3 := o3.ats.step b4
    have hb4 := bstep (bstep hb2 b3) b4
    clear o2 o3 b3 b4 hx2 hy2 r1 hb2
    go_wp2_with fail
    refine (complement_any A c xs lo hi _ hx4 (by omega)).mono ?_
    rintro e5 w5 ⟨A5, c5, y5, rfl, o5, b5, n5, m5⟩
    have M5 := hide m5
    clear m5
    go_wp2_with fail
    refine (shift_any A c xs p lo hi _ (hx4.step b5) (by omega)).mono ?_
    rintro e6 w6 ⟨A6, c6, y6, rfl, o6, b6, n6, m6⟩
    have M6 := hide m6
    clear m6
    have hx6 := (hx4.step b5).step b6
    have hy6 := (hy4.step b5).step b6
    have r1 := (r1'.step b5).step b6
    have r2' := (r2.step b5).step b6
    have r3' := (r3.step b5).step b6
    have r4 := (o4.ats.step b5).step b6
    have r5 := o5.ats.step b6
    have hb6 := bstep (bstep hb4 b5) b6
    clear o4 o5 b5 b6 hx4 hy4 r1' r2 r3 hb4
    go_wp2_with fail
    refine (grow_any A c xs p q lo hi _ hx6 (by omega)).mono ?_
    rintro e7 w7 ⟨A7, c7, y7, rfl, o7, b7, n7, m7⟩
    have M7 := hide m7
    clear m7
    go_wp2_with fail
    refine (shrink_any A c xs p q lo hi _ (hx6.step b7) (by omega)).mono ?_
    rintro e8 w8 ⟨A8, c8, y8, rfl, o8, b8, n8, m8⟩
    have M8 := hide m8
    clear m8
    have hx8 := (hx6.step b7).step b8
    have hy8 := (hy6.step b7).step b8
    have s1 := (r1.step b7).step b8
    have s2 := (r2'.step b7).step b8
    have s3 := (r3'.step b7).step b8
    have s4 := (r4.step b7).step b8
    have s5 := (r5.step b7).step b8
    have s6 := (o6.ats.step b7).step b8
    have s7 := o7.ats.step b8
    have s8 := o8.ats
    have hb8 := bstep (bstep hb6 b7) b8
    have l1 := norm_len n1
    have l2 := norm_len n2
    have l3 := norm_len n3
    have l4 := norm_len n4
    have l5 := norm_len n5
    have l6 := norm_len n6
    have l7 := norm_len n7
    have l8 := norm_len n8
    clear o6 o7 o8 b7 b8 hx6 hy6 r1 r2' r3' r4 r5 hb6 n1 n2 n3 n4 n5 n6 n7 n8
    go_wp2_with fail
    clear t1 t2 t3 t4 t5 t6
    go_loopw [93] (fun i wr => PwRel w8 i wr) (fun i _ => 51 - (intOf i).toNat)
    case atStart => exact ⟨0, by omega, rfl, Below.refl _ _⟩
    case round =>
      obtain ⟨k, hk, rfl, hbr⟩ := hrel
      by_cases hlt : k < 51
      · have hd1 : decide ((k : Int) < 51) = true := decide_eq_true (by omega)
        obtain ⟨wo, rfl⟩ : ∃ wo : World, wo = wr := ⟨_, rfl⟩
        have hxo := hx8.step hbr
        have hyo := hy8.step hbr
        obtain ⟨x, hxv⟩ : ∃ x, memT xs (k : Int) = x := ⟨_, rfl⟩
        obtain ⟨y, hyv⟩ : ∃ y, memT ys (k : Int) = y := ⟨_, rfl⟩
        have HXV := hide hxv
        have HYV := hide hyv
        clear hxv hyv
        obtain ⟨z, hz⟩ : ∃ z : Bool, decide (lo ≤ (k : Int) ∧ (k : Int) ≤ hi) = z := ⟨_, rfl⟩
        have HZ := hide hz
        clear hz
        go_upto_region 9 with fail
        go_cut [22, 23, 24] (fun a b c wx => a = .bool x ∧ b = .bool y ∧ c = .bool z ∧ Below w8.heap.size w8 wx)
        case first =>
          as_aux_lemma =>
            by_cases z1 : lo ≤ (k : Int)
            · have zd : decide (lo ≤ (k : Int)) = true := decide_eq_true z1
              by_cases z2 : (k : Int) ≤ hi
              · have zd2 : decide ((k : Int) ≤ hi) = true := decide_eq_true z2
                obtain rfl : z = true := by rw [← HZ.out]; exact decide_eq_true ⟨z1, z2⟩
                go_wp2_with fail
                refine (contains_is x A c xs k _ hxo (by omega) HXV.out).mono ?_
                rintro e w9 ⟨rfl, b9⟩
                go_wp2_with fail
                refine (contains_is y B d ys k _ (hyo.step b9) (by omega) HYV.out).mono ?_
                rintro e w10 ⟨rfl, b10⟩
                go_wp2_with fail
                go_meet
                exact ⟨rfl, rfl, rfl, bstep (bstep hbr b9) b10⟩
              · have zd2 : decide ((k : Int) ≤ hi) = false := decide_eq_false z2
                obtain rfl : z = false := by rw [← HZ.out]; exact decide_eq_false (fun h => z2 h.2)
                go_wp2_with fail
                refine (contains_is x A c xs k _ hxo (by omega) HXV.out).mono ?_
                rintro e w9 ⟨rfl, b9⟩
                go_wp2_with fail
                refine (contains_is y B d ys k _ (hyo.step b9) (by omega) HYV.out).mono ?_
                rintro e w10 ⟨rfl, b10⟩
                go_wp2_with fail
                go_meet
                exact ⟨rfl, rfl, rfl, bstep (bstep hbr b9) b10⟩
            · have zd : decide (lo ≤ (k : Int)) = false := decide_eq_false z1
              obtain rfl : z = false := by rw [← HZ.out]; exact decide_eq_false (fun h => z1 h.1)
              go_wp2_with fail
              refine (contains_is x A c xs k _ hxo (by omega) HXV.out).mono ?_
              rintro e w9 ⟨rfl, b9⟩
              go_wp2_with fail
              refine (contains_is y B d ys k _ (hyo.step b9) (by omega) HYV.out).mono ?_
              rintro e w10 ⟨rfl, b10⟩
              go_wp2_with fail
              go_meet
              exact ⟨rfl, rfl, rfl, bstep (bstep hbr b9) b10⟩
        case rest =>
          obtain ⟨rfl, rfl, rfl, hbc⟩ := hcut
          clear hbr hxo hyo
          go_upto_block 2 with fail
          go_cut [25, 26] (fun a b wx => PwEnd w8 xs lo hi (k + p) (k + q) a b wx)
          case first =>
            as_aux_lemma =>
              go_wp2_with fail
              go_loopw [25, 26, 27] (fun a b u wr => PwIn w8 xs lo hi (k + p) (k + q) a b u wr) (fun _ _ u _ => ((k : Int) + q + 1 - intOf u).toNat)
              case atStart => exact ⟨0, by omega, by simp, rfl, rfl, hbc⟩
              case round =>
                obtain ⟨n, hn, rfl, rfl, rfl, hbi⟩ := hrel
                by_cases hlt2 : (k : Int) + p + n ≤ k + q
                · have HS := hide (someB_succ xs (k + p) n)
                  have HA := hide (allB_succ xs lo hi (k + p) n)
                  obtain ⟨m, hm⟩ : ∃ m, memT xs ((k : Int) + p + n) = m := ⟨_, rfl⟩
                  have HM := hide hm
                  obtain ⟨u, hu⟩ : ∃ u : Int, (k : Int) + p + n = u := ⟨_, rfl⟩
                  have HU := hide hu
                  rw [hu] at hlt2 HM HA HS ⊢
                  have hu1 : -200 ≤ u := by omega
                  have hu2 : u ≤ 200 := by omega
                  clear hm hu
                  generalize hso : someB xs (k + p) n = so at *
                  generalize hal : allB xs lo hi (k + p) n = al at *
                  clear hso hal
                  have hdu : decide (u ≤ (k : Int) + q) = true := decide_eq_true hlt2
                  go_upto_region 14 with fail
                  go_cut [25] (fun a wx => a = .bool (so || m) ∧ Below w8.heap.size w8 wx)
                  case first =>
                    cases so
                    · go_wp2_with fail
                      refine (contains_is m A c xs u _ (hx8.step hbi) (by omega) HM.out).mono ?_
                      rintro e w9 ⟨rfl, b9⟩
                      go_wp2_with fail
                      go_meet
                      exact ⟨rfl, bstep hbi b9⟩
                    · go_wp2_with fail
                      go_meet
                      exact ⟨rfl, hbi⟩
                  case rest =>
                    obtain ⟨rfl, hbj⟩ := hcut
                    go_upto_region 15 with fail
                    cases al
                    · go_wp2_with fail
                      go_roundw
                      case rel =>
                        have hrel : PwIn w8 xs lo hi (k + p) (k + q) (.bool (so || m)) (.bool false) (.int .i64 (u + 1)) wc :=
                          ⟨n + 1, by have := HU.out; omega, by rw [← HU.out]; congr 1; omega, by rw [HS.out, HM.out], by rw [HA.out, HM.out]; rfl, hbj⟩
                        first | exact hrel | ((repeat apply Exists.intro); exact ⟨hrel, rfl⟩)
                      case measure => simp [intOf]; omega
                    · by_cases u1 : u < lo
                      · have D := hide (decide_eq_true (p := u < lo ∨ hi < u) (.inl u1))
                        have ud : decide (u < lo) = true := decide_eq_true u1
                        go_wp2_with fail
                        go_roundw
                        case rel =>
                          have hrel : PwIn w8 xs lo hi (k + p) (k + q) (.bool (so || m)) (.bool true) (.int .i64 (u + 1)) wc :=
                            ⟨n + 1, by have := HU.out; omega, by rw [← HU.out]; congr 1; omega, by rw [HS.out, HM.out], by rw [HA.out, HM.out, D.out]; rfl, hbj⟩
                          first | exact hrel | ((repeat apply Exists.intro); exact ⟨hrel, rfl⟩)
                        case measure => simp [intOf]; omega
                      · have ud : decide (u < lo) = false := decide_eq_false u1
                        by_cases u2 : hi < u
                        · have D := hide (decide_eq_true (p := u < lo ∨ hi < u) (.inr u2))
                          have ud2 : decide (hi < u) = true := decide_eq_true u2
                          go_wp2_with fail
                          go_roundw
                          case rel =>
                            have hrel : PwIn w8 xs lo hi (k + p) (k + q) (.bool (so || m)) (.bool true) (.int .i64 (u + 1)) wc :=
                              ⟨n + 1, by have := HU.out; omega, by rw [← HU.out]; congr 1; omega, by rw [HS.out, HM.out], by rw [HA.out, HM.out, D.out]; rfl, hbj⟩
                            first | exact hrel | ((repeat apply Exists.intro); exact ⟨hrel, rfl⟩)
                          case measure => simp [intOf]; omega
                        · have D := hide (decide_eq_false (p := u < lo ∨ hi < u) (fun h => h.elim u1 u2))
                          have ud2 : decide (hi < u) = false := decide_eq_false u2
                          go_wp2_with fail
                          refine (contains_is m A c xs u _ (hx8.step hbj) (by omega) HM.out).mono ?_
                          rintro e w9 ⟨rfl, b9⟩
                          go_wp2_with fail
                          go_roundw
                          case rel =>
                            have hrel : PwIn w8 xs lo hi (k + p) (k + q) (.bool (so || m)) (.bool m) (.int .i64 (u + 1)) w9 :=
                              ⟨n + 1, by have := HU.out; omega, by rw [← HU.out]; congr 1; omega, by rw [HS.out, HM.out], by rw [HA.out, HM.out, D.out]; rfl, bstep hbj b9⟩
                            first | exact hrel | ((repeat apply Exists.intro); exact ⟨hrel, rfl⟩)
                          case measure => simp [intOf]; omega
                · have hdu : decide ((k : Int) + p + n ≤ (k : Int) + q) = false := decide_eq_false hlt2
                  go_wp2_with fail
                  go_meet
                  refine ⟨_, _, rfl, rfl, ?_, ?_, hbi⟩
                  · rw [someB_iff]; exact exists_congr fun u => by constructor <;> (rintro ⟨h1, h2, h3⟩; exact ⟨h1, by omega, h3⟩)
                  · rw [allB_iff]; exact forall_congr' fun u => by constructor <;> (intro h h1 h2; exact h h1 (by omega))
          case rest =>
            obtain ⟨so, al, rfl, rfl, hso, hal, hbd⟩ := hcut
            have HSO := hide hso
            have HAL := hide hal
            clear hso hal
            have htk : Time k := by unfold Time; omega
            have V1 := hide (pw1 HXV.out HYV.out M1.out)
            have V2 := hide (pw2 HXV.out HYV.out M2.out)
            have V3 := hide (pw3 HXV.out HYV.out M3.out)
            have V4 := hide (pw4 HXV.out HZ.out M4.out)
            have V5 := hide (pw5 htk HXV.out HZ.out M5.out)
            obtain ⟨v, hv⟩ : ∃ v, memT xs ((k : Int) - p) = v := ⟨_, rfl⟩
            have HV := hide hv
            clear hv
            have V6 := hide (pw6 htk (by omega) HV.out HZ.out M6.out)
            have V7 := hide (pw7 htk ⟨g4, g5, g6⟩ HSO.out HZ.out M7.out)
            have V8 := hide (pw8 htk ⟨g1, g2⟩ ⟨g4, g5, g6⟩ HAL.out HZ.out M8.out)
            clear htk
            go_upto_region 16 with fail
            go_cut [191] (fun a wx => a = .bool false ∧ Below w8.heap.size w8 wx)
            case first =>
              as_aux_lemma =>
                cases x <;> cases y <;> cases z
                all_goals
                  go_wp2_with fail
                  refine (contains_is _ A1 c1 y1 k _ (s1.step hbd) (by omega) V1.out).mono ?_
                  rintro e w9 ⟨rfl, b9⟩
                  go_wp2_with fail
                  refine (contains_is _ A2 c2 y2 k _ ((s2.step hbd).step b9) (by omega) V2.out).mono ?_
                  rintro e w10 ⟨rfl, b10⟩
                  go_wp2_with fail
                  refine (contains_is _ A3 c3 y3 k _ (((s3.step hbd).step b9).step b10) (by omega) V3.out).mono ?_
                  rintro e w11 ⟨rfl, b11⟩
                  go_wp2_with fail
                  refine (contains_is _ A4 c4 y4 k _ ((((s4.step hbd).step b9).step b10).step b11) (by omega) V4.out).mono ?_
                  rintro e w12 ⟨rfl, b12⟩
                  go_wp2_with fail
                  refine (contains_is _ A5 c5 y5 k _ (((((s5.step hbd).step b9).step b10).step b11).step b12) (by omega) V5.out).mono ?_
                  rintro e w13 ⟨rfl, b13⟩
                  go_wp2_with fail
                  go_meet
                  exact ⟨rfl, bstep (bstep (bstep (bstep (bstep hbd b9) b10) b11) b12) b13⟩
            case rest =>
              obtain ⟨rfl, hbe⟩ := hcut
              go_upto_region 18 with fail
              go_cut [223] (fun a wx => a = .bool false ∧ Below w8.heap.size w8 wx)
              case first =>
                as_aux_lemma =>
                  cases z
                  · cases so <;> cases al <;> cases v
                    all_goals
                      go_wp2_with fail
                      refine (contains_is _ A6 c6 y6 k _ (s6.step hbe) (by omega) V6.out).mono ?_
                      rintro e w9 ⟨rfl, b9⟩
                      go_wp2_with fail
                      refine (contains_is _ A7 c7 y7 k _ ((s7.step hbe).step b9) (by omega) V7.out).mono ?_
                      rintro e w10 ⟨rfl, b10⟩
                      go_wp2_with fail
                      refine (contains_is _ A8 c8 y8 k _ (((s8.step hbe).step b9).step b10) (by omega) V8.out).mono ?_
                      rintro e w11 ⟨rfl, b11⟩
                      go_wp2_with fail
                      go_meet
                      exact ⟨rfl, bstep (bstep (bstep hbe b9) b10) b11⟩
                  · cases so <;> cases al <;> cases v
                    all_goals
                      go_wp2_with fail
                      refine (contains_is _ A6 c6 y6 k _ (s6.step hbe) (by omega) V6.out).mono ?_
                      rintro e w9 ⟨rfl, b9⟩
                      go_wp2_with fail
                      refine (contains_is _ A c xs ((k : Int) - p) _ ((hx8.step hbe).step b9) (by omega) HV.out).mono ?_
                      rintro e w10 ⟨rfl, b10⟩
                      go_wp2_with fail
                      refine (contains_is _ A7 c7 y7 k _ (((s7.step hbe).step b9).step b10) (by omega) V7.out).mono ?_
                      rintro e w11 ⟨rfl, b11⟩
                      go_wp2_with fail
                      refine (contains_is _ A8 c8 y8 k _ ((((s8.step hbe).step b9).step b10).step b11) (by omega) V8.out).mono ?_
                      rintro e w12 ⟨rfl, b12⟩
                      go_wp2_with fail
                      go_meet
                      exact ⟨rfl, bstep (bstep (bstep (bstep hbe b9) b10) b11) b12⟩
              case rest =>
                obtain ⟨rfl, hbf⟩ := hcut
                go_wp2_with fail
                go_roundw
                case rel =>
                  have hrel : PwRel w8 (.int .i64 ((k : Int) + 1)) wc := ⟨k + 1, by omega, by go_num, hbf⟩
                  first | exact hrel | ((repeat apply Exists.intro); exact ⟨hrel, rfl⟩)
                case measure => simp [intOf]; omega
      · have hd1 : decide ((k : Int) < 51) = false := decide_eq_false (by omega)
        go_wp2_with fail
        refine (awake_any _).mono ?_
        rintro e w9 ⟨rfl, b9⟩
        go_wp2_with fail
        go_ret
        exact ⟨rfl, bstep (bstep hb8 hbr) b9⟩
  · by_cases hfew : xs.length ≤ 24 ∧ ys.length ≤ 24
    · have hd0 : fewB xs.length ys.length = true := fewB_iff.2 hfew
      go_enter Try.func6, Try.ntmps6
      go_wp2_with (first | (go_at_call 11; refine (few_any _ _ _ _ _ _ _).mono ?_; rintro e w' ⟨rfl, rfl⟩) | (go_at_call 12; refine (awake_any _).mono ?_; rintro e w1 ⟨rfl, hb1⟩))
      all_goals first | (go_ret; exact ⟨rfl, hb1⟩) | (exfalso; omega)
    · have hd0 : fewB xs.length ys.length = false := fewB_no hfew
      go_enter Try.func6, Try.ntmps6
      go_wp2_with (first | (go_at_call 11; refine (few_any _ _ _ _ _ _ _).mono ?_; rintro e w' ⟨rfl, rfl⟩) | (go_at_call 12; refine (awake_any _).mono ?_; rintro e w1 ⟨rfl, hb1⟩))
      all_goals (go_ret; exact ⟨rfl, hb1⟩)
end Go.Proofs.Ythgglblbjghamaa
