/-
  wavestorelaw52.TemporalDual returns true.
-/
import Derived.Test.YtkbiefklilelmaaPair
namespace Go.Proofs.Ytkbiefklilelmaa
open Go.RowKit Go.Joins

section
variable {w W W' : World} {A B : Option Addr} {c d : Nat} {xs zs : List Iv}
theorem src_alloc (o : Obj) (h : W.cell? ⟨w.heap.size, 0, none⟩ = some (.slice A xs.length c) ∧ W.cell? ⟨w.heap.size, 1, none⟩ = some (.slice B zs.length d) ∧ SrcAt w A c xs B d zs W) :
    (W.alloc o).cell? ⟨w.heap.size, 0, none⟩ = some (.slice A xs.length c) ∧ (W.alloc o).cell? ⟨w.heap.size, 1, none⟩ = some (.slice B zs.length d) ∧ SrcAt w A c xs B d zs (W.alloc o) := by
  have g := box_alloc (o' := o) h.2.2.1
  exact ⟨(box2 g).1, (box2 g).2, g, h.2.2.2.alloc h.2.2.2.size _⟩
theorem src_call (h : W.cell? ⟨w.heap.size, 0, none⟩ = some (.slice A xs.length c) ∧ W.cell? ⟨w.heap.size, 1, none⟩ = some (.slice B zs.length d) ∧ SrcAt w A c xs B d zs W) (b : Below W.heap.size W W') :
    W'.cell? ⟨w.heap.size, 0, none⟩ = some (.slice A xs.length c) ∧ W'.cell? ⟨w.heap.size, 1, none⟩ = some (.slice B zs.length d) ∧ SrcAt w A c xs B d zs W' := by
  have g := box_below b h.2.2.1
  exact ⟨(box2 g).1, (box2 g).2, g, bstep h.2.2.2 b⟩
theorem src_set {N : Nat} (u v : Value) (hN : w.heap.size < N) (h : W.cell? ⟨w.heap.size, 0, none⟩ = some (.slice A xs.length c) ∧ W.cell? ⟨w.heap.size, 1, none⟩ = some (.slice B zs.length d) ∧ SrcAt w A c xs B d zs W) :
    ((W.setCell ⟨N, 0, none⟩ u).setCell ⟨N, 1, none⟩ v).cell? ⟨w.heap.size, 0, none⟩ = some (.slice A xs.length c) ∧ ((W.setCell ⟨N, 0, none⟩ u).setCell ⟨N, 1, none⟩ v).cell? ⟨w.heap.size, 1, none⟩ = some (.slice B zs.length d) ∧ SrcAt w A c xs B d zs ((W.setCell ⟨N, 0, none⟩ u).setCell ⟨N, 1, none⟩ v) := by
  have g := set2_other (u := u) (v := v) h.2.2.1 (Nat.ne_of_lt hN)
  exact ⟨(box2 g).1, (box2 g).2, g, (h.2.2.2.setCell (by simp; omega) _).setCell (by simp; omega) _⟩
theorem src_drew (h : W.cell? ⟨w.heap.size, 0, none⟩ = some (.slice A xs.length c) ∧ W.cell? ⟨w.heap.size, 1, none⟩ = some (.slice B zs.length d) ∧ SrcAt w A c xs B d zs W) :
    W.drew.cell? ⟨w.heap.size, 0, none⟩ = some (.slice A xs.length c) ∧ W.drew.cell? ⟨w.heap.size, 1, none⟩ = some (.slice B zs.length d) ∧ SrcAt w A c xs B d zs W.drew := ⟨h.1, h.2.1, h.2.2.1, below_drew h.2.2.2⟩
theorem src_lt (h : W.cell? ⟨w.heap.size, 0, none⟩ = some (.slice A xs.length c) ∧ W.cell? ⟨w.heap.size, 1, none⟩ = some (.slice B zs.length d) ∧ SrcAt w A c xs B d zs W) : w.heap.size < W.heap.size := box_lt h.2.2.1
theorem some_src (hx : IvsAt w w.heap.size A xs) (hz : IvsAt w w.heap.size B zs) (lx : xs.length ≤ 24) (lz : zs.length ≤ 24) (a b lo hi : Int) (h : W.cell? ⟨w.heap.size, 0, none⟩ = some (.slice A xs.length c) ∧ W.cell? ⟨w.heap.size, 1, none⟩ = some (.slice B zs.length d) ∧ SrcAt w A c xs B d zs W) :
    Calls Try.prog 14 #[.agg #[.slice A xs.length c, .slice B zs.length d], .int .i64 a, .int .i64 b, .int .i64 lo, .int .i64 hi] W (RetTr W (someS (Mem xs) a b lo hi) (allS (Mem zs) a b lo hi)) :=
  some_any A B c d xs zs a b lo hi W ((hx.below h.2.2.2).more h.2.2.2.size) ((hz.below h.2.2.2).more h.2.2.2.size) (by omega) (by omega)
theorem all_src (hx : IvsAt w w.heap.size A xs) (hz : IvsAt w w.heap.size B zs) (lx : xs.length ≤ 24) (lz : zs.length ≤ 24) (a b lo hi : Int) (h : W.cell? ⟨w.heap.size, 0, none⟩ = some (.slice A xs.length c) ∧ W.cell? ⟨w.heap.size, 1, none⟩ = some (.slice B zs.length d) ∧ SrcAt w A c xs B d zs W) :
    Calls Try.prog 15 #[.agg #[.slice A xs.length c, .slice B zs.length d], .int .i64 a, .int .i64 b, .int .i64 lo, .int .i64 hi] W (RetTr W (allS (Mem xs) a b lo hi) (someS (Mem zs) a b lo hi)) :=
  all_any A B c d xs zs a b lo hi W ((hx.below h.2.2.2).more h.2.2.2.size) ((hz.below h.2.2.2).more h.2.2.2.size) (by omega) (by omega)
end

theorem heap_new' {V : World} {N : Nat} {o : Obj} (h : N = V.heap.size) : (V.alloc o).heap[N]? = some o := by subst h; exact heap_alloc_new V o
theorem pair_end2 {w W : World} {N1 N2 c d c' d' ca cb : Nat} {S T S' T' : Int → Prop} {A B A' B' Aa Ab : Option Addr} {xs zs xs' zs' xa xb : List Iv}
    (g1 : W.heap[N1]? = some (.cells #[.slice A xs.length c, .slice B zs.length d] 24 (0, 0))) (g2 : W.heap[N2]? = some (.cells #[.slice A' xs'.length c', .slice B' zs'.length d'] 24 (0, 0))) (h1 : w.heap.size ≤ N1) (h2 : w.heap.size ≤ N2)
    (o1 : OwnIv W 0 A c xs) (o2 : OwnIv W 0 B d zs) (o3 : OwnIv W 0 A' c' xs') (o4 : OwnIv W 0 B' d' zs') (n1 : Norm xs) (n2 : Norm zs) (n3 : Norm xs') (n4 : Norm zs')
    (m1 : Hid (∀ t, Mem xs t ↔ S t)) (m2 : Hid (∀ t, Mem zs t ↔ T t)) (m3 : Hid (∀ t, Mem xs' t ↔ S' t)) (m4 : Hid (∀ t, Mem zs' t ↔ T' t))
    (s : W.cell? ⟨w.heap.size, 0, none⟩ = some (.slice Aa xa.length ca) ∧ W.cell? ⟨w.heap.size, 1, none⟩ = some (.slice Ab xb.length cb) ∧ SrcAt w Aa ca xa Ab cb xb W) :
    PairEnd w W (.pointer (some ⟨N1, 0, none⟩)) (.pointer (some ⟨N2, 0, none⟩)) S T S' T' ∧ SrcAt w Aa ca xa Ab cb xb W :=
  ⟨⟨N1, N2, A, c, xs, B, d, zs, A', c', xs', B', d', zs', rfl, rfl, ⟨g1, o1, o2, n1, n2, m1.out, m2.out⟩, ⟨g2, o3, o4, n3, n4, m3.out, m4.out⟩, s.2.2.2, h1, h2⟩, s.2.2⟩

theorem keep2 {W v : World} {N M : Nat} {a b a' b' : Value} {t t' : TypeId} (g : W.heap[N]? = some (.cells #[a, b] t (0, 0))) (g' : W.heap[M]? = some (.cells #[a', b'] t' (0, 0))) (h : Below W.heap.size W v) :
    v.cell? ⟨N, 0, none⟩ = some a ∧ v.cell? ⟨N, 1, none⟩ = some b ∧ v.cell? ⟨M, 0, none⟩ = some a' ∧ v.cell? ⟨M, 1, none⟩ = some b' ∧ Below W.heap.size W v :=
  ⟨(box2 (box_below h g)).1, (box2 (box_below h g)).2, (box2 (box_below h g')).1, (box2 (box_below h g')).2, h⟩
theorem norm_empty {ys : List Iv} (h : Norm ys) (hm : ∀ t, ¬ Mem ys t) : ys = [] := norm_ext h Norm.nil fun t => ⟨fun h => absurd h (hm t), fun h => absurd h (mem_nil t)⟩

set_option maxRecDepth 100000 in
set_option maxHeartbeats 8000000 in
theorem tdual_walk (A B : Option Addr) (c d : Nat) (xs zs : List Iv) (a b lo hi : Int) (w : World) (hx : IvsAt w w.heap.size A xs) (hz : IvsAt w w.heap.size B zs) (_ : I64 a) (_ : I64 b) (_ : I64 lo) (_ : I64 hi) :
    Calls Try.prog 5 #[.agg #[.slice A xs.length c, .slice B zs.length d], .int .i64 a, .int .i64 b, .int .i64 lo, .int .i64 hi] w fun e w' => e = .returned (.bool true) ∧ Below w.heap.size w w' := by
  have hbb : Below w.heap.size w (w.alloc (.cells #[.slice A xs.length c, .slice B zs.length d] 24)) := (Below.refl _ _).alloc (Nat.le_refl _) _
  cases hf : fewT xs.length zs.length
  · go_enter Try.func5, Try.ntmps5
    go_wp2_with (first | (go_at_call 12; refine (tfew_any _ _ _ _ _ _ _).mono ?_; rintro e w1 ⟨rfl, b1⟩) | (go_at_call 13; refine (tawake_any _).mono ?_; rintro e w2 ⟨rfl, b2⟩))
    go_ret
    exact ⟨rfl, bstep (bstep hbb b1) b2⟩
  · have hfew := fewT_iff.1 hf
    obtain ⟨lx, lz⟩ := hfew
    go_enter Try.func5, Try.ntmps5
    go_upto_region 3 with (go_at_call 12; refine (tfew_any _ _ _ _ _ _ _).mono ?_; rintro e w1 ⟨rfl, b1⟩; have gx := below_box b1 (box_lt (heap_alloc_new w _)) (heap_alloc_new w _); have hb := bstep hbb b1)
    clear b1
    go_cut [11, 12] (fun v1 v2 wx => PairEnd w wx v1 v2 (someS (Mem xs) a b lo hi) (allS (Mem zs) a b lo hi) (allS (Mem xs) a b lo hi) (someS (Mem zs) a b lo hi) ∧ SrcAt w A c xs B d zs wx)
    case first =>
      have hS0 : w1.drew.cell? ⟨w.heap.size, 0, none⟩ = some (.slice A xs.length c) ∧ w1.drew.cell? ⟨w.heap.size, 1, none⟩ = some (.slice B zs.length d) ∧ SrcAt w A c xs B d zs w1.drew := ⟨(box2 gx).1, (box2 gx).2, gx, below_drew hb⟩
      have hS1 : w1.cell? ⟨w.heap.size, 0, none⟩ = some (.slice A xs.length c) ∧ w1.cell? ⟨w.heap.size, 1, none⟩ = some (.slice B zs.length d) ∧ SrcAt w A c xs B d zs w1 := ⟨(box2 gx).1, (box2 gx).2, gx, hb⟩
      have lt0 : w.heap.size < w1.heap.size := box_lt gx
      clear gx hb
      go_region_held3 (fun wx => wx.cell? ⟨w.heap.size, 0, none⟩ = some (.slice A xs.length c) ∧ wx.cell? ⟨w.heap.size, 1, none⟩ = some (.slice B zs.length d) ∧ SrcAt w A c xs B d zs wx)
        (repeat' (first | (with_reducible assumption) | (with_reducible refine src_alloc _ ?_) | (with_reducible refine src_drew ?_) | ((with_reducible refine src_set _ _ ?_ ?_); omega)))
        (first
          | (go_at_call 14; refine (some_src hx hz lx lz a b lo hi (by assumption)).mono ?_; rintro e w2 ⟨A2, c2, x2, B2, d2, z2, rfl, ox2, oz2, b2, nx2, nz2, mx2, mz2⟩; have MX2 := hide mx2; have MZ2 := hide mz2; clear mx2 mz2; replace ox2 := own_zero ox2; replace oz2 := own_zero oz2; have S2 := src_call (by assumption) b2; (try have k1 := box_below b2 (heap_alloc_new _ _)); (try simp only [World.size_alloc] at k1); (try have k2 := box_below b2 (box_alloc (heap_alloc_new _ _))); (try (have k1l := box_lt k1; have k1n := Nat.ne_of_lt k1l; have k1m := Nat.ne_of_gt k1l; obtain ⟨k1a, k1b⟩ := box2 k1; obtain ⟨k1c, k1d⟩ := box2_frozen k1)); (try (have k2l := box_lt k2; have k2n := Nat.ne_of_lt k2l; have k2m := Nat.ne_of_gt k2l; obtain ⟨k2a, k2b⟩ := box2 k2; obtain ⟨k2c, k2d⟩ := box2_frozen k2)); have hs2 := b2.size; (try simp at hs2))
          | (go_at_call 15; refine (all_src hx hz lx lz a b lo hi (by assumption)).mono ?_; rintro e w3 ⟨A3, c3, x3, B3, d3, z3, rfl, ox3, oz3, b3, nx3, nz3, mx3, mz3⟩; have MX3 := hide mx3; have MZ3 := hide mz3; clear mx3 mz3; replace ox3 := own_zero ox3; replace oz3 := own_zero oz3; have S3 := src_call (by assumption) b3; (try have k3 := box_below b3 (heap_alloc_new _ _)); (try simp only [World.size_alloc] at k3); (try have k4 := box_below b3 (box_alloc (heap_alloc_new _ _))); (try have k5 := box_below b3 k1); (try have k5 := box_below b3 (box_alloc k1)); (try have k6 := box_below b3 k2); (try (have k3l := box_lt k3; have k3n := Nat.ne_of_lt k3l; have k3m := Nat.ne_of_gt k3l; obtain ⟨k3a, k3b⟩ := box2 k3; obtain ⟨k3c, k3d⟩ := box2_frozen k3)); (try (have k4l := box_lt k4; have k4n := Nat.ne_of_lt k4l; have k4m := Nat.ne_of_gt k4l; obtain ⟨k4a, k4b⟩ := box2 k4; obtain ⟨k4c, k4d⟩ := box2_frozen k4)); (try (have k5l := box_lt k5; have k5n := Nat.ne_of_lt k5l; have k5m := Nat.ne_of_gt k5l; obtain ⟨k5a, k5b⟩ := box2 k5; obtain ⟨k5c, k5d⟩ := box2_frozen k5)); (try (have k6l := box_lt k6; have k6n := Nat.ne_of_lt k6l; have k6m := Nat.ne_of_gt k6l; obtain ⟨k6a, k6b⟩ := box2 k6; obtain ⟨k6c, k6d⟩ := box2_frozen k6)); have hs3 := b3.size; (try simp at hs3)))
      all_goals (go_wp2_with fail; go_meet)
      all_goals
        refine pair_end2 (A := A2) (B := B2) (A' := A3) (B' := B3) (xs := x2) (zs := z2) (xs' := x3) (zs' := z3) (c := c2) (d := d2) (c' := c3) (d' := d3) ?_ ?_ (by omega) (by omega) ?_ ?_ ?_ ?_ nx2 nz2 nx3 nz3 MX2 MZ2 MX3 MZ3 ?_
        all_goals repeat' (first | (with_reducible assumption) | ((with_reducible refine heap_new' ?_); (simp; done)) | (with_reducible exact box2_set (by with_reducible assumption)) | (with_reducible exact box2_set (box_alloc (by with_reducible assumption))) | (with_reducible exact box2_set (set2_other (by with_reducible assumption) (by omega))) | (with_reducible exact box2_set (set2_other (box_alloc (by with_reducible assumption)) (by omega))) | (with_reducible refine box_alloc ?_) | (with_reducible refine set2_other ?_ (by omega)) | (with_reducible refine OwnIv.alloc ?_ _) | (with_reducible refine own_below (by with_reducible assumption) ?_) | (with_reducible refine set2_own (by with_reducible assumption) ?_) | (with_reducible refine set2_own (box_alloc (by with_reducible assumption)) ?_) | (with_reducible refine set2_own (set2_other (by with_reducible assumption) (by omega)) ?_) | (with_reducible refine src_alloc _ ?_) | (with_reducible refine src_set _ _ (by omega) ?_))
        all_goals trace_state
    case rest =>
      obtain ⟨⟨N1, N2, A2, c2, x2, B2, d2, z2, A3, c3, x3, B3, d3, z3, rfl, rfl, t1, t2, _, hN1, hN2⟩, hsrc⟩ := hcut
      obtain ⟨gx', hb'⟩ := hsrc
      have T1 := hide t1
      have T2 := hide t2
      have g2 := t2.box
      have g1 := t1.box
      clear t1 t2 gx hb hbb
      have l1 := norm_len T1.out.nx
      have l2 := norm_len T1.out.nz
      have l3 := norm_len T2.out.nx
      have l4 := norm_len T2.out.nz
      have hx' := (hx.below hb').more hb'.size
      have hz' := (hz.below hb').more hb'.size
      clear hx hz
      have hxd : IvsAt wc.drew wc.drew.heap.size A xs := hx'
      have hzd : IvsAt wc.drew wc.drew.heap.size B zs := hz'
      have kS := keep2 (v := wc.drew) gx' g2 (below_drew (Below.refl _ _))
      go_wp2_with fail
      go_region_held3 (fun wx => wx.cell? ⟨w.heap.size, 0, none⟩ = some (.slice A xs.length c) ∧ wx.cell? ⟨w.heap.size, 1, none⟩ = some (.slice B zs.length d) ∧ wx.cell? ⟨N2, 0, none⟩ = some (.slice A3 x3.length c3) ∧ wx.cell? ⟨N2, 1, none⟩ = some (.slice B3 z3.length d3) ∧ Below wc.heap.size wc wx)
        (first | (with_reducible assumption) | exact keep2 gx' g2 (below_drew (Below.refl _ _)))
        (first
          | (go_at_call_of 19 xs; refine (tnot_any A B c d xs zs wc.drew hxd hzd (by omega) (by omega)).mono ?_; rintro e w4 ⟨A4, c4, x4, B4, d4, z4, rfl, ox4, oz4, b4, nx4, nz4, mx4, mz4⟩; have MX4 := hide mx4; have MZ4 := hide mz4; clear mx4 mz4; have n4 := norm_len nx4; have m4 := norm_len nz4; have h4 := bstep (w0 := wc) (w := wc.drew) (below_drew (Below.refl _ _)) b4; have s4 := keep2 gx' g2 h4)
          | (go_at_call_of 14 x4; refine (some_any A4 B4 c4 d4 x4 z4 a b lo hi w4 ox4.ats oz4.ats (by omega) (by omega)).mono ?_; rintro e w5 ⟨A5, c5, x5, B5, d5, z5, rfl, ox5, oz5, b5, nx5, nz5, mx5, mz5⟩; have MX5 := hide mx5; have MZ5 := hide mz5; clear mx5 mz5; have n5 := norm_len nx5; have m5 := norm_len nz5; have h5 := bstep h4 b5; have s5 := keep2 gx' g2 h5)
          | (go_at_call_of 19 x5; refine (tnot_any A5 B5 c5 d5 x5 z5 w5 ox5.ats oz5.ats (by omega) (by omega)).mono ?_; rintro e w6 ⟨A6, c6, x6, B6, d6, z6, rfl, ox6, oz6, b6, nx6, nz6, mx6, mz6⟩; have MX6 := hide mx6; have MZ6 := hide mz6; clear mx6 mz6; have h6 := bstep h5 b6; have s6 := keep2 gx' g2 h6)
          | (go_at_call_of 17 x3; refine (tsame_true A3 B3 A6 B6 c3 d3 c6 d6 x3 z3 x6 z6 w6 (T2.out.step h6).ox.ats (T2.out.step h6).oz.ats ox6.ats oz6.ats T2.out.nx T2.out.nz nx6 nz6 ?_ ?_).mono ?_; intro t; rw [T2.out.mx, MX6.out, MZ5.out, allS_congr MZ4.out]; intro t; rw [T2.out.mz, MZ6.out, MX5.out, someS_congr MX4.out]; rintro e w7 ⟨rfl, b7⟩; have h7 := bstep h6 b7; have s7 := keep2 gx' g2 h7))
      clear s4 s5 s6 kS MX4 MZ4 MX5 MZ5 MX6 MZ6 ox4 oz4 ox5 oz5 ox6 oz6 nx4 nz4 nx5 nz5 nx6 nz6
      obtain ⟨q1, q2, q3, q4, _⟩ := s7
      have hx7 := hx'.step h7
      have hz7 := hz'.step h7
      go_wp2_with fail
      refine (intersect_any A B c d xs zs _ hx7 hz7 (by omega) (by omega)).mono ?_
      rintro e8 w8 ⟨A8, c8, y8, rfl, o8, b8, n8, m8⟩
      have M8 := hide m8
      clear m8 o8
      have l8 := norm_len n8
      have h8 := bstep h7 b8
      by_cases h0 : y8.length = 0
      · have hdis : ∀ t, ¬ (Mem xs t ∧ Mem zs t) := fun t h => by
          have := (M8.out t).2 h
          rw [List.eq_nil_of_length_eq_zero h0] at this
          exact mem_nil t this
        have HDIS := hide hdis
        obtain rfl : y8 = [] := List.eq_nil_of_length_eq_zero h0
        clear hdis h0 l8 n8 M8
        have r1 := T1.out.step h8
        obtain ⟨p1, p2⟩ := box2 r1.box
        have v1 := r1.ox.ats
        have v2 := r1.oz.ats
        clear r1
        go_wp2_with fail
        refine (intersect_any A2 B2 c2 d2 x2 z2 _ v1 v2 (by omega) (by omega)).mono ?_
        rintro e9 w9 ⟨A9, c9, y9, rfl, o9, b9, n9, m9⟩
        obtain rfl : y9 = [] := norm_empty n9 fun t ht => by
          have : Mem x2 t ∧ Mem z2 t := (m9 t).1 ht
          rw [T1.out.mx, T1.out.mz] at this
          exact some_all_apart HDIS.out a b lo hi t this
        clear n9 m9 o9
        have h9 := bstep h8 b9
        have r2 := T2.out.step h9
        obtain ⟨p3, p4⟩ := box2 r2.box
        have v3 := r2.ox.ats
        have v4 := r2.oz.ats
        clear r2
        go_wp2_with fail
        refine (intersect_any A3 B3 c3 d3 x3 z3 _ v3 v4 (by omega) (by omega)).mono ?_
        rintro e10 w10 ⟨A10, c10, y10, rfl, o10, b10, n10, m10⟩
        obtain rfl : y10 = [] := norm_empty n10 fun t ht => by
          have : Mem x3 t ∧ Mem z3 t := (m10 t).1 ht
          rw [T2.out.mx, T2.out.mz] at this
          exact some_all_apart (fun t h => HDIS.out t ⟨h.2, h.1⟩) a b lo hi t ⟨this.2, this.1⟩
        clear n10 m10 o10
        have h10 := bstep h9 b10
        go_wp2_with fail
        refine (tawake_any _).mono ?_
        rintro e11 w11 ⟨rfl, b11⟩
        go_wp2_with fail
        go_ret
        exact ⟨rfl, bstep hb' (bstep h10 b11)⟩
      · have hne : ((y8.length : Int) == 0) = false := beq_false_of_ne (by omega)
        go_wp2_with fail
        refine (tawake_any _).mono ?_
        rintro e11 w11 ⟨rfl, b11⟩
        go_wp2_with fail
        go_ret
        exact ⟨rfl, bstep hb' (bstep h8 b11)⟩

end Go.Proofs.Ytkbiefklilelmaa
