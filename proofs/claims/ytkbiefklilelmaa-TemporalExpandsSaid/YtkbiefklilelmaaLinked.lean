/-
  temporal.linked, Until and Since.
-/
import Derived.Test.YtkbiefklilelmaaChainW
import Derived.Test.YtkbiefklilelmaaPair
namespace Go.Proofs.Ytkbiefklilelmaa
open Go.RowKit Go.Joins

theorem chain_any (A B : Option Addr) (c d : Nat) (xs ys : List Iv) (a b lo hi : Int) (back : Bool) (w : World) (hx : IvsAt w w.heap.size A xs) (hy : IvsAt w w.heap.size B ys) (nx : Norm xs) (ny : Norm ys) (h0 : 0 ≤ a) (h1 : a ≤ b) (h2 : b ≤ 1099511627776) :
    Calls Try.prog 71 #[.slice A xs.length c, .slice B ys.length d, .int .i64 a, .int .i64 b, .int .i64 lo, .int .i64 hi, .bool back] w (RetIvs w (chainS (Mem xs) (Mem ys) a b lo hi back)) := by
  cases back
  · exact chain_false A B c d xs ys a b lo hi w hx hy nx ny h0 h1 h2
  · exact chain_true A B c d xs ys a b lo hi w hx hy nx ny h0 h1 h2

/-- three boxes at the head of a call: the two conditions, and the result's -/
structure Three (w W : World) (a b a' b' : Value) : Prop where
  hb : Below w.heap.size w W
  hz : w.heap.size + 3 ≤ W.heap.size
  g0 : W.heap[w.heap.size]? = some (.cells #[a, b] 24 (0, 0))
  g1 : W.heap[w.heap.size + 1]? = some (.cells #[a', b'] 24 (0, 0))
  g2 : W.heap[w.heap.size + 2]? = some (.cells #[.slice none 0 0, .slice none 0 0] 24 (0, 0))

section
variable {w W W' : World} {a b a' b' : Value}
theorem Three.start (h : (((w.alloc (.cells #[a, b] 24)).alloc (.cells #[a', b'] 24)).alloc (.cells #[.slice none 0 0, .slice none 0 0] 24)) = W) : Three w W a b a' b' := by
  subst h
  obtain ⟨h1, h2, h3, h4⟩ := two_boxes (w := w) (a := a) (b := b) (a' := a') (b' := b') (t := 24) (t' := 24) rfl
  refine ⟨h1.alloc h1.size _, by simp, box_alloc h3, box_alloc h4, ?_⟩
  have := heap_alloc_new ((w.alloc (.cells #[a, b] 24)).alloc (.cells #[a', b'] 24)) (.cells #[.slice none 0 0, .slice none 0 0] 24)
  rw [h2] at this
  exact this
theorem Three.step (h : Three w W a b a' b') (b1 : Below W.heap.size W W') : Three w W' a b a' b' :=
  ⟨bstep h.hb b1, Nat.le_trans h.hz b1.size, box_below b1 h.g0, box_below b1 h.g1, box_below b1 h.g2⟩
theorem Three.drew (h : Three w W a b a' b') : Three w W.drew a b a' b' := ⟨below_drew h.hb, h.hz, h.g0, h.g1, h.g2⟩
theorem Three.c0 (h : Three w W a b a' b') : W.cell? ⟨w.heap.size, 0, none⟩ = some a ∧ W.cell? ⟨w.heap.size, 1, none⟩ = some b := box2 h.g0
theorem Three.c1 (h : Three w W a b a' b') : W.cell? ⟨w.heap.size + 1, 0, none⟩ = some a' ∧ W.cell? ⟨w.heap.size + 1, 1, none⟩ = some b' := box2 h.g1
theorem Three.all (h : Three w W a b a' b') : W.cell? ⟨w.heap.size, 0, none⟩ = some a ∧ W.cell? ⟨w.heap.size, 1, none⟩ = some b ∧ W.cell? ⟨w.heap.size + 1, 0, none⟩ = some a' ∧ W.cell? ⟨w.heap.size + 1, 1, none⟩ = some b' ∧ Three w W a b a' b' := ⟨h.c0.1, h.c0.2, h.c1.1, h.c1.2, h⟩
theorem Three.set0 (h : Three w W a b a' b') (u v : Value) : Three w ((W.setCell ⟨w.heap.size, 0, none⟩ u).setCell ⟨w.heap.size, 1, none⟩ v) u v a' b' :=
  ⟨(h.hb.setCell (by simp) _).setCell (by simp) _, by simpa using h.hz, box2_set h.g0, set2_other h.g1 (by omega), set2_other h.g2 (by omega)⟩
theorem Three.set1 (h : Three w W a b a' b') (u v : Value) : Three w ((W.setCell ⟨w.heap.size + 1, 0, none⟩ u).setCell ⟨w.heap.size + 1, 1, none⟩ v) a b u v :=
  ⟨(h.hb.setCell (by simp) _).setCell (by simp) _, by simpa using h.hz, set2_other h.g0 (by omega), box2_set h.g1, set2_other h.g2 (by omega)⟩
end

theorem linked_end {w W W3 : World} {a b a' b' : Value} {A1 A2 : Option Addr} {c1 c2 : Nat} {y1 y2 : List Iv} (h : Three w W a b a' b') (o1 : OwnIv W w.heap.size A1 c1 y1) (o2 : OwnIv W w.heap.size A2 c2 y2)
    (hW : (W.setCell ⟨w.heap.size + 2, 0, none⟩ (.slice A1 y1.length c1)).setCell ⟨w.heap.size + 2, 1, none⟩ (.slice A2 y2.length c2) = W3) :
    W3.cell? ⟨w.heap.size + 2, 0, none⟩ = some (.slice A1 y1.length c1) ∧ W3.cell? ⟨w.heap.size + 2, 1, none⟩ = some (.slice A2 y2.length c2) ∧ Below w.heap.size w W3 ∧ OwnIv W3 w.heap.size A1 c1 y1 ∧ OwnIv W3 w.heap.size A2 c2 y2 := by
  subst hW
  have hb := box2_set (u := .slice A1 y1.length c1) (v := .slice A2 y2.length c2) h.g2
  exact ⟨(box2 hb).1, (box2 hb).2, (h.hb.setCell (by simp) _).setCell (by simp) _, set2_own h.g2 o1, set2_own h.g2 o2⟩

def LinkMid (w : World) (S T S' T' : Int → Prop) (W : World) : Prop :=
  ∃ A c xs B d zs A' c' xs' B' d' zs', Three w W (.slice A (xs : List Iv).length c) (.slice B (zs : List Iv).length d) (.slice A' (xs' : List Iv).length c') (.slice B' (zs' : List Iv).length d') ∧ OwnIv W w.heap.size A c xs ∧ OwnIv W w.heap.size B d zs ∧ OwnIv W w.heap.size A' c' xs' ∧ OwnIv W w.heap.size B' d' zs' ∧
    Norm xs ∧ Norm zs ∧ Norm xs' ∧ Norm zs' ∧ (∀ t, Mem xs t ↔ S t) ∧ (∀ t, Mem zs t ↔ T t) ∧ (∀ t, Mem xs' t ↔ S' t) ∧ ∀ t, Mem zs' t ↔ T' t

theorem link_mid {w W : World} {a b a' b' : Value} {S T S' T' : Int → Prop} {A B A' B' : Option Addr} {c d c' d' : Nat} {xs zs xs' zs' : List Iv} (h : Three w W a b a' b') (o1 : OwnIv W w.heap.size A c xs) (o2 : OwnIv W w.heap.size B d zs) (o3 : OwnIv W w.heap.size A' c' xs') (o4 : OwnIv W w.heap.size B' d' zs')
    (n1 : Norm xs) (n2 : Norm zs) (n3 : Norm xs') (n4 : Norm zs') (m1 : Hid (∀ t, Mem xs t ↔ S t)) (m2 : Hid (∀ t, Mem zs t ↔ T t)) (m3 : Hid (∀ t, Mem xs' t ↔ S' t)) (m4 : Hid (∀ t, Mem zs' t ↔ T' t)) :
    LinkMid w S T S' T' ((((W.setCell ⟨w.heap.size, 0, none⟩ (.slice A xs.length c)).setCell ⟨w.heap.size, 1, none⟩ (.slice B zs.length d)).setCell ⟨w.heap.size + 1, 0, none⟩ (.slice A' xs'.length c')).setCell ⟨w.heap.size + 1, 1, none⟩ (.slice B' zs'.length d')) := by
  have t1 := h.set0 (.slice A xs.length c) (.slice B zs.length d)
  have t2 := t1.set1 (.slice A' xs'.length c') (.slice B' zs'.length d')
  exact ⟨A, c, xs, B, d, zs, A', c', xs', B', d', zs', t2, set2_own t1.g1 (set2_own h.g0 o1), set2_own t1.g1 (set2_own h.g0 o2), set2_own t1.g1 (set2_own h.g0 o3), set2_own t1.g1 (set2_own h.g0 o4), n1, n2, n3, n4, m1.out, m2.out, m3.out, m4.out⟩

set_option maxRecDepth 100000 in
set_option maxHeartbeats 8000000 in
theorem linked_any (A B A' B' : Option Addr) (c d c' d' : Nat) (xs zs xs' zs' : List Iv) (a b lo hi : Int) (back : Bool) (w : World) (hx : IvsAt w w.heap.size A xs) (hz : IvsAt w w.heap.size B zs) (hx' : IvsAt w w.heap.size A' xs') (hz' : IvsAt w w.heap.size B' zs')
    (lx : xs.length ≤ 4398046511104) (lz : zs.length ≤ 4398046511104) (lx' : xs'.length ≤ 4398046511104) (lz' : zs'.length ≤ 4398046511104) :
    Calls Try.prog 48 #[.agg #[.slice A xs.length c, .slice B zs.length d], .agg #[.slice A' xs'.length c', .slice B' zs'.length d'], .int .i64 a, .int .i64 b, .int .i64 lo, .int .i64 hi, .bool back] w (RetTr w (linkS (Mem xs) (Mem xs') a b lo hi back) (unlinkS (Mem zs) (Mem zs') a b lo hi back)) := by
  go_enter Try.func48, Try.ntmps48
  go_wp2_with fail
  refine (allowed_any 0 a b lo hi _).mono ?_
  rintro e w' ⟨rfl, rfl⟩
  cases hd : alwB 0 a b lo hi
  · have HD := hide hd
    clear hd
    go_wp2_with fail
    exact bodyPost_ret (v := .agg #[.slice none 0 0, .slice none 0 0]) (by simp [results, Try.results48, go_sem]) rfl ⟨none, 0, [], none, 0, [], rfl, OwnIv.nil _ _, OwnIv.nil _ _, (((Below.refl _ _).alloc (Nat.le_refl _) _).alloc (by simp) _).alloc (by simp; omega) _, Norm.nil, Norm.nil, fun t => by simp [mem_nil, linkS, HD.out], fun t => by simp [mem_nil, unlinkS, HD.out]⟩
  · have HD := hide hd
    obtain ⟨e1, e2, e3, e4, e5, e6⟩ := alwB_iff.1 hd
    clear hd
    go_wp2_with fail
    obtain ⟨W0, hW0⟩ : ∃ W0 : World, (((w.alloc (.cells #[.slice A xs.length c, .slice B zs.length d] 24)).alloc (.cells #[.slice A' xs'.length c', .slice B' zs'.length d'] 24)).alloc (.cells #[.slice none 0 0, .slice none 0 0] 24)) = W0 := ⟨_, rfl⟩
    have t0 := (Three.start hW0)
    rw [hW0]
    clear hW0
    have T0 := hide t0
    obtain ⟨i1, i2, i3, i4, _⟩ := t0.all
    clear t0
    have hxW : IvsAt W0.drew W0.drew.heap.size A xs := (hx.below T0.out.hb).more T0.out.hb.size
    have hzW : IvsAt W0.drew W0.drew.heap.size B zs := (hz.below T0.out.hb).more T0.out.hb.size
    go_cut [28] (fun _ wx => LinkMid w (clipS (Mem xs) lo hi) (clipS (Mem zs) lo hi) (clipS (Mem xs') lo hi) (clipS (Mem zs') lo hi) wx)
    case first =>
      go_region_with (first
        | (go_at_call_of 41 xs; refine (tclip_any A B c d xs zs lo hi W0.drew hxW hzW lx lz).mono ?_; rintro e w1 ⟨A1, c1, x1, B1, d1, z1, rfl, ox1, oz1, b1, nx1, nz1, mx1, mz1⟩; have MX1 := hide mx1; have MZ1 := hide mz1; clear mx1 mz1; have b1' := bstep (w0 := W0) (w := W0.drew) (below_drew (Below.refl _ _)) b1; have t1 := T0.out.step b1'; obtain ⟨j1, j2, j3, j4, _⟩ := t1.all; have T1 := hide t1; clear t1)
        | (go_at_call_of 41 xs'; refine (tclip_any A' B' c' d' xs' zs' lo hi w1 ((hx'.below T1.out.hb).more T1.out.hb.size) ((hz'.below T1.out.hb).more T1.out.hb.size) lx' lz').mono ?_; rintro e w2 ⟨A2, c2, x2, B2, d2, z2, rfl, ox2, oz2, b2, nx2, nz2, mx2, mz2⟩; have MX2 := hide mx2; have MZ2 := hide mz2; clear mx2 mz2; have t2 := T1.out.step b2; obtain ⟨m1, m2, m3, m4, _⟩ := t2.all; obtain ⟨f1, f2⟩ := box2_frozen t2.g0; obtain ⟨f3, f4⟩ := box2_frozen t2.g1; have T2 := hide t2; clear t2))
      all_goals (go_wp2_with fail; go_meet)
      all_goals exact link_mid T2.out (own_below b2 (ox1.lower T0.out.hb.size)) (own_below b2 (oz1.lower T0.out.hb.size)) (ox2.lower T1.out.hb.size) (oz2.lower T1.out.hb.size) nx1 nz1 nx2 nz2 MX1 MZ1 MX2 MZ2
    case rest =>
      obtain ⟨A1, c1, x1, B1, d1, z1, A2, c2, x2, B2, d2, z2, t3, ox1, oz1, ox2, oz2, nx1, nz1, nx2, nz2, mx1, mz1, mx2, mz2⟩ := hcut
      have MX1 := hide mx1
      have MZ1 := hide mz1
      have MX2 := hide mx2
      have MZ2 := hide mz2
      clear mx1 mz1 mx2 mz2 i1 i2 i3 i4 T0 hxW hzW hx hz hx' hz' lx lz lx' lz'
      have lz1 := norm_len nz1
      have lz2 := norm_len nz2
      have kS := (t3.drew).all
      have T3 := hide t3
      clear t3
      go_wp2_with fail
      go_region_held3 (fun wx => wx.cell? ⟨w.heap.size, 0, none⟩ = some (.slice A1 x1.length c1) ∧ wx.cell? ⟨w.heap.size, 1, none⟩ = some (.slice B1 z1.length d1) ∧ wx.cell? ⟨w.heap.size + 1, 0, none⟩ = some (.slice A2 x2.length c2) ∧ wx.cell? ⟨w.heap.size + 1, 1, none⟩ = some (.slice B2 z2.length d2) ∧ Three w wx (.slice A1 x1.length c1) (.slice B1 z1.length d1) (.slice A2 x2.length c2) (.slice B2 z2.length d2))
        (first | (with_reducible assumption) | exact kS)
        (first
          | (go_at_call_of 68 z1; refine (complement_any B1 d1 z1 lo hi wc.drew oz1.ats (by omega)).mono ?_; rintro e w1 ⟨A3, c3, y3, rfl, r3, b3, n3, m3⟩; have M3 := hide m3; clear m3; have b3' := bstep (w0 := wc) (w := wc.drew) (below_drew (Below.refl _ _)) b3; have k3 := (T3.out.step b3').all)
          | (go_at_call_of 68 z2; refine (complement_any B2 d2 z2 lo hi w1 (oz2.ats.step b3') (by omega)).mono ?_; rintro e w2 ⟨A4, c4, y4, rfl, r4, b4, n4, m4⟩; have M4 := hide m4; clear m4; have b4' := bstep b3' b4; have k4 := (T3.out.step b4').all))
      obtain ⟨_, _, _, _, t4⟩ := k4
      have T4 := hide t4
      clear t4 k3 kS T3
      go_wp2_with fail
      refine (chain_any A3 A4 c3 c4 y3 y4 a b lo hi back w2 (r3.ats.step b4) r4.ats n3 n4 e1 e2 e3).mono ?_
      rintro e w3 ⟨A5, c5, y5, rfl, r5, b5, n5, m5⟩
      have M5 := hide m5
      clear m5
      have b5' := bstep b4' b5
      have t5 := T4.out.step b5
      obtain ⟨i1, i2, i3, i4, _⟩ := t5.all
      have T5 := hide t5
      clear t5
      go_wp2_with fail
      refine (chain_any A1 A2 c1 c2 x1 x2 a b lo hi back w3 (ox1.ats.step b5') (ox2.ats.step b5') nx1 nx2 e1 e2 e3).mono ?_
      rintro e w4 ⟨A6, c6, y6, rfl, r6, b6, n6, m6⟩
      have M6 := hide m6
      clear m6
      have l5 := norm_len n5
      clear i1 i2 i3 i4
      go_wp2_with fail
      refine (complement_any A5 c5 y5 lo hi w4 (r5.ats.step b6) (by omega)).mono ?_
      rintro e w5 ⟨A7, c7, y7, rfl, r7, b7, n7, m7⟩
      have M7 := hide m7
      clear m7
      have t7 := (T5.out.step b6).step b7
      obtain ⟨i5, i6⟩ := box2 t7.g2
      obtain ⟨i7, i8⟩ := box2_frozen t7.g2
      have T7 := hide t7
      clear t7
      have hs3 := T5.out.hb.size
      have hs4 := (T5.out.step b6).hb.size
      go_wp2_with fail
      obtain ⟨W3, hW3⟩ : ∃ W3 : World, (w5.setCell ⟨w.heap.size + 2, 0, none⟩ (.slice A6 y6.length c6)).setCell ⟨w.heap.size + 2, 1, none⟩ (.slice A7 y7.length c7) = W3 := ⟨_, rfl⟩
      obtain ⟨f1, f2, hb3, q1, q2⟩ := linked_end T7.out (own_below b7 (r6.lower hs3)) (r7.lower hs4) hW3
      rw [hW3]
      clear hW3
      exact bodyPost_ret (v := .agg #[.slice A6 y6.length c6, .slice A7 y7.length c7]) (by simp [results, Try.results48, go_sem, f1, f2]) rfl ⟨A6, c6, y6, A7, c7, y7, rfl, q1, q2, hb3, n6, n7, fun t => by rw [M6.out, chainS_congr MX1.out MX2.out, link_true HD.out],
        fun t => by
          have hc : ∀ t, Mem y5 t ↔ chainS (complS (clipS (Mem zs) lo hi) lo hi) (complS (clipS (Mem zs') lo hi) lo hi) a b lo hi back t := fun t => by
            rw [M5.out]
            exact chainS_congr (fun t => (M3.out t).trans (complS_congr MZ1.out lo hi t)) (fun t => (M4.out t).trans (complS_congr MZ2.out lo hi t)) a b lo hi back t
          exact ((M7.out t).trans (complS_congr hc lo hi t)).trans (link_false HD.out t)⟩

end Go.Proofs.Ytkbiefklilelmaa
