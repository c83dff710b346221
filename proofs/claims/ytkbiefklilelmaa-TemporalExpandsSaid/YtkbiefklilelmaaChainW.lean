/-
  temporal.chain: its walk, forward and backward.
-/
import Derived.Test.YtkbiefklilelmaaChain
import Derived.IntWalk
namespace Go.Proofs.Ytkbiefklilelmaa
open Go.RowKit Go.Joins

theorem chain_end {w wr w1 : World} {xs ys ds : List Iv} {a b lo hi : Int} {back : Bool} {e : Ending} (nx : Norm xs) (h0 : 0 ≤ a) (h1 : a ≤ b) (h2 : b ≤ 1099511627776) (hm : ∀ t, Mem ds t ↔ chainM xs ys a b back xs.length t) (hb : Below w.heap.size w wr)
    (h : RetIvs wr (clipS (Mem ds) lo hi) e w1) : RetIvs w (chainS (Mem xs) (Mem ys) a b lo hi back) e w1 := by
  obtain ⟨A1, c1, y1, he, o1, b1, n1, m1⟩ := h
  refine ⟨A1, c1, y1, he, o1.lower hb.size, bstep hb b1, n1, fun t => ?_⟩
  rw [m1, ← chain_is nx h0 h1 h2]
  unfold clipS
  rw [hm]
  unfold chainM
  rw [List.take_length]
theorem far_cell {w w' : World} {A : Option Addr} {c N j : Nat} {ds : List Iv} {base : Nat} {v : Value} {wr : World} (hown : OwnIv wr base A c ds) (hN : wr.heap.size ≤ N) (hlt : N < w.heap.size) (hg : w.grownBy w' (Value.slice A ds.length c).ownBlock) (h : w.cell? ⟨N, j, none⟩ = some v) : w'.cell? ⟨N, j, none⟩ = some v := by
  rw [World.cell?_of_block (a := ⟨N, j, none⟩) (hg.block N hlt (fun e => ?_))]
  · exact h
  · have := (World.ownsRow.lt hown N e.symm).2
    omega

theorem ch_far {w W W' wr : World} {A : Option Addr} {c N : Nat} {ds : List Iv} {p p' : Value} {t : TypeId} (hown : OwnIv wr w.heap.size A c ds) (hN : wr.heap.size ≤ N) (hlt : N < W.heap.size) (hbs : w.heap.size ≤ W.heap.size) (hg : W.grownBy W' (Value.slice A ds.length c).ownBlock) (hr : ∀ k, (Value.slice A ds.length c).ownBlock = some k → w.heap.size ≤ k)
    (h : W.cell? ⟨N, 0, none⟩ = some p ∧ W.cell? ⟨N, 1, none⟩ = some p' ∧ W.heap[N]? = some (.cells #[p, p'] t (0, 0)) ∧ Below w.heap.size w W) :
    W'.cell? ⟨N, 0, none⟩ = some p ∧ W'.cell? ⟨N, 1, none⟩ = some p' ∧ W'.heap[N]? = some (.cells #[p, p'] t (0, 0)) ∧ Below w.heap.size w W' := by
  have hb : W'.heap[N]? = some (.cells #[p, p'] t (0, 0)) := (hg.block N hlt (fun e => by have := (World.ownsRow.lt hown N e.symm).2; omega)).trans h.2.2.1
  exact ⟨(box2 hb).1, (box2 hb).2, hb, h.2.2.2.grown hg hbs hr⟩

set_option maxRecDepth 100000 in
set_option maxHeartbeats 8000000 in
theorem chain_false (A B : Option Addr) (c d : Nat) (xs ys : List Iv) (a b lo hi : Int) (w : World) (hx : IvsAt w w.heap.size A xs) (hy : IvsAt w w.heap.size B ys) (nx : Norm xs) (ny : Norm ys) (h0 : 0 ≤ a) (h1 : a ≤ b) (h2 : b ≤ 1099511627776) :
    Calls Try.prog 71 #[.slice A xs.length c, .slice B ys.length d, .int .i64 a, .int .i64 b, .int .i64 lo, .int .i64 hi, .bool false] w (RetIvs w (chainS (Mem xs) (Mem ys) a b lo hi false)) := by
  have lx := norm_len nx
  have ly := norm_len ny
  have HE := hide (fun (wr w1 : World) (ds : List Iv) (e : Ending) hm hb h => chain_end (w := w) (wr := wr) (w1 := w1) (xs := xs) (ys := ys) (ds := ds) (a := a) (b := b) (lo := lo) (hi := hi) (back := false) (e := e) nx h0 h1 h2 hm hb h)
  have HNX := hide nx
  clear nx ny
  by_cases ha : a = 0
  · have HA := hide ha
    have hae : (a == 0) = true := by simp [ha]
    clear ha
    go_enter Try.func71, Try.ntmps71
    go_wp2_with (at_builtin; (refine append_ivs rfl _ _ rfl w.heap.size none 0 [] 0 rfl rfl (OwnIv.nil _ _) B ys.length d w.heap.size ys rfl rfl hy (by omega) (Nat.le_refl _) ?_); intro A0 c0 w0 row hown0 hgrow0 hrow0)
    have hb0 : Below w.heap.size w w0 := (Below.refl _ _).grown hgrow0 (Nat.le_refl _) hrow0
    have R0 : ChainRel w xs ys a b false (.slice A0 ys.length c0) (.int .i64 0) w0 := ⟨0, A0, c0, ys, 0, Nat.zero_le _, rfl, rfl, by simpa using hown0, fun t => by rw [chainM_zero]; simp [HA.out], by omega, ⟨by omega, by omega, fun r hr => ((HNX.out).1 r (List.mem_of_mem_drop hr)).1⟩, hb0⟩
    clear hown0 hgrow0 hrow0 hb0
    go_loopw [15, 25] (fun out i wr => ChainRel w xs ys a b false out i wr) (fun _ i _ => xs.length - (intOf i).toNat)
    case atStart => exact R0
    case round =>
      clear R0
      obtain ⟨k, A2, c2, ds, q, hk, rfl, rfl, hown, hm, hlen, hq, hb⟩ := hrel
      by_cases hlt : k < xs.length
      · have HM := hide hm
        obtain ⟨ba, oa, hAe, hba, hc1, hc2⟩ := (hx.below hb).at_ hlt
        subst hAe
        have hok := (HNX.out).1 _ (List.getElem_mem hlt)
        unfold Okv at hok
        have HL := hide (fun gs ng mg => chain_len (a := a) (b := b) (back := false) hlt HNX.out hq hlen (gs := gs) ng mg)
        have HC := hide (fun t => chainM_succ (ys := ys) (a := a) (b := b) (back := false) hlt t)
        have hq2 := hq.2.1
        have HXK := hide (show xs[k] = (xs[k].1, xs[k].2) from rfl)
        clear hm hq
        obtain ⟨o1, o2, o3⟩ := hok
        generalize hr1 : xs[k].1 = p at *
        generalize hr2 : xs[k].2 = p' at *
        clear hr1 hr2
        go_upto_region 9 with fail
        obtain ⟨W, hW⟩ : ∃ W : World, wr.alloc (.cells #[.int .i64 p, .int .i64 p'] 42) = W := ⟨_, rfl⟩
        have g0 : W.heap[wr.heap.size]? = some (.cells #[.int .i64 p, .int .i64 p'] 42 (0, 0)) := by rw [← hW]; exact heap_alloc_new wr _
        have hbW : Below w.heap.size w W := by rw [← hW]; exact hb.alloc hb.size _
        have hownW : OwnIv W w.heap.size A2 c2 ds := by rw [← hW]; exact hown.alloc _
        have hsW : wr.heap.size < W.heap.size := box_lt g0
        have hyW : IvsAt W.drew W.drew.heap.size B ys := (hy.below hbW).more hbW.size
        rw [hW]
        clear hW hc1 hc2
        have hbase := hb.size
        generalize hNn : wr.heap.size = N at *
        have hwN : wr.heap.size ≤ N := Nat.le_of_eq hNn
        clear hNn
        have k0 := ch_keep hbW g0 (below_drew (Below.refl _ _))
        have s1 : IntKind.i64.wrap (p' + 1) = p' + 1 := IntWalk.i64_in _ (by omega)
        go_region_held3 (fun wx => wx.cell? ⟨N, 0, none⟩ = some (.int .i64 p) ∧ wx.cell? ⟨N, 1, none⟩ = some (.int .i64 p') ∧ wx.heap[N]? = some (.cells #[.int .i64 p, .int .i64 p'] 42 (0, 0)) ∧ Below w.heap.size w wx)
          (first | (with_reducible assumption) | exact k0 | exact k1 | exact k2 | exact k5)
          (first
            | (go_at_call 53; refine (clip_any B d ys p (p' + 1) W.drew hyW (by omega)).mono ?_; rintro e w1 ⟨A1, c1, y1, rfl, r1, b1, n1, m1⟩; have b1' := bstep (w0 := W) (w := W.drew) (below_drew (Below.refl _ _)) b1; have k1 := ch_keep hbW g0 b1'; have M1 := hide m1; clear m1; have l1 := norm_len n1)
            | (go_at_call 42; refine (grow_any A1 c1 y1 a b p p' w1 r1.ats (by omega)).mono ?_; rintro e w2 ⟨A3, c3, y3, rfl, r3, b3, n3, m3⟩; have b3' := bstep b1' b3; have k2 := ch_keep hbW g0 b3'; have M3 := hide m3; clear m3; have l3 := norm_len n3)
            | (refine step_append_ivs rfl _ _ rfl w.heap.size A2 c2 ds _ rfl rfl (hownW.below b3' (Nat.le_refl _)) A3 y3.length c3 _ y3 rfl rfl r3.ats (by omega) (Nat.le_trans hbW.size b3'.size) ?_; intro A5 c5 w5 hown5 hgrow5 hrow5; have k5 := ch_far hown hwN (Nat.lt_of_lt_of_le hsW b3'.size) (Nat.le_trans hbW.size b3'.size) hgrow5 hrow5 k2))
        have hb5 := k5.2.2.2
        clear k0 k1 k2 k5
        go_wp2_with fail
        go_roundw
        case rel =>
          have hpc : ∀ t, Mem y3 t ↔ pieceS (Mem ys) a b false xs[k] t := fun t => by
            rw [M3.out, growS_congr M1.out, HXK.out]; rfl
          obtain ⟨e1, e2⟩ := HL.out y3 n3 hpc
          exact ⟨k + 1, A5, c5, ds ++ y3, _, by omega, by go_num, by rw [List.length_append], hown5, fun t => by rw [mem_append, HM.out, HC.out, hpc], e1, e2, hb5⟩
        case measure => simp [intOf]; omega
      · have hke : k = xs.length := by omega
        subst hke
        have HM := hide hm
        clear hm
        have hq2 := hq.2.1
        go_wp2_with fail
        refine (clip_any A2 c2 ds lo hi wr hown.ats (by omega)).mono ?_
        intro e w1 hret
        obtain ⟨A5, c5, y5, rfl, r5, b5, n5, m5⟩ := HE.out wr w1 ds e HM.out hb hret
        have M5 := hide m5
        clear m5 hret
        go_wp2_with fail
        go_ret
        exact ⟨A5, c5, y5, rfl, r5, b5, n5, M5.out⟩
  · have HA := hide ha
    have hae : (a == 0) = false := by simp [ha]
    clear ha
    go_enter Try.func71, Try.ntmps71
    go_wp2_with fail
    have R0 : ChainRel w xs ys a b false (.slice none 0 0) (.int .i64 0) w := ⟨0, none, 0, [], 0, Nat.zero_le _, rfl, rfl, OwnIv.nil _ _, fun t => by rw [chainM_zero]; simp [HA.out, mem_nil], by simp; omega, ⟨by omega, by omega, fun r hr => ((HNX.out).1 r (List.mem_of_mem_drop hr)).1⟩, Below.refl _ _⟩
    go_loopw [15, 25] (fun out i wr => ChainRel w xs ys a b false out i wr) (fun _ i _ => xs.length - (intOf i).toNat)
    case atStart => exact R0
    case round =>
      clear R0
      obtain ⟨k, A2, c2, ds, q, hk, rfl, rfl, hown, hm, hlen, hq, hb⟩ := hrel
      by_cases hlt : k < xs.length
      · have HM := hide hm
        obtain ⟨ba, oa, hAe, hba, hc1, hc2⟩ := (hx.below hb).at_ hlt
        subst hAe
        have hok := (HNX.out).1 _ (List.getElem_mem hlt)
        unfold Okv at hok
        have HL := hide (fun gs ng mg => chain_len (a := a) (b := b) (back := false) hlt HNX.out hq hlen (gs := gs) ng mg)
        have HC := hide (fun t => chainM_succ (ys := ys) (a := a) (b := b) (back := false) hlt t)
        have hq2 := hq.2.1
        have HXK := hide (show xs[k] = (xs[k].1, xs[k].2) from rfl)
        clear hm hq
        obtain ⟨o1, o2, o3⟩ := hok
        generalize hr1 : xs[k].1 = p at *
        generalize hr2 : xs[k].2 = p' at *
        clear hr1 hr2
        go_upto_region 9 with fail
        obtain ⟨W, hW⟩ : ∃ W : World, wr.alloc (.cells #[.int .i64 p, .int .i64 p'] 42) = W := ⟨_, rfl⟩
        have g0 : W.heap[wr.heap.size]? = some (.cells #[.int .i64 p, .int .i64 p'] 42 (0, 0)) := by rw [← hW]; exact heap_alloc_new wr _
        have hbW : Below w.heap.size w W := by rw [← hW]; exact hb.alloc hb.size _
        have hownW : OwnIv W w.heap.size A2 c2 ds := by rw [← hW]; exact hown.alloc _
        have hsW : wr.heap.size < W.heap.size := box_lt g0
        have hyW : IvsAt W.drew W.drew.heap.size B ys := (hy.below hbW).more hbW.size
        rw [hW]
        clear hW hc1 hc2
        have hbase := hb.size
        generalize hNn : wr.heap.size = N at *
        have hwN : wr.heap.size ≤ N := Nat.le_of_eq hNn
        clear hNn
        have k0 := ch_keep hbW g0 (below_drew (Below.refl _ _))
        have s1 : IntKind.i64.wrap (p' + 1) = p' + 1 := IntWalk.i64_in _ (by omega)
        go_region_held3 (fun wx => wx.cell? ⟨N, 0, none⟩ = some (.int .i64 p) ∧ wx.cell? ⟨N, 1, none⟩ = some (.int .i64 p') ∧ wx.heap[N]? = some (.cells #[.int .i64 p, .int .i64 p'] 42 (0, 0)) ∧ Below w.heap.size w wx)
          (first | (with_reducible assumption) | exact k0 | exact k1 | exact k2 | exact k5)
          (first
            | (go_at_call 53; refine (clip_any B d ys p (p' + 1) W.drew hyW (by omega)).mono ?_; rintro e w1 ⟨A1, c1, y1, rfl, r1, b1, n1, m1⟩; have b1' := bstep (w0 := W) (w := W.drew) (below_drew (Below.refl _ _)) b1; have k1 := ch_keep hbW g0 b1'; have M1 := hide m1; clear m1; have l1 := norm_len n1)
            | (go_at_call 42; refine (grow_any A1 c1 y1 a b p p' w1 r1.ats (by omega)).mono ?_; rintro e w2 ⟨A3, c3, y3, rfl, r3, b3, n3, m3⟩; have b3' := bstep b1' b3; have k2 := ch_keep hbW g0 b3'; have M3 := hide m3; clear m3; have l3 := norm_len n3)
            | (refine step_append_ivs rfl _ _ rfl w.heap.size A2 c2 ds _ rfl rfl (hownW.below b3' (Nat.le_refl _)) A3 y3.length c3 _ y3 rfl rfl r3.ats (by omega) (Nat.le_trans hbW.size b3'.size) ?_; intro A5 c5 w5 hown5 hgrow5 hrow5; have k5 := ch_far hown hwN (Nat.lt_of_lt_of_le hsW b3'.size) (Nat.le_trans hbW.size b3'.size) hgrow5 hrow5 k2))
        have hb5 := k5.2.2.2
        clear k0 k1 k2 k5
        go_wp2_with fail
        go_roundw
        case rel =>
          have hpc : ∀ t, Mem y3 t ↔ pieceS (Mem ys) a b false xs[k] t := fun t => by
            rw [M3.out, growS_congr M1.out, HXK.out]; rfl
          obtain ⟨e1, e2⟩ := HL.out y3 n3 hpc
          exact ⟨k + 1, A5, c5, ds ++ y3, _, by omega, by go_num, by rw [List.length_append], hown5, fun t => by rw [mem_append, HM.out, HC.out, hpc], e1, e2, hb5⟩
        case measure => simp [intOf]; omega
      · have hke : k = xs.length := by omega
        subst hke
        have HM := hide hm
        clear hm
        have hq2 := hq.2.1
        go_wp2_with fail
        refine (clip_any A2 c2 ds lo hi wr hown.ats (by omega)).mono ?_
        intro e w1 hret
        obtain ⟨A5, c5, y5, rfl, r5, b5, n5, m5⟩ := HE.out wr w1 ds e HM.out hb hret
        have M5 := hide m5
        clear m5 hret
        go_wp2_with fail
        go_ret
        exact ⟨A5, c5, y5, rfl, r5, b5, n5, M5.out⟩

set_option maxRecDepth 100000 in
set_option maxHeartbeats 8000000 in
theorem chain_true (A B : Option Addr) (c d : Nat) (xs ys : List Iv) (a b lo hi : Int) (w : World) (hx : IvsAt w w.heap.size A xs) (hy : IvsAt w w.heap.size B ys) (nx : Norm xs) (ny : Norm ys) (h0 : 0 ≤ a) (h1 : a ≤ b) (h2 : b ≤ 1099511627776) :
    Calls Try.prog 71 #[.slice A xs.length c, .slice B ys.length d, .int .i64 a, .int .i64 b, .int .i64 lo, .int .i64 hi, .bool true] w (RetIvs w (chainS (Mem xs) (Mem ys) a b lo hi true)) := by
  have lx := norm_len nx
  have ly := norm_len ny
  have HE := hide (fun (wr w1 : World) (ds : List Iv) (e : Ending) hm hb h => chain_end (w := w) (wr := wr) (w1 := w1) (xs := xs) (ys := ys) (ds := ds) (a := a) (b := b) (lo := lo) (hi := hi) (back := true) (e := e) nx h0 h1 h2 hm hb h)
  have HNX := hide nx
  clear nx ny
  by_cases ha : a = 0
  · have HA := hide ha
    have hae : (a == 0) = true := by simp [ha]
    clear ha
    go_enter Try.func71, Try.ntmps71
    go_wp2_with (at_builtin; (refine append_ivs rfl _ _ rfl w.heap.size none 0 [] 0 rfl rfl (OwnIv.nil _ _) B ys.length d w.heap.size ys rfl rfl hy (by omega) (Nat.le_refl _) ?_); intro A0 c0 w0 row hown0 hgrow0 hrow0)
    have hb0 : Below w.heap.size w w0 := (Below.refl _ _).grown hgrow0 (Nat.le_refl _) hrow0
    have R0 : ChainRel w xs ys a b true (.slice A0 ys.length c0) (.int .i64 0) w0 := ⟨0, A0, c0, ys, 0, Nat.zero_le _, rfl, rfl, by simpa using hown0, fun t => by rw [chainM_zero]; simp [HA.out], by omega, ⟨by omega, by omega, fun r hr => ((HNX.out).1 r (List.mem_of_mem_drop hr)).1⟩, hb0⟩
    clear hown0 hgrow0 hrow0 hb0
    go_loopw [15, 25] (fun out i wr => ChainRel w xs ys a b true out i wr) (fun _ i _ => xs.length - (intOf i).toNat)
    case atStart => exact R0
    case round =>
      clear R0
      obtain ⟨k, A2, c2, ds, q, hk, rfl, rfl, hown, hm, hlen, hq, hb⟩ := hrel
      by_cases hlt : k < xs.length
      · have HM := hide hm
        obtain ⟨ba, oa, hAe, hba, hc1, hc2⟩ := (hx.below hb).at_ hlt
        subst hAe
        have hok := (HNX.out).1 _ (List.getElem_mem hlt)
        unfold Okv at hok
        have HL := hide (fun gs ng mg => chain_len (a := a) (b := b) (back := true) hlt HNX.out hq hlen (gs := gs) ng mg)
        have HC := hide (fun t => chainM_succ (ys := ys) (a := a) (b := b) (back := true) hlt t)
        have hq2 := hq.2.1
        have HXK := hide (show xs[k] = (xs[k].1, xs[k].2) from rfl)
        clear hm hq
        obtain ⟨o1, o2, o3⟩ := hok
        generalize hr1 : xs[k].1 = p at *
        generalize hr2 : xs[k].2 = p' at *
        clear hr1 hr2
        go_upto_region 8 with fail
        obtain ⟨W, hW⟩ : ∃ W : World, wr.alloc (.cells #[.int .i64 p, .int .i64 p'] 42) = W := ⟨_, rfl⟩
        have g0 : W.heap[wr.heap.size]? = some (.cells #[.int .i64 p, .int .i64 p'] 42 (0, 0)) := by rw [← hW]; exact heap_alloc_new wr _
        have hbW : Below w.heap.size w W := by rw [← hW]; exact hb.alloc hb.size _
        have hownW : OwnIv W w.heap.size A2 c2 ds := by rw [← hW]; exact hown.alloc _
        have hsW : wr.heap.size < W.heap.size := box_lt g0
        have hyW : IvsAt W.drew W.drew.heap.size B ys := (hy.below hbW).more hbW.size
        rw [hW]
        clear hW hc1 hc2
        have hbase := hb.size
        generalize hNn : wr.heap.size = N at *
        have hwN : wr.heap.size ≤ N := Nat.le_of_eq hNn
        clear hNn
        have k0 := ch_keep hbW g0 (below_drew (Below.refl _ _))
        have s1 : IntKind.i64.wrap (p - 1) = p - 1 := IntWalk.i64_in _ (by omega)
        have s2 : IntKind.i64.wrap (-b) = -b := IntWalk.i64_in _ (by omega)
        have s3 : IntKind.i64.wrap (-a) = -a := IntWalk.i64_in _ (by omega)
        go_region_held3 (fun wx => wx.cell? ⟨N, 0, none⟩ = some (.int .i64 p) ∧ wx.cell? ⟨N, 1, none⟩ = some (.int .i64 p') ∧ wx.heap[N]? = some (.cells #[.int .i64 p, .int .i64 p'] 42 (0, 0)) ∧ Below w.heap.size w wx)
          (first | (with_reducible assumption) | exact k0 | exact k1 | exact k2 | exact k5)
          (first
            | (go_at_call 53; refine (clip_any B d ys (p - 1) p' W.drew hyW (by omega)).mono ?_; rintro e w1 ⟨A1, c1, y1, rfl, r1, b1, n1, m1⟩; have b1' := bstep (w0 := W) (w := W.drew) (below_drew (Below.refl _ _)) b1; have k1 := ch_keep hbW g0 b1'; have M1 := hide m1; clear m1; have l1 := norm_len n1)
            | (go_at_call 42; refine (grow_any A1 c1 y1 (-b) (-a) p p' w1 r1.ats (by omega)).mono ?_; rintro e w2 ⟨A3, c3, y3, rfl, r3, b3, n3, m3⟩; have b3' := bstep b1' b3; have k2 := ch_keep hbW g0 b3'; have M3 := hide m3; clear m3; have l3 := norm_len n3)
            | (refine step_append_ivs rfl _ _ rfl w.heap.size A2 c2 ds _ rfl rfl (hownW.below b3' (Nat.le_refl _)) A3 y3.length c3 _ y3 rfl rfl r3.ats (by omega) (Nat.le_trans hbW.size b3'.size) ?_; intro A5 c5 w5 hown5 hgrow5 hrow5; have k5 := ch_far hown hwN (Nat.lt_of_lt_of_le hsW b3'.size) (Nat.le_trans hbW.size b3'.size) hgrow5 hrow5 k2))
        have hb5 := k5.2.2.2
        clear k0 k1 k2 k5
        go_wp2_with fail
        go_roundw
        case rel =>
          have hpc : ∀ t, Mem y3 t ↔ pieceS (Mem ys) a b true xs[k] t := fun t => by
            rw [M3.out, growS_congr M1.out, HXK.out]; rfl
          obtain ⟨e1, e2⟩ := HL.out y3 n3 hpc
          exact ⟨k + 1, A5, c5, ds ++ y3, _, by omega, by go_num, by rw [List.length_append], hown5, fun t => by rw [mem_append, HM.out, HC.out, hpc], e1, e2, hb5⟩
        case measure => simp [intOf]; omega
      · have hke : k = xs.length := by omega
        subst hke
        have HM := hide hm
        clear hm
        have hq2 := hq.2.1
        go_wp2_with fail
        refine (clip_any A2 c2 ds lo hi wr hown.ats (by omega)).mono ?_
        intro e w1 hret
        obtain ⟨A5, c5, y5, rfl, r5, b5, n5, m5⟩ := HE.out wr w1 ds e HM.out hb hret
        have M5 := hide m5
        clear m5 hret
        go_wp2_with fail
        go_ret
        exact ⟨A5, c5, y5, rfl, r5, b5, n5, M5.out⟩
  · have HA := hide ha
    have hae : (a == 0) = false := by simp [ha]
    clear ha
    go_enter Try.func71, Try.ntmps71
    go_wp2_with fail
    have R0 : ChainRel w xs ys a b true (.slice none 0 0) (.int .i64 0) w := ⟨0, none, 0, [], 0, Nat.zero_le _, rfl, rfl, OwnIv.nil _ _, fun t => by rw [chainM_zero]; simp [HA.out, mem_nil], by simp; omega, ⟨by omega, by omega, fun r hr => ((HNX.out).1 r (List.mem_of_mem_drop hr)).1⟩, Below.refl _ _⟩
    go_loopw [15, 25] (fun out i wr => ChainRel w xs ys a b true out i wr) (fun _ i _ => xs.length - (intOf i).toNat)
    case atStart => exact R0
    case round =>
      clear R0
      obtain ⟨k, A2, c2, ds, q, hk, rfl, rfl, hown, hm, hlen, hq, hb⟩ := hrel
      by_cases hlt : k < xs.length
      · have HM := hide hm
        obtain ⟨ba, oa, hAe, hba, hc1, hc2⟩ := (hx.below hb).at_ hlt
        subst hAe
        have hok := (HNX.out).1 _ (List.getElem_mem hlt)
        unfold Okv at hok
        have HL := hide (fun gs ng mg => chain_len (a := a) (b := b) (back := true) hlt HNX.out hq hlen (gs := gs) ng mg)
        have HC := hide (fun t => chainM_succ (ys := ys) (a := a) (b := b) (back := true) hlt t)
        have hq2 := hq.2.1
        have HXK := hide (show xs[k] = (xs[k].1, xs[k].2) from rfl)
        clear hm hq
        obtain ⟨o1, o2, o3⟩ := hok
        generalize hr1 : xs[k].1 = p at *
        generalize hr2 : xs[k].2 = p' at *
        clear hr1 hr2
        go_upto_region 8 with fail
        obtain ⟨W, hW⟩ : ∃ W : World, wr.alloc (.cells #[.int .i64 p, .int .i64 p'] 42) = W := ⟨_, rfl⟩
        have g0 : W.heap[wr.heap.size]? = some (.cells #[.int .i64 p, .int .i64 p'] 42 (0, 0)) := by rw [← hW]; exact heap_alloc_new wr _
        have hbW : Below w.heap.size w W := by rw [← hW]; exact hb.alloc hb.size _
        have hownW : OwnIv W w.heap.size A2 c2 ds := by rw [← hW]; exact hown.alloc _
        have hsW : wr.heap.size < W.heap.size := box_lt g0
        have hyW : IvsAt W.drew W.drew.heap.size B ys := (hy.below hbW).more hbW.size
        rw [hW]
        clear hW hc1 hc2
        have hbase := hb.size
        generalize hNn : wr.heap.size = N at *
        have hwN : wr.heap.size ≤ N := Nat.le_of_eq hNn
        clear hNn
        have k0 := ch_keep hbW g0 (below_drew (Below.refl _ _))
        have s1 : IntKind.i64.wrap (p - 1) = p - 1 := IntWalk.i64_in _ (by omega)
        have s2 : IntKind.i64.wrap (-b) = -b := IntWalk.i64_in _ (by omega)
        have s3 : IntKind.i64.wrap (-a) = -a := IntWalk.i64_in _ (by omega)
        go_region_held3 (fun wx => wx.cell? ⟨N, 0, none⟩ = some (.int .i64 p) ∧ wx.cell? ⟨N, 1, none⟩ = some (.int .i64 p') ∧ wx.heap[N]? = some (.cells #[.int .i64 p, .int .i64 p'] 42 (0, 0)) ∧ Below w.heap.size w wx)
          (first | (with_reducible assumption) | exact k0 | exact k1 | exact k2 | exact k5)
          (first
            | (go_at_call 53; refine (clip_any B d ys (p - 1) p' W.drew hyW (by omega)).mono ?_; rintro e w1 ⟨A1, c1, y1, rfl, r1, b1, n1, m1⟩; have b1' := bstep (w0 := W) (w := W.drew) (below_drew (Below.refl _ _)) b1; have k1 := ch_keep hbW g0 b1'; have M1 := hide m1; clear m1; have l1 := norm_len n1)
            | (go_at_call 42; refine (grow_any A1 c1 y1 (-b) (-a) p p' w1 r1.ats (by omega)).mono ?_; rintro e w2 ⟨A3, c3, y3, rfl, r3, b3, n3, m3⟩; have b3' := bstep b1' b3; have k2 := ch_keep hbW g0 b3'; have M3 := hide m3; clear m3; have l3 := norm_len n3)
            | (refine step_append_ivs rfl _ _ rfl w.heap.size A2 c2 ds _ rfl rfl (hownW.below b3' (Nat.le_refl _)) A3 y3.length c3 _ y3 rfl rfl r3.ats (by omega) (Nat.le_trans hbW.size b3'.size) ?_; intro A5 c5 w5 hown5 hgrow5 hrow5; have k5 := ch_far hown hwN (Nat.lt_of_lt_of_le hsW b3'.size) (Nat.le_trans hbW.size b3'.size) hgrow5 hrow5 k2))
        have hb5 := k5.2.2.2
        clear k0 k1 k2 k5
        go_wp2_with fail
        go_roundw
        case rel =>
          have hpc : ∀ t, Mem y3 t ↔ pieceS (Mem ys) a b true xs[k] t := fun t => by
            rw [M3.out, growS_congr M1.out, HXK.out]; rfl
          obtain ⟨e1, e2⟩ := HL.out y3 n3 hpc
          exact ⟨k + 1, A5, c5, ds ++ y3, _, by omega, by go_num, by rw [List.length_append], hown5, fun t => by rw [mem_append, HM.out, HC.out, hpc], e1, e2, hb5⟩
        case measure => simp [intOf]; omega
      · have hke : k = xs.length := by omega
        subst hke
        have HM := hide hm
        clear hm
        have hq2 := hq.2.1
        go_wp2_with fail
        refine (clip_any A2 c2 ds lo hi wr hown.ats (by omega)).mono ?_
        intro e w1 hret
        obtain ⟨A5, c5, y5, rfl, r5, b5, n5, m5⟩ := HE.out wr w1 ds e HM.out hb hret
        have M5 := hide m5
        clear m5 hret
        go_wp2_with fail
        go_ret
        exact ⟨A5, c5, y5, rfl, r5, b5, n5, M5.out⟩

end Go.Proofs.Ytkbiefklilelmaa
