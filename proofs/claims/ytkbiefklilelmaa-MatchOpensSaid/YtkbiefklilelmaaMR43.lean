/-
  Several texts in one: RefReach. Each says at its head what it holds.
-/
import Derived.Test.YtkbiefklilelmaaMR42
import Derived.OwnWalk
import Derived.Deep.RegionHeld3

/-
  wavestoreref55.reach: for each state the times at which ways that begin at a time can arrive.
-/
namespace Go.Proofs.Ytkbiefklilelmaa
open Go.RowKit

theorem infoSlR : (Try.prog.info? 36).map (fun i => (i.zero, i.size, i.bytes)) = some (some (.slice none 0 0), 1, 24) := by kernel_rfl
theorem rc_made {W W' : World} {B n : Nat} {z : Array Value} (h : W'.ownsRow B 36 1 (.slice (some ⟨W.heap.size, 0, none⟩) n n) n (madeCells z n).toList) (hz : z = #[.slice none 0 0]) (hB : B ≤ W.heap.size) : ∃ os : List SlI, os.length = n ∧ RcAt B W' W.heap.size os ∧ RcP (fun _ _ => False) os := by
  subst hz
  have hc : (madeCells #[Value.slice none 0 0] n).toList = List.replicate n (.slice none 0 0) := by
    refine List.ext_getElem (by simp [madeCells]) fun i h1 h2 => ?_
    simp [madeCells, Nat.mod_one]
  rw [hc] at h
  have hos : ∀ s ∈ List.replicate n (⟨none, 0, []⟩ : SlI), s = ⟨none, 0, []⟩ := fun s hs => List.eq_of_mem_replicate hs
  have hmap : (List.replicate n (⟨none, 0, []⟩ : SlI)).map vSl = List.replicate n (.slice none 0 0) := by simp [vSl]
  refine ⟨List.replicate n ⟨none, 0, []⟩, by simp, ⟨?_, fun s hs => ?_, fun i j s t g _ hi hj hg => ?_, hB⟩, ⟨fun s o ho => ?_, fun s o ho t => ?_⟩⟩
  · rw [hmap]
    rcases h.2 with ⟨h2, _⟩ | ⟨g, cap, cur, h2, _, h4, _, _, h7, h8⟩
    · cases h2
    · injection h2 with h2 _ h3
      injection h2 with h2
      injection h2 with h2
      subst h2 h3
      have : cur.toList = List.replicate n (.slice none 0 0) := by rw [← h8, List.take_of_length_le (by simp [h7])]
      rw [h4, ← this]
  · rw [hos s hs]; exact World.ownsRow_nil _ _ _ 1
  · rw [hos s (List.mem_of_getElem? hi)] at hg; cases hg
  · rw [hos o (List.mem_of_getElem? ho)]; simp
  · rw [hos o (List.mem_of_getElem? ho)]; simp

theorem cell_set_other {w : World} {N M k j : Nat} {v : Value} (h : N ≠ M) : (w.setCell ⟨M, k, none⟩ v).cell? ⟨N, j, none⟩ = w.cell? ⟨N, j, none⟩ := by
  unfold World.cell?
  rw [Below.heap_setCell w ⟨M, k, none⟩ v N h]
/-- after so many edges -/
def RcI (x : Inp) (st en : Int) (N n Bo : Nat) (W : World) (i : Value) (wr : World) : Prop :=
  ∃ (k : Nat) (os : List SlI), k ≤ N ∧ i = .int .i64 k ∧ os.length = n ∧ RcAt W.heap.size wr Bo os ∧ RcP (Rk x st en k) os ∧ Below W.heap.size W wr
/-- in the midst of an edge: the begins, so many of them -/
def RcJ (x : Inp) (st en : Int) (n Bo : Nat) (i : Nat) (e : Edg) (f : Nat) (us l : List Int) (W W1 : World) (k : Value) (wr : World) : Prop :=
  ∃ (q : Nat) (os : List SlI), q ≤ us.length ∧ k = .int .i64 q ∧ os.length = n ∧ RcAt W.heap.size wr Bo os ∧ RcP (PJ x st en i e us q l 0) os ∧ (∃ o, os[f]? = some o ∧ o.xs = us) ∧ Below W.heap.size W wr ∧ wr.heap[W1.heap.size]? = some (.cells (cEdg e).toArray 81 (0, 0))
def RcK (x : Inp) (st en : Int) (n Bo : Nat) (i : Nat) (e : Edg) (f : Nat) (us : List Int) (q : Nat) (l : List Int) (W W1 : World) (k : Value) (wr : World) : Prop :=
  ∃ (j : Nat) (os : List SlI), j ≤ l.length ∧ k = .int .i64 j ∧ os.length = n ∧ RcAt W.heap.size wr Bo os ∧ RcP (PJ x st en i e us q l j) os ∧ (∃ o, os[f]? = some o ∧ o.xs = us) ∧ Below W.heap.size W wr ∧ wr.heap[W1.heap.size]? = some (.cells (cEdg e).toArray 81 (0, 0))

set_option maxRecDepth 100000 in
set_option maxHeartbeats 8000000 in
theorem rreach_any (x : MIn) (st : Int) (w : World) (h : MAt w x) (ok : MOk x) (hst : 0 ≤ st ∧ st ≤ x.en) :
    Calls Try.prog 63 #[.agg (encA x.a).toArray, .slice x.AV x.ev.length x.cV, .slice x.AS x.cs.length x.cS, .int .i64 st, .int .i64 x.en] w (RReachPost x st w) := by
  obtain ⟨W0, hW0⟩ : ∃ W0, w.alloc (.cells (encA x.a).toArray 50) = W0 := ⟨_, rfl⟩
  have g0 := new_at hW0
  have hb0 : Below w.heap.size w W0 := by rw [← hW0]; exact (Below.refl _ _).alloc (Nat.le_refl _) _
  have HB0 := hide hb0
  have HM := hide (h.step hb0)
  have HOK := hide ok
  have hfl := ok.fin
  have hen0 := ok.e1
  have hed := ok.few
  obtain ⟨x', hx'⟩ : ∃ x', x = x' := ⟨_, rfl⟩
  rw [hx'] at HM HOK ⊢
  obtain ⟨⟨AE, nE, cE, AC, nC, cC, AF, cF, fin, AX, cX, edges⟩, AV, cV, ev, AS, cS, cs, en⟩ := x
  dsimp only at hfl hen0 hst hed
  have HX := hide (show x'.a = ⟨AE, nE, cE, AC, nC, cC, AF, cF, fin, AX, cX, edges⟩ ∧ x'.AV = AV ∧ x'.cV = cV ∧ x'.ev = ev ∧ x'.AS = AS ∧ x'.cS = cS ∧ x'.cs = cs ∧ x'.en = en from by rw [← hx']; exact ⟨rfl, rfl, rfl, rfl, rfl, rfl, rfl, rfl⟩)
  have hA : encA x'.a = [.slice AE nE cE, .slice AC nC cC, .slice AF fin.length cF, .slice AX edges.length cX] := by rw [HX.out.1]; rfl
  have hargs : (#[.agg (encA x'.a).toArray, .slice x'.AV x'.ev.length x'.cV, .slice x'.AS x'.cs.length x'.cS, .int .i64 st, .int .i64 x'.en] : Array Value) = #[.agg #[.slice AE nE cE, .slice AC nC cC, .slice AF fin.length cF, .slice AX edges.length cX], .slice AV ev.length cV, .slice AS cs.length cS, .int .i64 st, .int .i64 en] := by
    rw [hA, HX.out.2.1, HX.out.2.2.1, HX.out.2.2.2.1, HX.out.2.2.2.2.1, HX.out.2.2.2.2.2.1, HX.out.2.2.2.2.2.2.1, HX.out.2.2.2.2.2.2.2]
  rw [hargs]
  have g0' : W0.heap[w.heap.size]? = some (.cells #[.slice AE nE cE, .slice AC nC cC, .slice AF fin.length cF, .slice AX edges.length cX] 50 (0, 0)) := g0
  have hW0' : w.alloc (.cells #[.slice AE nE cE, .slice AC nC cC, .slice AF fin.length cF, .slice AX edges.length cX] 50) = W0 := hW0
  have HG0 := hide g0'
  have HW0 := hide hW0'
  obtain ⟨y0, y1, y2, y3, -⟩ := box4 g0'
  clear hx' hA hargs g0 g0' hW0 hW0' hb0 h ok
  go_enter Try.func63, Try.ntmps63
  go_upto_region 1 with (fail)
  rw [HW0.out]
  obtain ⟨i0, hi0, hz0, hz1, hz2⟩ := info_parts infoSlR
  go_upto_region 2 with ((with_reducible refine wpList_make_full _ rfl _ _ 51 rfl W0.heap.size 36 i0 _ 1 Try.underlying51 hi0 hz0 hz1 _ _ _ _ fin.length rfl rfl rfl rfl ?b2 ?b3 ?b4 ?_))
  case b2 => rw [hz2]; omega
  case b3 => unfold maxLen; omega
  case b4 => exact Nat.le_refl _
  intro W1 hown1 hg1
  obtain ⟨os0, hos0, hrc0, hrp0⟩ := rc_made hown1 rfl (Nat.le_refl _)
  have hb01 : Below W0.heap.size W0 W1 := (Below.refl _ _).grown hg1 (Nat.le_refl _) (fun k e => by cases e)
  have HB01 := hide hb01
  have HRC0 := hide hrc0
  have HRP0 := hide hrp0
  have HOS0 := hide hos0
  obtain ⟨Bo, hBo⟩ : ∃ b, W0.heap.size = b := ⟨_, rfl⟩
  have HBO := hide hBo
  have HEX := hide (show x'.inp.edges = edges from by unfold MIn.inp; rw [HX.out.1])
  rw [hBo] at HRC0
  clear hown1 hg1 hb01 hrc0 hrp0 hos0 y0 y1 y2 y3 i0 hi0 hz0 hz1 hz2
  go_wp2_with fail
  rw [hBo]
  clear hBo
  go_loopw [12] (fun i wr => RcI x'.inp st en edges.length fin.length Bo W0 i wr) (fun i _ => edges.length - (intOf i).toNat)
  case atStart => exact ⟨0, os0, Nat.zero_le _, rfl, HOS0.out, by rw [HBO.out]; exact HRC0.out, HRP0.out, HB01.out⟩
  case round =>
    obtain ⟨wr1, rfl⟩ : ∃ w2 : World, w2 = wr := ⟨_, rfl⟩
    obtain ⟨i, os, hi, rfl, hol, hrc, hrp, hbr⟩ := hrel
    have HOL := hide hol
    have HRC := hide hrc
    have HRP := hide hrp
    have HBR := hide hbr
    obtain ⟨y0, y1, y2, y3, -⟩ := box4 ((hbr.block _ (box_lt HG0.out)).trans HG0.out)
    clear hol hrc hrp hbr
    by_cases hlt : i < edges.length
    · obtain ⟨be, oe, bv, ov, j, s, f, t, wh, lo, hi', ea⟩ := edge_at HOK.out (HM.out.step HBR.out) (k := i) (by rw [HX.out.1]; exact hlt)
      have ax := ea.ax
      have av := ea.av
      rw [HX.out.1] at ax
      rw [HX.out.2.1] at av
      dsimp only at ax av
      subst ax av
      obtain ⟨-, -, get, e0, e1, e2, e3, e4, e5, v0, ints, jl, nth_, get2, slen, sinc, eok, hbe, hbv⟩ := ea
      rw [HX.out.1, HX.out.2.2.2.1, HX.out.2.2.2.2.2.2.1] at eok
      rw [HX.out.2.2.2.1] at jl get2
      dsimp only at eok
      obtain ⟨fn, hfn⟩ := Int.eq_ofNat_of_zero_le eok.f0
      obtain ⟨tn, htn⟩ := Int.eq_ofNat_of_zero_le (show 0 ≤ t by have := eok.f0; have := eok.ft; dsimp only at *; omega)
      dsimp only at hfn
      subst hfn htn
      have hft : fn < tn := by have := eok.ft; dsimp only at this; omega
      have htl : tn < fin.length := by have := eok.tn; dsimp only at this; omega
      obtain ⟨sA, sc, l⟩ := s
      have INT0 := hide (HM.out.ev.each ⟨sA, sc, l⟩ (by rw [HX.out.2.2.2.1]; exact List.mem_of_getElem? get2))
      dsimp only at v0 ints nth_ slen sinc INT0
      have GET := hide get
      have EOK := hide eok
      have NTH := hide nth_
      have SINC := hide sinc
      have INTS := hide ints
      obtain ⟨W4, hW4⟩ : ∃ W4 : World, wr1.alloc (.cells #[.int .i64 (fn : Int), .int .i64 (tn : Int), .int .i64 (j : Int), .int .i64 wh, .int .i64 lo, .int .i64 hi'] 81) = W4 := ⟨_, rfl⟩
      have g4 := new_at hW4
      have hb4 : Below wr1.heap.size wr1 W4 := by rw [← hW4]; exact (Below.refl _ _).alloc (Nat.le_refl _) _
      obtain ⟨f0, f1, f2, f3, f4, f5⟩ := box6 g4
      have HG4 := hide g4
      have HB4 := hide (bstep HBR.out hb4)
      have HRC4 := hide (HRC.out.below hb4)
      have HW4 := hide hW4
      have v4 := (hb4.cell (p := ⟨bv, ov + j, none⟩) hbv).trans v0
      have HHAS := hide (rhas_any sA sc l st W4 (INTS.out.step hb4) (by omega))
      have hlt4 := box_lt g4
      clear get eok nth_ sinc ints hW4 g4 hb4 v0 get2
      go_upto_region 6 with (fail)
      rw [HW4.out]
      clear e0 e1 e2 e3 e4 e5
      by_cases h0 : (fn : Int) = 0
      · have T1 : ((fn : Int) == 0) = true := beq_iff_eq.2 h0
        have H0 := hide h0
        clear h0
        have hbB : W0.heap.size ≤ Bo := by rw [HBO.out]; exact Nat.le_refl _
        by_cases hm : st ∈ l
        · have T2 : decide (st ≤ en) = true := decide_eq_true hst.2
          have HH := hide (HHAS.out.mono fun e w' h => (show e = .returned (.bool true) ∧ W4 = w' from ⟨by rw [h.1, decide_eq_true hm], h.2⟩))
          have hos : os[tn]? = some (os[tn]'(by rw [HOL.out]; exact htl)) := List.getElem?_eq_getElem _
          generalize (os[tn]'(by rw [HOL.out]; exact htl)) = o at hos
          have q0 := HRC4.out.cell hos
          have q1 := HRC4.out.froz tn
          have q2 := box_lt HRC4.out.blk
          have hn0 := (show RcI x'.inp st en edges.length fin.length Bo W0 (.int .i64 ((i : Int) + 1)) ((W4.alloc (.cells #[.int .i64 st] 3)).setCell ⟨Bo, tn, none⟩ (.slice (some ⟨W4.heap.size, 0, none⟩) 1 1)) from
            ⟨i + 1, os.set tn ⟨some ⟨W4.heap.size, 0, none⟩, 1, [st]⟩, hlt, by go_num, by rw [List.length_set]; exact HOL.out,
              HRC4.out.put (ys := [st]) hos (fun b hb _ => Below.heap_alloc W4 _ b hb) (own_one st HB4.out.size) (.inr (Nat.le_refl _)),
              HRP.out.one (v := st) (fun t ht => Rk.first HOK.out.ord GET.out (by exact H0.out) ht) rfl (Rk.from0 GET.out (by exact H0.out) (by rw [NTH.out]; exact hm)),
              (HB4.out.alloc HB4.out.size _).setCell (p := ⟨Bo, tn, none⟩) hbB _⟩)
          rw [World.setCell_alloc_past (.cells #[.int .i64 st] 3) Bo tn (.slice (some ⟨W4.heap.size, 0, none⟩) 1 1) q2] at hn0
          have HN := hide hn0
          clear hn0
          clear hm hos
          go_wp2_with (go_at_call 89; refine HH.out.mono ?_; rintro e w5 ⟨rfl, rfl⟩)
          exact ⟨HN.out, by simp [intOf]; omega⟩
        · have HH := hide (HHAS.out.mono fun e w' h => (show e = .returned (.bool false) ∧ W4 = w' from ⟨by rw [h.1, decide_eq_false hm], h.2⟩))
          have HN := hide (show RcI x'.inp st en edges.length fin.length Bo W0 (.int .i64 ((i : Int) + 1)) W4 from
            ⟨i + 1, os, hlt, by go_num, HOL.out, HRC4.out, HRP.out.congr (Rk.none0 GET.out (by exact H0.out) (by rw [NTH.out]; exact hm)), HB4.out⟩)
          clear hm
          go_wp2_with (go_at_call 89; refine HH.out.mono ?_; rintro e w5 ⟨rfl, rfl⟩)
          exact ⟨HN.out, by simp [intOf]; omega⟩
      · have T1 : ((fn : Int) == 0) = false := beq_eq_false_iff_ne.2 h0
        have H0 := hide h0
        clear h0
        have hofn : os[fn]? = some (os[fn]'(by rw [HOL.out]; omega)) := List.getElem?_eq_getElem _
        generalize (os[fn]'(by rw [HOL.out]; omega)) = o0 at hofn
        obtain ⟨us, hus⟩ : ∃ us, o0.xs = us := ⟨_, rfl⟩
        have HUS := hide hus
        have HO0 := hide hofn
        have HPU := hide (show ∀ u, u ∈ us → 0 ≤ u ∧ u ≤ en from fun u hu => by
          rw [← HUS.out] at hu
          have h1 := (rch_in HOK.out (by rw [HX.out.2.2.2.2.2.2.2]; exact hst) (by rw [HX.out.2.2.2.2.2.2.2]; exact ((HRP.out.mem fn o0 HO0.out u).1 hu).rch)).2
          rw [HX.out.2.2.2.2.2.2.2] at h1
          exact h1)
        have HULEN := hide (show us.length ≤ 1099511627777 from by
          rw [← HUS.out]
          refine HRP.out.len (fun s t h => ?_) HO0.out
          have h1 := (rch_in HOK.out (by rw [HX.out.2.2.2.2.2.2.2]; exact hst) (by rw [HX.out.2.2.2.2.2.2.2]; exact h.rch)).2
          rw [HX.out.2.2.2.2.2.2.2] at h1
          omega)
        have HRP4 := hide (HRP.out.congr (fun s t => PJ.zero (e := ⟨(fn : Int), (tn : Int), (j : Int), wh, lo, hi'⟩) (us := us) (l := l) s t))
        have HUI := hide (show ∀ t, t ∈ us ↔ Rk x'.inp st en i (fn : Int) t from fun t => by rw [← HUS.out]; exact HRP.out.mem fn o0 HO0.out t)
        have HCS := hide (show CsAt W0 AS cs from by have h1 := HM.out.cs; rw [HX.out.2.2.2.2.1, HX.out.2.2.2.2.2.2.1] at h1; exact h1)
        have HCL := hide (show cs.length ≤ 140737488355328 ∧ ∀ s ∈ cs, s.xs.length ≤ 1000000000000 from by
          have h1 := HOK.out.ncs
          have h2 := HOK.out.css
          rw [HX.out.2.2.2.2.2.2.1] at h1 h2
          exact ⟨by omega, h2⟩)
        have HWH := hide (show wh = -1 ∨ ∃ k : Nat, k < cs.length ∧ wh = (k : Int) from by
          have h1 := EOK.out.w0
          have h2 := EOK.out.wn
          dsimp only at h1 h2
          rcases Int.lt_or_le wh 0 with h3 | h3
          · exact .inl (by omega)
          · obtain ⟨k, hk⟩ := Int.eq_ofNat_of_zero_le h3
            exact .inr ⟨k, by omega, hk⟩)
        have HIC := hide (show x'.inp.cs = cs.map SlV.xs from by unfold MIn.inp; rw [HX.out.2.2.2.2.2.2.1])
        have hl0 : 0 ≤ lo := EOK.out.l0
        have hlh : lo ≤ hi' := EOK.out.lh
        have hh1 : hi' ≤ 1099511627776 := EOK.out.h1
        have HGE := hide (show x'.inp.edges[i]? = some (⟨(fn : Int), (tn : Int), (j : Int), wh, lo, hi'⟩ : Edg) from GET.out)
        have HNT := hide (show nth x'.inp.ev (⟨(fn : Int), (tn : Int), (j : Int), wh, lo, hi'⟩ : Edg).event = l from NTH.out)
        obtain ⟨e, he⟩ : ∃ e : Edg, (⟨(fn : Int), (tn : Int), (j : Int), wh, lo, hi'⟩ : Edg) = e := ⟨_, rfl⟩
        have HEV := hide (show e.from_ = (fn : Int) ∧ e.to_ = (tn : Int) ∧ e.event = (j : Int) ∧ e.while_ = wh ∧ e.low = lo ∧ e.high = hi' from by rw [← he]; exact ⟨rfl, rfl, rfl, rfl, rfl, rfl⟩)
        rw [he] at HGE HNT HRP4
        have hbB : W0.heap.size ≤ Bo := by rw [HBO.out]; exact Nat.le_refl _
        have HBX := hide (show W4.heap[wr1.heap.size]? = some (.cells (cEdg e).toArray 81 (0, 0)) from by rw [← he]; exact HG4.out)
        have HCE := hide (show (cEdg e).toArray = #[.int .i64 (fn : Int), .int .i64 (tn : Int), .int .i64 (j : Int), .int .i64 wh, .int .i64 lo, .int .i64 hi'] from by rw [← he]; rfl)
        have hBw : Bo < wr1.heap.size := box_lt HRC.out.blk
        clear hus hofn HHAS HRC GET EOK NTH INTS he HRP
        go_wp2_with fail
        go_loopw [15] (fun k wr => RcJ x'.inp st en fin.length Bo i e fn us l W0 wr1 k wr) (fun k _ => us.length - (intOf k).toNat)
        case atStart => exact ⟨0, os, Nat.zero_le _, rfl, HOL.out, HRC4.out, HRP4.out, ⟨o0, HO0.out, HUS.out⟩, HB4.out, HBX.out⟩
        case round =>
          obtain ⟨wr2, rfl⟩ : ∃ w2 : World, w2 = wr := ⟨_, rfl⟩
          obtain ⟨q, os2, hq, rfl, hol, hrc, hrp, ⟨o2, ho2, hxs⟩, hbr, hg⟩ := hrel
          obtain ⟨oA, oc, ous⟩ := o2
          dsimp only at hxs
          have hxs : us = ous := hxs.symm
          subst hxs
          have HOL2 := hide hol
          have HRC2 := hide hrc
          have HRP2 := hide hrp
          have HO2 := hide ho2
          have HBR2 := hide hbr
          have HG2 := hide hg
          have c0 := hrc.cell ho2
          have c1 := hrc.ints ho2
          dsimp only at c0 c1
          rw [HCE.out] at hg
          obtain ⟨f0, f1, f2, f3, f4, f5⟩ := box6 hg
          have hsz2 := box_lt hg
          clear hol hrc hrp ho2 hbr hg HOL HRC4 HRP4 HO0 HUS HB4 HBX HBR HW4 HG4
          have hul := HULEN.out
          by_cases hlt2 : q < us.length
          · obtain ⟨bu, ou, rfl, hbu, e10⟩ := c1.at_ hlt2
            have hu : us[q]? = some us[q] := List.getElem?_eq_getElem hlt2
            have hub := HPU.out _ (List.getElem_mem hlt2)
            have HU := hide hu
            clear hu
            generalize us[q] = u at *
            go_wp2_with fail
            go_loopw [17] (fun j wr => RcK x'.inp st en fin.length Bo i e fn us q l W0 wr1 j wr) (fun j _ => l.length - (intOf j).toNat)
            case atStart => exact ⟨0, os2, Nat.zero_le _, rfl, HOL2.out, HRC2.out, HRP2.out, ⟨_, HO2.out, rfl⟩, HBR2.out, HG2.out⟩
            case round =>
              obtain ⟨wr3, rfl⟩ : ∃ w2 : World, w2 = wr := ⟨_, rfl⟩
              obtain ⟨j3, os3, hj3, rfl, hol, hrc, hrp, ho3, hbr, hg⟩ := hrel
              have HOL3 := hide hol
              have HRC3 := hide hrc
              have HRP3 := hide hrp
              have HO3 := hide ho3
              have HBR3 := hide hbr
              have HG3 := hide hg
              rw [HCE.out] at hg
              have hsz3 := box_lt hg
              obtain ⟨f0, f1, f2, f3, f4, f5⟩ := box6 hg
              clear hol hrc hrp ho3 hbr hg c0 c1 e10
              by_cases hlt3 : j3 < l.length
              · obtain ⟨bl, ol, rfl, hbl0, e110⟩ := INT0.out.at_ hlt3
                have e11 := (HBR3.out.cell (p := ⟨bl, ol + j3, none⟩) hbl0).trans e110
                have hbl : bl < wr3.heap.size := Nat.lt_of_lt_of_le hbl0 HBR3.out.size
                clear e110
                have hv' : l[j3]? = some l[j3] := List.getElem?_eq_getElem hlt3
                have hvb := SINC.out.2 _ (List.getElem_mem hlt3)
                have HV := hide hv'
                have HVM := hide (List.getElem_mem hlt3)
                clear hv'
                generalize l[j3] = v at *
                have hot : os3[tn]? = some (os3[tn]'(by rw [HOL3.out]; exact htl)) := List.getElem?_eq_getElem _
                generalize (os3[tn]'(by rw [HOL3.out]; exact htl)) = ot at hot
                obtain ⟨tA, tc, ts⟩ := ot
                have HOT := hide hot
                have c2 := HRC3.out.cell hot
                dsimp only at c2
                have HTS := hide (HRC3.out.own hot)
                have HTM := hide (show ∀ t, t ∈ ts ↔ PJ x'.inp st en i e us q l j3 (tn : Int) t from HRP3.out.mem tn _ hot)
                have HPJI := hide (show ∀ s t, PJ x'.inp st en i e us q l j3 s t → 0 ≤ t ∧ t ≤ 1099511627776 from fun s t h => by
                  rcases h with h | ⟨_, ⟨u', _, h⟩ | ⟨u', _, _, h⟩⟩
                  · have h1 := (rch_in HOK.out (by rw [HX.out.2.2.2.2.2.2.2]; exact hst) (by rw [HX.out.2.2.2.2.2.2.2]; exact h.rch)).2
                    rw [HX.out.2.2.2.2.2.2.2] at h1
                    omega
                  · have h1 := SINC.out.2 t (by rw [← HNT.out]; exact h.1)
                    omega
                  · have h1 := SINC.out.2 t (by rw [← HNT.out]; exact h.1)
                    omega)
                have htsl := HRP3.out.len HPJI.out hot
                dsimp only at htsl
                have HHAS3 := hide (fun wx (hb : Below wr3.heap.size wr3 wx) => rhas_any tA tc ts v wx ((HTS.out.below hb (Nat.le_refl _)).ats) (by omega))
                have HHLD := hide (fun wx (hb : Below W0.heap.size W0 wx) => rholds_any AS cS cs wh u (v - 1) wx HWH.out (HCS.out.step hb) HCL.out.1 HCL.out.2 (by omega) (by omega))
                have hwv : IntKind.i64.wrap (v - 1) = v - 1 := by rw [IntKind.wrap_i64]; omega
                have hw1 : IntKind.i64.wrap (u + lo) = u + lo := by rw [IntKind.wrap_i64]; omega
                have hw2 : IntKind.i64.wrap (u + hi') = u + hi' := by rw [IntKind.wrap_i64]; omega
                have HGO := hide (show GoesW x'.inp en e u v ↔ (u + lo ≤ v ∧ v ≤ u + hi' ∧ v ≤ en ∧ HoldW (cs.map SlV.xs) wh u v) from by
                  unfold GoesW
                  rw [HNT.out, HEV.out.2.2.2.1, HEV.out.2.2.2.2.1, HEV.out.2.2.2.2.2, HIC.out]
                  exact ⟨fun h => h.2, fun h => ⟨HVM.out, h⟩⟩)
                clear hot
                go_upto_region 17 with (fail)
                go_cut [136] (fun v' wx => ∃ z : Bool, v' = .bool z ∧ (z = true → GoesW x'.inp en e u v ∧ v ∉ ts) ∧ (z = false → ¬ GoesW x'.inp en e u v ∨ v ∈ ts) ∧ Below wr3.heap.size wr3 wx)
                case first =>
                  by_cases c1v : v ≤ en
                  · have T1 : decide (v ≤ en) = true := decide_eq_true c1v
                    by_cases c2v : u + lo ≤ v
                    · have T2 : decide (u + lo ≤ v) = true := decide_eq_true c2v
                      by_cases c3v : v ≤ u + hi'
                      · have T3 : decide (v ≤ u + hi') = true := decide_eq_true c3v
                        by_cases c4v : v ∈ ts
                        · have HH := hide (fun wx hb => (HHAS3.out wx hb).mono fun e w' h => (show e = .returned (.bool true) ∧ wx = w' from ⟨by rw [h.1, decide_eq_true c4v], h.2⟩))
                          have HC4 := hide c4v
                          clear c1v c2v c3v c4v
                          go_quiet ((go_at_call 89; exact Calls.quiet_of_same ((HH.out _ (below_drewN (Below.refl _ _) _)).mono fun _ _ h => ⟨h.1, h.2.symm⟩)))
                          go_wp2_with fail
                          go_meet
                          exact ⟨false, rfl, (fun e => by cases e), fun _ => .inr HC4.out, below_drewN (Below.refl _ _) nq⟩
                        · have HH := hide (fun wx hb => (HHAS3.out wx hb).mono fun e w' h => (show e = .returned (.bool false) ∧ wx = w' from ⟨by rw [h.1, decide_eq_false c4v], h.2⟩))
                          have HC4 := hide (show v ∉ ts ∧ u + lo ≤ v ∧ v ≤ u + hi' ∧ v ≤ en from ⟨c4v, c2v, c3v, c1v⟩)
                          clear c1v c2v c3v c4v
                          have hz1 : wr1.heap.size < wr3.drew.heap.size := hsz3
                          have hzB : Bo < wr3.drew.heap.size := Nat.lt_trans hBw hsz3
                          have hzl : bl < wr3.drew.heap.size := hbl
                          have k0 : (wr3.drew.cell? ⟨bl, ol + j3, none⟩ = some (.int .i64 v) ∧ wr3.drew.cell? ⟨wr1.heap.size, 1, none⟩ = some (.int .i64 (tn : Int)) ∧ wr3.drew.cell? ⟨wr1.heap.size, 3, none⟩ = some (.int .i64 wh) ∧ wr3.drew.cell? ⟨wr1.heap.size, 4, none⟩ = some (.int .i64 lo) ∧ wr3.drew.cell? ⟨wr1.heap.size, 5, none⟩ = some (.int .i64 hi') ∧ wr3.drew.cell? ⟨Bo, tn, none⟩ = some (.slice tA ts.length tc) ∧ Below wr3.drew.heap.size wr3.drew wr3.drew) := ⟨e11, f1, f3, f4, f5, c2, Below.refl _ _⟩
                          go_region_held3 (fun wx => wx.cell? ⟨bl, ol + j3, none⟩ = some (.int .i64 v) ∧ wx.cell? ⟨wr1.heap.size, 1, none⟩ = some (.int .i64 (tn : Int)) ∧ wx.cell? ⟨wr1.heap.size, 3, none⟩ = some (.int .i64 wh) ∧ wx.cell? ⟨wr1.heap.size, 4, none⟩ = some (.int .i64 lo) ∧ wx.cell? ⟨wr1.heap.size, 5, none⟩ = some (.int .i64 hi') ∧ wx.cell? ⟨Bo, tn, none⟩ = some (.slice tA ts.length tc) ∧ Below wr3.drew.heap.size wr3.drew wx)
                            (first | (with_reducible assumption) | exact k0 | exact k2)
                            (first
                              | (go_at_call 89
                                 refine (HH.out wr3.drew (below_drew (Below.refl _ _))).mono ?_
                                 rintro e w5 ⟨rfl, rfl⟩)
                              | (go_at_call 65
                                 refine (HHLD.out wr3.drew (below_drew HBR3.out)).mono ?_
                                 rintro e w6 ⟨b6, rfl, hb6i, hb6⟩
                                 have HBI := hide hb6i
                                 have k2 : (w6.cell? ⟨bl, ol + j3, none⟩ = some (.int .i64 v) ∧ w6.cell? ⟨wr1.heap.size, 1, none⟩ = some (.int .i64 (tn : Int)) ∧ w6.cell? ⟨wr1.heap.size, 3, none⟩ = some (.int .i64 wh) ∧ w6.cell? ⟨wr1.heap.size, 4, none⟩ = some (.int .i64 lo) ∧ w6.cell? ⟨wr1.heap.size, 5, none⟩ = some (.int .i64 hi') ∧ w6.cell? ⟨Bo, tn, none⟩ = some (.slice tA ts.length tc) ∧ Below wr3.drew.heap.size wr3.drew w6) := ⟨(hb6.cell (p := ⟨bl, ol + j3, none⟩) hzl).trans e11, (hb6.cell (p := ⟨wr1.heap.size, 1, none⟩) hz1).trans f1, (hb6.cell (p := ⟨wr1.heap.size, 3, none⟩) hz1).trans f3, (hb6.cell (p := ⟨wr1.heap.size, 4, none⟩) hz1).trans f4, (hb6.cell (p := ⟨wr1.heap.size, 5, none⟩) hz1).trans f5, (hb6.cell (p := ⟨Bo, tn, none⟩) hzB).trans c2, hb6⟩
                                 clear hb6i hb6))
                          have hb6 := k2.2.2.2.2.2.2
                          have HB6 := hide (show Below wr3.heap.size wr3 w6 from ⟨hb6.os, hb6.tape, hb6.output, hb6.size, hb6.block⟩)
                          clear k0 k2 hb6
                          go_wp2_with fail
                          go_meet
                          have hbi := HBI.out
                          rw [Int.sub_add_cancel] at hbi
                          exact ⟨b6, rfl, fun e => ⟨HGO.out.2 ⟨HC4.out.2.1, HC4.out.2.2.1, HC4.out.2.2.2, hbi.1 e⟩, HC4.out.1⟩, (fun e => .inl fun hg => by have := hbi.2 (HGO.out.1 hg).2.2.2; rw [e] at this; cases this), HB6.out⟩
                      · have T3 : decide (v ≤ u + hi') = false := decide_eq_false c3v
                        have HNG := hide (show ¬ GoesW x'.inp en e u v from fun hg => c3v (HGO.out.1 hg).2.1)
                        clear c1v c2v c3v
                        go_quiet (fail)
                        go_wp2_with fail
                        go_meet
                        exact ⟨false, rfl, (fun e => by cases e), fun _ => .inl HNG.out, below_drewN (Below.refl _ _) nq⟩
                    · have T2 : decide (u + lo ≤ v) = false := decide_eq_false c2v
                      have HNG := hide (show ¬ GoesW x'.inp en e u v from fun hg => c2v (HGO.out.1 hg).1)
                      clear c1v c2v
                      go_quiet (fail)
                      go_wp2_with fail
                      go_meet
                      exact ⟨false, rfl, (fun e => by cases e), fun _ => .inl HNG.out, below_drewN (Below.refl _ _) nq⟩
                  · have T1 : decide (v ≤ en) = false := decide_eq_false c1v
                    have HNG := hide (show ¬ GoesW x'.inp en e u v from fun hg => c1v (HGO.out.1 hg).2.2.1)
                    clear c1v
                    go_quiet (fail)
                    go_wp2_with fail
                    go_meet
                    exact ⟨false, rfl, (fun e => by cases e), fun _ => .inl HNG.out, below_drewN (Below.refl _ _) nq⟩
                case rest =>
                  obtain ⟨z, rfl, hz1, hz2, hbw⟩ := hcut
                  have HZ1 := hide hz1
                  have HZ2 := hide hz2
                  have HBW := hide (bstep HBR3.out hbw)
                  have HRC4 := hide (HRC3.out.below hbw)
                  have hg4 := (hbw.block _ (box_lt HG3.out)).trans HG3.out
                  have HG4 := hide hg4
                  rw [HCE.out] at hg4
                  clear f0 f1 f2 f3 f4 f5
                  obtain ⟨f0, f1, f2, f3, f4, f5⟩ := box6 hg4
                  have e12 := (hbw.cell (p := ⟨bl, ol + j3, none⟩) hbl).trans e11
                  have hzw : wr1.heap.size < wc.heap.size := box_lt hg4
                  clear hz1 hz2 hbw hg4 e11 c2 HHAS3 HHLD HGO HTS HPJI HRC3 HBR3 HG3 hwv hw1 hw2
                  cases z with
                  | false =>
                    have HRN := hide (show RcP (PJ x'.inp st en i e us q l (j3 + 1)) os3 from HRP3.out.congr (fun s t => PJ.miss HU.out HV.out ((HZ2.out rfl).imp id (fun h => by rw [HEV.out.2.1]; exact (HTM.out v).1 h)) s t))
                    go_wp2_with fail
                    exact ⟨⟨j3 + 1, os3, hlt3, by go_num, HOL3.out, HRC4.out, HRN.out, HO3.out, HBW.out, HG4.out⟩, by simp [intOf]; omega⟩
                  | true =>
                    have c2 := HRC4.out.cell HOT.out
                    dsimp only at c2
                    have q1 := HRC4.out.froz tn
                    have HTS4 := hide (show OwnInt wc W0.heap.size tA tc ts from HRC4.out.own HOT.out)
                    have HNE := hide (show ob tA ≠ some Bo from HRC4.out.ne HOT.out)
                    have HNX := hide (show ob tA ≠ some wr1.heap.size from row_ne HTS4.out HG4.out (fun cur e => by injection e with _ e; exact absurd e (by decide)))
                    have hBc := box_lt HRC4.out.blk
                    have hwsz := HBW.out.size
                    go_upto_region 18 with (fail)
                    have hblB : bl ≠ Bo := by omega
                    have hwB : wr1.heap.size ≠ Bo := by omega
                    have HE12 := hide e12
                    have HF1 := hide f1
                    have k0 : (wc.drew.cell? ⟨bl, ol + j3, none⟩ = some (.int .i64 v) ∧ wc.drew.cell? ⟨wr1.heap.size, 1, none⟩ = some (.int .i64 (tn : Int))) := ⟨e12, f1⟩
                    have hblc : bl < wc.heap.size := World.block_lt_of_cell? _ _ e12
                    have hba : Below wc.heap.size wc (wc.drew.alloc (.cells #[.int .i64 v] 3)) := (below_drew (Below.refl _ _)).alloc (Nat.le_refl _) _
                    have k1 : ((wc.drew.alloc (.cells #[.int .i64 v] 3)).cell? ⟨bl, ol + j3, none⟩ = some (.int .i64 v) ∧ (wc.drew.alloc (.cells #[.int .i64 v] 3)).cell? ⟨wr1.heap.size, 1, none⟩ = some (.int .i64 (tn : Int))) := ⟨(hba.cell (p := ⟨bl, ol + j3, none⟩) hblc).trans e12, (hba.cell (p := ⟨wr1.heap.size, 1, none⟩) hzw).trans f1⟩
                    clear hba
                    refine wp_region_held_drew (S := fun wx => wx.cell? ⟨bl, ol + j3, none⟩ = some (.int .i64 v) ∧ wx.cell? ⟨wr1.heap.size, 1, none⟩ = some (.int .i64 (tn : Int))) (by kernel_rfl) ⟨e12, f1⟩ (fun hHeld => ?_)
                    refine wpAnyH_take (i := 0) (v := ?v0) (by simp only [List.getElem?_toArray, List.getElem?_cons_zero]; rfl) (by kernel_rfl) (by kernel_rfl) (by kernel_rfl) (by exact fun _ _ _ h => h) (Or.inl ⟨by rfl, ?hy0⟩) hHeld ?rest0
                    case hy0 =>
                      intro w hSw
                      try dsimp only at hSw
                      go_simp
                      try with_reducible rfl
                    try simp only [Act.put, List.setIfInBounds_toArray, List.set_cons_zero, List.set_cons_succ]
                    refine wpAnyH_take (i := 1) (v := ?v1) (by simp only [List.getElem?_toArray, List.getElem?_cons_succ, List.getElem?_cons_zero]; rfl) (by kernel_rfl) (by kernel_rfl) (by kernel_rfl) (by exact fun _ _ _ h => h) (Or.inl ⟨by rfl, ?hy1⟩) hHeld ?rest1
                    case hy1 =>
                      intro w hSw
                      try dsimp only at hSw
                      go_simp
                      try with_reducible rfl
                    try simp only [Act.put, List.setIfInBounds_toArray, List.set_cons_zero, List.set_cons_succ]
                    refine wpAnyH_take (i := 2) (v := ?v2) (by simp only [List.getElem?_toArray, List.getElem?_cons_succ, List.getElem?_cons_zero]; rfl) (by kernel_rfl) (by kernel_rfl) (by kernel_rfl) (by exact fun _ _ _ h => h) (Or.inl ⟨by rfl, ?hy2⟩) hHeld ?rest2
                    case hy2 =>
                      intro w hSw
                      try dsimp only at hSw
                      go_simp
                      try with_reducible rfl
                    try simp only [Act.put, List.setIfInBounds_toArray, List.set_cons_zero, List.set_cons_succ]
                    refine wpAnyH_take (i := 3) (v := ?v3) (by simp only [List.getElem?_toArray, List.getElem?_cons_succ, List.getElem?_cons_zero]; rfl) (by kernel_rfl) (by kernel_rfl) (by kernel_rfl) (by exact fun _ _ _ h => h) (Or.inl ⟨by rfl, ?hy3⟩) hHeld ?rest3
                    case hy3 =>
                      intro w hSw
                      try dsimp only at hSw
                      go_simp
                      try with_reducible rfl
                    try simp only [Act.put, List.setIfInBounds_toArray, List.set_cons_zero, List.set_cons_succ]
                    refine wpAnyH_take (i := 4) (v := ?v4) (by simp only [List.getElem?_toArray, List.getElem?_cons_succ, List.getElem?_cons_zero]; rfl) (by kernel_rfl) (by kernel_rfl) (by kernel_rfl) (by exact fun _ _ _ h => h) (Or.inl ⟨by rfl, ?hy4⟩) hHeld ?rest4
                    case hy4 =>
                      intro w hSw
                      try dsimp only at hSw
                      go_simp
                      try with_reducible rfl
                    try simp only [Act.put, List.setIfInBounds_toArray, List.set_cons_zero, List.set_cons_succ]
                    refine wpAnyH_take (i := 5) (v := ?v5) (by simp only [List.getElem?_toArray, List.getElem?_cons_succ, List.getElem?_cons_zero]; rfl) (by kernel_rfl) (by kernel_rfl) (by kernel_rfl) (by exact fun _ _ _ h => h) (Or.inl ⟨by rfl, ?hy5⟩) hHeld ?rest5
                    case hy5 =>
                      intro w hSw
                      try dsimp only at hSw
                      go_simp
                      try with_reducible rfl
                    try simp only [Act.put, List.setIfInBounds_toArray, List.set_cons_zero, List.set_cons_succ]
                    refine wpAnyH_take (i := 6) (v := ?v6) (by simp only [List.getElem?_toArray, List.getElem?_cons_succ, List.getElem?_cons_zero]; rfl) (by kernel_rfl) (by kernel_rfl) (by kernel_rfl) (by exact fun _ _ _ h => h) (Or.inl ⟨by rfl, ?hy6⟩) hHeld ?rest6
                    case hy6 =>
                      intro w hSw
                      try dsimp only at hSw
                      go_simp
                      try with_reducible rfl
                    try simp only [Act.put, List.setIfInBounds_toArray, List.set_cons_zero, List.set_cons_succ]
                    refine wpAnyH_take (i := 8) (v := ?v8) (by simp only [List.getElem?_toArray, List.getElem?_cons_succ, List.getElem?_cons_zero]; rfl) (by kernel_rfl) (by kernel_rfl) (by kernel_rfl) (by exact fun _ _ _ h => h) (Or.inl ⟨by rfl, ?hy8⟩) hHeld ?rest8
                    case hy8 =>
                      intro w hSw
                      try dsimp only at hSw
                      go_simp
                      try with_reducible rfl
                    try simp only [Act.put, List.setIfInBounds_toArray, List.set_cons_zero, List.set_cons_succ]
                    refine wpAnyH_take (i := 9) (v := ?v9) (by simp only [List.getElem?_toArray, List.getElem?_cons_succ, List.getElem?_cons_zero]; rfl) (by kernel_rfl) (by kernel_rfl) (by kernel_rfl) (by exact fun _ _ _ h => h) (Or.inl ⟨by rfl, ?hy9⟩) hHeld ?rest9
                    case hy9 =>
                      intro w hSw
                      try dsimp only at hSw
                      go_simp
                      try with_reducible rfl
                    try simp only [Act.put, List.setIfInBounds_toArray, List.set_cons_zero, List.set_cons_succ]
                    refine wpAnyH_take (i := 10) (v := ?v10) (by simp only [List.getElem?_toArray, List.getElem?_cons_succ, List.getElem?_cons_zero]; rfl) (by kernel_rfl) (by kernel_rfl) (by kernel_rfl) (by exact fun _ _ _ h => h) (Or.inl ⟨by rfl, ?hy10⟩) hHeld ?rest10
                    case hy10 =>
                      intro w hSw
                      try dsimp only at hSw
                      go_simp
                      try with_reducible rfl
                    try simp only [Act.put, List.setIfInBounds_toArray, List.set_cons_zero, List.set_cons_succ]
                    refine wpAnyH_take (i := 11) (v := ?v11) (by simp only [List.getElem?_toArray, List.getElem?_cons_succ, List.getElem?_cons_zero]; rfl) (by kernel_rfl) (by kernel_rfl) (by kernel_rfl) (by exact fun _ _ _ h => h) (Or.inl ⟨by rfl, ?hy11⟩) hHeld ?rest11
                    case hy11 =>
                      intro w hSw
                      try dsimp only at hSw
                      go_simp
                      try with_reducible rfl
                    try simp only [Act.put, List.setIfInBounds_toArray, List.set_cons_zero, List.set_cons_succ]
                    refine wpAnyH_ready (rs := [7, 12]) (by kernel_rfl) (by simp) ?_
                    refine AllReadyH.cons (o := ?_) (by simp only [List.getElem?_toArray, List.getElem?_cons_succ, List.getElem?_cons_zero]; rfl) (fun K hK => ?b7) ?more
                    case b7 =>
                      go_simp
                      refine hK.out _ _ k0 (fun hHeld => ?_)
                      clear hK K
                      try simp only [Act.put, List.setIfInBounds_toArray, List.set_cons_zero, List.set_cons_succ]
                      refine wpAnyH_ready (rs := [12]) (by kernel_rfl) (by simp) ?_
                      refine AllReadyH.cons (o := ?_) (by simp only [List.getElem?_toArray, List.getElem?_cons_succ, List.getElem?_cons_zero]; rfl) (fun K hK => ?_) AllReadyH.nil
                      go_simp
                      refine hK.out _ _ k1 (fun hHeld => ?_)
                      clear hK K
                      try simp only [Act.put, List.setIfInBounds_toArray, List.set_cons_zero, List.set_cons_succ]
                      refine wpAnyH_ready (rs := [13]) (by kernel_rfl) (by simp) ?_
                      refine AllReadyH.cons (o := ?_) (by simp only [List.getElem?_toArray, List.getElem?_cons_succ, List.getElem?_cons_zero]; rfl) (fun K hK => ?_) AllReadyH.nil
                      refine step_append_int rfl (.tmp 144) (.tmp 149) rfl W0.heap.size tA tc ts ts.length rfl rfl v wc.heap.size rfl wc rfl rfl HTS4.out (by omega) hwsz ?_
                      intro g9 c9 w9 hon9 hgr9 hg9
                      have hk9 : ∀ b, b < wc.heap.size → ob tA ≠ some b → w9.heap[b]? = wc.heap[b]? := fun b hb hne => (hgr9.block b (by simp; omega) (fun e => hne e.symm)).trans (Below.heap_alloc wc.drew _ b hb)
                      have hBo9 := (hk9 Bo hBc HNE.out).trans HRC4.out.blk
                      have hX9 := (hk9 wr1.heap.size hzw HNX.out).trans HG4.out
                      have d1 : w9.cell? ⟨Bo, tn, none⟩ = some (.slice tA ts.length tc) := by rw [cell_of_row w9 Bo tn _ _ (0, 0) hBo9]; simp [HOT.out, vSl]
                      have d2 : w9.frozen? ⟨Bo, tn, none⟩ = false := by simp [World.frozen?, hBo9]
                      have HK9 := hide hk9
                      have HX9 := hide hX9
                      have HON9 := hide hon9
                      have hb9 := ((below_drew HBW.out).alloc hwsz (.cells #[.int .i64 v] 3)).grown hgr9 (by simp; omega) (fun k hk => (own_ob HTS4.out k hk).1)
                      have k9 : (w9.cell? ⟨bl, ol + j3, none⟩ = some (.int .i64 v) ∧ w9.cell? ⟨wr1.heap.size, 1, none⟩ = some (.int .i64 (tn : Int))) := ⟨(hb9.cell (p := ⟨bl, ol + j3, none⟩) hbl0).trans ((HBW.out.cell (p := ⟨bl, ol + j3, none⟩) hbl0).symm.trans HE12.out), by have h := hX9; rw [HCE.out] at h; exact (box6 h).2.1⟩
                      have k9s : ∀ u, ((w9.setCell ⟨Bo, tn, none⟩ u).cell? ⟨bl, ol + j3, none⟩ = some (.int .i64 v) ∧ (w9.setCell ⟨Bo, tn, none⟩ u).cell? ⟨wr1.heap.size, 1, none⟩ = some (.int .i64 (tn : Int))) := fun u => ⟨(cell_set_other hblB).trans k9.1, (cell_set_other hwB).trans k9.2⟩
                      have HB9 := hide hb9
                      clear hk9 hBo9 hX9 hon9 hgr9 hb9
                      refine hK.out _ _ k9 (fun hHeld => ?_)
                      clear hK K
                      try simp only [Act.put, List.setIfInBounds_toArray, List.set_cons_zero, List.set_cons_succ]
                      refine wpAnyH_take (i := 14) (v := ?v14) (by simp only [List.getElem?_toArray, List.getElem?_cons_succ, List.getElem?_cons_zero]; rfl) (by kernel_rfl) (by kernel_rfl) (by kernel_rfl) (by exact fun _ _ _ h => h) (Or.inl ⟨by rfl, ?hy14⟩) hHeld ?rest14
                      case hy14 =>
                        intro w hSw
                        try dsimp only at hSw
                        go_simp
                        try with_reducible rfl
                      try simp only [Act.put, List.setIfInBounds_toArray, List.set_cons_zero, List.set_cons_succ]
                      refine wpAnyH_ready (rs := [15]) (by kernel_rfl) (by simp) ?_
                      refine AllReadyH.cons (o := ?_) (by simp only [List.getElem?_toArray, List.getElem?_cons_succ, List.getElem?_cons_zero]; rfl) (fun K hK => ?_) AllReadyH.nil
                      go_simp
                      refine hK.out _ _ (k9s _) (fun hHeld => ?_)
                      clear hK K
                      try simp only [Act.put, List.setIfInBounds_toArray, List.set_cons_zero, List.set_cons_succ]
                      refine wpAnyH_done (by kernel_rfl) ?_ _
                      have HP9 := hide (HRC4.out.put (w5 := w9) HOT.out HK9.out HON9.out (hg9.imp id (fun h => by omega)))
                      have HRN := hide (show RcP (PJ x'.inp st en i e us q l (j3 + 1)) (os3.set tn ⟨some ⟨g9, 0, none⟩, c9, ts ++ [v]⟩) from HRP3.out.add HOT.out (HZ1.out rfl).2 rfl (fun s t => by rw [PJ.hit HU.out HV.out (HZ1.out rfl).1, HEV.out.2.1]))
                      have HO9 := hide (show ∃ o, (os3.set tn ⟨some ⟨g9, 0, none⟩, c9, ts ++ [v]⟩)[fn]? = some o ∧ o.xs = us from by
                        obtain ⟨o3, h1, h2⟩ := HO3.out
                        exact ⟨o3, by rw [List.getElem?_set_ne (by omega)]; exact h1, h2⟩)
                      have HL9 := hide (show (ts ++ [v]).length = ts.length + 1 from by simp)
                      have hp9 := HP9.out
                      rw [HL9.out] at hp9
                      have HP9' := hide hp9
                      clear hp9 HP9
                      go_wp2_with fail
                      exact ⟨⟨j3 + 1, _, hlt3, by go_num, by rw [List.length_set]; exact HOL3.out, HP9'.out, HRN.out, HO9.out, HB9.out.setCell (p := ⟨Bo, tn, none⟩) hbB _, (Below.heap_setCell _ _ _ _ (by show wr1.heap.size ≠ Bo; omega)).trans HX9.out⟩, by simp [intOf]; omega⟩
                    case more =>
                      refine AllReadyH.cons (o := ?_) (by simp only [List.getElem?_toArray, List.getElem?_cons_succ, List.getElem?_cons_zero]; rfl) (fun K hK => ?_) AllReadyH.nil
                      go_simp
                      refine hK.out _ _ k1 (fun hHeld => ?_)
                      clear hK K
                      try simp only [Act.put, List.setIfInBounds_toArray, List.set_cons_zero, List.set_cons_succ]
                      refine wpAnyH_ready (rs := [7]) (by kernel_rfl) (by simp) ?_
                      refine AllReadyH.cons (o := ?_) (by simp only [List.getElem?_toArray, List.getElem?_cons_succ, List.getElem?_cons_zero]; rfl) (fun K hK => ?_) AllReadyH.nil
                      go_simp
                      refine hK.out _ _ k1 (fun hHeld => ?_)
                      clear hK K
                      try simp only [Act.put, List.setIfInBounds_toArray, List.set_cons_zero, List.set_cons_succ]
                      refine wpAnyH_ready (rs := [13]) (by kernel_rfl) (by simp) ?_
                      refine AllReadyH.cons (o := ?_) (by simp only [List.getElem?_toArray, List.getElem?_cons_succ, List.getElem?_cons_zero]; rfl) (fun K hK => ?_) AllReadyH.nil
                      refine step_append_int rfl (.tmp 144) (.tmp 149) rfl W0.heap.size tA tc ts ts.length rfl rfl v wc.heap.size rfl wc rfl rfl HTS4.out (by omega) hwsz ?_
                      intro g9 c9 w9 hon9 hgr9 hg9
                      have hk9 : ∀ b, b < wc.heap.size → ob tA ≠ some b → w9.heap[b]? = wc.heap[b]? := fun b hb hne => (hgr9.block b (by simp; omega) (fun e => hne e.symm)).trans (Below.heap_alloc wc.drew _ b hb)
                      have hBo9 := (hk9 Bo hBc HNE.out).trans HRC4.out.blk
                      have hX9 := (hk9 wr1.heap.size hzw HNX.out).trans HG4.out
                      have d1 : w9.cell? ⟨Bo, tn, none⟩ = some (.slice tA ts.length tc) := by rw [cell_of_row w9 Bo tn _ _ (0, 0) hBo9]; simp [HOT.out, vSl]
                      have d2 : w9.frozen? ⟨Bo, tn, none⟩ = false := by simp [World.frozen?, hBo9]
                      have HK9 := hide hk9
                      have HX9 := hide hX9
                      have HON9 := hide hon9
                      have hb9 := ((below_drew HBW.out).alloc hwsz (.cells #[.int .i64 v] 3)).grown hgr9 (by simp; omega) (fun k hk => (own_ob HTS4.out k hk).1)
                      have k9 : (w9.cell? ⟨bl, ol + j3, none⟩ = some (.int .i64 v) ∧ w9.cell? ⟨wr1.heap.size, 1, none⟩ = some (.int .i64 (tn : Int))) := ⟨(hb9.cell (p := ⟨bl, ol + j3, none⟩) hbl0).trans ((HBW.out.cell (p := ⟨bl, ol + j3, none⟩) hbl0).symm.trans HE12.out), by have h := hX9; rw [HCE.out] at h; exact (box6 h).2.1⟩
                      have k9s : ∀ u, ((w9.setCell ⟨Bo, tn, none⟩ u).cell? ⟨bl, ol + j3, none⟩ = some (.int .i64 v) ∧ (w9.setCell ⟨Bo, tn, none⟩ u).cell? ⟨wr1.heap.size, 1, none⟩ = some (.int .i64 (tn : Int))) := fun u => ⟨(cell_set_other hblB).trans k9.1, (cell_set_other hwB).trans k9.2⟩
                      have HB9 := hide hb9
                      clear hk9 hBo9 hX9 hon9 hgr9 hb9
                      refine hK.out _ _ k9 (fun hHeld => ?_)
                      clear hK K
                      try simp only [Act.put, List.setIfInBounds_toArray, List.set_cons_zero, List.set_cons_succ]
                      refine wpAnyH_take (i := 14) (v := ?v14b) (by simp only [List.getElem?_toArray, List.getElem?_cons_succ, List.getElem?_cons_zero]; rfl) (by kernel_rfl) (by kernel_rfl) (by kernel_rfl) (by exact fun _ _ _ h => h) (Or.inl ⟨by rfl, ?hy14b⟩) hHeld ?rest14b
                      case hy14b =>
                        intro w hSw
                        try dsimp only at hSw
                        go_simp
                        try with_reducible rfl
                      try simp only [Act.put, List.setIfInBounds_toArray, List.set_cons_zero, List.set_cons_succ]
                      refine wpAnyH_ready (rs := [15]) (by kernel_rfl) (by simp) ?_
                      refine AllReadyH.cons (o := ?_) (by simp only [List.getElem?_toArray, List.getElem?_cons_succ, List.getElem?_cons_zero]; rfl) (fun K hK => ?_) AllReadyH.nil
                      go_simp
                      refine hK.out _ _ (k9s _) (fun hHeld => ?_)
                      clear hK K
                      try simp only [Act.put, List.setIfInBounds_toArray, List.set_cons_zero, List.set_cons_succ]
                      refine wpAnyH_done (by kernel_rfl) ?_ _
                      have HP9 := hide (HRC4.out.put (w5 := w9) HOT.out HK9.out HON9.out (hg9.imp id (fun h => by omega)))
                      have HRN := hide (show RcP (PJ x'.inp st en i e us q l (j3 + 1)) (os3.set tn ⟨some ⟨g9, 0, none⟩, c9, ts ++ [v]⟩) from HRP3.out.add HOT.out (HZ1.out rfl).2 rfl (fun s t => by rw [PJ.hit HU.out HV.out (HZ1.out rfl).1, HEV.out.2.1]))
                      have HO9 := hide (show ∃ o, (os3.set tn ⟨some ⟨g9, 0, none⟩, c9, ts ++ [v]⟩)[fn]? = some o ∧ o.xs = us from by
                        obtain ⟨o3, h1, h2⟩ := HO3.out
                        exact ⟨o3, by rw [List.getElem?_set_ne (by omega)]; exact h1, h2⟩)
                      have HL9 := hide (show (ts ++ [v]).length = ts.length + 1 from by simp)
                      have hp9 := HP9.out
                      rw [HL9.out] at hp9
                      have HP9' := hide hp9
                      clear hp9 HP9
                      go_wp2_with fail
                      exact ⟨⟨j3 + 1, _, hlt3, by go_num, by rw [List.length_set]; exact HOL3.out, HP9'.out, HRN.out, HO9.out, HB9.out.setCell (p := ⟨Bo, tn, none⟩) hbB _, (Below.heap_setCell _ _ _ _ (by show wr1.heap.size ≠ Bo; omega)).trans HX9.out⟩, by simp [intOf]; omega⟩
              · have hje : j3 = l.length := by omega
                subst hje
                have HRN := hide (HRP3.out.congr (fun s t => PJ.row HU.out HNT.out s t))
                go_wp2_with fail
                exact ⟨⟨q + 1, os3, hlt2, by go_num, HOL3.out, HRC3.out, HRN.out, HO3.out, HBR3.out, HG3.out⟩, by simp [intOf]; omega⟩
          · have hqe : q = us.length := by omega
            have HRN := hide (show RcP (Rk x'.inp st en (i + 1)) os2 from RcP.congr HRP2.out (fun s t => by rw [hqe]; exact PJ.done HGE.out (by rw [HEV.out.1]; exact H0.out) (by rw [HEV.out.1]; exact HUI.out) s t))
            clear hqe
            go_wp2_with fail
            exact ⟨⟨i + 1, os2, hlt, by go_num, HOL2.out, HRC2.out, HRN.out, HBR2.out⟩, by simp [intOf]; omega⟩
    · have hie : i = edges.length := by omega
      have HE := hide (show RReachPost x' st w (.returned (.slice (some ⟨Bo, 0, none⟩) fin.length fin.length)) wr1 from ⟨Bo, os, by rw [HX.out.1], by rw [HX.out.1]; exact HOL.out, HRC.out.lower HB0.out.size, HRP.out.congr (fun s t => by rw [HX.out.2.2.2.2.2.2.2, ← rk_iff HOK.out.ord, HEX.out, hie]), bstep HB0.out HBR.out⟩)
      clear hie
      go_wp2_with fail
      go_ret
      exact HE.out

end Go.Proofs.Ytkbiefklilelmaa
