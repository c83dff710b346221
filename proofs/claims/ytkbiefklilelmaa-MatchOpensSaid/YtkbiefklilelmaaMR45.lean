/-
  Several texts in one: RefStarts. Each says at its head what it holds.
-/
import Derived.Test.YtkbiefklilelmaaMR44
import Derived.Test.YtkbiefklilelmaaMR37

/-
  wavestoreref55.starts: the times of a range at which ways can begin, put in at their places.
-/
namespace Go.Proofs.Ytkbiefklilelmaa
open Go.RowKit Go.Joins

def RStRel (x : Inp) (N : Nat) (f t : Int) (W : World) (out i : Value) (wr : World) : Prop :=
  ∃ (k g c : Nat) (zs : List Int), k ≤ N ∧ i = .int .i64 k ∧ out = .slice (some ⟨g, 0, none⟩) zs.length c ∧ OwnInt wr W.heap.size (some ⟨g, 0, none⟩) c zs ∧ Below W.heap.size W wr ∧ zs.length ≤ 24 * k ∧ zs.Pairwise (· < ·) ∧ ∀ u, u ∈ zs ↔ StK x f t k u
def RStIn (x : Inp) (f t : Int) (i : Nat) (l : List Int) (W : World) (out k : Value) (wr : World) : Prop :=
  ∃ (j g c : Nat) (zs : List Int), j ≤ l.length ∧ k = .int .i64 j ∧ out = .slice (some ⟨g, 0, none⟩) zs.length c ∧ OwnInt wr W.heap.size (some ⟨g, 0, none⟩) c zs ∧ Below W.heap.size W wr ∧ zs.length ≤ 24 * i + j ∧ zs.Pairwise (· < ·) ∧ ∀ u, u ∈ zs ↔ StP x f t i l j u
def RStJ (zs : List Int) (v : Int) (W : World) (j : Value) (wr : World) : Prop := ∃ k : Nat, k ≤ zs.length ∧ j = .int .i64 k ∧ (∀ u ∈ zs.take k, u < v) ∧ Below W.heap.size W wr
theorem own_some {w : World} {base c : Nat} {A : Option Addr} {zs : List Int} (h : OwnInt w base A c zs) (hz : zs ≠ []) : ∃ g, A = some ⟨g, 0, none⟩ := by
  rcases h.form with ⟨_, _, h3⟩ | ⟨g, h1, _⟩
  · exact absurd h3 hz
  · exact ⟨g, h1⟩

set_option maxRecDepth 100000 in
set_option maxHeartbeats 8000000 in
theorem rstarts_any (x : MIn) (from_ to_ : Int) (w : World) (h : MAt w x) (ok : MOk x) :
    Calls Try.prog 61 #[.agg (encA x.a).toArray, .slice x.AV x.ev.length x.cV, .int .i64 from_, .int .i64 to_] w (RetInts w (ListOf (StartS x.inp from_ to_))) := by
  obtain ⟨W0, hW0⟩ : ∃ W0, w.alloc (.cells (encA x.a).toArray 50) = W0 := ⟨_, rfl⟩
  have g0 := new_at hW0
  have hb0 : Below w.heap.size w W0 := by rw [← hW0]; exact (Below.refl _ _).alloc (Nat.le_refl _) _
  have HB0 := hide hb0
  have HM := hide (h.step hb0)
  have HOK := hide ok
  have hed := ok.few
  obtain ⟨x', hx'⟩ : ∃ x', x = x' := ⟨_, rfl⟩
  rw [hx'] at HM HOK ⊢
  obtain ⟨⟨AE, nE, cE, AC, nC, cC, AF, cF, fin, AX, cX, edges⟩, AV, cV, ev, AS, cS, cs, en⟩ := x
  dsimp only at hed
  have HX := hide (show x'.a = ⟨AE, nE, cE, AC, nC, cC, AF, cF, fin, AX, cX, edges⟩ ∧ x'.AV = AV ∧ x'.cV = cV ∧ x'.ev = ev from by rw [← hx']; exact ⟨rfl, rfl, rfl, rfl⟩)
  have hA : encA x'.a = [.slice AE nE cE, .slice AC nC cC, .slice AF fin.length cF, .slice AX edges.length cX] := by rw [HX.out.1]; rfl
  have hargs : (#[.agg (encA x'.a).toArray, .slice x'.AV x'.ev.length x'.cV, .int .i64 from_, .int .i64 to_] : Array Value) = #[.agg #[.slice AE nE cE, .slice AC nC cC, .slice AF fin.length cF, .slice AX edges.length cX], .slice AV ev.length cV, .int .i64 from_, .int .i64 to_] := by
    rw [hA, HX.out.2.1, HX.out.2.2.1, HX.out.2.2.2]
  rw [hargs]
  have g0' : W0.heap[w.heap.size]? = some (.cells #[.slice AE nE cE, .slice AC nC cC, .slice AF fin.length cF, .slice AX edges.length cX] 50 (0, 0)) := g0
  have hW0' : w.alloc (.cells #[.slice AE nE cE, .slice AC nC cC, .slice AF fin.length cF, .slice AX edges.length cX] 50) = W0 := hW0
  have HG0 := hide g0'
  have HW0 := hide hW0'
  have HEX := hide (show x'.inp.edges.length = edges.length from by unfold MIn.inp; rw [HX.out.1])
  clear hx' hA hargs g0 g0' hW0 hW0' hb0 h ok
  go_enter Try.func61, Try.ntmps61
  go_upto_region 1 with (fail)
  rw [HW0.out]
  go_wp2_with fail
  go_loopw [9, 10] (fun out i wr => RStRel x'.inp edges.length from_ to_ W0 out i wr) (fun _ i _ => edges.length - (intOf i).toNat)
  case atStart => exact ⟨0, W0.heap.size, 0, [], Nat.zero_le _, rfl, rfl, OwnInt.empty W0 _ (Nat.le_refl _), (Below.refl _ _).alloc (Nat.le_refl _) _, by simp, List.Pairwise.nil, fun t => ⟨fun h => by simp at h, fun h => absurd h stK_zero⟩⟩
  case round =>
    obtain ⟨wr1, rfl⟩ : ∃ w2 : World, w2 = wr := ⟨_, rfl⟩
    obtain ⟨i, g, c, zs, hi, rfl, rfl, hown, hbr, hzl, hsrt, hmem⟩ := hrel
    have HOWN := hide hown
    have HBR := hide hbr
    have HZL := hide hzl
    have HSRT := hide hsrt
    have HMEM := hide hmem
    obtain ⟨y0, y1, y2, y3, -⟩ := box4 ((hbr.block _ (box_lt HG0.out)).trans HG0.out)
    clear hown hbr hzl hsrt hmem
    by_cases hlt : i < edges.length
    · obtain ⟨be, oe, bv, ov, j, s, f, t, wh, lo, hi', ea⟩ := edge_at HOK.out (HM.out.step HBR.out) (k := i) (by rw [HX.out.1]; exact hlt)
      have ax := ea.ax
      have av := ea.av
      rw [HX.out.1] at ax
      rw [HX.out.2.1] at av
      dsimp only at ax av
      subst ax av
      obtain ⟨-, -, get, e0, e1, e2, e3, e4, e5, v0, -, jl, nth_, get2, slen, sinc, -, hbe, hbv⟩ := ea
      rw [HX.out.2.2.2] at jl
      obtain ⟨sA, sc, l⟩ := s
      have INT0 := hide (HM.out.ev.each ⟨sA, sc, l⟩ (List.mem_of_getElem? get2))
      dsimp only at v0 nth_ slen INT0
      have GET := hide (show x'.inp.edges[i]? = some _ from get)
      have NTH := hide nth_
      clear get nth_ get2 sinc
      by_cases h0 : f = 0
      · have T1 : (f != 0) = false := by simp [h0]
        have H0 := hide h0
        clear h0
        go_wp2_with fail
        go_loopw [9, 12] (fun out k wr => RStIn x'.inp from_ to_ i l W0 out k wr) (fun _ k _ => l.length - (intOf k).toNat)
        case atStart => exact ⟨0, g, c, zs, Nat.zero_le _, rfl, rfl, HOWN.out, HBR.out, HZL.out, HSRT.out, fun u => (HMEM.out u).trans (StP.zero u)⟩
        case round =>
          obtain ⟨wr2, rfl⟩ : ∃ w2 : World, w2 = wr := ⟨_, rfl⟩
          obtain ⟨q, g2, c2, ys, hq, rfl, rfl, hown, hbr, hyl, hsrt, hmem⟩ := hrel
          have HOWN2 := hide hown
          have HBR2 := hide hbr
          have HYL := hide hyl
          have HSRT2 := hide hsrt
          have HMEM2 := hide hmem
          clear hown hbr hyl hsrt hmem HOWN HBR HZL HSRT HMEM y0 y1 y2 y3 e0 e1 e2 e3 e4 e5 v0
          by_cases hql : q < l.length
          · obtain ⟨bl, ol, rfl, hbl, e6⟩ := (INT0.out.step HBR2.out).at_ hql
            have hq' : l[q]? = some l[q] := List.getElem?_eq_getElem hql
            have HQ := hide hq'
            clear hq'
            generalize l[q] = v at *
            by_cases s1 : v < from_
            · have T1 : decide (v < from_) = true := decide_eq_true s1
              have HN := hide (fun u => (HMEM2.out u).trans (StP.skip HQ.out (.inl (.inl s1)) u))
              clear s1
              go_wp2_with fail
              exact ⟨⟨q + 1, g2, c2, ys, hql, by go_num, rfl, HOWN2.out, HBR2.out, by have := HYL.out; omega, HSRT2.out, HN.out⟩, by simp [intOf]; omega⟩
            · have T1 : decide (v < from_) = false := decide_eq_false s1
              by_cases s2 : to_ < v
              · have T2 : decide (to_ < v) = true := decide_eq_true s2
                have HN := hide (fun u => (HMEM2.out u).trans (StP.skip HQ.out (.inl (.inr s2)) u))
                clear s1 s2
                go_wp2_with fail
                exact ⟨⟨q + 1, g2, c2, ys, hql, by go_num, rfl, HOWN2.out, HBR2.out, by have := HYL.out; omega, HSRT2.out, HN.out⟩, by simp [intOf]; omega⟩
              · have T2 : decide (to_ < v) = false := decide_eq_false s2
                have HHAS := hide (rhas_any (some ⟨g2, 0, none⟩) c2 ys v wr2 HOWN2.out.ats (by have := HYL.out; omega))
                by_cases hm : v ∈ ys
                · have HH := hide (HHAS.out.mono fun e w' h => (show e = .returned (.bool true) ∧ wr2 = w' from ⟨by rw [h.1, decide_eq_true hm], h.2⟩))
                  have HN := hide (fun u => (HMEM2.out u).trans (StP.skip HQ.out (.inr ((HMEM2.out v).1 hm)) u))
                  clear s1 s2 hm HHAS
                  go_wp2_with (go_at_call 89; refine HH.out.mono ?_; rintro e w5 ⟨rfl, rfl⟩)
                  exact ⟨⟨q + 1, g2, c2, ys, hql, by go_num, rfl, HOWN2.out, HBR2.out, by have := HYL.out; omega, HSRT2.out, HN.out⟩, by simp [intOf]; omega⟩
                · have HH := hide (HHAS.out.mono fun e w' h => (show e = .returned (.bool false) ∧ wr2 = w' from ⟨by rw [h.1, decide_eq_false hm], h.2⟩))
                  have HNM := hide hm
                  have HS := hide (show from_ ≤ v ∧ v ≤ to_ from by omega)
                  clear s1 s2 hm HHAS
                  go_upto_region 12 with (go_at_call 89; refine HH.out.mono ?_; rintro e w5 ⟨rfl, rfl⟩)
                  go_loopw [13] (fun j wr => RStJ ys v wr2 j wr) (fun j _ => ys.length - (intOf j).toNat)
                  case atStart => exact ⟨0, Nat.zero_le _, rfl, by simp, Below.refl _ _⟩
                  case round =>
                    obtain ⟨wr3, rfl⟩ : ∃ w2 : World, w2 = wr := ⟨_, rfl⟩
                    obtain ⟨j2, hj2, rfl, hbe4, hbr3⟩ := hrel
                    have HBF := hide hbe4
                    have HBR3 := hide hbr3
                    have e7 := (hbr3.cell (p := ⟨bl, ol + q, none⟩) hbl).trans e6
                    clear hbe4 hbr3
                    go_upto_region 12 with (fail)
                    go_cut [81] (fun v' wx => ∃ z : Bool, v' = .bool z ∧ (z = true ↔ ∃ h : j2 < ys.length, ys[j2] < v) ∧ Below wr3.heap.size wr3 wx)
                    case first =>
                      by_cases hjl : j2 < ys.length
                      · obtain ⟨b9, o9, e10, hb9, e9⟩ := (HOWN2.out.ats.step HBR3.out).at_ hjl
                        injection e10 with e10
                        injection e10 with e11 e12
                        subst e11 e12
                        rw [Nat.zero_add] at e9
                        have T3 : decide ((j2 : Int) < (ys.length : Int)) = true := decide_eq_true (by omega)
                        by_cases hv : ys[j2] < v
                        · have T4 : decide (ys[j2] < v) = true := decide_eq_true hv
                          have HZ := hide (show ∃ h : j2 < ys.length, ys[j2] < v from ⟨hjl, hv⟩)
                          generalize ys[j2] = u at *
                          clear hv
                          go_quiet (fail)
                          go_wp2_with fail
                          go_meet
                          exact ⟨true, rfl, ⟨fun _ => HZ.out, fun _ => rfl⟩, below_drewN (Below.refl _ _) nq⟩
                        · have T4 : decide (ys[j2] < v) = false := decide_eq_false hv
                          have HZ := hide (show ¬ ∃ h : j2 < ys.length, ys[j2] < v from fun h => hv h.2)
                          generalize ys[j2] = u at *
                          clear hv
                          go_quiet (fail)
                          go_wp2_with fail
                          go_meet
                          exact ⟨false, rfl, ⟨(fun e => by cases e), fun h => absurd h HZ.out⟩, below_drewN (Below.refl _ _) nq⟩
                      · have T3 : decide ((j2 : Int) < (ys.length : Int)) = false := decide_eq_false (by omega)
                        have HZ := hide (show ¬ ∃ h : j2 < ys.length, ys[j2] < v from fun h => hjl h.1)
                        go_quiet (fail)
                        go_wp2_with fail
                        go_meet
                        exact ⟨false, rfl, ⟨(fun e => by cases e), fun h => absurd h HZ.out⟩, below_drewN (Below.refl _ _) nq⟩
                    case rest =>
                      obtain ⟨z, rfl, hz, hbw⟩ := hcut
                      have HZ := hide hz
                      have HB4 := hide (bstep HBR3.out hbw)
                      have e8 := (hbw.cell (p := ⟨bl, ol + q, none⟩) (Nat.lt_of_lt_of_le hbl HBR3.out.size)).trans e7
                      clear hz hbw e7
                      cases z with
                      | true =>
                        obtain ⟨hjl, hv⟩ := HZ.out.1 rfl
                        have HN := hide (show ∀ u ∈ ys.take (j2 + 1), u < v from fun u hu => by
                          rw [take_one (List.getElem?_eq_getElem hjl), List.mem_append, List.mem_singleton] at hu
                          rcases hu with hu | rfl
                          · exact HBF.out u hu
                          · exact hv)
                        clear hv
                        have hyl := HYL.out
                        go_wp2_with fail
                        exact ⟨⟨j2 + 1, hjl, by go_num, HN.out, HB4.out⟩, by simp [intOf]; omega⟩
                      | false =>
                        have HFD := hide (far_drop (j := j2) HSRT2.out HNM.out fun hjl => Int.not_lt.1 fun hv => by have := HZ.out.2 ⟨hjl, hv⟩; cases this)
                        have HOWN4 := hide (HOWN2.out.below HB4.out (Nat.le_refl _))
                        have HB4' := hide (bstep HBR2.out HB4.out)
                        have hyl := HYL.out
                        have hcap : ys.length ≤ c2 ∧ c2 ≤ 9223372036854775807 := by
                          rcases HOWN4.out.form with ⟨h1, _⟩ | ⟨_, _, _, _, h1, h2⟩
                          · cases h1
                          · unfold maxLen at h2; omega
                        obtain ⟨hcap1, hcap2⟩ := hcap
                        clear HZ
                        go_upto_region 14 with (fail)
                        have HTI := hide (HOWN4.out.ats.take j2)
                        obtain ⟨A4, hA4, hI4⟩ : ∃ A4 : Addr, (if c2 = j2 then (some ⟨g2, 0, none⟩ : Option Addr) else some ⟨g2, j2, none⟩) = some A4 ∧ Hid (IntsAt wc wc.heap.size (some A4) (ys.drop j2)) := by
                          by_cases hc : c2 = j2
                          · exact ⟨⟨g2, 0, none⟩, by rw [if_pos hc], hide (by rw [List.drop_of_length_le (by omega)]; exact IntsAt.nil)⟩
                          · exact ⟨_, by rw [if_neg hc], hide (by have h1 := HOWN4.out.ats.drop j2; rw [Nat.zero_add] at h1; exact h1)⟩
                        have hjc : j2 ≤ c2 := by omega
                        have HDL := hide (show ys.length - j2 = (ys.drop j2).length from List.length_drop.symm)
                        go_upto_region 15 with (at_builtin; (refine append_ints_any rfl _ _ rfl wc.heap.size (some ⟨wc.heap.size, 0, none⟩) 0 [] 0 rfl rfl (OwnInt.empty wc _ (Nat.le_refl _)) (some A4) (ys.length - j2) (c2 - j2) wc.heap.size (ys.drop j2) (by simp [Act.eval]) HDL.out (hI4.out.below ((Below.refl _ _).alloc (Nat.le_refl _) _)) (by omega) (by simp) ?_); intro A5 c5 w5 row5 ho5 hg5 hr5)
                        rw [List.nil_append] at ho5
                        have HPUT := hide (put_in HSRT2.out HBF.out HFD.out)
                        have HPM := hide (fun u => (put_mem (zs := ys) (v := v) j2 u).trans ((or_congr_left (HMEM2.out u)).trans (StP.add HQ.out HS.out.1 HS.out.2 u).symm))
                        have HPL := hide (put_len (zs := ys) (v := v) (j := j2))
                        have hb5 : Below wc.heap.size wc w5 := ((Below.refl _ _).alloc (Nat.le_refl _) _).grown hg5 (by simp) hr5
                        have HB5 := hide (bstep HB4'.out hb5)
                        have HDI := hide ho5.ats
                        have HTI5 := hide (HTI.out.step hb5)
                        have hblc : bl < wc.heap.size := Nat.lt_of_lt_of_le hbl HB4.out.size
                        have e9 := (hb5.cell (p := ⟨bl, ol + q, none⟩) hblc).trans e8
                        have hbl5 : bl < w5.heap.size := Nat.lt_of_lt_of_le hblc hb5.size
                        have HTL := hide (show j2 = (ys.take j2).length from by rw [List.length_take]; omega)
                        have hq0 : (0 : Int) ≤ (q : Int) := Int.natCast_nonneg _
                        have hq1 : (q : Int) < (l.length : Int) := by omega
                        clear hb5 ho5 hg5 hr5 hI4 e8 e6 HTI HOWN2 HOWN4 HB4 HB4' HFD HBF HSRT2 HMEM2 HBR2 HBR3 HH HNM hcap1 hcap2 hA4
                        have HBA := hide (show Below w5.heap.size w5 (w5.drew.alloc (.cells #[] 3)) from (below_drew (Below.refl _ _)).alloc (Nat.le_refl _) _)
                        have HBB := hide (show Below w5.heap.size w5 ((w5.drew.alloc (.cells #[] 3)).alloc (.cells #[.int .i64 v] 3)) from HBA.out.alloc (by simp) _)
                        have HBC := hide (show Below w5.heap.size w5 ((w5.drew.alloc (.cells #[.int .i64 v] 3)).alloc (.cells #[] 3)) from ((below_drew (Below.refl _ _)).alloc (Nat.le_refl _) _).alloc (by simp) _)
                        have HGB := hide (show ((w5.drew.alloc (.cells #[] 3)).alloc (.cells #[.int .i64 v] 3)).heap[w5.heap.size + 1]? = some (.cells #[.int .i64 v] 3 (0, 0)) from by
                          have h := heap_alloc_new (w5.drew.alloc (.cells #[] 3)) (.cells #[.int .i64 v] 3)
                          rw [show (w5.drew.alloc (.cells #[] 3)).heap.size = w5.heap.size + 1 by simp] at h
                          exact h)
                        have HGC := hide (show ((w5.drew.alloc (.cells #[.int .i64 v] 3)).alloc (.cells #[] 3)).heap[w5.heap.size]? = some (.cells #[.int .i64 v] 3 (0, 0)) from box_alloc (heap_alloc_new w5.drew (.cells #[.int .i64 v] 3)))
                        have HOC := hide (show OwnInt ((w5.drew.alloc (.cells #[.int .i64 v] 3)).alloc (.cells #[] 3)) w5.heap.size (some ⟨w5.heap.size + 1, 0, none⟩) 0 [] from by
                          have h := OwnInt.empty (w5.drew.alloc (.cells #[.int .i64 v] 3)) w5.heap.size (by simp)
                          rw [show (w5.drew.alloc (.cells #[.int .i64 v] 3)).heap.size = w5.heap.size + 1 by simp] at h
                          exact h)
                        go_region_law
                          (first
                            | (refine step_append_ints rfl (.tmp 89) (.tmp 92) rfl w5.heap.size (some ⟨_, 0, none⟩) 0 [] 0 rfl rfl (by first | exact HOC.out | exact OwnInt.empty _ _ (Nat.le_refl _) | exact (OwnInt.empty _ _ (Nat.le_refl _)).alloc _) _ _ _ w5.heap.size (ys.take j2) rfl HTL.out (by first | exact HTI5.out.below HBA.out | exact HTI5.out.below HBB.out | exact HTI5.out.below HBC.out) (by omega) (by first | (simp; done) | (simp; omega)) ?_
                               intro A6 c6 w6 ho6 hg6 hr6
                               rw [List.nil_append] at ho6
                               have hb6 : Below w5.heap.size w5 w6 := by
                                 first
                                   | exact HBA.out.grown hg6 (by simp) hr6
                                   | exact HBB.out.grown hg6 (by simp; omega) hr6
                                   | exact HBC.out.grown hg6 (by simp; omega) hr6
                               try (have gm6 := box_grown HGB.out hg6 (by simp [Value.ownBlock]))
                               try (have gm6 := box_grown HGC.out hg6 (by simp [Value.ownBlock]))
                               have e6 := (hb6.cell (p := ⟨bl, ol + q, none⟩) hbl5).trans e9
                               clear hg6 hr6)
                            | (refine step_append_ints rfl (.tmp 93) (.tmp 98) rfl w5.heap.size A6 c6 (ys.take j2) _ rfl (by have := HTL.out; omega) (by first | exact ho6 | exact ho6.alloc _) _ _ _ _ [v] rfl rfl (by first | exact ints_new gm6 | exact ints_new (heap_alloc_new w6 _)) (by omega) (by have := hb6.size; first | (simp; done) | (simp; omega) | omega) ?_
                               intro A7 c7 w7 ho7 hg7 hr7
                               have hb7 : Below w5.heap.size w5 w7 := by
                                 first
                                   | exact hb6.grown hg7 hb6.size hr7
                                   | exact (hb6.alloc hb6.size _).grown hg7 (by have := hb6.size; simp; omega) hr7
                               clear hg7 hr7)
                            | (refine step_append_ints rfl (.tmp 99) (.tmp 100) rfl w5.heap.size A7 c7 (ys.take j2 ++ [v]) _ rfl (by have := HTL.out; rw [List.length_append, ← this]; simp) ho7 _ _ _ w5.heap.size (ys.drop j2) rfl (by have := HDL.out; omega) (HDI.out.below hb7) (by omega) hb7.size ?_
                               intro A8 c8 w8 ho8 hg8 hr8
                               have hb8 : Below w5.heap.size w5 w8 := hb7.grown hg8 hb7.size hr8
                               clear hg8 hr8)
                            | fail)
                        all_goals
                          obtain ⟨g8, rfl⟩ := own_some ho8 (by simp)
                          have HO8 := hide (ho8.lower HB5.out.size)
                          have HB8 := hide (bstep HB5.out hb8)
                          go_wp2_with fail
                          exact ⟨⟨q + 1, g8, c8, ys.take j2 ++ [v] ++ ys.drop j2, hql, by go_num, (by simp only [Value.slice.injEq, true_and, and_true]; rw [HPL.out]; omega), HO8.out, HB8.out, by rw [HPL.out]; omega, HPUT.out, HPM.out⟩, by simp [intOf]; omega⟩
          · have hqe : q = l.length := by omega
            subst hqe
            have HN := hide (fun u => (HMEM2.out u).trans (StP.done GET.out H0.out NTH.out u))
            go_wp2_with fail
            exact ⟨⟨i + 1, g2, c2, ys, hlt, by go_num, rfl, HOWN2.out, HBR2.out, by have := HYL.out; omega, HSRT2.out, HN.out⟩, by simp [intOf]; omega⟩
      · have T1 : (f != 0) = true := by rw [bne_iff_ne]; exact h0
        have HN := hide (show ∀ u, u ∈ zs ↔ StK x'.inp from_ to_ (i + 1) u from fun u => by
          rw [stK_succ GET.out, HMEM.out]
          exact ⟨.inl, fun h => h.elim id fun h => absurd h.1 h0⟩)
        clear h0
        go_wp2_with fail
        exact ⟨⟨i + 1, g, c, zs, hlt, by go_num, rfl, HOWN.out, HBR.out, by have := HZL.out; omega, HSRT.out, HN.out⟩, by simp [intOf]; omega⟩
    · have hie : i = edges.length := by omega
      have HE := hide (show RetInts w (ListOf (StartS x'.inp from_ to_)) (.returned (.slice (some ⟨g, 0, none⟩) zs.length c)) wr1 from ⟨_, c, zs, rfl, HOWN.out.lower HB0.out.size, bstep HB0.out HBR.out, HSRT.out, fun v => by rw [HMEM.out, ← stK_all, HEX.out, hie]⟩)
      clear hie
      go_wp2_with fail
      go_ret
      exact HE.out

end Go.Proofs.Ytkbiefklilelmaa
