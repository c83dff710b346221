/-
  wavestoreref52.Sets: its walk.
-/
import Derived.Test.YtkbiefklilelmaaRefTwo
namespace Go.Proofs.Ytkbiefklilelmaa
open Go.RowKit Go.Joins

theorem setsEnd_k {w W w1 : World} {a b a' b' : Value} {t : TypeId} (hb0 : Below w.heap.size w W) (gb : W.heap[w.heap.size + 1]? = some (.cells #[a, b] t (0, 0))) (gn : W.heap[w.heap.size]? = some (.cells #[a', b'] t (0, 0))) (b1 : Below W.heap.size W w1) :
    Below w.heap.size w w1 ∧ w1.heap[w.heap.size + 1]? = some (.cells #[a, b] t (0, 0)) ∧ w1.heap[w.heap.size]? = some (.cells #[a', b'] t (0, 0)) ∧ (w1.cell? ⟨w.heap.size + 1, 0, none⟩ = some a ∧ w1.cell? ⟨w.heap.size + 1, 1, none⟩ = some b ∧ Below w.heap.size w w1) := by
  have h2 := box_below b1 gb
  exact ⟨bstep hb0 b1, h2, box_below b1 gn, (box2 h2).1, (box2 h2).2, bstep hb0 b1⟩
theorem setsEnd_s {w w1 : World} {a b u v : Value} {t : TypeId} (hb0 : Below w.heap.size w w1) (gb : w1.heap[w.heap.size + 1]? = some (.cells #[a, b] t (0, 0))) :
    (((w1.setCell ⟨w.heap.size, 0, none⟩ u).setCell ⟨w.heap.size, 1, none⟩ v).cell? ⟨w.heap.size + 1, 0, none⟩ = some a ∧ ((w1.setCell ⟨w.heap.size, 0, none⟩ u).setCell ⟨w.heap.size, 1, none⟩ v).cell? ⟨w.heap.size + 1, 1, none⟩ = some b ∧ Below w.heap.size w ((w1.setCell ⟨w.heap.size, 0, none⟩ u).setCell ⟨w.heap.size, 1, none⟩ v)) := by
  have h := set2_other (u := u) (v := v) gb (show w.heap.size + 1 ≠ w.heap.size by omega)
  exact ⟨(box2 h).1, (box2 h).2, (hb0.setCell (by simp) u).setCell (by simp) v⟩
theorem setsEnd_w {w w1 w2 W3 : World} {p q c1 c2 : Nat} {A1 A2 : Option Addr} {y1 y2 : List Iv} {a' b' : Value} (hb2 : Below w.heap.size w w2) (br2 : w2.heap[w.heap.size]? = some (.cells #[a', b'] 24 (0, 0)))
    (o1 : OwnIv w1 p A1 c1 y1) (h1 : w.heap.size ≤ p) (b2 : Below w1.heap.size w1 w2) (o2 : OwnIv w2 q A2 c2 y2) (h2 : w.heap.size ≤ q)
    (hW : (w2.setCell ⟨w.heap.size, 0, none⟩ (.slice A1 y1.length c1)).setCell ⟨w.heap.size, 1, none⟩ (.slice A2 y2.length c2) = W3) :
    W3.cell? ⟨w.heap.size, 0, none⟩ = some (.slice A1 y1.length c1) ∧ W3.cell? ⟨w.heap.size, 1, none⟩ = some (.slice A2 y2.length c2) ∧ Below w.heap.size w W3 ∧ OwnIv W3 w.heap.size A1 c1 y1 ∧ OwnIv W3 w.heap.size A2 c2 y2 := by
  subst hW
  have hb := box2_set (u := .slice A1 y1.length c1) (v := .slice A2 y2.length c2) br2
  exact ⟨(box2 hb).1, (box2 hb).2, (hb2.setCell (by simp) _).setCell (by simp) _, (set2_own br2 (own_below b2 o1)).lower h1, (set2_own br2 o2).lower h2⟩

theorem getD_at {l : List Int} {k : Nat} (h : k < l.length) : l.getD k 5 = l[k] := by simp [h]

set_option maxRecDepth 100000 in
set_option maxHeartbeats 8000000 in
theorem sets_any (A B : Option Addr) (c d : Nat) (hs ls : List Int) (lo : Int) (w : World) (hh : IntsAt w w.heap.size A hs) (hl : IntsAt w w.heap.size B ls) (hlen : ls.length = hs.length) (h65 : hs.length ≤ 65) (h0 : 0 ≤ lo) (h1 : lo ≤ 64) :
    Calls Try.prog 24 #[.slice A hs.length c, .slice B ls.length d, .int .i64 lo] w (RetTr w (fun t => ∃ i : Nat, i < hs.length ∧ t = lo + i ∧ hs.getD i 5 = 2) (fun t => ∃ i : Nat, i < ls.length ∧ t = lo + i ∧ ls.getD i 5 = 0)) := by
  have HLEN := hide hlen
  have hll : ls.length ≤ 65 := by omega
  have hge : ∀ k, k < hs.length → k < ls.length := fun k h => by omega
  have HGE := hide hge
  clear hlen hge
  go_enter Try.func24, Try.ntmps24
  go_wp2_with fail
  obtain ⟨W0, hW0⟩ : ∃ W0 : World, ((w.alloc (.cells #[.slice none 0 0, .slice none 0 0] 24)).alloc (.cells #[.slice none 0 0, .slice none 0 0] 24)) = W0 := ⟨_, rfl⟩
  obtain ⟨hb0, hz0, bn, bb⟩ := two_boxes hW0
  rw [hW0]
  clear hW0
  go_loopw [8] (fun i wr => SetsRel w hs ls lo i wr) (fun i _ => hs.length - (intOf i).toNat)
  case atStart => exact ⟨0, none, 0, none, 0, by omega, rfl, bb, bn, OwnIv.nil _ _, OwnIv.nil _ _, .inl rfl, hb0⟩
  case round =>
    obtain ⟨k, A1, c1, A2, c2, hk, rfl, gb, gn, o1, o2, ap, hb⟩ := hrel
    by_cases hlt : k < hs.length
    · have hlt2 := HGE.out k hlt
      have HS := hide (sets_start (p := lo + (k : Int)) gb gn o1 o2 ap hb)
      have hkl1 := pick_len hs 2 lo k
      have hkl2 := pick_len ls 0 lo k
      have PY1 := hide (fun h => pick_yes (hs := hs) (v := 2) (lo := lo) (k := k) h)
      have PN1 := hide (fun h => pick_no (hs := hs) (v := 2) (lo := lo) (k := k) h)
      have PY2 := hide (fun h => pick_yes (hs := ls) (v := 0) (lo := lo) (k := k) h)
      have PN2 := hide (fun h => pick_no (hs := ls) (v := 0) (lo := lo) (k := k) h)
      rw [getD_at hlt] at PY1 PN1
      rw [getD_at hlt2] at PY2 PN2
      clear gb gn o1 o2 ap
      go_upto_region 6 with fail
      generalize pick hs 2 lo k = xs at *
      generalize pick ls 0 lo k = ys at *
      generalize wr.alloc (.cells #[.int .i64 (lo + (k : Int)), .int .i64 (lo + (k : Int))] 42) = W at *
      generalize wr.heap.size = M at *
      have hb' := HS.out.hb
      obtain ⟨ba, oa, hAe, hba, hca⟩ := (hh.below hb').at_ hlt
      obtain ⟨bc, oc, hBe, hbc, hcc⟩ := (hl.below hb').at_ hlt2
      subst hAe hBe
      generalize hs[k] = hv at *
      generalize ls[k] = lv at *
      obtain ⟨q1, q2⟩ := box2 HS.out.gb
      obtain ⟨q3, q4⟩ := box2_frozen HS.out.gb
      obtain ⟨q5, q6⟩ := box2 HS.out.gt
      have hd1 : decide ((k : Int) < (hs.length : Int)) = true := decide_eq_true (by omega)
      have hcw : w.cell? ⟨bc, oc + k, none⟩ = some (.int .i64 lv) := (hb'.cell (p := ⟨bc, oc + k, none⟩) hbc).symm.trans hcc
      clear hcc hb0 hz0 bn bb hh hl hb'
      by_cases hhv : hv = 2
      · have PE1 := hide (PY1.out hhv)
        subst hhv
        clear PY1 PN1
        go_upto_region 8 with (at_builtin; (refine append_iv_at rfl _ _ rfl (w.heap.size + 2) A1 c1 xs _ rfl rfl (lo + (k : Int)) (lo + (k : Int)) _ rfl _ rfl (by simp) HS.out.o1 (by omega) HS.out.lt ?_); intro g1 e1 w5 hown5 hg5 hgrow5 hblk5 hrow5; obtain ⟨gb5, hs5⟩ := HS.out.put1 hgrow5 hown5 (by simpa using hblk5) hrow5; have HT := hide hs5; have f1 := (box2 gb5).1; have f2 := (box2_frozen gb5).1; clear hgrow5 hown5 hblk5 hrow5 hs5 q1 q2 q3 q4 q5 q6)
        clear f1 f2 gb5 hca
        generalize w5.setCell ⟨w.heap.size + 1, 0, none⟩ (.slice (some ⟨g1, 0, none⟩) (xs.length + 1) e1) = V at *
        have hb6 := HT.out.hb
        have hcc6 : V.cell? ⟨bc, oc + k, none⟩ = some (.int .i64 lv) := (hb6.cell (p := ⟨bc, oc + k, none⟩) hbc).trans hcw
        obtain ⟨r1, r2⟩ := box2 HT.out.gb
        obtain ⟨r3, r4⟩ := box2_frozen HT.out.gb
        obtain ⟨r5, r6⟩ := box2 HT.out.gt
        by_cases hlv : lv = 0
        · have PE2 := hide (PY2.out hlv)
          subst hlv
          go_wp2_with (at_builtin; (refine append_iv_at rfl _ _ rfl (w.heap.size + 2) A2 c2 ys _ rfl rfl (lo + (k : Int)) (lo + (k : Int)) _ rfl _ rfl (by simp) HT.out.o2 (by omega) HT.out.lt ?_); intro g2 e2 w7 hown7 hg7 hgrow7 hblk7 hrow7; obtain ⟨gb7, hs7⟩ := HT.out.put2 hgrow7 hown7 (by simpa using hblk7) hrow7; have HS7 := hide hs7; have f3 := (box2 gb7).2; have f4 := (box2_frozen gb7).2; clear hgrow7 hown7 hblk7 hrow7 hs7)
          go_roundw
          case rel =>
            have X := HS7.out
            refine ⟨k + 1, some ⟨g1, 0, none⟩, e1, some ⟨g2, 0, none⟩, e2, by omega, by go_num, ?_, X.gn, ?_, ?_, X.ap, X.hb⟩
            · rw [PE1.out, PE2.out]; exact X.gb
            · rw [PE1.out]; exact X.o1
            · rw [PE2.out]; exact X.o2
          case measure => simp [intOf]; omega
        · have PE2 := hide (PN2.out hlv)
          have hne2 : (lv == 0) = false := beq_false_of_ne hlv
          go_wp2_with fail
          go_roundw
          case rel =>
            have X := HT.out
            refine ⟨k + 1, some ⟨g1, 0, none⟩, e1, A2, c2, by omega, by go_num, ?_, X.gn, ?_, ?_, X.ap, X.hb⟩
            · rw [PE1.out, PE2.out]; exact X.gb
            · rw [PE1.out]; exact X.o1
            · rw [PE2.out]; exact X.o2
          case measure => simp [intOf]; omega
      · have PE1 := hide (PN1.out hhv)
        have hne1 : (hv == 2) = false := beq_false_of_ne hhv
        clear PY1 PN1
        have HT := HS
        go_upto_region 8 with fail
        clear q1 q2 q3 q4 q5 q6 hca hne1 hhv
        obtain ⟨V, hV⟩ : ∃ V, V = W := ⟨_, rfl⟩
        subst hV
        have hb6 := HT.out.hb
        have hcc6 : V.cell? ⟨bc, oc + k, none⟩ = some (.int .i64 lv) := (hb6.cell (p := ⟨bc, oc + k, none⟩) hbc).trans hcw
        obtain ⟨r1, r2⟩ := box2 HT.out.gb
        obtain ⟨r3, r4⟩ := box2_frozen HT.out.gb
        obtain ⟨r5, r6⟩ := box2 HT.out.gt
        by_cases hlv : lv = 0
        · have PE2 := hide (PY2.out hlv)
          subst hlv
          go_wp2_with (at_builtin; (refine append_iv_at rfl _ _ rfl (w.heap.size + 2) A2 c2 ys _ rfl rfl (lo + (k : Int)) (lo + (k : Int)) _ rfl _ rfl (by simp) HT.out.o2 (by omega) HT.out.lt ?_); intro g2 e2 w7 hown7 hg7 hgrow7 hblk7 hrow7; obtain ⟨gb7, hs7⟩ := HT.out.put2 hgrow7 hown7 (by simpa using hblk7) hrow7; have HS7 := hide hs7; have f3 := (box2 gb7).2; have f4 := (box2_frozen gb7).2; clear hgrow7 hown7 hblk7 hrow7 hs7)
          go_roundw
          case rel =>
            have X := HS7.out
            refine ⟨k + 1, A1, c1, some ⟨g2, 0, none⟩, e2, by omega, by go_num, ?_, X.gn, ?_, ?_, X.ap, X.hb⟩
            · rw [PE1.out, PE2.out]; exact X.gb
            · rw [PE1.out]; exact X.o1
            · rw [PE2.out]; exact X.o2
          case measure => simp [intOf]; omega
        · have PE2 := hide (PN2.out hlv)
          have hne2 : (lv == 0) = false := beq_false_of_ne hlv
          go_wp2_with fail
          go_roundw
          case rel =>
            have X := HT.out
            refine ⟨k + 1, A1, c1, A2, c2, by omega, by go_num, ?_, X.gn, ?_, ?_, X.ap, X.hb⟩
            · rw [PE1.out, PE2.out]; exact X.gb
            · rw [PE1.out]; exact X.o1
            · rw [PE2.out]; exact X.o2
          case measure => simp [intOf]; omega
    · have hke : k = hs.length := by omega
      subst hke
      clear hk hlt
      have MP := hide (fun t => pick_mem hs 2 lo hs.length h0 (by omega) t)
      have MQ := hide (fun t => pick_mem ls 0 lo hs.length h0 (by omega) t)
      rw [← HLEN.out] at MQ
      rw [HLEN.out] at MQ
      have l1 := pick_len hs 2 lo hs.length
      have l2 := pick_len ls 0 lo hs.length
      generalize pick hs 2 lo hs.length = xs at *
      generalize pick ls 0 lo hs.length = ys at *
      clear HGE hb0 hz0 bn bb hh hl ap
      have kS := setsEnd_k (w1 := wr.drew) hb gb gn (below_drew (Below.refl _ _))
      have ox := o1.ats
      have oy := o2.ats
      have oxd : IvsAt wr.drew wr.drew.heap.size A1 xs := ox
      have hsz := hb.size
      go_wp2_with fail
      go_region_held3 (fun wx => wx.cell? ⟨w.heap.size + 1, 0, none⟩ = some (.slice A1 xs.length c1) ∧ wx.cell? ⟨w.heap.size + 1, 1, none⟩ = some (.slice A2 ys.length c2) ∧ Below w.heap.size w wx)
        (first | (with_reducible assumption) | exact kS.2.2.2 | exact setsEnd_s hb2 gb2)
        (first
          | (go_at_call_of 50 xs; refine (refNormal_any A1 c1 xs wr.drew oxd (by omega)).mono ?_; rintro e w1 ⟨B1, d1, y1, rfl, p1, b1, n1, m1⟩; have b1' := bstep (w0 := wr) (w := wr.drew) (below_drew (Below.refl _ _)) b1; obtain ⟨hb1, gb1, gn1, k1⟩ := setsEnd_k hb gb gn b1'; have M1 := hide m1; clear m1)
          | (go_at_call_of 50 ys; refine (refNormal_any A2 c2 ys w1 (oy.step b1') (by omega)).mono ?_; rintro e w2 ⟨B2, d2, y2, rfl, p2, b2, n2, m2⟩; obtain ⟨hb2, gb2, gn2, k2⟩ := setsEnd_k hb1 gb1 gn1 b2; have M2 := hide m2; clear m2; have q1 := (box2 gn2).1; have q2 := (box2 gn2).2; have q3 := (box2_frozen gn2).1; have q4 := (box2_frozen gn2).2))
      obtain ⟨W3, hW3⟩ : ∃ W3 : World, (w2.setCell ⟨w.heap.size, 0, none⟩ (.slice B1 y1.length d1)).setCell ⟨w.heap.size, 1, none⟩ (.slice B2 y2.length d2) = W3 := ⟨_, rfl⟩
      obtain ⟨f1, f2, hb3, r1, r2⟩ := setsEnd_w hb2 gn2 p1 hb.size b2 p2 (Nat.le_trans hb.size b1'.size) hW3
      rw [hW3]
      clear hW3
      go_wp2_with fail
      exact bodyPost_ret (v := .agg #[.slice B1 y1.length d1, .slice B2 y2.length d2]) (by simp [results, Try.results24, go_sem, f1, f2]) rfl ⟨B1, d1, y1, B2, d2, y2, rfl, r1, r2, hb3, n1, n2, fun t => (M1.out t).trans (MP.out t), fun t => (M2.out t).trans (by rw [HLEN.out]; exact MQ.out t)⟩

end Go.Proofs.Ytkbiefklilelmaa
