/-
  wavestoreref03.sum at numbers in their form.
-/
import Derived.Test.YtdlebcijgdkfjaaGreatDoorRefAddN
namespace Go.Proofs.YtdlebcijgdkfjaaGreatDoor
open Go.RowKit

theorem fixD_le (a : Dec) (n : Int) (ha : DecOk a) (h0 : 0 ≤ n) (h1 : n ≤ 500) : (fixD a n).length ≤ 950 := by
  have := ha.len
  have := ha.f0
  have := ha.f1
  unfold fixD
  rw [List.length_append, List.length_replicate]
  omega
theorem dropZ_nil (l : List UInt8) : l.dropWhile zC = [] ↔ l.all zC = true := by
  induction l with
  | nil => exact ⟨fun _ => rfl, fun _ => rfl⟩
  | cons c l ih =>
    rw [List.dropWhile_cons, List.all_cons]
    cases h : zC c
    · simp
    · simpa using ih
theorem all_drop (l : List UInt8) (h : (l.dropWhile zC).all zC = true) : l.all zC = true := by
  induction l with
  | nil => rfl
  | cons c l ih =>
    rw [List.dropWhile_cons] at h
    cases hc : zC c
    · rw [hc] at h
      simp [hc] at h
    · rw [hc] at h
      rw [List.all_cons, hc, Bool.true_and]
      exact ih h
theorem rdrop_nil {l : List UInt8} : rdrop l = [] ↔ l.all zC = true := by
  unfold rdrop
  rw [List.reverse_eq_nil_iff, dropZ_nil, List.all_reverse]
/-- the program's order of texts -/
theorem less_lex : ∀ (a b : List UInt8), Op.bytesLess a b = decide (lexC a b = -1)
  | [], [] => rfl
  | _ :: _, [] => rfl
  | [], _ :: _ => rfl
  | x :: p, y :: q => by
    show (decide (x < y) || (x == y && Op.bytesLess p q)) = decide ((if x < y then -1 else if y < x then 1 else lexC p q) = -1)
    rw [less_lex p q]
    by_cases h1 : x < y
    · simp [h1]
    · by_cases h2 : y < x
      · have : x ≠ y := fun e => by subst e; exact h1 h2
        simp [h1, h2, this]
      · have : x = y := UInt8.le_antisymm (UInt8.not_lt.1 h2) (UInt8.not_lt.1 h1)
        simp [this]
theorem nrm_sgn (neg : Bool) (ds : List UInt8) (f : Int) : sgnD (nrm neg ds f) = if ds.all zC = true then 0 else if neg then -1 else 1 := by
  unfold nrm
  by_cases h : rdrop (ds.dropWhile zC) = []
  · rw [if_pos h, if_pos (all_drop _ (rdrop_nil.1 h))]; rfl
  · rw [if_neg h, if_neg (fun e => h (rdrop_nil.2 (by
      rw [List.all_eq_true] at e ⊢
      exact fun c hc => e c (List.dropWhile_suffix _ |>.subset hc))))]
    unfold sgnD
    rw [if_neg h]
/-- the three boxes of sum -/
structure SB (w : World) (a b : Dec) (W : World) : Prop where
  a : PB w w.heap.size a.neg a.ds a.fst W
  b : PB w (w.heap.size + 1) b.neg b.ds b.fst W
  z : PB w (w.heap.size + 1 + 1) false [] 0 W
theorem SB.step {w : World} {a b : Dec} {W W' : World} (h : SB w a b W) (k : Below W.heap.size W W') : SB w a b W' := ⟨h.a.step k, h.b.step k, h.z.step k⟩
theorem SB.drewN {w : World} {a b : Dec} {W : World} (h : SB w a b W) (q : Nat) : SB w a b (W.drewN q) := ⟨h.a.drewN q, h.b.drewN q, h.z.drewN q⟩
theorem SB.all {w : World} {a b : Dec} {W : World} (h : SB w a b W) : W.cell? ⟨w.heap.size, 0, none⟩ = some (.bool a.neg) ∧ W.cell? ⟨w.heap.size, 1, none⟩ = some (.string (bs a.ds)) ∧ W.cell? ⟨w.heap.size, 2, none⟩ = some (.int .i64 a.fst) ∧
    W.cell? ⟨w.heap.size + 1, 0, none⟩ = some (.bool b.neg) ∧ W.cell? ⟨w.heap.size + 1, 1, none⟩ = some (.string (bs b.ds)) ∧ W.cell? ⟨w.heap.size + 1, 2, none⟩ = some (.int .i64 b.fst) :=
  ⟨h.a.at.1, h.a.at.2.1, h.a.at.2.2.1, h.b.at.1, h.b.at.2.1, h.b.at.2.2.1⟩
theorem SB.start {w W : World} {a b : Dec} (h : ((w.alloc (pcs a.neg a.ds a.fst)).alloc (pcs b.neg b.ds b.fst)).alloc (pcs false [] 0) = W) : SB w a b W := by
  subst h
  have b0 : Below w.heap.size w (((w.alloc (pcs a.neg a.ds a.fst)).alloc (pcs b.neg b.ds b.fst)).alloc (pcs false [] 0)) := (((Below.refl _ _).alloc (Nat.le_refl _) _).alloc (by simp) _).alloc (by simp; omega) _
  refine ⟨⟨b0, ?_⟩, ⟨b0, ?_⟩, ⟨b0, ?_⟩⟩
  · exact box_alloc (box_alloc (heap_alloc_new w _))
  · have := heap_alloc_new (w.alloc (pcs a.neg a.ds a.fst)) (pcs b.neg b.ds b.fst)
    rw [World.size_alloc] at this
    exact box_alloc this
  · have := heap_alloc_new ((w.alloc (pcs a.neg a.ds a.fst)).alloc (pcs b.neg b.ds b.fst)) (pcs false [] 0)
    rw [World.size_alloc, World.size_alloc] at this
    exact this

set_option maxRecDepth 100000 in
set_option maxHeartbeats 4000000 in
theorem rsum_any (a b : Dec) (w : World) (ha : DecOk a) (hb : DecOk b) : Calls Tryz.prog 89 #[pvD a, pvD b] w fun e w' => ∃ d : Dec, e = .returned (pvD d) ∧ sgnD d = sumSgn a b ∧ Below w.heap.size w w' := by
  have hn0 : 0 ≤ placesD a b := by unfold placesD; omega
  have hn1 : placesD a b ≤ 500 := by
    have := ha.len
    have := ha.f0
    have := hb.len
    have := hb.f0
    unfold placesD; omega
  have la := fixD_le a _ ha hn0 hn1
  have lb := fixD_le b _ hb hn0 hn1
  have HPL := hide (fun w => rplaces_any a b w ha hb)
  have HFA := hide (fun w => rfixed_any a (placesD a b) w ha hn0 hn1)
  have HFB := hide (fun w => rfixed_any b (placesD a b) w hb hn0 hn1)
  have hzx := bs_size (fixD a (placesD a b))
  have hzy := bs_size (fixD b (placesD a b))
  generalize hX : fixD a (placesD a b) = X at *
  generalize hY : fixD b (placesD a b) = Y at *
  have HX := hide hX
  have HY := hide hY
  clear hX hY
  generalize hN : placesD a b = n at *
  have HN := hide hN
  clear hN
  unfold pvD pv at *
  go_enter Tryz.func89, Tryz.ntmps89
  go_wp2_with fail
  generalize hW0 : World.alloc _ _ = W0
  have sb := SB.start (a := a) (b := b) hW0
  clear hW0
  refine (HPL.out _).mono ?_
  rintro e w1 ⟨rfl, b1⟩
  have sb1 := sb.step b1
  clear sb b1
  have kS := (sb1.drewN 1).all
  have S1 := hide sb1
  clear sb1
  go_wp2_with fail
  go_region_held3 (fun wx => wx.cell? ⟨w.heap.size, 0, none⟩ = some (.bool a.neg) ∧ wx.cell? ⟨w.heap.size, 1, none⟩ = some (.string (bs a.ds)) ∧ wx.cell? ⟨w.heap.size, 2, none⟩ = some (.int .i64 a.fst) ∧ wx.cell? ⟨w.heap.size + 1, 0, none⟩ = some (.bool b.neg) ∧ wx.cell? ⟨w.heap.size + 1, 1, none⟩ = some (.string (bs b.ds)) ∧ wx.cell? ⟨w.heap.size + 1, 2, none⟩ = some (.int .i64 b.fst))
    (first | (with_reducible assumption) | exact kS | fail)
    (first
      | (go_at_call_of 141 a.ds; refine (HFA.out _).mono ?_; rintro e u1 ⟨rfl, k1⟩; have s1 := (S1.out.drewN 1).step k1; have kk1 := s1.all)
      | (go_at_call_of 141 b.ds; refine (HFB.out _).mono ?_; rintro e u2 ⟨rfl, k2⟩; have s2 := s1.step k2; have kk2 := s2.all)
      | fail)
  have S2 := hide s2
  clear kk1 kk2 s1 s2 k1 k2 kS S1
  obtain ⟨z, hz⟩ : ∃ z : Nat, z = max (max X.length Y.length) 1 := ⟨_, rfl⟩
  have hz0 : z ≤ 1000 := by omega
  have hZX := rpad_any X z
  have hZY := rpad_any Y z
  have HZX := hide (fun w => hZX w (by omega) hz0)
  have HZY := hide (fun w => hZY w (by omega) hz0)
  have hzi : (z : Int) = max (max (X.length : Int) (Y.length : Int)) 1 := by omega
  have HZI := hide hzi
  have HZ := hide hz
  clear hz hzi hZX hZY
  go_upto_region 3 with (fail)
  go_cut [8] (fun v wx => v = .int .i64 (z : Int) ∧ wx = u2)
  case first =>
    go_wp2_with fail
    all_goals
      go_meet
      exact ⟨congrArg (Value.int .i64) (by have := HZI.out; omega), rfl⟩
  case rest =>
    obtain ⟨rfl, hwe⟩ := hcut
    subst hwe
    go_upto_region 5 with (first
      | (go_at_call_of 142 X; refine (HZX.out _).mono ?_; rintro e u3 ⟨rfl, k3⟩; have S3 := hide (S2.out.step k3); clear k3)
      | (go_at_call_of 142 Y; refine (HZY.out _).mono ?_; rintro e u4 ⟨rfl, k4⟩; have S4 := hide (S3.out.step k4); clear k4)
      | fail)
    obtain ⟨c0, c1, c2, f0, f1', f2⟩ := S4.out.a.at
    obtain ⟨d0, d1, d2, g0, g1, g2⟩ := S4.out.b.at
    obtain ⟨z0, z1, z2, y0, y1, y2⟩ := S4.out.z.at
    have h1 : X.length ≤ z := by have := HZ.out; omega
    have h2 : Y.length ≤ z := by have := HZ.out; omega
    have lx : (padD X z).length = z := pad_len X h1
    have ly : (padD Y z).length = z := pad_len Y h2
    have DX := hide (show ∀ c ∈ padD X z, dgC c = true by rw [← HX.out]; exact fix_dig ha _ _)
    have DY := hide (show ∀ c ∈ padD Y z, dgC c = true by rw [← HY.out]; exact fix_dig hb _ _)
    by_cases hab : a.neg = b.neg
    · have t1 : (a.neg == b.neg) = true := by rw [hab]; exact beq_self_eq_true _
      have HAB := hide hab
      clear hab
      have HADD := hide (fun w => radd_any (padD X z) (padD Y z) w (by rw [lx, ly]) (by rw [lx]; exact hz0) DX.out DY.out)
      go_wp2_with fail
      refine (HADD.out _).mono ?_
      rintro e u5 ⟨rfl, k5⟩
      have S5 := hide (S4.out.step k5)
      clear k5 c0 c1 c2 f0 f1' f2 d0 d1 d2 g0 g1 g2 z0 z1 z2 y0 y1 y2
      obtain ⟨c0, c1, c2, f0, f1', f2⟩ := S5.out.a.at
      obtain ⟨z0, z1, z2, y0, y1, y2⟩ := S5.out.z.at
      have HLQ := hide (addQ_len (padD X z) (padD Y z) (by rw [lx, ly]))
      have HCQ := hide (addQ_carry (padD X z) (padD Y z) DX.out DY.out)
      generalize hq : addQ (padD X z) (padD Y z) = q at *
      have HQ := hide hq
      clear hq
      have hlq : (dgO q.2 :: q.1).length = z + 1 := by have := HLQ.out; rw [lx] at this; simp [this]
      have hsz : (bs (dgO q.2 :: q.1)).size = z + 1 := by rw [bs_size]; exact hlq
      go_wp2_with fail
      refine (strip_any a.neg (dgO q.2 :: q.1) ((z : Int) - n) _ (by rw [hlq]; omega) (by omega) (by omega)).mono ?_
      rintro e u6 ⟨rfl, k6⟩
      have S6 := hide (S5.out.step k6)
      unfold pv
      obtain ⟨z0, z1, z2, y0, y1, y2⟩ := S6.out.z.at
      have HSG := hide (nrm_sgn a.neg (dgO q.2 :: q.1) ((z : Int) - n))
      have hsg : sumSgn a b = if (dgO q.2 :: q.1).all zC = true then 0 else if a.neg then -1 else 1 := by
        unfold sumSgn
        simp only []
        rw [HN.out, HX.out, HY.out, ← HZ.out, HQ.out, if_pos HAB.out]
        have hz0 : zC (dgO q.2) = decide (q.2 = 0) := by
          have := HCQ.out
          unfold zC dgO
          by_cases h : q.2 = 0
          · rw [h]; rfl
          · rw [show q.2 = 1 by omega]; rfl
        rw [List.all_cons, hz0]
        simp only [Bool.and_eq_true, decide_eq_true_eq]
      rw [← hsg] at HSG
      clear hsg
      generalize nrm a.neg (dgO q.2 :: q.1) ((z : Int) - n) = d at *
      go_wp2_with fail
      generalize hW9 : World.setCell _ _ _ = W9
      have p4 : PB w (w.heap.size + 1 + 1) d.neg d.ds d.fst W9 := by
        rw [← hW9]
        exact ((S6.out.z.set0 (by omega) d.neg).set1 (by omega) d.ds).set2 (by omega) d.fst
      obtain ⟨x0, x1, x2, _, _, _⟩ := p4.at
      refine bodyPost_ret (v := .agg #[.bool d.neg, .string (bs d.ds), .int .i64 d.fst]) (by simp [results, Tryz.results89, go_sem, x0, x1, x2]) rfl ⟨d, rfl, HSG.out, p4.bel⟩
    · have t1 : (a.neg == b.neg) = false := beq_eq_false_iff_ne.2 hab
      have HAB := hide hab
      clear hab
      by_cases hl : lexC (padD X z) (padD Y z) = -1
      · have t2 : Op.bytesLess (bs (padD X z)).toList (bs (padD Y z)).toList = true := by
          rw [ByteArray.toList_eq, ByteArray.toList_eq]
          exact (less_lex _ _).trans (decide_eq_true hl)
        have HL := hide hl
        clear hl
        have HSUB := hide (fun w => rsub_any (padD Y z) (padD X z) w (by rw [lx, ly]) (by rw [ly]; exact hz0) DY.out DX.out)
        have HLQ := hide (subQ_len (padD Y z) (padD X z) (by rw [lx, ly]))
        go_upto_region 9 with (fail)
        go_region
        generalize hW9 : World.drew _ = W9
        have q9 : PB w w.heap.size b.neg b.ds b.fst W9 ∧ PB w (w.heap.size + 1 + 1) false [] 0 W9 := by
          have q1 := (((S4.out.a.set0 (by omega) b.neg).set1 (by omega) b.ds).set2 (by omega) b.fst).drewN 1
          rw [← hW9]
          exact ⟨q1, q1.bel, box_set (box_set (box_set S4.out.z.box (by omega)) (by omega)) (by omega)⟩
        clear hW9 c0 c1 c2 f0 f1' f2 d0 d1 d2 g0 g1 g2 z0 z1 z2 y0 y1 y2
        have Q9 := hide q9
        clear q9
        go_wp2_with fail
        refine (HSUB.out _).mono ?_
        rintro e u5 ⟨rfl, k5⟩
        obtain ⟨c0, c1, c2, f0, f1', f2⟩ := (Q9.out.1.step k5).at
        have Z5 := hide (Q9.out.2.step k5)
        clear k5
        generalize hq : subQ (padD Y z) (padD X z) = q at *
        have HQ := hide hq
        clear hq
        have hlq : q.1.length = z := by have := HLQ.out; omega
        have hsz : (bs q.1).size = z := by rw [bs_size]; exact hlq
        go_wp2_with fail
        refine (strip_any b.neg q.1 ((z : Int) - 1 - n) _ (by rw [hlq]; omega) (by omega) (by omega)).mono ?_
        rintro e u6 ⟨rfl, k6⟩
        have ZB := hide (Z5.out.step k6)
        unfold pv
        obtain ⟨z0, z1, z2, y0, y1, y2⟩ := ZB.out.at
        have HSG := hide (nrm_sgn b.neg q.1 ((z : Int) - 1 - n))
        have hsg : sumSgn a b = if q.1.all zC = true then 0 else if b.neg then -1 else 1 := by
          unfold sumSgn
          simp only []
          rw [HN.out, HX.out, HY.out, ← HZ.out, HQ.out, if_neg HAB.out, if_pos HL.out]
        rw [← hsg] at HSG
        clear hsg
        generalize nrm b.neg q.1 ((z : Int) - 1 - n) = d at *
        go_wp2_with fail
        generalize hW9 : World.setCell _ _ _ = W9
        have p4 : PB w (w.heap.size + 1 + 1) d.neg d.ds d.fst W9 := by
          rw [← hW9]
          exact ((ZB.out.set0 (by omega) d.neg).set1 (by omega) d.ds).set2 (by omega) d.fst
        obtain ⟨x0, x1, x2, _, _, _⟩ := p4.at
        refine bodyPost_ret (v := .agg #[.bool d.neg, .string (bs d.ds), .int .i64 d.fst]) (by simp [results, Tryz.results89, go_sem, x0, x1, x2]) rfl ⟨d, rfl, HSG.out, p4.bel⟩
      · have t2 : Op.bytesLess (bs (padD X z)).toList (bs (padD Y z)).toList = false := by
          rw [ByteArray.toList_eq, ByteArray.toList_eq]
          exact (less_lex _ _).trans (decide_eq_false hl)
        have HL := hide hl
        clear hl
        have HSUB := hide (fun w => rsub_any (padD X z) (padD Y z) w (by rw [lx, ly]) (by rw [lx]; exact hz0) DX.out DY.out)
        have HLQ := hide (subQ_len (padD X z) (padD Y z) (by rw [lx, ly]))
        go_wp2_with fail
        refine (HSUB.out _).mono ?_
        rintro e u5 ⟨rfl, k5⟩
        clear c0 c1 c2 f0 f1' f2 d0 d1 d2 g0 g1 g2 z0 z1 z2 y0 y1 y2
        obtain ⟨c0, c1, c2, f0, f1', f2⟩ := (S4.out.a.step k5).at
        have Z5 := hide (S4.out.z.step k5)
        clear k5
        generalize hq : subQ (padD X z) (padD Y z) = q at *
        have HQ := hide hq
        clear hq
        have hlq : q.1.length = z := by have := HLQ.out; omega
        have hsz : (bs q.1).size = z := by rw [bs_size]; exact hlq
        go_wp2_with fail
        refine (strip_any a.neg q.1 ((z : Int) - 1 - n) _ (by rw [hlq]; omega) (by omega) (by omega)).mono ?_
        rintro e u6 ⟨rfl, k6⟩
        have ZB := hide (Z5.out.step k6)
        unfold pv
        obtain ⟨z0, z1, z2, y0, y1, y2⟩ := ZB.out.at
        have HSG := hide (nrm_sgn a.neg q.1 ((z : Int) - 1 - n))
        have hsg : sumSgn a b = if q.1.all zC = true then 0 else if a.neg then -1 else 1 := by
          unfold sumSgn
          simp only []
          rw [HN.out, HX.out, HY.out, ← HZ.out, HQ.out, if_neg HAB.out, if_neg HL.out]
        rw [← hsg] at HSG
        clear hsg
        generalize nrm a.neg q.1 ((z : Int) - 1 - n) = d at *
        go_wp2_with fail
        generalize hW9 : World.setCell _ _ _ = W9
        have p4 : PB w (w.heap.size + 1 + 1) d.neg d.ds d.fst W9 := by
          rw [← hW9]
          exact ((ZB.out.set0 (by omega) d.neg).set1 (by omega) d.ds).set2 (by omega) d.fst
        obtain ⟨x0, x1, x2, _, _, _⟩ := p4.at
        refine bodyPost_ret (v := .agg #[.bool d.neg, .string (bs d.ds), .int .i64 d.fst]) (by simp [results, Tryz.results89, go_sem, x0, x1, x2]) rfl ⟨d, rfl, HSG.out, p4.bel⟩

end Go.Proofs.YtdlebcijgdkfjaaGreatDoor
