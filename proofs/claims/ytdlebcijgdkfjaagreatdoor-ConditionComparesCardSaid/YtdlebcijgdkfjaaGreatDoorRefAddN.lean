/-
  wavestoreref03.zeros, pad, add, subtract.
-/
import Derived.Test.YtdlebcijgdkfjaaGreatDoorRefSum
import Derived.Test.YtdlebcijgdkfjaaGreatDoorBoth
namespace Go.Proofs.YtdlebcijgdkfjaaGreatDoor
open Go.RowKit

/-- a new row of zero bytes -/
theorem make_bytes (n : Nat) (w : World) (hn : n ≤ 2000) : ∃ w0 : World, (Instr.makeSlice 108 (.int .i64 (n : Int)) (.int .i64 (n : Int))).run Tryz.prog w = .ok (.slice (some ⟨w.heap.size, 0, none⟩) n n) w0 ∧ OwnBy w0 w.heap.size (some ⟨w.heap.size, 0, none⟩) n (List.replicate n 0) ∧ Below w.heap.size w w0 := by
  obtain ⟨i0, hi0, hz0, hz1, hz2⟩ := info_parts infoBy
  obtain ⟨w0, hmk, hown0, hg0⟩ := run_makeSlice_full (P := Tryz.prog) w w.heap.size 108 5 i0 (.int .u8 0) 1 Tryz.underlying108 hi0 hz0 hz1 .i64 .i64 n (by omega) (by rw [hz2]; omega) (by simp only [maxLen]; omega) (Nat.le_refl _)
  have hmc : (madeCells (Value.int IntKind.u8 0).cells (n * 1)).toList = (List.replicate n (0 : UInt8)).map bv := by
    rw [Nat.mul_one]
    show (madeCells #[Value.int .u8 0] n).toList = _
    rw [toList_madeCells_one, List.map_replicate]
    rfl
  rw [hmc] at hown0
  refine ⟨w0, hmk, ?_, (Below.refl _ w).grown hg0 (Nat.le_refl _) (fun k h => by cases h)⟩
  unfold OwnBy
  rw [List.length_replicate]
  exact hown0

def ZRel (w : World) (n : Nat) (iv : Value) (wr : World) : Prop :=
  ∃ k : Nat, k ≤ n ∧ iv = .int .i64 (k : Int) ∧ OwnBy wr w.heap.size (some ⟨w.heap.size, 0, none⟩) n (List.replicate k 48 ++ List.replicate (n - k) 0) ∧ Below w.heap.size w wr
theorem rep_set (k m : Nat) : (List.replicate k (48 : UInt8) ++ List.replicate (m + 1) 0).set k 48 = List.replicate (k + 1) 48 ++ List.replicate m 0 := by
  rw [List.set_append_right _ _ (by simp), List.replicate_succ' (n := k)]
  simp [List.replicate_succ]

set_option maxRecDepth 100000 in
set_option maxHeartbeats 1000000 in
theorem rzeros_any (n : Nat) (w : World) (hn : n ≤ 2000) : Calls Tryz.prog 199 #[.int .i64 (n : Int)] w fun e w' => ∃ A c, e = .returned (.slice A n c) ∧ OwnBy w' w.heap.size A c (List.replicate n 48) ∧ Below w.heap.size w w' := by
  obtain ⟨w0, hmk, ho0, hb0⟩ := make_bytes n w hn
  have HO := hide ho0
  have HB := hide hb0
  clear ho0 hb0
  go_enter Tryz.func199, Tryz.ntmps199
  go_wp2_with fail
  go_loopw [4] (fun iv wr => ZRel w n iv wr) (fun iv _ => n - (intOf iv).toNat)
  case atStart => exact ⟨0, Nat.zero_le _, rfl, by simpa using HO.out, HB.out⟩
  case round =>
    obtain ⟨k, hk, rfl, ho, hb⟩ := hrel
    by_cases hlt : k < n
    · have hlen : (List.replicate k (48 : UInt8) ++ List.replicate (n - k) 0).length = n := by simp; omega
      have HLN := hide hlen
      have hcI : wr.cell? ⟨w.heap.size, k, none⟩ = some (bv ((List.replicate k (48 : UInt8) ++ List.replicate (n - k) 0)[k]'(by rw [hlen]; omega))) := ownBy_cell ho (List.getElem?_eq_getElem _)
      have hfI : wr.frozen? ⟨w.heap.size, k, none⟩ = false := World.ownsRow.frozenAt ho k
      have HST := hide (World.ownsRow.stored ho k (.int .u8 48))
      have HBD := hide hb
      clear ho hb
      go_wp2_with fail
      refine ⟨⟨k + 1, by omega, by go_num, ?_, HBD.out.setCell (p := ⟨w.heap.size, k, none⟩) (by simp) _⟩, by simp [intOf]; omega⟩
      have h := HST.out.1
      have e3 : ((List.replicate k (48 : UInt8) ++ List.replicate (n - k) 0).map bv).set k (.int .u8 48) = (List.replicate (k + 1) (48 : UInt8) ++ List.replicate (n - (k + 1)) 0).map bv := by
        rw [show n - k = (n - (k + 1)) + 1 by omega, ← rep_set, List.map_set]; rfl
      rw [e3, HLN.out] at h
      unfold OwnBy
      have e4 : (List.replicate (k + 1) (48 : UInt8) ++ List.replicate (n - (k + 1)) 0).length = n := by simp; omega
      rw [e4]
      exact h
    · have hke : k = n := by omega
      subst hke
      have HOO := hide ho
      have HBD := hide hb
      clear ho hb
      go_wp2_with fail
      go_ret
      exact ⟨_, _, rfl, by simpa using HOO.out, HBD.out⟩

set_option maxRecDepth 100000 in
theorem rpad_any (l : List UInt8) (n : Nat) (w : World) (hl : l.length ≤ 1000) (hn : n ≤ 1000) : Calls Tryz.prog 142 #[.string (bs l), .int .i64 (n : Int)] w fun e w' => e = .returned (.string (bs (padD l n))) ∧ Below w.heap.size w w' := by
  have hz : (bs l).size = l.length := bs_size l
  by_cases h : n ≤ l.length
  · have HP := hide (show padD l n = l by unfold padD; rw [show n - l.length = 0 by omega]; rfl)
    go_enter Tryz.func142, Tryz.ntmps142
    go_wp2_with fail
    go_ret
    exact ⟨by rw [HP.out]; rfl, Below.refl _ _⟩
  · have HP := hide (show padD l n = List.replicate (n - l.length) 48 ++ l from rfl)
    have hZ := fun w => rzeros_any (n - l.length) w (by omega)
    rw [show ((n - l.length : Nat) : Int) = (n : Int) - (l.length : Int) by omega] at hZ
    have HZ := hide hZ
    clear hZ
    have hz2 : (bs (List.replicate (n - l.length) 48)).size ≤ 1000 := by rw [bs_size]; simp; omega
    go_enter Tryz.func142, Tryz.ntmps142
    go_wp2_with fail
    refine (HZ.out _).mono ?_
    rintro e w1 ⟨A, c, rfl, ho, hb⟩
    have hcv : (convert 108 9 (.slice A (n - l.length) c)).run Tryz.prog w1 = .ok (.string (bs (List.replicate (n - l.length) 48))) w1 := by
      have := conv_own ho
      rw [List.length_replicate] at this
      exact this
    have HBD := hide hb
    clear ho hb
    go_wp2_with fail
    go_ret
    exact ⟨by rw [HP.out, ← bs_app]; rfl, HBD.out⟩

/-- a digit -/
def dgO (n : Nat) : UInt8 := UInt8.ofNat (48 + n)
theorem addQ_len : ∀ (xs ys : List UInt8), xs.length = ys.length → (addQ xs ys).1.length = xs.length
  | [], [], _ => rfl
  | x :: xs, y :: ys, h => by
    have h' : xs.length = ys.length := by simpa using h
    show (addQ xs ys).1.length + 1 = xs.length + 1
    rw [addQ_len xs ys h']
  | [], _ :: _, h => by simp at h
  | _ :: _, [], h => by simp at h
theorem addQ_drop (a b : List UInt8) (i : Nat) (h1 : i < a.length) (h2 : i < b.length) : addQ (a.drop i) (b.drop i) = (UInt8.ofNat (48 + (dv a[i] + dv b[i] + (addQ (a.drop (i + 1)) (b.drop (i + 1))).2) % 10) :: (addQ (a.drop (i + 1)) (b.drop (i + 1))).1, (dv a[i] + dv b[i] + (addQ (a.drop (i + 1)) (b.drop (i + 1))).2) / 10) := by
  rw [List.drop_eq_getElem_cons h1, List.drop_eq_getElem_cons h2]; rfl
theorem dv_val {c : UInt8} (h : dgC c = true) : (c.toNat : Int) = 48 + (dv c : Int) := by
  have := dg_le h
  unfold dv; omega
/-- one step of the reference's sum of digits -/
def AddRel (w : World) (a b : List UInt8) (cv iv : Value) (wr : World) : Prop :=
  ∃ i : Nat, i ≤ a.length ∧ iv = .int .i64 ((i : Int) - 1) ∧ cv = .int .i64 ((addQ (a.drop i) (b.drop i)).2 : Int) ∧
    OwnBy wr w.heap.size (some ⟨w.heap.size, 0, none⟩) (a.length + 1) (List.replicate (i + 1) 0 ++ (addQ (a.drop i) (b.drop i)).1) ∧ Below w.heap.size w wr

set_option maxRecDepth 100000 in
set_option maxHeartbeats 1000000 in
theorem radd_any (a b : List UInt8) (w : World) (hab : a.length = b.length) (hl : a.length ≤ 1000) (ha : ∀ c ∈ a, dgC c = true) (hb : ∀ c ∈ b, dgC c = true) :
    Calls Tryz.prog 143 #[.string (bs a), .string (bs b)] w fun e w' => e = .returned (.string (bs (dgO (addQ a b).2 :: (addQ a b).1))) ∧ Below w.heap.size w w' := by
  obtain ⟨w0, hmk, ho0, hb0⟩ := make_bytes (a.length + 1) w (by omega)
  have hza : (bs a).size = a.length := bs_size a
  have hzb : (bs b).size = a.length := by rw [bs_size]; exact hab.symm
  have HO := hide ho0
  have HB := hide hb0
  clear ho0 hb0
  rw [show ((a.length + 1 : Nat) : Int) = (a.length : Int) + 1 by omega] at hmk
  have HAB := hide hab
  clear hab
  go_enter Tryz.func143, Tryz.ntmps143
  have HLA := hide (show ∀ i, i ≤ a.length → (addQ (a.drop i) (b.drop i)).1.length = a.length - i from fun i hi => by
    rw [addQ_len _ _ (by have := HAB.out; simp; omega)]; simp)
  have HCC := hide (show ∀ i, (addQ (a.drop i) (b.drop i)).2 ≤ 1 from fun i => addQ_carry _ _ (fun c hc => ha c (List.mem_of_mem_drop hc)) (fun c hc => hb c (List.mem_of_mem_drop hc)))
  have HDA := hide ha
  have HDB := hide hb
  clear ha hb
  go_wp2_with fail
  go_loopw [6, 7] (fun cv iv wr => AddRel w a b cv iv wr) (fun _ iv _ => (intOf iv + 1).toNat)
  case atStart => exact ⟨a.length, Nat.le_refl _, rfl, by rw [List.drop_length]; rfl, by rw [List.drop_length]; simpa [addQ] using HO.out, HB.out⟩
  case round =>
    obtain ⟨i, hi, rfl, rfl, ho, hb⟩ := hrel
    cases i with
    | zero =>
      have hcy := HCC.out 0
      have HL0 := hide (HLA.out 0 (Nat.zero_le _))
      rw [List.drop_zero, List.drop_zero] at *
      generalize hr : addQ a b = r at *
      obtain ⟨r1, r2⟩ := r
      have HR := hide hr
      clear hr
      dsimp only at *
      have hcI : wr.cell? ⟨w.heap.size, 0, none⟩ = some (bv 0) := ownBy_cell ho (by rfl)
      have hfI : wr.frozen? ⟨w.heap.size, 0, none⟩ = false := World.ownsRow.frozenAt ho 0
      have hl1 : (dgO r2 :: r1).length = a.length + 1 := by have := HL0.out; simp at this ⊢; omega
      have ho1 : OwnBy (wr.setCell ⟨w.heap.size, 0, none⟩ (.int .u8 (48 + (r2 : Int)))) w.heap.size (some ⟨w.heap.size, 0, none⟩) (a.length + 1) (dgO r2 :: r1) := by
        have h := (World.ownsRow.stored ho 0 (.int .u8 (48 + (r2 : Int)))).1
        have e3 : (((List.replicate (0 + 1) (0 : UInt8) ++ r1).map bv).set 0 (.int .u8 (48 + (r2 : Int)))) = (dgO r2 :: r1).map bv := by
          have : (dgO r2).toNat = 48 + r2 := by unfold dgO; rw [UInt8.toNat_ofNat']; omega
          show Value.int .u8 (48 + (r2 : Int)) :: r1.map bv = Value.int .u8 ((dgO r2).toNat : Int) :: r1.map bv
          rw [this]
          simp
        rw [e3] at h
        unfold OwnBy
        have e4 : (List.replicate (0 + 1) (0 : UInt8) ++ r1).length = (dgO r2 :: r1).length := by simp
        rw [← e4]
        exact h
      have hcv := conv_own ho1
      rw [hl1] at hcv
      have HBD := hide (hb.setCell (p := ⟨w.heap.size, 0, none⟩) (by simp) (.int .u8 (48 + (r2 : Int))))
      clear ho hb ho1 hl1
      go_wp2_with fail
      go_ret
      exact ⟨by rw [HR.out]; rfl, HBD.out⟩
    | succ i =>
      have hia : i < a.length := by omega
      have hib : i < b.length := by have := HAB.out; omega
      have hj0 : (0 : Int) ≤ (i : Int) := by omega
      have hja : (i : Int) < (a.length : Int) := by omega
      have hcy := HCC.out (i + 1)
      have hxa : (bs a)[i]'(by rw [hza]; exact hia) = a[i] := rfl
      have hxb : (bs b)[i]'(by rw [hzb]; exact hia) = b[i] := rfl
      have va := dv_val (HDA.out a[i] (List.getElem_mem hia))
      have vb := dv_val (HDB.out b[i] (List.getElem_mem hib))
      have na := dv_le (HDA.out a[i] (List.getElem_mem hia))
      have nbb := dv_le (HDB.out b[i] (List.getElem_mem hib))
      have HD := hide (addQ_drop a b i hia hib)
      have HLI := hide (HLA.out (i + 1) hi)
      have HLJ := hide (HLA.out i (by omega))
      generalize addQ (a.drop (i + 1)) (b.drop (i + 1)) = r at *
      obtain ⟨r1, r2⟩ := r
      generalize a[i] = ca at *
      generalize b[i] = cb at *
      generalize dv ca = xa at *
      generalize dv cb = xb at *
      dsimp only at *
      go_upto_region 6 with (fail)
      go_quiet (fail)
      have hsum : 48 + (xa : Int) - 48 + (48 + (xb : Int) - 48) + (r2 : Int) = ((xa + xb + r2 : Nat) : Int) := by omega
      rw [hsum]
      clear hsum va vb
      have hs3 : xa + xb + r2 ≤ 19 := by omega
      generalize hN : xa + xb + r2 = N at *
      have HN := hide hN
      clear hN
      have hcI : (wr.drewN nq).cell? ⟨w.heap.size, i + 1, none⟩ = some (bv ((List.replicate (i + 1 + 1) (0 : UInt8) ++ r1)[i + 1]'(by simp; omega))) := ownBy_cell ho (List.getElem?_eq_getElem _)
      have hfI : (wr.drewN nq).frozen? ⟨w.heap.size, i + 1, none⟩ = false := World.ownsRow.frozenAt ho (i + 1)
      have HST := hide (World.ownsRow.stored ho (i + 1) (.int .u8 (48 + ((N : Int) % 10))))
      have HBD := hide (below_drewN hb nq)
      clear hja
      go_wp2_with fail
      refine ⟨⟨i, by omega, rfl, ?_, ?_, HBD.out.setCell (p := ⟨w.heap.size, i + 1, none⟩) (by simp) _⟩, by simp [intOf]⟩
      · rw [HD.out]
        simp
      · have h := HST.out.1
        have e3 : (((List.replicate (i + 1 + 1) (0 : UInt8) ++ r1).map bv).set (i + 1) (.int .u8 (48 + ((N : Int) % 10)))) = (List.replicate (i + 1) (0 : UInt8) ++ UInt8.ofNat (48 + N % 10) :: r1).map bv := by
          rw [← set_rep, List.map_set]
          congr 1
          have : (UInt8.ofNat (48 + N % 10)).toNat = 48 + N % 10 := by rw [UInt8.toNat_ofNat']; omega
          show Value.int .u8 (48 + ((N : Int) % 10)) = Value.int .u8 ((UInt8.ofNat (48 + N % 10)).toNat : Int)
          rw [this]
          simp
        rw [e3] at h
        rw [HD.out]
        dsimp only
        unfold OwnBy
        have e4 : (List.replicate (i + 1) (0 : UInt8) ++ UInt8.ofNat (48 + N % 10) :: r1).length = (List.replicate (i + 1 + 1) (0 : UInt8) ++ r1).length := by simp; omega
        rw [e4]
        exact h

theorem subQ_len : ∀ (xs ys : List UInt8), xs.length = ys.length → (subQ xs ys).1.length = xs.length
  | [], [], _ => rfl
  | x :: xs, y :: ys, h => by
    have h' : xs.length = ys.length := by simpa using h
    show (subQ xs ys).1.length + 1 = xs.length + 1
    rw [subQ_len xs ys h']
  | [], _ :: _, h => by simp at h
  | _ :: _, [], h => by simp at h
theorem subQ_drop (a b : List UInt8) (i : Nat) (h1 : i < a.length) (h2 : i < b.length) : subQ (a.drop i) (b.drop i) = (UInt8.ofNat (48 + (dv a[i] + 10 - dv b[i] - (subQ (a.drop (i + 1)) (b.drop (i + 1))).2) % 10) :: (subQ (a.drop (i + 1)) (b.drop (i + 1))).1, 1 - (dv a[i] + 10 - dv b[i] - (subQ (a.drop (i + 1)) (b.drop (i + 1))).2) / 10) := by
  rw [List.drop_eq_getElem_cons h1, List.drop_eq_getElem_cons h2]; rfl
def SubRel (w : World) (a b : List UInt8) (cv iv : Value) (wr : World) : Prop :=
  ∃ i : Nat, i ≤ a.length ∧ iv = .int .i64 ((i : Int) - 1) ∧ cv = .int .i64 ((subQ (a.drop i) (b.drop i)).2 : Int) ∧
    OwnBy wr w.heap.size (some ⟨w.heap.size, 0, none⟩) a.length (List.replicate i 0 ++ (subQ (a.drop i) (b.drop i)).1) ∧ Below w.heap.size w wr

set_option maxRecDepth 100000 in
set_option maxHeartbeats 1000000 in
theorem rsub_any (a b : List UInt8) (w : World) (hab : a.length = b.length) (hl : a.length ≤ 1000) (ha : ∀ c ∈ a, dgC c = true) (hb : ∀ c ∈ b, dgC c = true) :
    Calls Tryz.prog 145 #[.string (bs a), .string (bs b)] w fun e w' => e = .returned (.string (bs (subQ a b).1)) ∧ Below w.heap.size w w' := by
  obtain ⟨w0, hmk, ho0, hb0⟩ := make_bytes a.length w (by omega)
  have hza : (bs a).size = a.length := bs_size a
  have hzb : (bs b).size = a.length := by rw [bs_size]; exact hab.symm
  have HO := hide ho0
  have HB := hide hb0
  clear ho0 hb0
  have HAB := hide hab
  clear hab
  go_enter Tryz.func145, Tryz.ntmps145
  have HLA := hide (show ∀ i, i ≤ a.length → (subQ (a.drop i) (b.drop i)).1.length = a.length - i from fun i hi => by
    rw [subQ_len _ _ (by have := HAB.out; simp; omega)]; simp)
  have HCC := hide (show ∀ i, (subQ (a.drop i) (b.drop i)).2 ≤ 1 from fun i => subQ_carry _ _)
  have HDA := hide ha
  have HDB := hide hb
  clear ha hb
  go_wp2_with fail
  go_loopw [6, 7] (fun cv iv wr => SubRel w a b cv iv wr) (fun _ iv _ => (intOf iv + 1).toNat)
  case atStart => exact ⟨a.length, Nat.le_refl _, rfl, by rw [List.drop_length]; rfl, by rw [List.drop_length]; simpa [subQ] using HO.out, HB.out⟩
  case round =>
    obtain ⟨i, hi, rfl, rfl, ho, hb⟩ := hrel
    cases i with
    | zero =>
      have hcv := conv_own ho
      have HL0 := HLA.out 0 (Nat.zero_le _)
      rw [List.drop_zero, List.drop_zero] at *
      rw [show (List.replicate 0 (0 : UInt8) ++ (subQ a b).1).length = a.length by simpa using HL0] at hcv
      have HBD := hide hb
      clear ho hb HL0
      go_wp2_with fail
      go_ret
      exact ⟨rfl, HBD.out⟩
    | succ i =>
      have hia : i < a.length := by omega
      have hib : i < b.length := by have := HAB.out; omega
      have hj0 : (0 : Int) ≤ (i : Int) := by omega
      have hja : (i : Int) < (a.length : Int) := by omega
      have hcy := HCC.out (i + 1)
      have hxa : (bs a)[i]'(by rw [hza]; exact hia) = a[i] := rfl
      have hxb : (bs b)[i]'(by rw [hzb]; exact hia) = b[i] := rfl
      have va := dv_val (HDA.out a[i] (List.getElem_mem hia))
      have vb := dv_val (HDB.out b[i] (List.getElem_mem hib))
      have na := dv_le (HDA.out a[i] (List.getElem_mem hia))
      have nbb := dv_le (HDB.out b[i] (List.getElem_mem hib))
      have HD := hide (subQ_drop a b i hia hib)
      have HLI := hide (HLA.out (i + 1) hi)
      generalize subQ (a.drop (i + 1)) (b.drop (i + 1)) = r at *
      obtain ⟨r1, r2⟩ := r
      generalize a[i] = ca at *
      generalize b[i] = cb at *
      generalize dv ca = xa at *
      generalize dv cb = xb at *
      dsimp only at *
      go_upto_region 6 with (fail)
      go_quiet (fail)
      have hsum : 48 + (xa : Int) - 48 - (48 + (xb : Int) - 48) - (r2 : Int) + 10 = ((xa + 10 - xb - r2 : Nat) : Int) := by omega
      rw [hsum]
      clear hsum va vb
      have hs3 : xa + 10 - xb - r2 ≤ 19 := by omega
      generalize hN : xa + 10 - xb - r2 = N at *
      have HN := hide hN
      clear hN
      have hcI : (wr.drewN nq).cell? ⟨w.heap.size, i, none⟩ = some (bv ((List.replicate (i + 1) (0 : UInt8) ++ r1)[i]'(by simp; omega))) := ownBy_cell ho (List.getElem?_eq_getElem _)
      have hfI : (wr.drewN nq).frozen? ⟨w.heap.size, i, none⟩ = false := World.ownsRow.frozenAt ho i
      have HST := hide (World.ownsRow.stored ho i (.int .u8 (48 + ((N : Int) % 10))))
      have HBD := hide (below_drewN hb nq)
      clear hja
      go_wp2_with fail
      refine ⟨⟨i, by omega, rfl, ?_, ?_, HBD.out.setCell (p := ⟨w.heap.size, i, none⟩) (by simp) _⟩, by simp [intOf]⟩
      · rw [HD.out]
        exact congrArg (Value.int .i64) (by dsimp only; omega)
      · have h := HST.out.1
        have e3 : (((List.replicate (i + 1) (0 : UInt8) ++ r1).map bv).set i (.int .u8 (48 + ((N : Int) % 10)))) = (List.replicate i (0 : UInt8) ++ UInt8.ofNat (48 + N % 10) :: r1).map bv := by
          rw [← set_rep, List.map_set]
          congr 1
          have : (UInt8.ofNat (48 + N % 10)).toNat = 48 + N % 10 := by rw [UInt8.toNat_ofNat']; omega
          show Value.int .u8 (48 + ((N : Int) % 10)) = Value.int .u8 ((UInt8.ofNat (48 + N % 10)).toNat : Int)
          rw [this]
          simp
        rw [e3] at h
        rw [HD.out]
        dsimp only
        unfold OwnBy
        have e4 : (List.replicate i (0 : UInt8) ++ UInt8.ofNat (48 + N % 10) :: r1).length = (List.replicate (i + 1) (0 : UInt8) ++ r1).length := by simp; omega
        rw [e4]
        exact h

end Go.Proofs.YtdlebcijgdkfjaaGreatDoor
