/-
  Several texts in one: Both, SliceF. Each says at its head what it holds.
-/
import Derived.Test.YtaaplalfggofiaaGreatDoorEC4

/-
  condition.both and its closure.
-/
namespace Go.Proofs.YtaaplalfggofiaaGreatDoor
open Go.RowKit

theorem code_quiet (c : UInt8) (w : World) : Calls Tryz.prog 125 #[.int .u8 (c.toNat : Int)] w fun e w' => e = .returned (.int .i64 (codeC c : Int)) ∧ w' = w := (code_any c w).mono fun _ _ ⟨h1, h2⟩ => ⟨h1, h2.symm⟩

theorem tab_cell {w : World} {Bt : Nat} {l : List UInt8} {t : TypeId} (h : w.heap[Bt]? = some (.cells (tabV l) t (0, 0))) {i : Nat} (hi : i < l.length) : w.cell? ⟨Bt, i, none⟩ = some (bv (l.getD i 0)) := by
  rw [cell_of_row w Bt i _ t (0, 0) h]
  simp [tabV, List.getElem?_eq_getElem hi, List.getD]

def BothI (Bi Bt Bb : Nat) (k : Int) (b : ByteArray) (n : Nat) (W : World) : Prop :=
  W.heap[Bi]? = some (.cells #[.int .i64 ((n : Int) - 1)] 3 (0, 0)) ∧ W.heap[Bt]? = some (.cells (tabV (tabOf k)) 176 (0, 0)) ∧ W.heap[Bb]? = some (.cells #[.string b] 9 (0, 0))

set_option maxRecDepth 100000 in
set_option maxHeartbeats 1000000 in
theorem both1_step (Bi Bt Bb : Nat) (k : Int) (l : List UInt8) (b : ByteArray) (hl : l.length ≤ 1000) (hlb : l.length = b.size) (hk : k = 9 ∨ k = 10 ∨ k = 11) (h1 : Bi ≠ Bt) (h2 : Bi ≠ Bb) :
    StepBy 183 #[.pointer (some ⟨Bi, 0, none⟩), .pointer (some ⟨Bt, 0, none⟩), .pointer (some ⟨Bb, 0, none⟩)] (some Bi) l (fun n => opC k (l.getD n 0) (b.data.toList.getD n 0)) (BothI Bi Bt Bb k b) := by
  intro n c W hc hI
  have hn : n < l.length := (List.getElem?_eq_some_iff.1 hc).1
  obtain ⟨g1, g2, g3⟩ := hI
  have c1 : W.cell? ⟨Bi, 0, none⟩ = some (.int .i64 ((n : Int) - 1)) := by rw [cell_of_row W Bi 0 _ _ (0, 0) g1]; rfl
  have f1 : W.frozen? ⟨Bi, 0, none⟩ = false := by simp [World.frozen?, g1]
  obtain ⟨W1, hW1⟩ : ∃ W1 : World, W.setCell ⟨Bi, 0, none⟩ (.int .i64 (n : Int)) = W1 := ⟨_, rfl⟩
  have g1' : W1.heap[Bi]? = some (.cells #[.int .i64 (n : Int)] 3 (0, 0)) := by rw [← hW1]; simp [World.setCell, Array.getElem?_modify, g1]
  have g2' : W1.heap[Bt]? = some (.cells (tabV (tabOf k)) 176 (0, 0)) := by rw [← hW1]; exact box_set g2 (Ne.symm h1)
  have g3' : W1.heap[Bb]? = some (.cells #[.string b] 9 (0, 0)) := by rw [← hW1]; exact box_set g3 (Ne.symm h2)
  have d1 : W1.cell? ⟨Bi, 0, none⟩ = some (.int .i64 (n : Int)) := by rw [cell_of_row W1 Bi 0 _ _ (0, 0) g1']; rfl
  have d3 : W1.cell? ⟨Bb, 0, none⟩ = some (.string b) := by rw [cell_of_row W1 Bb 0 _ _ (0, 0) g3']; rfl
  have HW1 := hide hW1
  clear hW1
  have hnb : n < b.size := by omega
  have hnn : (n : Int) < (b.size : Int) := by omega
  have hn0 : (0 : Int) ≤ (n : Int) := by omega
  have hw : IntKind.i64.wrap ((n : Int) - 1 + 1) = (n : Int) := by rw [IntWalk.i64_in _ (by omega)]; omega
  have p1 : ((codeC c : Nat) : Int) < 3 := by have := codeC_le c; omega
  have p0 : (0 : Int) ≤ ((codeC c : Nat) : Int) := by omega
  have q1 : ((codeC b[n] : Nat) : Int) < 3 := by have := codeC_le b[n]; omega
  have q0 : (0 : Int) ≤ ((codeC b[n] : Nat) : Int) := by omega
  have hcell := tab_cell g2' (i := codeC c * 3 + codeC b[n]) (by rw [tabOf_len]; omega)
  have hlc : l.getD n 0 = c := by rw [List.getD, hc]; rfl
  have hbn : b.data.toList.getD n 0 = b[n] := by
    have : b.data.toList[n]? = some b[n] := by rw [List.getElem?_eq_getElem (by simpa using hnb)]; rfl
    rw [List.getD, this]; rfl
  have HOP := hide (op_tab k hk c b[n]).1
  have HLC := hide hlc
  have HBN := hide hbn
  clear hlc hbn hc
  go_enter Tryz.func183, Tryz.ntmps183
  go_upto_region 2 with (fail)
  rw [HW1.out]
  go_quiet ((go_at_call 125; exact Calls.quiet_of_same (code_quiet _ _)))
  go_wp2_with fail
  go_ret
  refine ⟨?_, ⟨?_, g2', g3'⟩, ?_⟩
  · rw [HLC.out, HBN.out, HOP.out]; rfl
  · have : (W1.drewN nq).heap[Bi]? = W1.heap[Bi]? := rfl
    rw [this, g1']
    congr 3
    simp
  · refine ⟨?_, ?_, ?_, ?_, fun x hx hne => ?_⟩
    · rw [← HW1.out]; rfl
    · rw [← HW1.out]; rfl
    · rw [← HW1.out]; rfl
    · rw [← HW1.out]; simp
    · have : (W1.drewN nq).heap[x]? = W1.heap[x]? := rfl
      rw [this, ← HW1.out]
      exact Below.heap_setCell _ _ _ _ (by rintro rfl; exact hne rfl)

theorem enters_both1 : EntersF 183 := fun _ _ => by kernel_rfl
theorem enters_inv : EntersF 122 := fun _ _ => by kernel_rfl
theorem inv_step (l : List UInt8) : StepBy 122 #[] none l (fun n => invC (l.getD n 0)) (fun _ _ => True) := by
  intro n c W hc _
  refine (inverted_any c W).mono ?_
  rintro e w' ⟨rfl, rfl⟩
  have : l.getD n 0 = c := by rw [List.getD, hc]; rfl
  exact ⟨by show _ = Ending.returned (bv (invC (l.getD n 0))); rw [this], trivial, But.refl _ _ _⟩
theorem upto_map (f : UInt8 → UInt8) (l : List UInt8) : upto (fun n => f (l.getD n 0)) l.length = l.map f := by
  unfold upto
  apply List.ext_getElem
  · simp
  · intro i h1 h2
    have : i < l.length := by simpa using h1
    simp [List.getD, this]
theorem upto_zip (f : UInt8 → UInt8 → UInt8) (l m : List UInt8) (h : l.length = m.length) : upto (fun n => f (l.getD n 0) (m.getD n 0)) l.length = List.zipWith f l m := by
  unfold upto
  apply List.ext_getElem
  · simp; omega
  · intro i h1 h2
    have : i < l.length := by simpa using h1
    have : i < m.length := by omega
    simp [List.getD, *]
theorem size_inv (b : ByteArray) : b.size = (⟨(b.data.toList.map invC).toArray⟩ : ByteArray).size := by
  have h : b.data.toList.length = (b.data.toList.map invC).length := (List.length_map _).symm
  exact h
theorem mapped_inv (s : ByteArray) (w : World) (hl : s.size ≤ 1000) : Calls Tryz.prog 121 #[.string s, .func (.func 122) #[] #[]] w fun e w' => e = .returned (.string ⟨(s.data.toList.map invC).toArray⟩) ∧ Below w.heap.size w w' := by
  refine (mapped_any _ #[] none s _ _ w enters_inv (inv_step _) (fun _ _ _ _ h => h) (fun n h => by cases h) trivial hl).mono ?_
  rintro e w' ⟨rfl, _, hb⟩
  have hsl : s.data.toList.length = s.size := by simp
  rw [← hsl, upto_map]
  exact ⟨rfl, hb.below (Nat.le_refl _) (fun k h => by cases h)⟩

theorem nb_val {c : UInt8} (h : knC c = true) : (c.toNat : Int) = 48 + (nb c : Int) := by
  unfold knC at h
  rw [Bool.or_eq_true, beq_iff_eq, beq_iff_eq] at h
  rcases h with rfl | rfl <;> rfl
theorem kn_at {l : List UInt8} (h : knownB l = true) {i : Nat} (hi : i < l.length) : knC l[i] = true := List.all_eq_true.1 h _ (List.getElem_mem hi)
theorem set_rep (i : Nat) (u : UInt8) (r : List UInt8) : (List.replicate (i + 1) (0 : UInt8) ++ r).set i u = List.replicate i 0 ++ u :: r := by
  induction i with
  | zero => rfl
  | succ i ih => rw [List.replicate_succ, List.cons_append, List.set_cons_succ, ih, ← List.cons_append, ← List.replicate_succ]
def SumRel (w : World) (a b : ByteArray) (c : Nat) (cv iv : Value) (wr : World) : Prop :=
  ∃ i : Nat, i ≤ a.size ∧ iv = .int .i64 ((i : Int) - 1) ∧ cv = .int .i64 ((addR (a.data.toList.drop i) (b.data.toList.drop i) c).2 : Int) ∧
    OwnBy wr w.heap.size (some ⟨w.heap.size, 0, none⟩) a.size (List.replicate i 0 ++ (addR (a.data.toList.drop i) (b.data.toList.drop i) c).1) ∧ Below w.heap.size w wr

set_option maxRecDepth 100000 in
set_option maxHeartbeats 1000000 in
theorem csum_any (a b : ByteArray) (c : Nat) (w : World) (hc : c ≤ 1) (hab : a.size = b.size) (hl : a.size ≤ 1000) (hka : knownB a.data.toList = true) (hkb : knownB b.data.toList = true) :
    Calls Tryz.prog 185 #[.string a, .string b, .int .i64 (c : Int)] w fun e w' => e = .returned (.string ⟨(addR a.data.toList b.data.toList c).1.toArray⟩) ∧ Below w.heap.size w w' := by
  obtain ⟨i0, hi0, hz0, hz1, hz2⟩ := info_parts infoBy
  obtain ⟨w0, hmk, hown0, hg0⟩ := run_makeSlice_full (P := Tryz.prog) w w.heap.size 186 5 i0 (.int .u8 0) 1 Tryz.underlying186 hi0 hz0 hz1 .i64 .i64 a.size (by omega) (by rw [hz2]; omega) (by simp only [maxLen]; omega) (Nat.le_refl _)
  have hla : a.data.toList.length = a.size := by simp
  have hlb : b.data.toList.length = b.size := by simp
  have hmc : (madeCells (Value.int IntKind.u8 0).cells (a.size * 1)).toList = (List.replicate a.size (0 : UInt8)).map bv := by
    rw [Nat.mul_one]
    show (madeCells #[Value.int .u8 0] a.size).toList = _
    rw [toList_madeCells_one, List.map_replicate]
    rfl
  rw [hmc] at hown0
  have hb0 : Below w.heap.size w w0 := (Below.refl _ w).grown hg0 (Nat.le_refl _) (fun k h => by cases h)
  have HL := hide (show ∀ i, i ≤ a.size → (List.replicate i (0 : UInt8) ++ (addR (a.data.toList.drop i) (b.data.toList.drop i) c).1).length = a.size from fun i hi => by
    rw [List.length_append, addR_len _ _ _ (by simp; omega)]; simp; omega)
  have HO := hide (show OwnBy w0 w.heap.size (some ⟨w.heap.size, 0, none⟩) a.size (List.replicate a.size 0 ++ (addR (a.data.toList.drop a.size) (b.data.toList.drop a.size) c).1) by
    have e : addR (a.data.toList.drop a.size) (b.data.toList.drop a.size) c = ([], c) := by rw [List.drop_of_length_le (by omega), List.drop_of_length_le (by omega)]; rfl
    rw [e, List.append_nil]
    unfold OwnBy
    rw [List.length_replicate]
    exact hown0)
  have HC := hide (show (addR (a.data.toList.drop a.size) (b.data.toList.drop a.size) c).2 = c by rw [List.drop_of_length_le (by omega), List.drop_of_length_le (by omega)]; rfl)
  have HKA := hide hka
  have HKB := hide hkb
  have HAB := hide hab
  have HCC := hide (show ∀ i, (addR (a.data.toList.drop i) (b.data.toList.drop i) c).2 ≤ 1 from fun i => addR_carry _ _ _ hc)
  clear hown0 hmc hka hkb hab hla hlb
  go_enter Tryz.func185, Tryz.ntmps185
  go_wp2_with fail
  go_loopw [2, 8] (fun cv iv wr => SumRel w a b c cv iv wr) (fun _ iv _ => (intOf iv + 1).toNat)
  case atStart => exact ⟨a.size, Nat.le_refl _, rfl, by rw [HC.out], HO.out, hb0⟩
  case round =>
    obtain ⟨i, hi, rfl, rfl, ho, hb⟩ := hrel
    cases i with
    | zero =>
      have hcv := conv_own ho
      rw [HL.out 0 (Nat.zero_le _)] at hcv
      go_wp2_with fail
      go_ret
      exact ⟨rfl, hb⟩
    | succ i =>
      have hia : i < a.size := by omega
      have hib : i < b.size := by have := HAB.out; omega
      have hja : (i : Int) < (a.size : Int) := by omega
      have hjb : (i : Int) < (b.size : Int) := by omega
      have hj0 : (0 : Int) ≤ (i : Int) := by omega
      have hcy := HCC.out (i + 1)
      have va : (a[i].toNat : Int) = 48 + (nb a[i] : Int) := nb_val (kn_at (l := a.data.toList) HKA.out (by simpa using hia))
      have vb : (b[i].toNat : Int) = 48 + (nb b[i] : Int) := nb_val (kn_at (l := b.data.toList) HKB.out (by simpa using hib))
      have na := nb_le a[i]
      have nbb := nb_le b[i]
      have HD := hide (addR_drop a.data.toList b.data.toList c (by have := HAB.out; simpa using this) i (by simpa using hia))
      have HLI := hide (HL.out (i + 1) hi)
      have HLJ := hide (HL.out i (by omega))
      generalize addR (a.data.toList.drop (i + 1)) (b.data.toList.drop (i + 1)) c = r at *
      obtain ⟨r1, r2⟩ := r
      have e1 : a.data.toList[i]'(by simpa using hia) = a[i] := rfl
      have e2 : b.data.toList[i]'(by simpa using hib) = b[i] := rfl
      rw [e1, e2] at HD
      generalize nb a[i] = xa at *
      generalize nb b[i] = xb at *
      clear e1 e2
      dsimp only at *
      go_upto_region 5 with (fail)
      go_quiet (fail)
      have hsum : 48 + (xa : Int) - 48 + (48 + (xb : Int) - 48) + (r2 : Int) = ((xa + xb + r2 : Nat) : Int) := by omega
      rw [hsum]
      clear hsum va vb
      have hs3 : xa + xb + r2 ≤ 3 := by omega
      generalize hN : xa + xb + r2 = N at *
      have HN := hide hN
      clear hN
      have hcI : (wr.drewN nq).cell? ⟨w.heap.size, i, none⟩ = some (bv ((List.replicate (i + 1) (0 : UInt8) ++ r1)[i]'(by rw [HLI.out]; omega))) := ownBy_cell ho (List.getElem?_eq_getElem _)
      have hfI : (wr.drewN nq).frozen? ⟨w.heap.size, i, none⟩ = false := World.ownsRow.frozenAt ho i
      have HST := hide (World.ownsRow.stored ho i (.int .u8 (48 + ((N : Int) % 2))))
      have HBD := hide (below_drewN hb nq)
      clear hja hjb
      go_wp2_with fail
      refine ⟨⟨i, by omega, rfl, ?_, ?_, ?_⟩, by simp [intOf]⟩
      · rw [HD.out]
        simp
      · have h := HST.out.1
        have e3 : (((List.replicate (i + 1) (0 : UInt8) ++ r1).map bv).set i (.int .u8 (48 + ((N : Int) % 2)))) = (List.replicate i (0 : UInt8) ++ UInt8.ofNat (48 + N % 2) :: r1).map bv := by
          rw [← set_rep, List.map_set]
          congr 1
          have : (UInt8.ofNat (48 + N % 2)).toNat = 48 + N % 2 := by rw [UInt8.toNat_ofNat']; omega
          show Value.int .u8 (48 + ((N : Int) % 2)) = Value.int .u8 ((UInt8.ofNat (48 + N % 2)).toNat : Int)
          rw [this]
          simp
        rw [e3, HLI.out] at h
        rw [HD.out]
        dsimp only
        unfold OwnBy
        have e4 : (List.replicate i (0 : UInt8) ++ UInt8.ofNat (48 + N % 2) :: r1).length = a.size := by
          have := HLI.out
          simp at this ⊢
          omega
        rw [e4]
        exact h
      · exact HBD.out.setCell (by simp) _

set_option maxRecDepth 100000 in
set_option maxHeartbeats 1000000 in
theorem both_any (k : Int) (a b : ByteArray) (w : World) (hk : 9 ≤ k ∧ k ≤ 13) (hab : a.size = b.size) (hl : a.size ≤ 1000) :
    Calls Tryz.prog 120 #[.int .i64 k, .agg (tabV (tabOf k)), .string a, .string b] w fun e w' => e = .returned (.string ⟨(bothL k a.data.toList b.data.toList).toArray⟩) ∧ Below w.heap.size w w' := by
  by_cases h12 : k = 12 ∨ k = 13
  · have htv : ∃ x0 x1 x2 x3 x4 x5 x6 x7 x8, tabV (tabOf k) = #[bv x0, bv x1, bv x2, bv x3, bv x4, bv x5, bv x6, bv x7, bv x8] := by
      have htl := tabOf_len k
      generalize tabOf k = t at htl
      match t, htl with
      | [x0, x1, x2, x3, x4, x5, x6, x7, x8], _ => exact ⟨x0, x1, x2, x3, x4, x5, x6, x7, x8, rfl⟩
    obtain ⟨x0, x1, x2, x3, x4, x5, x6, x7, x8, htv⟩ := htv
    rw [htv]
    clear htv
    obtain ⟨W2, hW2⟩ : ∃ W2 : World, (w.alloc (.cells #[bv x0, bv x1, bv x2, bv x3, bv x4, bv x5, bv x6, bv x7, bv x8] 176)).alloc (.cells #[.string b] 9) = W2 := ⟨_, rfl⟩
    have hz2 : W2.heap.size = w.heap.size + 2 := by rw [← hW2]; simp
    have hb2 : Below w.heap.size w W2 := by rw [← hW2]; exact ((Below.refl _ _).alloc (Nat.le_refl _) _).alloc (by simp) _
    have g2 : W2.heap[w.heap.size + 1]? = some (.cells #[.string b] 9 (0, 0)) := by
      have g2 := heap_alloc_new (w.alloc (.cells #[bv x0, bv x1, bv x2, bv x3, bv x4, bv x5, bv x6, bv x7, bv x8] 176)) (.cells #[.string b] 9)
      rw [World.size_alloc] at g2
      rw [← hW2]
      exact g2
    have HW2 := hide hW2
    have hbox : ∀ W : World, Below W2.heap.size W2 W → W.cell? ⟨w.heap.size + 1, 0, none⟩ = some (.string b) := fun W hb => by
      rw [cell_of_row W _ _ _ _ (0, 0) ((hb.block _ (by omega)).trans g2)]; rfl
    have HBX := hide hbox
    have HB2 := hide hb2
    have HAB := hide hab
    have HLA := hide (show a.data.toList.length = a.size by simp)
    have hlb : b.size ≤ 1000 := by omega
    have hk12 : (k == 12) = decide (k = 12) := by rw [Bool.eq_iff_iff]; simp
    clear hW2 hbox hb2 g2 hz2 hab
    have HBL := hide (show bothL k a.data.toList b.data.toList = if knownB a.data.toList && knownB b.data.toList then sumL a.data.toList b.data.toList (k == 13) else List.replicate a.size 120 by unfold bothL; rw [if_pos h12, HLA.out])
    have hrep : ∀ n : Nat, Lib.repeatL [120] n = List.replicate n 120 := fun n => by
      induction n with
      | zero => rfl
      | succ n ih => show [120] ++ Lib.repeatL [120] n = _; rw [ih]; rfl
    have HREP := hide hrep
    clear hrep hk12
    have t12 : (k != 12) = true ∧ (k != 13) = false ∨ (k != 12) = false := by
      rcases h12 with rfl | rfl
      · exact .inr rfl
      · exact .inl ⟨rfl, rfl⟩
    cases hka : knownB a.data.toList with
    | false =>
      have HR := hide (show bothL k a.data.toList b.data.toList = List.replicate a.size 120 by rw [HBL.out, hka]; rfl)
      have HKA := hide hka
      clear hka
      rcases h12 with rfl | rfl
      all_goals
        go_enter Tryz.func120, Tryz.ntmps120
        go_wp2_with fail
        rw [HW2.out]
        refine (known_any a _ hl).mono ?_
        rw [HKA.out]
        rintro e w3 ⟨rfl, b3⟩
        go_wp2_with fail
        refine (repeat_any ⟨#[120]⟩ a.size _ (by show 1 * a.size ≤ 1000; omega) hl).mono ?_
        rintro e w4 ⟨rfl, b4⟩
        go_wp2_with fail
        go_ret
        exact ⟨by rw [HR.out, ← HREP.out]; rfl, bstep (bstep HB2.out b3) b4⟩
    | true =>
      cases hkb : knownB b.data.toList with
      | false =>
        have HR := hide (show bothL k a.data.toList b.data.toList = List.replicate a.size 120 by rw [HBL.out, hka, hkb]; rfl)
        have HKA := hide hka
        have HKB := hide hkb
        clear hka hkb
        rcases h12 with rfl | rfl
        all_goals
          go_enter Tryz.func120, Tryz.ntmps120
          go_wp2_with fail
          rw [HW2.out]
          refine (known_any a _ hl).mono ?_
          rw [HKA.out]
          rintro e w3 ⟨rfl, b3⟩
          have c3 := HBX.out w3 b3
          go_wp2_with fail
          refine (known_any b _ hlb).mono ?_
          rw [HKB.out]
          rintro e w5 ⟨rfl, b5⟩
          go_wp2_with fail
          refine (repeat_any ⟨#[120]⟩ a.size _ (by show 1 * a.size ≤ 1000; omega) hl).mono ?_
          rintro e w4 ⟨rfl, b4⟩
          go_wp2_with fail
          go_ret
          exact ⟨by rw [HR.out, ← HREP.out]; rfl, bstep (bstep (bstep HB2.out b3) b5) b4⟩
      | true =>
        have HR := hide (show bothL k a.data.toList b.data.toList = sumL a.data.toList b.data.toList (k == 13) by rw [HBL.out, hka, hkb]; rfl)
        have HKA := hide hka
        have HKB := hide hkb
        clear hka hkb
        rcases h12 with rfl | rfl
        · go_enter Tryz.func120, Tryz.ntmps120
          go_wp2_with fail
          rw [HW2.out]
          refine (known_any a _ hl).mono ?_
          rw [HKA.out]
          rintro e w3 ⟨rfl, b3⟩
          have c3 := HBX.out w3 b3
          go_wp2_with fail
          refine (known_any b _ hlb).mono ?_
          rw [HKB.out]
          rintro e w5 ⟨rfl, b5⟩
          have c5 := HBX.out w5 (bstep b3 b5)
          go_wp2_with fail
          refine (csum_any a b 0 _ (by omega) HAB.out hl HKA.out HKB.out).mono ?_
          rintro e w4 ⟨rfl, b4⟩
          go_wp2_with fail
          go_ret
          exact ⟨by rw [HR.out]; rfl, bstep (bstep (bstep HB2.out b3) b5) b4⟩
        · have HKI := hide (show knownB (b.data.toList.map invC) = true by
            unfold knownB
            rw [List.all_map, List.all_eq_true]
            intro c hc
            have := List.all_eq_true.1 HKB.out c hc
            unfold knC at this
            rw [Bool.or_eq_true, beq_iff_eq, beq_iff_eq] at this
            rcases this with rfl | rfl <;> rfl)
          go_enter Tryz.func120, Tryz.ntmps120
          go_wp2_with fail
          rw [HW2.out]
          refine (known_any a _ hl).mono ?_
          rw [HKA.out]
          rintro e w3 ⟨rfl, b3⟩
          have c3 := HBX.out w3 b3
          go_wp2_with fail
          refine (known_any b _ hlb).mono ?_
          rw [HKB.out]
          rintro e w5 ⟨rfl, b5⟩
          have c5 := HBX.out w5 (bstep b3 b5)
          go_wp2_with fail
          refine (mapped_inv b _ hlb).mono ?_
          rintro e w6 ⟨rfl, b6⟩
          obtain ⟨m, hm⟩ : ∃ m : ByteArray, (⟨(b.data.toList.map invC).toArray⟩ : ByteArray) = m := ⟨_, rfl⟩
          have hml : m.data.toList = b.data.toList.map invC := by rw [← hm]
          have hmz : a.size = m.size := by rw [← hm, HAB.out]; exact size_inv b
          have HML := hide hml
          have HMZ := hide hmz
          rw [hm]
          clear hm hml hmz
          go_wp2_with fail
          refine (csum_any a m 1 _ (by omega) HMZ.out hl HKA.out (by rw [HML.out]; exact HKI.out)).mono ?_
          rintro e w4 ⟨rfl, b4⟩
          go_wp2_with fail
          go_ret
          exact ⟨by rw [HR.out, HML.out]; rfl, bstep (bstep (bstep (bstep HB2.out b3) b5) b6) b4⟩
  · have hk3 : k = 9 ∨ k = 10 ∨ k = 11 := by omega
    have t12 : (k != 12) = true := by rw [bne_iff_ne]; omega
    have t13 : (k != 13) = true := by rw [bne_iff_ne]; omega
    have hbl : bothL k a.data.toList b.data.toList = List.zipWith (opC k) a.data.toList b.data.toList := by unfold bothL; rw [if_neg h12]
    have HBL := hide hbl
    have HK3 := hide hk3
    clear hbl hk3 h12
    have htl := tabOf_len k
    have htv : ∃ x0 x1 x2 x3 x4 x5 x6 x7 x8, tabOf k = [x0, x1, x2, x3, x4, x5, x6, x7, x8] := by
      generalize tabOf k = t at htl
      match t, htl with
      | [x0, x1, x2, x3, x4, x5, x6, x7, x8], _ => exact ⟨x0, x1, x2, x3, x4, x5, x6, x7, x8, rfl⟩
    obtain ⟨x0, x1, x2, x3, x4, x5, x6, x7, x8, htv⟩ := htv
    have HTV := hide (show tabV (tabOf k) = #[bv x0, bv x1, bv x2, bv x3, bv x4, bv x5, bv x6, bv x7, bv x8] by rw [htv]; rfl)
    rw [HTV.out]
    clear htl htv
    obtain ⟨W3, hW3⟩ : ∃ W3 : World, ((w.alloc (.cells #[bv x0, bv x1, bv x2, bv x3, bv x4, bv x5, bv x6, bv x7, bv x8] 176)).alloc (.cells #[.string b] 9)).alloc (.cells #[.int .i64 (-1)] 3) = W3 := ⟨_, rfl⟩
    have hz3 : W3.heap.size = w.heap.size + 3 := by rw [← hW3]; simp
    have hb3 : Below w.heap.size w W3 := by rw [← hW3]; exact (((Below.refl _ _).alloc (Nat.le_refl _) _).alloc (by simp) _).alloc (by simp; omega) _
    have hI : BothI (w.heap.size + 2) w.heap.size (w.heap.size + 1) k b 0 W3 := by
      have g1 := heap_alloc_new w (.cells #[bv x0, bv x1, bv x2, bv x3, bv x4, bv x5, bv x6, bv x7, bv x8] 176)
      have g2 := heap_alloc_new (w.alloc (.cells #[bv x0, bv x1, bv x2, bv x3, bv x4, bv x5, bv x6, bv x7, bv x8] 176)) (.cells #[.string b] 9)
      have g3 := heap_alloc_new ((w.alloc (.cells #[bv x0, bv x1, bv x2, bv x3, bv x4, bv x5, bv x6, bv x7, bv x8] 176)).alloc (.cells #[.string b] 9)) (.cells #[.int .i64 (-1)] 3)
      rw [World.size_alloc] at g2
      rw [World.size_alloc, World.size_alloc] at g3
      rw [← hW3]
      refine ⟨g3, ?_, box_alloc g2⟩
      rw [HTV.out]
      exact box_alloc (box_alloc g1)
    have HI := hide hI
    have HW3 := hide hW3
    have HZ3 := hide hz3
    have HB3 := hide hb3
    clear hI hW3 hz3 hb3
    go_enter Tryz.func120, Tryz.ntmps120
    go_wp2_with fail
    rw [HW3.out]
    refine (mapped_any _ _ (some (w.heap.size + 2)) a _ (BothI (w.heap.size + 2) w.heap.size (w.heap.size + 1) k b) W3 enters_both1 (both1_step (w.heap.size + 2) w.heap.size (w.heap.size + 1) k a.data.toList b (by simpa using hl) (by simpa using hab) HK3.out (by omega) (by omega)) (fun n W W' hb h => ⟨(hb.block _ (by rw [HZ3.out]; omega)).trans h.1, (hb.block _ (by rw [HZ3.out]; omega)).trans h.2.1, (hb.block _ (by rw [HZ3.out]; omega)).trans h.2.2⟩) (fun n h => by injection h with h; rw [HZ3.out]; omega) HI.out hl).mono ?_
    rintro e w4 ⟨rfl, _, hb4⟩
    have hsl : a.data.toList.length = a.size := by simp
    rw [← hsl, upto_zip (opC k) _ _ (by simpa using hab)]
    have HB4 := hide (show Below w.heap.size w w4 from HB3.out.trans (hb4.below (by rw [HZ3.out]; omega) (fun n h => by injection h with h; omega)))
    clear hb4
    go_wp2_with fail
    go_ret
    exact ⟨by rw [HBL.out]; rfl, HB4.out⟩

end Go.Proofs.YtaaplalfggofiaaGreatDoor

/-
  condition.slice; fold over bytes with the closure of Apply; mapped with the other closure of Apply.
-/
namespace Go.Proofs.YtaaplalfggofiaaGreatDoor
open Go.RowKit

theorem codeq (c : UInt8) (w : World) : Calls Tryz.prog 125 #[.int .u8 (c.toNat : Int)] w fun e w' => e = .returned (.int .i64 (codeC c : Int)) ∧ w' = w := (code_any c w).mono fun _ _ ⟨h1, h2⟩ => ⟨h1, h2.symm⟩

set_option maxRecDepth 100000 in
theorem slice_any (s : ByteArray) (hi lo : Int) (w : World) (hs : s.size ≤ 1000) (h1 : -9223372036854775808 ≤ hi ∧ hi ≤ 9223372036854775807) (h2 : -9223372036854775808 ≤ lo ∧ lo ≤ 9223372036854775807) :
    Calls Tryz.prog 123 #[.string s, .int .i64 hi, .int .i64 lo] w fun e w' => e = .returned (.string ⟨(sliceL s.data.toList hi lo).toArray⟩) ∧ w = w' := by
  by_cases h : lo < 0 ∨ lo > hi ∨ hi ≥ s.size
  · have HS := hide (show sliceL s.data.toList hi lo = [] by unfold sliceL; rw [if_pos]; simpa using h)
    by_cases ha : lo < 0
    · go_enter Tryz.func123, Tryz.ntmps123
      go_wp2_with fail
      go_ret
      exact ⟨by rw [HS.out]; rfl, rfl⟩
    · by_cases hb : hi < lo
      · go_enter Tryz.func123, Tryz.ntmps123
        go_wp2_with fail
        go_ret
        exact ⟨by rw [HS.out]; rfl, rfl⟩
      · have hc : (s.size : Int) ≤ hi := by omega
        clear h
        go_enter Tryz.func123, Tryz.ntmps123
        go_wp2_with fail
        go_ret
        exact ⟨by rw [HS.out]; rfl, rfl⟩
  · obtain ⟨m, rfl⟩ : ∃ m : Nat, hi = m := ⟨hi.toNat, by omega⟩
    obtain ⟨n, rfl⟩ : ∃ n : Nat, lo = n := ⟨lo.toNat, by omega⟩
    have e1 : n ≤ m := by omega
    have e2 : m < s.size := by omega
    have e3 : (m : Int) < (s.size : Int) := by omega
    have e4 : (n : Int) ≤ (m : Int) := by omega
    have e5 : (0 : Int) ≤ (n : Int) := by omega
    clear h
    go_enter Tryz.func123, Tryz.ntmps123
    go_wp2_with fail
    go_ret
    refine ⟨?_, rfl⟩
    have hx : s.extract (s.size - 1 - m) (s.size - n) = ⟨(sliceL s.data.toList m n).toArray⟩ := by
      apply ByteArray.ext
      apply Array.toList_inj.1
      rw [Lib.extract_data]
      unfold sliceL
      have hl : s.data.toList.length = s.size := by simp
      rw [if_neg (by rw [hl]; omega), hl]
      show _ = List.take ((m : Int).toNat - (n : Int).toNat + 1) (List.drop (s.size - 1 - (m : Int).toNat) s.data.toList)
      rw [Int.toNat_natCast, Int.toNat_natCast]
      congr 1
      omega
    rw [← hx]
    rfl

theorem tabc {w : World} {Bt : Nat} {l : List UInt8} {t : TypeId} (h : w.heap[Bt]? = some (.cells (tabV l) t (0, 0))) {i : Nat} (hi : i < l.length) : w.cell? ⟨Bt, i, none⟩ = some (bv (l.getD i 0)) := by
  rw [cell_of_row w Bt i _ t (0, 0) h]
  simp [tabV, List.getElem?_eq_getElem hi, List.getD]
set_option maxRecDepth 100000 in
set_option maxHeartbeats 1000000 in
theorem apply2_any (k : Int) (hk : k = 9 ∨ k = 10 ∨ k = 11) (x c : UInt8) (Bt : Nat) (w : World) (h : w.heap[Bt]? = some (.cells (tabV (tabOf (k + 5))) 176 (0, 0))) :
    Calls Tryz.prog 127 #[bv x, bv c, .pointer (some ⟨Bt, 0, none⟩)] w fun e w' => e = .returned (bv (opC k x c)) ∧ ∃ n, w' = w.drewN n := by
  have p1 : ((codeC x : Nat) : Int) < 3 := by have := codeC_le x; omega
  have p0 : (0 : Int) ≤ ((codeC x : Nat) : Int) := by omega
  have q1 : ((codeC c : Nat) : Int) < 3 := by have := codeC_le c; omega
  have q0 : (0 : Int) ≤ ((codeC c : Nat) : Int) := by omega
  have hcell := tabc h (i := codeC x * 3 + codeC c) (by rw [tabOf_len]; omega)
  have HOP := hide (op_tab k hk x c).2
  go_enter Tryz.func127, Tryz.ntmps127
  go_upto_region 1 with (fail)
  go_quiet ((go_at_call 125; exact Calls.quiet_of_same (codeq _ _)))
  go_wp2_with fail
  go_ret
  exact ⟨by rw [HOP.out]; rfl, nq, rfl⟩

def FoRel (k : Int) (x : UInt8) (l : List UInt8) (w : World) (out i : Value) (wr : World) : Prop := ∃ (n q : Nat), n ≤ l.length ∧ i = .int .i64 n ∧ out = bv ((l.take n).foldl (opC k) x) ∧ wr = w.drewN q
set_option maxRecDepth 100000 in
set_option maxHeartbeats 1000000 in
theorem foldo_any (k : Int) (hk : k = 9 ∨ k = 10 ∨ k = 11) (x : UInt8) (l : List UInt8) (bb cb Bt : Nat) (w : World) (h : w.heap[Bt]? = some (.cells (tabV (tabOf (k + 5))) 176 (0, 0))) (hby : ∀ i c, l[i]? = some c → w.cell? ⟨bb, i, none⟩ = some (bv c)) (hl : l.length ≤ 1000) :
    Calls Tryz.prog 126 #[.slice (some ⟨bb, 0, none⟩) l.length cb, bv x, .func (.func 127) #[] #[.pointer (some ⟨Bt, 0, none⟩)]] w fun e w' => e = .returned (bv (l.foldl (opC k) x)) ∧ ∃ n, w' = w.drewN n := by
  have HBY := hide hby
  clear hby
  go_enter Tryz.func126, Tryz.ntmps126
  go_wp2_with fail
  go_loopw [1, 11] (fun out i wr => FoRel k x l w out i wr) (fun _ i _ => l.length - (intOf i).toNat)
  case atStart => exact ⟨0, 0, Nat.zero_le _, rfl, rfl, rfl⟩
  case round =>
    obtain ⟨n, q, hn, rfl, rfl, rfl⟩ := hrel
    by_cases hlt : n < l.length
    · have q1 : (w.drewN q).cell? ⟨bb, n, none⟩ = some (bv l[n]) := HBY.out n _ (List.getElem?_eq_getElem hlt)
      have HF := hide (show (l.take (n + 1)).foldl (opC k) x = opC k ((l.take n).foldl (opC k) x) l[n] by rw [List.take_succ_eq_append_getElem hlt, List.foldl_append]; rfl)
      have hq : (w.drewN q).heap[Bt]? = some (.cells (tabV (tabOf (k + 5))) 176 (0, 0)) := h
      generalize l[n] = c at *
      generalize (l.take n).foldl (opC k) x = y at *
      go_wp2_with fail
      refine (apply2_any k hk y c Bt _ hq).mono ?_
      rintro e w1 ⟨rfl, m, rfl⟩
      go_wp2_with fail
      go_roundw
      case rel => exact ⟨n + 1, q + m, by omega, by go_num, by rw [HF.out], by simp [World.drewN]⟩
      case measure => simp [intOf]; omega
    · have hne : n = l.length := by omega
      subst hne
      go_wp2_with fail
      go_ret
      exact ⟨by rw [List.take_length]; rfl, q, rfl⟩

theorem apply1_any (c : UInt8) (w : World) : Calls Tryz.prog 124 #[bv c] w fun e w' => e = .returned (bv (zxC c)) ∧ w = w' := by
  have hk := zx_code c
  have hle := codeC_le c
  have hx : codeC c = 0 ∨ codeC c = 1 ∨ codeC c = 2 := by omega
  have HX := hide hx
  have HK := hide hk
  clear hx hk
  go_enter Tryz.func124, Tryz.ntmps124
  go_wp2_with fail
  refine (code_any c _).mono ?_
  rintro e w1 ⟨rfl, rfl⟩
  have hx := HX.out
  generalize codeC c = n at *
  clear HX
  rcases hx with rfl | rfl | rfl
  all_goals
    go_wp2_with fail
    go_ret
    exact ⟨by rw [HK.out]; rfl, rfl⟩

end Go.Proofs.YtaaplalfggofiaaGreatDoor
