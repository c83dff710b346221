/-
  Several texts in one: CmpI, DecC, BCmp. Each says at its head what it holds.
-/
import Derived.Test.YtdlebcijgdkfjaaGreatDoorCR18
import Derived.Test.YtdlebcijgdkfjaaGreatDoorCR20
import Derived.Outline
import Derived.Lib.UnsafeStr
import Derived.Lib.Bytealg

/-
  cmp.Compare at ints.
-/
namespace Go.Proofs.YtdlebcijgdkfjaaGreatDoor
open Go.RowKit

set_option maxRecDepth 100000 in
theorem isNaN_int (a : Int) (w : World) : Calls Tryz.prog 196 #[.int .i64 a] w fun r w' => r = .returned (.bool false) ∧ w = w' := by
  have t : (a != a) = false := by simp
  go_enter Tryz.func196, Tryz.ntmps196
  go_wp2_with fail
  go_ret
  exact ⟨by simp, rfl⟩
set_option maxRecDepth 100000 in
theorem cmpInt_any (a b : Int) (w : World) : Calls Tryz.prog 135 #[.int .i64 a, .int .i64 b] w fun r w' => r = .returned (.int .i64 (cmpI a b)) ∧ w = w' := by
  by_cases h1 : a < b
  · have HC := hide (show cmpI a b = -1 by unfold cmpI; rw [if_pos h1])
    go_enter Tryz.func135, Tryz.ntmps135
    go_wp2_with fail
    refine (isNaN_int _ _).mono ?_
    rintro e w1 ⟨rfl, rfl⟩
    go_wp2_with fail
    refine (isNaN_int _ _).mono ?_
    rintro e w1 ⟨rfl, rfl⟩
    go_wp2_with fail
    go_ret
    exact ⟨by rw [HC.out]; rfl, rfl⟩
  · by_cases h2 : b < a
    · have HC := hide (show cmpI a b = 1 by unfold cmpI; rw [if_neg h1, if_pos h2])
      go_enter Tryz.func135, Tryz.ntmps135
      go_wp2_with fail
      refine (isNaN_int _ _).mono ?_
      rintro e w1 ⟨rfl, rfl⟩
      go_wp2_with fail
      refine (isNaN_int _ _).mono ?_
      rintro e w1 ⟨rfl, rfl⟩
      go_wp2_with fail
      go_ret
      exact ⟨by rw [HC.out]; rfl, rfl⟩
    · have HC := hide (show cmpI a b = 0 by unfold cmpI; rw [if_neg h1, if_neg h2])
      go_enter Tryz.func135, Tryz.ntmps135
      go_wp2_with fail
      refine (isNaN_int _ _).mono ?_
      rintro e w1 ⟨rfl, rfl⟩
      go_wp2_with fail
      refine (isNaN_int _ _).mono ?_
      rintro e w1 ⟨rfl, rfl⟩
      go_wp2_with fail
      go_ret
      exact ⟨by rw [HC.out]; rfl, rfl⟩

end Go.Proofs.YtdlebcijgdkfjaaGreatDoor

/-
  decimal.canonical, Valid, magnitude, compare, Compare.
-/
namespace Go.Proofs.YtdlebcijgdkfjaaGreatDoor
open Go.RowKit

def CanP (s : ByteArray) (W : World) (e : Ending) : Prop := match canonC 1048576 s.data.toList with
  | none => ∃ neg A n c e', e = .returned (.tuple #[.agg #[.bool neg, .slice A n c, .int .i64 e'], .bool false])
  | some d => ∃ A c, e = .returned (.tuple #[.agg #[.bool d.neg, .slice A d.ds.length c, .int .i64 (expD d)], .bool true]) ∧ BytesAt W A d.ds ∧ d.ds.length ≤ c ∧ c ≤ 9223372036854775807
theorem raw_bounds (r : Raw) (h : r.whole.length ≤ 64 ∧ r.frac.length ≤ 64) : (decOf 1048576 r).ds.length ≤ 1000 ∧ -2000000 ≤ (decOf 1048576 r).fst ∧ (decOf 1048576 r).fst ≤ 2000000 := by
  have h1 := clampE_le 1048576 r.expo
  have h2 : -1048576 ≤ expV 1048576 r ∧ expV 1048576 r ≤ 1048576 := by unfold expV; split <;> omega
  have h3 := nrm_len r.neg (r.whole ++ r.frac) ((r.whole.length : Int) - 1 + expV 1048576 r)
  rw [List.length_append] at h3
  refine ⟨by unfold decOf; omega, ?_⟩
  unfold decOf nrm
  split
  · exact ⟨by decide, by decide⟩
  · have h4 : ((r.whole ++ r.frac).dropWhile zC).length ≤ (r.whole ++ r.frac).length := (List.dropWhile_suffix zC).length_le
    rw [List.length_append] at h4 ⊢
    dsimp only
    omega
theorem set3_ncs {W : World} {N : Nat} {neg : Bool} {A : Option Addr} {n c : Nat} {e : Int} (h : W.heap[N]? = some (ncs neg A n c e)) (neg' : Bool) (A' : Option Addr) (n' c' : Nat) (e' : Int) {W9 : World} (hW : ((W.setCell ⟨N, 0, none⟩ (.bool neg')).setCell ⟨N, 1, none⟩ (.slice A' n' c')).setCell ⟨N, 2, none⟩ (.int .i64 e') = W9) :
    W9.heap[N]? = some (ncs neg' A' n' c' e') ∧ (∀ b, b ≠ N → W9.heap[b]? = W.heap[b]?) ∧ ∀ B, B ≤ N → Below B W W9 := by
  subst hW
  exact ⟨ncs_set2 (ncs_set1 (ncs_set0 h neg') A' n' c') e', fun b hb => ((set_other hb).trans (set_other hb)).trans (set_other hb), fun B hB => (((Below.refl _ _).setCell (p := ⟨N, 0, none⟩) hB _).setCell (p := ⟨N, 1, none⟩) hB _).setCell (p := ⟨N, 2, none⟩) hB _⟩

set_option maxRecDepth 100000 in
set_option maxHeartbeats 1000000 in
theorem canonical_any (s : ByteArray) (w : World) (hT : Tab w) : Calls Tryz.prog 84 #[.string s] w fun e w' => CanP s w' e ∧ Below w.heap.size w w' := by
  go_enter Tryz.func84, Tryz.ntmps84
  go_wp2_with fail
  have hbx := heap_alloc_new w (ncs false none 0 0 0)
  have hb0 : Below w.heap.size w (w.alloc (ncs false none 0 0 0)) := (Below.refl _ _).alloc (Nat.le_refl _) _
  refine (scan_any s _).mono ?_
  rintro e w1 ⟨⟨v, rfl, hv⟩, b1⟩
  have HB1 := hide (bstep hb0 b1)
  have HX1 := hide (box_below b1 hbx)
  clear hb0 b1 hbx
  cases hr : readR s.data.toList with
  | none =>
    have HC := hide (show canonC 1048576 s.data.toList = none by unfold canonC; rw [hr])
    unfold ScanP at hv
    rw [hr] at hv
    clear hr
    obtain ⟨neg, A, n, c, e, rfl⟩ := hv
    unfold nv
    obtain ⟨c0, c1, c2, f0, f1, f2⟩ := ncs_at HX1.out
    have hlt := box_lt HX1.out
    go_wp2_with fail
    generalize hW9 : World.setCell _ _ _ = W9
    obtain ⟨q1, q2, q3⟩ := set3_ncs HX1.out _ _ _ _ _ hW9
    obtain ⟨x0, x1, x2, _⟩ := ncs_at q1
    have hl9 := box_lt q1
    refine bodyPost_ret (v := .tuple #[.agg #[.bool false, .slice none 0 0, .int .i64 0], .bool false]) (by simp [results, Tryz.results84, go_sem, x0, x1, x2, hl9]) rfl ⟨?_, ?_⟩
    · unfold CanP
      rw [HC.out]
      exact ⟨_, _, _, _, _, rfl⟩
    · have hb9 := HB1.out.trans (q3 _ (Nat.le_refl _))
      exact hb9.alloc hb9.size _
  | some r =>
    have hd := raw_bounds r (readR_len hr)
    have HC := hide (show canonC 1048576 s.data.toList = if fitB (decOf 1048576 r) = true ∧ txt (decOf 1048576 r) = s.data.toList then some (decOf 1048576 r) else none by unfold canonC; rw [hr])
    replace hv : ∃ x, v = .tuple #[x, .bool true] ∧ NumIs w1 x (decOf 1048576 r) := by unfold ScanP at hv; rw [hr] at hv; exact hv
    clear hr
    generalize decOf 1048576 r = d at *
    obtain ⟨x, rfl, A, c, rfl, hby, hlc, hcb⟩ := hv
    have HBY := hide hby
    unfold nv
    obtain ⟨c0, c1, c2, f0, f1, f2⟩ := ncs_at HX1.out
    have HTX := hide (fun W (h : Below w1.heap.size w1 W) => ctext_any d (nv d.neg A d.ds.length c (expD d)) W (hT.below (bstep HB1.out h)) ⟨A, c, rfl, hby.below h, hlc, hcb⟩ hd.1 hd.2.1 hd.2.2)
    unfold nv at HTX
    clear hby hd
    have hlt := box_lt HX1.out
    go_wp2_with fail
    have hbm := heap_alloc_new w1 (ncs d.neg A d.ds.length c (expD d))
    have hb2 : Below w1.heap.size w1 (w1.alloc (ncs d.neg A d.ds.length c (expD d))) := (Below.refl _ _).alloc (Nat.le_refl _) _
    refine (HTX.out _ hb2).mono ?_
    rintro e w2 ⟨⟨v, rfl, hv⟩, b2⟩
    have HB2 := hide (bstep HB1.out (bstep hb2 b2))
    have HX2 := hide (box_below (bstep hb2 b2) HX1.out)
    have HM2 := hide (box_below b2 hbm)
    have HY2 := hide (HBY.out.below (bstep hb2 b2))
    clear hb2 b2 hbm c0 c1 c2 f0 f1 f2
    obtain ⟨c0, c1, c2, f0, f1, f2⟩ := ncs_at HX2.out
    obtain ⟨z0, z1, z2, g0, g1, g2⟩ := ncs_at HM2.out
    have fin : ∀ (m : Bool) W9, ((w2.setCell ⟨w.heap.size, 0, none⟩ (.bool d.neg)).setCell ⟨w.heap.size, 1, none⟩ (.slice A d.ds.length c)).setCell ⟨w.heap.size, 2, none⟩ (.int .i64 (expD d)) = W9 → (m = true → canonC 1048576 s.data.toList = some d) → (m = false → canonC 1048576 s.data.toList = none) →
        (W9.cell? ⟨w.heap.size, 0, none⟩ = some (.bool d.neg) ∧ W9.cell? ⟨w.heap.size, 1, none⟩ = some (.slice A d.ds.length c) ∧ W9.cell? ⟨w.heap.size, 2, none⟩ = some (.int .i64 (expD d))) ∧ CanP s W9 (.returned (.tuple #[.agg #[.bool d.neg, .slice A d.ds.length c, .int .i64 (expD d)], .bool m])) ∧ Below w.heap.size w W9 := by
      intro m W9 hW9 h1 h2
      obtain ⟨q1, q2, q3⟩ := set3_ncs HX2.out _ _ _ _ _ hW9
      obtain ⟨x0, x1, x2, _⟩ := ncs_at q1
      refine ⟨⟨x0, x1, x2⟩, ?_, HB2.out.trans (q3 _ (Nat.le_refl _))⟩
      cases m
      · unfold CanP
        rw [h2 rfl]
        exact ⟨_, _, _, _, _, rfl⟩
      · unfold CanP
        rw [h1 rfl]
        exact ⟨A, c, rfl, keep_ncs HX2.out HY2.out q2, hlc, hcb⟩
    have FIN := hide fin
    clear fin
    unfold TextP at hv
    split at hv
    · rename_i hf
      subst hv
      by_cases ht : txt d = s.data.toList
      · have t2 : ((bs (txt d)).toList == s.toList) = true := by
          rw [ByteArray.toList_eq, ByteArray.toList_eq]; exact beq_iff_eq.2 ht
        rw [if_pos ⟨hf, ht⟩] at HC
        clear ht hf
        go_wp2_with fail
        generalize hW9 : World.setCell _ _ _ = W9
        obtain ⟨⟨x0, x1, x2⟩, y1, y2⟩ := FIN.out true W9 hW9 (fun _ => HC.out) (fun h => by cases h)
        exact bodyPost_ret (v := .tuple #[.agg #[.bool d.neg, .slice A d.ds.length c, .int .i64 (expD d)], .bool true]) (by simp [results, Tryz.results84, go_sem, x0, x1, x2]) rfl ⟨y1, y2⟩
      · have t2 : ((bs (txt d)).toList == s.toList) = false := by
          rw [ByteArray.toList_eq, ByteArray.toList_eq]; exact beq_eq_false_iff_ne.2 ht
        rw [if_neg (fun h => ht h.2)] at HC
        clear ht hf
        go_wp2_with fail
        generalize hW9 : World.setCell _ _ _ = W9
        obtain ⟨⟨x0, x1, x2⟩, y1, y2⟩ := FIN.out false W9 hW9 (fun h => by cases h) (fun _ => HC.out)
        exact bodyPost_ret (v := .tuple #[.agg #[.bool d.neg, .slice A d.ds.length c, .int .i64 (expD d)], .bool false]) (by simp [results, Tryz.results84, go_sem, x0, x1, x2]) rfl ⟨y1, y2⟩
    · rename_i hf
      obtain ⟨e, he, rfl⟩ := hv
      have t1 : (e == 0) = false := beq_eq_false_iff_ne.2 he
      rw [if_neg (fun h => hf h.1)] at HC
      clear he hf
      go_wp2_with fail
      generalize hW9 : World.setCell _ _ _ = W9
      obtain ⟨⟨x0, x1, x2⟩, y1, y2⟩ := FIN.out false W9 hW9 (fun h => by cases h) (fun _ => HC.out)
      exact bodyPost_ret (v := .tuple #[.agg #[.bool d.neg, .slice A d.ds.length c, .int .i64 (expD d)], .bool false]) (by simp [results, Tryz.results84, go_sem, x0, x1, x2]) rfl ⟨y1, y2⟩

def valB (s : ByteArray) : Bool := (canonC 1048576 s.data.toList).isSome
set_option maxRecDepth 100000 in
theorem valid_dec (s : ByteArray) (w : World) (hT : Tab w) : Calls Tryz.prog 33 #[.string s] w fun e w' => e = .returned (.bool (valB s)) ∧ Below w.heap.size w w' := by
  go_enter Tryz.func33, Tryz.ntmps33
  go_wp2_with fail
  refine (canonical_any s _ hT).mono ?_
  rintro e w1 ⟨hv, b1⟩
  have HB := hide (b1.alloc b1.size (ncs false none 0 0 0))
  cases hc : canonC 1048576 s.data.toList with
  | none =>
    have HV := hide (show valB s = false by unfold valB; rw [hc]; rfl)
    unfold CanP at hv
    rw [hc] at hv
    obtain ⟨neg, A, n, c, e', rfl⟩ := hv
    clear hc
    go_wp2_with fail
    go_ret
    exact ⟨by rw [HV.out]; rfl, b1.alloc b1.size _⟩
  | some d =>
    have HV := hide (show valB s = true by unfold valB; rw [hc]; rfl)
    unfold CanP at hv
    rw [hc] at hv
    obtain ⟨A, c, rfl, _, _, _⟩ := hv
    clear hc
    go_wp2_with fail
    go_ret
    exact ⟨by rw [HV.out]; rfl, b1.alloc b1.size _⟩

end Go.Proofs.YtdlebcijgdkfjaaGreatDoor

/-
  bytes.Compare at two rows of bytes.
-/
namespace Go.Proofs.YtdlebcijgdkfjaaGreatDoor
open Go.RowKit

theorem cmp_lex : ∀ a b : List UInt8, Lib.compareBytes a b = lexC a b
  | [], [] => rfl
  | [], _ :: _ => rfl
  | _ :: _, [] => rfl
  | x :: p, y :: q => by rw [Lib.compareBytes, lexC, cmp_lex p q]
theorem run_lb {w : World} : ∀ (l : List UInt8) (a : Addr) (acc : ByteArray), (∀ j x, l[j]? = some x → w.cell? (a.add j) = some (.int .u8 x.toNat)) →
    (Extern.Bytes.loadBytes a l.length acc).run Tryz.prog w = .ok ⟨acc.data ++ l.toArray⟩ w
  | [], a, acc, _ => by simp [Extern.Bytes.loadBytes]
  | x :: l, a, acc, h => by
    have h0 : w.cell? a = some (.int .u8 x.toNat) := by
      have := h 0 x rfl
      simpa [Addr.add] using this
    have ih := run_lb l (a.add 1) (acc.push x) (fun j y hy => by
      have := h (j + 1) y (by simpa using hy)
      have e : (a.add 1).add j = a.add (j + 1) := by
        unfold Addr.add
        by_cases hj : j = 0
        · subst hj; simp
        · simp [hj]; omega
      rw [e]; exact this)
    have hx : ((x.toNat : Int).toNat).toUInt8 = x := by simp
    simp only [List.length_cons, Extern.Bytes.loadBytes, Sem.run_bind, run_load, h0, Result.andThen, hx]
    rw [ih]
    congr 1
    apply ByteArray.ext
    simp
theorem run_row {W : World} {A : Option Addr} {l : List UInt8} (h : BytesAt W A l) (c : Nat) : (Extern.Bytes.bytesOf (.slice A l.length c)).run Tryz.prog W = .ok (bs l) W := by
  cases l with
  | nil => cases A <;> rfl
  | cons x l =>
    obtain ⟨b, off, rfl, _⟩ := h 0 x rfl
    have := run_lb (w := W) (x :: l) ⟨b, off, none⟩ .empty (fun j y hj => by
      obtain ⟨b', off', e', hc⟩ := h j y hj
      injection e' with e'
      injection e' with e1 e2
      subst e1 e2
      rw [addr_add]
      exact hc)
    exact this.trans (by congr 1; apply ByteArray.ext; simp [bs])
set_option maxRecDepth 100000 in
theorem bcmp_any (A B : Option Addr) (c d : Nat) (x y : List UInt8) (w : World) (hx : BytesAt w A x) (hy : BytesAt w B y) :
    Calls Tryz.prog 197 #[.slice A x.length c, .slice B y.length d] w fun e w' => e = .returned (.int .i64 (lexC x y)) ∧ w = w' := by
  have HX := hide hx
  have HY := hide hy
  clear hx hy
  go_enter Tryz.func197, Tryz.ntmps197
  go_wp2_with fail
  rw [run_callFunc_extern Tryz.func223 (by kernel_rfl) (by kernel_rfl) (by kernel_rfl) (e := Extern.BytealgCompare.compare) (by kernel_rfl)]
  have hrun : (Extern.BytealgCompare.compare #[.slice A x.length c, .slice B y.length d]).run Tryz.prog w = .ok (.int .i64 (lexC x y)) w := by
    change Sem.run Tryz.prog (do pure (goInt (Extern.BytealgCompare.cmp (← Extern.Bytes.bytesOf (.slice A x.length c)) (← Extern.Bytes.bytesOf (.slice B y.length d))))) w = _
    simp only [Sem.run_bind, Sem.run_pure, run_row HX.out, run_row HY.out, Result.andThen]
    rw [Lib.cmp_eq, cmp_lex]
    rfl
  rw [hrun]
  simp only [Result.andThen]
  rw [Oper.upon_value]
  go_wp2
  go_ret
  exact ⟨rfl, rfl⟩

end Go.Proofs.YtdlebcijgdkfjaaGreatDoor
