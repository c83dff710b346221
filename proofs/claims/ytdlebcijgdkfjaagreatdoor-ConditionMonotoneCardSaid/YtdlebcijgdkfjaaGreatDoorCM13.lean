/-
  Several texts in one: DecC, BCmp, DecP. Each says at its head what it holds.
-/
import Derived.Test.YtdlebcijgdkfjaaGreatDoorCM12
import Derived.Test.YtdlebcijgdkfjaaGreatDoorCM10
import Derived.Outline
import Derived.Test.YtdlebcijgdkfjaaGreatDoorCM11
import Derived.Lib.UnsafeStr
import Derived.Lib.Bytealg
import Derived.Deep.RegionHeld3
import Derived.IntWalk

/-
  decimal.canonical, Valid, magnitude, compare, Compare.
-/
namespace Go.Proofs.YtdlebcijgdkfjaaGreatDoor
open Go.RowKit

def CanP (s : ByteArray) (W : World) (e : Ending) : Prop := match canonC 1048576 s.data.toList with
  | none => ∃ neg A n c e', e = .returned (.tuple #[.agg #[.bool neg, .slice A n c, .int .i64 e'], .bool false])
  | some d => ∃ A c, e = .returned (.tuple #[.agg #[.bool d.neg, .slice A d.ds.length c, .int .i64 (expD d)], .bool true]) ∧ BytesAt W A d.ds ∧ d.ds.length ≤ c ∧ c ≤ 9223372036854775807
theorem raw_bounds (r : Raw) (h : r.whole.length ≤ 64 ∧ r.frac.length ≤ 64) : (decOf 1048576 r).ds.length ≤ 1000 ∧ -2000000 ≤ (decOf 1048576 r).fst ∧ (decOf 1048576 r).fst ≤ 2000000 := by
  have h1 := clampE_le 1048576 r.expo
  have h2 : -1048576 ≤ expV 1048576 r ∧ expV 1048576 r ≤ 1048576 := by unfold expV; split <;> omega
  have h3 := nrm_len r.neg (r.whole ++ r.frac) ((r.whole.length : Int) - 1 + expV 1048576 r)
  rw [List.length_append] at h3
  refine ⟨by unfold decOf; omega, ?_⟩
  unfold decOf nrm
  split
  · exact ⟨by decide, by decide⟩
  · have h4 : ((r.whole ++ r.frac).dropWhile zC).length ≤ (r.whole ++ r.frac).length := (List.dropWhile_suffix zC).length_le
    rw [List.length_append] at h4 ⊢
    dsimp only
    omega
theorem set3_ncs {W : World} {N : Nat} {neg : Bool} {A : Option Addr} {n c : Nat} {e : Int} (h : W.heap[N]? = some (ncs neg A n c e)) (neg' : Bool) (A' : Option Addr) (n' c' : Nat) (e' : Int) {W9 : World} (hW : ((W.setCell ⟨N, 0, none⟩ (.bool neg')).setCell ⟨N, 1, none⟩ (.slice A' n' c')).setCell ⟨N, 2, none⟩ (.int .i64 e') = W9) :
    W9.heap[N]? = some (ncs neg' A' n' c' e') ∧ (∀ b, b ≠ N → W9.heap[b]? = W.heap[b]?) ∧ ∀ B, B ≤ N → Below B W W9 := by
  subst hW
  exact ⟨ncs_set2 (ncs_set1 (ncs_set0 h neg') A' n' c') e', fun b hb => ((set_other hb).trans (set_other hb)).trans (set_other hb), fun B hB => (((Below.refl _ _).setCell (p := ⟨N, 0, none⟩) hB _).setCell (p := ⟨N, 1, none⟩) hB _).setCell (p := ⟨N, 2, none⟩) hB _⟩

set_option maxRecDepth 100000 in
set_option maxHeartbeats 1000000 in
theorem canonical_any (s : ByteArray) (w : World) (hT : Tab w) : Calls Tryz.prog 84 #[.string s] w fun e w' => CanP s w' e ∧ Below w.heap.size w w' := by
  go_enter Tryz.func84, Tryz.ntmps84
  go_wp2_with fail
  have hbx := heap_alloc_new w (ncs false none 0 0 0)
  have hb0 : Below w.heap.size w (w.alloc (ncs false none 0 0 0)) := (Below.refl _ _).alloc (Nat.le_refl _) _
  refine (scan_any s _).mono ?_
  rintro e w1 ⟨⟨v, rfl, hv⟩, b1⟩
  have HB1 := hide (bstep hb0 b1)
  have HX1 := hide (box_below b1 hbx)
  clear hb0 b1 hbx
  cases hr : readR s.data.toList with
  | none =>
    have HC := hide (show canonC 1048576 s.data.toList = none by unfold canonC; rw [hr])
    unfold ScanP at hv
    rw [hr] at hv
    clear hr
    obtain ⟨neg, A, n, c, e, rfl⟩ := hv
    unfold nv
    obtain ⟨c0, c1, c2, f0, f1, f2⟩ := ncs_at HX1.out
    have hlt := box_lt HX1.out
    go_wp2_with fail
    generalize hW9 : World.setCell _ _ _ = W9
    obtain ⟨q1, q2, q3⟩ := set3_ncs HX1.out _ _ _ _ _ hW9
    obtain ⟨x0, x1, x2, _⟩ := ncs_at q1
    have hl9 := box_lt q1
    refine bodyPost_ret (v := .tuple #[.agg #[.bool false, .slice none 0 0, .int .i64 0], .bool false]) (by simp [results, Tryz.results84, go_sem, x0, x1, x2, hl9]) rfl ⟨?_, ?_⟩
    · unfold CanP
      rw [HC.out]
      exact ⟨_, _, _, _, _, rfl⟩
    · have hb9 := HB1.out.trans (q3 _ (Nat.le_refl _))
      exact hb9.alloc hb9.size _
  | some r =>
    have hd := raw_bounds r (readR_len hr)
    have HC := hide (show canonC 1048576 s.data.toList = if fitB (decOf 1048576 r) = true ∧ txt (decOf 1048576 r) = s.data.toList then some (decOf 1048576 r) else none by unfold canonC; rw [hr])
    replace hv : ∃ x, v = .tuple #[x, .bool true] ∧ NumIs w1 x (decOf 1048576 r) := by unfold ScanP at hv; rw [hr] at hv; exact hv
    clear hr
    generalize decOf 1048576 r = d at *
    obtain ⟨x, rfl, A, c, rfl, hby, hlc, hcb⟩ := hv
    have HBY := hide hby
    unfold nv
    obtain ⟨c0, c1, c2, f0, f1, f2⟩ := ncs_at HX1.out
    have HTX := hide (fun W (h : Below w1.heap.size w1 W) => ctext_any d (nv d.neg A d.ds.length c (expD d)) W (hT.below (bstep HB1.out h)) ⟨A, c, rfl, hby.below h, hlc, hcb⟩ hd.1 hd.2.1 hd.2.2)
    unfold nv at HTX
    clear hby hd
    have hlt := box_lt HX1.out
    go_wp2_with fail
    have hbm := heap_alloc_new w1 (ncs d.neg A d.ds.length c (expD d))
    have hb2 : Below w1.heap.size w1 (w1.alloc (ncs d.neg A d.ds.length c (expD d))) := (Below.refl _ _).alloc (Nat.le_refl _) _
    refine (HTX.out _ hb2).mono ?_
    rintro e w2 ⟨⟨v, rfl, hv⟩, b2⟩
    have HB2 := hide (bstep HB1.out (bstep hb2 b2))
    have HX2 := hide (box_below (bstep hb2 b2) HX1.out)
    have HM2 := hide (box_below b2 hbm)
    have HY2 := hide (HBY.out.below (bstep hb2 b2))
    clear hb2 b2 hbm c0 c1 c2 f0 f1 f2
    obtain ⟨c0, c1, c2, f0, f1, f2⟩ := ncs_at HX2.out
    obtain ⟨z0, z1, z2, g0, g1, g2⟩ := ncs_at HM2.out
    have fin : ∀ (m : Bool) W9, ((w2.setCell ⟨w.heap.size, 0, none⟩ (.bool d.neg)).setCell ⟨w.heap.size, 1, none⟩ (.slice A d.ds.length c)).setCell ⟨w.heap.size, 2, none⟩ (.int .i64 (expD d)) = W9 → (m = true → canonC 1048576 s.data.toList = some d) → (m = false → canonC 1048576 s.data.toList = none) →
        (W9.cell? ⟨w.heap.size, 0, none⟩ = some (.bool d.neg) ∧ W9.cell? ⟨w.heap.size, 1, none⟩ = some (.slice A d.ds.length c) ∧ W9.cell? ⟨w.heap.size, 2, none⟩ = some (.int .i64 (expD d))) ∧ CanP s W9 (.returned (.tuple #[.agg #[.bool d.neg, .slice A d.ds.length c, .int .i64 (expD d)], .bool m])) ∧ Below w.heap.size w W9 := by
      intro m W9 hW9 h1 h2
      obtain ⟨q1, q2, q3⟩ := set3_ncs HX2.out _ _ _ _ _ hW9
      obtain ⟨x0, x1, x2, _⟩ := ncs_at q1
      refine ⟨⟨x0, x1, x2⟩, ?_, HB2.out.trans (q3 _ (Nat.le_refl _))⟩
      cases m
      · unfold CanP
        rw [h2 rfl]
        exact ⟨_, _, _, _, _, rfl⟩
      · unfold CanP
        rw [h1 rfl]
        exact ⟨A, c, rfl, keep_ncs HX2.out HY2.out q2, hlc, hcb⟩
    have FIN := hide fin
    clear fin
    unfold TextP at hv
    split at hv
    · rename_i hf
      subst hv
      by_cases ht : txt d = s.data.toList
      · have t2 : ((bs (txt d)).toList == s.toList) = true := by
          rw [ByteArray.toList_eq, ByteArray.toList_eq]; exact beq_iff_eq.2 ht
        rw [if_pos ⟨hf, ht⟩] at HC
        clear ht hf
        go_wp2_with fail
        generalize hW9 : World.setCell _ _ _ = W9
        obtain ⟨⟨x0, x1, x2⟩, y1, y2⟩ := FIN.out true W9 hW9 (fun _ => HC.out) (fun h => by cases h)
        exact bodyPost_ret (v := .tuple #[.agg #[.bool d.neg, .slice A d.ds.length c, .int .i64 (expD d)], .bool true]) (by simp [results, Tryz.results84, go_sem, x0, x1, x2]) rfl ⟨y1, y2⟩
      · have t2 : ((bs (txt d)).toList == s.toList) = false := by
          rw [ByteArray.toList_eq, ByteArray.toList_eq]; exact beq_eq_false_iff_ne.2 ht
        rw [if_neg (fun h => ht h.2)] at HC
        clear ht hf
        go_wp2_with fail
        generalize hW9 : World.setCell _ _ _ = W9
        obtain ⟨⟨x0, x1, x2⟩, y1, y2⟩ := FIN.out false W9 hW9 (fun h => by cases h) (fun _ => HC.out)
        exact bodyPost_ret (v := .tuple #[.agg #[.bool d.neg, .slice A d.ds.length c, .int .i64 (expD d)], .bool false]) (by simp [results, Tryz.results84, go_sem, x0, x1, x2]) rfl ⟨y1, y2⟩
    · rename_i hf
      obtain ⟨e, he, rfl⟩ := hv
      have t1 : (e == 0) = false := beq_eq_false_iff_ne.2 he
      rw [if_neg (fun h => hf h.1)] at HC
      clear he hf
      go_wp2_with fail
      generalize hW9 : World.setCell _ _ _ = W9
      obtain ⟨⟨x0, x1, x2⟩, y1, y2⟩ := FIN.out false W9 hW9 (fun h => by cases h) (fun _ => HC.out)
      exact bodyPost_ret (v := .tuple #[.agg #[.bool d.neg, .slice A d.ds.length c, .int .i64 (expD d)], .bool false]) (by simp [results, Tryz.results84, go_sem, x0, x1, x2]) rfl ⟨y1, y2⟩

def valB (s : ByteArray) : Bool := (canonC 1048576 s.data.toList).isSome
set_option maxRecDepth 100000 in
theorem valid_dec (s : ByteArray) (w : World) (hT : Tab w) : Calls Tryz.prog 33 #[.string s] w fun e w' => e = .returned (.bool (valB s)) ∧ Below w.heap.size w w' := by
  go_enter Tryz.func33, Tryz.ntmps33
  go_wp2_with fail
  refine (canonical_any s _ hT).mono ?_
  rintro e w1 ⟨hv, b1⟩
  have HB := hide (b1.alloc b1.size (ncs false none 0 0 0))
  cases hc : canonC 1048576 s.data.toList with
  | none =>
    have HV := hide (show valB s = false by unfold valB; rw [hc]; rfl)
    unfold CanP at hv
    rw [hc] at hv
    obtain ⟨neg, A, n, c, e', rfl⟩ := hv
    clear hc
    go_wp2_with fail
    go_ret
    exact ⟨by rw [HV.out]; rfl, b1.alloc b1.size _⟩
  | some d =>
    have HV := hide (show valB s = true by unfold valB; rw [hc]; rfl)
    unfold CanP at hv
    rw [hc] at hv
    obtain ⟨A, c, rfl, _, _, _⟩ := hv
    clear hc
    go_wp2_with fail
    go_ret
    exact ⟨by rw [HV.out]; rfl, b1.alloc b1.size _⟩

end Go.Proofs.YtdlebcijgdkfjaaGreatDoor

/-
  bytes.Compare at two rows of bytes.
-/
namespace Go.Proofs.YtdlebcijgdkfjaaGreatDoor
open Go.RowKit

theorem cmp_lex : ∀ a b : List UInt8, Lib.compareBytes a b = lexC a b
  | [], [] => rfl
  | [], _ :: _ => rfl
  | _ :: _, [] => rfl
  | x :: p, y :: q => by rw [Lib.compareBytes, lexC, cmp_lex p q]
theorem run_lb {w : World} : ∀ (l : List UInt8) (a : Addr) (acc : ByteArray), (∀ j x, l[j]? = some x → w.cell? (a.add j) = some (.int .u8 x.toNat)) →
    (Extern.Bytes.loadBytes a l.length acc).run Tryz.prog w = .ok ⟨acc.data ++ l.toArray⟩ w
  | [], a, acc, _ => by simp [Extern.Bytes.loadBytes]
  | x :: l, a, acc, h => by
    have h0 : w.cell? a = some (.int .u8 x.toNat) := by
      have := h 0 x rfl
      simpa [Addr.add] using this
    have ih := run_lb l (a.add 1) (acc.push x) (fun j y hy => by
      have := h (j + 1) y (by simpa using hy)
      have e : (a.add 1).add j = a.add (j + 1) := by
        unfold Addr.add
        by_cases hj : j = 0
        · subst hj; simp
        · simp [hj]; omega
      rw [e]; exact this)
    have hx : ((x.toNat : Int).toNat).toUInt8 = x := by simp
    simp only [List.length_cons, Extern.Bytes.loadBytes, Sem.run_bind, run_load, h0, Result.andThen, hx]
    rw [ih]
    congr 1
    apply ByteArray.ext
    simp
theorem run_row {W : World} {A : Option Addr} {l : List UInt8} (h : BytesAt W A l) (c : Nat) : (Extern.Bytes.bytesOf (.slice A l.length c)).run Tryz.prog W = .ok (bs l) W := by
  cases l with
  | nil => cases A <;> rfl
  | cons x l =>
    obtain ⟨b, off, rfl, _⟩ := h 0 x rfl
    have := run_lb (w := W) (x :: l) ⟨b, off, none⟩ .empty (fun j y hj => by
      obtain ⟨b', off', e', hc⟩ := h j y hj
      injection e' with e'
      injection e' with e1 e2
      subst e1 e2
      rw [addr_add]
      exact hc)
    exact this.trans (by congr 1; apply ByteArray.ext; simp [bs])
set_option maxRecDepth 100000 in
theorem bcmp_any (A B : Option Addr) (c d : Nat) (x y : List UInt8) (w : World) (hx : BytesAt w A x) (hy : BytesAt w B y) :
    Calls Tryz.prog 197 #[.slice A x.length c, .slice B y.length d] w fun e w' => e = .returned (.int .i64 (lexC x y)) ∧ w = w' := by
  have HX := hide hx
  have HY := hide hy
  clear hx hy
  go_enter Tryz.func197, Tryz.ntmps197
  go_wp2_with fail
  rw [run_callFunc_extern Tryz.func223 (by kernel_rfl) (by kernel_rfl) (by kernel_rfl) (e := Extern.BytealgCompare.compare) (by kernel_rfl)]
  have hrun : (Extern.BytealgCompare.compare #[.slice A x.length c, .slice B y.length d]).run Tryz.prog w = .ok (.int .i64 (lexC x y)) w := by
    change Sem.run Tryz.prog (do pure (goInt (Extern.BytealgCompare.cmp (← Extern.Bytes.bytesOf (.slice A x.length c)) (← Extern.Bytes.bytesOf (.slice B y.length d))))) w = _
    simp only [Sem.run_bind, Sem.run_pure, run_row HX.out, run_row HY.out, Result.andThen]
    rw [Lib.cmp_eq, cmp_lex]
    rfl
  rw [hrun]
  simp only [Result.andThen]
  rw [Oper.upon_value]
  go_wp2
  go_ret
  exact ⟨rfl, rfl⟩

end Go.Proofs.YtdlebcijgdkfjaaGreatDoor

/-
  decimal.magnitude, compare, Compare.
-/
namespace Go.Proofs.YtdlebcijgdkfjaaGreatDoor
open Go.RowKit

structure DB (d : Dec) : Prop where
  len : d.ds.length ≤ 1000
  f0 : -2000000 ≤ d.fst
  f1 : d.fst ≤ 2000000
theorem DB.exp {d : Dec} (h : DB d) : -3000000 ≤ expD d ∧ expD d ≤ 3000000 := by
  have := h.len
  have := h.f0
  have := h.f1
  unfold expD
  split <;> omega
theorem DB.first {d : Dec} (h : d.ds ≠ []) : expD d + d.ds.length - 1 = d.fst := by unfold expD; rw [if_neg h]; omega
theorem cfirst_d {d : Dec} (h : DB d) (A : Option Addr) (c : Nat) (w : World) (hne : d.ds ≠ []) : Calls Tryz.prog 194 #[.agg #[.bool d.neg, .slice A d.ds.length c, .int .i64 (expD d)]] w fun r w' => r = .returned (.int .i64 d.fst) ∧ Below w.heap.size w w' := by
  have := cfirst_any d.neg A d.ds.length c (expD d) w h.len h.exp.1 h.exp.2
  rw [DB.first hne] at this
  exact this
theorem csign_d {d : Dec} (h : DB d) (A : Option Addr) (c : Nat) (w : World) : Calls Tryz.prog 136 #[.agg #[.bool d.neg, .slice A d.ds.length c, .int .i64 (expD d)]] w fun r w' => r = .returned (.int .i64 (sgnD d)) ∧ Below w.heap.size w w' := by
  have := csign_any d.neg A d.ds.length c (expD d) w h.len
  have e : sgnB d.neg d.ds.length = sgnD d := by
    unfold sgnB sgnD
    cases d.ds <;> simp
  rw [e] at this
  exact this

/-- two numbers in boxes -/
structure TB (w : World) (a b : Dec) (A B : Option Addr) (c d : Nat) (W : World) : Prop where
  bel : Below w.heap.size w W
  bA : W.heap[w.heap.size]? = some (ncs a.neg A a.ds.length c (expD a))
  bB : W.heap[w.heap.size + 1]? = some (ncs b.neg B b.ds.length d (expD b))
def SixC (w : World) (a b : Dec) (A B : Option Addr) (c d : Nat) (W : World) : Prop :=
  W.cell? ⟨w.heap.size, 0, none⟩ = some (.bool a.neg) ∧ W.cell? ⟨w.heap.size, 1, none⟩ = some (.slice A a.ds.length c) ∧ W.cell? ⟨w.heap.size, 2, none⟩ = some (.int .i64 (expD a)) ∧
  W.cell? ⟨w.heap.size + 1, 0, none⟩ = some (.bool b.neg) ∧ W.cell? ⟨w.heap.size + 1, 1, none⟩ = some (.slice B b.ds.length d) ∧ W.cell? ⟨w.heap.size + 1, 2, none⟩ = some (.int .i64 (expD b))
section
variable {w W W' : World} {a b : Dec} {A B : Option Addr} {c d : Nat}
theorem TB.cells (h : TB w a b A B c d W) : SixC w a b A B c d W := by
  obtain ⟨c0, c1, c2, _⟩ := ncs_at h.bA
  obtain ⟨d0, d1, d2, _⟩ := ncs_at h.bB
  exact ⟨c0, c1, c2, d0, d1, d2⟩
theorem TB.step (h : TB w a b A B c d W) (hb : Below W.heap.size W W') : TB w a b A B c d W' := ⟨bstep h.bel hb, box_below hb h.bA, box_below hb h.bB⟩
theorem TB.drew (h : TB w a b A B c d W) : TB w a b A B c d W.drew := h.step (below_drew (Below.refl _ _))
theorem TB.start (hW : (w.alloc (ncs a.neg A a.ds.length c (expD a))).alloc (ncs b.neg B b.ds.length d (expD b)) = W) : TB w a b A B c d W := by
  subst hW
  refine ⟨((Below.refl _ _).alloc (Nat.le_refl _) _).alloc (by simp) _, box_alloc (heap_alloc_new w _), ?_⟩
  have := heap_alloc_new (w.alloc (ncs a.neg A a.ds.length c (expD a))) (ncs b.neg B b.ds.length d (expD b))
  rw [World.size_alloc] at this
  exact this
end

set_option maxRecDepth 100000 in
set_option maxHeartbeats 1000000 in
theorem mag_any (a b : Dec) (A B : Option Addr) (c d : Nat) (w : World) (ha : DB a) (hb : DB b) (hA : BytesAt w A a.ds) (hB : BytesAt w B b.ds) :
    Calls Tryz.prog 137 #[.agg #[.bool a.neg, .slice A a.ds.length c, .int .i64 (expD a)], .agg #[.bool b.neg, .slice B b.ds.length d, .int .i64 (expD b)]] w fun e w' => e = .returned (.int .i64 (magD a b)) ∧ Below w.heap.size w w' := by
  have hla := ha.len
  have hlb := hb.len
  by_cases ea : a.ds = []
  · have HM := hide (show magD a b = cmpI (a.ds.length : Int) (b.ds.length : Int) by unfold magD; rw [if_pos (.inl ea)])
    have tz : ((a.ds.length : Int) == 0) = true := by rw [ea]; rfl
    clear ea
    go_enter Tryz.func137, Tryz.ntmps137
    go_wp2_with fail
    refine (cmpInt_any _ _ _).mono ?_
    rintro e w1 ⟨rfl, rfl⟩
    go_wp2_with fail
    go_ret
    exact ⟨by rw [HM.out]; rfl, ((Below.refl _ _).alloc (Nat.le_refl _) _).alloc (by simp) _⟩
  · have tz : ((a.ds.length : Int) == 0) = false := beq_eq_false_iff_ne.2 (by have := List.length_pos_iff.2 ea; omega)
    by_cases eb : b.ds = []
    · have HM := hide (show magD a b = cmpI (a.ds.length : Int) (b.ds.length : Int) by unfold magD; rw [if_pos (.inr eb)])
      have tz2 : ((b.ds.length : Int) == 0) = true := by rw [eb]; rfl
      clear ea eb
      go_enter Tryz.func137, Tryz.ntmps137
      go_wp2_with fail
      refine (cmpInt_any _ _ _).mono ?_
      rintro e w1 ⟨rfl, rfl⟩
      go_wp2_with fail
      go_ret
      exact ⟨by rw [HM.out]; rfl, ((Below.refl _ _).alloc (Nat.le_refl _) _).alloc (by simp) _⟩
    · have tz2 : ((b.ds.length : Int) == 0) = false := beq_eq_false_iff_ne.2 (by have := List.length_pos_iff.2 eb; omega)
      have HM := hide (show magD a b = if a.fst = b.fst then lexC a.ds b.ds else cmpI a.fst b.fst by unfold magD; rw [if_neg (fun h => h.elim ea eb)])
      obtain ⟨q, hq⟩ : ∃ q, cmpI a.fst b.fst = q := ⟨_, rfl⟩
      have HCI := hide (fun W => by have h := cmpInt_any a.fst b.fst W; rw [hq] at h; exact h)
      have HQ := hide (show (q = 0 ∧ magD a b = lexC a.ds b.ds) ∨ (q ≠ 0 ∧ magD a b = q) by
        rw [HM.out]
        by_cases hf : a.fst = b.fst
        · rw [if_pos hf]
          left
          refine ⟨?_, rfl⟩
          rw [← hq]
          unfold cmpI
          rw [if_neg (by omega), if_neg (by omega)]
        · rw [if_neg hf]
          right
          refine ⟨?_, hq⟩
          rw [← hq]
          unfold cmpI
          split
          · omega
          · rw [if_pos (by omega)]; omega)
      clear hq HM
      have FA := hide (fun W => cfirst_d ha A c W ea)
      have FB := hide (fun W => cfirst_d hb B d W eb)
      have HA := hide hA
      have HB := hide hB
      clear ea eb hA hB ha hb
      go_enter Tryz.func137, Tryz.ntmps137
      go_upto_region 3 with (fail)
      generalize hW0 : World.alloc (World.alloc _ _) _ = W0
      have tb := TB.start hW0
      have T0 := hide tb
      have T1 := hide tb.drew
      have k0 := T1.out.cells
      unfold SixC at k0
      clear tb hW0
      go_region_held3 (fun wx => wx.cell? ⟨w.heap.size, 0, none⟩ = some (.bool a.neg) ∧ wx.cell? ⟨w.heap.size, 1, none⟩ = some (.slice A a.ds.length c) ∧ wx.cell? ⟨w.heap.size, 2, none⟩ = some (.int .i64 (expD a)) ∧ wx.cell? ⟨w.heap.size + 1, 0, none⟩ = some (.bool b.neg) ∧ wx.cell? ⟨w.heap.size + 1, 1, none⟩ = some (.slice B b.ds.length d) ∧ wx.cell? ⟨w.heap.size + 1, 2, none⟩ = some (.int .i64 (expD b)))
        (first | (with_reducible assumption) | exact k0 | exact k1 | exact k2)
        (first
          | (go_at_call_of 194 A; refine (FA.out W0.drew).mono ?_; rintro e w1 ⟨rfl, b1⟩; have T2 := hide (T1.out.step b1); have k1 := T2.out.cells; unfold SixC at k1)
          | (go_at_call_of 194 B; refine (FB.out w1).mono ?_; rintro e w2 ⟨rfl, b2⟩; have T3 := hide (T2.out.step b2); have k2 := T3.out.cells; unfold SixC at k2)
          | (go_at_call 135; refine (HCI.out w2).mono ?_; rintro e w3 ⟨rfl, rfl⟩))
      obtain ⟨c0, c1, c2, d0, d1, d2⟩ := k2
      clear k0 k1 T0 T1 T2 b1 b2
      rcases HQ.out with ⟨hq, hm⟩ | ⟨hq, hm⟩
      · subst hq
        have HM := hide hm
        clear hm
        go_wp2_with fail
        refine (bcmp_any A B c d a.ds b.ds _ (HA.out.below T3.out.bel) (HB.out.below T3.out.bel)).mono ?_
        rintro e w4 ⟨rfl, rfl⟩
        go_wp2_with fail
        go_ret
        exact ⟨by rw [HM.out]; rfl, T3.out.bel⟩
      · have t5 : (q != 0) = true := bne_iff_ne.2 hq
        have HM := hide hm
        clear hm hq
        go_wp2_with fail
        go_ret
        exact ⟨by rw [HM.out]; rfl, T3.out.bel⟩

set_option maxRecDepth 100000 in
set_option maxHeartbeats 1000000 in
theorem dcmp_any (a b : Dec) (A B : Option Addr) (c d : Nat) (w : World) (ha : DB a) (hb : DB b) (hA : BytesAt w A a.ds) (hB : BytesAt w B b.ds) :
    Calls Tryz.prog 85 #[.agg #[.bool a.neg, .slice A a.ds.length c, .int .i64 (expD a)], .agg #[.bool b.neg, .slice B b.ds.length d, .int .i64 (expD b)]] w fun e w' => e = .returned (.int .i64 (cmpD a b)) ∧ Below w.heap.size w w' := by
  obtain ⟨q, hq⟩ : ∃ q, cmpI (sgnD a) (sgnD b) = q := ⟨_, rfl⟩
  have HCI := hide (fun W => by have h := cmpInt_any (sgnD a) (sgnD b) W; rw [hq] at h; exact h)
  have hs1 : -1 ≤ sgnD a ∧ sgnD a ≤ 1 := by unfold sgnD; split <;> (try split) <;> omega
  have hm1 : -1 ≤ magD a b ∧ magD a b ≤ 1 := by
    unfold magD
    split
    · unfold cmpI; split <;> (try split) <;> omega
    · split
      · rcases lex_vals a.ds b.ds with h | h | h <;> omega
      · unfold cmpI; split <;> (try split) <;> omega
  have HQ := hide (show (q = 0 ∧ cmpD a b = sgnD a * magD a b) ∨ (q ≠ 0 ∧ cmpD a b = q) by
    unfold cmpD
    by_cases hf : sgnD a = sgnD b
    · rw [if_pos hf]
      left
      refine ⟨?_, rfl⟩
      rw [← hq]
      unfold cmpI
      rw [if_neg (by omega), if_neg (by omega)]
    · rw [if_neg hf]
      right
      refine ⟨?_, hq⟩
      rw [← hq]
      unfold cmpI
      split
      · omega
      · rw [if_pos (by omega)]; omega)
  clear hq
  have SA := hide (fun W => csign_d ha A c W)
  have SB := hide (fun W => csign_d hb B d W)
  have MG := hide (fun W h1 h2 => mag_any a b A B c d W ha hb h1 h2)
  have HA := hide hA
  have HB := hide hB
  have HMU := hide (show IntKind.i64.wrap (sgnD a * magD a b) = sgnD a * magD a b from IntWalk.i64_in _ (by
    obtain ⟨x1, x2⟩ := hs1
    obtain ⟨y1, y2⟩ := hm1
    generalize sgnD a = x at *
    generalize magD a b = y at *
    have : x = -1 ∨ x = 0 ∨ x = 1 := by omega
    rcases this with rfl | rfl | rfl <;> omega))
  clear hA hB ha hb hs1 hm1
  generalize hsa : sgnD a = sa at *
  generalize hma : magD a b = ma at *
  clear hsa hma
  go_enter Tryz.func85, Tryz.ntmps85
  go_upto_region 1 with (fail)
  generalize hW0 : World.alloc (World.alloc _ _) _ = W0
  have tb := TB.start hW0
  have T1 := hide tb.drew
  have k0 := T1.out.cells
  unfold SixC at k0
  clear tb hW0
  go_region_held3 (fun wx => wx.cell? ⟨w.heap.size, 0, none⟩ = some (.bool a.neg) ∧ wx.cell? ⟨w.heap.size, 1, none⟩ = some (.slice A a.ds.length c) ∧ wx.cell? ⟨w.heap.size, 2, none⟩ = some (.int .i64 (expD a)) ∧ wx.cell? ⟨w.heap.size + 1, 0, none⟩ = some (.bool b.neg) ∧ wx.cell? ⟨w.heap.size + 1, 1, none⟩ = some (.slice B b.ds.length d) ∧ wx.cell? ⟨w.heap.size + 1, 2, none⟩ = some (.int .i64 (expD b)))
    (first | (with_reducible assumption) | exact k0 | exact k1 | exact k2)
    (first
      | (go_at_call_of 136 A; refine (SA.out W0.drew).mono ?_; rintro e w1 ⟨rfl, b1⟩; have T2 := hide (T1.out.step b1); have k1 := T2.out.cells; unfold SixC at k1)
      | (go_at_call_of 136 B; refine (SB.out w1).mono ?_; rintro e w2 ⟨rfl, b2⟩; have T3 := hide (T2.out.step b2); have k2 := T3.out.cells; unfold SixC at k2)
      | (go_at_call 135; refine (HCI.out w2).mono ?_; rintro e w3 ⟨rfl, rfl⟩))
  clear k0 k1 k2 T1 T2 b1 b2
  rcases HQ.out with ⟨hq, hm⟩ | ⟨hq, hm⟩
  · subst hq
    have HM := hide hm
    clear hm
    go_upto_region 4 with (fail)
    have T4 := hide T3.out.drew
    have k0 := T4.out.cells
    unfold SixC at k0
    go_region_held3 (fun wx => wx.cell? ⟨w.heap.size, 0, none⟩ = some (.bool a.neg) ∧ wx.cell? ⟨w.heap.size, 1, none⟩ = some (.slice A a.ds.length c) ∧ wx.cell? ⟨w.heap.size, 2, none⟩ = some (.int .i64 (expD a)) ∧ wx.cell? ⟨w.heap.size + 1, 0, none⟩ = some (.bool b.neg) ∧ wx.cell? ⟨w.heap.size + 1, 1, none⟩ = some (.slice B b.ds.length d) ∧ wx.cell? ⟨w.heap.size + 1, 2, none⟩ = some (.int .i64 (expD b)))
      (first | (with_reducible assumption) | exact k0 | exact k1 | exact k3)
      (first
        | (go_at_call 136; refine (SA.out w2.drew).mono ?_; rintro e w4 ⟨rfl, b4⟩; have T5 := hide (T4.out.step b4); have k1 := T5.out.cells; unfold SixC at k1)
        | (go_at_call 137; refine (MG.out w4 (HA.out.below T5.out.bel) (HB.out.below T5.out.bel)).mono ?_; rintro e w5 ⟨rfl, b5⟩; have T6 := hide (T5.out.step b5); have k3 := T6.out.cells; unfold SixC at k3))
    go_wp2_with fail
    go_ret
    exact ⟨(show Ending.returned (.int .i64 (IntKind.i64.wrap (sa * ma))) = .returned (.int .i64 (cmpD a b)) by rw [HMU.out, HM.out]), T6.out.bel⟩
  · have t5 : (q != 0) = true := bne_iff_ne.2 hq
    have HM := hide hm
    clear hm hq
    go_wp2_with fail
    go_ret
    exact ⟨by rw [HM.out]; rfl, T3.out.bel⟩

theorem can_ok {s : ByteArray} {d : Dec} (h : canonC 1048576 s.data.toList = some d) : DB d := by
  have o := ((canon_iff (by omega)).1 h).1
  have := o.len
  have := o.f0
  have := o.f1
  exact ⟨by omega, by omega, by omega⟩
/-- the comparison, where both texts are canonical -/
def cmpB (s t : ByteArray) : Option Int := match canonC 1048576 s.data.toList, canonC 1048576 t.data.toList with
  | some a, some b => some (cmpD a b)
  | _, _ => none
set_option maxRecDepth 100000 in
set_option maxHeartbeats 1000000 in
theorem compare_dec (s t : ByteArray) (w : World) (hT : Tab w) : Calls Tryz.prog 35 #[.string s, .string t] w fun e w' => e = .returned (.tuple #[.int .i64 ((cmpB s t).getD 0), .bool (cmpB s t).isSome]) ∧ Below w.heap.size w w' := by
  have HT := hide hT
  clear hT
  cases hs : canonC 1048576 s.data.toList with
  | none =>
    have HC := hide (show cmpB s t = none by unfold cmpB; rw [hs])
    go_enter Tryz.func35, Tryz.ntmps35
    go_wp2_with fail
    refine (canonical_any s _ HT.out).mono ?_
    rintro e w1 ⟨hv, b1⟩
    unfold CanP at hv
    rw [hs] at hv
    obtain ⟨neg, A, n, c, e', rfl⟩ := hv
    have HB1 := hide b1
    have HB2 := hide (b1.alloc b1.size (ncs neg A n c e'))
    clear b1 hs
    go_wp2_with fail
    refine (canonical_any t _ (HT.out.below HB2.out)).mono ?_
    rintro e w2 ⟨hv, b2⟩
    have HB3 := hide (bstep HB2.out b2)
    clear b2
    cases ht : canonC 1048576 t.data.toList with
    | none =>
      unfold CanP at hv
      rw [ht] at hv
      obtain ⟨neg2, A2, n2, c2, e2, rfl⟩ := hv
      clear ht
      go_wp2_with fail
      go_ret2
      exact ⟨by rw [HC.out]; rfl, HB3.out.alloc HB3.out.size _⟩
    | some d =>
      unfold CanP at hv
      rw [ht] at hv
      obtain ⟨A2, c2, rfl, _, _, _⟩ := hv
      clear ht
      go_wp2_with fail
      go_ret2
      exact ⟨by rw [HC.out]; rfl, HB3.out.alloc HB3.out.size _⟩
  | some a =>
    cases ht : canonC 1048576 t.data.toList with
    | none =>
      have HC := hide (show cmpB s t = none by unfold cmpB; rw [hs, ht])
      go_enter Tryz.func35, Tryz.ntmps35
      go_wp2_with fail
      refine (canonical_any s _ HT.out).mono ?_
      rintro e w1 ⟨hv, b1⟩
      unfold CanP at hv
      rw [hs] at hv
      obtain ⟨A, c, rfl, _, _, _⟩ := hv
      have HB2 := hide (b1.alloc b1.size (ncs a.neg A a.ds.length c (expD a)))
      clear b1 hs
      go_wp2_with fail
      refine (canonical_any t _ (HT.out.below HB2.out)).mono ?_
      rintro e w2 ⟨hv, b2⟩
      have HB3 := hide (bstep HB2.out b2)
      clear b2
      unfold CanP at hv
      rw [ht] at hv
      obtain ⟨neg2, A2, n2, c2, e2, rfl⟩ := hv
      clear ht
      go_wp2_with fail
      go_ret2
      exact ⟨by rw [HC.out]; rfl, HB3.out.alloc HB3.out.size _⟩
    | some b =>
      have HC := hide (show cmpB s t = some (cmpD a b) by unfold cmpB; rw [hs, ht])
      have DA := hide (can_ok hs)
      have DD := hide (can_ok ht)
      go_enter Tryz.func35, Tryz.ntmps35
      go_wp2_with fail
      refine (canonical_any s _ HT.out).mono ?_
      rintro e w1 ⟨hv, b1⟩
      unfold CanP at hv
      rw [hs] at hv
      obtain ⟨A, c, rfl, hA, _, _⟩ := hv
      have HB2 := hide (b1.alloc b1.size (ncs a.neg A a.ds.length c (expD a)))
      have hx1 := heap_alloc_new w1 (ncs a.neg A a.ds.length c (expD a))
      have hA2 := hA.below (w' := w1.alloc (ncs a.neg A a.ds.length c (expD a))) ((Below.refl _ _).alloc (Nat.le_refl _) _)
      clear b1 hs hA
      go_wp2_with fail
      refine (canonical_any t _ (HT.out.below HB2.out)).mono ?_
      rintro e w2 ⟨hv, b2⟩
      unfold CanP at hv
      rw [ht] at hv
      obtain ⟨B, d, rfl, hB, _, _⟩ := hv
      have HB3 := hide ((bstep HB2.out b2).alloc (bstep HB2.out b2).size (ncs b.neg B b.ds.length d (expD b)))
      have hx2 := box_below b2 hx1
      have HA3 := hide ((hA2.below b2).below (w' := w2.alloc (ncs b.neg B b.ds.length d (expD b))) ((Below.refl _ _).alloc (Nat.le_refl _) _))
      have HB4 := hide (hB.below (w' := w2.alloc (ncs b.neg B b.ds.length d (expD b))) ((Below.refl _ _).alloc (Nat.le_refl _) _))
      have hlt := box_lt hx2
      obtain ⟨c0, c1, c2, _⟩ := ncs_at hx2
      clear b2 ht hx1 hA2 hB hx2
      go_wp2_with fail
      refine (dcmp_any a b A B c d _ DA.out DD.out HA3.out HB4.out).mono ?_
      rintro e w3 ⟨rfl, b3⟩
      go_wp2_with fail
      go_ret2
      exact ⟨by rw [HC.out]; rfl, bstep HB3.out b3⟩

end Go.Proofs.YtdlebcijgdkfjaaGreatDoor
