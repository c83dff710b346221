/-
  Several texts in one: Ref51c, Ref51d. Each says at its head what it holds.
-/
import Derived.Test.YtbhcmnfeeogdhaaGreatDoorES16
import Derived.Test.YtbhcmnfeeogdhaaGreatDoorES4
import Derived.Test.YtbhcmnfeeogdhaaGreatDoorES5

/-
  wavestoreref51.sum.
-/
namespace Go.Proofs.YtbhcmnfeeogdhaaGreatDoor
open Go.RowKit

/-- a string by its bytes -/
def strB (l : List UInt8) : ByteArray := ⟨l.toArray⟩
theorem strB_cat (l m : List UInt8) : strB l ++ strB m = strB (l ++ m) := by
  apply ByteArray.ext
  simp [strB]
theorem strB_snoc (l : List UInt8) (c : UInt8) : strB l ++ ⟨#[c]⟩ = strB (l ++ [c]) := strB_cat l [c]
theorem strB_cons (c : UInt8) (l : List UInt8) : (⟨#[c]⟩ : ByteArray) ++ strB l = strB (c :: l) := strB_cat [c] l
theorem strB_size (l : List UInt8) : (strB l).size = l.length := by simp [strB, ByteArray.size]
theorem strB_list (l : List UInt8) : (strB l).data.toList = l := rfl
def XsRel (n : Nat) (out i : Value) : Prop := ∃ k : Nat, k ≤ n ∧ i = .int .i64 k ∧ out = .string (strB (List.replicate k (120 : UInt8)))

set_option maxRecDepth 100000 in
set_option maxHeartbeats 1000000 in
theorem rsum_unk (a b : ByteArray) (minus : Bool) (w : World) (hl : a.size ≤ 1000) (hb : b.size ≤ 1000) (hk : (knownB a.data.toList && knownB b.data.toList) = false) :
    Calls Tryz.prog 119 #[.string a, .string b, .bool minus] w fun e w' => e = .returned (.string (strB (List.replicate a.size (120 : UInt8)))) ∧ w = w' := by
  have HR := hide (show ∀ k, strB (List.replicate k (120 : UInt8)) ++ ⟨#[120]⟩ = strB (List.replicate (k + 1) 120) from fun k => by rw [strB_snoc, ← List.replicate_succ'])
  cases hka : knownB a.data.toList with
  | false =>
    have HKA := hide hka
    clear hka hk
    go_enter Tryz.func119, Tryz.ntmps119
    go_wp2_with fail
    refine (rknown_any a _ hl).mono ?_
    rw [HKA.out]
    rintro e w1 ⟨rfl, rfl⟩
    go_wp2_with fail
    go_loop [7, 8] (fun out i => XsRel a.size out i) (fun _ i => a.size - (intOf i).toNat)
    case atStart => exact ⟨0, Nat.zero_le _, rfl, rfl⟩
    case round =>
      obtain ⟨k, hk, rfl, rfl⟩ := hrel
      by_cases hlt : k < a.size
      · have hz : (strB (List.replicate k (120 : UInt8))).size = k := by rw [strB_size, List.length_replicate]
        have hz2 : (strB (List.replicate k (120 : UInt8))).size + 1 ≤ 9223372036854775807 := by omega
        clear hz
        go_wp2_with fail
        go_round
        case rel => exact ⟨k + 1, by omega, by go_num, by rw [HR.out]⟩
        case measure => simp [intOf]; omega
      · have hke : k = a.size := by omega
        subst hke
        go_wp2_with fail
        go_ret
        exact ⟨rfl, rfl⟩
  | true =>
    have hkb : knownB b.data.toList = false := by rw [hka] at hk; simpa using hk
    have HKA := hide hka
    have HKB := hide hkb
    clear hka hk hkb
    go_enter Tryz.func119, Tryz.ntmps119
    go_wp2_with fail
    refine (rknown_any a _ hl).mono ?_
    rw [HKA.out]
    rintro e w1 ⟨rfl, rfl⟩
    go_wp2_with fail
    refine (rknown_any b _ hb).mono ?_
    rw [HKB.out]
    rintro e w1 ⟨rfl, rfl⟩
    go_wp2_with fail
    go_loop [7, 8] (fun out i => XsRel a.size out i) (fun _ i => a.size - (intOf i).toNat)
    case atStart => exact ⟨0, Nat.zero_le _, rfl, rfl⟩
    case round =>
      obtain ⟨k, hk, rfl, rfl⟩ := hrel
      by_cases hlt : k < a.size
      · have hz : (strB (List.replicate k (120 : UInt8))).size = k := by rw [strB_size, List.length_replicate]
        have hz2 : (strB (List.replicate k (120 : UInt8))).size + 1 ≤ 9223372036854775807 := by omega
        clear hz
        go_wp2_with fail
        go_round
        case rel => exact ⟨k + 1, by omega, by go_num, by rw [HR.out]⟩
        case measure => simp [intOf]; omega
      · have hke : k = a.size := by omega
        subst hke
        go_wp2_with fail
        go_ret
        exact ⟨rfl, rfl⟩

theorem subR_carry : ∀ (xs ys : List UInt8) (c : Nat), c ≤ 1 → (subR xs ys c).2 ≤ 1
  | [], _, c, h => by simpa [subR] using h
  | _ :: _, [], c, h => by simpa [subR] using h
  | x :: xs, y :: ys, c, h => by
    simp only [subR]
    split <;> omega
theorem subR_drop (xs ys : List UInt8) (c : Nat) (h : xs.length = ys.length) (i : Nat) (hi : i < xs.length) :
    subR (xs.drop i) (ys.drop i) c = (UInt8.ofNat (48 + (nb xs[i] + nb (ys[i]'(by omega)) + (subR (xs.drop (i + 1)) (ys.drop (i + 1)) c).2) % 2) :: (subR (xs.drop (i + 1)) (ys.drop (i + 1)) c).1, if nb xs[i] < nb (ys[i]'(by omega)) + (subR (xs.drop (i + 1)) (ys.drop (i + 1)) c).2 then 1 else 0) := by
  rw [List.drop_eq_getElem_cons hi, List.drop_eq_getElem_cons (by omega : i < ys.length)]
  rfl
/-- sums or differences from place i on -/
def asR (minus : Bool) (xs ys : List UInt8) : List UInt8 × Nat := if minus then subR xs ys 0 else addR xs ys 0
theorem asR_carry (m : Bool) (xs ys : List UInt8) : (asR m xs ys).2 ≤ 1 := by
  unfold asR
  split
  · exact subR_carry _ _ _ (by omega)
  · exact addR_carry _ _ _ (by omega)
def asBit (x y c : Nat) : UInt8 := UInt8.ofNat (48 + (x + y + c) % 2)
def asCar (m : Bool) (x y c : Nat) : Nat := if m then (if x < y + c then 1 else 0) else (x + y + c) / 2
theorem asR_drop (m : Bool) (xs ys : List UInt8) (h : xs.length = ys.length) (i : Nat) (hi : i < xs.length) :
    asR m (xs.drop i) (ys.drop i) = (asBit (nb xs[i]) (nb (ys[i]'(by omega))) (asR m (xs.drop (i + 1)) (ys.drop (i + 1))).2 :: (asR m (xs.drop (i + 1)) (ys.drop (i + 1))).1, asCar m (nb xs[i]) (nb (ys[i]'(by omega))) (asR m (xs.drop (i + 1)) (ys.drop (i + 1))).2) := by
  unfold asR asBit asCar
  cases m
  · exact addR_drop xs ys 0 h i hi
  · exact subR_drop xs ys 0 h i hi
theorem asR_len (m : Bool) (xs ys : List UInt8) (h : xs.length = ys.length) (hk : knownB ys = true) : (asR m xs ys).1 = sumL xs ys m := by
  unfold asR sumL
  cases m
  · rfl
  · exact (sub_add xs ys h hk).1.symm

theorem subR_len : ∀ (xs ys : List UInt8) (c : Nat), xs.length = ys.length → (subR xs ys c).1.length = xs.length
  | [], [], _, _ => rfl
  | x :: xs, y :: ys, c, h => by simp only [subR, List.length_cons]; rw [subR_len xs ys c (by simpa using h)]
  | [], _ :: _, _, h => by simp at h
  | _ :: _, [], _, h => by simp at h
theorem asR_size (m : Bool) (xs ys : List UInt8) (h : xs.length = ys.length) : (asR m xs ys).1.length = xs.length := by
  unfold asR
  cases m
  · exact addR_len xs ys 0 h
  · exact subR_len xs ys 0 h
def AsRel (m : Bool) (a b : ByteArray) (w : World) (out cv iv : Value) (wr : World) : Prop :=
  ∃ i : Nat, i ≤ a.size ∧ iv = .int .i64 ((i : Int) - 1) ∧ cv = .int .i64 ((asR m (a.data.toList.drop i) (b.data.toList.drop i)).2 : Int) ∧ out = .string (strB (asR m (a.data.toList.drop i) (b.data.toList.drop i)).1) ∧ Below w.heap.size w wr

set_option maxRecDepth 100000 in
set_option maxHeartbeats 4000000 in
theorem rsum_kn (a b : ByteArray) (m : Bool) (w : World) (hl : a.size ≤ 1000) (hab : a.size = b.size) (hka : knownB a.data.toList = true) (hkb : knownB b.data.toList = true) :
    Calls Tryz.prog 119 #[.string a, .string b, .bool m] w fun e w' => e = .returned (.string (strB (sumL a.data.toList b.data.toList m))) ∧ Below w.heap.size w w' := by
  have hla : a.data.toList.length = a.size := by simp
  have hlb : b.data.toList.length = b.size := by simp
  have hb : b.size ≤ 1000 := by omega
  have HC := hide (show asR m (a.data.toList.drop a.size) (b.data.toList.drop a.size) = ([], 0) by
    rw [List.drop_of_length_le (by omega), List.drop_of_length_le (by omega)]; cases m <;> rfl)
  have HFIN := hide (asR_len m a.data.toList b.data.toList (by omega) hkb)
  have HKA := hide hka
  have HKB := hide hkb
  have HAB := hide hab
  clear hka hkb hab hla hlb
  have kc0 : ∀ (w : World) (n : Nat), (convert 174 9 (.slice (some ⟨w.heap.size, 0, none⟩) 1 1)).run Tryz.prog ((w.drewN n).alloc (.cells #[.int .u8 48] 5)) = .ok (.string ⟨#[48]⟩) ((w.drewN n).alloc (.cells #[.int .u8 48] 5)) := fun w n => conv_one (w.drewN n) 48
  have kc1 : ∀ (w : World) (n : Nat), (convert 174 9 (.slice (some ⟨w.heap.size, 0, none⟩) 1 1)).run Tryz.prog ((w.drewN n).alloc (.cells #[.int .u8 49] 5)) = .ok (.string ⟨#[49]⟩) ((w.drewN n).alloc (.cells #[.int .u8 49] 5)) := fun w n => conv_one (w.drewN n) 49
  have HCON := hide strB_cons
  have hab := HAB.out
  have HLN := hide (show ∀ i, (asR m (a.data.toList.drop i) (b.data.toList.drop i)).1.length ≤ 1000 from fun i => by
    rw [asR_size m _ _ (by simp; omega)]; simp; omega)
  clear hab
  go_enter Tryz.func119, Tryz.ntmps119
  go_wp2_with fail
  refine (rknown_any a _ hl).mono ?_
  rw [HKA.out]
  rintro e w1 ⟨rfl, rfl⟩
  go_wp2_with fail
  refine (rknown_any b _ hb).mono ?_
  rw [HKB.out]
  rintro e w1 ⟨rfl, rfl⟩
  go_wp2_with fail
  go_loopw [7, 9, 10] (fun out cv iv wr => AsRel m a b w out cv iv wr) (fun _ _ iv _ => (intOf iv + 1).toNat)
  case atStart => exact ⟨a.size, Nat.le_refl _, rfl, by rw [HC.out]; rfl, by rw [HC.out]; rfl, Below.refl _ _⟩
  case round =>
    obtain ⟨j, hj, rfl, rfl, rfl, hbr⟩ := hrel
    cases j with
    | zero =>
      rw [List.drop_zero, List.drop_zero, HFIN.out]
      have j0 : ((0 : Nat) : Int) - 1 = -1 := rfl
      rw [j0]
      go_wp2_with fail
      go_ret
      exact ⟨rfl, hbr⟩
    | succ i =>
      have hia : i < a.size := by omega
      have hib : i < b.size := by have := HAB.out; omega
      have hja : (i : Int) < (a.size : Int) := by omega
      have hjb : (i : Int) < (b.size : Int) := by omega
      have hj0 : (0 : Int) ≤ (i : Int) := by omega
      have va : (a[i].toNat : Int) = 48 + (nb a[i] : Int) := nb_val (kn_at (l := a.data.toList) HKA.out (by simpa using hia))
      have vb : (b[i].toNat : Int) = 48 + (nb b[i] : Int) := nb_val (kn_at (l := b.data.toList) HKB.out (by simpa using hib))
      have hna := nb_le a[i]
      have hnb := nb_le b[i]
      have hcy := asR_carry m (a.data.toList.drop (i + 1)) (b.data.toList.drop (i + 1))
      have hlz := HLN.out (i + 1)
      have HD := hide (asR_drop m a.data.toList b.data.toList (by have := HAB.out; simpa using this) i (by simpa using hia))
      have e1 : a.data.toList[i]'(by simpa using hia) = a[i] := rfl
      have e2 : b.data.toList[i]'(by simpa using hib) = b[i] := rfl
      rw [e1, e2] at HD
      generalize asR m (a.data.toList.drop (i + 1)) (b.data.toList.drop (i + 1)) = r at *
      obtain ⟨r1, r2⟩ := r
      dsimp only at *
      generalize nb a[i] = xa at *
      generalize nb b[i] = xb at *
      clear e1 e2
      have j1 : ((i + 1 : Nat) : Int) - 1 = (i : Int) := by omega
      rw [j1]
      clear j1
      have hxa : xa = 0 ∨ xa = 1 := by omega
      have hxb : xb = 0 ∨ xb = 1 := by omega
      have hr2 : r2 = 0 ∨ r2 = 1 := by omega
      have hz : (strB r1).size ≤ 1000 := by rw [strB_size]; exact hlz
      clear hlz
      clear hna hnb hcy
      rcases hxa with rfl | rfl
      all_goals
        rcases hxb with rfl | rfl
        all_goals
          rcases hr2 with rfl | rfl
          all_goals
            cases m
            all_goals
              go_upto_region 12 with (fail)
              go_quiet (fail)
              go_wp2_with fail
              go_roundw
              case rel => exact ⟨i, by omega, rfl, by rw [HD.out]; rfl, by rw [HD.out, HCON.out]; rfl, (below_drewN hbr nq).alloc hbr.size _⟩
              case measure => simp [intOf]

end Go.Proofs.YtbhcmnfeeogdhaaGreatDoor

/-
  wavestoreref51.inverted, Apply.
-/
namespace Go.Proofs.YtbhcmnfeeogdhaaGreatDoor
open Go.RowKit

set_option maxRecDepth 100000 in
theorem rinverted_any (c : UInt8) (w : World) : Calls Tryz.prog 121 #[.int .u8 (c.toNat : Int)] w fun e w' => e = .returned (.int .u8 ((invC c).toNat : Int)) ∧ w = w' := by
  have hk := inv_code c
  rcases code_cases c with ⟨rfl, h1, h2⟩ | ⟨rfl, h1, h2⟩ | ⟨p0, p1, p0', p1', h1, h2⟩
  all_goals
    rw [h1] at hk
    have HK := hide hk
    clear hk h1 h2
    go_enter Tryz.func121, Tryz.ntmps121
    go_wp2_with fail
    go_ret
    exact ⟨by rw [HK.out]; rfl, rfl⟩

def RaRel (vs : List ByteArray) (i : Value) : Prop := ∃ k : Nat, k ≤ vs.length ∧ i = .int .i64 k ∧ (∀ v ∈ vs.take k, bitsB v.data.toList = true)
def RcRel (vs : List ByteArray) (out i : Value) : Prop := ∃ k : Nat, k ≤ vs.length ∧ i = .int .i64 k ∧ out = .string (strB (vL (vs.take k)).flatten)
/-- a row of bytes that grows: place by place -/
def RbRel (g : Nat → UInt8) (n base : Nat) (W : World) (out i : Value) (wr : World) : Prop :=
  ∃ (k : Nat) (A : Option Addr) (c : Nat), k ≤ n ∧ i = .int .i64 k ∧ out = .slice A k c ∧ OwnBy wr base A c (upto g k) ∧ Below W.heap.size W wr
def RfRel (k : Int) (x : UInt8) (l : List UInt8) (W : World) (out i : Value) (wr : World) : Prop :=
  ∃ n : Nat, 1 ≤ n ∧ n ≤ l.length ∧ i = .int .i64 n ∧ out = bv (((l.drop 1).take (n - 1)).foldl (opC k) x) ∧ Below W.heap.size W wr

theorem rsum_both (k : Int) (hk : k = 12 ∨ k = 13) (a b : ByteArray) (w : World) (hl : a.size ≤ 1000) (hab : a.size = b.size) :
    Calls Tryz.prog 119 #[.string a, .string b, .bool (k == 13)] w fun e w' => e = .returned (.string (strB (bothL k a.data.toList b.data.toList))) ∧ Below w.heap.size w w' := by
  have hla : a.data.toList.length = a.size := by simp
  unfold bothL
  rw [if_pos hk, hla]
  cases hh : knownB a.data.toList && knownB b.data.toList with
  | false => exact (rsum_unk a b _ w hl (by omega) hh).mono fun e w' ⟨h1, h2⟩ => ⟨h1, h2 ▸ Below.refl _ _⟩
  | true =>
    rw [Bool.and_eq_true] at hh
    exact rsum_kn a b _ w hl hab hh.1 hh.2

theorem own_empty (W : World) {base : Nat} (hb : base ≤ W.heap.size) : OwnBy (W.alloc (.cells #[] 5)) base (some ⟨W.heap.size, 0, none⟩) 0 [] := World.ownsRow_lit W #[] 0 hb (by simp [maxLen]) rfl

theorem fold_step (k : Int) (z : UInt8) (x : ByteArray) (n : Nat) (h1 : 1 ≤ n) (h : n < x.size) : ((x.data.toList.drop 1).take (n + 1 - 1)).foldl (opC k) z = opC k (((x.data.toList.drop 1).take (n - 1)).foldl (opC k) z) x[n] := by
  have e : n + 1 - 1 = (n - 1) + 1 := by omega
  have hl : n - 1 < (x.data.toList.drop 1).length := by simp; omega
  rw [e, List.take_succ_eq_append_getElem hl, List.foldl_append]
  simp only [List.foldl_cons, List.foldl_nil]
  congr 1
  rw [List.getElem_drop]
  have : 1 + (n - 1) = n := by omega
  simp only [this]
  rfl
theorem bits_zx {c : UInt8} (h : bitC c = true) : (c = 122 ∧ zxC c = 120) ∨ (((c.toNat : Int) == 122) = false ∧ zxC c = c) := by
  unfold bitC at h
  simp only [Bool.or_eq_true, beq_iff_eq] at h
  rcases h with ((rfl | rfl) | rfl) | rfl
  · exact .inr ⟨rfl, rfl⟩
  · exact .inr ⟨rfl, rfl⟩
  · exact .inr ⟨rfl, rfl⟩
  · exact .inl ⟨rfl, rfl⟩

set_option maxRecDepth 100000 in
set_option maxHeartbeats 4000000 in
theorem rapply_any (n : Nf) (A : Option Addr) (c : Nat) (vs : List ByteArray) (w : World) (hA : StrsAt w (Lo w.heap.size) A vs) (hl : vs.length ≤ 1000) (hc : vs.length ≤ c) (hv : ∀ v ∈ vs, v.size ≤ 130) (ha : I64 n.a) (hb : I64 n.b) (hk : I64 n.kind) :
    Calls Tryz.prog 93 #[.agg (encNf n).toArray, .slice A vs.length c] w fun e w' => e = .returned (.string ⟨(applyL n.kind n.a n.b (vL vs)).toArray⟩) ∧ Below w.heap.size w w' := by
  obtain ⟨kind, at_, name, value, na, nb', nc, nd, kids⟩ := n
  dsimp only [encNf] at *
  have HV := hide hv
  clear hv
  go_enter Tryz.func93, Tryz.ntmps93
  go_wp2_with fail
  obtain ⟨W0, hW0⟩ : ∃ W0 : World, w.alloc (.cells #[.int .i64 kind, .int .i64 at_, .string name, .string value, .int .i64 na, .int .i64 nb', .int .i64 nc, .int .i64 nd, kids] 30) = W0 := ⟨_, rfl⟩
  have gN : W0.heap[w.heap.size]? = some (.cells #[.int .i64 kind, .int .i64 at_, .string name, .string value, .int .i64 na, .int .i64 nb', .int .i64 nc, .int .i64 nd, kids] 30 (0, 0)) := by rw [← hW0]; exact heap_alloc_new w _
  have hb0 : Below w.heap.size w W0 := by rw [← hW0]; exact (Below.refl _ _).alloc (Nat.le_refl _) _
  rw [hW0]
  clear hW0
  have hA0 : StrsAt W0 (Lo w.heap.size) A vs := hA.stay (stay_below hb0 fun _ h => h)
  have k0 : W0.cell? ⟨w.heap.size, 0, none⟩ = some (.int .i64 kind) := by rw [cell_of_row W0 _ _ _ _ (0, 0) gN]; rfl
  have k4 : W0.cell? ⟨w.heap.size, 4, none⟩ = some (.int .i64 na) := by rw [cell_of_row W0 _ _ _ _ (0, 0) gN]; rfl
  have k5 : W0.cell? ⟨w.heap.size, 5, none⟩ = some (.int .i64 nb') := by rw [cell_of_row W0 _ _ _ _ (0, 0) gN]; rfl
  clear hA gN
  go_loop [5] (fun i => RaRel vs i) (fun i => vs.length - (intOf i).toNat)
  case atStart => exact ⟨0, Nat.zero_le _, rfl, by simp⟩
  case round =>
    obtain ⟨k, hk, rfl, hgood⟩ := hrel
    by_cases hlt : k < vs.length
    · obtain ⟨b1, o1, hAe, _, q1⟩ := hA0.at_ hlt
      subst hAe
      have hsz := HV.out _ (List.getElem_mem hlt)
      have HG := hide hgood
      clear hgood
      cases hbit : bitsB vs[k].data.toList with
      | false =>
        have HB := hide (any_bad (List.getElem_mem hlt) hbit kind na nb')
        have HBIT := hide hbit
        clear hbit
        generalize vs[k] = v at *
        go_wp2_with fail
        refine (risBits_any v _ (by omega)).mono ?_
        rw [HBIT.out]
        rintro e w1 ⟨rfl, rfl⟩
        go_wp2_with fail
        go_ret
        exact ⟨by rw [HB.out]; rfl, hb0⟩
      | true =>
        have HT := hide (all_take_succ hlt HG.out hbit)
        have HBIT := hide hbit
        clear hbit
        generalize vs[k] = v at *
        go_wp2_with fail
        refine (risBits_any v _ (by omega)).mono ?_
        rw [HBIT.out]
        rintro e w1 ⟨rfl, rfl⟩
        go_wp2_with fail
        go_round
        case rel => exact ⟨k + 1, by omega, by go_num, HT.out⟩
        case measure => simp [intOf]; omega
    · have hke : k = vs.length := by omega
      subst hke
      rw [List.take_length] at hgood
      have HNB := hide (all_good hgood)
      clear hgood
      by_cases h9 : 9 ≤ kind ∧ kind ≤ 13
      · have g9 : decide ((9 : Int) ≤ kind) = true := decide_eq_true h9.1
        have g13 : decide (kind ≤ (13 : Int)) = true := decide_eq_true h9.2
        have h7 : ¬ kind = 7 := by omega
        by_cases hv2 : vs.length = 2
        · obtain ⟨x, y, rfl⟩ : ∃ x y, vs = [x, y] := by
            match vs, hv2 with
            | [x, y], _ => exact ⟨x, y, rfl⟩
          obtain ⟨bk, o, hAe, hlo, hcell⟩ := hA0 (by simp)
          subst hAe
          have c0 : W0.cell? ⟨bk, o, none⟩ = some (.string x) := hcell 0 x rfl
          have c1 : W0.cell? ⟨bk, o + 1, none⟩ = some (.string y) := hcell 1 y rfl
          clear hcell hA0 hv2 hl
          have hx0 : x.size ≤ 130 := HV.out x (by simp)
          have hy0 : y.size ≤ 130 := HV.out y (by simp)
          by_cases hxy : x.size = y.size
          · have HXY := hide hxy
            have txy : ((x.size : Int) != (y.size : Int)) = false := by rw [hxy]; simp
            have HE := hide (show applyL kind na nb' (vL [x, y]) = bothL kind x.data.toList y.data.toList by
              unfold applyL; rw [if_neg HNB.out, if_neg h7, if_pos h9]
              show (if x.data.toList.length = y.data.toList.length then _ else _) = _
              rw [if_pos (by simpa using hxy)])
            clear hxy h7
            by_cases h12 : 12 ≤ kind
            · have hk2 : kind = 12 ∨ kind = 13 := by omega
              have HS := hide (fun (W : World) => rsum_both kind hk2 x y W (by omega) HXY.out)
              have t12 : decide ((12 : Int) ≤ kind) = true := decide_eq_true h12
              clear hk2
              go_upto_region 8 with (fail)
              go_quiet (fail)
              go_wp2_with fail
              refine wp_region_still_tail 8 (by kernel_rfl) (by kernel_rfl) ?_
              simp only [List.take_succ_cons, List.take_zero, List.drop_succ_cons, List.drop_zero]
              obtain ⟨W3, hW3⟩ : ∃ W3 : World, (W0.drewN nq).drew = W3 := ⟨_, rfl⟩
              have d0 : W3.cell? ⟨bk, o, none⟩ = some (.string x) := by rw [← hW3]; exact c0
              have d1 : W3.cell? ⟨bk, o + 1, none⟩ = some (.string y) := by rw [← hW3]; exact c1
              have hb3 : Below w.heap.size w W3 := by rw [← hW3]; exact below_drew (below_drewN hb0 nq)
              change wpStill _ _ ((W0.drewN nq).drew) (fun a' => wpList _ _ _ _ a' ((W0.drewN nq).drew)) _ _
              rw [hW3]
              clear hW3
              repeat (refine wpStill_step (fun K hK => ?_); go_simp; refine hK _ ?_; clear hK K)
              refine wpStill_nil ?_
              go_wp2_with fail
              refine (HS.out W3).mono ?_
              rintro e w4 ⟨rfl, b4⟩
              go_wp2_with fail
              go_ret
              exact ⟨by rw [HE.out]; rfl, bstep hb3 b4⟩
            · have hk3 : kind = 9 ∨ kind = 10 ∨ kind = 11 := by omega
              have HK3 := hide hk3
              have HBL := hide (show bothL kind x.data.toList y.data.toList = upto (fun n => opC kind (x.data.toList.getD n 0) (y.data.toList.getD n 0)) x.size by
                have hxl : x.data.toList.length = x.size := by simp
                rw [← hxl, upto_zip _ _ _ (by simpa using HXY.out)]
                unfold bothL; rw [if_neg (by omega)])
              have t12 : decide ((12 : Int) ≤ kind) = false := decide_eq_false h12
              obtain ⟨i0, hi0, hz0, hz1, hz2⟩ := info_parts infoBy
              clear hk3 h12
              generalize hg : (fun n => opC kind (x.data.toList.getD n 0) (y.data.toList.getD n 0)) = g at *
              have HG := hide (show ∀ n (h1 : n < x.size) (h2 : n < y.size), g n = opC kind x[n] y[n] from fun n h1 h2 => by
                rw [← hg]
                show opC kind (x.data.toList.getD n 0) (y.data.toList.getD n 0) = _
                rw [List.getD, List.getD, List.getElem?_eq_getElem (by simpa using h1), List.getElem?_eq_getElem (by simpa using h2)]
                rfl)
              clear hg
              go_upto_region 8 with (fail)
              go_quiet (fail)
              go_wp2_with fail
              have HO := hide (own_empty (W0.drewN nq) (base := W0.heap.size) (Nat.le_refl _))
              have HB1 := hide (show Below W0.heap.size W0 ((W0.drewN nq).alloc (.cells #[] 5)) from (below_drewN (Below.refl _ _) nq).alloc (Nat.le_refl _) _)
              go_loopw [7, 8] (fun out i wr => RbRel g x.size W0.heap.size W0 out i wr) (fun _ i _ => x.size - (intOf i).toNat)
              case atStart => exact ⟨0, some ⟨W0.heap.size, 0, none⟩, 0, Nat.zero_le _, rfl, rfl, HO.out, HB1.out⟩
              case round =>
                obtain ⟨k, A1, cp1, hk, rfl, rfl, ho1, hbr⟩ := hrel
                have q0 : wr.cell? ⟨bk, o, none⟩ = some (.string x) := (hbr.cell (p := ⟨bk, o, none⟩) (Nat.lt_of_lt_of_le hlo hb0.size)).trans c0
                have q1 : wr.cell? ⟨bk, o + 1, none⟩ = some (.string y) := (hbr.cell (p := ⟨bk, o + 1, none⟩) (Nat.lt_of_lt_of_le hlo hb0.size)).trans c1
                by_cases hlt : k < x.size
                · have hlt2 : k < y.size := by have := HXY.out; omega
                  have hi1 : (k : Int) < (x.size : Int) := by omega
                  have hi2 : (k : Int) < (y.size : Int) := by omega
                  have hi3 : (0 : Int) ≤ (k : Int) := by omega
                  have HGK := hide (HG.out k hlt hlt2)
                  have HBIT := hide (fun (W : World) => bit_any kind HK3.out x[k] y[k] W)
                  rw [← HGK.out] at HBIT
                  have HUS := hide (upto_succ g k)
                  have hul : (upto g k).length = k := upto_len g k
                  have HUL := hide hul
                  clear hul
                  have hbk := hbr.size
                  have HQ := hide (show Below W0.heap.size W0 wr.drew from below_drew hbr)
                  have HOW := hide (show OwnBy wr.drew W0.heap.size A1 cp1 (upto g k) from ho1)
                  clear ho1 HGK
                  generalize g k = yb at *
                  go_wp2_with fail
                  go_region_law
                    (first
                      | (refine step_append_src rfl (.tmp 70) (.tmp 83) 174 rfl W0.heap.size 5 i0 _ 1 1 Tryz.underlying174 hi0 hz0 hz1 hz2 rfl (by decide) (.slice A1 k cp1) k ((upto g k).map bv) rfl HO1.out (some ⟨w4.heap.size, 0, none⟩) 1 1 [bv yb] rfl rfl (src_block (t := 5) (fr := (0, 0)) HBX.out) (bv_one [yb]) (by simp only [maxLen]; omega) (by omega) (by simp; omega) ?_
                         intro v' w5 hown5 hg5)
                      | (go_simp
                         go_at_call 120
                         refine (HBIT.out wr.drew).mono ?_
                         rintro e w4 ⟨rfl, b4⟩
                         have ho4 : OwnBy w4 W0.heap.size A1 cp1 (upto g k) := own_block HOW.out fun n hn => b4.block n (own_ob HOW.out n hn).2
                         have HO1 := hide (World.ownsRow.alloc ho4 (.cells #[bv yb] 5))
                         have HBX := hide (heap_alloc_new w4 (.cells #[bv yb] 5))
                         have hb4 := bstep HQ.out b4
                         have hsz4 : W0.heap.size ≤ w4.heap.size := hb4.size
                         rw [HUL.out] at HO1
                         clear ho4 b4)
                      | fail)
                  all_goals
                    obtain ⟨A3, c3, rfl, ho5⟩ := ownBy_row (l := upto g k ++ [yb]) (by rw [List.map_append, List.length_append, HUL.out]; exact hown5)
                    have hbel : Below W0.heap.size W0 w5 := (hb4.alloc hb4.size _).grown hg5 (by simp; omega) (fun n hn => (own_ob HO1.out n (by rw [ob_eq] at hn; exact hn)).1)
                    have HO5 := hide ho5
                    have HL2 := hide (show (upto g k ++ [yb]).length = k + 1 by rw [List.length_append, HUL.out]; rfl)
                    rw [HL2.out]
                    clear ho5 hown5 hg5
                    go_wp2_with fail
                    go_roundw
                    case rel => exact ⟨k + 1, A3, c3, by omega, by go_num, rfl, by rw [HUS.out]; exact HO5.out, hbel⟩
                    case measure => simp [intOf]; omega
                · have hke : k = x.size := by omega
                  subst hke
                  have hcv := conv_own ho1
                  rw [upto_len] at hcv
                  go_wp2_with fail
                  go_ret
                  exact ⟨by rw [HE.out, HBL.out]; rfl, bstep hb0 hbr⟩
          · have txy : ((x.size : Int) != (y.size : Int)) = true := by rw [bne_iff_ne]; omega
            have HE := hide (show applyL kind na nb' (vL [x, y]) = [] by
              unfold applyL; rw [if_neg HNB.out, if_neg h7, if_pos h9]
              show (if x.data.toList.length = y.data.toList.length then _ else _) = _
              rw [if_neg (by simpa using hxy)])
            clear hxy
            go_upto_region 8 with (fail)
            go_quiet (fail)
            go_wp2_with fail
            go_ret
            exact ⟨by rw [HE.out]; rfl, below_drewN hb0 nq⟩
        · have t2 : ((vs.length : Int) != 2) = true := by rw [bne_iff_ne]; omega
          have HE := hide (show applyL kind na nb' (vL vs) = [] by
            unfold applyL; rw [if_neg HNB.out, if_neg h7, if_pos h9]
            match vs, hv2 with
            | [], _ => rfl
            | [x], _ => rfl
            | [x, y], h => exact absurd rfl h
            | x :: y :: z :: r, _ => rfl)
          go_upto_region 8 with (fail)
          go_quiet (fail)
          go_wp2_with fail
          go_ret
          exact ⟨by rw [HE.out]; rfl, below_drewN hb0 nq⟩
      have t9 : decide ((9 : Int) ≤ kind) = false ∨ decide ((9 : Int) ≤ kind) = true ∧ decide (kind ≤ (13 : Int)) = false := by
        by_cases h : (9 : Int) ≤ kind
        · exact .inr ⟨decide_eq_true h, decide_eq_false (by omega)⟩
        · exact .inl (decide_eq_false h)
      by_cases h7 : kind = 7
      · subst h7
        have HR := hide (show applyL 7 na nb' (vL vs) = (vL vs).flatten by unfold applyL; rw [if_neg HNB.out, if_pos rfl])
        clear t9
        go_wp2_with fail
        go_loop [9, 10] (fun out i => RcRel vs out i) (fun _ i => vs.length - (intOf i).toNat)
        case atStart => exact ⟨0, Nat.zero_le _, rfl, rfl⟩
        case round =>
          obtain ⟨k, hk, rfl, rfl⟩ := hrel
          by_cases hlt : k < vs.length
          · obtain ⟨b1, o1, hAe, _, q1⟩ := hA0.at_ hlt
            subst hAe
            have hsz := HV.out _ (List.getElem_mem hlt)
            have HS := hide (show strB (vL (vs.take k)).flatten ++ vs[k] = strB (vL (vs.take (k + 1))).flatten by
              have e : vL (vs.take (k + 1)) = vL (vs.take k) ++ [vs[k].data.toList] := by
                unfold vL; rw [List.take_succ_eq_append_getElem hlt, List.map_append]; rfl
              rw [e, List.flatten_append]
              have : vs[k] = strB vs[k].data.toList := rfl
              rw [this, strB_cat]
              simp [strB_list])
            have hz : (strB (vL (vs.take k)).flatten).size ≤ 130000 := by
              rw [strB_size]
              have := flat_bd (vs.take k) fun v hv => HV.out v (List.mem_of_mem_take hv)
              rw [List.length_take] at this
              omega
            generalize vs[k] = v at *
            have hz2 : (strB (vL (vs.take k)).flatten).size + v.size ≤ 9223372036854775807 := by omega
            go_wp2_with fail
            go_round
            case rel => exact ⟨k + 1, by omega, by go_num, by rw [HS.out]⟩
            case measure => simp [intOf]; omega
          · have hke : k = vs.length := by omega
            subst hke
            rw [List.take_length]
            go_wp2_with fail
            go_ret
            exact ⟨by rw [HR.out]; rfl, hb0⟩
      have t7 : (kind == 7) = false := beq_eq_false_iff_ne.2 h7
      by_cases hv1 : vs.length = 1
      · obtain ⟨x, rfl⟩ : ∃ x, vs = [x] := by
          match vs, hv1 with
          | [x], _ => exact ⟨x, rfl⟩
        obtain ⟨bk, o, hAe, hlo, hcell⟩ := hA0 (by simp)
        subst hAe
        have c0 : W0.cell? ⟨bk, o, none⟩ = some (.string x) := hcell 0 x rfl
        clear hcell hA0 hv1 hl
        have hx0 : x.size ≤ 130 := HV.out x (by simp)
        have HA := hide (show applyL kind na nb' (vL [x]) = oneL kind na nb' x.data.toList by
          unfold applyL; rw [if_neg HNB.out, if_neg h7, if_neg h9]; rfl)
        have hxp : 0 < x.size := all_good_pos HNB.out
        by_cases h6 : kind = 6
        · subst h6
          have HS := hide (show applyL 6 na nb' (vL [x]) = sliceL x.data.toList na nb' by rw [HA.out]; rfl)
          have hxl : x.data.toList.length = x.size := by simp
          clear t9 h9 h7
          by_cases h : nb' < 0 ∨ nb' > na ∨ na ≥ x.size
          · have HE := hide (show applyL 6 na nb' (vL [x]) = [] by rw [HS.out]; unfold sliceL; rw [if_pos]; rw [hxl]; exact h)
            clear hxl
            by_cases g1 : nb' < 0
            · go_wp2_with fail
              go_ret
              exact ⟨by rw [HE.out]; rfl, hb0⟩
            · by_cases g2 : na < nb'
              · go_wp2_with fail
                go_ret
                exact ⟨by rw [HE.out]; rfl, hb0⟩
              · have g3 : (x.size : Int) ≤ na := by omega
                clear h
                go_wp2_with fail
                go_ret
                exact ⟨by rw [HE.out]; rfl, hb0⟩
          · obtain ⟨m, rfl⟩ : ∃ m : Nat, na = m := ⟨na.toNat, by omega⟩
            obtain ⟨n, rfl⟩ : ∃ n : Nat, nb' = n := ⟨nb'.toNat, by omega⟩
            have e1 : n ≤ m := by omega
            have e2 : m < x.size := by omega
            have e3 : (m : Int) < (x.size : Int) := by omega
            have e4 : (n : Int) ≤ (m : Int) := by omega
            have e5 : (0 : Int) ≤ (n : Int) := by omega
            have hx : x.extract (x.size - 1 - m) (x.size - n) = ⟨(sliceL x.data.toList m n).toArray⟩ := by
              apply ByteArray.ext
              apply Array.toList_inj.1
              rw [Lib.extract_data]
              unfold sliceL
              rw [if_neg (by rw [hxl]; omega), hxl]
              show _ = List.take ((m : Int).toNat - (n : Int).toNat + 1) (List.drop (x.size - 1 - (m : Int).toNat) x.data.toList)
              rw [Int.toNat_natCast, Int.toNat_natCast]
              congr 1
              omega
            have HX := hide hx
            clear hx hxl h
            go_wp2_with fail
            go_ret
            exact ⟨by rw [HS.out, ← HX.out]; rfl, hb0⟩
        have t6 : (kind == 6) = false := beq_eq_false_iff_ne.2 h6
        by_cases h8 : kind = 8
        · subst h8
          have HE := hide (show applyL 8 na nb' (vL [x]) = upto (fun n => invC (x.data.toList.getD n 0)) x.size by
            have hxl : x.data.toList.length = x.size := by simp
            rw [HA.out, ← hxl, upto_map]; rfl)
          obtain ⟨i0, hi0, hz0, hz1, hz2⟩ := info_parts infoBy
          generalize hg : (fun n => invC (x.data.toList.getD n 0)) = g at *
          have HG := hide (show ∀ n (h1 : n < x.size), g n = invC x[n] from fun n h1 => by
            rw [← hg]
            show invC (x.data.toList.getD n 0) = _
            rw [List.getD, List.getElem?_eq_getElem (by simpa using h1)]
            rfl)
          clear hg t9 h9 h7
          go_wp2_with fail
          have HO := hide (own_empty W0 (base := W0.heap.size) (Nat.le_refl _))
          have HB1 := hide (show Below W0.heap.size W0 (W0.alloc (.cells #[] 5)) from (Below.refl _ _).alloc (Nat.le_refl _) _)
          go_loopw [12, 13] (fun out i wr => RbRel g x.size W0.heap.size W0 out i wr) (fun _ i _ => x.size - (intOf i).toNat)
          case atStart => exact ⟨0, some ⟨W0.heap.size, 0, none⟩, 0, Nat.zero_le _, rfl, rfl, HO.out, HB1.out⟩
          case round =>
            obtain ⟨k, A1, cp1, hk, rfl, rfl, ho1, hbr⟩ := hrel
            by_cases hlt : k < x.size
            · have hi1 : (k : Int) < (x.size : Int) := by omega
              have hi3 : (0 : Int) ≤ (k : Int) := by omega
              have HGK := hide (HG.out k hlt)
              have HINV := hide (fun (W : World) => rinverted_any x[k] W)
              rw [← HGK.out] at HINV
              have HUS := hide (upto_succ g k)
              have hul : (upto g k).length = k := upto_len g k
              have HUL := hide hul
              clear hul
              have hbk := hbr.size
              have HO1 := hide (World.ownsRow.alloc ho1 (.cells #[bv (g k)] 5))
              have HBX := hide (heap_alloc_new wr (.cells #[bv (g k)] 5))
              rw [HUL.out] at HO1
              clear ho1 HGK
              generalize g k = yb at *
              go_wp2_with fail
              refine (HINV.out wr).mono ?_
              rintro e w4 ⟨rfl, rfl⟩
              go_wp2_with (at_builtin; (refine append_src rfl _ _ 174 rfl W0.heap.size 5 i0 _ 1 1 Tryz.underlying174 hi0 hz0 hz1 hz2 rfl (by decide) (.slice A1 k cp1) k ((upto g k).map bv) rfl HO1.out (some ⟨wr.heap.size, 0, none⟩) 1 1 [bv yb] rfl rfl (src_block (t := 5) (fr := (0, 0)) HBX.out) (bv_one [yb]) (by simp only [maxLen]; omega) (by omega) (by simp; omega) ?_); intro v' w5 hown5 hg5)
              obtain ⟨A3, c3, rfl, ho5⟩ := ownBy_row (l := upto g k ++ [yb]) (by rw [List.map_append, List.length_append, HUL.out]; exact hown5)
              have hbel : Below W0.heap.size W0 w5 := (hbr.alloc hbr.size _).grown hg5 (by simp; omega) (fun n hn => (own_ob HO1.out n (by rw [ob_eq] at hn; exact hn)).1)
              have HO5 := hide ho5
              have HL2 := hide (show (upto g k ++ [yb]).length = k + 1 by rw [List.length_append, HUL.out]; rfl)
              rw [HL2.out]
              clear ho5 hown5 hg5
              go_wp2_with fail
              go_roundw
              case rel => exact ⟨k + 1, A3, c3, by omega, by go_num, rfl, by rw [HUS.out]; exact HO5.out, hbel⟩
              case measure => simp [intOf]; omega
            · have hke : k = x.size := by omega
              subst hke
              have hcv := conv_own ho1
              rw [upto_len] at hcv
              go_wp2_with fail
              go_ret
              exact ⟨by rw [HE.out]; rfl, bstep hb0 hbr⟩
        have t8 : (kind == 8) = false := beq_eq_false_iff_ne.2 h8
        by_cases ht : 14 ≤ kind ∧ kind ≤ 16
        · have hlx : 0 < x.data.toList.length := by simpa using hxp
          have hx1 : x.data.toList = x[0] :: x.data.toList.drop 1 := by
            have := List.drop_eq_getElem_cons hlx
            rw [List.drop_zero] at this
            exact this
          have hb0' : bitC x[0] = true := by
            have h := HNB.out
            rw [Bool.not_eq_true, List.any_eq_false] at h
            have := h x.data.toList (by simp [vL])
            simp only [bitsB, Bool.not_eq_true', Bool.and_eq_true, Bool.not_eq_false] at this
            exact List.all_eq_true.1 this.2 _ (by rw [hx1]; exact List.mem_cons_self ..)
          have HZ := hide (bits_zx hb0')
          have HE := hide (show applyL kind na nb' (vL [x]) = [(x.data.toList.drop 1).foldl (opC (kind - 5)) (zxC x[0])] by
            rw [HA.out]; unfold oneL; rw [if_neg h8, if_neg h6, if_pos ht]
            unfold redL
            rw [hx1]
            rfl)
          have hxl : x.data.toList.length = x.size := by simp
          have HXL := hide hxl
          have h9' : decide (kind ≤ (13 : Int)) = false := decide_eq_false (by omega)
          have h9'' : decide ((9 : Int) ≤ kind) = true := decide_eq_true (by omega)
          have t14 : decide ((14 : Int) ≤ kind) = true := decide_eq_true ht.1
          have t16 : decide (kind ≤ (16 : Int)) = true := decide_eq_true ht.2
          have hk5 : kind - 14 + 9 = 9 ∨ kind - 14 + 9 = 10 ∨ kind - 14 + 9 = 11 := by omega
          have hk55 : kind - 5 = kind - 14 + 9 := by omega
          rw [hk55] at HE
          have HK5 := hide hk5
          have hw1 : IntKind.i64.wrap (kind - 14) = kind - 14 := IntWalk.i64_in _ (by omega)
          have hw2 : IntKind.i64.wrap (kind - 14 + 9) = kind - 14 + 9 := IntWalk.i64_in _ (by omega)
          have kc := conv_one
          clear t9 hx1 hk5 hk55 hxl
          rcases HZ.out with ⟨hz, hz'⟩ | ⟨hz, hz'⟩
          all_goals
            have HZ1 := hide hz'
            rw [HZ1.out] at HE
            clear hz'
          · have hz2 : (x[0].toNat : Int) = 122 := by rw [hz]; rfl
            clear hz
            go_wp2_with fail
            go_loopw [14, 15] (fun c i wr => RfRel (kind - 14 + 9) 120 x.data.toList W0 c i wr) (fun _ i _ => x.size - (intOf i).toNat)
            case atStart => exact ⟨1, Nat.le_refl _, by rw [HXL.out]; exact hxp, rfl, rfl, Below.refl _ _⟩
            case round =>
              obtain ⟨n, hn1, hn2, rfl, rfl, hbr⟩ := hrel
              rw [HXL.out] at hn2
              by_cases hlt : n < x.size
              · have hi1 : (n : Int) < (x.size : Int) := by omega
                have hi3 : (0 : Int) ≤ (n : Int) := by omega
                have HST := hide (fold_step (kind - 14 + 9) 120 x n hn1 hlt)
                have HBT := hide (fun (y : UInt8) (W : World) => bit_any (kind - 14 + 9) HK5.out y x[n] W)
                generalize ((x.data.toList.drop 1).take (n - 1)).foldl (opC (kind - 14 + 9)) 120 = y at *
                go_wp2_with fail
                refine (HBT.out y wr).mono ?_
                rintro e w4 ⟨rfl, b4⟩
                go_wp2_with fail
                go_roundw
                case rel => exact ⟨n + 1, by omega, by rw [HXL.out]; omega, by go_num, by rw [HST.out], bstep hbr b4⟩
                case measure => simp [intOf]; omega
              · have hke : n = x.size := by omega
                subst hke
                have HT := hide (show ((x.data.toList.drop 1).take (x.size - 1)) = x.data.toList.drop 1 from List.take_of_length_le (by rw [List.length_drop, HXL.out]; omega))
                rw [HT.out]
                generalize (x.data.toList.drop 1).foldl (opC (kind - 14 + 9)) 120 = y at *
                go_wp2_with fail
                go_ret
                exact ⟨by rw [HE.out]; rfl, (bstep hb0 hbr).alloc (bstep hb0 hbr).size _⟩
          · go_wp2_with fail
            go_loopw [14, 15] (fun c i wr => RfRel (kind - 14 + 9) x[0] x.data.toList W0 c i wr) (fun _ i _ => x.size - (intOf i).toNat)
            case atStart => exact ⟨1, Nat.le_refl _, by rw [HXL.out]; exact hxp, rfl, rfl, Below.refl _ _⟩
            case round =>
              obtain ⟨n, hn1, hn2, rfl, rfl, hbr⟩ := hrel
              rw [HXL.out] at hn2
              by_cases hlt : n < x.size
              · have hi1 : (n : Int) < (x.size : Int) := by omega
                have hi3 : (0 : Int) ≤ (n : Int) := by omega
                have HST := hide (fold_step (kind - 14 + 9) x[0] x n hn1 hlt)
                have HBT := hide (fun (y : UInt8) (W : World) => bit_any (kind - 14 + 9) HK5.out y x[n] W)
                generalize ((x.data.toList.drop 1).take (n - 1)).foldl (opC (kind - 14 + 9)) x[0] = y at *
                go_wp2_with fail
                refine (HBT.out y wr).mono ?_
                rintro e w4 ⟨rfl, b4⟩
                go_wp2_with fail
                go_roundw
                case rel => exact ⟨n + 1, by omega, by rw [HXL.out]; omega, by go_num, by rw [HST.out], bstep hbr b4⟩
                case measure => simp [intOf]; omega
              · have hke : n = x.size := by omega
                subst hke
                have HT := hide (show ((x.data.toList.drop 1).take (x.size - 1)) = x.data.toList.drop 1 from List.take_of_length_le (by rw [List.length_drop, HXL.out]; omega))
                rw [HT.out]
                generalize (x.data.toList.drop 1).foldl (opC (kind - 14 + 9)) x[0] = y at *
                go_wp2_with fail
                go_ret
                exact ⟨by rw [HE.out]; rfl, (bstep hb0 hbr).alloc (bstep hb0 hbr).size _⟩
        · have HE := hide (show applyL kind na nb' (vL [x]) = [] by rw [HA.out]; unfold oneL; rw [if_neg h8, if_neg h6, if_neg ht])
          have t14 : decide ((14 : Int) ≤ kind) = false ∨ decide ((14 : Int) ≤ kind) = true ∧ decide (kind ≤ (16 : Int)) = false := by
            by_cases h : (14 : Int) ≤ kind
            · exact .inr ⟨decide_eq_true h, decide_eq_false (by omega)⟩
            · exact .inl (decide_eq_false h)
          clear ht h9 h7 h6 h8
          rcases t9 with t9 | ⟨t9, t13⟩
          all_goals
            rcases t14 with t14 | ⟨t14, t16⟩
            all_goals
              go_wp2_with fail
              go_ret
              exact ⟨by rw [HE.out]; rfl, hb0⟩
      · have t1 : ((vs.length : Int) != 1) = true := by rw [bne_iff_ne]; omega
        have HE := hide (show applyL kind na nb' (vL vs) = [] by
          unfold applyL; rw [if_neg HNB.out, if_neg h7, if_neg h9]
          match vs, hv1 with
          | [], _ => rfl
          | [x], h => exact absurd rfl h
          | x :: y :: r, _ => rfl)
        rcases t9 with t9 | ⟨t9, t13⟩
        all_goals
          go_wp2_with fail
          go_ret
          exact ⟨by rw [HE.out]; rfl, hb0⟩

end Go.Proofs.YtbhcmnfeeogdhaaGreatDoor
