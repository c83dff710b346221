/-
  The closures of decimal.scan: one, digits.
-/
import Derived.Test.YtdlebcijgdkfjaaGreatDoorDecT
import Derived.Test.YtdlebcijgdkfjaaGreatDoorRefRead
import Derived.Test.YtdlebcijgdkfjaaGreatDoorMapped

namespace Go.Proofs.YtdlebcijgdkfjaaGreatDoor
open Go.RowKit

def atO (k : Nat) : Obj := .cells #[.int .i64 (k : Int)] 3 (0, 0)
def strO (s : ByteArray) : Obj := .cells #[.string s] 9 (0, 0)
theorem atO_at {W : World} {a k : Nat} (h : W.heap[a]? = some (atO k)) : W.cell? ⟨a, 0, none⟩ = some (.int .i64 (k : Int)) ∧ W.frozen? ⟨a, 0, none⟩ = false := by
  unfold atO at h
  exact ⟨by rw [cell_of_row W a _ _ _ (0, 0) h]; rfl, by simp [World.frozen?, h]⟩
theorem strO_at {W : World} {a : Nat} {s : ByteArray} (h : W.heap[a]? = some (strO s)) : W.cell? ⟨a, 0, none⟩ = some (.string s) ∧ W.frozen? ⟨a, 0, none⟩ = false := by
  unfold strO at h
  exact ⟨by rw [cell_of_row W a _ _ _ (0, 0) h]; rfl, by simp [World.frozen?, h]⟩
theorem atO_set {W : World} {a k : Nat} (h : W.heap[a]? = some (atO k)) (j : Nat) : (W.setCell ⟨a, 0, none⟩ (.int .i64 (j : Int))).heap[a]? = some (atO j) := by
  unfold atO at h
  simp [World.setCell, Array.getElem?_modify, h, atO]
theorem but_set {n : Nat} {W : World} {a : Nat} (v : Value) : But n (some a) W (W.setCell ⟨a, 0, none⟩ v) :=
  ⟨rfl, rfl, rfl, by simp [World.setCell], fun b _ hx => by
    simp [World.setCell, Array.getElem?_modify]
    intro e; subst e; exact absurd rfl hx⟩
theorem but_drewN {n : Nat} {x : Option Nat} {a w : World} (h : But n x a w) (q : Nat) : But n x a (w.drewN q) := ⟨h.os, h.tape, h.output, h.size, h.block⟩

/-- whether a set holds the byte at a place -/
def hitL (s : ByteArray) (k : Nat) (l : List UInt8) : Bool := l.any fun c => decide (s.data.toList[k]? = some c)
def OneRel (set s : ByteArray) (k : Nat) (W : World) (iv : Value) (wr : World) : Prop := ∃ i q : Nat, i ≤ set.size ∧ iv = .int .i64 (i : Int) ∧ hitL s k (set.data.toList.take i) = false ∧ wr = W.drewN q
theorem hit_snoc (s : ByteArray) (k : Nat) (set : ByteArray) (i : Nat) (hi : i < set.size) : hitL s k (set.data.toList.take (i + 1)) = (hitL s k (set.data.toList.take i) || decide (s.data.toList[k]? = some set[i])) := by
  rw [List.take_succ_eq_append_getElem (by simpa using hi)]
  unfold hitL
  rw [List.any_append]
  simp
  rfl
theorem hit_true (s : ByteArray) (k : Nat) (set : ByteArray) (i : Nat) (hi : i < set.size) (h : s.data.toList[k]? = some set[i]) : hitL s k set.data.toList = true := by
  unfold hitL
  rw [List.any_eq_true]
  exact ⟨set[i], by show set.data[i] ∈ _; simp, by simpa using h⟩
theorem place_get (s : ByteArray) (k : Nat) (hk : k < s.size) : s.data.toList[k]? = some s[k] := List.getElem?_eq_getElem (by simpa using hk)

def OneP (m : Bool) (a k : Nat) (W : World) (e : Ending) (W' : World) : Prop := e = .returned (.bool m) ∧ W'.heap[a]? = some (atO (if m then k + 1 else k)) ∧ But W.heap.size (some a) W W'
set_option maxRecDepth 100000 in
set_option maxHeartbeats 1000000 in
theorem one_any (set s : ByteArray) (a b k : Nat) (W : World) (m : Bool) (hm : hitL s k set.data.toList = m) (hA : W.heap[a]? = some (atO k)) (hS : W.heap[b]? = some (strO s)) (hs : s.size ≤ 1000) (hset : set.size ≤ 10) (hk : k ≤ s.size) :
    Calls Tryz.prog 191 #[.string set, .pointer (some ⟨a, 0, none⟩), .pointer (some ⟨b, 0, none⟩)] W (OneP m a k W) := by
  obtain ⟨a0, a1⟩ := atO_at hA
  obtain ⟨b0, b1⟩ := strO_at hS
  have HA := hide hA
  have HM := hide hm
  clear hm hA hS
  go_enter Tryz.func191, Tryz.ntmps191
  go_wp2_with fail
  go_loopw [8] (fun iv wr => OneRel set s k W iv wr) (fun iv _ => set.size - (intOf iv).toNat)
  case atStart => exact ⟨0, 0, Nat.zero_le _, rfl, rfl, rfl⟩
  case round =>
    obtain ⟨i, q, hi, rfl, hno, hwr⟩ := hrel
    have HNO := hide hno
    clear hno
    by_cases hlt : i < set.size
    · have c0 : wr.cell? ⟨a, 0, none⟩ = some (.int .i64 (k : Int)) := by rw [hwr]; exact a0
      have c1 : wr.frozen? ⟨a, 0, none⟩ = false := by rw [hwr]; exact a1
      have d0 : wr.cell? ⟨b, 0, none⟩ = some (.string s) := by rw [hwr]; exact b0
      have HA2 := hide (show wr.heap[a]? = some (atO k) by rw [hwr]; exact HA.out)
      have HBU := hide (show But W.heap.size (some a) W wr by rw [hwr]; exact but_drewN (But.refl _ _ _) q)
      have HWR := hide hwr
      have HSN := hide (hit_snoc s k set i hlt)
      have hi1 : (i : Int) < (set.size : Int) := by omega
      have hi3 : (0 : Int) ≤ (i : Int) := by omega
      have hk3 : (0 : Int) ≤ (k : Int) := by omega
      clear hwr a0 a1 b0 b1
      by_cases hks : k < s.size
      · have hk1 : (k : Int) < (s.size : Int) := by omega
        have hd : decide (k < s.size) = true := decide_eq_true hks
        by_cases he : s[k] = set[i]
        · have HT := hide (hit_true s k set i hlt ((place_get s k hks).trans (by rw [he])))
          have t1 : ((s[k].toNat : Int) == (set[i].toNat : Int)) = true := by rw [he]; simp
          clear he
          go_upto_region 4 with (fail)
          go_quiet (fail)
          go_wp2_with fail
          go_ret
          have hmt : m = true := HM.out.symm.trans HT.out
          subst hmt
          refine ⟨rfl, ?_, ?_⟩
          · exact atO_set (W := wr.drewN nq) HA2.out (k + 1)
          · exact HBU.out.trans ((but_drewN (But.refl _ _ wr) nq).trans (but_set (W := wr.drewN nq) _))
        · have hne : s[k].toNat ≠ set[i].toNat := fun e => he (UInt8.toNat_inj.1 e)
          have t1 : ((s[k].toNat : Int) == (set[i].toNat : Int)) = false := beq_eq_false_iff_ne.2 (by omega)
          have HN2 := hide (show hitL s k (set.data.toList.take (i + 1)) = false by
            rw [HSN.out, HNO.out, place_get s k hks, decide_eq_false (fun e => he (Option.some.inj e))]; rfl)
          clear he hne
          go_upto_region 4 with (fail)
          go_quiet (fail)
          go_wp2_with fail
          go_roundw
          case rel => exact ⟨i + 1, q + nq, by omega, by go_num, HN2.out, by rw [HWR.out]; simp [World.drewN, Nat.add_assoc]⟩
          case measure => simp [intOf]; omega
      · have hd : decide (k < s.size) = false := decide_eq_false hks
        have HN2 := hide (show hitL s k (set.data.toList.take (i + 1)) = false by
          rw [HSN.out, HNO.out, List.getElem?_eq_none (by simp; omega)]; rfl)
        go_upto_region 4 with (fail)
        go_quiet (fail)
        go_wp2_with fail
        go_roundw
        case rel => exact ⟨i + 1, q + nq, by omega, by go_num, HN2.out, by rw [HWR.out]; simp [World.drewN, Nat.add_assoc]⟩
        case measure => simp [intOf]; omega
    · have hie : i = set.size := by omega
      subst hie
      have hno := HNO.out
      rw [List.take_of_length_le (by simp), HM.out] at hno
      subst hno
      have HA2 := hide (show wr.heap[a]? = some (atO k) by rw [hwr]; exact HA.out)
      have HBU := hide (show But W.heap.size (some a) W wr by rw [hwr]; exact but_drewN (But.refl _ _ _) q)
      clear hwr
      go_wp2_with fail
      go_ret
      exact ⟨rfl, HA2.out, HBU.out⟩

theorem dgt_stop (s : ByteArray) (k j : Nat) (hk : k + j ≤ s.size) (hall : ((s.data.toList.drop k).take j).all dgC = true) (hst : ∀ c, s.data.toList[k + j]? = some c → dgC c = false) :
    (dgs (s.data.toList.drop k)).length = j ∧ s.extract k (k + j) = bs (dgs (s.data.toList.drop k)) := by
  have hl : (s.data.toList.drop k).length = s.size - k := by simp
  obtain ⟨h1, _⟩ := dgs_stop (l := s.data.toList.drop k) (k := j) (by omega) hall (fun c hc => hst c (by rw [List.getElem?_drop] at hc; exact hc))
  have h2 : (dgs (s.data.toList.drop k)).length = j := by rw [h1, List.length_take]; omega
  refine ⟨h2, ?_⟩
  have := (dgs_place s k (by omega)).2.1
  rw [h2] at this
  exact this
theorem dgt_more (s : ByteArray) (k j : Nat) (hk : k + j < s.size) (hall : ((s.data.toList.drop k).take j).all dgC = true) (hd : dgC s[k + j] = true) : ((s.data.toList.drop k).take (j + 1)).all dgC = true := by
  have hg : (s.data.toList.drop k)[j]? = some s[k + j] := by rw [List.getElem?_drop]; exact place_get s _ hk
  rw [List.take_add_one, hg, List.all_append, hall]
  simp [hd]
theorem dgC_not {c : UInt8} (h : ¬ dgC c = true) : c.toNat < 48 ∨ (48 ≤ c.toNat ∧ 57 < c.toNat) := by
  unfold dgC at h
  simp at h
  omega

def DgtRel (s : ByteArray) (a k : Nat) (W wr : World) : Prop := ∃ j : Nat, k + j ≤ s.size ∧ ((s.data.toList.drop k).take j).all dgC = true ∧ wr.heap[a]? = some (atO (k + j)) ∧ But W.heap.size (some a) W wr
def atOf (w : World) (a : Nat) : Nat := match w.cell? ⟨a, 0, none⟩ with
  | some (.int _ n) => n.toNat
  | _ => 0
theorem atOf_is {w : World} {a k : Nat} (h : w.heap[a]? = some (atO k)) : atOf w a = k := by unfold atOf; rw [(atO_at h).1]; simp
set_option maxRecDepth 100000 in
set_option maxHeartbeats 1000000 in
theorem dgt_any (s : ByteArray) (a b k : Nat) (W : World) (hab : a ≠ b) (hb : b < W.heap.size) (hA : W.heap[a]? = some (atO k)) (hS : W.heap[b]? = some (strO s)) (hs : s.size ≤ 1000) (hk : k ≤ s.size) :
    Calls Tryz.prog 192 #[.pointer (some ⟨a, 0, none⟩), .pointer (some ⟨b, 0, none⟩)] W fun e W' => e = .returned (.string (bs (dgs (s.data.toList.drop k)))) ∧ W'.heap[a]? = some (atO (k + (dgs (s.data.toList.drop k)).length)) ∧ But W.heap.size (some a) W W' := by
  obtain ⟨a0, a1⟩ := atO_at hA
  obtain ⟨b0, b1⟩ := strO_at hS
  have HA := hide hA
  have HS := hide hS
  clear hA hS
  go_enter Tryz.func192, Tryz.ntmps192
  go_wp2_with fail
  go_loopw [] (fun wr => DgtRel s a k W wr) (fun wr => s.size - atOf wr a)
  case atStart => exact ⟨0, hk, rfl, HA.out, But.refl _ _ _⟩
  case round =>
    obtain ⟨j, hj, hall, hAj, hbu⟩ := hrel
    have hSj : wr.heap[b]? = some (strO s) := (hbu.block b hb (fun e => hab (Option.some.inj e).symm)).trans HS.out
    obtain ⟨c0, c1⟩ := atO_at hAj
    obtain ⟨d0, d1⟩ := strO_at hSj
    have HAJ := hide hAj
    have HALL := hide hall
    have HBU := hide hbu
    have hk3 : (0 : Int) ≤ ((k + j : Nat) : Int) := by omega
    obtain ⟨p, hp⟩ : ∃ p, k + j = p := ⟨_, rfl⟩
    rw [hp] at c0 HAJ hk3 hj
    have HP := hide hp
    clear hall hAj hbu hSj hp a0 a1 b0 b1
    by_cases hks : p < s.size
    · have hk1 : (p : Int) < (s.size : Int) := by omega
      have hd : decide (p < s.size) = true := decide_eq_true hks
      by_cases hdg : dgC s[p] = true
      · have hle := dg_le hdg
        have t1 : decide (48 ≤ (s[p].toNat : Int)) = true := decide_eq_true (by omega)
        have t2 : decide ((s[p].toNat : Int) ≤ 57) = true := decide_eq_true (by omega)
        go_wp2_with fail
        have hj2 := HP.out
        subst hj2
        have hset := atO_set HAJ.out (k + j + 1)
        refine ⟨⟨j + 1, by omega, dgt_more s k j hks HALL.out hdg, hset, HBU.out.trans (but_set _)⟩, ?_⟩
        rw [atOf_is HAJ.out]
        have := atOf_is hset
        have e : ((k + j + 1 : Nat) : Int) = ((k + j : Nat) : Int) + 1 := by omega
        rw [e] at this
        rw [this]
        omega
      · have HX := hide (show (dgs (s.data.toList.drop k)).length = j ∧ s.extract k p = bs (dgs (s.data.toList.drop k)) by
          have hj2 := HP.out
          subst hj2
          exact dgt_stop s k j hj HALL.out (fun c hc => by rw [place_get s _ hks] at hc; injection hc with hc; subst hc; simpa using hdg))
        have hkp : k ≤ p := by have := HP.out; omega
        rcases dgC_not hdg with h1 | ⟨h1, h2⟩
        · have t1 : decide (48 ≤ (s[p].toNat : Int)) = false := decide_eq_false (by omega)
          clear hdg h1
          go_wp2_with fail
          go_ret
          exact ⟨by rw [HX.out.2]; rfl, by rw [HX.out.1, HP.out]; exact HAJ.out, HBU.out⟩
        · have t1 : decide (48 ≤ (s[p].toNat : Int)) = true := decide_eq_true (by omega)
          have t2 : decide ((s[p].toNat : Int) ≤ 57) = false := decide_eq_false (by omega)
          clear hdg h1 h2
          go_wp2_with fail
          go_ret
          exact ⟨by rw [HX.out.2]; rfl, by rw [HX.out.1, HP.out]; exact HAJ.out, HBU.out⟩
    · have hd : decide (p < s.size) = false := decide_eq_false hks
      have HX := hide (show (dgs (s.data.toList.drop k)).length = j ∧ s.extract k p = bs (dgs (s.data.toList.drop k)) by
        have hj2 := HP.out
        subst hj2
        exact dgt_stop s k j hj HALL.out (fun c hc => by rw [List.getElem?_eq_none (by simp; omega)] at hc; cases hc))
      have hkp : k ≤ p := by have := HP.out; omega
      go_wp2_with fail
      go_ret
      exact ⟨by rw [HX.out.2]; rfl, by rw [HX.out.1, HP.out]; exact HAJ.out, HBU.out⟩

end Go.Proofs.YtdlebcijgdkfjaaGreatDoor
