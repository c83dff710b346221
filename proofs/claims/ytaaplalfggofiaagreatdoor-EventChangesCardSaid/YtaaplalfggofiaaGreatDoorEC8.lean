/-
  Several texts in one: RefTxt, RefText. Each says at its head what it holds.
-/
import Derived.Test.YtaaplalfggofiaaGreatDoorEC7

/-
  wavestoreref03.Decimal, strip, Text.
-/
namespace Go.Proofs.YtaaplalfggofiaaGreatDoor
open Go.RowKit

def bs (l : List UInt8) : ByteArray := ⟨l.toArray⟩

/-- the digit of the ones -/
def dgB (n : Nat) : UInt8 := UInt8.ofNat (48 + n % 10)
theorem u8d (n : Nat) : ((dgB n).toNat : Int) = 48 + (n : Int) % 10 := by
  have h : (48 + n % 10) % 256 = 48 + n % 10 := Nat.mod_eq_of_lt (by omega)
  unfold dgB
  rw [UInt8.toNat_ofNat', h]; omega
theorem conv_dig (w : World) (n : Nat) : (convert 186 9 (.slice (some ⟨w.heap.size, 0, none⟩) 1 1)).run Tryz.prog (w.alloc (.cells #[.int .u8 (48 + (n : Int) % 10)] 5)) = .ok (.string (bs [dgB n])) (w.alloc (.cells #[.int .u8 (48 + (n : Int) % 10)] 5)) := by
  have h := conv_one w (dgB n)
  unfold bv at h
  rw [u8d] at h
  exact h
theorem bs_app (a b : List UInt8) : bs a ++ bs b = bs (a ++ b) := by
  apply ByteArray.ext
  simp [bs]
theorem decN_small {n : Nat} (h : n < 10) : decN n = [dgB n] := by rw [decN, if_pos h]; unfold dgB; rw [Nat.mod_eq_of_lt h]
theorem decN_big {n : Nat} (h : ¬n < 10) : decN n = decN (n / 10) ++ [dgB n] := by rw [decN, if_neg h]; rfl

theorem bs_size (l : List UInt8) : (bs l).size = l.length := by simp [bs, ByteArray.size]
theorem decN_lenk (k : Nat) : ∀ n, n < 10 ^ (k + 1) → (decN n).length ≤ k + 1 := by
  induction k with
  | zero => intro n h; rw [decN_small (by omega)]; simp
  | succ k ih =>
    intro n h
    by_cases h10 : n < 10
    · rw [decN_small h10]; simp
    · rw [decN_big h10]
      have := ih (n / 10) (by rw [Nat.pow_succ] at h; omega)
      simp; omega

set_option maxRecDepth 100000 in
theorem rdec_nat (k : Nat) : ∀ (n : Nat) (w : World), n < 10 ^ (k + 1) → k ≤ 8 → Calls Tryz.prog 289 #[.int .i64 (n : Int)] w fun e w' => e = .returned (.string (bs (decN n))) ∧ Below w.heap.size w w' := by
  have kc := conv_dig
  induction k with
  | zero =>
    intro n w hn _
    have h10 : n < 10 := by omega
    have HD := hide (decN_small h10)
    go_enter Tryz.func289, Tryz.ntmps289
    go_wp2_with fail
    go_ret
    exact ⟨by rw [HD.out]; rfl, (Below.refl _ _).alloc (Nat.le_refl _) _⟩
  | succ k ih =>
    intro n w hn hk
    have hn2 : n < 10 ^ 9 * 10 := Nat.lt_of_lt_of_le hn (by rw [Nat.pow_succ]; exact Nat.mul_le_mul_right _ (Nat.pow_le_pow_right (by omega) (by omega)))
    have hn3 : n < 10000000000 := hn2
    by_cases h10 : n < 10
    · have HD := hide (decN_small h10)
      go_enter Tryz.func289, Tryz.ntmps289
      go_wp2_with fail
      go_ret
      exact ⟨by rw [HD.out]; rfl, (Below.refl _ _).alloc (Nat.le_refl _) _⟩
    · have HD := hide (decN_big h10)
      have IH := fun w => ih (n / 10) w (by rw [Nat.pow_succ] at hn; omega) (by omega)
      have hdiv : ((n / 10 : Nat) : Int) = (n : Int) / 10 := by omega
      rw [hdiv] at IH
      have hz1 : (bs (decN (n / 10))).size ≤ k + 1 := by rw [bs_size]; exact decN_lenk k _ (by rw [Nat.pow_succ] at hn; omega)
      have hz2 : (bs [dgB n]).size = 1 := by rw [bs_size]; rfl
      go_enter Tryz.func289, Tryz.ntmps289
      go_wp2_with fail
      refine (IH _).mono ?_
      rintro e w1 ⟨rfl, b1⟩
      go_wp2_with fail
      go_ret
      refine ⟨by rw [HD.out, ← bs_app]; rfl, ?_⟩
      exact bstep ((Below.refl _ _).alloc (Nat.le_refl _) _) b1

set_option maxRecDepth 100000 in
theorem rdec_any (f : Int) (w : World) (h0 : -400 ≤ f) (h1 : f ≤ 400) : Calls Tryz.prog 289 #[.int .i64 f] w fun e w' => e = .returned (.string (bs (decI f))) ∧ Below w.heap.size w w' := by
  by_cases hf : f < 0
  · have HD := hide (show decI f = [45] ++ decN f.natAbs by unfold decI; rw [if_pos hf]; rfl)
    have IH := fun w => rdec_nat 2 f.natAbs w (by omega) (by omega)
    have hdiv : ((f.natAbs : Nat) : Int) = -f := by omega
    rw [hdiv] at IH
    have hz1 : (bs (decN f.natAbs)).size ≤ 3 := by rw [bs_size]; exact decN_lenk 2 _ (by omega)
    have HB := hide (show bs ([45] ++ decN f.natAbs) = bs [45] ++ bs (decN f.natAbs) from (bs_app _ _).symm)
    go_enter Tryz.func289, Tryz.ntmps289
    go_wp2_with fail
    refine (IH _).mono ?_
    rintro e w1 ⟨rfl, b1⟩
    go_wp2_with fail
    go_ret
    exact ⟨by rw [HD.out, HB.out]; rfl, b1⟩
  · have IH := rdec_nat 2 f.natAbs w (by omega) (by omega)
    have hdiv : ((f.natAbs : Nat) : Int) = f := by omega
    rw [hdiv] at IH
    rw [show decI f = decN f.natAbs by unfold decI; rw [if_neg hf]]
    exact IH

/-- a number's parts -/
def pv (neg : Bool) (ds : List UInt8) (f : Int) : Value := .agg #[.bool neg, .string (bs ds), .int .i64 f]
def pcs (neg : Bool) (ds : List UInt8) (f : Int) : Obj := .cells #[.bool neg, .string (bs ds), .int .i64 f] 299 (0, 0)
/-- a number's parts in a box -/
structure PB (w : World) (N : Nat) (neg : Bool) (ds : List UInt8) (f : Int) (W : World) : Prop where
  bel : Below w.heap.size w W
  box : W.heap[N]? = some (pcs neg ds f)
theorem PB.at {w : World} {N : Nat} {neg : Bool} {ds : List UInt8} {f : Int} {W : World} (h : PB w N neg ds f W) :
    W.cell? ⟨N, 0, none⟩ = some (.bool neg) ∧ W.cell? ⟨N, 1, none⟩ = some (.string (bs ds)) ∧ W.cell? ⟨N, 2, none⟩ = some (.int .i64 f) ∧ W.frozen? ⟨N, 0, none⟩ = false ∧ W.frozen? ⟨N, 1, none⟩ = false ∧ W.frozen? ⟨N, 2, none⟩ = false := by
  have hb : W.heap[N]? = some (.cells #[.bool neg, .string (bs ds), .int .i64 f] 299 (0, 0)) := h.box
  exact ⟨by rw [cell_of_row W N _ _ _ (0, 0) hb]; rfl, by rw [cell_of_row W N _ _ _ (0, 0) hb]; rfl, by rw [cell_of_row W N _ _ _ (0, 0) hb]; rfl, by simp [World.frozen?, hb], by simp [World.frozen?, hb], by simp [World.frozen?, hb]⟩
theorem PB.drewN {w : World} {N : Nat} {neg : Bool} {ds : List UInt8} {f : Int} {W : World} (h : PB w N neg ds f W) (q : Nat) : PB w N neg ds f (W.drewN q) := ⟨below_drewN h.bel q, h.box⟩
theorem PB.step {w : World} {N : Nat} {neg : Bool} {ds : List UInt8} {f : Int} {W W' : World} (h : PB w N neg ds f W) (b : Below W.heap.size W W') : PB w N neg ds f W' := ⟨bstep h.bel b, box_below b h.box⟩
theorem PB.set0 {w : World} {N : Nat} {neg : Bool} {ds : List UInt8} {f : Int} {W : World} (h : PB w N neg ds f W) (hN : w.heap.size ≤ N) (b : Bool) : PB w N b ds f (W.setCell ⟨N, 0, none⟩ (.bool b)) :=
  ⟨h.bel.setCell (p := ⟨N, 0, none⟩) hN _, by have hb := h.box; unfold pcs at hb; simp [World.setCell, Array.getElem?_modify, hb, pcs]⟩
theorem PB.set1 {w : World} {N : Nat} {neg : Bool} {ds : List UInt8} {f : Int} {W : World} (h : PB w N neg ds f W) (hN : w.heap.size ≤ N) (ds' : List UInt8) : PB w N neg ds' f (W.setCell ⟨N, 1, none⟩ (.string (bs ds'))) :=
  ⟨h.bel.setCell (p := ⟨N, 1, none⟩) hN _, by have hb := h.box; unfold pcs at hb; simp [World.setCell, Array.getElem?_modify, hb, pcs]⟩
theorem PB.set2 {w : World} {N : Nat} {neg : Bool} {ds : List UInt8} {f : Int} {W : World} (h : PB w N neg ds f W) (hN : w.heap.size ≤ N) (f' : Int) : PB w N neg ds f' (W.setCell ⟨N, 2, none⟩ (.int .i64 f')) :=
  ⟨h.bel.setCell (p := ⟨N, 2, none⟩) hN _, by have hb := h.box; unfold pcs at hb; simp [World.setCell, Array.getElem?_modify, hb, pcs]⟩

theorem ext_tail (c : UInt8) (r : List UInt8) (n : Nat) (h : n = r.length + 1) : (bs (c :: r)).extract 1 n = bs r := by
  subst h
  apply ByteArray.ext
  simp [bs]
theorem ext_init (l : List UInt8) (c : UInt8) (n : Nat) (h : n = l.length) : (bs (l ++ [c])).extract 0 n = bs l := by
  subst h
  apply ByteArray.ext
  simp [bs]
theorem bs_last (l : List UInt8) (c : UInt8) (j : Nat) (hj : l.length + 1 = j) (h : j - 1 < (bs (l ++ [c])).size) : (bs (l ++ [c]))[j - 1]'h = c := by
  subst hj
  show (l ++ [c]).toArray[l.length + 1 - 1]'_ = c
  simp
theorem bs_nonempty (l : List UInt8) (c : UInt8) : (bs (l ++ [c])).toList.isEmpty = false := by
  rw [ByteArray.toList_eq]
  simp [bs]
theorem bs_nil_empty : (bs []).toList.isEmpty = true := by rw [ByteArray.toList_eq]; rfl
theorem drop_stop {l : List UInt8} {k : Nat} (h : (l.take k).all zC = true) (hs : ∀ c, (l.drop k).head? = some c → c ≠ 48) : l.dropWhile zC = l.drop k := by
  have h1 := List.dropWhile_append_of_pos (p := zC) (l₁ := l.take k) (l₂ := l.drop k) (by simpa [List.all_eq_true] using h)
  rw [List.take_append_drop, drop_of_head hs] at h1
  exact h1
theorem rdrop_zeros (z : List UInt8) : ∀ l : List UInt8, z.all zC = true → rdrop (l ++ z) = rdrop l := by
  induction z with
  | nil => intro l _; rw [List.append_nil]
  | cons c z ih =>
    intro l h
    rw [List.all_cons, Bool.and_eq_true] at h
    have hc : c = 48 := by simpa [zC] using h.1
    rw [show l ++ c :: z = (l ++ [c]) ++ z by simp, ih _ h.2, rdrop_snoc, if_pos hc]
theorem rdrop_stop {l : List UInt8} {j : Nat} (h : (l.drop j).all zC = true) (hs : ∀ c, (l.take j).getLast? = some c → c ≠ 48) : rdrop l = l.take j := by
  have h1 := rdrop_zeros (l.drop j) (l.take j) h
  rw [List.take_append_drop, rdrop_of_last hs] at h1
  exact h1
theorem nrm_stop {neg : Bool} {ds : List UInt8} {f : Int} {k j : Nat} (hk : k ≤ ds.length) (h : (ds.take k).all zC = true) (hs : ∀ c, (ds.drop k).head? = some c → c ≠ 48) (h2 : ((ds.drop k).drop j).all zC = true) (hs2 : ∀ c, ((ds.drop k).take j).getLast? = some c → c ≠ 48) :
    nrm neg ds f = if (ds.drop k).take j = [] then dec0 else ⟨neg, (ds.drop k).take j, f - k⟩ := by
  unfold nrm
  rw [drop_stop h hs, rdrop_stop h2 hs2]
  rw [List.length_drop, show ((ds.length : Int) - ((ds.length - k : Nat) : Int)) = (k : Int) by omega]

def strSize (w : World) (N : Nat) : Nat := match w.cell? ⟨N, 1, none⟩ with
  | some (.string s) => s.size
  | _ => 0
def StripA (w : World) (neg : Bool) (ds : List UInt8) (f : Int) (wr : World) : Prop :=
  ∃ k, k ≤ ds.length ∧ (ds.take k).all zC = true ∧ PB w w.heap.size neg (ds.drop k) (f - k) wr ∧ PB w (w.heap.size + 1) false [] 0 wr
def StripB (w : World) (neg : Bool) (D : List UInt8) (f : Int) (wr : World) : Prop :=
  ∃ j, j ≤ D.length ∧ (D.drop j).all zC = true ∧ PB w w.heap.size neg (D.take j) f wr ∧ PB w (w.heap.size + 1) false [] 0 wr

set_option maxRecDepth 100000 in
theorem strip_any (neg : Bool) (ds : List UInt8) (f : Int) (w : World) (hl : ds.length ≤ 2000) (h0 : -1000000 ≤ f) (h1 : f ≤ 1000000) : Calls Tryz.prog 288 #[pv neg ds f] w fun e w' => e = .returned (pv (nrm neg ds f).neg (nrm neg ds f).ds (nrm neg ds f).fst) ∧ Below w.heap.size w w' := by
  unfold pv
  go_enter Tryz.func288, Tryz.ntmps288
  go_wp2_with fail
  obtain ⟨W0, hW0⟩ : ∃ W0 : World, ((w.alloc (.cells #[.bool neg, .string (bs ds), .int .i64 f] 299)).alloc (.cells #[.bool false, .string ⟨#[]⟩, .int .i64 0] 299)) = W0 := ⟨_, rfl⟩
  have p0 : PB w w.heap.size neg ds f W0 := by
    rw [← hW0]
    exact ⟨((Below.refl _ _).alloc (Nat.le_refl _) _).alloc (by simp) _, by rw [heap_alloc_old _ _ (by simp)]; exact heap_alloc_new w _⟩
  have p1 : PB w (w.heap.size + 1) false [] 0 W0 := ⟨p0.bel, by
    rw [← hW0]
    have := heap_alloc_new (w.alloc (.cells #[.bool neg, .string (bs ds), .int .i64 f] 299)) (.cells #[.bool false, .string ⟨#[]⟩, .int .i64 0] 299)
    rw [World.size_alloc] at this
    exact this⟩
  rw [hW0]
  clear hW0
  go_loopw [3] (fun _ wr => StripA w neg ds f wr) (fun _ wr => strSize wr w.heap.size)
  case atStart => exact ⟨0, Nat.zero_le _, rfl, by simpa using p0, p1⟩
  case round =>
    obtain ⟨k, hk, hz, pb, pz⟩ := hrel
    obtain ⟨c0, c1, c2, f0, f1', f2⟩ := pb.at
    have PBH := hide pb
    have PZH := hide pz
    clear pb pz p0 p1
    have HZ := hide hz
    clear hz
    by_cases hst : ∃ r, ds.drop k = 48 :: r
    · obtain ⟨r, hD⟩ := hst
      have hlen : k + 1 + r.length = ds.length := by have := congrArg List.length hD; simp at this; omega
      have hD1 : ds.drop (k + 1) = r := by rw [← List.drop_drop, hD]; rfl
      have hT1 : (ds.take (k + 1)).all zC = true := by
        have hg : ds[k]? = some 48 := by rw [← List.head?_drop, hD]; rfl
        rw [List.take_add_one, hg, List.all_append, HZ.out]; rfl
      have HT := hide hT1
      have HD1 := hide hD1
      have HX := hide (ext_tail 48 r (r.length + 1) rfl)
      clear hT1 hD1
      have HP := hide hD
      rw [hD] at c1
      clear hD
      have hsz : (bs (48 :: r)).size = r.length + 1 := by rw [bs_size]; rfl
      have hx : (bs (48 :: r))[0]'(by rw [hsz]; omega) = 48 := rfl
      go_wp2_with fail
      go_region
      have e1 := HX.out
      have p3 := ((PBH.out.set1 (Nat.le_refl _) r).set2 (Nat.le_refl _) (f - ↑k - 1)).drewN 1
      have z3 : PB w (w.heap.size + 1) false [] 0 (((wr.setCell ⟨w.heap.size, 1, none⟩ (.string (bs r))).setCell ⟨w.heap.size, 2, none⟩ (.int .i64 (f - ↑k - 1))).drewN 1) :=
        ⟨p3.bel, by
          show ((wr.setCell ⟨w.heap.size, 1, none⟩ (.string (bs r))).setCell ⟨w.heap.size, 2, none⟩ (.int .i64 (f - ↑k - 1))).heap[w.heap.size + 1]? = _
          exact box_set (box_set PZH.out.box (by omega)) (by omega)⟩
      have m0 : strSize wr w.heap.size = r.length + 1 := by unfold strSize; rw [c1]; exact hsz
      have m1 : strSize (((wr.setCell ⟨w.heap.size, 1, none⟩ (.string (bs r))).setCell ⟨w.heap.size, 2, none⟩ (.int .i64 (f - ↑k - 1))).drewN 1) w.heap.size = r.length := by
        unfold strSize; rw [p3.at.2.1]; exact bs_size r
      rw [e1]
      go_roundw
      case rel => (iterate 18 apply Exists.intro); refine ⟨?_, rfl⟩; exact ⟨k + 1, by omega, HT.out, by rw [HD1.out, show f - ((k + 1 : Nat) : Int) = f - ↑k - 1 by omega]; exact p3, z3⟩
      case measure => rw [m0]; exact Nat.lt_of_le_of_lt (Nat.le_of_eq m1) (Nat.lt_succ_self _)
    · have hs1 : ∀ c, (ds.drop k).head? = some c → c ≠ 48 := by
        rintro c hc rfl
        cases hD : ds.drop k with
        | nil => rw [hD] at hc; cases hc
        | cons d r => rw [hD] at hc; simp at hc; subst hc; exact hst ⟨r, hD⟩
      have HS1 := hide hs1
      clear hs1
      generalize hDD : ds.drop k = D at *
      have hDl : k + D.length = ds.length := by rw [← hDD]; simp; omega
      have HDD := hide hDD
      clear hDD hst
      obtain ⟨D', HD'⟩ : ∃ D', D' = D := ⟨_, rfl⟩
      have hcase : (D = []) ∨ ∃ c r, D = c :: r ∧ ((c.toNat : Int) == 48) = false := by
        cases D with
        | nil => exact .inl rfl
        | cons c r => exact .inr ⟨c, r, rfl, beq_eq_false_iff_ne.2 (fun e => HS1.out c rfl (UInt8.toNat_inj.1 (by have : (48 : UInt8).toNat = 48 := rfl; omega)))⟩
      rw [← HD'] at HS1 HDD hDl PBH
      rcases hcase with hc | ⟨c, r, hc, t0⟩
      all_goals
        rw [hc] at c1
      case' inl => have hsz : (bs ([] : List UInt8)).size = 0 := rfl
      case' inr =>
        have hsz : (bs (c :: r)).size = r.length + 1 := by rw [bs_size]; rfl
        have hx : (bs (c :: r))[0]'(by rw [hsz]; omega) = c := rfl
      all_goals
        go_wp2_with fail
        clear hc HD' c0 c1 c2 f0 f1' f2
        go_loopw [21] (fun _ wr => StripB w neg D' (f - k) wr) (fun _ wr => strSize wr w.heap.size)
        case atStart => exact ⟨D'.length, Nat.le_refl _, by simp, by rw [List.take_length]; exact PBH.out, PZH.out⟩
        case round =>
          obtain ⟨j, hj, hz2, pb2, pz2⟩ := hrel
          obtain ⟨c0, c1, c2, f0, f1', f2⟩ := pb2.at
          obtain ⟨d0, d1, d2, _, _, _⟩ := pz2.at
          have PB2 := hide pb2
          have PZ2 := hide pz2
          clear pb2 pz2 PBH PZH
          have HZ2 := hide hz2
          clear hz2
          by_cases hst : ∃ E, D'.take j = E ++ [48]
          · obtain ⟨E, hE⟩ := hst
            have hEl : E.length + 1 = j := by have := congrArg List.length hE; simp at this; omega
            have hsz : (bs (E ++ [48])).size = j := by rw [bs_size]; simpa using hEl
            have hx := bs_last E 48 j hEl (by rw [hsz]; omega)
            have HX := hide (ext_init E 48 (j - 1) (by omega))
            have HE := hide hE
            rw [hE] at c1
            clear hE
            go_wp2_with fail
            have e1 := HX.out
            rw [e1]
            have hE1 : D'.take (j - 1) = E := by
              have := congrArg (List.take (j - 1)) HE.out
              rw [List.take_take, Nat.min_eq_left (by omega)] at this
              rw [this, List.take_left' (by omega)]
            have hZ1 : (D'.drop (j - 1)).all zC = true := by
              have hg : D'[j - 1]? = some 48 := by
                have := congrArg (fun l => l[j - 1]?) HE.out
                simp only [List.getElem?_take_of_lt (show j - 1 < j by omega)] at this
                rw [this, List.getElem?_append_right (by omega), show j - 1 - E.length = 0 by omega]; rfl
              obtain ⟨hlt, hg'⟩ := List.getElem?_eq_some_iff.1 hg
              rw [List.drop_eq_getElem_cons hlt, hg', List.all_cons, show j - 1 + 1 = j by omega, HZ2.out]; rfl
            have p3 := PB2.out.set1 (Nat.le_refl _) E
            have z3 : PB w (w.heap.size + 1) false [] 0 (wr.setCell ⟨w.heap.size, 1, none⟩ (.string (bs E))) := ⟨p3.bel, box_set PZ2.out.box (by omega)⟩
            have m0 : strSize wr w.heap.size = E.length + 1 := by unfold strSize; rw [c1]; show (bs (E ++ [48])).size = _; rw [bs_size]; simp
            have m1 : strSize (wr.setCell ⟨w.heap.size, 1, none⟩ (.string (bs E))) w.heap.size = E.length := by
              unfold strSize; rw [p3.at.2.1]; exact bs_size E
            refine ⟨⟨j - 1, by omega, hZ1, by rw [hE1]; exact p3, z3⟩, ?_⟩
            rw [m0, m1]
            exact Nat.lt_succ_self _
          · have hs2 : ∀ c, (D'.take j).getLast? = some c → c ≠ 48 := by
              rintro c hc rfl
              exact hst ((List.getLast?_eq_some_iff.1 hc).imp fun _ h => h)
            have HN := hide (nrm_stop (neg := neg) (f := f) hk HZ.out (by rw [HDD.out]; exact HS1.out) (j := j) (by rw [HDD.out]; exact HZ2.out) (by rw [HDD.out]; exact hs2))
            rw [HDD.out] at HN
            rcases List.eq_nil_or_concat (D'.take j) with hE | ⟨E, c', hE⟩
            · have HN2 := hide (show nrm neg ds f = dec0 by rw [HN.out, if_pos hE])
              rw [hE] at c1
              have hsz : (bs ([] : List UInt8)).size = 0 := rfl
              have he := bs_nil_empty
              go_wp2_with fail
              generalize hW9 : World.setCell _ _ _ = W9
              have p4 : PB w (w.heap.size + 1) false [] 0 W9 := by
                rw [← hW9]
                exact ((PZ2.out.set0 (by omega) false).set1 (by omega) []).set2 (by omega) 0
              obtain ⟨x0, x1, x2, _, _, _⟩ := p4.at
              refine bodyPost_ret (v := .agg #[.bool false, .string (bs []), .int .i64 0]) (by simp [results, Tryz.results288, go_sem, x0, x1, x2]) rfl ⟨by rw [HN2.out]; rfl, p4.bel⟩
            · have hE : D'.take j = E ++ [c'] := by simpa using hE
              have hEl : E.length + 1 = j := by have := congrArg List.length hE; simp at this; omega
              have hsz : (bs (E ++ [c'])).size = j := by rw [bs_size]; simpa using hEl
              have hx := bs_last E c' j hEl (by rw [hsz]; omega)
              have he := bs_nonempty E c'
              have HN2 := hide (show nrm neg ds f = ⟨neg, E ++ [c'], f - k⟩ by rw [HN.out, hE, if_neg (by simp)])
              have t1 : ((c'.toNat : Int) == 48) = false := beq_eq_false_iff_ne.2 (fun e => hs2 c' (by rw [hE]; simp) (UInt8.toNat_inj.1 (by have : (48 : UInt8).toNat = 48 := rfl; omega)))
              have HE := hide hE
              rw [hE] at c1
              clear hE hs2
              go_wp2_with fail
              generalize hW9 : World.setCell _ _ _ = W9
              have p4 : PB w (w.heap.size + 1) neg (E ++ [c']) (f - k) W9 := by
                rw [← hW9]
                exact ((PZ2.out.set0 (by omega) neg).set1 (by omega) (E ++ [c'])).set2 (by omega) (f - k)
              obtain ⟨x0, x1, x2, _, _, _⟩ := p4.at
              refine bodyPost_ret (v := .agg #[.bool neg, .string (bs (E ++ [c'])), .int .i64 (f - k)]) (by simp [results, Tryz.results288, go_sem, x0, x1, x2]) rfl ⟨by rw [HN2.out], p4.bel⟩

end Go.Proofs.YtaaplalfggofiaaGreatDoor

/-
  wavestoreref03.Text.
-/
namespace Go.Proofs.YtaaplalfggofiaaGreatDoor
open Go.RowKit

def TextP (d : Dec) (v : Value) : Prop := if fitB d = true then v = .tuple #[.string (bs (txt d)), .int .i64 0] else ∃ e : Int, e ≠ 0 ∧ v = .tuple #[.string (bs []), .int .i64 e]

set_option maxRecDepth 100000 in
theorem text_of (neg : Bool) (ds : List UInt8) (f : Int) (dn : Bool) (dd : List UInt8) (df : Int) (hn : nrm neg ds f = ⟨dn, dd, df⟩) (w : World) (hl : ds.length ≤ 200) (h0 : -1000000 ≤ f) (h1 : f ≤ 1000000) (hdl : dd.length ≤ 200) : Calls Tryz.prog 227 #[pv neg ds f] w fun e w' => (∃ v, e = .returned v ∧ TextP ⟨dn, dd, df⟩ v) ∧ Below w.heap.size w w' := by
  unfold pv
  go_enter Tryz.func227, Tryz.ntmps227
  go_wp2_with fail
  have p0 : PB w w.heap.size neg ds f (w.alloc (pcs neg ds f)) := ⟨(Below.refl _ _).alloc (Nat.le_refl _) _, heap_alloc_new w _⟩
  refine (strip_any neg ds f _ (by omega) h0 h1).mono ?_
  rw [hn]
  rintro e w1 ⟨rfl, b1⟩
  have p1 := p0.step b1
  clear p0 b1 hn
  unfold pv
  obtain ⟨c0, c1, c2, f0, f1', f2⟩ := p1.at
  have P1 := hide ((((p1.set0 (Nat.le_refl _) dn).set1 (Nat.le_refl _) dd).set2 (Nat.le_refl _) df).bel)
  clear p1
  cases dd with
  | nil =>
    have hsz : (bs ([] : List UInt8)).size = 0 := rfl
    have he := bs_nil_empty
    go_wp2_with fail
    go_ret2
    exact ⟨⟨_, rfl, rfl⟩, P1.out⟩
  | cons c cs =>
    have hsz : (bs (c :: cs)).size = cs.length + 1 := by rw [bs_size]; rfl
    have he : (bs (c :: cs)).toList.isEmpty = false := by rw [ByteArray.toList_eq]; simp [bs]
    by_cases hF : fitB ⟨dn, c :: cs, df⟩ = true
    · have hF' := hF
      unfold fitB at hF'
      have hf3 : cs.length + 1 ≤ 17 ∧ -400 ≤ df ∧ df ≤ 400 := by simpa [and_assoc] using hF'
      obtain ⟨g1, g2, g3⟩ := hf3
      have HF := hide hF
      clear hF hF'
      have IH := fun w => rdec_any df w g2 g3
      have hz4 : (bs (decI df)).size ≤ 4 := by rw [bs_size]; exact decI_len df g2 g3
      cases cs with
      | nil =>
        cases dn
        all_goals
          go_wp2_with fail
          refine (IH _).mono ?_
          rintro e w2 ⟨rfl, b2⟩
          go_wp2_with fail
          go_ret2
          exact ⟨⟨_, rfl, by unfold TextP; rw [if_pos HF.out]; exact congrArg (fun s => Value.tuple #[.string s, .int .i64 0]) (by apply ByteArray.ext; simp [bs, txt])⟩, bstep P1.out b2⟩
      | cons c2 cs =>
        have g4 : cs.length + 1 + 1 ≤ 17 := g1
        have hsz2 : (bs (c :: c2 :: cs)).size = cs.length + 1 + 1 := hsz
        clear hsz
        cases dn
        all_goals
          go_wp2_with fail
          refine (IH _).mono ?_
          rintro e w2 ⟨rfl, b2⟩
          go_wp2_with fail
          go_ret2
          exact ⟨⟨_, rfl, by unfold TextP; rw [if_pos HF.out]; exact congrArg (fun s => Value.tuple #[.string s, .int .i64 0]) (by apply ByteArray.ext; simp [bs, txt])⟩, bstep P1.out b2⟩
    · have HF := hide hF
      have hf3 : ¬ (cs.length + 1 ≤ 17) ∨ df < -400 ∨ 400 < df := by
        apply Classical.byContradiction
        intro h
        apply hF
        unfold fitB
        simp
        omega
      clear hF
      rcases hf3 with g | g | g
      · go_wp2_with fail
        go_ret2
        exact ⟨⟨_, rfl, by unfold TextP; rw [if_neg HF.out]; exact ⟨_, by decide, rfl⟩⟩, P1.out⟩
      · by_cases g' : cs.length + 1 ≤ 17
        · go_wp2_with fail
          go_ret2
          exact ⟨⟨_, rfl, by unfold TextP; rw [if_neg HF.out]; exact ⟨_, by decide, rfl⟩⟩, P1.out⟩
        · go_wp2_with fail
          go_ret2
          exact ⟨⟨_, rfl, by unfold TextP; rw [if_neg HF.out]; exact ⟨_, by decide, rfl⟩⟩, P1.out⟩
      · by_cases g' : cs.length + 1 ≤ 17
        · go_wp2_with fail
          go_ret2
          exact ⟨⟨_, rfl, by unfold TextP; rw [if_neg HF.out]; exact ⟨_, by decide, rfl⟩⟩, P1.out⟩
        · go_wp2_with fail
          go_ret2
          exact ⟨⟨_, rfl, by unfold TextP; rw [if_neg HF.out]; exact ⟨_, by decide, rfl⟩⟩, P1.out⟩

end Go.Proofs.YtaaplalfggofiaaGreatDoor
