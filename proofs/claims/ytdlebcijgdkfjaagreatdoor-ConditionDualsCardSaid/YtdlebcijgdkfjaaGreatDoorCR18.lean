/-
  Several texts in one: RefSumD, RefCmpD, Rel51, DecM, DecN. Each says at its head what it holds.
-/
import Derived.Test.YtdlebcijgdkfjaaGreatDoorCR16
import Derived.Test.YtdlebcijgdkfjaaGreatDoorCR6
import Derived.Test.YtdlebcijgdkfjaaGreatDoorCR17
import Derived.Test.YtdlebcijgdkfjaaGreatDoorShelf

/-
  wavestoreref03.sum at numbers in their form.
-/
namespace Go.Proofs.YtdlebcijgdkfjaaGreatDoor
open Go.RowKit

/-- the three boxes of sum -/
structure SB (w : World) (a b : Dec) (W : World) : Prop where
  a : PB w w.heap.size a.neg a.ds a.fst W
  b : PB w (w.heap.size + 1) b.neg b.ds b.fst W
  z : PB w (w.heap.size + 1 + 1) false [] 0 W
theorem SB.step {w : World} {a b : Dec} {W W' : World} (h : SB w a b W) (k : Below W.heap.size W W') : SB w a b W' := ⟨h.a.step k, h.b.step k, h.z.step k⟩
theorem SB.drewN {w : World} {a b : Dec} {W : World} (h : SB w a b W) (q : Nat) : SB w a b (W.drewN q) := ⟨h.a.drewN q, h.b.drewN q, h.z.drewN q⟩
theorem SB.all {w : World} {a b : Dec} {W : World} (h : SB w a b W) : W.cell? ⟨w.heap.size, 0, none⟩ = some (.bool a.neg) ∧ W.cell? ⟨w.heap.size, 1, none⟩ = some (.string (bs a.ds)) ∧ W.cell? ⟨w.heap.size, 2, none⟩ = some (.int .i64 a.fst) ∧
    W.cell? ⟨w.heap.size + 1, 0, none⟩ = some (.bool b.neg) ∧ W.cell? ⟨w.heap.size + 1, 1, none⟩ = some (.string (bs b.ds)) ∧ W.cell? ⟨w.heap.size + 1, 2, none⟩ = some (.int .i64 b.fst) :=
  ⟨h.a.at.1, h.a.at.2.1, h.a.at.2.2.1, h.b.at.1, h.b.at.2.1, h.b.at.2.2.1⟩
theorem SB.start {w W : World} {a b : Dec} (h : ((w.alloc (pcs a.neg a.ds a.fst)).alloc (pcs b.neg b.ds b.fst)).alloc (pcs false [] 0) = W) : SB w a b W := by
  subst h
  have b0 : Below w.heap.size w (((w.alloc (pcs a.neg a.ds a.fst)).alloc (pcs b.neg b.ds b.fst)).alloc (pcs false [] 0)) := (((Below.refl _ _).alloc (Nat.le_refl _) _).alloc (by simp) _).alloc (by simp; omega) _
  refine ⟨⟨b0, ?_⟩, ⟨b0, ?_⟩, ⟨b0, ?_⟩⟩
  · exact box_alloc (box_alloc (heap_alloc_new w _))
  · have := heap_alloc_new (w.alloc (pcs a.neg a.ds a.fst)) (pcs b.neg b.ds b.fst)
    rw [World.size_alloc] at this
    exact box_alloc this
  · have := heap_alloc_new ((w.alloc (pcs a.neg a.ds a.fst)).alloc (pcs b.neg b.ds b.fst)) (pcs false [] 0)
    rw [World.size_alloc, World.size_alloc] at this
    exact this

end Go.Proofs.YtdlebcijgdkfjaaGreatDoor

/-
  wavestoreref03.Parse, Valid, parts, sum, Compare.
-/
namespace Go.Proofs.YtdlebcijgdkfjaaGreatDoor
open Go.RowKit

/-- what Parse says of a text -/
def ParseP (l : List UInt8) (v : Value) : Prop := match readR l with
  | some r => TextP (decOf 100000 r) v
  | none => ∃ e : Int, e ≠ 0 ∧ v = .tuple #[.string (bs []), .int .i64 e]
theorem sgn1_len (l : List UInt8) : (sgn1 l).2.length ≤ l.length := by
  cases l with
  | nil => exact Nat.le_refl _
  | cons c r =>
    rw [sgn1_cons]
    split
    · simp
    · split <;> simp
theorem dgs_len (l : List UInt8) : (dgs l).length ≤ l.length := (List.takeWhile_prefix _).length_le
theorem rst_len (l : List UInt8) : (rst l).length ≤ l.length := (List.dropWhile_suffix _).length_le
theorem fracR_len {l fs l3 : List UInt8} (h : fracR l = some (fs, l3)) : fs.length ≤ l.length := by
  cases l with
  | nil => injection h with h; injection h with h1 h2; subst h1; exact Nat.le_refl _
  | cons c r =>
    rw [fracR_cons] at h
    split at h
    · split at h
      · cases h
      · injection h with h; injection h with h1 h2; subst h1
        have := dgs_len r
        simp; omega
    · injection h with h; injection h with h1 h2; subst h1; exact Nat.zero_le _
theorem readR_len {l : List UInt8} {r : Raw} (h : readR l = some r) : r.whole.length ≤ 64 ∧ r.frac.length ≤ 64 := by
  unfold readR at h
  split at h
  · cases h
  · rename_i hl
    split at h
    · cases h
    · split at h
      · cases h
      · rename_i fs l3 hf
        split at h
        · cases h
        · split at h
          · injection h with h
            subst h
            have h1 := dgs_len (sgn1 l).2
            have h2 := sgn1_len l
            have h3 := fracR_len hf
            have h4 := rst_len (sgn1 l).2
            exact ⟨by dsimp only; omega, by dsimp only; omega⟩
          · cases h
theorem nrm_len (neg : Bool) (ds : List UInt8) (f : Int) : (nrm neg ds f).ds.length ≤ ds.length := by
  unfold nrm
  split
  · exact Nat.zero_le _
  · have h1 := (rdrop_prefix (ds.dropWhile zC)).length_le
    have h2 : (ds.dropWhile zC).length ≤ ds.length := (List.dropWhile_suffix _).length_le
    dsimp only
    omega
theorem expV_le (r : Raw) : -100000 ≤ expV 100000 r ∧ expV 100000 r ≤ 100000 := by
  have := clampE_le 100000 r.expo
  unfold expV
  split <;> omega

set_option maxRecDepth 100000 in
theorem rparse_any (s : ByteArray) (w : World) (hs : s.size ≤ 1000) : Calls Tryz.prog 139 #[.string s] w fun e w' => (∃ v, e = .returned v ∧ ParseP s.data.toList v) ∧ Below w.heap.size w w' := by
  go_enter Tryz.func139, Tryz.ntmps139
  go_wp2_with fail
  refine (rread_any s _ hs).mono ?_
  rintro e w1 ⟨⟨v, rfl, hv⟩, b1⟩
  have HB := hide b1
  clear b1
  cases hr : readR s.data.toList with
  | none =>
    have HP := hide (show ∀ v, ParseP s.data.toList v ↔ ∃ e : Int, e ≠ 0 ∧ v = .tuple #[.string (bs []), .int .i64 e] from fun v => by unfold ParseP; rw [hr])
    unfold ReadP at hv
    rw [hr] at hv
    clear hr
    obtain ⟨pb, pd, pf, rfl⟩ := hv
    unfold pv
    go_wp2_with fail
    go_ret2
    exact ⟨⟨_, rfl, (HP.out _).2 ⟨_, by decide, rfl⟩⟩, HB.out.alloc HB.out.size _⟩
  | some r =>
    have HP := hide (show ∀ v, ParseP s.data.toList v ↔ TextP (decOf 100000 r) v from fun v => by unfold ParseP; rw [hr])
    have hlen := readR_len hr
    have hex := expV_le r
    unfold ReadP at hv
    rw [hr] at hv
    clear hr
    obtain rfl := hv
    have hT := fun w => text_of r.neg (r.whole ++ r.frac) ((r.whole.length : Int) - 1 + expV 100000 r) (decOf 100000 r).neg (decOf 100000 r).ds (decOf 100000 r).fst rfl w (by rw [List.length_append]; omega) (by omega) (by omega) (by have := nrm_len r.neg (r.whole ++ r.frac) ((r.whole.length : Int) - 1 + expV 100000 r); rw [List.length_append] at this; show (nrm _ _ _).ds.length ≤ 200; omega)
    have HT := hide hT
    clear hT hlen hex
    unfold pv
    unfold pv at HT
    go_wp2_with fail
    refine (HT.out _).mono ?_
    rintro e w2 ⟨⟨v, rfl, hv⟩, b2⟩
    have HB2 := hide (bstep (HB.out.alloc HB.out.size _) b2)
    clear b2
    have HV := hide hv
    unfold TextP at hv
    split at hv
    · subst hv
      go_wp2_with fail
      go_ret2
      exact ⟨⟨_, rfl, (HP.out _).2 HV.out⟩, HB2.out⟩
    · obtain ⟨e, he, rfl⟩ := hv
      clear he
      go_wp2_with fail
      go_ret2
      exact ⟨⟨_, rfl, (HP.out _).2 HV.out⟩, HB2.out⟩

def rvalB (s : ByteArray) : Bool := (canonC 100000 s.data.toList).isSome
set_option maxRecDepth 100000 in
theorem rvalid_any (s : ByteArray) (w : World) (hs : s.size ≤ 1000) : Calls Tryz.prog 87 #[.string s] w fun e w' => e = .returned (.bool (rvalB s)) ∧ Below w.heap.size w w' := by
  go_enter Tryz.func87, Tryz.ntmps87
  go_wp2_with fail
  refine (rparse_any s _ hs).mono ?_
  rintro e w1 ⟨⟨v, rfl, hv⟩, b1⟩
  have HB := hide b1
  clear b1
  cases hr : readR s.data.toList with
  | none =>
    have HV := hide (show rvalB s = false by unfold rvalB canonC; rw [hr]; rfl)
    unfold ParseP at hv
    rw [hr] at hv
    clear hr
    obtain ⟨e, he, rfl⟩ := hv
    have t1 : (e == 0) = false := beq_eq_false_iff_ne.2 he
    clear he
    go_wp2_with fail
    go_ret
    exact ⟨by rw [HV.out]; rfl, HB.out⟩
  | some r =>
    have HV := hide (show rvalB s = (if fitB (decOf 100000 r) = true ∧ txt (decOf 100000 r) = s.data.toList then true else false) by unfold rvalB canonC; rw [hr]; simp only []; split <;> rfl)
    unfold ParseP at hv
    rw [hr] at hv
    clear hr
    replace hv : TextP (decOf 100000 r) v := hv
    unfold TextP at hv
    split at hv
    · rename_i hf
      subst hv
      by_cases ht : txt (decOf 100000 r) = s.data.toList
      · have t2 : ((bs (txt (decOf 100000 r))).toList == s.toList) = true := by
          rw [ByteArray.toList_eq, ByteArray.toList_eq]; exact beq_iff_eq.2 ht
        rw [if_pos ⟨hf, ht⟩] at HV
        clear ht hf
        go_wp2_with fail
        go_ret
        exact ⟨by rw [HV.out]; rfl, HB.out⟩
      · have t2 : ((bs (txt (decOf 100000 r))).toList == s.toList) = false := by
          rw [ByteArray.toList_eq, ByteArray.toList_eq]; exact beq_eq_false_iff_ne.2 ht
        rw [if_neg (fun h => ht h.2)] at HV
        clear ht hf
        go_wp2_with fail
        go_ret
        exact ⟨by rw [HV.out]; rfl, HB.out⟩
    · rename_i hf
      obtain ⟨e, he, rfl⟩ := hv
      have t1 : (e == 0) = false := beq_eq_false_iff_ne.2 he
      rw [if_neg (fun h => hf h.1)] at HV
      clear he hf
      go_wp2_with fail
      go_ret
      exact ⟨by rw [HV.out]; rfl, HB.out⟩

end Go.Proofs.YtdlebcijgdkfjaaGreatDoor

/-
  condition.relation, wavestoreref51.relation and order.
-/
namespace Go.Proofs.YtdlebcijgdkfjaaGreatDoor
open Go.RowKit

/-- whether a relation holds for the result of a comparison -/
def relC (op c : Int) : Bool := if op = 23 then decide (c < 0) else if op = 24 then decide (c ≤ 0) else if op = 25 then decide (0 < c) else decide (0 ≤ c)
theorem rel_rest {op : Int} (h1 : op ≠ 23) (h2 : op ≠ 24) (h3 : op ≠ 25) (c : Int) : relC op c = decide (0 ≤ c) := by unfold relC; rw [if_neg h1, if_neg h2, if_neg h3]
set_option maxRecDepth 100000 in
theorem crel_any (op c : Int) (w : World) : Calls Tryz.prog 36 #[.int .i64 op, .int .i64 c] w fun e w' => e = .returned (.bool (relC op c)) ∧ w = w' := by
  by_cases h1 : op = 23
  · subst h1
    go_enter Tryz.func36, Tryz.ntmps36
    go_wp2_with fail
    go_ret
    exact ⟨rfl, rfl⟩
  · by_cases h2 : op = 24
    · subst h2
      clear h1
      go_enter Tryz.func36, Tryz.ntmps36
      go_wp2_with fail
      go_ret
      exact ⟨rfl, rfl⟩
    · by_cases h3 : op = 25
      · subst h3
        clear h1 h2
        go_enter Tryz.func36, Tryz.ntmps36
        go_wp2_with fail
        go_ret
        exact ⟨rfl, rfl⟩
      · have t1 : (op == 23) = false := beq_eq_false_iff_ne.2 h1
        have t2 : (op == 24) = false := beq_eq_false_iff_ne.2 h2
        have t3 : (op == 25) = false := beq_eq_false_iff_ne.2 h3
        have HR := hide (rel_rest h1 h2 h3 c)
        clear h1 h2 h3
        go_enter Tryz.func36, Tryz.ntmps36
        go_wp2_with fail
        go_ret
        exact ⟨by rw [HR.out]; rfl, rfl⟩
end Go.Proofs.YtdlebcijgdkfjaaGreatDoor

/-
  Numbers of package decimal in memory; number.trim.
-/
namespace Go.Proofs.YtdlebcijgdkfjaaGreatDoor
open Go.RowKit

theorem BytesAt.below {w w' : World} {A : Option Addr} {l : List UInt8} (h : BytesAt w A l) (hb : Below w.heap.size w w') : BytesAt w' A l := fun i c hi => by
  obtain ⟨b, off, e, hc⟩ := h i c hi
  exact ⟨b, off, e, cell_later hb hc⟩
theorem BytesAt.take {w : World} {A : Option Addr} {l : List UInt8} (h : BytesAt w A l) (k : Nat) : BytesAt w A (l.take k) := fun i c hi => h i c (by
  rw [List.getElem?_take] at hi
  split at hi
  · exact hi
  · cases hi)
theorem BytesAt.lib {w : World} {A : Option Addr} {l : List UInt8} (h : BytesAt w A l) : Lib.BytesAt w A l.length l := fun h0 => by
  obtain ⟨b, off, e, _⟩ := h 0 l[0] (List.getElem?_eq_getElem h0)
  refine ⟨b, off, e, fun i hi => ?_⟩
  obtain ⟨b', off', e', hc⟩ := h i l[i] (List.getElem?_eq_getElem hi)
  rw [e] at e'
  injection e' with e'
  injection e' with e1 e2
  subst e1 e2
  rw [hc, Lib.getD_lt_sl _ _ _ hi]

/-- a number as the program holds it -/
def nv (neg : Bool) (A : Option Addr) (n c : Nat) (e : Int) : Value := .agg #[.bool neg, .slice A n c, .int .i64 e]
def expD (d : Dec) : Int := if d.ds = [] then 0 else d.fst - d.ds.length + 1
/-- a number in memory -/
def NumIs (w : World) (v : Value) (d : Dec) : Prop := ∃ A c, v = nv d.neg A d.ds.length c (expD d) ∧ BytesAt w A d.ds ∧ d.ds.length ≤ c ∧ c ≤ 9223372036854775807
theorem NumIs.below {w w' : World} {v : Value} {d : Dec} (h : NumIs w v d) (hb : Below w.heap.size w w') : NumIs w' v d := by
  obtain ⟨A, c, h1, h2, h3, h4⟩ := h
  exact ⟨A, c, h1, h2.below hb, h3, h4⟩

theorem zC_one (l : List UInt8) : Lib.trimLeftS l [48] = l.dropWhile zC := by
  unfold Lib.trimLeftS
  congr 1
  funext c
  simp only [List.contains, List.elem, zC]
  cases (c == 48) <;> rfl
theorem zC_oneR (l : List UInt8) : Lib.trimRightS l [48] = rdrop l := by
  unfold Lib.trimRightS rdrop
  congr 2
  funext c
  simp only [List.contains, List.elem, zC]
  cases (c == 48) <;> rfl

theorem trimL_any (A : Option Addr) (c : Nat) (ds : List UInt8) (w : World) (hne : ds ≠ []) (hc : ds.length ≤ c) (hcb : c ≤ 9223372036854775807) (hb : BytesAt w A ds) :
    Calls Tryz.prog 220 #[.slice A ds.length c, .string ⟨#[48]⟩] w fun e w' => (∃ A' c', e = .returned (.slice A' (ds.dropWhile zC).length c') ∧ (∀ W, BytesAt W A ds → BytesAt W A' (ds.dropWhile zC)) ∧ (ds.dropWhile zC).length ≤ c' ∧ c' ≤ 9223372036854775807) ∧ w = w' := by
  have h0 : 0 < ds.length := List.length_pos_iff.2 hne
  have h := Any.bytes_TrimLeft_one Tryz.laysSl8 A ds.length c ds 48 w rfl hc (by omega) hb.lib h0 (by decide)
  refine (show Calls Tryz.prog 220 #[.slice A ds.length c, .string ⟨#[48]⟩] w _ from h).mono ?_
  rintro e w' ⟨rfl, rfl⟩
  refine ⟨?_, rfl⟩
  rw [zC_one]
  obtain ⟨t, ht⟩ : ∃ t, t ++ ds.dropWhile zC = ds := List.dropWhile_suffix zC
  obtain ⟨l, hl⟩ : ∃ l, ds.dropWhile zC = l := ⟨_, rfl⟩
  rw [hl] at ht ⊢
  have hlen : t.length + l.length = ds.length := by rw [← ht, List.length_append]
  unfold Lib.leftV
  by_cases hj : ds.length - l.length = ds.length
  · have hz : l = [] := List.eq_nil_of_length_eq_zero (by omega)
    subst hz
    rw [if_pos hj]
    exact ⟨none, 0, rfl, fun W _ i c hi => by simp at hi, Nat.le_refl _, by omega⟩
  · rw [if_neg hj]
    obtain ⟨b, off, rfl, _⟩ := hb 0 ds[0] (List.getElem?_eq_getElem h0)
    unfold Lib.fromV
    rw [if_neg (by omega), show ds.length - l.length = t.length by omega]
    refine ⟨some ⟨b, off + t.length, none⟩, c - t.length, ?_, fun W hW i x hi => ?_, by omega, by omega⟩
    · rw [Option.map_some, addr_add, show ds.length - t.length = l.length by omega]
    · obtain ⟨b', off', e', hc'⟩ := hW (t.length + i) x (by rw [← ht, List.getElem?_append_right (by omega)]; rw [Nat.add_sub_cancel_left]; exact hi)
      injection e' with e'
      injection e' with e1 e2
      subst e1 e2
      exact ⟨b, off + t.length, rfl, by rw [Nat.add_assoc]; exact hc'⟩
theorem trimR_any (A : Option Addr) (c : Nat) (l : List UInt8) (w : World) (hne : l ≠ []) (hc : l.length ≤ c) (hcb : c ≤ 9223372036854775807) (hb : BytesAt w A l) :
    Calls Tryz.prog 221 #[.slice A l.length c, .string ⟨#[48]⟩] w fun e w' => e = .returned (.slice A (rdrop l).length c) ∧ w = w' := by
  have h0 : 0 < l.length := List.length_pos_iff.2 hne
  have h := Any.bytes_TrimRight_one Tryz.laysSl7 A l.length c l 48 w rfl hc (by omega) hb.lib h0 (by decide)
  refine (show Calls Tryz.prog 221 #[.slice A l.length c, .string ⟨#[48]⟩] w _ from h).mono ?_
  rintro e w' ⟨rfl, rfl⟩
  exact ⟨by rw [zC_oneR], rfl⟩
theorem trimR_none (A : Option Addr) (c : Nat) (w : World) :
    Calls Tryz.prog 221 #[.slice A 0 c, .string ⟨#[48]⟩] w fun e w' => e = .returned (.slice A 0 c) ∧ w = w' := by
  have h := Any.bytes_TrimRight_empty Tryz.laysSl7 A 0 c ⟨#[48]⟩ w (.inl rfl)
  refine (show Calls Tryz.prog 221 #[.slice A 0 c, .string ⟨#[48]⟩] w _ from h).mono ?_
  rintro e w' ⟨rfl, rfl⟩
  exact ⟨rfl, rfl⟩

theorem dw_nil : ∀ (l : List UInt8), l.dropWhile zC = [] → ∀ x ∈ l, zC x = true
  | [], _, x, hx => by cases hx
  | c :: l, h, x, hx => by
    rw [List.dropWhile_cons] at h
    split at h
    · rename_i hc
      rcases List.mem_cons.1 hx with rfl | hx
      · exact hc
      · exact dw_nil l h x hx
    · cases h
theorem rdrop_ne {l : List UInt8} (hne : l ≠ []) (hh : ∀ c, l.head? = some c → c ≠ 48) : rdrop l ≠ [] := by
  intro h
  unfold rdrop at h
  rw [List.reverse_eq_nil_iff] at h
  obtain ⟨c, r, rfl⟩ := List.exists_cons_of_ne_nil hne
  exact hh c rfl (by simpa [zC] using dw_nil _ h c (by simp))

set_option maxRecDepth 100000 in
theorem trim_num (neg : Bool) (A : Option Addr) (c : Nat) (ds : List UInt8) (e : Int) (w : World) (hne : ds ≠ []) (hl : ds.length ≤ 1000) (hc : ds.length ≤ c) (hcb : c ≤ 9223372036854775807) (hb : BytesAt w A ds) (he0 : -2000000 ≤ e) (he1 : e ≤ 2000000) :
    Calls Tryz.prog 193 #[nv neg A ds.length c e] w fun r w' => (∃ v, r = .returned v ∧ NumIs w' v (nrm neg ds (e + ds.length - 1))) ∧ Below w.heap.size w w' := by
  unfold nv
  have hcl := fun W : World => fun h : BytesAt W A ds => trimL_any A c ds W hne hc hcb h
  have hB := fun W : World => fun h : Below w.heap.size w W => hb.below h
  have hle : (ds.dropWhile zC).length ≤ ds.length := (List.dropWhile_suffix zC).length_le
  have hNZ : ∀ x, (ds.dropWhile zC).head? = some x → x ≠ 48 := drop_head ds
  have HN := hide (show nrm neg ds (e + ds.length - 1) = if rdrop (ds.dropWhile zC) = [] then dec0 else ⟨neg, rdrop (ds.dropWhile zC), e + ds.length - 1 - ((ds.length : Int) - (ds.dropWhile zC).length)⟩ from rfl)
  obtain ⟨l, hL⟩ : ∃ l, ds.dropWhile zC = l := ⟨_, rfl⟩
  rw [hL] at hcl hle hNZ HN
  have HCL := hide hcl
  have HB := hide hB
  have HNZ := hide hNZ
  clear hL hcl hB hNZ hb hne
  go_enter Tryz.func193, Tryz.ntmps193
  go_wp2_with fail
  refine (HCL.out _ (HB.out _ (((Below.refl _ _).alloc (Nat.le_refl _) _).alloc (by simp) _))).mono ?_
  rintro r w1 ⟨⟨A1, c1, rfl, hb1, hlc, hcc⟩, rfl⟩
  have HB1 := hide hb1
  clear hb1
  by_cases hz : l = []
  · subst hz
    have HN0 := hide (show nrm neg ds (e + ds.length - 1) = dec0 from HN.out)
    go_wp2_with fail
    refine (trimR_none A1 c1 _).mono ?_
    rintro r w2 ⟨rfl, rfl⟩
    go_wp2_with fail
    refine bodyPost_ret (v := .agg #[.bool false, .slice none 0 0, .int .i64 0]) (by simp [results, Tryz.results193, go_sem]) rfl ⟨⟨_, rfl, ?_⟩, ?_⟩
    · rw [HN0.out]
      exact ⟨none, 0, rfl, fun i c hi => by simp [dec0] at hi, Nat.le_refl _, by omega⟩
    · exact ((Below.refl _ _).alloc (Nat.le_refl _) _).alloc (by simp) _
  · have hkl : (rdrop l).length ≤ l.length := (rdrop_prefix l).length_le
    have hk0 : 0 < (rdrop l).length := List.length_pos_iff.2 (rdrop_ne hz HNZ.out)
    have HN0 := hide (show nrm neg ds (e + ds.length - 1) = ⟨neg, rdrop l, e + ds.length - 1 - ((ds.length : Int) - l.length)⟩ by rw [HN.out, if_neg (rdrop_ne hz HNZ.out)])
    have HR := hide (fun W : World => fun h : BytesAt W A1 l => trimR_any A1 c1 l W hz hlc hcc h)
    have HP : Hid (rdrop l <+: l) := hide (rdrop_prefix l)
    have t0 : (((rdrop l).length : Int) == 0) = false := beq_eq_false_iff_ne.2 (by omega)
    clear hz
    generalize hk : rdrop l = K at *
    have HK := hide hk
    clear hk
    go_wp2_with fail
    refine (HR.out _ (HB1.out _ (HB.out _ ?_))).mono ?_
    · exact ((Below.refl _ _).alloc (Nat.le_refl _) _).alloc (by simp) _
    rintro r w2 ⟨rfl, rfl⟩
    go_wp2_with fail
    refine bodyPost_ret (v := .agg #[.bool neg, .slice A1 K.length K.length, .int .i64 (e + (l.length - K.length))]) (by simp [results, Tryz.results193, go_sem]) rfl ⟨⟨_, rfl, ?_⟩, ?_⟩
    · rw [HN0.out]
      refine ⟨A1, K.length, ?_, ?_, Nat.le_refl _, by omega⟩
      · unfold nv expD
        rw [if_neg (fun h => by rw [show K = [] from h] at hk0; simp at hk0)]
        have : e + (↑l.length - ↑K.length) = e + ↑ds.length - 1 - (↑ds.length - ↑l.length) - ↑K.length + 1 := by omega
        rw [this]
      · have key : ∀ W, Below w.heap.size w W → BytesAt W A1 K := by
          intro W h
          have h2 := (HB1.out W (HB.out W h)).take K.length
          obtain ⟨t, ht⟩ := HP.out
          rw [← ht, List.take_left] at h2
          exact h2
        exact key _ (((Below.refl _ _).alloc (Nat.le_refl _) _).alloc (by simp) _)
    · exact ((Below.refl _ _).alloc (Nat.le_refl _) _).alloc (by simp) _

end Go.Proofs.YtdlebcijgdkfjaaGreatDoor

/-
  decimal.number.first, sign; magnitude, compare.
-/
namespace Go.Proofs.YtdlebcijgdkfjaaGreatDoor
open Go.RowKit

set_option maxRecDepth 100000 in
theorem cfirst_any (neg : Bool) (A : Option Addr) (n c : Nat) (e : Int) (w : World) (hn : n ≤ 1000) (h0 : -3000000 ≤ e) (h1 : e ≤ 3000000) : Calls Tryz.prog 194 #[nv neg A n c e] w fun r w' => r = .returned (.int .i64 (e + n - 1)) ∧ Below w.heap.size w w' := by
  unfold nv
  go_enter Tryz.func194, Tryz.ntmps194
  go_wp2_with fail
  go_ret
  exact ⟨rfl, (Below.refl _ _).alloc (Nat.le_refl _) _⟩

def sgnB (neg : Bool) (n : Nat) : Int := if n = 0 then 0 else if neg then -1 else 1
set_option maxRecDepth 100000 in
theorem csign_any (neg : Bool) (A : Option Addr) (n c : Nat) (e : Int) (w : World) (hn : n ≤ 1000) : Calls Tryz.prog 136 #[nv neg A n c e] w fun r w' => r = .returned (.int .i64 (sgnB neg n)) ∧ Below w.heap.size w w' := by
  unfold nv
  by_cases h : n = 0
  · subst h
    go_enter Tryz.func136, Tryz.ntmps136
    go_wp2_with fail
    go_ret
    exact ⟨rfl, (Below.refl _ _).alloc (Nat.le_refl _) _⟩
  · have t1 : ((n : Int) == 0) = false := beq_eq_false_iff_ne.2 (by omega)
    have HS := hide (show sgnB neg n = if neg then -1 else 1 by unfold sgnB; rw [if_neg h])
    clear h
    cases neg
    all_goals
      go_enter Tryz.func136, Tryz.ntmps136
      go_wp2_with fail
      go_ret
      exact ⟨by rw [HS.out]; rfl, (Below.refl _ _).alloc (Nat.le_refl _) _⟩

end Go.Proofs.YtdlebcijgdkfjaaGreatDoor
