/-
  Numbers of package decimal in memory; number.trim.
-/
import Derived.Test.YtdlebcijgdkfjaaGreatDoorRefText
import Derived.Test.YtdlebcijgdkfjaaGreatDoorShelf
namespace Go.Proofs.YtdlebcijgdkfjaaGreatDoor
open Go.RowKit

theorem BytesAt.below {w w' : World} {A : Option Addr} {l : List UInt8} (h : BytesAt w A l) (hb : Below w.heap.size w w') : BytesAt w' A l := fun i c hi => by
  obtain ⟨b, off, e, hc⟩ := h i c hi
  exact ⟨b, off, e, cell_later hb hc⟩
theorem BytesAt.take {w : World} {A : Option Addr} {l : List UInt8} (h : BytesAt w A l) (k : Nat) : BytesAt w A (l.take k) := fun i c hi => h i c (by
  rw [List.getElem?_take] at hi
  split at hi
  · exact hi
  · cases hi)
theorem BytesAt.lib {w : World} {A : Option Addr} {l : List UInt8} (h : BytesAt w A l) : Lib.BytesAt w A l.length l := fun h0 => by
  obtain ⟨b, off, e, _⟩ := h 0 l[0] (List.getElem?_eq_getElem h0)
  refine ⟨b, off, e, fun i hi => ?_⟩
  obtain ⟨b', off', e', hc⟩ := h i l[i] (List.getElem?_eq_getElem hi)
  rw [e] at e'
  injection e' with e'
  injection e' with e1 e2
  subst e1 e2
  rw [hc, Lib.getD_lt_sl _ _ _ hi]

/-- a number as the program holds it -/
def nv (neg : Bool) (A : Option Addr) (n c : Nat) (e : Int) : Value := .agg #[.bool neg, .slice A n c, .int .i64 e]
def expD (d : Dec) : Int := if d.ds = [] then 0 else d.fst - d.ds.length + 1
/-- a number in memory -/
def NumIs (w : World) (v : Value) (d : Dec) : Prop := ∃ A c, v = nv d.neg A d.ds.length c (expD d) ∧ BytesAt w A d.ds ∧ d.ds.length ≤ c ∧ c ≤ 9223372036854775807
theorem NumIs.below {w w' : World} {v : Value} {d : Dec} (h : NumIs w v d) (hb : Below w.heap.size w w') : NumIs w' v d := by
  obtain ⟨A, c, h1, h2, h3, h4⟩ := h
  exact ⟨A, c, h1, h2.below hb, h3, h4⟩

theorem zC_one (l : List UInt8) : Lib.trimLeftS l [48] = l.dropWhile zC := by
  unfold Lib.trimLeftS
  congr 1
  funext c
  simp only [List.contains, List.elem, zC]
  cases (c == 48) <;> rfl
theorem zC_oneR (l : List UInt8) : Lib.trimRightS l [48] = rdrop l := by
  unfold Lib.trimRightS rdrop
  congr 2
  funext c
  simp only [List.contains, List.elem, zC]
  cases (c == 48) <;> rfl

theorem trimL_any (A : Option Addr) (c : Nat) (ds : List UInt8) (w : World) (hne : ds ≠ []) (hc : ds.length ≤ c) (hcb : c ≤ 9223372036854775807) (hb : BytesAt w A ds) :
    Calls Tryz.prog 220 #[.slice A ds.length c, .string ⟨#[48]⟩] w fun e w' => (∃ A' c', e = .returned (.slice A' (ds.dropWhile zC).length c') ∧ (∀ W, BytesAt W A ds → BytesAt W A' (ds.dropWhile zC)) ∧ (ds.dropWhile zC).length ≤ c' ∧ c' ≤ 9223372036854775807) ∧ w = w' := by
  have h0 : 0 < ds.length := List.length_pos_iff.2 hne
  have h := Any.bytes_TrimLeft_one Tryz.laysSl8 A ds.length c ds 48 w rfl hc (by omega) hb.lib h0 (by decide)
  refine (show Calls Tryz.prog 220 #[.slice A ds.length c, .string ⟨#[48]⟩] w _ from h).mono ?_
  rintro e w' ⟨rfl, rfl⟩
  refine ⟨?_, rfl⟩
  rw [zC_one]
  obtain ⟨t, ht⟩ : ∃ t, t ++ ds.dropWhile zC = ds := List.dropWhile_suffix zC
  obtain ⟨l, hl⟩ : ∃ l, ds.dropWhile zC = l := ⟨_, rfl⟩
  rw [hl] at ht ⊢
  have hlen : t.length + l.length = ds.length := by rw [← ht, List.length_append]
  unfold Lib.leftV
  by_cases hj : ds.length - l.length = ds.length
  · have hz : l = [] := List.eq_nil_of_length_eq_zero (by omega)
    subst hz
    rw [if_pos hj]
    exact ⟨none, 0, rfl, fun W _ i c hi => by simp at hi, Nat.le_refl _, by omega⟩
  · rw [if_neg hj]
    obtain ⟨b, off, rfl, _⟩ := hb 0 ds[0] (List.getElem?_eq_getElem h0)
    unfold Lib.fromV
    rw [if_neg (by omega), show ds.length - l.length = t.length by omega]
    refine ⟨some ⟨b, off + t.length, none⟩, c - t.length, ?_, fun W hW i x hi => ?_, by omega, by omega⟩
    · rw [Option.map_some, addr_add, show ds.length - t.length = l.length by omega]
    · obtain ⟨b', off', e', hc'⟩ := hW (t.length + i) x (by rw [← ht, List.getElem?_append_right (by omega)]; rw [Nat.add_sub_cancel_left]; exact hi)
      injection e' with e'
      injection e' with e1 e2
      subst e1 e2
      exact ⟨b, off + t.length, rfl, by rw [Nat.add_assoc]; exact hc'⟩
theorem trimR_any (A : Option Addr) (c : Nat) (l : List UInt8) (w : World) (hne : l ≠ []) (hc : l.length ≤ c) (hcb : c ≤ 9223372036854775807) (hb : BytesAt w A l) :
    Calls Tryz.prog 221 #[.slice A l.length c, .string ⟨#[48]⟩] w fun e w' => e = .returned (.slice A (rdrop l).length c) ∧ w = w' := by
  have h0 : 0 < l.length := List.length_pos_iff.2 hne
  have h := Any.bytes_TrimRight_one Tryz.laysSl7 A l.length c l 48 w rfl hc (by omega) hb.lib h0 (by decide)
  refine (show Calls Tryz.prog 221 #[.slice A l.length c, .string ⟨#[48]⟩] w _ from h).mono ?_
  rintro e w' ⟨rfl, rfl⟩
  exact ⟨by rw [zC_oneR], rfl⟩
theorem trimR_none (A : Option Addr) (c : Nat) (w : World) :
    Calls Tryz.prog 221 #[.slice A 0 c, .string ⟨#[48]⟩] w fun e w' => e = .returned (.slice A 0 c) ∧ w = w' := by
  have h := Any.bytes_TrimRight_empty Tryz.laysSl7 A 0 c ⟨#[48]⟩ w (.inl rfl)
  refine (show Calls Tryz.prog 221 #[.slice A 0 c, .string ⟨#[48]⟩] w _ from h).mono ?_
  rintro e w' ⟨rfl, rfl⟩
  exact ⟨rfl, rfl⟩

theorem dw_nil : ∀ (l : List UInt8), l.dropWhile zC = [] → ∀ x ∈ l, zC x = true
  | [], _, x, hx => by cases hx
  | c :: l, h, x, hx => by
    rw [List.dropWhile_cons] at h
    split at h
    · rename_i hc
      rcases List.mem_cons.1 hx with rfl | hx
      · exact hc
      · exact dw_nil l h x hx
    · cases h
theorem rdrop_ne {l : List UInt8} (hne : l ≠ []) (hh : ∀ c, l.head? = some c → c ≠ 48) : rdrop l ≠ [] := by
  intro h
  unfold rdrop at h
  rw [List.reverse_eq_nil_iff] at h
  obtain ⟨c, r, rfl⟩ := List.exists_cons_of_ne_nil hne
  exact hh c rfl (by simpa [zC] using dw_nil _ h c (by simp))

set_option maxRecDepth 100000 in
theorem trim_num (neg : Bool) (A : Option Addr) (c : Nat) (ds : List UInt8) (e : Int) (w : World) (hne : ds ≠ []) (hl : ds.length ≤ 1000) (hc : ds.length ≤ c) (hcb : c ≤ 9223372036854775807) (hb : BytesAt w A ds) (he0 : -2000000 ≤ e) (he1 : e ≤ 2000000) :
    Calls Tryz.prog 193 #[nv neg A ds.length c e] w fun r w' => (∃ v, r = .returned v ∧ NumIs w' v (nrm neg ds (e + ds.length - 1))) ∧ Below w.heap.size w w' := by
  unfold nv
  have hcl := fun W : World => fun h : BytesAt W A ds => trimL_any A c ds W hne hc hcb h
  have hB := fun W : World => fun h : Below w.heap.size w W => hb.below h
  have hle : (ds.dropWhile zC).length ≤ ds.length := (List.dropWhile_suffix zC).length_le
  have hNZ : ∀ x, (ds.dropWhile zC).head? = some x → x ≠ 48 := drop_head ds
  have HN := hide (show nrm neg ds (e + ds.length - 1) = if rdrop (ds.dropWhile zC) = [] then dec0 else ⟨neg, rdrop (ds.dropWhile zC), e + ds.length - 1 - ((ds.length : Int) - (ds.dropWhile zC).length)⟩ from rfl)
  obtain ⟨l, hL⟩ : ∃ l, ds.dropWhile zC = l := ⟨_, rfl⟩
  rw [hL] at hcl hle hNZ HN
  have HCL := hide hcl
  have HB := hide hB
  have HNZ := hide hNZ
  clear hL hcl hB hNZ hb hne
  go_enter Tryz.func193, Tryz.ntmps193
  go_wp2_with fail
  refine (HCL.out _ (HB.out _ (((Below.refl _ _).alloc (Nat.le_refl _) _).alloc (by simp) _))).mono ?_
  rintro r w1 ⟨⟨A1, c1, rfl, hb1, hlc, hcc⟩, rfl⟩
  have HB1 := hide hb1
  clear hb1
  by_cases hz : l = []
  · subst hz
    have HN0 := hide (show nrm neg ds (e + ds.length - 1) = dec0 from HN.out)
    go_wp2_with fail
    refine (trimR_none A1 c1 _).mono ?_
    rintro r w2 ⟨rfl, rfl⟩
    go_wp2_with fail
    refine bodyPost_ret (v := .agg #[.bool false, .slice none 0 0, .int .i64 0]) (by simp [results, Tryz.results193, go_sem]) rfl ⟨⟨_, rfl, ?_⟩, ?_⟩
    · rw [HN0.out]
      exact ⟨none, 0, rfl, fun i c hi => by simp [dec0] at hi, Nat.le_refl _, by omega⟩
    · exact ((Below.refl _ _).alloc (Nat.le_refl _) _).alloc (by simp) _
  · have hkl : (rdrop l).length ≤ l.length := (rdrop_prefix l).length_le
    have hk0 : 0 < (rdrop l).length := List.length_pos_iff.2 (rdrop_ne hz HNZ.out)
    have HN0 := hide (show nrm neg ds (e + ds.length - 1) = ⟨neg, rdrop l, e + ds.length - 1 - ((ds.length : Int) - l.length)⟩ by rw [HN.out, if_neg (rdrop_ne hz HNZ.out)])
    have HR := hide (fun W : World => fun h : BytesAt W A1 l => trimR_any A1 c1 l W hz hlc hcc h)
    have HP : Hid (rdrop l <+: l) := hide (rdrop_prefix l)
    have t0 : (((rdrop l).length : Int) == 0) = false := beq_eq_false_iff_ne.2 (by omega)
    clear hz
    generalize hk : rdrop l = K at *
    have HK := hide hk
    clear hk
    go_wp2_with fail
    refine (HR.out _ (HB1.out _ (HB.out _ ?_))).mono ?_
    · exact ((Below.refl _ _).alloc (Nat.le_refl _) _).alloc (by simp) _
    rintro r w2 ⟨rfl, rfl⟩
    go_wp2_with fail
    refine bodyPost_ret (v := .agg #[.bool neg, .slice A1 K.length K.length, .int .i64 (e + (l.length - K.length))]) (by simp [results, Tryz.results193, go_sem]) rfl ⟨⟨_, rfl, ?_⟩, ?_⟩
    · rw [HN0.out]
      refine ⟨A1, K.length, ?_, ?_, Nat.le_refl _, by omega⟩
      · unfold nv expD
        rw [if_neg (fun h => by rw [show K = [] from h] at hk0; simp at hk0)]
        have : e + (↑l.length - ↑K.length) = e + ↑ds.length - 1 - (↑ds.length - ↑l.length) - ↑K.length + 1 := by omega
        rw [this]
      · have key : ∀ W, Below w.heap.size w W → BytesAt W A1 K := by
          intro W h
          have h2 := (HB1.out W (HB.out W h)).take K.length
          obtain ⟨t, ht⟩ := HP.out
          rw [← ht, List.take_left] at h2
          exact h2
        exact key _ (((Below.refl _ _).alloc (Nat.le_refl _) _).alloc (by simp) _)
    · exact ((Below.refl _ _).alloc (Nat.le_refl _) _).alloc (by simp) _

end Go.Proofs.YtdlebcijgdkfjaaGreatDoor
