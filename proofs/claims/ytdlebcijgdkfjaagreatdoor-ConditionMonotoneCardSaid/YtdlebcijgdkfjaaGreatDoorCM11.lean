/-
  Several texts in one: DecM, DecN, DecT, DecOne. Each says at its head what it holds.
-/
import Derived.Test.YtdlebcijgdkfjaaGreatDoorCM9
import Derived.Test.YtdlebcijgdkfjaaGreatDoorShelf
import Derived.Test.YtdlebcijgdkfjaaGreatDoorCM10
import Derived.Test.YtdlebcijgdkfjaaGreatDoorCM3

/-
  Numbers of package decimal in memory; number.trim.
-/
namespace Go.Proofs.YtdlebcijgdkfjaaGreatDoor
open Go.RowKit

theorem BytesAt.below {w w' : World} {A : Option Addr} {l : List UInt8} (h : BytesAt w A l) (hb : Below w.heap.size w w') : BytesAt w' A l := fun i c hi => by
  obtain ⟨b, off, e, hc⟩ := h i c hi
  exact ⟨b, off, e, cell_later hb hc⟩
theorem BytesAt.take {w : World} {A : Option Addr} {l : List UInt8} (h : BytesAt w A l) (k : Nat) : BytesAt w A (l.take k) := fun i c hi => h i c (by
  rw [List.getElem?_take] at hi
  split at hi
  · exact hi
  · cases hi)
theorem BytesAt.lib {w : World} {A : Option Addr} {l : List UInt8} (h : BytesAt w A l) : Lib.BytesAt w A l.length l := fun h0 => by
  obtain ⟨b, off, e, _⟩ := h 0 l[0] (List.getElem?_eq_getElem h0)
  refine ⟨b, off, e, fun i hi => ?_⟩
  obtain ⟨b', off', e', hc⟩ := h i l[i] (List.getElem?_eq_getElem hi)
  rw [e] at e'
  injection e' with e'
  injection e' with e1 e2
  subst e1 e2
  rw [hc, Lib.getD_lt_sl _ _ _ hi]

/-- a number as the program holds it -/
def nv (neg : Bool) (A : Option Addr) (n c : Nat) (e : Int) : Value := .agg #[.bool neg, .slice A n c, .int .i64 e]
def expD (d : Dec) : Int := if d.ds = [] then 0 else d.fst - d.ds.length + 1
/-- a number in memory -/
def NumIs (w : World) (v : Value) (d : Dec) : Prop := ∃ A c, v = nv d.neg A d.ds.length c (expD d) ∧ BytesAt w A d.ds ∧ d.ds.length ≤ c ∧ c ≤ 9223372036854775807
theorem NumIs.below {w w' : World} {v : Value} {d : Dec} (h : NumIs w v d) (hb : Below w.heap.size w w') : NumIs w' v d := by
  obtain ⟨A, c, h1, h2, h3, h4⟩ := h
  exact ⟨A, c, h1, h2.below hb, h3, h4⟩

theorem zC_one (l : List UInt8) : Lib.trimLeftS l [48] = l.dropWhile zC := by
  unfold Lib.trimLeftS
  congr 1
  funext c
  simp only [List.contains, List.elem, zC]
  cases (c == 48) <;> rfl
theorem zC_oneR (l : List UInt8) : Lib.trimRightS l [48] = rdrop l := by
  unfold Lib.trimRightS rdrop
  congr 2
  funext c
  simp only [List.contains, List.elem, zC]
  cases (c == 48) <;> rfl

theorem trimL_any (A : Option Addr) (c : Nat) (ds : List UInt8) (w : World) (hne : ds ≠ []) (hc : ds.length ≤ c) (hcb : c ≤ 9223372036854775807) (hb : BytesAt w A ds) :
    Calls Tryz.prog 220 #[.slice A ds.length c, .string ⟨#[48]⟩] w fun e w' => (∃ A' c', e = .returned (.slice A' (ds.dropWhile zC).length c') ∧ (∀ W, BytesAt W A ds → BytesAt W A' (ds.dropWhile zC)) ∧ (ds.dropWhile zC).length ≤ c' ∧ c' ≤ 9223372036854775807) ∧ w = w' := by
  have h0 : 0 < ds.length := List.length_pos_iff.2 hne
  have h := Any.bytes_TrimLeft_one Tryz.laysSl8 A ds.length c ds 48 w rfl hc (by omega) hb.lib h0 (by decide)
  refine (show Calls Tryz.prog 220 #[.slice A ds.length c, .string ⟨#[48]⟩] w _ from h).mono ?_
  rintro e w' ⟨rfl, rfl⟩
  refine ⟨?_, rfl⟩
  rw [zC_one]
  obtain ⟨t, ht⟩ : ∃ t, t ++ ds.dropWhile zC = ds := List.dropWhile_suffix zC
  obtain ⟨l, hl⟩ : ∃ l, ds.dropWhile zC = l := ⟨_, rfl⟩
  rw [hl] at ht ⊢
  have hlen : t.length + l.length = ds.length := by rw [← ht, List.length_append]
  unfold Lib.leftV
  by_cases hj : ds.length - l.length = ds.length
  · have hz : l = [] := List.eq_nil_of_length_eq_zero (by omega)
    subst hz
    rw [if_pos hj]
    exact ⟨none, 0, rfl, fun W _ i c hi => by simp at hi, Nat.le_refl _, by omega⟩
  · rw [if_neg hj]
    obtain ⟨b, off, rfl, _⟩ := hb 0 ds[0] (List.getElem?_eq_getElem h0)
    unfold Lib.fromV
    rw [if_neg (by omega), show ds.length - l.length = t.length by omega]
    refine ⟨some ⟨b, off + t.length, none⟩, c - t.length, ?_, fun W hW i x hi => ?_, by omega, by omega⟩
    · rw [Option.map_some, addr_add, show ds.length - t.length = l.length by omega]
    · obtain ⟨b', off', e', hc'⟩ := hW (t.length + i) x (by rw [← ht, List.getElem?_append_right (by omega)]; rw [Nat.add_sub_cancel_left]; exact hi)
      injection e' with e'
      injection e' with e1 e2
      subst e1 e2
      exact ⟨b, off + t.length, rfl, by rw [Nat.add_assoc]; exact hc'⟩
theorem trimR_any (A : Option Addr) (c : Nat) (l : List UInt8) (w : World) (hne : l ≠ []) (hc : l.length ≤ c) (hcb : c ≤ 9223372036854775807) (hb : BytesAt w A l) :
    Calls Tryz.prog 221 #[.slice A l.length c, .string ⟨#[48]⟩] w fun e w' => e = .returned (.slice A (rdrop l).length c) ∧ w = w' := by
  have h0 : 0 < l.length := List.length_pos_iff.2 hne
  have h := Any.bytes_TrimRight_one Tryz.laysSl7 A l.length c l 48 w rfl hc (by omega) hb.lib h0 (by decide)
  refine (show Calls Tryz.prog 221 #[.slice A l.length c, .string ⟨#[48]⟩] w _ from h).mono ?_
  rintro e w' ⟨rfl, rfl⟩
  exact ⟨by rw [zC_oneR], rfl⟩
theorem trimR_none (A : Option Addr) (c : Nat) (w : World) :
    Calls Tryz.prog 221 #[.slice A 0 c, .string ⟨#[48]⟩] w fun e w' => e = .returned (.slice A 0 c) ∧ w = w' := by
  have h := Any.bytes_TrimRight_empty Tryz.laysSl7 A 0 c ⟨#[48]⟩ w (.inl rfl)
  refine (show Calls Tryz.prog 221 #[.slice A 0 c, .string ⟨#[48]⟩] w _ from h).mono ?_
  rintro e w' ⟨rfl, rfl⟩
  exact ⟨rfl, rfl⟩

theorem dw_nil : ∀ (l : List UInt8), l.dropWhile zC = [] → ∀ x ∈ l, zC x = true
  | [], _, x, hx => by cases hx
  | c :: l, h, x, hx => by
    rw [List.dropWhile_cons] at h
    split at h
    · rename_i hc
      rcases List.mem_cons.1 hx with rfl | hx
      · exact hc
      · exact dw_nil l h x hx
    · cases h
theorem rdrop_ne {l : List UInt8} (hne : l ≠ []) (hh : ∀ c, l.head? = some c → c ≠ 48) : rdrop l ≠ [] := by
  intro h
  unfold rdrop at h
  rw [List.reverse_eq_nil_iff] at h
  obtain ⟨c, r, rfl⟩ := List.exists_cons_of_ne_nil hne
  exact hh c rfl (by simpa [zC] using dw_nil _ h c (by simp))

set_option maxRecDepth 100000 in
theorem trim_num (neg : Bool) (A : Option Addr) (c : Nat) (ds : List UInt8) (e : Int) (w : World) (hne : ds ≠ []) (hl : ds.length ≤ 1000) (hc : ds.length ≤ c) (hcb : c ≤ 9223372036854775807) (hb : BytesAt w A ds) (he0 : -2000000 ≤ e) (he1 : e ≤ 2000000) :
    Calls Tryz.prog 193 #[nv neg A ds.length c e] w fun r w' => (∃ v, r = .returned v ∧ NumIs w' v (nrm neg ds (e + ds.length - 1))) ∧ Below w.heap.size w w' := by
  unfold nv
  have hcl := fun W : World => fun h : BytesAt W A ds => trimL_any A c ds W hne hc hcb h
  have hB := fun W : World => fun h : Below w.heap.size w W => hb.below h
  have hle : (ds.dropWhile zC).length ≤ ds.length := (List.dropWhile_suffix zC).length_le
  have hNZ : ∀ x, (ds.dropWhile zC).head? = some x → x ≠ 48 := drop_head ds
  have HN := hide (show nrm neg ds (e + ds.length - 1) = if rdrop (ds.dropWhile zC) = [] then dec0 else ⟨neg, rdrop (ds.dropWhile zC), e + ds.length - 1 - ((ds.length : Int) - (ds.dropWhile zC).length)⟩ from rfl)
  obtain ⟨l, hL⟩ : ∃ l, ds.dropWhile zC = l := ⟨_, rfl⟩
  rw [hL] at hcl hle hNZ HN
  have HCL := hide hcl
  have HB := hide hB
  have HNZ := hide hNZ
  clear hL hcl hB hNZ hb hne
  go_enter Tryz.func193, Tryz.ntmps193
  go_wp2_with fail
  refine (HCL.out _ (HB.out _ (((Below.refl _ _).alloc (Nat.le_refl _) _).alloc (by simp) _))).mono ?_
  rintro r w1 ⟨⟨A1, c1, rfl, hb1, hlc, hcc⟩, rfl⟩
  have HB1 := hide hb1
  clear hb1
  by_cases hz : l = []
  · subst hz
    have HN0 := hide (show nrm neg ds (e + ds.length - 1) = dec0 from HN.out)
    go_wp2_with fail
    refine (trimR_none A1 c1 _).mono ?_
    rintro r w2 ⟨rfl, rfl⟩
    go_wp2_with fail
    refine bodyPost_ret (v := .agg #[.bool false, .slice none 0 0, .int .i64 0]) (by simp [results, Tryz.results193, go_sem]) rfl ⟨⟨_, rfl, ?_⟩, ?_⟩
    · rw [HN0.out]
      exact ⟨none, 0, rfl, fun i c hi => by simp [dec0] at hi, Nat.le_refl _, by omega⟩
    · exact ((Below.refl _ _).alloc (Nat.le_refl _) _).alloc (by simp) _
  · have hkl : (rdrop l).length ≤ l.length := (rdrop_prefix l).length_le
    have hk0 : 0 < (rdrop l).length := List.length_pos_iff.2 (rdrop_ne hz HNZ.out)
    have HN0 := hide (show nrm neg ds (e + ds.length - 1) = ⟨neg, rdrop l, e + ds.length - 1 - ((ds.length : Int) - l.length)⟩ by rw [HN.out, if_neg (rdrop_ne hz HNZ.out)])
    have HR := hide (fun W : World => fun h : BytesAt W A1 l => trimR_any A1 c1 l W hz hlc hcc h)
    have HP : Hid (rdrop l <+: l) := hide (rdrop_prefix l)
    have t0 : (((rdrop l).length : Int) == 0) = false := beq_eq_false_iff_ne.2 (by omega)
    clear hz
    generalize hk : rdrop l = K at *
    have HK := hide hk
    clear hk
    go_wp2_with fail
    refine (HR.out _ (HB1.out _ (HB.out _ ?_))).mono ?_
    · exact ((Below.refl _ _).alloc (Nat.le_refl _) _).alloc (by simp) _
    rintro r w2 ⟨rfl, rfl⟩
    go_wp2_with fail
    refine bodyPost_ret (v := .agg #[.bool neg, .slice A1 K.length K.length, .int .i64 (e + (l.length - K.length))]) (by simp [results, Tryz.results193, go_sem]) rfl ⟨⟨_, rfl, ?_⟩, ?_⟩
    · rw [HN0.out]
      refine ⟨A1, K.length, ?_, ?_, Nat.le_refl _, by omega⟩
      · unfold nv expD
        rw [if_neg (fun h => by rw [show K = [] from h] at hk0; simp at hk0)]
        have : e + (↑l.length - ↑K.length) = e + ↑ds.length - 1 - (↑ds.length - ↑l.length) - ↑K.length + 1 := by omega
        rw [this]
      · have key : ∀ W, Below w.heap.size w W → BytesAt W A1 K := by
          intro W h
          have h2 := (HB1.out W (HB.out W h)).take K.length
          obtain ⟨t, ht⟩ := HP.out
          rw [← ht, List.take_left] at h2
          exact h2
        exact key _ (((Below.refl _ _).alloc (Nat.le_refl _) _).alloc (by simp) _)
    · exact ((Below.refl _ _).alloc (Nat.le_refl _) _).alloc (by simp) _

end Go.Proofs.YtdlebcijgdkfjaaGreatDoor

/-
  decimal.number.first, sign; magnitude, compare.
-/
namespace Go.Proofs.YtdlebcijgdkfjaaGreatDoor
open Go.RowKit

set_option maxRecDepth 100000 in
theorem cfirst_any (neg : Bool) (A : Option Addr) (n c : Nat) (e : Int) (w : World) (hn : n ≤ 1000) (h0 : -3000000 ≤ e) (h1 : e ≤ 3000000) : Calls Tryz.prog 194 #[nv neg A n c e] w fun r w' => r = .returned (.int .i64 (e + n - 1)) ∧ Below w.heap.size w w' := by
  unfold nv
  go_enter Tryz.func194, Tryz.ntmps194
  go_wp2_with fail
  go_ret
  exact ⟨rfl, (Below.refl _ _).alloc (Nat.le_refl _) _⟩

def sgnB (neg : Bool) (n : Nat) : Int := if n = 0 then 0 else if neg then -1 else 1
set_option maxRecDepth 100000 in
theorem csign_any (neg : Bool) (A : Option Addr) (n c : Nat) (e : Int) (w : World) (hn : n ≤ 1000) : Calls Tryz.prog 136 #[nv neg A n c e] w fun r w' => r = .returned (.int .i64 (sgnB neg n)) ∧ Below w.heap.size w w' := by
  unfold nv
  by_cases h : n = 0
  · subst h
    go_enter Tryz.func136, Tryz.ntmps136
    go_wp2_with fail
    go_ret
    exact ⟨rfl, (Below.refl _ _).alloc (Nat.le_refl _) _⟩
  · have t1 : ((n : Int) == 0) = false := beq_eq_false_iff_ne.2 (by omega)
    have HS := hide (show sgnB neg n = if neg then -1 else 1 by unfold sgnB; rw [if_neg h])
    clear h
    cases neg
    all_goals
      go_enter Tryz.func136, Tryz.ntmps136
      go_wp2_with fail
      go_ret
      exact ⟨by rw [HS.out]; rfl, (Below.refl _ _).alloc (Nat.le_refl _) _⟩

end Go.Proofs.YtdlebcijgdkfjaaGreatDoor

/-
  decimal.number.text.
-/
namespace Go.Proofs.YtdlebcijgdkfjaaGreatDoor
open Go.RowKit

/-- the table of the powers of ten, as the library's numerals read it -/
structure Tab (w : World) : Prop where
  tab : Lib.TabIs Tryz.prog w "internal/strconv.uint64pow10" .u64 Lib.pow10Tab
theorem Tab.below {w w' : World} (h : Tab w) (hb : Below w.heap.size w w') : Tab w' := ⟨by
  have h0 := h.tab
  unfold Lib.TabIs World.var? at h0 ⊢
  obtain ⟨g, h1, h2⟩ := Option.bind_eq_some_iff.1 h0
  rw [h1]
  have h3 : g < w.heap.size := by
    rcases Nat.lt_or_ge g w.heap.size with h3 | h3
    · exact h3
    · rw [Array.getElem?_eq_none h3] at h2; cases h2
  show (match w'.heap[g]? with | some (.cells cs _ _) => some cs | _ => none) = _
  rw [hb.block g h3]
  exact h2⟩
theorem dec_same (n : Nat) : Lib.decDigits n = decN n := by
  induction n using Nat.strongRecOn with
  | _ n ih =>
    rw [Lib.decDigits, decN]
    split
    · rfl
    · rw [ih (n / 10) (by omega)]
theorem itoa_same (f : Int) : Lib.itoa f = decI f := by
  unfold Lib.itoa decI
  split
  · rw [dec_same]
  · rw [dec_same, show f.toNat = f.natAbs by omega]
theorem below_gr (w : World) (k : Nat) (os : Array Obj) : Below w.heap.size w (Sort.grow (w.drewN k) os) :=
  ⟨rfl, rfl, rfl, by rw [Sort.size_grow]; exact Nat.le_add_right _ _, fun _ hb => Sort.heap_grow_old (w.drewN k) os hb⟩
theorem itoa_any (f : Int) (w : World) (hT : Tab w) (h0 : -400 ≤ f) (h1 : f ≤ 400) : Calls Tryz.prog 195 #[.int .i64 f] w fun e w' => e = .returned (.string (bs (decI f))) ∧ Below w.heap.size w w' := by
  refine (Tryz.strconv_Itoa f (by omega) (by omega) w hT.tab).mono ?_
  rintro e w' ⟨rfl, k, os, rfl⟩
  exact ⟨by rw [itoa_same]; rfl, below_gr _ _ _⟩

theorem conv_row {W : World} {A : Option Addr} {l : List UInt8} (h : BytesAt W A l) (hne : l ≠ []) (c n : Nat) (hn : l.length = n) : (convert 108 9 (.slice A n c)).run Tryz.prog W = .ok (.string (bs l)) W := by
  have h0 : 0 < l.length := List.length_pos_iff.2 hne
  obtain ⟨b, off, rfl, _⟩ := h 0 l[0] (List.getElem?_eq_getElem h0)
  have hb : Lib.Bytes W b off (bs l) := fun i hi => by
    have hi' : i < l.length := by rw [bs_size] at hi; exact hi
    obtain ⟨b', off', e', hc'⟩ := h i l[i] (List.getElem?_eq_getElem hi')
    injection e' with e'
    injection e' with e1 e2
    subst e1 e2
    rw [hc']
    rfl
  have := Lib.run_convert_whole (P := Tryz.prog) W 108 5 9 Tryz.underlying108 Tryz.underlying5 Tryz.underlying9 b off (bs l) hb c
  rw [bs_size, hn] at this
  exact this
theorem BytesAt.tail {w : World} {b off : Nat} {x : UInt8} {l : List UInt8} (h : BytesAt w (some ⟨b, off, none⟩) (x :: l)) : BytesAt w (some ⟨b, off + 1, none⟩) l := fun i c hi => by
  obtain ⟨b', off', e', hc'⟩ := h (i + 1) c (by simpa using hi)
  injection e' with e'
  injection e' with e1 e2
  subst e1 e2
  exact ⟨b, off + 1, rfl, by rw [Nat.add_assoc, Nat.add_comm 1 i]; exact hc'⟩

/-- a number's box -/
def ncs (neg : Bool) (A : Option Addr) (n c : Nat) (e : Int) : Obj := .cells #[.bool neg, .slice A n c, .int .i64 e] 126 (0, 0)
theorem ncs_at {W : World} {N : Nat} {neg : Bool} {A : Option Addr} {n c : Nat} {e : Int} (h : W.heap[N]? = some (ncs neg A n c e)) :
    W.cell? ⟨N, 0, none⟩ = some (.bool neg) ∧ W.cell? ⟨N, 1, none⟩ = some (.slice A n c) ∧ W.cell? ⟨N, 2, none⟩ = some (.int .i64 e) ∧ W.frozen? ⟨N, 0, none⟩ = false ∧ W.frozen? ⟨N, 1, none⟩ = false ∧ W.frozen? ⟨N, 2, none⟩ = false := by
  unfold ncs at h
  exact ⟨by rw [cell_of_row W N _ _ _ (0, 0) h]; rfl, by rw [cell_of_row W N _ _ _ (0, 0) h]; rfl, by rw [cell_of_row W N _ _ _ (0, 0) h]; rfl, by simp [World.frozen?, h], by simp [World.frozen?, h], by simp [World.frozen?, h]⟩

theorem fit_not {neg : Bool} {x : UInt8} {xs : List UInt8} {f : Int} (hF : ¬ fitB ⟨neg, x :: xs, f⟩ = true) : ¬ (xs.length + 1 ≤ 17) ∨ f < -400 ∨ 400 < f := by
  apply Classical.byContradiction
  intro h
  apply hF
  unfold fitB
  simp
  omega

set_option maxRecDepth 100000 in
theorem ctext_any (d : Dec) (v : Value) (w : World) (hT : Tab w) (hn : NumIs w v d) (hl : d.ds.length ≤ 1000) (h0 : -2000000 ≤ d.fst) (h1 : d.fst ≤ 2000000) :
    Calls Tryz.prog 134 #[v] w fun e w' => (∃ v, e = .returned v ∧ TextP d v) ∧ Below w.heap.size w w' := by
  obtain ⟨A, c, rfl, hb, hc, hcb⟩ := hn
  obtain ⟨neg, ds, f⟩ := d
  dsimp only at *
  unfold nv
  cases ds with
  | nil =>
    go_enter Tryz.func134, Tryz.ntmps134
    go_wp2_with fail
    go_ret2
    exact ⟨⟨_, rfl, rfl⟩, (Below.refl _ _).alloc (Nat.le_refl _) _⟩
  | cons x xs =>
    have HE := hide (show expD ⟨neg, x :: xs, f⟩ + ((xs.length + 1 : Nat) : Int) - 1 = f by unfold expD; simp; omega)
    generalize hE : expD ⟨neg, x :: xs, f⟩ = E at *
    have hE0 : -3000000 ≤ E := by have := HE.out; simp at hl; omega
    have hE1 : E ≤ 3000000 := by have := HE.out; simp at hl; omega
    clear hE
    have hlen : (x :: xs).length = xs.length + 1 := rfl
    rw [hlen] at *
    clear hlen
    obtain ⟨b, off, rfl, _⟩ := hb 0 x rfl
    have HF := hide (fun W => cfirst_any neg (some ⟨b, off, none⟩) (xs.length + 1) c E W hl hE0 hE1)
    have HB := hide hb
    have HT := hide hT
    have tz : ((xs.length : Int) + 1 == 0) = false := beq_eq_false_iff_ne.2 (by omega)
    clear hb hT
    by_cases hF : fitB ⟨neg, x :: xs, f⟩ = true
    · have hF' := hF
      unfold fitB at hF'
      have hf3 : xs.length + 1 ≤ 17 ∧ -400 ≤ f ∧ f ≤ 400 := by simpa [and_assoc] using hF'
      obtain ⟨g1, g2, g3⟩ := hf3
      have HP := hide (show TextP ⟨neg, x :: xs, f⟩ (.tuple #[.string (bs (txt ⟨neg, x :: xs, f⟩)), .int .i64 0]) by unfold TextP; rw [if_pos hF])
      clear hF hF' hl h0 h1
      unfold nv at HF
      have HI := hide (fun W (h : Below w.heap.size w W) => itoa_any f W (HT.out.below h) g2 g3)
      have hz4 : (bs (decI f)).size ≤ 4 := by rw [bs_size]; exact decI_len f g2 g3
      have hz1 : (bs [x]).size = 1 := rfl
      have hz2 : (bs xs).size ≤ 17 := by rw [bs_size]; omega
      have HBX : Hid (bs xs = bs xs) := rfl
      go_enter Tryz.func134, Tryz.ntmps134
      go_wp2_with fail
      have hbox : (w.alloc (ncs neg (some ⟨b, off, none⟩) (xs.length + 1) c E)).heap[w.heap.size]? = some (ncs neg (some ⟨b, off, none⟩) (xs.length + 1) c E) := heap_alloc_new w _
      refine (HF.out _).mono ?_
      rw [HE.out]
      rintro e w1 ⟨rfl, b1⟩
      have hx1 := box_below b1 hbox
      obtain ⟨c0, c1, c2, f0, f1', f2⟩ := ncs_at hx1
      have B1 := hide (bstep ((Below.refl _ _).alloc (Nat.le_refl _) _) b1)
      have HX1 := hide hx1
      clear b1 hbox hx1
      go_wp2_with fail
      refine (HF.out _).mono ?_
      rw [HE.out]
      rintro e w2 ⟨rfl, b2⟩
      have hx2 := box_below b2 HX1.out
      obtain ⟨c0, c1, c2, f0, f1', f2⟩ := ncs_at hx2
      have B2 := hide (bstep B1.out b2)
      have HX2 := hide hx2
      clear b2 hx2
      have hb2 := HB.out.below B2.out
      have k1 := conv_row (hb2.take 1) (by simp) c 1 rfl
      have HB2 := hide hb2
      clear hb2
      cases xs with
      | nil =>
        have hc1 : 1 ≤ c := hc
        cases neg
        all_goals
          go_wp2_with fail
          refine (HF.out _).mono ?_
          rw [HE.out]
          rintro e w3 ⟨rfl, b3⟩
          have B3 := hide (bstep B2.out b3)
          clear b3
          go_wp2_with fail
          refine (HI.out _ B3.out).mono ?_
          rintro e w4 ⟨rfl, b4⟩
          have B4 := hide (bstep B3.out b4)
          clear b4
          go_wp2_with fail
          go_ret2
          refine ⟨⟨_, rfl, ?_⟩, B4.out⟩
          refine (congrArg (fun s => TextP _ (Value.tuple #[.string s, .int .i64 0])) ?_).mp HP.out
          apply ByteArray.ext
          simp [bs, txt]
      | cons y ys =>
        have hc1 : ys.length + 1 + 1 ≤ c := hc
        have k2 := conv_row (l := y :: ys) HB2.out.tail (by simp) (c - 1) (ys.length + 1) rfl
        cases neg
        all_goals
          go_wp2_with fail
          refine (HF.out _).mono ?_
          rw [HE.out]
          rintro e w3 ⟨rfl, b3⟩
          have B3 := hide (bstep B2.out b3)
          clear b3
          go_wp2_with fail
          refine (HI.out _ B3.out).mono ?_
          rintro e w4 ⟨rfl, b4⟩
          have B4 := hide (bstep B3.out b4)
          clear b4
          go_wp2_with fail
          go_ret2
          refine ⟨⟨_, rfl, ?_⟩, B4.out⟩
          refine (congrArg (fun s => TextP _ (Value.tuple #[.string s, .int .i64 0])) ?_).mp HP.out
          apply ByteArray.ext
          simp [bs, txt]
    · have HP := hide (show TextP ⟨neg, x :: xs, f⟩ (.tuple #[.string (bs []), .int .i64 9]) by unfold TextP; rw [if_neg hF]; exact ⟨9, by decide, rfl⟩)
      have hf3 := fit_not hF
      clear hF hl
      unfold nv at HF
      by_cases g1 : xs.length + 1 ≤ 17
      · go_enter Tryz.func134, Tryz.ntmps134
        go_wp2_with fail
        have hbox : (w.alloc (ncs neg (some ⟨b, off, none⟩) (xs.length + 1) c E)).heap[w.heap.size]? = some (ncs neg (some ⟨b, off, none⟩) (xs.length + 1) c E) := heap_alloc_new w _
        refine (HF.out _).mono ?_
        rw [HE.out]
        rintro e w1 ⟨rfl, b1⟩
        have hx1 := box_below b1 hbox
        obtain ⟨c0, c1, c2, f0, f1', f2⟩ := ncs_at hx1
        have B1 := hide (bstep ((Below.refl _ _).alloc (Nat.le_refl _) _) b1)
        have HX1 := hide hx1
        clear b1 hbox hx1
        by_cases g2 : f < -400
        · go_wp2_with fail
          go_ret2
          exact ⟨⟨_, rfl, HP.out⟩, B1.out⟩
        · have g3 : 400 < f := (hf3.resolve_left (by omega)).resolve_left g2
          go_wp2_with fail
          refine (HF.out _).mono ?_
          rw [HE.out]
          rintro e w2 ⟨rfl, b2⟩
          have B2 := hide (bstep B1.out b2)
          clear b2
          go_wp2_with fail
          go_ret2
          exact ⟨⟨_, rfl, HP.out⟩, B2.out⟩
      · go_enter Tryz.func134, Tryz.ntmps134
        go_wp2_with fail
        go_ret2
        exact ⟨⟨_, rfl, HP.out⟩, (Below.refl _ _).alloc (Nat.le_refl _) _⟩

end Go.Proofs.YtdlebcijgdkfjaaGreatDoor

/-
  The closures of decimal.scan: one, digits.
-/

namespace Go.Proofs.YtdlebcijgdkfjaaGreatDoor
open Go.RowKit

def atO (k : Nat) : Obj := .cells #[.int .i64 (k : Int)] 3 (0, 0)
def strO (s : ByteArray) : Obj := .cells #[.string s] 9 (0, 0)
theorem atO_at {W : World} {a k : Nat} (h : W.heap[a]? = some (atO k)) : W.cell? ⟨a, 0, none⟩ = some (.int .i64 (k : Int)) ∧ W.frozen? ⟨a, 0, none⟩ = false := by
  unfold atO at h
  exact ⟨by rw [cell_of_row W a _ _ _ (0, 0) h]; rfl, by simp [World.frozen?, h]⟩
theorem strO_at {W : World} {a : Nat} {s : ByteArray} (h : W.heap[a]? = some (strO s)) : W.cell? ⟨a, 0, none⟩ = some (.string s) ∧ W.frozen? ⟨a, 0, none⟩ = false := by
  unfold strO at h
  exact ⟨by rw [cell_of_row W a _ _ _ (0, 0) h]; rfl, by simp [World.frozen?, h]⟩
theorem atO_set {W : World} {a k : Nat} (h : W.heap[a]? = some (atO k)) (j : Nat) : (W.setCell ⟨a, 0, none⟩ (.int .i64 (j : Int))).heap[a]? = some (atO j) := by
  unfold atO at h
  simp [World.setCell, Array.getElem?_modify, h, atO]
theorem but_set {n : Nat} {W : World} {a : Nat} (v : Value) : But n (some a) W (W.setCell ⟨a, 0, none⟩ v) :=
  ⟨rfl, rfl, rfl, by simp [World.setCell], fun b _ hx => by
    simp [World.setCell, Array.getElem?_modify]
    intro e; subst e; exact absurd rfl hx⟩
theorem but_drewN {n : Nat} {x : Option Nat} {a w : World} (h : But n x a w) (q : Nat) : But n x a (w.drewN q) := ⟨h.os, h.tape, h.output, h.size, h.block⟩

/-- whether a set holds the byte at a place -/
def hitL (s : ByteArray) (k : Nat) (l : List UInt8) : Bool := l.any fun c => decide (s.data.toList[k]? = some c)
def OneRel (set s : ByteArray) (k : Nat) (W : World) (iv : Value) (wr : World) : Prop := ∃ i q : Nat, i ≤ set.size ∧ iv = .int .i64 (i : Int) ∧ hitL s k (set.data.toList.take i) = false ∧ wr = W.drewN q
theorem hit_snoc (s : ByteArray) (k : Nat) (set : ByteArray) (i : Nat) (hi : i < set.size) : hitL s k (set.data.toList.take (i + 1)) = (hitL s k (set.data.toList.take i) || decide (s.data.toList[k]? = some set[i])) := by
  rw [List.take_succ_eq_append_getElem (by simpa using hi)]
  unfold hitL
  rw [List.any_append]
  simp
  rfl
theorem hit_true (s : ByteArray) (k : Nat) (set : ByteArray) (i : Nat) (hi : i < set.size) (h : s.data.toList[k]? = some set[i]) : hitL s k set.data.toList = true := by
  unfold hitL
  rw [List.any_eq_true]
  exact ⟨set[i], by show set.data[i] ∈ _; simp, by simpa using h⟩
theorem place_get (s : ByteArray) (k : Nat) (hk : k < s.size) : s.data.toList[k]? = some s[k] := List.getElem?_eq_getElem (by simpa using hk)

def OneP (m : Bool) (a k : Nat) (W : World) (e : Ending) (W' : World) : Prop := e = .returned (.bool m) ∧ W'.heap[a]? = some (atO (if m then k + 1 else k)) ∧ But W.heap.size (some a) W W'
set_option maxRecDepth 100000 in
set_option maxHeartbeats 1000000 in
theorem one_any (set s : ByteArray) (a b k : Nat) (W : World) (m : Bool) (hm : hitL s k set.data.toList = m) (hA : W.heap[a]? = some (atO k)) (hS : W.heap[b]? = some (strO s)) (hs : s.size ≤ 1000) (hset : set.size ≤ 10) (hk : k ≤ s.size) :
    Calls Tryz.prog 191 #[.string set, .pointer (some ⟨a, 0, none⟩), .pointer (some ⟨b, 0, none⟩)] W (OneP m a k W) := by
  obtain ⟨a0, a1⟩ := atO_at hA
  obtain ⟨b0, b1⟩ := strO_at hS
  have HA := hide hA
  have HM := hide hm
  clear hm hA hS
  go_enter Tryz.func191, Tryz.ntmps191
  go_wp2_with fail
  go_loopw [8] (fun iv wr => OneRel set s k W iv wr) (fun iv _ => set.size - (intOf iv).toNat)
  case atStart => exact ⟨0, 0, Nat.zero_le _, rfl, rfl, rfl⟩
  case round =>
    obtain ⟨i, q, hi, rfl, hno, hwr⟩ := hrel
    have HNO := hide hno
    clear hno
    by_cases hlt : i < set.size
    · have c0 : wr.cell? ⟨a, 0, none⟩ = some (.int .i64 (k : Int)) := by rw [hwr]; exact a0
      have c1 : wr.frozen? ⟨a, 0, none⟩ = false := by rw [hwr]; exact a1
      have d0 : wr.cell? ⟨b, 0, none⟩ = some (.string s) := by rw [hwr]; exact b0
      have HA2 := hide (show wr.heap[a]? = some (atO k) by rw [hwr]; exact HA.out)
      have HBU := hide (show But W.heap.size (some a) W wr by rw [hwr]; exact but_drewN (But.refl _ _ _) q)
      have HWR := hide hwr
      have HSN := hide (hit_snoc s k set i hlt)
      have hi1 : (i : Int) < (set.size : Int) := by omega
      have hi3 : (0 : Int) ≤ (i : Int) := by omega
      have hk3 : (0 : Int) ≤ (k : Int) := by omega
      clear hwr a0 a1 b0 b1
      by_cases hks : k < s.size
      · have hk1 : (k : Int) < (s.size : Int) := by omega
        have hd : decide (k < s.size) = true := decide_eq_true hks
        by_cases he : s[k] = set[i]
        · have HT := hide (hit_true s k set i hlt ((place_get s k hks).trans (by rw [he])))
          have t1 : ((s[k].toNat : Int) == (set[i].toNat : Int)) = true := by rw [he]; simp
          clear he
          go_upto_region 4 with (fail)
          go_quiet (fail)
          go_wp2_with fail
          go_ret
          have hmt : m = true := HM.out.symm.trans HT.out
          subst hmt
          refine ⟨rfl, ?_, ?_⟩
          · exact atO_set (W := wr.drewN nq) HA2.out (k + 1)
          · exact HBU.out.trans ((but_drewN (But.refl _ _ wr) nq).trans (but_set (W := wr.drewN nq) _))
        · have hne : s[k].toNat ≠ set[i].toNat := fun e => he (UInt8.toNat_inj.1 e)
          have t1 : ((s[k].toNat : Int) == (set[i].toNat : Int)) = false := beq_eq_false_iff_ne.2 (by omega)
          have HN2 := hide (show hitL s k (set.data.toList.take (i + 1)) = false by
            rw [HSN.out, HNO.out, place_get s k hks, decide_eq_false (fun e => he (Option.some.inj e))]; rfl)
          clear he hne
          go_upto_region 4 with (fail)
          go_quiet (fail)
          go_wp2_with fail
          go_roundw
          case rel => exact ⟨i + 1, q + nq, by omega, by go_num, HN2.out, by rw [HWR.out]; simp [World.drewN, Nat.add_assoc]⟩
          case measure => simp [intOf]; omega
      · have hd : decide (k < s.size) = false := decide_eq_false hks
        have HN2 := hide (show hitL s k (set.data.toList.take (i + 1)) = false by
          rw [HSN.out, HNO.out, List.getElem?_eq_none (by simp; omega)]; rfl)
        go_upto_region 4 with (fail)
        go_quiet (fail)
        go_wp2_with fail
        go_roundw
        case rel => exact ⟨i + 1, q + nq, by omega, by go_num, HN2.out, by rw [HWR.out]; simp [World.drewN, Nat.add_assoc]⟩
        case measure => simp [intOf]; omega
    · have hie : i = set.size := by omega
      subst hie
      have hno := HNO.out
      rw [List.take_of_length_le (by simp), HM.out] at hno
      subst hno
      have HA2 := hide (show wr.heap[a]? = some (atO k) by rw [hwr]; exact HA.out)
      have HBU := hide (show But W.heap.size (some a) W wr by rw [hwr]; exact but_drewN (But.refl _ _ _) q)
      clear hwr
      go_wp2_with fail
      go_ret
      exact ⟨rfl, HA2.out, HBU.out⟩

theorem dgt_stop (s : ByteArray) (k j : Nat) (hk : k + j ≤ s.size) (hall : ((s.data.toList.drop k).take j).all dgC = true) (hst : ∀ c, s.data.toList[k + j]? = some c → dgC c = false) :
    (dgs (s.data.toList.drop k)).length = j ∧ s.extract k (k + j) = bs (dgs (s.data.toList.drop k)) := by
  have hl : (s.data.toList.drop k).length = s.size - k := by simp
  obtain ⟨h1, _⟩ := dgs_stop (l := s.data.toList.drop k) (k := j) (by omega) hall (fun c hc => hst c (by rw [List.getElem?_drop] at hc; exact hc))
  have h2 : (dgs (s.data.toList.drop k)).length = j := by rw [h1, List.length_take]; omega
  refine ⟨h2, ?_⟩
  have := (dgs_place s k (by omega)).2.1
  rw [h2] at this
  exact this
theorem dgt_more (s : ByteArray) (k j : Nat) (hk : k + j < s.size) (hall : ((s.data.toList.drop k).take j).all dgC = true) (hd : dgC s[k + j] = true) : ((s.data.toList.drop k).take (j + 1)).all dgC = true := by
  have hg : (s.data.toList.drop k)[j]? = some s[k + j] := by rw [List.getElem?_drop]; exact place_get s _ hk
  rw [List.take_add_one, hg, List.all_append, hall]
  simp [hd]
theorem dgC_not {c : UInt8} (h : ¬ dgC c = true) : c.toNat < 48 ∨ (48 ≤ c.toNat ∧ 57 < c.toNat) := by
  unfold dgC at h
  simp at h
  omega

def DgtRel (s : ByteArray) (a k : Nat) (W wr : World) : Prop := ∃ j : Nat, k + j ≤ s.size ∧ ((s.data.toList.drop k).take j).all dgC = true ∧ wr.heap[a]? = some (atO (k + j)) ∧ But W.heap.size (some a) W wr
def atOf (w : World) (a : Nat) : Nat := match w.cell? ⟨a, 0, none⟩ with
  | some (.int _ n) => n.toNat
  | _ => 0
theorem atOf_is {w : World} {a k : Nat} (h : w.heap[a]? = some (atO k)) : atOf w a = k := by unfold atOf; rw [(atO_at h).1]; simp
set_option maxRecDepth 100000 in
set_option maxHeartbeats 1000000 in
theorem dgt_any (s : ByteArray) (a b k : Nat) (W : World) (hab : a ≠ b) (hb : b < W.heap.size) (hA : W.heap[a]? = some (atO k)) (hS : W.heap[b]? = some (strO s)) (hs : s.size ≤ 1000) (hk : k ≤ s.size) :
    Calls Tryz.prog 192 #[.pointer (some ⟨a, 0, none⟩), .pointer (some ⟨b, 0, none⟩)] W fun e W' => e = .returned (.string (bs (dgs (s.data.toList.drop k)))) ∧ W'.heap[a]? = some (atO (k + (dgs (s.data.toList.drop k)).length)) ∧ But W.heap.size (some a) W W' := by
  obtain ⟨a0, a1⟩ := atO_at hA
  obtain ⟨b0, b1⟩ := strO_at hS
  have HA := hide hA
  have HS := hide hS
  clear hA hS
  go_enter Tryz.func192, Tryz.ntmps192
  go_wp2_with fail
  go_loopw [] (fun wr => DgtRel s a k W wr) (fun wr => s.size - atOf wr a)
  case atStart => exact ⟨0, hk, rfl, HA.out, But.refl _ _ _⟩
  case round =>
    obtain ⟨j, hj, hall, hAj, hbu⟩ := hrel
    have hSj : wr.heap[b]? = some (strO s) := (hbu.block b hb (fun e => hab (Option.some.inj e).symm)).trans HS.out
    obtain ⟨c0, c1⟩ := atO_at hAj
    obtain ⟨d0, d1⟩ := strO_at hSj
    have HAJ := hide hAj
    have HALL := hide hall
    have HBU := hide hbu
    have hk3 : (0 : Int) ≤ ((k + j : Nat) : Int) := by omega
    obtain ⟨p, hp⟩ : ∃ p, k + j = p := ⟨_, rfl⟩
    rw [hp] at c0 HAJ hk3 hj
    have HP := hide hp
    clear hall hAj hbu hSj hp a0 a1 b0 b1
    by_cases hks : p < s.size
    · have hk1 : (p : Int) < (s.size : Int) := by omega
      have hd : decide (p < s.size) = true := decide_eq_true hks
      by_cases hdg : dgC s[p] = true
      · have hle := dg_le hdg
        have t1 : decide (48 ≤ (s[p].toNat : Int)) = true := decide_eq_true (by omega)
        have t2 : decide ((s[p].toNat : Int) ≤ 57) = true := decide_eq_true (by omega)
        go_wp2_with fail
        have hj2 := HP.out
        subst hj2
        have hset := atO_set HAJ.out (k + j + 1)
        refine ⟨⟨j + 1, by omega, dgt_more s k j hks HALL.out hdg, hset, HBU.out.trans (but_set _)⟩, ?_⟩
        rw [atOf_is HAJ.out]
        have := atOf_is hset
        have e : ((k + j + 1 : Nat) : Int) = ((k + j : Nat) : Int) + 1 := by omega
        rw [e] at this
        rw [this]
        omega
      · have HX := hide (show (dgs (s.data.toList.drop k)).length = j ∧ s.extract k p = bs (dgs (s.data.toList.drop k)) by
          have hj2 := HP.out
          subst hj2
          exact dgt_stop s k j hj HALL.out (fun c hc => by rw [place_get s _ hks] at hc; injection hc with hc; subst hc; simpa using hdg))
        have hkp : k ≤ p := by have := HP.out; omega
        rcases dgC_not hdg with h1 | ⟨h1, h2⟩
        · have t1 : decide (48 ≤ (s[p].toNat : Int)) = false := decide_eq_false (by omega)
          clear hdg h1
          go_wp2_with fail
          go_ret
          exact ⟨by rw [HX.out.2]; rfl, by rw [HX.out.1, HP.out]; exact HAJ.out, HBU.out⟩
        · have t1 : decide (48 ≤ (s[p].toNat : Int)) = true := decide_eq_true (by omega)
          have t2 : decide ((s[p].toNat : Int) ≤ 57) = false := decide_eq_false (by omega)
          clear hdg h1 h2
          go_wp2_with fail
          go_ret
          exact ⟨by rw [HX.out.2]; rfl, by rw [HX.out.1, HP.out]; exact HAJ.out, HBU.out⟩
    · have hd : decide (p < s.size) = false := decide_eq_false hks
      have HX := hide (show (dgs (s.data.toList.drop k)).length = j ∧ s.extract k p = bs (dgs (s.data.toList.drop k)) by
        have hj2 := HP.out
        subst hj2
        exact dgt_stop s k j hj HALL.out (fun c hc => by rw [List.getElem?_eq_none (by simp; omega)] at hc; cases hc))
      have hkp : k ≤ p := by have := HP.out; omega
      go_wp2_with fail
      go_ret
      exact ⟨by rw [HX.out.2]; rfl, by rw [HX.out.1, HP.out]; exact HAJ.out, HBU.out⟩

end Go.Proofs.YtdlebcijgdkfjaaGreatDoor
