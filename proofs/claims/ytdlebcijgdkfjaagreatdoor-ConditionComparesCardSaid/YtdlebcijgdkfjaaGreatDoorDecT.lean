/-
  decimal.number.text.
-/
import Derived.Test.YtdlebcijgdkfjaaGreatDoorDecN
namespace Go.Proofs.YtdlebcijgdkfjaaGreatDoor
open Go.RowKit

/-- the table of the powers of ten, as the library's numerals read it -/
structure Tab (w : World) : Prop where
  tab : Lib.TabIs Tryz.prog w "internal/strconv.uint64pow10" .u64 Lib.pow10Tab
theorem Tab.below {w w' : World} (h : Tab w) (hb : Below w.heap.size w w') : Tab w' := ⟨by
  have h0 := h.tab
  unfold Lib.TabIs World.var? at h0 ⊢
  obtain ⟨g, h1, h2⟩ := Option.bind_eq_some_iff.1 h0
  rw [h1]
  have h3 : g < w.heap.size := by
    rcases Nat.lt_or_ge g w.heap.size with h3 | h3
    · exact h3
    · rw [Array.getElem?_eq_none h3] at h2; cases h2
  show (match w'.heap[g]? with | some (.cells cs _ _) => some cs | _ => none) = _
  rw [hb.block g h3]
  exact h2⟩
theorem dec_same (n : Nat) : Lib.decDigits n = decN n := by
  induction n using Nat.strongRecOn with
  | _ n ih =>
    rw [Lib.decDigits, decN]
    split
    · rfl
    · rw [ih (n / 10) (by omega)]
theorem itoa_same (f : Int) : Lib.itoa f = decI f := by
  unfold Lib.itoa decI
  split
  · rw [dec_same]
  · rw [dec_same, show f.toNat = f.natAbs by omega]
theorem below_gr (w : World) (k : Nat) (os : Array Obj) : Below w.heap.size w (Sort.grow (w.drewN k) os) :=
  ⟨rfl, rfl, rfl, by rw [Sort.size_grow]; exact Nat.le_add_right _ _, fun _ hb => Sort.heap_grow_old (w.drewN k) os hb⟩
theorem itoa_any (f : Int) (w : World) (hT : Tab w) (h0 : -400 ≤ f) (h1 : f ≤ 400) : Calls Tryz.prog 195 #[.int .i64 f] w fun e w' => e = .returned (.string (bs (decI f))) ∧ Below w.heap.size w w' := by
  refine (Tryz.strconv_Itoa f (by omega) (by omega) w hT.tab).mono ?_
  rintro e w' ⟨rfl, k, os, rfl⟩
  exact ⟨by rw [itoa_same]; rfl, below_gr _ _ _⟩

theorem conv_row {W : World} {A : Option Addr} {l : List UInt8} (h : BytesAt W A l) (hne : l ≠ []) (c n : Nat) (hn : l.length = n) : (convert 108 9 (.slice A n c)).run Tryz.prog W = .ok (.string (bs l)) W := by
  have h0 : 0 < l.length := List.length_pos_iff.2 hne
  obtain ⟨b, off, rfl, _⟩ := h 0 l[0] (List.getElem?_eq_getElem h0)
  have hb : Lib.Bytes W b off (bs l) := fun i hi => by
    have hi' : i < l.length := by rw [bs_size] at hi; exact hi
    obtain ⟨b', off', e', hc'⟩ := h i l[i] (List.getElem?_eq_getElem hi')
    injection e' with e'
    injection e' with e1 e2
    subst e1 e2
    rw [hc']
    rfl
  have := Lib.run_convert_whole (P := Tryz.prog) W 108 5 9 Tryz.underlying108 Tryz.underlying5 Tryz.underlying9 b off (bs l) hb c
  rw [bs_size, hn] at this
  exact this
theorem BytesAt.tail {w : World} {b off : Nat} {x : UInt8} {l : List UInt8} (h : BytesAt w (some ⟨b, off, none⟩) (x :: l)) : BytesAt w (some ⟨b, off + 1, none⟩) l := fun i c hi => by
  obtain ⟨b', off', e', hc'⟩ := h (i + 1) c (by simpa using hi)
  injection e' with e'
  injection e' with e1 e2
  subst e1 e2
  exact ⟨b, off + 1, rfl, by rw [Nat.add_assoc, Nat.add_comm 1 i]; exact hc'⟩

/-- a number's box -/
def ncs (neg : Bool) (A : Option Addr) (n c : Nat) (e : Int) : Obj := .cells #[.bool neg, .slice A n c, .int .i64 e] 126 (0, 0)
theorem ncs_at {W : World} {N : Nat} {neg : Bool} {A : Option Addr} {n c : Nat} {e : Int} (h : W.heap[N]? = some (ncs neg A n c e)) :
    W.cell? ⟨N, 0, none⟩ = some (.bool neg) ∧ W.cell? ⟨N, 1, none⟩ = some (.slice A n c) ∧ W.cell? ⟨N, 2, none⟩ = some (.int .i64 e) ∧ W.frozen? ⟨N, 0, none⟩ = false ∧ W.frozen? ⟨N, 1, none⟩ = false ∧ W.frozen? ⟨N, 2, none⟩ = false := by
  unfold ncs at h
  exact ⟨by rw [cell_of_row W N _ _ _ (0, 0) h]; rfl, by rw [cell_of_row W N _ _ _ (0, 0) h]; rfl, by rw [cell_of_row W N _ _ _ (0, 0) h]; rfl, by simp [World.frozen?, h], by simp [World.frozen?, h], by simp [World.frozen?, h]⟩

theorem txt_eq (neg : Bool) (x : UInt8) (xs : List UInt8) (f : Int) : txt ⟨neg, x :: xs, f⟩ = (if neg then [45] else []) ++ (x :: ((if xs = [] then [] else 46 :: xs) ++ 101 :: decI f)) := rfl
theorem fit_not {neg : Bool} {x : UInt8} {xs : List UInt8} {f : Int} (hF : ¬ fitB ⟨neg, x :: xs, f⟩ = true) : ¬ (xs.length + 1 ≤ 17) ∨ f < -400 ∨ 400 < f := by
  apply Classical.byContradiction
  intro h
  apply hF
  unfold fitB
  simp
  omega

set_option maxRecDepth 100000 in
theorem ctext_any (d : Dec) (v : Value) (w : World) (hT : Tab w) (hn : NumIs w v d) (hl : d.ds.length ≤ 1000) (h0 : -2000000 ≤ d.fst) (h1 : d.fst ≤ 2000000) :
    Calls Tryz.prog 134 #[v] w fun e w' => (∃ v, e = .returned v ∧ TextP d v) ∧ Below w.heap.size w w' := by
  obtain ⟨A, c, rfl, hb, hc, hcb⟩ := hn
  obtain ⟨neg, ds, f⟩ := d
  dsimp only at *
  unfold nv
  cases ds with
  | nil =>
    go_enter Tryz.func134, Tryz.ntmps134
    go_wp2_with fail
    go_ret2
    exact ⟨⟨_, rfl, rfl⟩, (Below.refl _ _).alloc (Nat.le_refl _) _⟩
  | cons x xs =>
    have HE := hide (show expD ⟨neg, x :: xs, f⟩ + ((xs.length + 1 : Nat) : Int) - 1 = f by unfold expD; simp; omega)
    generalize hE : expD ⟨neg, x :: xs, f⟩ = E at *
    have hE0 : -3000000 ≤ E := by have := HE.out; simp at hl; omega
    have hE1 : E ≤ 3000000 := by have := HE.out; simp at hl; omega
    clear hE
    have hlen : (x :: xs).length = xs.length + 1 := rfl
    rw [hlen] at *
    clear hlen
    obtain ⟨b, off, rfl, _⟩ := hb 0 x rfl
    have HF := hide (fun W => cfirst_any neg (some ⟨b, off, none⟩) (xs.length + 1) c E W hl hE0 hE1)
    have HB := hide hb
    have HT := hide hT
    have tz : ((xs.length : Int) + 1 == 0) = false := beq_eq_false_iff_ne.2 (by omega)
    clear hb hT
    by_cases hF : fitB ⟨neg, x :: xs, f⟩ = true
    · have hF' := hF
      unfold fitB at hF'
      have hf3 : xs.length + 1 ≤ 17 ∧ -400 ≤ f ∧ f ≤ 400 := by simpa [and_assoc] using hF'
      obtain ⟨g1, g2, g3⟩ := hf3
      have HP := hide (show TextP ⟨neg, x :: xs, f⟩ (.tuple #[.string (bs (txt ⟨neg, x :: xs, f⟩)), .int .i64 0]) by unfold TextP; rw [if_pos hF])
      clear hF hF' hl h0 h1
      unfold nv at HF
      have HI := hide (fun W (h : Below w.heap.size w W) => itoa_any f W (HT.out.below h) g2 g3)
      have hz4 : (bs (decI f)).size ≤ 4 := by rw [bs_size]; exact decI_len f g2 g3
      have hz1 : (bs [x]).size = 1 := rfl
      have hz2 : (bs xs).size ≤ 17 := by rw [bs_size]; omega
      have HBX : Hid (bs xs = bs xs) := rfl
      go_enter Tryz.func134, Tryz.ntmps134
      go_wp2_with fail
      have hbox : (w.alloc (ncs neg (some ⟨b, off, none⟩) (xs.length + 1) c E)).heap[w.heap.size]? = some (ncs neg (some ⟨b, off, none⟩) (xs.length + 1) c E) := heap_alloc_new w _
      refine (HF.out _).mono ?_
      rw [HE.out]
      rintro e w1 ⟨rfl, b1⟩
      have hx1 := box_below b1 hbox
      obtain ⟨c0, c1, c2, f0, f1', f2⟩ := ncs_at hx1
      have B1 := hide (bstep ((Below.refl _ _).alloc (Nat.le_refl _) _) b1)
      have HX1 := hide hx1
      clear b1 hbox hx1
      go_wp2_with fail
      refine (HF.out _).mono ?_
      rw [HE.out]
      rintro e w2 ⟨rfl, b2⟩
      have hx2 := box_below b2 HX1.out
      obtain ⟨c0, c1, c2, f0, f1', f2⟩ := ncs_at hx2
      have B2 := hide (bstep B1.out b2)
      have HX2 := hide hx2
      clear b2 hx2
      have hb2 := HB.out.below B2.out
      have k1 := conv_row (hb2.take 1) (by simp) c 1 rfl
      have HB2 := hide hb2
      clear hb2
      cases xs with
      | nil =>
        have hc1 : 1 ≤ c := hc
        cases neg
        all_goals
          go_wp2_with fail
          refine (HF.out _).mono ?_
          rw [HE.out]
          rintro e w3 ⟨rfl, b3⟩
          have B3 := hide (bstep B2.out b3)
          clear b3
          go_wp2_with fail
          refine (HI.out _ B3.out).mono ?_
          rintro e w4 ⟨rfl, b4⟩
          have B4 := hide (bstep B3.out b4)
          clear b4
          go_wp2_with fail
          go_ret2
          refine ⟨⟨_, rfl, ?_⟩, B4.out⟩
          refine (congrArg (fun s => TextP _ (Value.tuple #[.string s, .int .i64 0])) ?_).mp HP.out
          apply ByteArray.ext
          simp [bs, txt]
      | cons y ys =>
        have hc1 : ys.length + 1 + 1 ≤ c := hc
        have k2 := conv_row (l := y :: ys) HB2.out.tail (by simp) (c - 1) (ys.length + 1) rfl
        cases neg
        all_goals
          go_wp2_with fail
          refine (HF.out _).mono ?_
          rw [HE.out]
          rintro e w3 ⟨rfl, b3⟩
          have B3 := hide (bstep B2.out b3)
          clear b3
          go_wp2_with fail
          refine (HI.out _ B3.out).mono ?_
          rintro e w4 ⟨rfl, b4⟩
          have B4 := hide (bstep B3.out b4)
          clear b4
          go_wp2_with fail
          go_ret2
          refine ⟨⟨_, rfl, ?_⟩, B4.out⟩
          refine (congrArg (fun s => TextP _ (Value.tuple #[.string s, .int .i64 0])) ?_).mp HP.out
          apply ByteArray.ext
          simp [bs, txt]
    · have HP := hide (show TextP ⟨neg, x :: xs, f⟩ (.tuple #[.string (bs []), .int .i64 9]) by unfold TextP; rw [if_neg hF]; exact ⟨9, by decide, rfl⟩)
      have hf3 := fit_not hF
      clear hF hl
      unfold nv at HF
      by_cases g1 : xs.length + 1 ≤ 17
      · go_enter Tryz.func134, Tryz.ntmps134
        go_wp2_with fail
        have hbox : (w.alloc (ncs neg (some ⟨b, off, none⟩) (xs.length + 1) c E)).heap[w.heap.size]? = some (ncs neg (some ⟨b, off, none⟩) (xs.length + 1) c E) := heap_alloc_new w _
        refine (HF.out _).mono ?_
        rw [HE.out]
        rintro e w1 ⟨rfl, b1⟩
        have hx1 := box_below b1 hbox
        obtain ⟨c0, c1, c2, f0, f1', f2⟩ := ncs_at hx1
        have B1 := hide (bstep ((Below.refl _ _).alloc (Nat.le_refl _) _) b1)
        have HX1 := hide hx1
        clear b1 hbox hx1
        by_cases g2 : f < -400
        · go_wp2_with fail
          go_ret2
          exact ⟨⟨_, rfl, HP.out⟩, B1.out⟩
        · have g3 : 400 < f := (hf3.resolve_left (by omega)).resolve_left g2
          go_wp2_with fail
          refine (HF.out _).mono ?_
          rw [HE.out]
          rintro e w2 ⟨rfl, b2⟩
          have B2 := hide (bstep B1.out b2)
          clear b2
          go_wp2_with fail
          go_ret2
          exact ⟨⟨_, rfl, HP.out⟩, B2.out⟩
      · go_enter Tryz.func134, Tryz.ntmps134
        go_wp2_with fail
        go_ret2
        exact ⟨⟨_, rfl, HP.out⟩, (Below.refl _ _).alloc (Nat.le_refl _) _⟩

end Go.Proofs.YtdlebcijgdkfjaaGreatDoor
