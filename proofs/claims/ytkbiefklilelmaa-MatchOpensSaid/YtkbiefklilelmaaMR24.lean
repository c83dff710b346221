/-
  Several texts in one: Starts, RangeP. Each says at its head what it holds.
-/
import Derived.Test.YtkbiefklilelmaaMR23
import Derived.Test.YtkbiefklilelmaaMR14
import Derived.Test.YtkbiefklilelmaaMR17
import Derived.Test.YtkbiefklilelmaaMR8
import Derived.Maps.RangeWalk

/-
  match.input.starts: the times of a range at which ways can begin, in order, each once.
-/
namespace Go.Proofs.Ytkbiefklilelmaa
open Go.RowKit

/-- in order, each once: the times of S -/
def ListOf (S : Int → Prop) (ps : List Int) : Prop := ps.Pairwise (· < ·) ∧ ∀ t, t ∈ ps ↔ S t
/-- the times that the first k edges give -/
def StK (x : Inp) (from_ to_ : Int) (k : Nat) (t : Int) : Prop := from_ ≤ t ∧ t ≤ to_ ∧ ∃ i e, i < k ∧ x.edges[i]? = some e ∧ e.from_ = 0 ∧ t ∈ nth x.ev e.event
theorem stK_all {x : Inp} {from_ to_ t : Int} : StK x from_ to_ x.edges.length t ↔ StartS x from_ to_ t := by
  unfold StK StartS
  constructor
  · rintro ⟨h1, h2, i, e, _, h4, h5⟩
    exact ⟨h1, h2, e, List.mem_of_getElem? h4, h5⟩
  · rintro ⟨h1, h2, e, h4, h5⟩
    obtain ⟨i, hi⟩ := List.getElem?_of_mem h4
    exact ⟨h1, h2, i, e, (List.getElem?_eq_some_iff.1 hi).1, hi, h5⟩
theorem stK_succ {x : Inp} {from_ to_ : Int} {k : Nat} {e : Edg} (he : x.edges[k]? = some e) (t : Int) : StK x from_ to_ (k + 1) t ↔ StK x from_ to_ k t ∨ (e.from_ = 0 ∧ t ∈ nth x.ev e.event ∧ from_ ≤ t ∧ t ≤ to_) := by
  unfold StK
  constructor
  · rintro ⟨h1, h2, i, e', h3, h4, h5, h6⟩
    rcases Nat.lt_or_ge i k with h7 | h7
    · exact .inl ⟨h1, h2, i, e', h7, h4, h5, h6⟩
    · have : i = k := by omega
      subst this
      rw [he] at h4
      injection h4 with h4
      subst h4
      exact .inr ⟨h5, h6, h1, h2⟩
  · rintro (⟨h1, h2, i, e', h3, h4, h5⟩ | ⟨h5, h6, h1, h2⟩)
    · exact ⟨h1, h2, i, e', by omega, h4, h5⟩
    · exact ⟨h1, h2, k, e, by omega, he, h5, h6⟩
theorem stK_zero {x : Inp} {from_ to_ t : Int} : ¬ StK x from_ to_ 0 t := fun ⟨_, _, _, _, h, _⟩ => absurd h (Nat.not_lt_zero _)

def StRel (x : MIn) (from_ to_ : Int) (W : World) (out i : Value) (wr : World) : Prop :=
  ∃ (k : Nat) (A : Option Addr) (c : Nat) (zs : List Int), k ≤ x.a.edges.length ∧ i = .int .i64 k ∧ out = .slice A zs.length c ∧ OwnInt wr W.heap.size A c zs ∧ Below W.heap.size W wr ∧ zs.length ≤ 24 * k ∧ ∀ t, t ∈ zs ↔ StK x.inp from_ to_ k t

set_option maxRecDepth 100000 in
set_option maxHeartbeats 4000000 in
theorem starts_any (x : MIn) (from_ to_ : Int) (w : World) (h : MAt w x) (ok : MOk x) :
    Calls Try.prog 57 #[.agg (encX x).toArray, .int .i64 from_, .int .i64 to_] w (RetInts w (ListOf (StartS x.inp from_ to_))) := by
  obtain ⟨x', hx'⟩ : ∃ x', x = x' := ⟨_, rfl⟩
  have HOK := hide ok
  have l1 := ok.few
  have l2 := ok.nev
  obtain ⟨W0, hW0⟩ : ∃ W0, w.alloc (.cells (encX x).toArray 83) = W0 := ⟨_, rfl⟩
  have g0 := new_at hW0
  have hb0 : Below w.heap.size w W0 := by rw [← hW0]; exact (Below.refl _ _).alloc (Nat.le_refl _) _
  have HM := hide (h.step hb0)
  have HB0 := hide hb0
  have HG0 := hide g0
  rw [hx'] at HOK HM HG0 hW0 ⊢
  obtain ⟨⟨AE, nE, cE, AC, nC, cC, AF, cF, fin, AX, cX, edges⟩, AV, cV, ev, AS, cS, cs, en⟩ := x
  dsimp only at l1 l2
  have HX := hide hx'
  have hX : encX x' = [.slice AE nE cE, .slice AC nC cC, .slice AF fin.length cF, .slice AX edges.length cX, .slice AV ev.length cV, .slice AS cs.length cS, .int .i64 en] := by rw [← hx']; rfl
  have HEX := hide hX
  rw [hX] at hW0 ⊢
  have HW0 := hide hW0
  clear h ok hX hx' hW0 g0 hb0
  go_enter Try.func57, Try.ntmps57
  go_upto_region 1 with (fail)
  rw [HW0.out]
  have u0 := HG0.out
  rw [HEX.out] at u0
  obtain ⟨-, -, -, x3, -, -, -⟩ := box7 u0
  clear u0
  go_wp2_with fail
  go_loopw [7, 14] (fun out i wr => StRel x' from_ to_ W0 out i wr) (fun _ i _ => edges.length - (intOf i).toNat)
  case atStart => exact ⟨0, none, 0, [], Nat.zero_le _, rfl, rfl, OwnInt.nil _ _, Below.refl _ _, by simp, fun t => ⟨fun h => by simp at h, fun h => absurd h stK_zero⟩⟩
  case round =>
    obtain ⟨k, A, c, zs, hk, rfl, rfl, hown, hbr, hzl, hmem⟩ := hrel
    have hk' : k ≤ edges.length := by rw [← HX.out] at hk; exact hk
    have HOWN := hide hown
    have HBR := hide hbr
    have HZL := hide hzl
    have HMEM := hide hmem
    clear hk hown hbr hzl hmem x3
    by_cases hlt : k < edges.length
    · obtain ⟨be, oe, bv, ov, j, s, f, t, wh, lo, hi, ea⟩ := edge_at HOK.out (HM.out.step HBR.out) (k := k) (by rw [← HX.out]; exact hlt)
      have ax := ea.ax
      have av := ea.av
      rw [← HX.out] at ax av
      dsimp only at ax av
      subst ax av
      obtain ⟨sA, sc, l⟩ := s
      have EA := hide ea
      obtain ⟨-, -, get, e0, e1, e2, e3, e4, e5, -, -, -, hnth, get2, len, hincr, -, -, -⟩ := ea
      have GET := hide get
      have NTH := hide hnth
      have GET2 := hide get2
      have INC := hide hincr
      dsimp only at len
      clear get hnth get2 hincr
      obtain ⟨W1, hW1⟩ : ∃ W1 : World, wr.alloc (.cells #[.int .i64 f, .int .i64 t, .int .i64 (j : Int), .int .i64 wh, .int .i64 lo, .int .i64 hi] 81) = W1 := ⟨_, rfl⟩
      have g1 := new_at hW1
      have hb1 : Below wr.heap.size wr W1 := by rw [← hW1]; exact (Below.refl _ _).alloc (Nat.le_refl _) _
      obtain ⟨f0, f1, f2, f3, f4, f5⟩ := box6 g1
      have HB1 := hide (bstep HBR.out hb1)
      have HOWN1 := hide (HOWN.out.below hb1 (Nat.le_refl _))
      have u0 := (HB1.out.block _ (box_lt HG0.out)).trans HG0.out
      rw [HEX.out] at u0
      obtain ⟨x0, x1, x2, x3, x4, x5, x6⟩ := box7 u0
      have HW1 := hide hW1
      have hkn : k + 1 ≤ x'.a.edges.length := by rw [← HX.out]; exact hlt
      have HKN := hide hkn
      clear hkn hW1 g1 u0 hb1 EA
      go_upto_region 5 with (fail)
      rw [HW1.out]
      generalize wr.heap.size = Be at *
      clear e0 e1 e2 e3 e4 e5
      by_cases hf : f = 0
      · have T1 : (f == 0) = true := beq_iff_eq.2 hf
        have HF := hide hf
        clear hf
        have hgt : x'.ev[j]'(List.getElem?_eq_some_iff.1 GET2.out).1 = ⟨sA, sc, l⟩ := (List.getElem?_eq_some_iff.1 GET2.out).2
        have ht := times_any x' j (List.getElem?_eq_some_iff.1 GET2.out).1 (j : Int) from_ to_ rfl W1 (HM.out.step HB1.out) (by rw [hgt]; dsimp only; omega) (by rw [hgt]; exact INC.out.1) (by rw [← HX.out]; dsimp only; omega)
        rw [HEX.out, hgt] at ht
        dsimp only at ht
        have HT := hide ht
        clear ht hgt
        go_wp2_with fail
        refine HT.out.mono ?_
        rintro e w4 ⟨Bi, Bl, Bq, rfl, hb4, hBi, hBl, hBq, hne1, hne2, tb⟩
        have hown4 := HOWN1.out.below hb4 (Nat.le_refl _)
        have hlo : ∀ g, ob A = some g → g < W1.heap.size := fun g hg => (own_ob HOWN1.out g hg).2
        have has := appseq_any W0.heap.size W0.heap.size Bi Bl Bq A c zs sA sc (l.countP (· < from_)) l to_ w4 hown4 (Nat.le_trans HB1.out.size hb4.size) (by have := HZL.out; omega) len List.countP_le_length tb (Nat.le_refl _)
          ((HM.out.ev.each ⟨sA, sc, l⟩ (List.mem_of_getElem? GET2.out)).below (bstep HB1.out hb4)) (Nat.le_trans HB1.out.size hBi) hne1 hne2 (fun e => by have := hlo _ e; omega) (fun e => by have := hlo _ e; omega) (fun e => by have := hlo _ e; omega)
        have HAS := hide has
        have HB4 := hide (bstep HB1.out hb4)
        clear has hown4 hlo tb hb4 hBi hBl hBq hne1 hne2 f0 f1 f2 f3 f4 f5 x0 x1 x2 x3 x4 x5 x6
        obtain ⟨ts, hts⟩ : ∃ ts, upTo l (l.countP (· < from_)) to_ = ts := ⟨_, rfl⟩
        have htl : ts.length ≤ 24 := by rw [← hts]; exact Nat.le_trans (upTo_len _ _ _) len
        have HTM := hide (show ∀ u, u ∈ ts ↔ u ∈ l ∧ from_ ≤ u ∧ u ≤ to_ from fun u => by rw [← hts]; exact upTo_mem INC.out.1)
        rw [hts] at HAS
        clear hts
        go_wp2_with fail
        refine HAS.out.mono ?_
        rintro e w5 ⟨A5, c5, rfl, hown5, -, -, hb5⟩
        have HN := hide (show ∀ u, u ∈ zs ++ ts ↔ StK x'.inp from_ to_ (k + 1) u from fun u => by
          rw [stK_succ GET.out, List.mem_append, HMEM.out, HTM.out, show nth x'.inp.ev (j : Int) = l from NTH.out]
          refine or_congr_right ⟨fun h => ⟨HF.out, h⟩, fun h => h.2⟩)
        have hzt : (zs ++ ts).length ≤ 24 * (k + 1) := by rw [List.length_append]; have := HZL.out; omega
        have HZT := hide hzt
        have HOWN5 := hide hown5
        have HB5 := hide (HB4.out.trans hb5)
        clear hzt hown5 hb5 HAS HTM htl
        generalize zs ++ ts = us at *
        go_wp2_with fail
        exact ⟨⟨k + 1, A5, c5, us, HKN.out, by go_num, rfl, HOWN5.out, HB5.out, HZT.out, HN.out⟩, by simp [intOf]; omega⟩
      · have T1 : (f == 0) = false := beq_eq_false_iff_ne.2 hf
        have HN := hide (show ∀ u, u ∈ zs ↔ StK x'.inp from_ to_ (k + 1) u from fun u => by
          rw [stK_succ GET.out, HMEM.out]
          exact ⟨.inl, fun h => h.elim id fun h => absurd h.1 hf⟩)
        clear hf
        go_wp2_with fail
        exact ⟨⟨k + 1, A, c, zs, HKN.out, by go_num, rfl, HOWN1.out, HB1.out, by have := HZL.out; omega, HN.out⟩, by simp [intOf]; omega⟩
    · have hke : k = edges.length := by omega
      subst hke
      have hsl : (zs.mergeSort fun x y => decide (x ≤ y)).length = zs.length := List.length_mergeSort _
      have HSL := hide hsl
      have hz960 : zs.length ≤ 960 := by have := HZL.out; omega
      clear hsl
      go_wp2_with fail
      refine (sortInts_any W0.heap.size A c zs _ HOWN.out (by omega) HBR.out.size).mono ?_
      rintro e w2 ⟨rfl, hown2, hb2⟩
      have hss := mergeSort_sorted zs
      have hsm : ∀ v, v ∈ (zs.mergeSort fun x y => decide (x ≤ y)) ↔ v ∈ zs := fun v => List.mem_mergeSort
      rw [← HSL.out] at hz960 ⊢
      generalize (zs.mergeSort fun x y => decide (x ≤ y)) = ys at *
      have HSM := hide hsm
      have HSS := hide hss
      clear hsm hss
      go_wp2_with fail
      refine (compactInts_any W0.heap.size A c ys _ hown2 (by omega) (Nat.le_trans HBR.out.size hb2.size)).mono ?_
      rintro e w3 ⟨rfl, hown3, hb3⟩
      go_wp2_with fail
      go_ret
      exact ⟨A, c, Lib.compact ys, rfl, hown3.lower HB0.out.size, HB0.out.trans ((HBR.out.trans (hb2.trans hb3)).mono HB0.out.size), compact_sorted ys HSS.out, fun v => by
        rw [compact_mem, HSM.out, HMEM.out, ← stK_all]
        have e9 : x'.inp.edges.length = edges.length := by rw [← HX.out]; rfl
        rw [e9]⟩

end Go.Proofs.Ytkbiefklilelmaa

/-
  Ranging over a map of pairs: which pairs have come.
-/
namespace Go.Proofs.Ytkbiefklilelmaa
open Go.RowKit

/-- the pairs that have come -/
def Vis (m : Int → Int → Prop) (left : Lit → Bool) (s t : Int) : Prop := m s t ∧ left (kL s t) = false
def HoldsP (D : DataW Unit) (m : Int → Int → Prop) : Prop := ∀ s t, I64 s → I64 t → (¬ m s t → Maps.has D (kL s t) = false) ∧ (m s t → Maps.has D (kL s t) = true ∧ ∀ z, D.atKey (kL s t) z = .lit (.bool true))
theorem vis_start {D : DataW Unit} {m : Int → Int → Prop} (hD : HoldsP D m) (h64 : ∀ s t, m s t → I64 s ∧ I64 t) (s t : Int) : ¬ Vis m (Maps.has D) s t := fun ⟨h1, h2⟩ => by
  obtain ⟨h3, h4⟩ := h64 s t h1
  rw [((hD s t h3 h4).2 h1).1] at h2
  cases h2
theorem vis_end {m : Int → Int → Prop} {left : Lit → Bool} (h : ∀ kl, left kl = false) (s t : Int) : Vis m left s t ↔ m s t := ⟨fun h1 => h1.1, fun h1 => ⟨h1, h _⟩⟩
theorem same_kL (s t : Int) : (kL s t).sameKey (kL s t) = true := by simp [kL, Lit.sameKey]
theorem vis_step {m : Int → Int → Prop} (h64 : ∀ s t, m s t → I64 s ∧ I64 t) {left : Lit → Bool} {s t : Int} (hm : m s t) (s' t' : Int) :
    Vis m (fun z => left z && !z.sameKey (kL s t)) s' t' ↔ Vis m left s' t' ∨ (s' = s ∧ t' = t) := by
  unfold Vis
  constructor
  · rintro ⟨h1, h2⟩
    by_cases e : s' = s ∧ t' = t
    · exact .inr e
    · left
      refine ⟨h1, ?_⟩
      have hne : kL s' t' ≠ kL s t := fun h => e (kL_inj (h64 _ _ h1).1 (h64 _ _ h1).2 (h64 _ _ hm).1 (h64 _ _ hm).2 h)
      dsimp only at h2
      rw [Maps.sameKey_ne hne] at h2
      simpa using h2
  · rintro (⟨h1, h2⟩ | ⟨rfl, rfl⟩)
    · exact ⟨h1, by dsimp only; rw [h2]; rfl⟩
    · exact ⟨hm, by dsimp only; rw [same_kL]; simp⟩
/-- keys and elements, in structures of their own (so that the walk takes no quantifier over them apart) -/
structure KP where
  s : Int
  t : Int
structure BV where
  b : Bool
def mkKP (p : KP) : Value := pairV p.s p.t
def mkBV (b : BV) : Value := .bool b.b
/-- what has come is a pair of the set -/
theorem come_pair {D : DataW Unit} {m : Int → Int → Prop} (hD : HoldsP D m) {x : KP} {kl : Lit} {d : DataW Unit} (hkey : keyOf Try.prog 112 (mkKP x) = some kl) (hat : ∀ zd, D.atKey kl zd = d) : kl = kL x.s x.t ∧ I64 x.s ∧ I64 x.t ∧ m x.s x.t := by
  obtain ⟨st, e1, h1, h2, rfl⟩ := keyOf_pair_inv hkey
  unfold mkKP pairV at e1
  have e2 : x.s = st.1 ∧ x.t = st.2 := by simpa using e1
  rw [← e2.1] at h1
  rw [← e2.2] at h2
  rw [← e2.1, ← e2.2] at hat ⊢
  refine ⟨rfl, h1, h2, Classical.byContradiction fun hn => ?_⟩
  have := (hD _ _ h1 h2).1 hn
  rw [Maps.has_true_of_atKey hat] at this
  cases this
theorem invPair (key : Value) (kl : Lit) (h : keyOf Try.prog 112 key = some kl) : ∃ x : KP, key = mkKP x := by
  obtain ⟨st, e, _⟩ := keyOf_pair_inv h
  exact ⟨⟨st.1, st.2⟩, e⟩
theorem invBool (v : Value) (y : DataW Unit × List MemPlace) (h : plainElem Try.prog 4 v = some y) : ∃ c : BV, v = mkBV c := by
  obtain ⟨c, e, _⟩ := elem_bool_inv Try.underlying4 h
  exact ⟨⟨c⟩, e⟩

end Go.Proofs.Ytkbiefklilelmaa
