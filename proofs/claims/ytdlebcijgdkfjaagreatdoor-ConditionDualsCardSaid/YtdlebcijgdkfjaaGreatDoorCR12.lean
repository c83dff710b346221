/-
  Several texts in one: Ints, Cuts. Each says at its head what it holds.
-/
import Derived.Test.YtdlebcijgdkfjaaGreatDoorCR10
import Derived.Test.YtdlebcijgdkfjaaGreatDoorCR11
import Derived.Lib.OwnBridge
import Derived.Test.YtdlebcijgdkfjaaGreatDoorShelf

/-
  Words for slices of integers in memory.
-/
namespace Go.Proofs.YtdlebcijgdkfjaaGreatDoor
open Go.RowKit Go.Joins

/-- a slice of integers -/
def IntsAt (w : World) (B : Nat) (A : Option Addr) (zs : List Int) : Prop :=
  zs ≠ [] → ∃ b off, A = some ⟨b, off, none⟩ ∧ b < B ∧ ∀ i z, zs[i]? = some z → w.cell? ⟨b, off + i, none⟩ = some (.int .i64 z)
def OwnInt (w : World) (base : Nat) (A : Option Addr) (c : Nat) (zs : List Int) : Prop := w.ownsRow base 3 1 (.slice A zs.length c) zs.length (zs.map (Value.int .i64))

section
variable {w w' : World} {B B' base base' : Nat} {A : Option Addr} {c : Nat} {zs : List Int}
theorem IntsAt.nil : IntsAt w B A [] := fun h => absurd rfl h
theorem IntsAt.keep (h : IntsAt w B A zs) (hk : ∀ p : Addr, p.block < B → w'.cell? p = w.cell? p) : IntsAt w' B A zs := fun hx => by
  obtain ⟨b, off, e, hb, hc⟩ := h hx
  exact ⟨b, off, e, hb, fun i x hi => (hk _ hb).trans (hc i x hi)⟩
theorem IntsAt.below (h : IntsAt w B A zs) (hb : Below B w w') : IntsAt w' B A zs := h.keep fun _ hp => hb.cell hp
theorem IntsAt.more (h : IntsAt w B A zs) (hB : B ≤ B') : IntsAt w B' A zs := fun hx => by
  obtain ⟨b, off, e, hb, hc⟩ := h hx
  exact ⟨b, off, e, by omega, hc⟩
theorem IntsAt.drewN (h : IntsAt w B A zs) (n : Nat) : IntsAt (w.drewN n) B A zs := h
theorem IntsAt.at_ (h : IntsAt w B A zs) {k : Nat} (hk : k < zs.length) : ∃ b off, A = some ⟨b, off, none⟩ ∧ b < B ∧ w.cell? ⟨b, off + k, none⟩ = some (.int .i64 zs[k]) := by
  obtain ⟨b, off, e, hb, hc⟩ := h (fun e => by subst e; simp at hk)
  exact ⟨b, off, e, hb, hc k zs[k] (List.getElem?_eq_getElem hk)⟩
theorem OwnInt.nil (w : World) (base : Nat) : OwnInt w base none 0 [] := World.ownsRow_nil w base _ 1
theorem OwnInt.lower (h : OwnInt w base A c zs) (hb : base' ≤ base) : OwnInt w base' A c zs := Joins.ownsRow_le h hb
theorem OwnInt.alloc (h : OwnInt w base A c zs) (o : Obj) : OwnInt (w.alloc o) base A c zs := World.ownsRow.alloc h o
theorem OwnInt.drewN (h : OwnInt w base A c zs) (n : Nat) : OwnInt (w.drewN n) base A c zs := h
theorem OwnInt.below {B : Nat} (h : OwnInt w base A c zs) (hb : Below B w w') (hB : w.heap.size ≤ B) : OwnInt w' base A c zs := by
  refine ⟨h.1, ?_⟩
  rcases h.2 with h2 | ⟨g, cap, cur, h2, h3, h4, h5⟩
  · exact .inl h2
  · exact .inr ⟨g, cap, cur, h2, h3, (hb.block g (by have := (Array.getElem?_eq_some_iff.1 h4).1; omega)).trans h4, h5⟩
theorem OwnInt.form (h : OwnInt w base A c zs) : (A = none ∧ c = 0 ∧ zs = []) ∨ ∃ g, A = some ⟨g, 0, none⟩ ∧ base ≤ g ∧ g < w.heap.size ∧ zs.length ≤ c ∧ c ≤ maxLen := by
  rcases h.2 with ⟨h1, h2⟩ | ⟨g, cap, cur, h1, h2, h3, h4, h5, _⟩
  · injection h1 with h1 _ h3
    exact .inl ⟨h1, h3, List.eq_nil_of_length_eq_zero h2⟩
  · injection h1 with h1 _ h1'
    subst h1 h1'
    exact .inr ⟨g, rfl, h2, (Array.getElem?_eq_some_iff.1 h3).1, h4, h5⟩
theorem OwnInt.block (h : OwnInt w base A c zs) : ∀ k, (Value.slice A zs.length c).ownBlock = some k → base ≤ k := fun k hk => (World.ownsRow.lt h k hk).1
theorem OwnInt.ats (h : OwnInt w base A c zs) : IntsAt w w.heap.size A zs := fun hx => by
  rcases h.form with ⟨_, _, h3⟩ | ⟨g, rfl, _, h2, _, _⟩
  · exact absurd h3 hx
  · refine ⟨g, 0, rfl, h2, fun i x hi => ?_⟩
    have hlt : i < zs.length := (List.getElem?_eq_some_iff.1 hi).1
    rw [Nat.zero_add, World.ownsRow.cellAt h _ (by omega), List.getElem?_map, hi]
    rfl
theorem OwnInt.of_row {v : Value} {n : Nat} {vs : List Value} (h : w.ownsRow base 3 1 v n vs) (hn : n = zs.length) (hv : vs = zs.map (Value.int .i64)) : ∃ A c, v = .slice A zs.length c ∧ OwnInt w base A c zs := by
  subst hn hv
  rcases Joins.ownsRow_forms h with ⟨rfl, h0⟩ | ⟨g, cap, rfl⟩
  · exact ⟨none, 0, by rw [h0], by unfold OwnInt; rw [h0] at h ⊢; exact h⟩
  · exact ⟨_, cap, rfl, h⟩
end

theorem IntsAt.step {w w' : World} {A : Option Addr} {zs : List Int} (h : IntsAt w w.heap.size A zs) (hb : Below w.heap.size w w') : IntsAt w' w'.heap.size A zs := (h.below hb).more hb.size
theorem IntsAt.alloc {w : World} {A : Option Addr} {zs : List Int} (h : IntsAt w w.heap.size A zs) (o : Obj) : IntsAt (w.alloc o) (w.alloc o).heap.size A zs := h.step ((Below.refl _ _).alloc (Nat.le_refl _) _)
theorem IntsAt.drop {w : World} {B b off : Nat} {zs : List Int} (h : IntsAt w B (some ⟨b, off, none⟩) zs) (k : Nat) : IntsAt w B (some ⟨b, off + k, none⟩) (zs.drop k) := fun hne => by
  have hz : zs ≠ [] := fun e => hne (by rw [e]; simp)
  obtain ⟨b', off', e, hb, hc⟩ := h hz
  injection e with e
  injection e with e1 e2
  subst e1 e2
  refine ⟨b, off + k, rfl, hb, fun i z hi => ?_⟩
  rw [List.getElem?_drop] at hi
  rw [Nat.add_assoc]
  exact hc _ z hi
theorem IntsAt.take {w : World} {B : Nat} {A : Option Addr} {zs : List Int} (h : IntsAt w B A zs) (k : Nat) : IntsAt w B A (zs.take k) := fun hne => by
  obtain ⟨b, off, e, hb, hc⟩ := h (fun e => hne (by rw [e]; simp))
  refine ⟨b, off, e, hb, fun i z hi => ?_⟩
  rw [List.getElem?_take] at hi
  split at hi
  · exact hc _ z hi
  · cases hi

/-- 'append(out, xs...)' of integers that were laid into a block just before -/
theorem append_ints {ops : Array Oper} {rest : List Oper} {o : Oper} {a : Act} {Q : Exit → Act → World → Prop} {w : World} (hgd : o.guard = none) (s x : Operand)
    (ho : o.op = .call { callee := .builtin .append, args := #[s, x], argTypes := #[85, 85] })
    (base : Nat) (A : Option Addr) (c : Nat) (zs : List Int) (n : Nat) (hs : a.eval s = .slice A n c) (hn : n = zs.length) (news : List Int) (m cc : Nat)
    (N : Nat) (hx : a.eval x = .slice (some ⟨N, 0, none⟩) m cc) (hm : m = news.length) (hne : news ≠ []) (cs : Array Value) (wp : World) (hw : w.heap = wp.heap.push (.cells cs 3)) (hcs : cs.toList = news.map (Value.int .i64)) (hN : N = wp.heap.size)
    (hown : OwnInt wp base A c zs) (hlen : n + m ≤ 8796093022208) (hbase : base ≤ wp.heap.size)
    (h : ∀ (g c' : Nat) (w' : World) (row : Option Nat), OwnInt w' base (some ⟨g, 0, none⟩) c' (zs ++ news) → base ≤ g → w.grownBy w' row → (∀ k, row = some k → base ≤ k) →
      wpList Tryz.prog ops Q rest (a.put o.dst (.slice (some ⟨g, 0, none⟩) (n + m) c')) w') :
    wpList Tryz.prog ops Q (o :: rest) a w := by
  subst hn hm hN
  obtain ⟨i0, hi0, hz0, hz1, hz2⟩ := info_parts infoInt
  refine wpList_append_own _ hgd s x 85 ho base 3 i0 _ 1 8 Tryz.underlying85 hi0 hz0 hz1 hz2 rfl (by decide) _ zs.length (zs.map (Value.int .i64)) hs (own_push hown hw)
    ⟨wp.heap.size, 0, none⟩ news.length cc (news.map (Value.int .i64)) hx (by simp) (fun j u hu => by rw [cells_push hw, ← Array.getElem?_toList, hcs]; exact hu) (by simp [Value.oneCell']) (by simp only [maxLen]; omega) (by omega) (by rw [hw]; simp; omega) ?_
  intro v' w' ho' hg _
  obtain ⟨A', c', rfl, ho''⟩ := OwnInt.of_row (zs := zs ++ news) ho' (by simp) (by simp)
  rcases ho''.form with ⟨_, _, h3⟩ | ⟨g, rfl, h1, _⟩
  · simp [hne] at h3
  · have := h g c' w' _ ho'' h1 hg hown.block
    simpa using this

/-- what a function returns that makes a list of integers of which R holds, in memory of its own -/
def RetInts (w : World) (R : List Int → Prop) (e : Ending) (w' : World) : Prop :=
  ∃ (A : Option Addr) (c : Nat) (ps : List Int), e = .returned (.slice A ps.length c) ∧ OwnInt w' w.heap.size A c ps ∧ Below w.heap.size w w' ∧ R ps

end Go.Proofs.YtdlebcijgdkfjaaGreatDoor

/-
  intervals.cuts: the beginnings and the ends of two normal lists, in order, each once.
-/
namespace Go.Proofs.YtdlebcijgdkfjaaGreatDoor
open Go.RowKit Go.Joins

def CutsOut (w : World) (a b : List Iv) (out i : Value) (wr : World) : Prop :=
  ∃ (k : Nat) (A : Option Addr) (c : Nat), k ≤ 2 ∧ i = .int .i64 k ∧ out = .slice A (cutsOf ([a, b].take k).flatten).length c ∧ OwnInt wr w.heap.size A c (cutsOf ([a, b].take k).flatten) ∧ Below w.heap.size w wr
def CutsIn (w : World) (pre l : List Iv) (out i : Value) (wr : World) : Prop :=
  ∃ (k : Nat) (A : Option Addr) (c : Nat), k ≤ l.length ∧ i = .int .i64 k ∧ out = .slice A (cutsOf (pre ++ l.take k)).length c ∧ OwnInt wr w.heap.size A c (cutsOf (pre ++ l.take k)) ∧ Below w.heap.size w wr

theorem cuts_take_succ (pre l : List Iv) (k : Nat) (hk : k < l.length) : cutsOf (pre ++ l.take (k + 1)) = cutsOf (pre ++ l.take k) ++ [l[k].1, l[k].2 + 1] := by
  rw [List.take_succ_eq_append_getElem hk, ← List.append_assoc, cutsOf_snoc]

theorem sortInts_any (base : Nat) (A : Option Addr) (c : Nat) (zs : List Int) (w : World) (hown : OwnInt w base A c zs) (hsz : zs.length ≤ 8796093022208) (hB : base ≤ w.heap.size) :
    Calls Tryz.prog 161 #[.slice A zs.length c] w fun e w' => e = .returned (.tuple #[]) ∧ OwnInt w' base A c (zs.mergeSort fun x y => decide (x ≤ y)) ∧ Below base w w' := by
  rcases hown.form with ⟨rfl, rfl, rfl⟩ | ⟨g, rfl, hg1, hg2, _⟩
  · refine (Tryz.slices_Sort_int_none none 0 w).mono ?_
    rintro e w' ⟨rfl, rfl⟩
    exact ⟨rfl, by simpa using OwnInt.nil _ _, Below.refl _ _⟩
  · obtain ⟨g', cap', hv, _, _, _, _, _, hH⟩ := Lib.holds_of_ownsRow hown (by simp)
    injection hv with hv1 _ hv3
    injection hv1 with hv1
    injection hv1 with hv1
    subst hv1 hv3
    refine (Tryz.slices_Sort_int g 0 c zs w hH hg2 (by omega)).mono ?_
    rintro e w' ⟨rfl, n, os, rfl⟩
    have hl : (zs.mergeSort fun x y => decide (x ≤ y)).length = zs.length := List.length_mergeSort _
    have ho := Lib.ownsRow_putRow (q := n) (ys := zs.mergeSort fun x y => decide (x ≤ y)) hown hl (Nat.le_refl _)
    refine ⟨rfl, ?_, ?_⟩
    · unfold OwnInt
      rw [List.take_of_length_le (by omega)] at ho
      rw [hl]
      exact World.ownsRow.kept ho (row := none) ⟨rfl, rfl, rfl, by simp, fun k hk _ => Sort.heap_grow_old _ os hk⟩ (by simp [Value.ownBlock])
    · refine ⟨rfl, rfl, rfl, by simp [Sort.putRow, Sort.mapBlock, Sort.ahead], fun k hk => ?_⟩
      rw [Sort.heap_grow_old _ _ (by simp [Sort.putRow, Sort.mapBlock, Sort.ahead]; omega)]
      simp only [Sort.putRow, Sort.mapBlock, Sort.ahead, Array.getElem?_modify]
      rw [if_neg (by omega)]

theorem compactInts_any (base : Nat) (A : Option Addr) (c : Nat) (zs : List Int) (w : World) (hown : OwnInt w base A c zs) (hsz : zs.length ≤ 8796093022208) (hB : base ≤ w.heap.size) :
    Calls Tryz.prog 162 #[.slice A zs.length c] w fun e w' => e = .returned (.slice A (Lib.compact zs).length c) ∧ OwnInt w' base A c (Lib.compact zs) ∧ Below base w w' := by
  rcases hown.form with ⟨rfl, rfl, rfl⟩ | ⟨g, rfl, hg1, hg2, hg3, _⟩
  · refine (Tryz.slices_Compact_int_empty none 0 w).mono ?_
    rintro e w' ⟨rfl, rfl⟩
    exact ⟨rfl, by simpa [Lib.compact, Lib.compactUpTo] using OwnInt.nil _ _, Below.refl _ _⟩
  · obtain ⟨g', cap', hv, _, _, _, _, _, hH⟩ := Lib.holds_of_ownsRow hown (by simp)
    injection hv with hv1 _ hv3
    injection hv1 with hv1
    injection hv1 with hv1
    subst hv1 hv3
    refine (Tryz.slices_Compact_int g 0 c zs w hH (by omega) hg3).mono ?_
    rintro e w' ⟨rfl, n, rfl⟩
    have hl := compact_le zs
    have ho := Lib.ownsRow_putRow (q := n) (k := (Lib.compact zs).length) (ys := Lib.compact zs ++ List.replicate (zs.length - (Lib.compact zs).length) 0) hown (by simp; omega) hl
    refine ⟨rfl, ?_, ?_⟩
    · unfold OwnInt
      rw [List.take_left' rfl] at ho
      exact ho
    · refine ⟨rfl, rfl, rfl, by simp [Sort.putRow, Sort.mapBlock, Sort.ahead], fun k hk => ?_⟩
      simp only [Sort.putRow, Sort.mapBlock, Sort.ahead, Array.getElem?_modify]
      rw [if_neg (by omega)]

set_option maxHeartbeats 1000000 in
theorem cuts_any (A B : Option Addr) (c d : Nat) (a b : List Iv) (w : World) (ha : IvsAt w w.heap.size A a) (hb : IvsAt w w.heap.size B b) (na : Norm a) (nb : Norm b) :
    Calls Tryz.prog 110 #[.slice A a.length c, .slice B b.length d] w (RetInts w fun ps => ps.Pairwise (· < ·) ∧ (∀ v, v ∈ ps ↔ v ∈ cutsOf (a ++ b)) ∧ ps.length ≤ 2199023255560) := by
  have hla := norm_len na
  have hlb := norm_len nb
  go_enter Tryz.func110, Tryz.ntmps110
  go_wp2
  have hbw : Below w.heap.size w (w.alloc (.cells #[.slice A a.length c, .slice B b.length d] 43)) := (Below.refl _ _).alloc (Nat.le_refl _) _
  have hc0 : (w.alloc (.cells #[.slice A a.length c, .slice B b.length d] 43)).cell? ⟨w.heap.size, 0, none⟩ = some (.slice A a.length c) := by simp
  have hc1 : (w.alloc (.cells #[.slice A a.length c, .slice B b.length d] 43)).cell? ⟨w.heap.size, 1, none⟩ = some (.slice B b.length d) := by simp
  have hs0 : w.heap.size < (w.alloc (.cells #[.slice A a.length c, .slice B b.length d] 43)).heap.size := by simp
  generalize w.alloc (.cells #[.slice A a.length c, .slice B b.length d] 43) = W0 at *
  go_loopw [5, 14] (fun out i wr => CutsOut W0 a b out i wr) (fun _ i _ => 2 - (intOf i).toNat)
  case atStart => exact ⟨0, none, 0, by omega, rfl, rfl, OwnInt.nil _ _, Below.refl _ _⟩
  case round =>
    obtain ⟨k, A1, c1, hk, rfl, rfl, hown, hb1⟩ := hrel
    by_cases hlt : k < 2
    · obtain ⟨AL, cL, L, hcL, hL, hfl, nL⟩ : ∃ (AL : Option Addr) (cL : Nat) (L : List Iv), wr.cell? ⟨w.heap.size, k, none⟩ = some (.slice AL L.length cL) ∧ IvsAt W0 w.heap.size AL L ∧ ([a, b].take (k + 1)).flatten = ([a, b].take k).flatten ++ L ∧ Norm L := by
        rcases (show k = 0 ∨ k = 1 by omega) with rfl | rfl
        · exact ⟨A, c, a, (hb1.cell (p := ⟨w.heap.size, 0, none⟩) hs0).trans hc0, ha.below hbw, by simp, na⟩
        · exact ⟨B, d, b, (hb1.cell (p := ⟨w.heap.size, 1, none⟩) hs0).trans hc1, hb.below hbw, by simp, nb⟩
      have hlL := norm_len nL
      have HFL := hide hfl
      have hlpre : ([a, b].take k).flatten.length ≤ 549755813889 := by
        rcases (show k = 0 ∨ k = 1 by omega) with rfl | rfl
        · simp
        · simpa using hla
      generalize hpre : ([a, b].take k).flatten = pre at *
      clear hpre hfl
      obtain ⟨wo, rfl⟩ : ∃ wo : World, wo = wr := ⟨_, rfl⟩
      have hd2 : decide ((k : Int) < 2) = true := decide_eq_true (by omega)
      go_wp2
      go_loopw [5, 20] (fun out i wr => CutsIn W0 pre L out i wr) (fun _ i _ => L.length - (intOf i).toNat)
      case atStart => exact ⟨0, A1, c1, by omega, rfl, by simp, by simpa using hown, hb1⟩
      case round =>
        obtain ⟨m, A2, c2, hm, rfl, rfl, hown2, hb2⟩ := hrel
        have hol : (cutsOf (pre ++ L.take m)).length ≤ 2199023255556 := by rw [cutsOf_length]; simp; omega
        by_cases hlt2 : m < L.length
        · obtain ⟨b', off, rfl, hbb, hc1', hc2'⟩ := (hL.more (Nat.le_of_lt hs0) |>.below hb2).at_ hlt2
          have HS := hide (cuts_take_succ pre L m hlt2)
          have hoL := nL.1 L[m] (List.getElem_mem _)
          unfold Okv at hoL
          generalize cutsOf (pre ++ L.take m) = zs at *
          go_wp2_with (at_builtin; (refine append_ints rfl _ _ rfl W0.heap.size A2 c2 zs _ rfl rfl [L[m].1, L[m].2 + 1] 2 2 _ rfl rfl (by simp) _ _ rfl rfl (by simp) (hown2.alloc _) (by omega) (by have := hb2.size; simp; omega) ?_)
                       intro g' c' w1 row hown1 hg' hgrow hrow)
          go_roundw
          case rel =>
            refine ⟨m + 1, some ⟨g', 0, none⟩, c', by omega, by go_num, ?_, ?_, ?_⟩
            · rw [HS.out]; simp
            · rw [HS.out]; exact hown1
            · exact ((hb2.alloc hb2.size _).alloc (by have := hb2.size; simp; omega) _).grown hgrow (by have := hb2.size; simp; omega) hrow
          case measure => simp [intOf]; omega
        · have hme : m = L.length := by omega
          subst hme
          rw [List.take_length] at *
          go_wp2
          go_roundw
          case rel => exact ⟨k + 1, A2, c2, by omega, by go_num, by rw [HFL.out], by rw [HFL.out]; exact hown2, hb2⟩
          case measure => simp [intOf]; omega
    · have hke : k = 2 := by omega
      subst hke
      have e2 : ([a, b].take 2).flatten = a ++ b := by simp
      rw [e2] at hown ⊢
      clear e2
      have hcl : (cutsOf (a ++ b)).length ≤ 2199023255556 := by rw [cutsOf_length]; simp; omega
      generalize hzs : cutsOf (a ++ b) = zs at *
      have HZS := hide hzs
      clear hzs
      have hsl : (zs.mergeSort fun x y => decide (x ≤ y)).length = zs.length := List.length_mergeSort _
      have HSL := hide hsl
      have hsl' : (zs.mergeSort fun x y => decide (x ≤ y)).length ≤ 2199023255556 := by rw [hsl]; exact hcl
      clear hsl
      go_wp2_with fail
      refine (sortInts_any W0.heap.size A1 c1 zs _ hown (by omega) hb1.size).mono ?_
      rintro e w2 ⟨rfl, hown2, hb2⟩
      have hss := mergeSort_sorted zs
      have hsm : ∀ v, v ∈ (zs.mergeSort fun x y => decide (x ≤ y)) ↔ v ∈ zs := fun v => List.mem_mergeSort
      rw [← HSL.out]
      generalize (zs.mergeSort fun x y => decide (x ≤ y)) = ys at *
      have HSM := hide hsm
      have HSS := hide hss
      clear hsm hss
      go_wp2_with fail
      refine (compactInts_any W0.heap.size A1 c1 ys _ hown2 (by omega) (Nat.le_trans hb1.size hb2.size)).mono ?_
      rintro e w3 ⟨rfl, hown3, hb3⟩
      go_wp2_with fail
      go_ret
      have hle := compact_le ys
      exact ⟨A1, c1, Lib.compact ys, rfl, hown3.lower hbw.size, hbw.trans ((hb1.trans (hb2.trans hb3)).mono hbw.size), compact_sorted ys HSS.out, fun v => by rw [compact_mem, HSM.out, ← HZS.out], by omega⟩
end Go.Proofs.YtdlebcijgdkfjaaGreatDoor
