/-
  Several texts in one: Ints, Cuts, Combine, Union, Same. Each says at its head what it holds.
-/
import Derived.Test.YtdlebcijgdkfjaaGreatDoorCV6
import Derived.Lib.OwnBridge
import Derived.Test.YtdlebcijgdkfjaaGreatDoorShelf
import Derived.Deep.DeepCutAuto
import Derived.Deep.CutBlock
import Derived.Laws.StructEq

/-
  Words for slices of integers in memory.
-/
namespace Go.Proofs.YtdlebcijgdkfjaaGreatDoor
open Go.RowKit Go.Joins

/-- a slice of integers -/
def IntsAt (w : World) (B : Nat) (A : Option Addr) (zs : List Int) : Prop :=
  zs ≠ [] → ∃ b off, A = some ⟨b, off, none⟩ ∧ b < B ∧ ∀ i z, zs[i]? = some z → w.cell? ⟨b, off + i, none⟩ = some (.int .i64 z)
def OwnInt (w : World) (base : Nat) (A : Option Addr) (c : Nat) (zs : List Int) : Prop := w.ownsRow base 3 1 (.slice A zs.length c) zs.length (zs.map (Value.int .i64))

section
variable {w w' : World} {B B' base base' : Nat} {A : Option Addr} {c : Nat} {zs : List Int}
theorem IntsAt.nil : IntsAt w B A [] := fun h => absurd rfl h
theorem IntsAt.keep (h : IntsAt w B A zs) (hk : ∀ p : Addr, p.block < B → w'.cell? p = w.cell? p) : IntsAt w' B A zs := fun hx => by
  obtain ⟨b, off, e, hb, hc⟩ := h hx
  exact ⟨b, off, e, hb, fun i x hi => (hk _ hb).trans (hc i x hi)⟩
theorem IntsAt.below (h : IntsAt w B A zs) (hb : Below B w w') : IntsAt w' B A zs := h.keep fun _ hp => hb.cell hp
theorem IntsAt.more (h : IntsAt w B A zs) (hB : B ≤ B') : IntsAt w B' A zs := fun hx => by
  obtain ⟨b, off, e, hb, hc⟩ := h hx
  exact ⟨b, off, e, by omega, hc⟩
theorem IntsAt.drewN (h : IntsAt w B A zs) (n : Nat) : IntsAt (w.drewN n) B A zs := h
theorem IntsAt.at_ (h : IntsAt w B A zs) {k : Nat} (hk : k < zs.length) : ∃ b off, A = some ⟨b, off, none⟩ ∧ b < B ∧ w.cell? ⟨b, off + k, none⟩ = some (.int .i64 zs[k]) := by
  obtain ⟨b, off, e, hb, hc⟩ := h (fun e => by subst e; simp at hk)
  exact ⟨b, off, e, hb, hc k zs[k] (List.getElem?_eq_getElem hk)⟩
theorem OwnInt.nil (w : World) (base : Nat) : OwnInt w base none 0 [] := World.ownsRow_nil w base _ 1
theorem OwnInt.lower (h : OwnInt w base A c zs) (hb : base' ≤ base) : OwnInt w base' A c zs := Joins.ownsRow_le h hb
theorem OwnInt.alloc (h : OwnInt w base A c zs) (o : Obj) : OwnInt (w.alloc o) base A c zs := World.ownsRow.alloc h o
theorem OwnInt.drewN (h : OwnInt w base A c zs) (n : Nat) : OwnInt (w.drewN n) base A c zs := h
theorem OwnInt.below {B : Nat} (h : OwnInt w base A c zs) (hb : Below B w w') (hB : w.heap.size ≤ B) : OwnInt w' base A c zs := by
  refine ⟨h.1, ?_⟩
  rcases h.2 with h2 | ⟨g, cap, cur, h2, h3, h4, h5⟩
  · exact .inl h2
  · exact .inr ⟨g, cap, cur, h2, h3, (hb.block g (by have := (Array.getElem?_eq_some_iff.1 h4).1; omega)).trans h4, h5⟩
theorem OwnInt.form (h : OwnInt w base A c zs) : (A = none ∧ c = 0 ∧ zs = []) ∨ ∃ g, A = some ⟨g, 0, none⟩ ∧ base ≤ g ∧ g < w.heap.size ∧ zs.length ≤ c ∧ c ≤ maxLen := by
  rcases h.2 with ⟨h1, h2⟩ | ⟨g, cap, cur, h1, h2, h3, h4, h5, _⟩
  · injection h1 with h1 _ h3
    exact .inl ⟨h1, h3, List.eq_nil_of_length_eq_zero h2⟩
  · injection h1 with h1 _ h1'
    subst h1 h1'
    exact .inr ⟨g, rfl, h2, (Array.getElem?_eq_some_iff.1 h3).1, h4, h5⟩
theorem OwnInt.block (h : OwnInt w base A c zs) : ∀ k, (Value.slice A zs.length c).ownBlock = some k → base ≤ k := fun k hk => (World.ownsRow.lt h k hk).1
theorem OwnInt.ats (h : OwnInt w base A c zs) : IntsAt w w.heap.size A zs := fun hx => by
  rcases h.form with ⟨_, _, h3⟩ | ⟨g, rfl, _, h2, _, _⟩
  · exact absurd h3 hx
  · refine ⟨g, 0, rfl, h2, fun i x hi => ?_⟩
    have hlt : i < zs.length := (List.getElem?_eq_some_iff.1 hi).1
    rw [Nat.zero_add, World.ownsRow.cellAt h _ (by omega), List.getElem?_map, hi]
    rfl
theorem OwnInt.of_row {v : Value} {n : Nat} {vs : List Value} (h : w.ownsRow base 3 1 v n vs) (hn : n = zs.length) (hv : vs = zs.map (Value.int .i64)) : ∃ A c, v = .slice A zs.length c ∧ OwnInt w base A c zs := by
  subst hn hv
  rcases Joins.ownsRow_forms h with ⟨rfl, h0⟩ | ⟨g, cap, rfl⟩
  · exact ⟨none, 0, by rw [h0], by unfold OwnInt; rw [h0] at h ⊢; exact h⟩
  · exact ⟨_, cap, rfl, h⟩
end

theorem IntsAt.step {w w' : World} {A : Option Addr} {zs : List Int} (h : IntsAt w w.heap.size A zs) (hb : Below w.heap.size w w') : IntsAt w' w'.heap.size A zs := (h.below hb).more hb.size
theorem IntsAt.alloc {w : World} {A : Option Addr} {zs : List Int} (h : IntsAt w w.heap.size A zs) (o : Obj) : IntsAt (w.alloc o) (w.alloc o).heap.size A zs := h.step ((Below.refl _ _).alloc (Nat.le_refl _) _)
theorem IntsAt.drop {w : World} {B b off : Nat} {zs : List Int} (h : IntsAt w B (some ⟨b, off, none⟩) zs) (k : Nat) : IntsAt w B (some ⟨b, off + k, none⟩) (zs.drop k) := fun hne => by
  have hz : zs ≠ [] := fun e => hne (by rw [e]; simp)
  obtain ⟨b', off', e, hb, hc⟩ := h hz
  injection e with e
  injection e with e1 e2
  subst e1 e2
  refine ⟨b, off + k, rfl, hb, fun i z hi => ?_⟩
  rw [List.getElem?_drop] at hi
  rw [Nat.add_assoc]
  exact hc _ z hi
theorem IntsAt.take {w : World} {B : Nat} {A : Option Addr} {zs : List Int} (h : IntsAt w B A zs) (k : Nat) : IntsAt w B A (zs.take k) := fun hne => by
  obtain ⟨b, off, e, hb, hc⟩ := h (fun e => hne (by rw [e]; simp))
  refine ⟨b, off, e, hb, fun i z hi => ?_⟩
  rw [List.getElem?_take] at hi
  split at hi
  · exact hc _ z hi
  · cases hi

/-- 'append(out, xs...)' of integers that were laid into a block just before -/
theorem append_ints {ops : Array Oper} {rest : List Oper} {o : Oper} {a : Act} {Q : Exit → Act → World → Prop} {w : World} (hgd : o.guard = none) (s x : Operand)
    (ho : o.op = .call { callee := .builtin .append, args := #[s, x], argTypes := #[85, 85] })
    (base : Nat) (A : Option Addr) (c : Nat) (zs : List Int) (n : Nat) (hs : a.eval s = .slice A n c) (hn : n = zs.length) (news : List Int) (m cc : Nat)
    (N : Nat) (hx : a.eval x = .slice (some ⟨N, 0, none⟩) m cc) (hm : m = news.length) (hne : news ≠ []) (cs : Array Value) (wp : World) (hw : w.heap = wp.heap.push (.cells cs 3)) (hcs : cs.toList = news.map (Value.int .i64)) (hN : N = wp.heap.size)
    (hown : OwnInt wp base A c zs) (hlen : n + m ≤ 8796093022208) (hbase : base ≤ wp.heap.size)
    (h : ∀ (g c' : Nat) (w' : World) (row : Option Nat), OwnInt w' base (some ⟨g, 0, none⟩) c' (zs ++ news) → base ≤ g → w.grownBy w' row → (∀ k, row = some k → base ≤ k) →
      wpList Tryz.prog ops Q rest (a.put o.dst (.slice (some ⟨g, 0, none⟩) (n + m) c')) w') :
    wpList Tryz.prog ops Q (o :: rest) a w := by
  subst hn hm hN
  obtain ⟨i0, hi0, hz0, hz1, hz2⟩ := info_parts infoInt
  refine wpList_append_own _ hgd s x 85 ho base 3 i0 _ 1 8 Tryz.underlying85 hi0 hz0 hz1 hz2 rfl (by decide) _ zs.length (zs.map (Value.int .i64)) hs (own_push hown hw)
    ⟨wp.heap.size, 0, none⟩ news.length cc (news.map (Value.int .i64)) hx (by simp) (fun j u hu => by rw [cells_push hw, ← Array.getElem?_toList, hcs]; exact hu) (by simp [Value.oneCell']) (by simp only [maxLen]; omega) (by omega) (by rw [hw]; simp; omega) ?_
  intro v' w' ho' hg _
  obtain ⟨A', c', rfl, ho''⟩ := OwnInt.of_row (zs := zs ++ news) ho' (by simp) (by simp)
  rcases ho''.form with ⟨_, _, h3⟩ | ⟨g, rfl, h1, _⟩
  · simp [hne] at h3
  · have := h g c' w' _ ho'' h1 hg hown.block
    simpa using this

/-- what a function returns that makes a list of integers of which R holds, in memory of its own -/
def RetInts (w : World) (R : List Int → Prop) (e : Ending) (w' : World) : Prop :=
  ∃ (A : Option Addr) (c : Nat) (ps : List Int), e = .returned (.slice A ps.length c) ∧ OwnInt w' w.heap.size A c ps ∧ Below w.heap.size w w' ∧ R ps

end Go.Proofs.YtdlebcijgdkfjaaGreatDoor

/-
  intervals.cuts: the beginnings and the ends of two normal lists, in order, each once.
-/
namespace Go.Proofs.YtdlebcijgdkfjaaGreatDoor
open Go.RowKit Go.Joins

def CutsOut (w : World) (a b : List Iv) (out i : Value) (wr : World) : Prop :=
  ∃ (k : Nat) (A : Option Addr) (c : Nat), k ≤ 2 ∧ i = .int .i64 k ∧ out = .slice A (cutsOf ([a, b].take k).flatten).length c ∧ OwnInt wr w.heap.size A c (cutsOf ([a, b].take k).flatten) ∧ Below w.heap.size w wr
def CutsIn (w : World) (pre l : List Iv) (out i : Value) (wr : World) : Prop :=
  ∃ (k : Nat) (A : Option Addr) (c : Nat), k ≤ l.length ∧ i = .int .i64 k ∧ out = .slice A (cutsOf (pre ++ l.take k)).length c ∧ OwnInt wr w.heap.size A c (cutsOf (pre ++ l.take k)) ∧ Below w.heap.size w wr

theorem cuts_take_succ (pre l : List Iv) (k : Nat) (hk : k < l.length) : cutsOf (pre ++ l.take (k + 1)) = cutsOf (pre ++ l.take k) ++ [l[k].1, l[k].2 + 1] := by
  rw [List.take_succ_eq_append_getElem hk, ← List.append_assoc, cutsOf_snoc]

theorem sortInts_any (base : Nat) (A : Option Addr) (c : Nat) (zs : List Int) (w : World) (hown : OwnInt w base A c zs) (hsz : zs.length ≤ 8796093022208) (hB : base ≤ w.heap.size) :
    Calls Tryz.prog 161 #[.slice A zs.length c] w fun e w' => e = .returned (.tuple #[]) ∧ OwnInt w' base A c (zs.mergeSort fun x y => decide (x ≤ y)) ∧ Below base w w' := by
  rcases hown.form with ⟨rfl, rfl, rfl⟩ | ⟨g, rfl, hg1, hg2, _⟩
  · refine (Tryz.slices_Sort_int_none none 0 w).mono ?_
    rintro e w' ⟨rfl, rfl⟩
    exact ⟨rfl, by simpa using OwnInt.nil _ _, Below.refl _ _⟩
  · obtain ⟨g', cap', hv, _, _, _, _, _, hH⟩ := Lib.holds_of_ownsRow hown (by simp)
    injection hv with hv1 _ hv3
    injection hv1 with hv1
    injection hv1 with hv1
    subst hv1 hv3
    refine (Tryz.slices_Sort_int g 0 c zs w hH hg2 (by omega)).mono ?_
    rintro e w' ⟨rfl, n, os, rfl⟩
    have hl : (zs.mergeSort fun x y => decide (x ≤ y)).length = zs.length := List.length_mergeSort _
    have ho := Lib.ownsRow_putRow (q := n) (ys := zs.mergeSort fun x y => decide (x ≤ y)) hown hl (Nat.le_refl _)
    refine ⟨rfl, ?_, ?_⟩
    · unfold OwnInt
      rw [List.take_of_length_le (by omega)] at ho
      rw [hl]
      exact World.ownsRow.kept ho (row := none) ⟨rfl, rfl, rfl, by simp, fun k hk _ => Sort.heap_grow_old _ os hk⟩ (by simp [Value.ownBlock])
    · refine ⟨rfl, rfl, rfl, by simp [Sort.putRow, Sort.mapBlock, Sort.ahead], fun k hk => ?_⟩
      rw [Sort.heap_grow_old _ _ (by simp [Sort.putRow, Sort.mapBlock, Sort.ahead]; omega)]
      simp only [Sort.putRow, Sort.mapBlock, Sort.ahead, Array.getElem?_modify]
      rw [if_neg (by omega)]

theorem compactInts_any (base : Nat) (A : Option Addr) (c : Nat) (zs : List Int) (w : World) (hown : OwnInt w base A c zs) (hsz : zs.length ≤ 8796093022208) (hB : base ≤ w.heap.size) :
    Calls Tryz.prog 162 #[.slice A zs.length c] w fun e w' => e = .returned (.slice A (Lib.compact zs).length c) ∧ OwnInt w' base A c (Lib.compact zs) ∧ Below base w w' := by
  rcases hown.form with ⟨rfl, rfl, rfl⟩ | ⟨g, rfl, hg1, hg2, hg3, _⟩
  · refine (Tryz.slices_Compact_int_empty none 0 w).mono ?_
    rintro e w' ⟨rfl, rfl⟩
    exact ⟨rfl, by simpa [Lib.compact, Lib.compactUpTo] using OwnInt.nil _ _, Below.refl _ _⟩
  · obtain ⟨g', cap', hv, _, _, _, _, _, hH⟩ := Lib.holds_of_ownsRow hown (by simp)
    injection hv with hv1 _ hv3
    injection hv1 with hv1
    injection hv1 with hv1
    subst hv1 hv3
    refine (Tryz.slices_Compact_int g 0 c zs w hH (by omega) hg3).mono ?_
    rintro e w' ⟨rfl, n, rfl⟩
    have hl := compact_le zs
    have ho := Lib.ownsRow_putRow (q := n) (k := (Lib.compact zs).length) (ys := Lib.compact zs ++ List.replicate (zs.length - (Lib.compact zs).length) 0) hown (by simp; omega) hl
    refine ⟨rfl, ?_, ?_⟩
    · unfold OwnInt
      rw [List.take_left' rfl] at ho
      exact ho
    · refine ⟨rfl, rfl, rfl, by simp [Sort.putRow, Sort.mapBlock, Sort.ahead], fun k hk => ?_⟩
      simp only [Sort.putRow, Sort.mapBlock, Sort.ahead, Array.getElem?_modify]
      rw [if_neg (by omega)]

set_option maxHeartbeats 1000000 in
theorem cuts_any (A B : Option Addr) (c d : Nat) (a b : List Iv) (w : World) (ha : IvsAt w w.heap.size A a) (hb : IvsAt w w.heap.size B b) (na : Norm a) (nb : Norm b) :
    Calls Tryz.prog 110 #[.slice A a.length c, .slice B b.length d] w (RetInts w fun ps => ps.Pairwise (· < ·) ∧ (∀ v, v ∈ ps ↔ v ∈ cutsOf (a ++ b)) ∧ ps.length ≤ 2199023255560) := by
  have hla := norm_len na
  have hlb := norm_len nb
  go_enter Tryz.func110, Tryz.ntmps110
  go_wp2
  have hbw : Below w.heap.size w (w.alloc (.cells #[.slice A a.length c, .slice B b.length d] 43)) := (Below.refl _ _).alloc (Nat.le_refl _) _
  have hc0 : (w.alloc (.cells #[.slice A a.length c, .slice B b.length d] 43)).cell? ⟨w.heap.size, 0, none⟩ = some (.slice A a.length c) := by simp
  have hc1 : (w.alloc (.cells #[.slice A a.length c, .slice B b.length d] 43)).cell? ⟨w.heap.size, 1, none⟩ = some (.slice B b.length d) := by simp
  have hs0 : w.heap.size < (w.alloc (.cells #[.slice A a.length c, .slice B b.length d] 43)).heap.size := by simp
  generalize w.alloc (.cells #[.slice A a.length c, .slice B b.length d] 43) = W0 at *
  go_loopw [5, 14] (fun out i wr => CutsOut W0 a b out i wr) (fun _ i _ => 2 - (intOf i).toNat)
  case atStart => exact ⟨0, none, 0, by omega, rfl, rfl, OwnInt.nil _ _, Below.refl _ _⟩
  case round =>
    obtain ⟨k, A1, c1, hk, rfl, rfl, hown, hb1⟩ := hrel
    by_cases hlt : k < 2
    · obtain ⟨AL, cL, L, hcL, hL, hfl, nL⟩ : ∃ (AL : Option Addr) (cL : Nat) (L : List Iv), wr.cell? ⟨w.heap.size, k, none⟩ = some (.slice AL L.length cL) ∧ IvsAt W0 w.heap.size AL L ∧ ([a, b].take (k + 1)).flatten = ([a, b].take k).flatten ++ L ∧ Norm L := by
        rcases (show k = 0 ∨ k = 1 by omega) with rfl | rfl
        · exact ⟨A, c, a, (hb1.cell (p := ⟨w.heap.size, 0, none⟩) hs0).trans hc0, ha.below hbw, by simp, na⟩
        · exact ⟨B, d, b, (hb1.cell (p := ⟨w.heap.size, 1, none⟩) hs0).trans hc1, hb.below hbw, by simp, nb⟩
      have hlL := norm_len nL
      have HFL := hide hfl
      have hlpre : ([a, b].take k).flatten.length ≤ 549755813889 := by
        rcases (show k = 0 ∨ k = 1 by omega) with rfl | rfl
        · simp
        · simpa using hla
      generalize hpre : ([a, b].take k).flatten = pre at *
      clear hpre hfl
      obtain ⟨wo, rfl⟩ : ∃ wo : World, wo = wr := ⟨_, rfl⟩
      have hd2 : decide ((k : Int) < 2) = true := decide_eq_true (by omega)
      go_wp2
      go_loopw [5, 20] (fun out i wr => CutsIn W0 pre L out i wr) (fun _ i _ => L.length - (intOf i).toNat)
      case atStart => exact ⟨0, A1, c1, by omega, rfl, by simp, by simpa using hown, hb1⟩
      case round =>
        obtain ⟨m, A2, c2, hm, rfl, rfl, hown2, hb2⟩ := hrel
        have hol : (cutsOf (pre ++ L.take m)).length ≤ 2199023255556 := by rw [cutsOf_length]; simp; omega
        by_cases hlt2 : m < L.length
        · obtain ⟨b', off, rfl, hbb, hc1', hc2'⟩ := (hL.more (Nat.le_of_lt hs0) |>.below hb2).at_ hlt2
          have HS := hide (cuts_take_succ pre L m hlt2)
          have hoL := nL.1 L[m] (List.getElem_mem _)
          unfold Okv at hoL
          generalize cutsOf (pre ++ L.take m) = zs at *
          go_wp2_with (at_builtin; (refine append_ints rfl _ _ rfl W0.heap.size A2 c2 zs _ rfl rfl [L[m].1, L[m].2 + 1] 2 2 _ rfl rfl (by simp) _ _ rfl rfl (by simp) (hown2.alloc _) (by omega) (by have := hb2.size; simp; omega) ?_)
                       intro g' c' w1 row hown1 hg' hgrow hrow)
          go_roundw
          case rel =>
            refine ⟨m + 1, some ⟨g', 0, none⟩, c', by omega, by go_num, ?_, ?_, ?_⟩
            · rw [HS.out]; simp
            · rw [HS.out]; exact hown1
            · exact ((hb2.alloc hb2.size _).alloc (by have := hb2.size; simp; omega) _).grown hgrow (by have := hb2.size; simp; omega) hrow
          case measure => simp [intOf]; omega
        · have hme : m = L.length := by omega
          subst hme
          rw [List.take_length] at *
          go_wp2
          go_roundw
          case rel => exact ⟨k + 1, A2, c2, by omega, by go_num, by rw [HFL.out], by rw [HFL.out]; exact hown2, hb2⟩
          case measure => simp [intOf]; omega
    · have hke : k = 2 := by omega
      subst hke
      have e2 : ([a, b].take 2).flatten = a ++ b := by simp
      rw [e2] at hown ⊢
      clear e2
      have hcl : (cutsOf (a ++ b)).length ≤ 2199023255556 := by rw [cutsOf_length]; simp; omega
      generalize hzs : cutsOf (a ++ b) = zs at *
      have HZS := hide hzs
      clear hzs
      have hsl : (zs.mergeSort fun x y => decide (x ≤ y)).length = zs.length := List.length_mergeSort _
      have HSL := hide hsl
      have hsl' : (zs.mergeSort fun x y => decide (x ≤ y)).length ≤ 2199023255556 := by rw [hsl]; exact hcl
      clear hsl
      go_wp2_with fail
      refine (sortInts_any W0.heap.size A1 c1 zs _ hown (by omega) hb1.size).mono ?_
      rintro e w2 ⟨rfl, hown2, hb2⟩
      have hss := mergeSort_sorted zs
      have hsm : ∀ v, v ∈ (zs.mergeSort fun x y => decide (x ≤ y)) ↔ v ∈ zs := fun v => List.mem_mergeSort
      rw [← HSL.out]
      generalize (zs.mergeSort fun x y => decide (x ≤ y)) = ys at *
      have HSM := hide hsm
      have HSS := hide hss
      clear hsm hss
      go_wp2_with fail
      refine (compactInts_any W0.heap.size A1 c1 ys _ hown2 (by omega) (Nat.le_trans hb1.size hb2.size)).mono ?_
      rintro e w3 ⟨rfl, hown3, hb3⟩
      go_wp2_with fail
      go_ret
      have hle := compact_le ys
      exact ⟨A1, c1, Lib.compact ys, rfl, hown3.lower hbw.size, hbw.trans ((hb1.trans (hb2.trans hb3)).mono hbw.size), compact_sorted ys HSS.out, fun v => by rw [compact_mem, HSM.out, ← HZS.out], by omega⟩
end Go.Proofs.YtdlebcijgdkfjaaGreatDoor

/-
  intervals.Normal and intervals.combine: the normal list of the times whose membership in two sets satisfies a rule.
-/
namespace Go.Proofs.YtdlebcijgdkfjaaGreatDoor
open Go.RowKit Go.Joins

theorem normal_any (A : Option Addr) (c : Nat) (xs : List Iv) (w : World) (h : IvsAt w w.heap.size A xs) (hl : xs.length ≤ 4398046511104) :
    Calls Tryz.prog 71 #[.slice A xs.length c] w (RetIvs w (Mem xs)) := by
  go_enter Tryz.func71, Tryz.ntmps71
  go_wp2_with fail
  refine (clip_any A c xs 0 1099511627776 _ h hl).mono ?_
  rintro e w1 ⟨A1, c1, ys, rfl, hown, hb, hn, hm⟩
  go_wp2_with fail
  go_ret
  exact ⟨A1, c1, ys, rfl, hown, hb, hn, fun t => by rw [hm]; exact ⟨fun h => h.2.2, fun h => ⟨h.1, h.2.1, h⟩⟩⟩

theorem quiet_left {P : Program} {f : FuncId} {args : Array Value} {w : World} {n : Nat} {v : Value}
    (h : Calls P f args (w.drewN n) fun e w' => e = .returned v ∧ w.drewN n = w') : Calls P f args (w.drewN n) fun e w'' => e = .returned v ∧ ∃ m, w'' = w.drewN m :=
  h.mono fun _ _ ⟨he, hm⟩ => ⟨he, n, hm.symm⟩

/-- what the combining function does at two bools -/
def RuleOf (g : Nat) (rule : Bool → Bool → Bool) : Prop := ∀ (x y : Bool) (w : World), Calls Tryz.prog g #[.bool x, .bool y] w fun e w' => e = .returned (.bool (rule x y)) ∧ w = w'

theorem union_rule : RuleOf 117 (· || ·) := by
  intro x y w
  cases x <;> cases y <;>
  · go_enter Tryz.func117, Tryz.ntmps117
    go_wp2
    go_ret
    exact ⟨rfl, rfl⟩
theorem intersect_rule : RuleOf 64 (· && ·) := by
  intro x y w
  cases x <;> cases y <;>
  · go_enter Tryz.func64, Tryz.ntmps64
    go_wp2
    go_ret
    exact ⟨rfl, rfl⟩
def CombOut (w : World) (rule : Bool → Bool → Bool) (a b : List Iv) (ps : List Int) (out vi vk vn : Value) (wr : World) : Prop :=
  ∃ (n i k : Nat) (A : Option Addr) (c : Nat), n ≤ ps.length - 1 ∧ vn = .int .i64 n ∧ vi = .int .i64 i ∧ vk = .int .i64 k ∧ i ≤ a.length ∧ k ≤ b.length ∧
    (∀ j (hj : j < a.length), j < i → n < ps.length → a[j].2 < ps.getD n 0) ∧ (∀ j (hj : j < b.length), j < k → n < ps.length → b[j].2 < ps.getD n 0) ∧
    out = .slice A (segs rule a b ps n).length c ∧ OwnIv wr w.heap.size A c (segs rule a b ps n) ∧ Below w.heap.size w wr
def CombEnd (a : List Iv) (t : Int) (vi : Value) (w0 w : World) : Prop :=
  ∃ (i : Nat), vi = .int .i64 i ∧ i ≤ a.length ∧ (∀ j (_hj : j < a.length), j < i → a[j].2 < t) ∧ (∀ (_h : i < a.length), t ≤ a[i].2) ∧ w0 = w
def CombTest (rule : Bool → Bool → Bool) (a b : List Iv) (t : Int) (v : Value) (w0 w : World) : Prop :=
  ∃ q : Nat, v = .bool (rule (memB a t) (memB b t)) ∧ w = w0.drewN q
def CombIn (a : List Iv) (t : Int) (vi : Value) : Prop :=
  ∃ (i : Nat), vi = .int .i64 i ∧ i ≤ a.length ∧ ∀ j (_hj : j < a.length), j < i → a[j].2 < t

set_option maxRecDepth 100000 in
set_option maxHeartbeats 4000000 in
theorem combine_any (g : Nat) (eg : ∀ args w, (callFunc g args).run Tryz.prog w = .ok (.enter g args) w) (rule : Bool → Bool → Bool) (hr : RuleOf g rule) (hff : rule false false = false)
    (A B : Option Addr) (c d : Nat) (a b : List Iv) (w : World) (ha : IvsAt w w.heap.size A a) (hb : IvsAt w w.heap.size B b) (hla : a.length ≤ 4398046511104) (hlb : b.length ≤ 4398046511104) :
    Calls Tryz.prog 63 #[.slice A a.length c, .slice B b.length d, .func (.func g) #[] #[]] w (RetIvs w fun t => rule (memT a t) (memT b t) = true) := by
  have HFF := hide hff
  clear hff
  go_enter Tryz.func63, Tryz.ntmps63
  go_wp2_with fail
  refine (normal_any A c a _ ha hla).mono ?_
  rintro e w1 ⟨A1, c1, a1, rfl, hown1, hb1, na, ma⟩
  go_wp2_with fail
  refine (normal_any B d b _ ((hb.below hb1).more hb1.size) hlb).mono ?_
  rintro e w2 ⟨B1, d1, b1, rfl, hown2, hb2, nb, mb⟩
  go_wp2_with fail
  have ra : IvsAt w2 w2.heap.size A1 a1 := (hown1.ats.below hb2).more hb2.size
  refine (cuts_any A1 B1 c1 d1 a1 b1 _ ra hown2.ats na nb).mono ?_
  rintro e w3 ⟨P3, c3, ps, rfl, hown3, hb3, hps, hpm, hpl⟩
  have ra3 : IvsAt w3 w3.heap.size A1 a1 := (ra.below hb3).more hb3.size
  have rb3 : IvsAt w3 w3.heap.size B1 b1 := (hown2.ats.below hb3).more hb3.size
  have rp3 : IntsAt w3 w3.heap.size P3 ps := hown3.ats
  have hbw : Below w.heap.size w w3 := hb1.trans ((hb2.mono hb1.size).trans (hb3.mono (Nat.le_trans hb1.size hb2.size)))
  have hla1 := norm_len na
  have hlb1 := norm_len nb
  clear ha hb hown1 hown2 hown3 hb1 hb2 hb3 ra
  have HMA := hide ma
  have HMB := hide mb
  have HPM := hide hpm
  have HPS := hide hps
  clear ma mb hpm hps
  go_wp2_with fail
  go_loopw [8, 9, 10, 11] (fun out i k n wr => CombOut w3 rule a1 b1 ps out i k n wr) (fun _ _ _ n _ => ps.length - (intOf n).toNat)
  case atStart => exact ⟨0, 0, 0, none, 0, by omega, rfl, rfl, rfl, by omega, by omega, fun j hj h => by omega, fun j hj h => by omega, rfl, OwnIv.nil _ _, Below.refl _ _⟩
  case round =>
    obtain ⟨n, i, k, A4, c4, hn, rfl, rfl, rfl, hi, hk, hia, hkb, rfl, hown, hb⟩ := hrel
    have hsl := segs_len rule a1 b1 ps n
    by_cases hlt : n + 1 < ps.length
    · obtain ⟨bp, offp, rfl, hbp, hcp⟩ := (rp3.below hb).at_ (k := n) (by omega)
      obtain ⟨bp', offp', hpe, hbp', hcp'⟩ := (rp3.below hb).at_ (k := n + 1) (by omega)
      have HT : ps.getD n 0 = ps[n] := by simp [List.getD_eq_getElem?_getD, List.getElem?_eq_getElem (show n < ps.length by omega)]
      have HT' : ps.getD (n + 1) 0 = ps[n + 1] := by simp [List.getD_eq_getElem?_getD, List.getElem?_eq_getElem hlt]
      injection hpe with hpe
      injection hpe with e1 e2
      subst e1 e2
      have hmono : ps[n] < ps[n + 1] := List.pairwise_iff_getElem.1 HPS.out n (n + 1) (by omega) hlt (by omega)
      have hmem : ∀ v ∈ ps, 0 ≤ v ∧ v ≤ 1099511627777 := by
        intro v hv
        obtain ⟨x, hx, h⟩ := mem_cutsOf.1 ((HPM.out v).1 hv)
        have : Okv x := by
          rcases List.mem_append.1 hx with hx | hx
          · exact na.1 x hx
          · exact nb.1 x hx
        unfold Okv at this
        omega
      have hbt := hmem ps[n] (List.getElem_mem _)
      have hbt' := hmem ps[n + 1] (List.getElem_mem _)
      clear hmem
      obtain ⟨t, ht⟩ : ∃ t, ps[n] = t := ⟨_, rfl⟩
      obtain ⟨t', ht'⟩ : ∃ t', ps[n + 1] = t' := ⟨_, rfl⟩
      rw [ht] at HT hbt hmono hcp
      rw [ht'] at HT' hbt' hmono hcp'
      have HIA : ∀ j (hj : j < a1.length), j < i → a1[j].2 < t := fun j hj h => by have := hia j hj h (by omega); rwa [HT] at this
      have HKB : ∀ j (hj : j < b1.length), j < k → b1[j].2 < t := fun j hj h => by have := hkb j hj h (by omega); rwa [HT] at this
      have HSG := hide (segs_succ rule a1 b1 ps n)
      rw [HT, HT'] at HSG
      have HTH := hide HT'
      clear HT HT' hia hkb ht ht'
      generalize hsg : segs rule a1 b1 ps n = sg at *
      clear hsg
      have hd1 : decide ((n : Int) + 1 < (ps.length : Int)) = true := decide_eq_true (by omega)
      have HIA' := hide HIA
      have HKB' := hide HKB
      clear HIA HKB
      go_upto_block 2 with fail
      go_cut [9] (fun vi wx => CombEnd a1 t vi wr wx)
      case first =>
        go_wp2
        go_loop [9] (fun vi => CombIn a1 t vi) (fun vi => a1.length - (intOf vi).toNat)
        case atStart => exact ⟨i, rfl, hi, HIA'.out⟩
        case round =>
          obtain ⟨i', rfl, hi', hia'⟩ := hrel
          by_cases hlt1 : i' < a1.length
          · obtain ⟨ba, offa, rfl, hba, hca1, hca2⟩ := (ra3.below hb).at_ hlt1
            by_cases hto : a1[i'].2 < t
            · go_wp2
              go_round
              case rel => exact ⟨i' + 1, by go_num, by omega, fun j hj h => by
                rcases Nat.lt_or_ge j i' with h' | h'
                · exact hia' j hj h'
                · have : j = i' := by omega
                  subst this; exact hto⟩
              case measure => simp [intOf]; omega
            · go_wp2
              go_meet
              exact ⟨i', rfl, hi', hia', fun h => by omega, rfl⟩
          · go_wp2
            go_meet
            exact ⟨i', rfl, hi', hia', fun h => by omega, rfl⟩
      case rest =>
        obtain ⟨i', rfl, hi', hia', hie', rfl⟩ := hcut
        go_upto_block 4 with fail
        go_cut [10] (fun vi wx => CombEnd b1 t vi wr wx)
        case first =>
          go_wp2
          go_loop [10] (fun vi => CombIn b1 t vi) (fun vi => b1.length - (intOf vi).toNat)
          case atStart => exact ⟨k, rfl, hk, HKB'.out⟩
          case round =>
            obtain ⟨k', rfl, hk', hkb'⟩ := hrel
            by_cases hlt1 : k' < b1.length
            · obtain ⟨ba, offa, rfl, hba, hca1, hca2⟩ := (rb3.below hb).at_ hlt1
              by_cases hto : b1[k'].2 < t
              · go_wp2
                go_round
                case rel => exact ⟨k' + 1, by go_num, by omega, fun j hj h => by
                  rcases Nat.lt_or_ge j k' with h' | h'
                  · exact hkb' j hj h'
                  · have : j = k' := by omega
                    subst this; exact hto⟩
                case measure => simp [intOf]; omega
              · go_wp2
                go_meet
                exact ⟨k', rfl, hk', hkb', fun h => by omega, rfl⟩
            · go_wp2
              go_meet
              exact ⟨k', rfl, hk', hkb', fun h => by omega, rfl⟩
        case rest =>
          obtain ⟨k', rfl, hk', hkb', hke', rfl⟩ := hcut
          have hma := memB_at na hia' hie'
          have hmb := memB_at nb hkb' hke'
          have HMA1 := hide hma
          have HMB1 := hide hmb
          clear hma hmb
          go_upto_region 13 with fail
          go_cut [88] (fun v wx => CombTest rule a1 b1 t v wr wx)
          case first =>
            by_cases hlta : i' < a1.length
            · obtain ⟨ba, offa, rfl, hba, hca1, hca2⟩ := (ra3.below hb).at_ hlta
              have hda : decide ((i' : Int) < (a1.length : Int)) = true := decide_eq_true (by omega)
              have ema : memB a1 t = decide (a1[i'].1 ≤ t) := by rw [Bool.eq_iff_iff, HMA1.out, decide_eq_true_eq]; exact ⟨fun ⟨_, h⟩ => h, fun h => ⟨hlta, h⟩⟩
              have EMA := hide ema
              clear ema
              by_cases hltb : k' < b1.length
              · obtain ⟨bb, offb, rfl, hbb, hcb1, hcb2⟩ := (rb3.below hb).at_ hltb
                have hdb : decide ((k' : Int) < (b1.length : Int)) = true := decide_eq_true (by omega)
                have emb : memB b1 t = decide (b1[k'].1 ≤ t) := by rw [Bool.eq_iff_iff, HMB1.out, decide_eq_true_eq]; exact ⟨fun ⟨_, h⟩ => h, fun h => ⟨hltb, h⟩⟩
                have EMB := hide emb
                clear emb
                go_quiet ((exact quiet_left (hr _ _ _)))
                go_wp2
                go_meet
                exact ⟨nq, by rw [EMA.out, EMB.out], rfl⟩
              · have hdb : decide ((k' : Int) < (b1.length : Int)) = false := decide_eq_false (by omega)
                have emb : memB b1 t = false := by rw [Bool.eq_false_iff, Ne, HMB1.out]; exact fun ⟨h, _⟩ => hltb h
                have EMB := hide emb
                clear emb
                go_quiet ((exact quiet_left (hr _ _ _)))
                go_wp2
                go_meet
                exact ⟨nq, by rw [EMA.out, EMB.out], rfl⟩
            · have hda : decide ((i' : Int) < (a1.length : Int)) = false := decide_eq_false (by omega)
              have ema : memB a1 t = false := by rw [Bool.eq_false_iff, Ne, HMA1.out]; exact fun ⟨h, _⟩ => hlta h
              have EMA := hide ema
              clear ema
              by_cases hltb : k' < b1.length
              · obtain ⟨bb, offb, rfl, hbb, hcb1, hcb2⟩ := (rb3.below hb).at_ hltb
                have hdb : decide ((k' : Int) < (b1.length : Int)) = true := decide_eq_true (by omega)
                have emb : memB b1 t = decide (b1[k'].1 ≤ t) := by rw [Bool.eq_iff_iff, HMB1.out, decide_eq_true_eq]; exact ⟨fun ⟨_, h⟩ => h, fun h => ⟨hltb, h⟩⟩
                have EMB := hide emb
                clear emb
                go_quiet ((exact quiet_left (hr _ _ _)))
                go_wp2
                go_meet
                exact ⟨nq, by rw [EMA.out, EMB.out], rfl⟩
              · have hdb : decide ((k' : Int) < (b1.length : Int)) = false := decide_eq_false (by omega)
                have emb : memB b1 t = false := by rw [Bool.eq_false_iff, Ne, HMB1.out]; exact fun ⟨h, _⟩ => hltb h
                have EMB := hide emb
                clear emb
                go_quiet ((exact quiet_left (hr _ _ _)))
                go_wp2
                go_meet
                exact ⟨nq, by rw [EMA.out, EMB.out], rfl⟩
          case rest =>
            obtain ⟨nq, rfl, rfl⟩ := hcut
            cases hrule : rule (memB a1 t) (memB b1 t)
            · go_wp2
              go_roundw
              case rel =>
                exact ⟨n + 1, i', k', A4, c4, by omega, by go_num, rfl, rfl, hi', hk', fun j hj h h2 => by rw [HTH.out]; exact Int.lt_trans (hia' j hj h) hmono, fun j hj h h2 => by rw [HTH.out]; exact Int.lt_trans (hkb' j hj h) hmono,
                  by rw [HSG.out, hrule]; simp, by rw [HSG.out, hrule]; simpa using hown.drewN _, below_drewN hb _⟩
              case measure => simp [intOf]; omega
            · go_wp2_with (at_builtin; (refine append_iv rfl _ _ rfl w3.heap.size A4 c4 sg _ rfl rfl t (t' - 1) _ rfl _ rfl (by simp) (hown.drewN _) (by omega) (by have := hb.size; simp; omega) ?_)
                           intro g' c' w1 row hown1 hg' hgrow hrow)
              go_roundw
              case rel =>
                exact ⟨n + 1, i', k', some ⟨g', 0, none⟩, c', by omega, by go_num, rfl, rfl, hi', hk', fun j hj h h2 => by rw [HTH.out]; exact Int.lt_trans (hia' j hj h) hmono, fun j hj h h2 => by rw [HTH.out]; exact Int.lt_trans (hkb' j hj h) hmono,
                  by rw [HSG.out, hrule]; simp, by rw [HSG.out, hrule]; exact hown1, (below_drewN (hb.alloc hb.size _) _).grown hgrow (by have := hb.size; go_simp; omega) hrow⟩
              case measure => simp [intOf]; omega
    · have hdn : decide ((n : Int) + 1 < (ps.length : Int)) = false := decide_eq_false (by omega)
      go_wp2_with fail
      refine (normal_any A4 c4 (segs rule a1 b1 ps n) _ ((hown.ats)) (by omega)).mono ?_
      rintro e w5 ⟨A5, c5, ys, rfl, hown5, hb5, n5, m5⟩
      go_wp2_with fail
      go_ret
      refine ⟨A5, c5, ys, rfl, hown5.lower (Nat.le_trans hbw.size hb.size), hbw.trans ((hb.mono hbw.size).trans (hb5.mono (Nat.le_trans hbw.size hb.size))), n5, fun x => ?_⟩
      show _ ↔ rule (memT a x) (memT b x) = true
      rw [m5, ← memB_eq_memT na HMA.out, ← memB_eq_memT nb HMB.out, ← segs_mem rule HFF.out na nb HPS.out HPM.out]
      rw [show ps.length - 1 = n by omega]
end Go.Proofs.YtdlebcijgdkfjaaGreatDoor

/-
  intervals.Union, Intersect: the sets of their results.
-/
namespace Go.Proofs.YtdlebcijgdkfjaaGreatDoor
open Go.RowKit Go.Joins

theorem RetIvs.congr {w : World} {S S' : Int → Prop} {e : Ending} {w' : World} (h : RetIvs w S e w') (hs : ∀ t, S t ↔ S' t) : RetIvs w S' e w' := by
  obtain ⟨A, c, ys, h1, h2, h3, h4, h5⟩ := h
  exact ⟨A, c, ys, h1, h2, h3, h4, fun t => (h5 t).trans (hs t)⟩

theorem union_any (A B : Option Addr) (c d : Nat) (a b : List Iv) (w : World) (ha : IvsAt w w.heap.size A a) (hb : IvsAt w w.heap.size B b) (hla : a.length ≤ 4398046511104) (hlb : b.length ≤ 4398046511104) :
    Calls Tryz.prog 72 #[.slice A a.length c, .slice B b.length d] w (RetIvs w fun t => Mem a t ∨ Mem b t) := by
  go_enter Tryz.func72, Tryz.ntmps72
  go_wp2_with fail
  refine (combine_any 117 (enters_of Tryz.func117 (by kernel_rfl) rfl) _ union_rule rfl A B c d a b _ ha hb hla hlb).mono ?_
  rintro e w1 ⟨A1, c1, ys, rfl, hown, hb, hn, hm⟩
  go_wp2_with fail
  go_ret
  exact ⟨A1, c1, ys, rfl, hown, hb, hn, fun t => by rw [hm, Bool.or_eq_true, memT_iff, memT_iff]⟩

theorem intersect_any (A B : Option Addr) (c d : Nat) (a b : List Iv) (w : World) (ha : IvsAt w w.heap.size A a) (hb : IvsAt w w.heap.size B b) (hla : a.length ≤ 4398046511104) (hlb : b.length ≤ 4398046511104) :
    Calls Tryz.prog 19 #[.slice A a.length c, .slice B b.length d] w (RetIvs w fun t => Mem a t ∧ Mem b t) := by
  go_enter Tryz.func19, Tryz.ntmps19
  go_wp2_with fail
  refine (combine_any 64 (enters_of Tryz.func64 (by kernel_rfl) rfl) _ intersect_rule rfl A B c d a b _ ha hb hla hlb).mono ?_
  rintro e w1 ⟨A1, c1, ys, rfl, hown, hb, hn, hm⟩
  go_wp2_with fail
  go_ret
  exact ⟨A1, c1, ys, rfl, hown, hb, hn, fun t => by rw [hm, Bool.and_eq_true, memT_iff, memT_iff]⟩

end Go.Proofs.YtdlebcijgdkfjaaGreatDoor

/-
  wavestoreref46.Same: whether two lists are equal.
-/
namespace Go.Proofs.YtdlebcijgdkfjaaGreatDoor
open Go.RowKit Go.Joins

theorem eq_iv (a b c d : Int) (w : World) : (Op.equalIn 10000 69 (.agg #[.int .i64 a, .int .i64 b]) (.agg #[.int .i64 c, .int .i64 d])).run Tryz.prog w = .ok (a == c && b == d) w := by
  have u3 := Tryz.underlying3
  have a3 := Tryz.isAgg3
  have z3 := Tryz.sizeOf3
  have hS : Tryz.prog.underlying 69 = some (.struct (Tryz.prog.fieldsOf 69)) := by kernel_rfl
  have hp : Tryz.prog.stoodInHeld 69 = false := by kernel_rfl
  rw [show (10000 : Nat) = 9999 + 1 from rfl, run_equalIn_agg w 9999 69 _ _ hS hp]
  simp only [Program.fieldsOf, Tryz.underlying69]
  go_simp
  by_cases h1 : a = c <;> by_cases h2 : b = d <;> simp [h1, h2]
theorem neq_iv (a b c d : Int) (w : World) : (binOp .neq 69 (.agg #[.int .i64 a, .int .i64 b]) (.agg #[.int .i64 c, .int .i64 d])).run Tryz.prog w = .ok (.bool (!(a == c && b == d))) w := by
  rw [run_neq_struct, eq_iv]; rfl

theorem same_ne {xs ys : List Iv} (e : xs = ys) {k : Nat} (h1 : k < xs.length) (h2 : k < ys.length) (hw : (!xs[k].1 == ys[k].1) = true ∨ (!xs[k].2 == ys[k].2) = true) : False := by
  subst e; simp at hw
theorem same_step {xs ys : List Iv} {k : Nat} (ht : xs.take k = ys.take k) (h1 : k < xs.length) (h2 : k < ys.length) (hw : (!xs[k].1 == ys[k].1) = false ∧ (!xs[k].2 == ys[k].2) = false) : xs.take (k + 1) = ys.take (k + 1) := by
  rw [List.take_succ_eq_append_getElem h1, List.take_succ_eq_append_getElem h2, ht]
  simp only [Bool.not_eq_false', beq_iff_eq] at hw
  rw [Prod.ext hw.1 hw.2]

def SameRel (w : World) (xs ys : List Iv) (i : Value) (wr : World) : Prop :=
  ∃ (k q : Nat), k ≤ xs.length ∧ i = .int .i64 k ∧ xs.take k = ys.take k ∧ wr = w.drewN q

set_option maxHeartbeats 1000000 in
theorem same_any (A B : Option Addr) (c d : Nat) (xs ys : List Iv) (w : World) (hx : IvsAt w w.heap.size A xs) (hy : IvsAt w w.heap.size B ys) (hl : xs.length ≤ 4398046511104) (_hl2 : ys.length ≤ 4398046511104) :
    Calls Tryz.prog 20 #[.slice A xs.length c, .slice B ys.length d] w fun e w' => e = .returned (.bool (decide (xs = ys))) ∧ ∃ q, w' = w.drewN q := by
  by_cases hlen : xs.length = ys.length
  · have HL := hide hlen
    have hne : ((xs.length : Int) != (ys.length : Int)) = false := by simp [hlen]
    clear hlen
    go_enter Tryz.func20, Tryz.ntmps20
    go_wp2
    go_loopw [5] (fun i wr => SameRel w xs ys i wr) (fun i _ => xs.length - (intOf i).toNat)
    case atStart => exact ⟨0, 0, Nat.zero_le _, rfl, rfl, rfl⟩
    case round =>
      obtain ⟨k, q, hk, rfl, htk, rfl⟩ := hrel
      have HTK := hide htk
      clear htk
      by_cases hlt : k < xs.length
      · have hlt2 : k < ys.length := by have := HL.out; omega
        obtain ⟨b, off, rfl, hbb, hc1, hc2⟩ := hx.at_ hlt
        obtain ⟨b', off', rfl, hbb', hc1', hc2'⟩ := hy.at_ hlt2
        have hne2 := neq_iv xs[k].1 xs[k].2 ys[k].1 ys[k].2
        go_wp2
        go_quiet (fail)
        go_wp2
        · have hw : (!xs[k].1 == ys[k].1) = true ∨ (!xs[k].2 == ys[k].2) = true := by assumption
          go_ret
          exact ⟨by rw [decide_eq_false (fun e => same_ne e hlt hlt2 hw)]; rfl, q + nq, by rw [World.drewN_drewN]⟩
        · have hw : (!xs[k].1 == ys[k].1) = false ∧ (!xs[k].2 == ys[k].2) = false := by assumption
          go_roundw
          case rel => exact ⟨k + 1, q + nq, by omega, by go_num, same_step HTK.out hlt hlt2 hw, rfl⟩
          case measure => simp [intOf]; omega
      · go_wp2
        go_ret
        refine ⟨?_, _, rfl⟩
        have h1 := HTK.out
        have h2 := HL.out
        rw [List.take_of_length_le (by omega), List.take_of_length_le (by omega)] at h1
        rw [decide_eq_true h1]
        rfl
  · have hne : ((xs.length : Int) != (ys.length : Int)) = true := by simp; omega
    have HL := hide hlen
    clear hlen
    go_enter Tryz.func20, Tryz.ntmps20
    go_wp2
    go_ret
    exact ⟨by rw [decide_eq_false (fun e => HL.out (by rw [e]))]; rfl, 0, rfl⟩

/-- two lists that are the normal lists of one set -/
theorem sameR_true (A B : Option Addr) (c d : Nat) (xs ys : List Iv) (w : World) (hx : IvsAt w w.heap.size A xs) (hy : IvsAt w w.heap.size B ys) (nx : Norm xs) (ny : Norm ys) (h : ∀ t, Mem xs t ↔ Mem ys t) :
    Calls Tryz.prog 20 #[.slice A xs.length c, .slice B ys.length d] w fun e w' => e = .returned (.bool true) ∧ Below w.heap.size w w' :=
  (same_any A B c d xs ys w hx hy (by have := norm_len nx; omega) (by have := norm_len ny; omega)).mono fun _ _ ⟨he, q, hw⟩ => ⟨by rw [he, decide_eq_true (norm_ext nx ny h)], by rw [hw]; exact below_drewN (Below.refl _ _) q⟩

end Go.Proofs.YtdlebcijgdkfjaaGreatDoor
