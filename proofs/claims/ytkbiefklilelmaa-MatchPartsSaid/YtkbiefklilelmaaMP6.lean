/-
  Several texts in one: Tree, Sort, Clip, Cuts. Each says at its head what it holds.
-/
import Derived.Test.YtkbiefklilelmaaMP1
import Derived.Test.YtkbiefklilelmaaMP5
import Derived.Test.YtkbiefklilelmaaMP2
import Derived.Test.YtkbiefklilelmaaShelf
import Derived.Lib.OwnBridge

/-
  Trees of api.Node in memory; wavestoreref49.Nodes and wavestoreref49.Few end, whatever the tree.
-/
namespace Go.Proofs.Ytkbiefklilelmaa
open Go.RowKit

/-- a tree with the places of its lists of children -/
inductive Nd where
  | mk (kind at_ : Int) (name value : ByteArray) (a b c d : Int) (KA : Option Addr) (kc : Nat) (kids : List Nd)
def Nd.kids : Nd → List Nd | .mk _ _ _ _ _ _ _ _ _ _ kids => kids
def Nd.KA : Nd → Option Addr | .mk _ _ _ _ _ _ _ _ KA _ _ => KA
def cNd : Nd → List Value | .mk kind at_ name value a b c d KA kc kids => [.int .i64 kind, .int .i64 at_, .string name, .string value, .int .i64 a, .int .i64 b, .int .i64 c, .int .i64 d, .slice KA kids.length kc]
theorem Nd.ind {p : Nd → Prop} (h : ∀ n, (∀ k ∈ n.kids, p k) → p n) : ∀ n, p n
  | .mk kind at_ name value a b c d KA kc kids => h _ fun k _hk => Nd.ind h k
termination_by n => SizeOf.sizeOf n
decreasing_by
  have h1 : k ∈ kids := _hk
  have := List.sizeOf_lt_of_mem h1
  simp
  omega
/-- lists of trees in memory -/
inductive TreesAt (w : World) (P : Nat → Prop) : Option Addr → List Nd → Prop
  | mk (A : Option Addr) (l : List Nd) (len : l.length ≤ 140737488355328) (row : Row w P 9 cNd A l) (kids : ∀ n, n ∈ l → TreesAt w P n.KA n.kids) : TreesAt w P A l
section
variable {w w' : World} {P P' : Nat → Prop} {A : Option Addr} {l : List Nd}
theorem TreesAt.len (h : TreesAt w P A l) : l.length ≤ 140737488355328 := by cases h; assumption
theorem TreesAt.row (h : TreesAt w P A l) : Row w P 9 cNd A l := by cases h; assumption
theorem TreesAt.each (h : TreesAt w P A l) : ∀ n ∈ l, TreesAt w P n.KA n.kids := by cases h; assumption
theorem TreesAt.stay (h : TreesAt w P A l) (hs : Stay P w w') : TreesAt w' P A l := by
  induction h with
  | mk A l len row _ ih => exact .mk A l len (row.stay hs) fun n hn => ih n hn
theorem TreesAt.more (h : TreesAt w P A l) (hp : ∀ b, P b → P' b) : TreesAt w P' A l := by
  induction h with
  | mk A l len row _ ih => exact .mk A l len (row.more hp) fun n hn => ih n hn
theorem TreesAt.grow (h : TreesAt w (Lo w.heap.size) A l) (hb : Below w.heap.size w w') : TreesAt w' (Lo w'.heap.size) A l := (h.stay (stay_below hb fun _ h => h)).more fun _ hb' => Nat.lt_of_lt_of_le hb' hb.size
end
theorem box9 {w : World} {N : Nat} {a b c d e f g h i : Value} {t : TypeId} (hN : w.heap[N]? = some (.cells #[a, b, c, d, e, f, g, h, i] t (0, 0))) : w.cell? ⟨N, 0, none⟩ = some a ∧ w.cell? ⟨N, 1, none⟩ = some b ∧ w.cell? ⟨N, 2, none⟩ = some c ∧ w.cell? ⟨N, 3, none⟩ = some d ∧ w.cell? ⟨N, 4, none⟩ = some e ∧ w.cell? ⟨N, 5, none⟩ = some f ∧ w.cell? ⟨N, 6, none⟩ = some g ∧ w.cell? ⟨N, 7, none⟩ = some h ∧ w.cell? ⟨N, 8, none⟩ = some i := by
  refine ⟨?_, ?_, ?_, ?_, ?_, ?_, ?_, ?_, ?_⟩ <;> (rw [cell_of_row w N _ _ t (0, 0) hN]; rfl)

def NumPost (w : World) (e : Ending) (w' : World) : Prop := ∃ z : Int, e = .returned (.int .i64 z) ∧ I64 z ∧ Below w.heap.size w w'
def NodesRel (len : Nat) (w : World) (k i : Value) (wr : World) : Prop := ∃ (j : Nat) (z : Int), j ≤ len ∧ i = .int .i64 j ∧ k = .int .i64 z ∧ I64 z ∧ Below w.heap.size w wr
theorem wrap_64 (z : Int) : I64 (wrap64 z) := by unfold I64 wrap64; omega

set_option maxRecDepth 100000 in
set_option maxHeartbeats 4000000 in
theorem nodes_any (n : Nd) : ∀ w : World, TreesAt w (Lo w.heap.size) n.KA n.kids → Calls Try.prog 98 #[.agg (cNd n).toArray] w (NumPost w) := by
  induction n using Nd.ind with
  | h n ih =>
  intro w ht
  obtain ⟨kind, at_, name, value, a, b, c, d, KA, kc, kids⟩ := n
  have IH := hide ih
  unfold Nd.KA Nd.kids at ht
  unfold cNd
  have hl := ht.len
  obtain ⟨W0, hW0⟩ : ∃ W0, w.alloc (.cells #[.int .i64 kind, .int .i64 at_, .string name, .string value, .int .i64 a, .int .i64 b, .int .i64 c, .int .i64 d, .slice KA kids.length kc] 105) = W0 := ⟨_, rfl⟩
  have g0 := new_at hW0
  have hb0 : Below w.heap.size w W0 := by rw [← hW0]; exact (Below.refl _ _).alloc (Nat.le_refl _) _
  have HT := hide (ht.grow hb0)
  have HG0 := hide g0
  have HB0 := hide hb0
  have HW0 := hide hW0
  clear ih ht g0 hb0 hW0
  go_enter Try.func98, Try.ntmps98
  go_upto_region 1 with (fail)
  rw [HW0.out]
  go_wp2_with fail
  go_loopw [3, 4] (fun k i wr => NodesRel kids.length W0 k i wr) (fun _ i _ => kids.length - (intOf i).toNat)
  case atStart => exact ⟨0, 1, Nat.zero_le _, rfl, rfl, by unfold I64; omega, Below.refl _ _⟩
  case round =>
    obtain ⟨j, z, hj, rfl, rfl, hz, hbr⟩ := hrel
    have HBR := hide hbr
    have HZ := hide hz
    obtain ⟨-, -, -, -, -, -, -, -, x8⟩ := box9 ((hbr.block _ (box_lt HG0.out)).trans HG0.out)
    clear hbr hz
    by_cases hlt : j < kids.length
    · have hT := HT.out.grow HBR.out
      obtain ⟨bk, ok, rfl, hbk, hc⟩ := hT.row.at_ hlt
      have hkid := hT.each _ (List.getElem_mem hlt)
      have hcall := IH.out _ (show kids[j] ∈ Nd.kids (.mk kind at_ name value a b c d (some ⟨bk, ok, none⟩) kc kids) from List.getElem_mem hlt) wr hkid
      generalize kids[j] = m at *
      obtain ⟨m1, m2, m3, m4, m5, m6, m7, m8, mK, mc, ml⟩ := m
      unfold cNd at hc hcall
      have HC := hide hcall
      have c0 := hc 0 (by omega)
      have c1 := hc 1 (by omega)
      have c2 := hc 2 (by omega)
      have c3 := hc 3 (by omega)
      have c4 := hc 4 (by omega)
      have c5 := hc 5 (by omega)
      have c6 := hc 6 (by omega)
      have c7 := hc 7 (by omega)
      have c8 := hc 8 (by omega)
      simp only [List.getElem?_cons_zero, List.getElem?_cons_succ, Nat.add_zero] at c0 c1 c2 c3 c4 c5 c6 c7 c8
      clear hc hcall hkid hT
      go_wp2_with (go_at_call 98; refine HC.out.mono ?_; rintro e w2 ⟨y, rfl, hy, hb2⟩; have HB2 := hide hb2; clear hb2)
      exact ⟨⟨j + 1, _, hlt, by go_num, rfl, wrap_64 _, bstep HBR.out HB2.out⟩, by simp [intOf]; omega⟩
    · have HE := hide (show NumPost w (.returned (.int .i64 z)) wr from ⟨z, rfl, HZ.out, bstep HB0.out HBR.out⟩)
      go_wp2_with fail
      go_ret
      exact HE.out

def BoolPost (w : World) (e : Ending) (w' : World) : Prop := ∃ b : Bool, e = .returned (.bool b) ∧ Below w.heap.size w w'
def FewRel (len : Nat) (w : World) (i : Value) (wr : World) : Prop := ∃ j : Nat, j ≤ len ∧ i = .int .i64 j ∧ Below w.heap.size w wr

set_option maxRecDepth 100000 in
set_option maxHeartbeats 4000000 in
theorem few49_any (most : Int) (n : Nd) : ∀ w : World, TreesAt w (Lo w.heap.size) n.KA n.kids → Calls Try.prog 76 #[.agg (cNd n).toArray, .int .i64 most] w (BoolPost w) := by
  induction n using Nd.ind with
  | h n ih =>
  intro w ht
  have hn := nodes_any n
  obtain ⟨kind, at_, name, value, a, b, c, d, KA, kc, kids⟩ := n
  have IH := hide ih
  unfold Nd.KA Nd.kids at ht hn
  unfold cNd at hn ⊢
  dsimp only at hn
  have hl := ht.len
  obtain ⟨W0, hW0⟩ : ∃ W0, w.alloc (.cells #[.int .i64 kind, .int .i64 at_, .string name, .string value, .int .i64 a, .int .i64 b, .int .i64 c, .int .i64 d, .slice KA kids.length kc] 105) = W0 := ⟨_, rfl⟩
  have g0 := new_at hW0
  have hb0 : Below w.heap.size w W0 := by rw [← hW0]; exact (Below.refl _ _).alloc (Nat.le_refl _) _
  have HT := hide (ht.grow hb0)
  have HN := hide (hn W0 HT.out)
  have HG0 := hide g0
  have HB0 := hide hb0
  have HW0 := hide hW0
  have HNO := hide (show ∀ wr, Below W0.heap.size W0 wr → BoolPost w (.returned (.bool false)) wr from fun wr hb => ⟨false, rfl, bstep hb0 hb⟩)
  obtain ⟨y0, y1, y2, y3, y4, y5, y6, y7, y8⟩ := box9 g0
  clear ih ht g0 hb0 hW0 hn
  by_cases h1 : name.size ≤ 60
  · have T1 : decide ((60 : Int) < (name.size : Int)) = false := decide_eq_false (by omega)
    by_cases h2 : value.size ≤ 130
    · have T2 : decide ((130 : Int) < (value.size : Int)) = false := decide_eq_false (by omega)
      go_enter Try.func76, Try.ntmps76
      go_upto_region 1 with (fail)
      rw [HW0.out]
      go_cut [21] (fun v wx => ∃ b : Bool, v = .bool b ∧ Below W0.heap.size W0 wx)
      case first =>
        go_wp2_with (go_at_call 98; refine HN.out.mono ?_; rintro e w2 ⟨y, rfl, hy, hb2⟩; have HB2 := hide hb2; clear hb2)
        go_meet
        exact ⟨_, rfl, HB2.out⟩
      case rest =>
        obtain ⟨bt, rfl, hbc⟩ := hcut
        have HBC := hide hbc
        clear hbc y0 y1 y2 y3 y4 y5 y6 y7 y8
        cases bt with
        | true =>
          go_wp2_with fail
          go_ret
          exact HNO.out _ HBC.out
        | false =>
          go_wp2_with fail
          go_loopw [5] (fun i wr => FewRel kids.length W0 i wr) (fun i _ => kids.length - (intOf i).toNat)
          case atStart => exact ⟨0, Nat.zero_le _, rfl, HBC.out⟩
          case round =>
            obtain ⟨j, hj, rfl, hbr⟩ := hrel
            have HBR := hide hbr
            obtain ⟨-, -, -, -, -, -, -, -, x8⟩ := box9 ((hbr.block _ (box_lt HG0.out)).trans HG0.out)
            clear hbr
            by_cases hlt : j < kids.length
            · have hT := HT.out.grow HBR.out
              obtain ⟨bk, ok, rfl, hbk, hc⟩ := hT.row.at_ hlt
              have hkid := hT.each _ (List.getElem_mem hlt)
              have hcall := IH.out _ (show kids[j] ∈ Nd.kids (.mk kind at_ name value a b c d (some ⟨bk, ok, none⟩) kc kids) from List.getElem_mem hlt) wr hkid
              generalize kids[j] = m at *
              obtain ⟨m1, m2, m3, m4, m5, m6, m7, m8, mK, mc, ml⟩ := m
              unfold cNd at hc hcall
              have HC := hide hcall
              have c0 := hc 0 (by omega)
              have c1 := hc 1 (by omega)
              have c2 := hc 2 (by omega)
              have c3 := hc 3 (by omega)
              have c4 := hc 4 (by omega)
              have c5 := hc 5 (by omega)
              have c6 := hc 6 (by omega)
              have c7 := hc 7 (by omega)
              have c8 := hc 8 (by omega)
              simp only [List.getElem?_cons_zero, List.getElem?_cons_succ, Nat.add_zero] at c0 c1 c2 c3 c4 c5 c6 c7 c8
              clear hc hcall hkid hT
              go_upto_if 36 with (go_at_call 76; refine HC.out.mono ?_; rintro e w2 ⟨y, rfl, hb2⟩; have HB2 := hide hb2; clear hb2)
              cases y with
              | true =>
                go_wp2_with fail
                exact ⟨⟨j + 1, hlt, by go_num, bstep HBR.out HB2.out⟩, by simp [intOf]; omega⟩
              | false =>
                go_wp2_with fail
                go_ret
                exact HNO.out _ (bstep HBR.out HB2.out)
            · have HE := hide (show BoolPost w (.returned (.bool true)) wr from ⟨true, rfl, bstep HB0.out HBR.out⟩)
              go_wp2_with fail
              go_ret
              exact HE.out
    · have T2 : decide ((130 : Int) < (value.size : Int)) = true := decide_eq_true (by omega)
      go_enter Try.func76, Try.ntmps76
      go_upto_region 1 with (fail)
      rw [HW0.out]
      go_wp2_with fail
      go_ret
      exact HNO.out _ (Below.refl _ _)
  · have T1 : decide ((60 : Int) < (name.size : Int)) = true := decide_eq_true (by omega)
    go_enter Try.func76, Try.ntmps76
    go_upto_region 1 with (fail)
    rw [HW0.out]
    go_wp2_with fail
    go_ret
    exact HNO.out _ (Below.refl _ _)

end Go.Proofs.Ytkbiefklilelmaa

/-
  sort.Slice as Clip calls it: a row of intervals of the call's own becomes a permutation of itself, sorted by From.
-/
namespace Go.Proofs.Ytkbiefklilelmaa
open Go.Shelf Go.RowKit Go.Lib Go.Sort Go.Joins

theorem encIvs_get (d : List Iv) : ∀ t, t < d.length * 2 → (encIvs d)[t]? = some ((encIv d[t / 2]!)[t % 2]!) := by
  induction d with
  | nil => intro t ht; simp at ht
  | cons x r ih =>
    intro t ht
    match t, ht with
    | 0, _ => simp [encIvs, encIv]
    | 1, _ => simp [encIvs, encIv]
    | t + 2, ht =>
      have := ih t (by simp at ht; omega)
      have e1 : (t + 2) / 2 = t / 2 + 1 := by omega
      have e2 : (t + 2) % 2 = t % 2 := by omega
      rw [e1, e2]
      simp only [encIvs, List.flatMap_cons] at this ⊢
      rw [List.getElem?_append_right (by simp [encIv])]
      simpa [encIv] using this

theorem flat_encIvs (d : List Iv) : (flatK encIv 2 d.toArray).toList = encIvs d := by
  apply List.ext_getElem?
  intro t
  by_cases ht : t < d.length * 2
  · rw [encIvs_get d t ht]
    have hs : t < (flatK encIv 2 d.toArray).size := by simpa using ht
    rw [Array.getElem?_toList, Array.getElem?_eq_getElem hs]
    have := get_flatK encIv 2 d.toArray t (by simpa using ht)
    rw [getElem!_pos _ t hs] at this
    rw [this]
    simp
  · rw [List.getElem?_eq_none (by simp; omega), List.getElem?_eq_none (by rw [encIvs_length]; omega)]

theorem holdsK_of_own {w : World} {base g cap : Nat} {d : List Iv} (h : w.ownsRow base 42 2 (.slice (some ⟨g, 0, none⟩) d.length cap) d.length (encIvs d)) : HoldsK encIv 2 w g 0 d.toArray := by
  intro j hj
  have hj' : j < d.length * 2 := by simpa using hj
  have hs : (flatK encIv 2 d.toArray)[j]! = (encIvs d)[j]'(by rw [encIvs_length]; omega) := by
    rw [getElem!_pos _ j (by simpa using hj), ← Array.getElem_toList (by simpa using hj)]
    simp only [flat_encIvs]
  constructor
  · rw [Nat.zero_add, h.cellAt j hj', hs, List.getElem?_eq_getElem (by rw [encIvs_length]; omega)]
    rfl
  · rw [Nat.zero_add]; exact h.frozenAt j

theorem own_putRowK {w : World} {base g cap q : Nat} {os : Array Obj} {d d' : List Iv} (h : w.ownsRow base 42 2 (.slice (some ⟨g, 0, none⟩) d.length cap) d.length (encIvs d)) (hl : d'.length = d.length) :
    (grow (putRowK encIv 2 (Sort.ahead w q) g 0 d'.toArray) os).ownsRow base 42 2 (.slice (some ⟨g, 0, none⟩) d'.length cap) d'.length (encIvs d') := by
  obtain ⟨_, h2⟩ := h
  refine ⟨encIvs_length d', ?_⟩
  rcases h2 with ⟨h3, _⟩ | ⟨g', cap', cur, hv, hb, hg, hn, hm, hs, ht⟩
  · cases h3
  · injection hv with hv1 _ hv3
    injection hv1 with hv1
    injection hv1 with hv1
    subst hv1 hv3
    refine .inr ⟨g, cap, putCells id 0 (flatK encIv 2 d'.toArray) cur, rfl, hb, ?_, by omega, hm, by simp [putCells, hs], ?_⟩
    · have hlt : g < w.heap.size := (Array.getElem?_eq_some_iff.1 hg).1
      rw [heap_grow_old _ _ (by simp [putRowK, putRow, mapBlock, Sort.ahead]; exact hlt)]
      simp only [putRowK, putRow, mapBlock, Sort.ahead, Array.getElem?_modify, if_true, hg, Option.map_some, onCells]
    · rw [← flat_encIvs d']
      apply List.ext_getElem?
      intro t
      rw [List.getElem?_take]
      by_cases ht' : t < d'.length * 2
      · rw [if_pos ht', Array.getElem?_toList, Array.getElem?_toList]
        have hc : t < cur.size := by rw [hs]; omega
        simp only [putCells, Array.getElem?_mapIdx]
        rw [Array.getElem?_eq_getElem hc, Option.map_some, if_pos ⟨by omega, by simp; omega⟩, Array.getElem?_eq_getElem (by simp; exact ht')]
        simp only [id, Nat.sub_zero]
        rw [getElem!_pos _ t (by simp; exact ht')]
      · rw [if_neg ht', List.getElem?_eq_none (by simp; omega)]

theorem below_putRowK {w : World} {base g q : Nat} {os : Array Obj} {d' : Array Iv} (hB : base ≤ g) (hw : base ≤ w.heap.size) : Below base w (grow (putRowK encIv 2 (Sort.ahead w q) g 0 d') os) := by
  refine ⟨rfl, rfl, rfl, by simp [putRowK, putRow, mapBlock, Sort.ahead], fun k hk => ?_⟩
  rw [heap_grow_old _ _ (by simp [putRowK, putRow, mapBlock, Sort.ahead]; omega)]
  simp only [putRowK, putRow, mapBlock, Sort.ahead, Array.getElem?_modify]
  rw [if_neg (by omega)]

def ltLo (a b : Iv) : Bool := decide (a.1 < b.1)
theorem swo_ltLo : SWO ltLo where
  irrefl := fun x => by simp [ltLo]
  trans := fun x y z h1 h2 => by simp [ltLo] at *; omega
  ntrans := fun x y z h1 h2 => by simp [ltLo] at *; omega

noncomputable def svT : TypeInfo := (Try.prog.info? 22).get (by kernel_rfl)
noncomputable def svE : TypeInfo := (Try.prog.info? 42).get (by kernel_rfl)
theorem svP : svE.hasPointers = false := by kernel_rfl
theorem svB : svE.bytes = 16 := by kernel_rfl
theorem svK (n : Nat) (h2 : 2 ≤ n) : Lib.swapperK n svE 25 = 9 := by
  have c : (n == 0) = false := by simp; omega
  have d : (n == 1) = false := by simp; omega
  simp [Lib.swapperK, svP, svB, c, d]

set_option maxHeartbeats 1000000 in
theorem less_any (blk off c Bs size : Nat) (W : World) (G : Nat → Int) (hs : W.cell? ⟨Bs, 0, none⟩ = some (.slice (some ⟨blk, off, none⟩) size c))
    (hc : ∀ t, t < size → W.cell? ⟨blk, off + t * 2, none⟩ = some (.int .i64 (G t))) (i j : Nat) (hi : i < size) (hj : j < size) (_hsz : size < 4611686018427387904) :
    Calls Try.prog 75 #[.int .i64 i, .int .i64 j, .pointer (some ⟨Bs, 0, none⟩)] W fun e w' => e = .returned (.bool (decide (G i < G j))) ∧ ∃ q, w' = W.drewN q := by
  have ci := hc i hi
  have cj := hc j hj
  go_enter Try.func75, Try.ntmps75
  go_wp2
  go_quiet (fail)
  go_wp2
  go_ret
  exact ⟨rfl, nq, rfl⟩

theorem sort_two (g c Bs : Nat) (d : Array Iv) (h2 : 2 ≤ d.size) (hsz : d.size < 4611686018427387904) (w : World) (hH : HoldsK encIv 2 w g 0 d) (hblk : g < w.heap.size)
    (hBs : w.cell? ⟨Bs, 0, none⟩ = some (.slice (some ⟨g, 0, none⟩) d.size c)) (hB1 : Bs < w.heap.size) (hB2 : Bs ≠ g) :
    Calls Try.prog 74 #[.iface 22 (.slice (some ⟨g, 0, none⟩) d.size c), .func (.func 75) #[] #[.pointer (some ⟨Bs, 0, none⟩)]] w fun e w' =>
      e = .returned (.tuple #[]) ∧ ∃ d' n os, PermIn 0 d.size d d' ∧ SortedIn ltLo 0 d.size d' ∧ w' = grow (putRowK encIv 2 (Sort.ahead w n) g 0 d') os := by
  have hless : LessReadsK Try.prog 75 #[.pointer (some ⟨Bs, 0, none⟩)] encIv 2 ltLo g 0 d.size w := by
    intro m os dk hs i j hi hj
    have e : sortWorldK encIv 2 w g 0 m dk os = putRowK encIv 2 (grow (Sort.ahead w m) os) g 0 dk := by
      unfold sortWorldK; rw [putRowK_grow _ _ (Sort.ahead w m) _ g 0 _ hblk]
    have hHg : HoldsK encIv 2 (grow (Sort.ahead w m) os) g 0 d := holdsK_grow _ _ _ _ g 0 d hblk (holdsK_ahead _ _ _ _ _ _ _ hH)
    refine less_any g 0 c Bs d.size _ (fun t => dk[t]!.1) ?_ (fun t ht => ?_) i j hi hj (by omega)
    · rw [e, cell?_putRowK_other _ _ _ g 0 dk _ (by exact hB2), cell?_grow _ _ _ (by exact hB1)]; exact hBs
    · rw [e]; exact ((holdsK_putRowK _ _ _ g 0 d dk hHg hs).cell (i := t) (c := 0) (by omega) (by omega)).1
  exact Any.sort_Slice_cells_sorted Try.laysGg6 22 42 svT svE (by kernel_rfl) (by kernel_rfl) (by kernel_rfl) (by kernel_rfl) 25 (fun _ => by kernel_rfl) encIv 2 (fun _ => rfl) (by kernel_rfl) (fun _ => by kernel_rfl)
    (fun x v hv => by simp [encIv] at hv; rcases hv with rfl | rfl <;> rfl) ltLo swo_ltLo 75 _
    (enters_of Try.func75 (by kernel_rfl) rfl) g 0 c d h2 hsz 117 (by rw [svK _ h2]; kernel_rfl) false
    (fun args W => run_callFunc_extern Try.func117 (by kernel_rfl) (by kernel_rfl) (by kernel_rfl) (e := Extern.ReflectliteSwapper.swap false) (by kernel_rfl) args W) w hless hH hblk

theorem sort_tiny (p : Option Addr) (n c : Nat) (h1 : n ≤ 1) (lb : Array Value) (w : World) :
    Calls Try.prog 74 #[.iface 22 (.slice p n c), .func (.func 75) #[] lb] w fun e w' => e = .returned (.tuple #[]) ∧ ∃ os, w' = grow w os := by
  rcases (show n = 0 ∨ n = 1 by omega) with rfl | rfl
  · exact Any.sort_Slice_tiny Try.laysGg6 22 42 svT svE (by kernel_rfl) (by kernel_rfl) (by kernel_rfl) (by kernel_rfl) 25 (fun _ => by kernel_rfl) p 0 c (by omega) 109 (by kernel_rfl) _ _ lb w
  · exact Any.sort_Slice_tiny Try.laysGg6 22 42 svT svE (by kernel_rfl) (by kernel_rfl) (by kernel_rfl) (by kernel_rfl) 25 (fun _ => by kernel_rfl) p 1 c (by omega) 110 (by kernel_rfl) _ _ lb w

/-- sort.Slice at a row of the call's own, of whatever length -/
theorem sort_any (base Bs : Nat) (v : Value) (d : List Iv) (w : World) (hown : w.ownsRow base 42 2 v d.length (encIvs d)) (hB : Bs < base) (hw : base ≤ w.heap.size)
    (hBs : w.cell? ⟨Bs, 0, none⟩ = some v) (hsz : d.length < 4611686018427387904) :
    Calls Try.prog 74 #[.iface 22 v, .func (.func 75) #[] #[.pointer (some ⟨Bs, 0, none⟩)]] w fun e w' =>
      e = .returned (.tuple #[]) ∧ ∃ d' : List Iv, d'.Perm d ∧ d'.Pairwise (fun a b => a.1 ≤ b.1) ∧ w'.ownsRow base 42 2 v d'.length (encIvs d') ∧ Below base w w' := by
  by_cases h1 : d.length ≤ 1
  · have hform : ∃ p c, v = .slice p d.length c := by
      rcases ownsRow_forms hown with ⟨rfl, h⟩ | ⟨g, c, rfl⟩
      · exact ⟨none, 0, by rw [h]⟩
      · exact ⟨_, _, rfl⟩
    obtain ⟨p, c, rfl⟩ := hform
    refine (sort_tiny p d.length c h1 _ w).mono ?_
    rintro e w' ⟨he, os, rfl⟩
    refine ⟨he, d, List.Perm.refl _, ?_, ?_, ?_⟩
    · match d, h1 with
      | [], _ => exact List.Pairwise.nil
      | [x], _ => simp
    · exact hown.kept (row := none) ⟨rfl, rfl, rfl, by simp, fun k hk _ => heap_grow_old w os hk⟩ (by cases p <;> simp [Value.ownBlock])
    · exact ⟨rfl, rfl, rfl, by simp, fun k hk => heap_grow_old w os (by omega)⟩
  · obtain ⟨g, c, rfl⟩ := ownsRow_form hown (by omega)
    have hg := hown.lt g rfl
    refine (sort_two g c Bs d.toArray (by simp; omega) (by simpa using hsz) w (holdsK_of_own hown) hg.2 (by simpa using hBs) (by omega) (by omega)).mono ?_
    rintro e w' ⟨he, d', n, os, hp, hs, rfl⟩
    have hsize : d'.toList.length = d.length := by have := hp.1; simpa using this
    refine ⟨he, d'.toList, ?_, ?_, ?_, ?_⟩
    · have := hp.2.2
      have e1 : (d'.extract 0 d.toArray.size).toList = d'.toList := by
        have : d.toArray.size = d'.size := by simpa using hsize.symm
        rw [this]; simp
      have e2 : (d.toArray.extract 0 d.toArray.size).toList = d := by simp
      rwa [e1, e2] at this
    · rw [List.pairwise_iff_getElem]
      intro i j hi hj hij
      have := hs i j (by omega) hij (by rw [List.size_toArray, ← hsize]; exact hj)
      rw [getElem!_pos d' j (by simpa using hj), getElem!_pos d' i (by simpa using hi)] at this
      simp [ltLo] at this
      simpa using this
    · have := own_putRowK (q := n) (os := os) (d' := d'.toList) hown hsize
      rw [hsize] at this ⊢
      simpa using this
    · exact below_putRowK hg.1 hw

end Go.Proofs.Ytkbiefklilelmaa

/-
  intervals.Clip: the normal list of the times of a list that are in a range.
-/
namespace Go.Proofs.Ytkbiefklilelmaa
open Go.RowKit Go.Joins

def ClipRel (w : World) (lo hi : Int) (xs : List Iv) (i : Value) (wr : World) : Prop :=
  ∃ (k : Nat) (A : Option Addr) (c : Nat), k ≤ xs.length ∧ i = .int .i64 k ∧ wr.heap[w.heap.size]? = some (.cells #[.slice A (clipped lo hi (xs.take k)).length c] 22 (0, 0)) ∧
    OwnIv wr (w.heap.size + 1) A c (clipped lo hi (xs.take k)) ∧ Below w.heap.size w wr

def ClipRel2 (w2 : World) (d : List Iv) (out i : Value) (wr : World) : Prop :=
  ∃ (k : Nat) (A : Option Addr) (c : Nat), k ≤ d.length ∧ i = .int .i64 k ∧ out = .slice A (merged (d.take k)).length c ∧ OwnIv wr w2.heap.size A c (merged (d.take k)) ∧ Below w2.heap.size w2 wr

theorem clipped_take_succ (lo hi : Int) (xs : List Iv) (k : Nat) (hk : k < xs.length) : clipped lo hi (xs.take (k + 1)) = clipped lo hi (xs.take k) ++ if max xs[k].1 lo ≤ min xs[k].2 hi then [(max xs[k].1 lo, min xs[k].2 hi)] else [] := by
  rw [List.take_succ_eq_append_getElem hk, clipped_snoc]; rfl

theorem snoc_cases (ms : List Iv) : ms = [] ∨ ∃ init z, ms = init ++ [z] := by
  cases h : ms.getLast? with
  | none => exact .inl (by simpa using h)
  | some z => exact .inr ⟨_, z, getLast?_snoc_of h⟩
theorem mergeStep_nil (x : Iv) : mergeStep [] x = [x] := rfl
theorem mergeStep_le (init : List Iv) (z x : Iv) (h : x.1 ≤ z.2 + 1) : mergeStep (init ++ [z]) x = init ++ [(z.1, max z.2 x.2)] := by
  unfold mergeStep; simp [h]
theorem mergeStep_gt (init : List Iv) (z x : Iv) (h : ¬ x.1 ≤ z.2 + 1) : mergeStep (init ++ [z]) x = (init ++ [z]) ++ [x] := by
  unfold mergeStep; simp [h]
theorem merged_take_succ (xs : List Iv) (k : Nat) (hk : k < xs.length) : merged (xs.take (k + 1)) = mergeStep (merged (xs.take k)) xs[k] := by
  rw [List.take_succ_eq_append_getElem hk, merged_snoc]

set_option maxRecDepth 100000 in
set_option maxHeartbeats 2000000 in
theorem clip_any (A : Option Addr) (c : Nat) (xs : List Iv) (lo hi : Int) (w : World) (h : IvsAt w w.heap.size A xs) (hl : xs.length ≤ 4398046511104) :
    Calls Try.prog 53 #[.slice A xs.length c, .int .i64 lo, .int .i64 hi] w (RetIvs w fun t => lo ≤ t ∧ t ≤ hi ∧ Mem xs t) := by
  go_enter Try.func53, Try.ntmps53
  go_wp2
  go_loopw [20] (fun i wr => ClipRel w (max lo 0) (min hi 1099511627776) xs i wr) (fun i _ => xs.length - (intOf i).toNat)
  case atStart => exact ⟨0, none, 0, Nat.zero_le _, rfl, by have := heap_alloc_new w (.cells #[.slice none 0 0] 22); simpa [clipped] using this, by simpa [clipped] using OwnIv.nil _ _, (Below.refl _ _).alloc (Nat.le_refl _) _⟩
  case round =>
    obtain ⟨k, A1, c1, hk, rfl, hbox, hown, hb⟩ := hrel
    have hyl : (clipped (max lo 0) (min hi 1099511627776) (xs.take k)).length ≤ 4398046511104 := by
      have := clipped_len (max lo 0) (min hi 1099511627776) (xs.take k); have := List.length_take_le k xs; omega
    have hcb := box_cell hbox
    have hlb := box_lt hbox
    by_cases hlt : k < xs.length
    · obtain ⟨b, off, rfl, hbb, hc1, hc2⟩ := (h.below hb).at_ hlt
      have HS := hide (clipped_take_succ (max lo 0) (min hi 1099511627776) xs k hlt)
      generalize hys : clipped (max lo 0) (min hi 1099511627776) (xs.take k) = ys at *
      clear hys
      have HBOX := hide hbox
      clear hbox
      go_wp2_with (at_builtin; refine append_iv rfl _ _ rfl (w.heap.size + 1) A1 c1 ys _ rfl rfl (max xs[k].1 (max lo 0)) (min xs[k].2 (min hi 1099511627776)) _ rfl _ rfl (by simp) (hown.alloc _) hyl (by simp; omega) ?_
                   intro g' c' w1 row hown1 hg' hgrow hrow
                   have hbox1 := box_grownB (box_alloc (box_alloc HBOX.out)) hgrow hrow (Nat.lt_succ_self _)
                   have HB1 := hide hbox1
                   have hcb1 := box_cell hbox1
                   have hfb1 := box_frozen hbox1
                   clear hbox1)
      · go_roundw
        case rel =>
          refine ⟨k + 1, some ⟨g', 0, none⟩, c', by omega, by go_num, ?_, ?_, ?_⟩
          · rw [HS.out, if_pos ‹_›, List.length_append]
            exact box_set1 HB1.out
          · rw [HS.out, if_pos ‹_›]
            exact ownsRow_setCell_below hown1 (by simp) _
          · exact (((hb.alloc hb.size _).alloc (by have := hb.size; simp; omega) _).grown hgrow (by have := hb.size; simp; omega) (fun k hk => by have := hrow k hk; omega)).setCell (p := ⟨w.heap.size, 0, none⟩) (Nat.le_refl _) _
        case measure => simp [intOf]; omega
      · go_roundw
        case rel =>
          refine ⟨k + 1, A1, c1, by omega, by go_num, ?_, ?_, ?_⟩
          · rw [HS.out, if_neg (by omega), List.append_nil]
            exact box_alloc HBOX.out
          · rw [HS.out, if_neg (by omega), List.append_nil]
            exact hown.alloc _
          · exact hb.alloc hb.size _
        case measure => simp [intOf]; omega
    · have hke : k = xs.length := by omega
      subst hke
      rw [List.take_length] at *
      generalize hys : clipped (max lo 0) (min hi 1099511627776) xs = ys at *
      have HYS := hide hys
      clear hys
      have HBOX := hide hbox
      clear hbox
      go_wp2_with (go_at_call 74; refine (sort_any (w.heap.size + 1) w.heap.size (.slice A1 ys.length c1) ys _ hown (by omega) (by omega) hcb (by omega)).mono ?_; rintro e w2 ⟨rfl, d, hperm, hsort, hown2, hb2⟩
                   have hcb2 := (hb2.cell (p := ⟨w.heap.size, 0, none⟩) (by simp)).trans hcb)
      have HLEN := hide hperm.length_eq
      have hld : d.length ≤ ys.length := Nat.le_of_eq hperm.length_eq
      have hld' : ys.length ≤ d.length := Nat.le_of_eq hperm.length_eq.symm
      have hokd : ∀ x ∈ d, Okv x := fun x hx => clipped_ok (max lo 0) (min hi 1099511627776) xs (by omega) (by omega) x (by rw [HYS.out]; exact hperm.mem_iff.1 hx)
      have hrd : IvsAt w2 w2.heap.size A1 d := (show OwnIv w2 (w.heap.size + 1) A1 c1 d by unfold OwnIv; rw [hperm.length_eq] at hown2 ⊢; exact hown2).ats
      have hmn : ∀ k, Norm (merged (d.take k)) := fun k => (merged_spec _ (fun x hx => hokd x (List.mem_of_mem_take hx)) (hsort.sublist (List.take_sublist k d))).1
      have hwr : Below w.heap.size w w2 := hb.trans (hb2.mono (by omega))
      have HP := hide hperm
      have HSO := hide hsort
      clear hperm hsort hown2 hown h hb HBOX hb2
      go_loopw [10, 50] (fun out i wr2 => ClipRel2 w2 d out i wr2) (fun _ i _ => d.length - (intOf i).toNat)
      case atStart => exact ⟨0, none, 0, Nat.zero_le _, rfl, rfl, OwnIv.nil _ _, Below.refl _ _⟩
      case round =>
        rename_i wr' _ _ _ _ _
        obtain ⟨k, A3, c3, hk3, rfl, rfl, hown3, hb3⟩ := hrel
        by_cases hlt3 : k < d.length
        · obtain ⟨b, off, rfl, hbb, hc1, hc2⟩ := (hrd.below hb3).at_ hlt3
          have HS := hide (merged_take_succ d k hlt3)
          have hnm := hmn k
          have hml := norm_len hnm
          have hox := hokd d[k] (List.getElem_mem _)
          unfold Okv at hox
          generalize hms : merged (d.take k) = ms at *
          clear hms
          rcases snoc_cases ms with rfl | ⟨init, z, rfl⟩
          · have hd0 : decide ((0:Int) < 0) = false := by decide
            go_wp2
            go_quiet (fail)
            go_wp2_with (at_builtin; (refine append_iv rfl _ _ rfl w2.heap.size A3 c3 [] _ rfl rfl d[k].1 d[k].2 _ rfl _ rfl (by simp) (hown3.alloc _) (by simp) (by have := hb3.size; simp; omega) ?_)
                         intro g' c' w1 row hown1 hg' hgrow hrow)
            go_roundw
            case rel =>
              refine ⟨k + 1, some ⟨g', 0, none⟩, c', by omega, by go_num, ?_, ?_, ?_⟩
              · rw [HS.out]; rfl
              · rw [HS.out]; exact hown1
              · exact (below_drewN ((hb3.alloc hb3.size _).alloc (by have := hb3.size; simp; omega) _) _).grown hgrow (by have := hb3.size; go_simp; omega) hrow
            case measure => simp [intOf]; omega
          · obtain ⟨g, rfl, hgb, hgl, hz1, hz2, hzf⟩ := hown3.last
            have hoz := hnm.1 z (by simp)
            unfold Okv at hoz
            have e1 : (init ++ [z]).length = init.length + 1 := by simp
            have hd0 : decide ((0:Int) < init.length + 1) = true := decide_eq_true (by omega)
            by_cases hle : d[k].1 ≤ z.2 + 1
            · go_wp2
              go_quiet (fail)
              go_wp2
              go_region
              all_goals go_wp2
              go_roundw
              case rel =>
                refine ⟨k + 1, some ⟨g, 0, none⟩, c3, by omega, by go_num, ?_, ?_, ?_⟩
                · rw [HS.out, mergeStep_le init z d[k] hle]; simp
                · rw [HS.out, mergeStep_le init z d[k] hle]; exact ((hown3.alloc _).drewN _).set_last _
                · exact (below_drewN (hb3.alloc hb3.size _) _).setCell (p := ⟨g, init.length * 2 + 1, none⟩) hgb _
              case measure => simp [intOf]; omega
            · go_wp2
              go_quiet (fail)
              go_wp2_with (at_builtin; (refine append_iv rfl _ _ rfl w2.heap.size _ c3 (init ++ [z]) _ rfl (by simp) d[k].1 d[k].2 _ rfl _ rfl (by simp) (hown3.alloc _) (by omega) (by have := hb3.size; simp; omega) ?_)
                           intro g' c' w1 row hown1 hg' hgrow hrow)
              go_roundw
              case rel =>
                refine ⟨k + 1, some ⟨g', 0, none⟩, c', by omega, by go_num, ?_, ?_, ?_⟩
                · rw [HS.out, mergeStep_gt init z d[k] (by omega)]; simp
                · rw [HS.out, mergeStep_gt init z d[k] (by omega)]; exact hown1
                · exact (below_drewN ((hb3.alloc hb3.size _).alloc (by have := hb3.size; simp; omega) _) _).grown hgrow (by have := hb3.size; go_simp; omega) hrow
              case measure => simp [intOf]; omega
        · have hke : k = d.length := by omega
          subst hke
          go_wp2
          go_ret
          rw [List.take_length] at hown3 ⊢
          obtain ⟨hn1, hn2, _⟩ := merged_spec d hokd HSO.out
          refine ⟨A3, c3, merged d, rfl, hown3.lower hwr.size, hwr.trans (hb3.mono hwr.size), hn1, fun t => ?_⟩
          rw [hn2, mem_perm HP.out, ← HYS.out, clipped_mem]
          constructor
          · rintro ⟨h1, h2, h3⟩; exact ⟨by omega, by omega, h3⟩
          · rintro ⟨h1, h2, h3⟩; have := mem_bounds h3; exact ⟨by omega, by omega, h3⟩
end Go.Proofs.Ytkbiefklilelmaa

/-
  intervals.cuts: the beginnings and the ends of two normal lists, in order, each once.
-/
namespace Go.Proofs.Ytkbiefklilelmaa
open Go.RowKit Go.Joins

def CutsOut (w : World) (a b : List Iv) (out i : Value) (wr : World) : Prop :=
  ∃ (k : Nat) (A : Option Addr) (c : Nat), k ≤ 2 ∧ i = .int .i64 k ∧ out = .slice A (cutsOf ([a, b].take k).flatten).length c ∧ OwnInt wr w.heap.size A c (cutsOf ([a, b].take k).flatten) ∧ Below w.heap.size w wr
def CutsIn (w : World) (pre l : List Iv) (out i : Value) (wr : World) : Prop :=
  ∃ (k : Nat) (A : Option Addr) (c : Nat), k ≤ l.length ∧ i = .int .i64 k ∧ out = .slice A (cutsOf (pre ++ l.take k)).length c ∧ OwnInt wr w.heap.size A c (cutsOf (pre ++ l.take k)) ∧ Below w.heap.size w wr

theorem cuts_take_succ (pre l : List Iv) (k : Nat) (hk : k < l.length) : cutsOf (pre ++ l.take (k + 1)) = cutsOf (pre ++ l.take k) ++ [l[k].1, l[k].2 + 1] := by
  rw [List.take_succ_eq_append_getElem hk, ← List.append_assoc, cutsOf_snoc]

theorem sortInts_any (base : Nat) (A : Option Addr) (c : Nat) (zs : List Int) (w : World) (hown : OwnInt w base A c zs) (hsz : zs.length ≤ 8796093022208) (hB : base ≤ w.heap.size) :
    Calls Try.prog 81 #[.slice A zs.length c] w fun e w' => e = .returned (.tuple #[]) ∧ OwnInt w' base A c (zs.mergeSort fun x y => decide (x ≤ y)) ∧ Below base w w' := by
  rcases hown.form with ⟨rfl, rfl, rfl⟩ | ⟨g, rfl, hg1, hg2, _⟩
  · refine (Try.slices_Sort_int_none none 0 w).mono ?_
    rintro e w' ⟨rfl, rfl⟩
    exact ⟨rfl, by simpa using OwnInt.nil _ _, Below.refl _ _⟩
  · obtain ⟨g', cap', hv, _, _, _, _, _, hH⟩ := Lib.holds_of_ownsRow hown (by simp)
    injection hv with hv1 _ hv3
    injection hv1 with hv1
    injection hv1 with hv1
    subst hv1 hv3
    refine (Try.slices_Sort_int g 0 c zs w hH hg2 (by omega)).mono ?_
    rintro e w' ⟨rfl, n, os, rfl⟩
    have hl : (zs.mergeSort fun x y => decide (x ≤ y)).length = zs.length := List.length_mergeSort _
    have ho := Lib.ownsRow_putRow (q := n) (ys := zs.mergeSort fun x y => decide (x ≤ y)) hown hl (Nat.le_refl _)
    refine ⟨rfl, ?_, ?_⟩
    · unfold OwnInt
      rw [List.take_of_length_le (by omega)] at ho
      rw [hl]
      exact World.ownsRow.kept ho (row := none) ⟨rfl, rfl, rfl, by simp, fun k hk _ => Sort.heap_grow_old _ os hk⟩ (by simp [Value.ownBlock])
    · refine ⟨rfl, rfl, rfl, by simp [Sort.putRow, Sort.mapBlock, Sort.ahead], fun k hk => ?_⟩
      rw [Sort.heap_grow_old _ _ (by simp [Sort.putRow, Sort.mapBlock, Sort.ahead]; omega)]
      simp only [Sort.putRow, Sort.mapBlock, Sort.ahead, Array.getElem?_modify]
      rw [if_neg (by omega)]

theorem compactInts_any (base : Nat) (A : Option Addr) (c : Nat) (zs : List Int) (w : World) (hown : OwnInt w base A c zs) (hsz : zs.length ≤ 8796093022208) (hB : base ≤ w.heap.size) :
    Calls Try.prog 82 #[.slice A zs.length c] w fun e w' => e = .returned (.slice A (Lib.compact zs).length c) ∧ OwnInt w' base A c (Lib.compact zs) ∧ Below base w w' := by
  rcases hown.form with ⟨rfl, rfl, rfl⟩ | ⟨g, rfl, hg1, hg2, hg3, _⟩
  · refine (Try.slices_Compact_int_empty none 0 w).mono ?_
    rintro e w' ⟨rfl, rfl⟩
    exact ⟨rfl, by simpa [Lib.compact, Lib.compactUpTo] using OwnInt.nil _ _, Below.refl _ _⟩
  · obtain ⟨g', cap', hv, _, _, _, _, _, hH⟩ := Lib.holds_of_ownsRow hown (by simp)
    injection hv with hv1 _ hv3
    injection hv1 with hv1
    injection hv1 with hv1
    subst hv1 hv3
    refine (Try.slices_Compact_int g 0 c zs w hH (by omega) hg3).mono ?_
    rintro e w' ⟨rfl, n, rfl⟩
    have hl := compact_le zs
    have ho := Lib.ownsRow_putRow (q := n) (k := (Lib.compact zs).length) (ys := Lib.compact zs ++ List.replicate (zs.length - (Lib.compact zs).length) 0) hown (by simp; omega) hl
    refine ⟨rfl, ?_, ?_⟩
    · unfold OwnInt
      rw [List.take_left' rfl] at ho
      exact ho
    · refine ⟨rfl, rfl, rfl, by simp [Sort.putRow, Sort.mapBlock, Sort.ahead], fun k hk => ?_⟩
      simp only [Sort.putRow, Sort.mapBlock, Sort.ahead, Array.getElem?_modify]
      rw [if_neg (by omega)]

set_option maxHeartbeats 1000000 in
theorem cuts_any (A B : Option Addr) (c d : Nat) (a b : List Iv) (w : World) (ha : IvsAt w w.heap.size A a) (hb : IvsAt w w.heap.size B b) (na : Norm a) (nb : Norm b) :
    Calls Try.prog 70 #[.slice A a.length c, .slice B b.length d] w (RetInts w fun ps => ps.Pairwise (· < ·) ∧ (∀ v, v ∈ ps ↔ v ∈ cutsOf (a ++ b)) ∧ ps.length ≤ 2199023255560) := by
  have hla := norm_len na
  have hlb := norm_len nb
  go_enter Try.func70, Try.ntmps70
  go_wp2
  have hbw : Below w.heap.size w (w.alloc (.cells #[.slice A a.length c, .slice B b.length d] 22)) := (Below.refl _ _).alloc (Nat.le_refl _) _
  have hc0 : (w.alloc (.cells #[.slice A a.length c, .slice B b.length d] 22)).cell? ⟨w.heap.size, 0, none⟩ = some (.slice A a.length c) := by simp
  have hc1 : (w.alloc (.cells #[.slice A a.length c, .slice B b.length d] 22)).cell? ⟨w.heap.size, 1, none⟩ = some (.slice B b.length d) := by simp
  have hs0 : w.heap.size < (w.alloc (.cells #[.slice A a.length c, .slice B b.length d] 22)).heap.size := by simp
  generalize w.alloc (.cells #[.slice A a.length c, .slice B b.length d] 22) = W0 at *
  go_loopw [5, 14] (fun out i wr => CutsOut W0 a b out i wr) (fun _ i _ => 2 - (intOf i).toNat)
  case atStart => exact ⟨0, none, 0, by omega, rfl, rfl, OwnInt.nil _ _, Below.refl _ _⟩
  case round =>
    obtain ⟨k, A1, c1, hk, rfl, rfl, hown, hb1⟩ := hrel
    by_cases hlt : k < 2
    · obtain ⟨AL, cL, L, hcL, hL, hfl, nL⟩ : ∃ (AL : Option Addr) (cL : Nat) (L : List Iv), wr.cell? ⟨w.heap.size, k, none⟩ = some (.slice AL L.length cL) ∧ IvsAt W0 w.heap.size AL L ∧ ([a, b].take (k + 1)).flatten = ([a, b].take k).flatten ++ L ∧ Norm L := by
        rcases (show k = 0 ∨ k = 1 by omega) with rfl | rfl
        · exact ⟨A, c, a, (hb1.cell (p := ⟨w.heap.size, 0, none⟩) hs0).trans hc0, ha.below hbw, by simp, na⟩
        · exact ⟨B, d, b, (hb1.cell (p := ⟨w.heap.size, 1, none⟩) hs0).trans hc1, hb.below hbw, by simp, nb⟩
      have hlL := norm_len nL
      have HFL := hide hfl
      have hlpre : ([a, b].take k).flatten.length ≤ 549755813889 := by
        rcases (show k = 0 ∨ k = 1 by omega) with rfl | rfl
        · simp
        · simpa using hla
      generalize hpre : ([a, b].take k).flatten = pre at *
      clear hpre hfl
      obtain ⟨wo, rfl⟩ : ∃ wo : World, wo = wr := ⟨_, rfl⟩
      have hd2 : decide ((k : Int) < 2) = true := decide_eq_true (by omega)
      go_wp2
      go_loopw [5, 20] (fun out i wr => CutsIn W0 pre L out i wr) (fun _ i _ => L.length - (intOf i).toNat)
      case atStart => exact ⟨0, A1, c1, by omega, rfl, by simp, by simpa using hown, hb1⟩
      case round =>
        obtain ⟨m, A2, c2, hm, rfl, rfl, hown2, hb2⟩ := hrel
        have hol : (cutsOf (pre ++ L.take m)).length ≤ 2199023255556 := by rw [cutsOf_length]; simp; omega
        by_cases hlt2 : m < L.length
        · obtain ⟨b', off, rfl, hbb, hc1', hc2'⟩ := (hL.more (Nat.le_of_lt hs0) |>.below hb2).at_ hlt2
          have HS := hide (cuts_take_succ pre L m hlt2)
          have hoL := nL.1 L[m] (List.getElem_mem _)
          unfold Okv at hoL
          generalize cutsOf (pre ++ L.take m) = zs at *
          go_wp2_with (at_builtin; (refine append_ints rfl _ _ rfl W0.heap.size A2 c2 zs _ rfl rfl [L[m].1, L[m].2 + 1] 2 2 _ rfl rfl (by simp) _ _ rfl rfl (by simp) (hown2.alloc _) (by omega) (by have := hb2.size; simp; omega) ?_)
                       intro g' c' w1 row hown1 hg' hgrow hrow)
          go_roundw
          case rel =>
            refine ⟨m + 1, some ⟨g', 0, none⟩, c', by omega, by go_num, ?_, ?_, ?_⟩
            · rw [HS.out]; simp
            · rw [HS.out]; exact hown1
            · exact ((hb2.alloc hb2.size _).alloc (by have := hb2.size; simp; omega) _).grown hgrow (by have := hb2.size; simp; omega) hrow
          case measure => simp [intOf]; omega
        · have hme : m = L.length := by omega
          subst hme
          rw [List.take_length] at *
          go_wp2
          go_roundw
          case rel => exact ⟨k + 1, A2, c2, by omega, by go_num, by rw [HFL.out], by rw [HFL.out]; exact hown2, hb2⟩
          case measure => simp [intOf]; omega
    · have hke : k = 2 := by omega
      subst hke
      have e2 : ([a, b].take 2).flatten = a ++ b := by simp
      rw [e2] at hown ⊢
      clear e2
      have hcl : (cutsOf (a ++ b)).length ≤ 2199023255556 := by rw [cutsOf_length]; simp; omega
      generalize hzs : cutsOf (a ++ b) = zs at *
      have HZS := hide hzs
      clear hzs
      have hsl : (zs.mergeSort fun x y => decide (x ≤ y)).length = zs.length := List.length_mergeSort _
      have HSL := hide hsl
      have hsl' : (zs.mergeSort fun x y => decide (x ≤ y)).length ≤ 2199023255556 := by rw [hsl]; exact hcl
      clear hsl
      go_wp2_with fail
      refine (sortInts_any W0.heap.size A1 c1 zs _ hown (by omega) hb1.size).mono ?_
      rintro e w2 ⟨rfl, hown2, hb2⟩
      have hss := mergeSort_sorted zs
      have hsm : ∀ v, v ∈ (zs.mergeSort fun x y => decide (x ≤ y)) ↔ v ∈ zs := fun v => List.mem_mergeSort
      rw [← HSL.out]
      generalize (zs.mergeSort fun x y => decide (x ≤ y)) = ys at *
      have HSM := hide hsm
      have HSS := hide hss
      clear hsm hss
      go_wp2_with fail
      refine (compactInts_any W0.heap.size A1 c1 ys _ hown2 (by omega) (Nat.le_trans hb1.size hb2.size)).mono ?_
      rintro e w3 ⟨rfl, hown3, hb3⟩
      go_wp2_with fail
      go_ret
      have hle := compact_le ys
      exact ⟨A1, c1, Lib.compact ys, rfl, hown3.lower hbw.size, hbw.trans ((hb1.trans (hb2.trans hb3)).mono hbw.size), compact_sorted ys HSS.out, fun v => by rw [compact_mem, HSM.out, ← HZS.out], by omega⟩
end Go.Proofs.Ytkbiefklilelmaa
