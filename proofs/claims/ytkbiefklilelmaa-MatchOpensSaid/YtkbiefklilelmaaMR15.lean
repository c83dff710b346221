/-
  Several texts in one: Tree. Each says at its head what it holds.
-/
import Derived.Test.YtkbiefklilelmaaMR3
import Derived.Test.YtkbiefklilelmaaMR14

/-
  Trees of api.Node in memory; wavestoreref49.Nodes and wavestoreref49.Few end, whatever the tree.
-/
namespace Go.Proofs.Ytkbiefklilelmaa
open Go.RowKit

/-- a tree with the places of its lists of children -/
inductive Nd where
  | mk (kind at_ : Int) (name value : ByteArray) (a b c d : Int) (KA : Option Addr) (kc : Nat) (kids : List Nd)
def Nd.kids : Nd → List Nd | .mk _ _ _ _ _ _ _ _ _ _ kids => kids
def Nd.KA : Nd → Option Addr | .mk _ _ _ _ _ _ _ _ KA _ _ => KA
def cNd : Nd → List Value | .mk kind at_ name value a b c d KA kc kids => [.int .i64 kind, .int .i64 at_, .string name, .string value, .int .i64 a, .int .i64 b, .int .i64 c, .int .i64 d, .slice KA kids.length kc]
theorem Nd.ind {p : Nd → Prop} (h : ∀ n, (∀ k ∈ n.kids, p k) → p n) : ∀ n, p n
  | .mk kind at_ name value a b c d KA kc kids => h _ fun k _hk => Nd.ind h k
termination_by n => SizeOf.sizeOf n
decreasing_by
  have h1 : k ∈ kids := _hk
  have := List.sizeOf_lt_of_mem h1
  simp
  omega
/-- lists of trees in memory -/
inductive TreesAt (w : World) (P : Nat → Prop) : Option Addr → List Nd → Prop
  | mk (A : Option Addr) (l : List Nd) (len : l.length ≤ 140737488355328) (row : Row w P 9 cNd A l) (kids : ∀ n, n ∈ l → TreesAt w P n.KA n.kids) : TreesAt w P A l
section
variable {w w' : World} {P P' : Nat → Prop} {A : Option Addr} {l : List Nd}
theorem TreesAt.len (h : TreesAt w P A l) : l.length ≤ 140737488355328 := by cases h; assumption
theorem TreesAt.row (h : TreesAt w P A l) : Row w P 9 cNd A l := by cases h; assumption
theorem TreesAt.each (h : TreesAt w P A l) : ∀ n ∈ l, TreesAt w P n.KA n.kids := by cases h; assumption
theorem TreesAt.stay (h : TreesAt w P A l) (hs : Stay P w w') : TreesAt w' P A l := by
  induction h with
  | mk A l len row _ ih => exact .mk A l len (row.stay hs) fun n hn => ih n hn
theorem TreesAt.more (h : TreesAt w P A l) (hp : ∀ b, P b → P' b) : TreesAt w P' A l := by
  induction h with
  | mk A l len row _ ih => exact .mk A l len (row.more hp) fun n hn => ih n hn
theorem TreesAt.grow (h : TreesAt w (Lo w.heap.size) A l) (hb : Below w.heap.size w w') : TreesAt w' (Lo w'.heap.size) A l := (h.stay (stay_below hb fun _ h => h)).more fun _ hb' => Nat.lt_of_lt_of_le hb' hb.size
end
theorem box9 {w : World} {N : Nat} {a b c d e f g h i : Value} {t : TypeId} (hN : w.heap[N]? = some (.cells #[a, b, c, d, e, f, g, h, i] t (0, 0))) : w.cell? ⟨N, 0, none⟩ = some a ∧ w.cell? ⟨N, 1, none⟩ = some b ∧ w.cell? ⟨N, 2, none⟩ = some c ∧ w.cell? ⟨N, 3, none⟩ = some d ∧ w.cell? ⟨N, 4, none⟩ = some e ∧ w.cell? ⟨N, 5, none⟩ = some f ∧ w.cell? ⟨N, 6, none⟩ = some g ∧ w.cell? ⟨N, 7, none⟩ = some h ∧ w.cell? ⟨N, 8, none⟩ = some i := by
  refine ⟨?_, ?_, ?_, ?_, ?_, ?_, ?_, ?_, ?_⟩ <;> (rw [cell_of_row w N _ _ t (0, 0) hN]; rfl)

def NumPost (w : World) (e : Ending) (w' : World) : Prop := ∃ z : Int, e = .returned (.int .i64 z) ∧ I64 z ∧ Below w.heap.size w w'
def NodesRel (len : Nat) (w : World) (k i : Value) (wr : World) : Prop := ∃ (j : Nat) (z : Int), j ≤ len ∧ i = .int .i64 j ∧ k = .int .i64 z ∧ I64 z ∧ Below w.heap.size w wr
theorem wrap_64 (z : Int) : I64 (wrap64 z) := by unfold I64 wrap64; omega

set_option maxRecDepth 100000 in
set_option maxHeartbeats 4000000 in
theorem nodes_any (n : Nd) : ∀ w : World, TreesAt w (Lo w.heap.size) n.KA n.kids → Calls Try.prog 98 #[.agg (cNd n).toArray] w (NumPost w) := by
  induction n using Nd.ind with
  | h n ih =>
  intro w ht
  obtain ⟨kind, at_, name, value, a, b, c, d, KA, kc, kids⟩ := n
  have IH := hide ih
  unfold Nd.KA Nd.kids at ht
  unfold cNd
  have hl := ht.len
  obtain ⟨W0, hW0⟩ : ∃ W0, w.alloc (.cells #[.int .i64 kind, .int .i64 at_, .string name, .string value, .int .i64 a, .int .i64 b, .int .i64 c, .int .i64 d, .slice KA kids.length kc] 105) = W0 := ⟨_, rfl⟩
  have g0 := new_at hW0
  have hb0 : Below w.heap.size w W0 := by rw [← hW0]; exact (Below.refl _ _).alloc (Nat.le_refl _) _
  have HT := hide (ht.grow hb0)
  have HG0 := hide g0
  have HB0 := hide hb0
  have HW0 := hide hW0
  clear ih ht g0 hb0 hW0
  go_enter Try.func98, Try.ntmps98
  go_upto_region 1 with (fail)
  rw [HW0.out]
  go_wp2_with fail
  go_loopw [3, 4] (fun k i wr => NodesRel kids.length W0 k i wr) (fun _ i _ => kids.length - (intOf i).toNat)
  case atStart => exact ⟨0, 1, Nat.zero_le _, rfl, rfl, by unfold I64; omega, Below.refl _ _⟩
  case round =>
    obtain ⟨j, z, hj, rfl, rfl, hz, hbr⟩ := hrel
    have HBR := hide hbr
    have HZ := hide hz
    obtain ⟨-, -, -, -, -, -, -, -, x8⟩ := box9 ((hbr.block _ (box_lt HG0.out)).trans HG0.out)
    clear hbr hz
    by_cases hlt : j < kids.length
    · have hT := HT.out.grow HBR.out
      obtain ⟨bk, ok, rfl, hbk, hc⟩ := hT.row.at_ hlt
      have hkid := hT.each _ (List.getElem_mem hlt)
      have hcall := IH.out _ (show kids[j] ∈ Nd.kids (.mk kind at_ name value a b c d (some ⟨bk, ok, none⟩) kc kids) from List.getElem_mem hlt) wr hkid
      generalize kids[j] = m at *
      obtain ⟨m1, m2, m3, m4, m5, m6, m7, m8, mK, mc, ml⟩ := m
      unfold cNd at hc hcall
      have HC := hide hcall
      have c0 := hc 0 (by omega)
      have c1 := hc 1 (by omega)
      have c2 := hc 2 (by omega)
      have c3 := hc 3 (by omega)
      have c4 := hc 4 (by omega)
      have c5 := hc 5 (by omega)
      have c6 := hc 6 (by omega)
      have c7 := hc 7 (by omega)
      have c8 := hc 8 (by omega)
      simp only [List.getElem?_cons_zero, List.getElem?_cons_succ, Nat.add_zero] at c0 c1 c2 c3 c4 c5 c6 c7 c8
      clear hc hcall hkid hT
      go_wp2_with (go_at_call 98; refine HC.out.mono ?_; rintro e w2 ⟨y, rfl, hy, hb2⟩; have HB2 := hide hb2; clear hb2)
      exact ⟨⟨j + 1, _, hlt, by go_num, rfl, wrap_64 _, bstep HBR.out HB2.out⟩, by simp [intOf]; omega⟩
    · have HE := hide (show NumPost w (.returned (.int .i64 z)) wr from ⟨z, rfl, HZ.out, bstep HB0.out HBR.out⟩)
      go_wp2_with fail
      go_ret
      exact HE.out

def BoolPost (w : World) (e : Ending) (w' : World) : Prop := ∃ b : Bool, e = .returned (.bool b) ∧ Below w.heap.size w w'
def FewRel (len : Nat) (w : World) (i : Value) (wr : World) : Prop := ∃ j : Nat, j ≤ len ∧ i = .int .i64 j ∧ Below w.heap.size w wr

set_option maxRecDepth 100000 in
set_option maxHeartbeats 4000000 in
theorem few49_any (most : Int) (n : Nd) : ∀ w : World, TreesAt w (Lo w.heap.size) n.KA n.kids → Calls Try.prog 76 #[.agg (cNd n).toArray, .int .i64 most] w (BoolPost w) := by
  induction n using Nd.ind with
  | h n ih =>
  intro w ht
  have hn := nodes_any n
  obtain ⟨kind, at_, name, value, a, b, c, d, KA, kc, kids⟩ := n
  have IH := hide ih
  unfold Nd.KA Nd.kids at ht hn
  unfold cNd at hn ⊢
  dsimp only at hn
  have hl := ht.len
  obtain ⟨W0, hW0⟩ : ∃ W0, w.alloc (.cells #[.int .i64 kind, .int .i64 at_, .string name, .string value, .int .i64 a, .int .i64 b, .int .i64 c, .int .i64 d, .slice KA kids.length kc] 105) = W0 := ⟨_, rfl⟩
  have g0 := new_at hW0
  have hb0 : Below w.heap.size w W0 := by rw [← hW0]; exact (Below.refl _ _).alloc (Nat.le_refl _) _
  have HT := hide (ht.grow hb0)
  have HN := hide (hn W0 HT.out)
  have HG0 := hide g0
  have HB0 := hide hb0
  have HW0 := hide hW0
  have HNO := hide (show ∀ wr, Below W0.heap.size W0 wr → BoolPost w (.returned (.bool false)) wr from fun wr hb => ⟨false, rfl, bstep hb0 hb⟩)
  obtain ⟨y0, y1, y2, y3, y4, y5, y6, y7, y8⟩ := box9 g0
  clear ih ht g0 hb0 hW0 hn
  by_cases h1 : name.size ≤ 60
  · have T1 : decide ((60 : Int) < (name.size : Int)) = false := decide_eq_false (by omega)
    by_cases h2 : value.size ≤ 130
    · have T2 : decide ((130 : Int) < (value.size : Int)) = false := decide_eq_false (by omega)
      go_enter Try.func76, Try.ntmps76
      go_upto_region 1 with (fail)
      rw [HW0.out]
      go_cut [21] (fun v wx => ∃ b : Bool, v = .bool b ∧ Below W0.heap.size W0 wx)
      case first =>
        go_wp2_with (go_at_call 98; refine HN.out.mono ?_; rintro e w2 ⟨y, rfl, hy, hb2⟩; have HB2 := hide hb2; clear hb2)
        go_meet
        exact ⟨_, rfl, HB2.out⟩
      case rest =>
        obtain ⟨bt, rfl, hbc⟩ := hcut
        have HBC := hide hbc
        clear hbc y0 y1 y2 y3 y4 y5 y6 y7 y8
        cases bt with
        | true =>
          go_wp2_with fail
          go_ret
          exact HNO.out _ HBC.out
        | false =>
          go_wp2_with fail
          go_loopw [5] (fun i wr => FewRel kids.length W0 i wr) (fun i _ => kids.length - (intOf i).toNat)
          case atStart => exact ⟨0, Nat.zero_le _, rfl, HBC.out⟩
          case round =>
            obtain ⟨j, hj, rfl, hbr⟩ := hrel
            have HBR := hide hbr
            obtain ⟨-, -, -, -, -, -, -, -, x8⟩ := box9 ((hbr.block _ (box_lt HG0.out)).trans HG0.out)
            clear hbr
            by_cases hlt : j < kids.length
            · have hT := HT.out.grow HBR.out
              obtain ⟨bk, ok, rfl, hbk, hc⟩ := hT.row.at_ hlt
              have hkid := hT.each _ (List.getElem_mem hlt)
              have hcall := IH.out _ (show kids[j] ∈ Nd.kids (.mk kind at_ name value a b c d (some ⟨bk, ok, none⟩) kc kids) from List.getElem_mem hlt) wr hkid
              generalize kids[j] = m at *
              obtain ⟨m1, m2, m3, m4, m5, m6, m7, m8, mK, mc, ml⟩ := m
              unfold cNd at hc hcall
              have HC := hide hcall
              have c0 := hc 0 (by omega)
              have c1 := hc 1 (by omega)
              have c2 := hc 2 (by omega)
              have c3 := hc 3 (by omega)
              have c4 := hc 4 (by omega)
              have c5 := hc 5 (by omega)
              have c6 := hc 6 (by omega)
              have c7 := hc 7 (by omega)
              have c8 := hc 8 (by omega)
              simp only [List.getElem?_cons_zero, List.getElem?_cons_succ, Nat.add_zero] at c0 c1 c2 c3 c4 c5 c6 c7 c8
              clear hc hcall hkid hT
              go_upto_if 36 with (go_at_call 76; refine HC.out.mono ?_; rintro e w2 ⟨y, rfl, hb2⟩; have HB2 := hide hb2; clear hb2)
              cases y with
              | true =>
                go_wp2_with fail
                exact ⟨⟨j + 1, hlt, by go_num, bstep HBR.out HB2.out⟩, by simp [intOf]; omega⟩
              | false =>
                go_wp2_with fail
                go_ret
                exact HNO.out _ (bstep HBR.out HB2.out)
            · have HE := hide (show BoolPost w (.returned (.bool true)) wr from ⟨true, rfl, bstep HB0.out HBR.out⟩)
              go_wp2_with fail
              go_ret
              exact HE.out
    · have T2 : decide ((130 : Int) < (value.size : Int)) = true := decide_eq_true (by omega)
      go_enter Try.func76, Try.ntmps76
      go_upto_region 1 with (fail)
      rw [HW0.out]
      go_wp2_with fail
      go_ret
      exact HNO.out _ (Below.refl _ _)
  · have T1 : decide ((60 : Int) < (name.size : Int)) = true := decide_eq_true (by omega)
    go_enter Try.func76, Try.ntmps76
    go_upto_region 1 with (fail)
    rw [HW0.out]
    go_wp2_with fail
    go_ret
    exact HNO.out _ (Below.refl _ _)

end Go.Proofs.Ytkbiefklilelmaa
