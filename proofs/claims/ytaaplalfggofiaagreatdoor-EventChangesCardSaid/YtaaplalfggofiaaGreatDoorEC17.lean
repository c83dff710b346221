/-
  Several texts in one: Few49, Clean51, MapB, MapS. Each says at its head what it holds.
-/
import Derived.Test.YtaaplalfggofiaaGreatDoorEC14
import Derived.Deep.DeepCutAuto
import Derived.Deep.QuietTactic
import Derived.BigQuiet
import Derived.IntWalk
import Derived.Test.YtaaplalfggofiaaGreatDoorEC6
import Derived.Test.YtaaplalfggofiaaGreatDoorEC10
import Derived.Test.YtaaplalfggofiaaGreatDoorEC3
import Derived.Maps.Own
import Derived.Maps.OwnSet
import Derived.Maps.Views
import Derived.Carry
import Derived.Maps.StringElems

/-
  wavestoreref49.Nodes and Few: how many nodes a tree has, and that a small tree is small.
-/
namespace Go.Proofs.YtaaplalfggofiaaGreatDoor
open Go.RowKit

def Nd.name : Nd → ByteArray | .mk _ _ name _ _ _ _ _ _ _ _ => name
/-- the number of nodes -/
def nodesF (n : Nd) : Int := n.fold fun _ l => 1 + sumF l
theorem nodesF_eq (n : Nd) : nodesF n = 1 + sumF (n.kids.map nodesF) := Nd.fold_eq _ n
theorem wrap_add (a b : Int) : wrap64 (wrap64 a + wrap64 b) = wrap64 (a + b) := by unfold wrap64; omega
theorem sum_nodes (l : List Nd) (m : Nat) (h : ∀ k ∈ l, 1 ≤ nodesF k ∧ nodesF k ≤ m) : (l.length : Int) ≤ sumF (l.map nodesF) ∧ sumF (l.map nodesF) ≤ m * l.length := by
  induction l with
  | nil => simp [sumF]
  | cons k l ih =>
    have h1 := ih fun k hk => h k (by simp [hk])
    have h2 := h k (by simp)
    rw [List.map_cons, sumF_cons, List.length_cons]
    refine ⟨by omega, ?_⟩
    have : (m : Int) * ((l.length + 1 : Nat) : Int) = m * l.length + m := by rw [Int.natCast_add, Int.mul_add]; simp
    rw [this]
    omega
theorem nodes_pos (n : Nd) : 1 ≤ nodesF n := by
  induction n using Nd.ind with
  | h n ih =>
  rw [nodesF_eq]
  have : ∀ l : List Nd, (∀ k ∈ l, 1 ≤ nodesF k) → 0 ≤ sumF (l.map nodesF) := by
    intro l
    induction l with
    | nil => intro _; simp [sumF]
    | cons k l ih2 =>
      intro h
      rw [List.map_cons, sumF_cons]
      have := h k (by simp)
      have := ih2 fun k hk => h k (by simp [hk])
      omega
  have := this _ ih
  omega
/-- a tree of few nodes with short strings -/
def fewB49 (most : Nat) (n : Nd) (l : List Prop) : Prop := n.name.size ≤ 60 ∧ n.value.size ≤ 130 ∧ nodesF n ≤ most ∧ ∀ p ∈ l, p
def FewOk (most : Nat) (n : Nd) : Prop := n.fold (fewB49 most)
theorem FewOk_eq (most : Nat) (n : Nd) : FewOk most n ↔ n.name.size ≤ 60 ∧ n.value.size ≤ 130 ∧ nodesF n ≤ most ∧ ∀ k ∈ n.kids, FewOk most k := by
  unfold FewOk
  rw [Nd.fold_eq]
  unfold fewB49
  refine and_congr_right fun _ => and_congr_right fun _ => and_congr_right fun _ => ⟨fun h k hk => h _ (List.mem_map.2 ⟨k, hk, rfl⟩), fun h p hp => ?_⟩
  obtain ⟨k, hk, rfl⟩ := List.mem_map.1 hp
  exact h k hk
theorem FewOk.nodes {most : Nat} {n : Nd} (h : FewOk most n) : nodesF n ≤ most := ((FewOk_eq most n).1 h).2.2.1
/-- the count does not overflow where the children are few -/
theorem few_true {most : Nat} (hm : most ≤ 1000) {n : Nd} (hl : n.kids.length ≤ 1353245080339) (h1 : n.name.size ≤ 60) (h2 : n.value.size ≤ 130) (h3 : wrap64 (nodesF n) ≤ most) (h4 : ∀ k ∈ n.kids, FewOk most k) : FewOk most n := by
  refine (FewOk_eq most n).2 ⟨h1, h2, ?_, h4⟩
  have := sum_nodes n.kids most fun k hk => ⟨nodes_pos k, (h4 k hk).nodes⟩
  rw [nodesF_eq] at h3 ⊢
  have hb : (most : Int) * n.kids.length ≤ 1000 * 1353245080339 := by
    have h5 : most * n.kids.length ≤ 1000 * 1353245080339 := Nat.mul_le_mul hm hl
    have : ((most * n.kids.length : Nat) : Int) ≤ ((1000 * 1353245080339 : Nat) : Int) := Int.ofNat_le.2 h5
    rw [Int.natCast_mul] at this
    omega
  unfold wrap64 at h3
  omega

def NumPost (z : Int) (w : World) (e : Ending) (w' : World) : Prop := e = .returned (.int .i64 (wrap64 z)) ∧ Below w.heap.size w w'
def NodesRel (l : List Nd) (w : World) (k i : Value) (wr : World) : Prop := ∃ (j : Nat), j ≤ l.length ∧ i = .int .i64 j ∧ k = .int .i64 (wrap64 (1 + sumF ((l.take j).map nodesF))) ∧ Below w.heap.size w wr
theorem nodes_snoc {l : List Nd} {j : Nat} (hj : j < l.length) : wrap64 (wrap64 (1 + sumF ((l.take j).map nodesF)) + wrap64 (nodesF l[j])) = wrap64 (1 + sumF ((l.take (j + 1)).map nodesF)) := by
  rw [wrap_add, List.take_succ_eq_append_getElem hj, List.map_append, List.map_cons, List.map_nil, sumF_snoc, Int.add_assoc]

set_option maxRecDepth 100000 in
set_option maxHeartbeats 4000000 in
theorem nodes_any (n : Nd) : ∀ w : World, TreesAt w (Lo w.heap.size) n.KA n.kids → Calls Tryz.prog 15 #[.agg (cNd n).toArray] w (NumPost (nodesF n) w) := by
  induction n using Nd.ind with
  | h n ih =>
  intro w ht
  have HEQ := hide (nodesF_eq n)
  obtain ⟨kind, at_, name, value, a, b, c, d, KA, kc, kids⟩ := n
  have IH := hide ih
  unfold Nd.KA Nd.kids at ht
  unfold cNd
  have hl := ht.len
  obtain ⟨W0, hW0⟩ : ∃ W0, w.alloc (.cells #[.int .i64 kind, .int .i64 at_, .string name, .string value, .int .i64 a, .int .i64 b, .int .i64 c, .int .i64 d, .slice KA kids.length kc] 28) = W0 := ⟨_, rfl⟩
  have g0 := new_at hW0
  have hb0 : Below w.heap.size w W0 := by rw [← hW0]; exact (Below.refl _ _).alloc (Nat.le_refl _) _
  have HT := hide (ht.grow hb0)
  have HG0 := hide g0
  have HB0 := hide hb0
  have HW0 := hide hW0
  have HQ := hide (show ∀ wr, Below W0.heap.size W0 wr → NumPost (nodesF (.mk kind at_ name value a b c d KA kc kids)) w (.returned (.int .i64 (wrap64 (1 + sumF (kids.map nodesF))))) wr from fun wr hb => ⟨by rw [HEQ.out]; rfl, bstep hb0 hb⟩)
  clear ih ht g0 hb0 hW0 HEQ
  have HQ' := HQ
  obtain ⟨zq, hzq⟩ : ∃ zq, nodesF (.mk kind at_ name value a b c d KA kc kids) = zq := ⟨_, rfl⟩
  rw [hzq] at HQ ⊢
  clear HQ' hzq
  go_enter Tryz.func15, Tryz.ntmps15
  go_upto_region 1 with (fail)
  rw [HW0.out]
  go_wp2_with fail
  go_loopw [3, 4] (fun k i wr => NodesRel kids W0 k i wr) (fun _ i _ => kids.length - (intOf i).toNat)
  case atStart => exact ⟨0, Nat.zero_le _, rfl, by rw [List.take_zero, List.map_nil, show sumF ([] : List Int) = 0 from rfl, show wrap64 (1 + 0) = 1 by unfold wrap64; omega], Below.refl _ _⟩
  case round =>
    obtain ⟨j, hj, rfl, rfl, hbr⟩ := hrel
    have HBR := hide hbr
    obtain ⟨-, -, -, -, -, -, -, -, x8⟩ := box9 ((hbr.block _ (box_lt HG0.out)).trans HG0.out)
    clear hbr
    by_cases hlt : j < kids.length
    · have hT := HT.out.grow HBR.out
      obtain ⟨bk, ok, rfl, hbk, hc⟩ := hT.row.at_ hlt
      have hkid := hT.each _ (List.getElem_mem hlt)
      have hcall := IH.out _ (show kids[j] ∈ Nd.kids (.mk kind at_ name value a b c d (some ⟨bk, ok, none⟩) kc kids) from List.getElem_mem hlt) wr hkid
      have HSN := hide (nodes_snoc hlt)
      generalize hS : wrap64 (1 + sumF ((kids.take j).map nodesF)) = z at *
      generalize kids[j] = m at *
      generalize hX : nodesF m = xz at *
      clear hX hS
      obtain ⟨m1, m2, m3, m4, m5, m6, m7, m8, mK, mc, ml⟩ := m
      unfold cNd at hc hcall
      have HC := hide hcall
      have c0 := hc 0 (by omega)
      have c1 := hc 1 (by omega)
      have c2 := hc 2 (by omega)
      have c3 := hc 3 (by omega)
      have c4 := hc 4 (by omega)
      have c5 := hc 5 (by omega)
      have c6 := hc 6 (by omega)
      have c7 := hc 7 (by omega)
      have c8 := hc 8 (by omega)
      simp only [List.getElem?_cons_zero, List.getElem?_cons_succ, Nat.add_zero] at c0 c1 c2 c3 c4 c5 c6 c7 c8
      clear hc hcall hkid hT
      go_wp2_with (go_at_call 15; refine HC.out.mono ?_; rintro e w2 ⟨rfl, hb2⟩; have HB2 := hide hb2; clear hb2)
      exact ⟨⟨j + 1, hlt, by go_num, by rw [← HSN.out], bstep HBR.out HB2.out⟩, by simp [intOf]; omega⟩
    · have hke : j = kids.length := by omega
      have HE := hide (HQ.out wr HBR.out)
      subst hke
      rw [List.take_length]
      go_wp2_with fail
      go_ret
      exact HE.out

def FewPost49 (most : Nat) (n : Nd) (w : World) (e : Ending) (w' : World) : Prop := ∃ b : Bool, e = .returned (.bool b) ∧ (b = true → FewOk most n) ∧ Below w.heap.size w w'
def FewRel49 (most : Nat) (l : List Nd) (w : World) (i : Value) (wr : World) : Prop := ∃ j : Nat, j ≤ l.length ∧ i = .int .i64 j ∧ (∀ k ∈ l.take j, FewOk most k) ∧ Below w.heap.size w wr

set_option maxRecDepth 100000 in
set_option maxHeartbeats 4000000 in
theorem few49_any (most : Nat) (hm : most ≤ 1000) (n : Nd) : ∀ w : World, TreesAt w (Lo w.heap.size) n.KA n.kids → Calls Tryz.prog 51 #[.agg (cNd n).toArray, .int .i64 (most : Int)] w (FewPost49 most n w) := by
  induction n using Nd.ind with
  | h n ih =>
  intro w ht
  have hn := nodes_any n
  have HTR := hide (few_true (n := n) hm)
  obtain ⟨kind, at_, name, value, a, b, c, d, KA, kc, kids⟩ := n
  have IH := hide ih
  unfold Nd.KA Nd.kids at ht hn
  dsimp only [Nd.kids, Nd.name, Nd.value] at HTR
  unfold cNd at hn ⊢
  dsimp only at hn
  have hl := ht.len
  obtain ⟨W0, hW0⟩ : ∃ W0, w.alloc (.cells #[.int .i64 kind, .int .i64 at_, .string name, .string value, .int .i64 a, .int .i64 b, .int .i64 c, .int .i64 d, .slice KA kids.length kc] 28) = W0 := ⟨_, rfl⟩
  have g0 := new_at hW0
  have hb0 : Below w.heap.size w W0 := by rw [← hW0]; exact (Below.refl _ _).alloc (Nat.le_refl _) _
  have HT := hide (ht.grow hb0)
  have HN := hide (hn W0 HT.out)
  have HG0 := hide g0
  have HB0 := hide hb0
  have HW0 := hide hW0
  have HNO := hide (show ∀ wr, Below W0.heap.size W0 wr → FewPost49 most (.mk kind at_ name value a b c d KA kc kids) w (.returned (.bool false)) wr from fun wr hb => ⟨false, rfl, (fun e => by cases e), bstep hb0 hb⟩)
  obtain ⟨y0, y1, y2, y3, y4, y5, y6, y7, y8⟩ := box9 g0
  have HYES := hide (show name.size ≤ 60 → value.size ≤ 130 → wrap64 (nodesF (.mk kind at_ name value a b c d KA kc kids)) ≤ most → (∀ k ∈ kids, FewOk most k) → ∀ wr, Below W0.heap.size W0 wr → FewPost49 most (.mk kind at_ name value a b c d KA kc kids) w (.returned (.bool true)) wr from fun q1 q2 q3 q4 wr hb => ⟨true, rfl, fun _ => HTR.out hl q1 q2 q3 q4, bstep hb0 hb⟩)
  clear ih ht g0 hb0 hW0 hn HTR
  generalize nodesF (.mk kind at_ name value a b c d KA kc kids) = zn at HYES HN
  by_cases h1 : name.size ≤ 60
  · have T1 : decide ((60 : Int) < (name.size : Int)) = false := decide_eq_false (by omega)
    by_cases h2 : value.size ≤ 130
    · have T2 : decide ((130 : Int) < (value.size : Int)) = false := decide_eq_false (by omega)
      go_enter Tryz.func51, Tryz.ntmps51
      go_upto_region 1 with (fail)
      rw [HW0.out]
      go_cut [21] (fun v wx => ∃ b : Bool, v = .bool b ∧ (b = false → wrap64 zn ≤ most) ∧ Below W0.heap.size W0 wx)
      case first =>
        go_wp2_with (go_at_call 15; refine HN.out.mono ?_; rintro e w2 ⟨rfl, hb2⟩; have HB2 := hide hb2; clear hb2)
        go_meet
        exact ⟨_, rfl, fun e => by have := of_decide_eq_false e; omega, HB2.out⟩
      case rest =>
        obtain ⟨bt, rfl, hbt, hbc⟩ := hcut
        have HBT := hide hbt
        have HBC := hide hbc
        clear hbt
        clear hbc y0 y1 y2 y3 y4 y5 y6 y7 y8
        cases bt with
        | true =>
          go_wp2_with fail
          go_ret
          exact HNO.out _ HBC.out
        | false =>
          go_wp2_with fail
          go_loopw [5] (fun i wr => FewRel49 most kids W0 i wr) (fun i _ => kids.length - (intOf i).toNat)
          case atStart => exact ⟨0, Nat.zero_le _, rfl, (fun k hk => by simp at hk), HBC.out⟩
          case round =>
            obtain ⟨j, hj, rfl, hok, hbr⟩ := hrel
            have HBR := hide hbr
            have HOK := hide hok
            clear hok
            obtain ⟨-, -, -, -, -, -, -, -, x8⟩ := box9 ((hbr.block _ (box_lt HG0.out)).trans HG0.out)
            clear hbr
            by_cases hlt : j < kids.length
            · have hT := HT.out.grow HBR.out
              obtain ⟨bk, ok, rfl, hbk, hc⟩ := hT.row.at_ hlt
              have hkid := hT.each _ (List.getElem_mem hlt)
              have hcall := IH.out _ (show kids[j] ∈ Nd.kids (.mk kind at_ name value a b c d (some ⟨bk, ok, none⟩) kc kids) from List.getElem_mem hlt) wr hkid
              have HNX := hide (show FewOk most kids[j] → ∀ k ∈ kids.take (j + 1), FewOk most k from fun q k hk => by
                rw [List.take_succ_eq_append_getElem hlt] at hk
                rcases List.mem_append.1 hk with hk | hk
                · exact HOK.out k hk
                · simp at hk; subst hk; exact q)
              generalize kids[j] = m at *
              obtain ⟨m1, m2, m3, m4, m5, m6, m7, m8, mK, mc, ml⟩ := m
              unfold cNd at hc hcall
              have HC := hide hcall
              have c0 := hc 0 (by omega)
              have c1 := hc 1 (by omega)
              have c2 := hc 2 (by omega)
              have c3 := hc 3 (by omega)
              have c4 := hc 4 (by omega)
              have c5 := hc 5 (by omega)
              have c6 := hc 6 (by omega)
              have c7 := hc 7 (by omega)
              have c8 := hc 8 (by omega)
              simp only [List.getElem?_cons_zero, List.getElem?_cons_succ, Nat.add_zero] at c0 c1 c2 c3 c4 c5 c6 c7 c8
              clear hc hcall hkid hT
              go_upto_if 36 with (go_at_call 51; refine HC.out.mono ?_; rintro e w2 ⟨y, rfl, hy, hb2⟩; have HY := hide hy; clear hy; have HB2 := hide hb2; clear hb2)
              cases y with
              | true =>
                go_wp2_with fail
                exact ⟨⟨j + 1, hlt, by go_num, HNX.out (HY.out rfl), bstep HBR.out HB2.out⟩, by simp [intOf]; omega⟩
              | false =>
                go_wp2_with fail
                go_ret
                exact HNO.out _ (bstep HBR.out HB2.out)
            · have hke : j = kids.length := by omega
              have HE := hide (HYES.out h1 h2 (HBT.out (by first | rfl | trivial)) (by have := HOK.out; rw [hke, List.take_length] at this; exact this) wr HBR.out)
              go_wp2_with fail
              go_ret
              exact HE.out
    · have T2 : decide ((130 : Int) < (value.size : Int)) = true := decide_eq_true (by omega)
      go_enter Tryz.func51, Tryz.ntmps51
      go_upto_region 1 with (fail)
      rw [HW0.out]
      go_wp2_with fail
      go_ret
      exact HNO.out _ (Below.refl _ _)
  · have T1 : decide ((60 : Int) < (name.size : Int)) = true := decide_eq_true (by omega)
    go_enter Tryz.func51, Tryz.ntmps51
    go_upto_region 1 with (fail)
    rw [HW0.out]
    go_wp2_with fail
    go_ret
    exact HNO.out _ (Below.refl _ _)

end Go.Proofs.YtaaplalfggofiaaGreatDoor

/-
  wavestoreref51.Clean ends, at a small tree.
-/
namespace Go.Proofs.YtaaplalfggofiaaGreatDoor
open Go.RowKit

def ClPost (w : World) (e : Ending) (w' : World) : Prop := ∃ b : Bool, e = .returned (.bool b) ∧ Below w.heap.size w w'
def ClRel (n : Nat) (w : World) (i : Value) (wr : World) : Prop := ∃ j : Nat, j ≤ n ∧ i = .int .i64 (j : Int) ∧ Below w.heap.size w wr

set_option maxRecDepth 100000 in
set_option maxHeartbeats 4000000 in
theorem clean_any (n : Nd) : ∀ w : World, TreesAt w (Lo w.heap.size) n.KA n.kids → FewOk 60 n → Calls Tryz.prog 52 #[.agg (cNd n).toArray] w (ClPost w) := by
  induction n using Nd.ind with
  | h n ih =>
  intro w ht hf
  have hf2 := (FewOk_eq 60 n).1 hf
  obtain ⟨kind, at_, name, value, a, b, c, d, KA, kc, kids⟩ := n
  dsimp only [Nd.value, Nd.kids] at hf2
  have hvs := hf2.2.1
  have HFK := hide hf2.2.2.2
  have IH := hide ih
  unfold Nd.KA Nd.kids at ht
  unfold cNd
  have hl := ht.len
  obtain ⟨W0, hW0⟩ : ∃ W0, w.alloc (.cells #[.int .i64 kind, .int .i64 at_, .string name, .string value, .int .i64 a, .int .i64 b, .int .i64 c, .int .i64 d, .slice KA kids.length kc] 28) = W0 := ⟨_, rfl⟩
  have g0 := new_at hW0
  have hb0 : Below w.heap.size w W0 := by rw [← hW0]; exact (Below.refl _ _).alloc (Nat.le_refl _) _
  have HT := hide (ht.grow hb0)
  have HG0 := hide g0
  have HB0 := hide hb0
  have HW0 := hide hW0
  obtain ⟨y0, y1, y2, y3, y4, y5, y6, y7, y8⟩ := box9 g0
  have HE := hide (fun (o : Bool) (wr : World) (hb : Below W0.heap.size W0 wr) => show ClPost w (.returned (.bool o)) wr from ⟨o, rfl, bstep hb0 hb⟩)
  clear ih ht hf hf2 g0 hb0 hW0
  go_enter Tryz.func52, Tryz.ntmps52
  go_upto_region 1 with (fail)
  rw [HW0.out]
  go_cut [23] (fun v wx => ∃ b : Bool, v = .bool b ∧ Below W0.heap.size W0 wx)
  case first =>
    by_cases k2 : kind = 2
    · subst k2
      go_wp2_with fail
      refine (risBits_any value _ (by omega)).mono ?_
      rintro e w2 ⟨rfl, hb2⟩
      have HB2 := hide (show Below W0.heap.size W0 w2 from by first | exact hb2 | exact hb2 ▸ Below.refl _ _)
      have g2 := (HB2.out.block _ (box_lt HG0.out)).trans HG0.out
      clear hb2 y0 y1 y2 y3 y4 y5 y6 y7 y8
      obtain ⟨y0, y1, y2, y3, y4, y5, y6, y7, y8⟩ := box9 g2
      clear g2
      generalize bitsB value.data.toList = bv at *
      cases bv with
      | true =>
        go_wp2_with fail
        go_meet
        exact ⟨_, rfl, HB2.out⟩
      | false =>
        go_wp2_with fail
        go_meet
        exact ⟨_, rfl, HB2.out⟩
    · have T2 : (kind == 2) = false := beq_eq_false_iff_ne.2 k2
      by_cases k4 : kind = 4
      · subst k4
        go_wp2_with (go_at_call 110; refine (rvalid_any value _ (by omega)).mono ?_; rintro e w2 ⟨rfl, hb2⟩; have HB2 := hide hb2; clear hb2)
        go_meet
        exact ⟨_, rfl, HB2.out⟩
      · have T4 : (kind == 4) = false := beq_eq_false_iff_ne.2 k4
        go_wp2_with fail
        go_meet
        exact ⟨_, rfl, Below.refl _ _⟩
  case rest =>
    obtain ⟨bt, rfl, hbc⟩ := hcut
    have HBC := hide hbc
    clear hbc y0 y1 y2 y3 y4 y5 y6 y7 y8
    cases bt with
    | true =>
      go_wp2_with fail
      go_ret
      exact HE.out _ _ HBC.out
    | false =>
      go_wp2_with fail
      go_loopw [3] (fun i wr => ClRel kids.length W0 i wr) (fun i _ => kids.length - (intOf i).toNat)
      case atStart => exact ⟨0, Nat.zero_le _, rfl, HBC.out⟩
      case round =>
        obtain ⟨V, rfl⟩ : ∃ w2 : World, w2 = wr := ⟨_, rfl⟩
        obtain ⟨j, hj, rfl, hbr⟩ := hrel
        have HBR := hide hbr
        obtain ⟨-, -, -, -, -, -, -, -, x8⟩ := box9 ((hbr.block _ (box_lt HG0.out)).trans HG0.out)
        clear hbr
        by_cases hlt : j < kids.length
        · have hT := HT.out.grow HBR.out
          obtain ⟨bk, ok, rfl, hbk, hc⟩ := hT.row.at_ hlt
          have hmem := List.getElem_mem hlt
          have hkid := hT.each _ hmem
          have hcall := IH.out _ (show kids[j] ∈ Nd.kids (.mk kind at_ name value a b c d (some ⟨bk, ok, none⟩) kc kids) from hmem) V hkid (HFK.out _ hmem)
          generalize kids[j] = m at *
          obtain ⟨m1, m2, m3, m4, m5, m6, m7, m8, mK, mc, ml⟩ := m
          unfold cNd at hc hcall
          obtain ⟨c0, c1, c2, c3, c4, c5, c6, c7, c8⟩ := nine hc
          have HC := hide hcall
          clear hc hcall hkid hT hmem
          go_wp2_with fail
          refine HC.out.mono ?_
          rintro e w2 ⟨y, rfl, hb2⟩
          have HB2 := hide hb2
          clear hb2
          cases y with
          | true =>
            go_wp2_with fail
            exact ⟨⟨j + 1, hlt, by go_num, bstep HBR.out HB2.out⟩, by simp [intOf]; omega⟩
          | false =>
            go_wp2_with fail
            go_ret
            exact HE.out _ _ (bstep HBR.out HB2.out)
        · go_wp2_with fail
          go_ret
          exact HE.out _ _ HBR.out

end Go.Proofs.YtaaplalfggofiaaGreatDoor

/-
  Maps from int to bool that the call has made, as sets of ints.
-/
namespace Go.Proofs.YtaaplalfggofiaaGreatDoor
open Go.RowKit

theorem i64_wfB {i : Int} (h : I64 i) : (Lit.int .i64 i).wf = true := by
  unfold I64 at h
  simp [Lit.wf, IntKind.min, IntKind.max, IntKind.bits, IntKind.signed]
  omega
theorem intKeyB : Maps.Keyed Tryz.prog 3 := Maps.int_keyed Tryz.underlying3
theorem keyOf_B {i : Int} (h : I64 i) : keyOf Tryz.prog 3 (.int .i64 i) = some (.int .i64 i) := Maps.keyOf_int_mk Tryz.underlying3 (i64_wfB h)
def SetD (D : DataW Unit) (m : Int → Prop) : Prop := ∀ i, I64 i → (¬ m i → Maps.has D (.int .i64 i) = false) ∧ (m i → Maps.has D (.int .i64 i) = true)
/-- block B is a map of n entries at most, whose keys are those of m -/
def MapB (w : World) (B n : Nat) (m : Int → Prop) : Prop :=
  ∃ D : DataW Unit, w.ownsMap Tryz.prog 3 (plainElem Tryz.prog 4) B n D ∧ SetD D m
theorem MapB.made (w : World) : MapB (w.alloc (.map #[] 0)) w.heap.size 0 (fun _ => False) :=
  ⟨.map [], World.ownsMap_made _ _ _ _, fun _ _ => ⟨fun _ => rfl, fun h => h.elim⟩⟩
section
variable {w w' : World} {B n : Nat} {m m' : Int → Prop}
theorem MapB.block (h : MapB w B n m) (hb : w'.heap[B]? = w.heap[B]?) : MapB w' B n m := by
  obtain ⟨D, ⟨es, clock, h1, h3⟩, h2⟩ := h
  exact ⟨D, ⟨es, clock, hb.trans h1, h3⟩, h2⟩
theorem MapB.lt (h : MapB w B n m) : B < w.heap.size := by
  obtain ⟨D, h1, _⟩ := h
  exact h1.lt
theorem MapB.congr (h : MapB w B n m) (hm : ∀ i, m i ↔ m' i) : MapB w B n m' := by
  obtain ⟨D, h1, h2⟩ := h
  exact ⟨D, h1, fun i hi => by rw [← hm]; exact h2 i hi⟩
theorem MapB.obj (h : MapB w B n m) : ∃ es clock, w.heap[B]? = some (.map es clock) := by
  obtain ⟨D, ⟨es, clock, h1, _⟩, _⟩ := h
  exact ⟨es, clock, h1⟩
/-- 'm[k] = true', behind the store by the library's law -/
theorem MapB.put {D : DataW Unit} {s : Int} (hs : I64 s) (h3 : w'.ownsMap Tryz.prog 3 (plainElem Tryz.prog 4) B (n + 1) (D.put (.int .i64 s) (.lit (.bool true)))) (h1 : w.ownsMap Tryz.prog 3 (plainElem Tryz.prog 4) B n D)
    (h2 : SetD D m) : MapB w' B (n + 1) (fun i => m i ∨ i = s) := by
  refine ⟨_, h3, fun i hi => ?_⟩
  have hM := h1.isMap
  by_cases e : i = s
  · subst e
    exact ⟨fun h => absurd (.inr rfl) h, fun _ => Maps.has_put_same hM (by trivial) _⟩
  · have hne : (Lit.int .i64 i) ≠ .int .i64 s := fun h => e (by injection h)
    obtain ⟨h5, h6⟩ := h2 i hi
    exact ⟨fun h => by rw [Maps.has_put_other hne]; exact h5 fun h' => h (.inl h'), fun h => by rw [Maps.has_put_other hne]; exact h6 (h.resolve_right e)⟩
end

end Go.Proofs.YtaaplalfggofiaaGreatDoor

/-
  Maps from int to string that the call has made: an environment, key by key.
-/
namespace Go.Proofs.YtaaplalfggofiaaGreatDoor
open Go.RowKit

/-- block B is a map that holds env's strings (what it lacks is the empty string) -/
def MapS (w : World) (B n : Nat) (m : Int → ByteArray) : Prop :=
  ∃ D : DataW Unit, w.ownsMap Tryz.prog 3 (plainElem Tryz.prog 9) B n D ∧ ∀ i, I64 i → D.atKey (.int .i64 i) (.lit (.string [])) = .lit (.string (m i).data.toList)
theorem zeroStr (w : World) : (zeroValue 9).run Tryz.prog w = .ok (.string ⟨#[]⟩) w := by kernel_rfl
theorem MapS.made (w : World) : MapS (w.alloc (.map #[] 0)) w.heap.size 0 (fun _ => ⟨#[]⟩) :=
  ⟨.map [], World.ownsMap_made _ _ _ _, fun _ _ => rfl⟩
section
variable {w w' : World} {B n : Nat} {m m' : Int → ByteArray}
theorem MapS.block (h : MapS w B n m) (hb : w'.heap[B]? = w.heap[B]?) : MapS w' B n m := by
  obtain ⟨D, ⟨es, clock, h1, h3⟩, h2⟩ := h
  exact ⟨D, ⟨es, clock, hb.trans h1, h3⟩, h2⟩
theorem MapS.lt (h : MapS w B n m) : B < w.heap.size := by
  obtain ⟨D, h1, _⟩ := h
  exact h1.lt
theorem MapS.congr (h : MapS w B n m) (hm : ∀ i, m i = m' i) : MapS w B n m' := by
  obtain ⟨D, h1, h2⟩ := h
  exact ⟨D, h1, fun i hi => by rw [← hm]; exact h2 i hi⟩
theorem MapS.obj (h : MapS w B n m) : ∃ es clock, w.heap[B]? = some (.map es clock) := by
  obtain ⟨D, ⟨es, clock, h1, _⟩, _⟩ := h
  exact ⟨es, clock, h1⟩
/-- 'm[k]' -/
theorem MapS.look (h : MapS w B n m) {i : Int} (hi : I64 i) : (Instr.lookup 50 (.map (some B)) (.int .i64 i) false).run Tryz.prog w = .ok (.string (m i)) w := by
  obtain ⟨D, h1, h2⟩ := h
  obtain ⟨v, ps, hr, hv⟩ := h1.lookup intKeyB Tryz.underlying50 (zeroStr w) (plainElem_string (H := Unit) Tryz.underlying9 (s := ⟨#[]⟩) (by decide)) (keyOf_B hi)
  rw [hr]
  have h3 := h2 i hi
  obtain ⟨s, rfl, hs, _⟩ := plainElem_string_inv Tryz.underlying9 hv
  have h4 := congrArg Prod.fst hs
  dsimp only at h4
  rw [h3] at h4
  have h5 := Lit.string.inj (DataW.lit.inj h4)
  have h6 : m i = s := ByteArray.ext (Array.toList_inj.1 h5)
  rw [h6]
/-- 'm[k] = s', behind the store by the library's law -/
theorem MapS.put {D : DataW Unit} {s : Int} {b : ByteArray} (hs : I64 s) (h3 : w'.ownsMap Tryz.prog 3 (plainElem Tryz.prog 9) B (n + 1) (D.put (.int .i64 s) (.lit (.string b.data.toList)))) (h1 : w.ownsMap Tryz.prog 3 (plainElem Tryz.prog 9) B n D)
    (h2 : ∀ i, I64 i → D.atKey (.int .i64 i) (.lit (.string [])) = .lit (.string (m i).data.toList)) : MapS w' B (n + 1) (fun i => if i = s then b else m i) := by
  refine ⟨_, h3, fun i hi => ?_⟩
  have hM := h1.isMap
  show _ = DataW.lit (.string (if i = s then b else m i).data.toList)
  by_cases e : i = s
  · subst e
    rw [if_pos rfl]
    exact Maps.atKey_put_same hM (by trivial) _ _
  · have hne : (Lit.int .i64 i) ≠ .int .i64 s := fun h => e (by injection h)
    rw [if_neg e, Maps.atKey_put_other hne]
    exact h2 i hi
end

end Go.Proofs.YtaaplalfggofiaaGreatDoor
