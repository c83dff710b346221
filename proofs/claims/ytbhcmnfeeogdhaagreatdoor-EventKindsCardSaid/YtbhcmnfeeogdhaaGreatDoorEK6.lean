/-
  Several texts in one: Apply, QcF, ValP. Each says at its head what it holds.
-/
import Derived.Test.YtbhcmnfeeogdhaaGreatDoorEK5
import Derived.Test.YtbhcmnfeeogdhaaGreatDoorEK3
import Derived.StillTailTactics
import Derived.Test.YtbhcmnfeeogdhaaGreatDoorEK2
import Derived.IntWalk

/-
  condition.Apply.
-/
namespace Go.Proofs.YtbhcmnfeeogdhaaGreatDoor
open Go.RowKit

/-- a node, its own cells alone: the place of its kids is a value -/
structure Nf where
  kind : Int
  at_ : Int
  name : ByteArray
  value : ByteArray
  a : Int
  b : Int
  c : Int
  d : Int
  kids : Value
def encNf (n : Nf) : List Value := [.int .i64 n.kind, .int .i64 n.at_, .string n.name, .string n.value, .int .i64 n.a, .int .i64 n.b, .int .i64 n.c, .int .i64 n.d, n.kids]

theorem join_nil : ∀ xs : List (List UInt8), Lib.join xs [] = xs.flatten
  | [] => rfl
  | [x] => by simp [Lib.join]
  | x :: y :: r => by
    have := join_nil (y :: r)
    simp [Lib.join] at this ⊢
    exact this

def vL (vs : List ByteArray) : List (List UInt8) := vs.map fun v => v.data.toList
def ApRel (W : World) (vs : List ByteArray) (i : Value) (wr : World) : Prop := ∃ k : Nat, k ≤ vs.length ∧ i = .int .i64 k ∧ (∀ v ∈ vs.take k, bitsB v.data.toList = true) ∧ Below W.heap.size W wr

theorem all_take_succ {vs : List ByteArray} {k : Nat} (hk : k < vs.length) (h : ∀ v ∈ vs.take k, bitsB v.data.toList = true) (hb : bitsB vs[k].data.toList = true) : ∀ v ∈ vs.take (k + 1), bitsB v.data.toList = true := fun v hv => by
  rw [List.take_succ_eq_append_getElem hk] at hv
  rcases List.mem_append.1 hv with hv | hv
  · exact h v hv
  · simp at hv; subst hv; exact hb
theorem any_bad {vs : List ByteArray} {v : ByteArray} (hv : v ∈ vs) (h : bitsB v.data.toList = false) (k a b : Int) : applyL k a b (vL vs) = [] := by
  unfold applyL
  rw [if_pos]
  rw [List.any_eq_true]
  exact ⟨v.data.toList, List.mem_map.2 ⟨v, hv, rfl⟩, by simp [h]⟩
theorem all_good {vs : List ByteArray} (h : ∀ v ∈ vs, bitsB v.data.toList = true) : ¬ (vL vs).any (fun v => !bitsB v) = true := by
  rw [List.any_eq_true]
  rintro ⟨x, hx, hb⟩
  obtain ⟨v, hv, rfl⟩ := List.mem_map.1 hx
  simp [h v hv] at hb

theorem all_good_pos {x : ByteArray} (h : ¬ (vL [x]).any (fun v => !bitsB v) = true) : 0 < x.size := by
  rw [Bool.not_eq_true, List.any_eq_false] at h
  have := h x.data.toList (by simp [vL])
  simp only [bitsB, Bool.not_eq_true', Bool.and_eq_true, Bool.not_eq_false] at this
  rcases Nat.eq_zero_or_pos x.size with h0 | h0
  · have h1 : x.data.toList = [] := List.eq_nil_of_length_eq_zero (by simpa using h0)
    rw [h1] at this
    simp at this
  · exact h0

theorem enters_zx : EntersF 131 := fun args w => by
  first | exact run_callFunc_enter _ _ _ | kernel_rfl
theorem zx_step (l : List UInt8) : StepBy 131 #[] none l (fun n => zxC (l.getD n 0)) (fun _ _ => True) := fun n c W hc _ => by
  refine (apply1_any c W).mono ?_
  rintro e w' ⟨rfl, rfl⟩
  have : l.getD n 0 = c := by rw [List.getD, hc]; rfl
  exact ⟨by show _ = Ending.returned (bv (zxC (l.getD n 0))); rw [this], trivial, But.refl _ _ _⟩
theorem mapped_zx (s : ByteArray) (w : World) (hl : s.size ≤ 1000) : Calls Tryz.prog 128 #[.string s, .func (.func 131) #[] #[]] w fun e w' => e = .returned (.string ⟨(s.data.toList.map zxC).toArray⟩) ∧ Below w.heap.size w w' := by
  refine (mapped_any _ #[] none s _ _ w enters_zx (zx_step _) (fun _ _ _ _ h => h) (fun n h => by cases h) trivial hl).mono ?_
  rintro e w' ⟨rfl, _, hb⟩
  have hsl : s.data.toList.length = s.size := by simp
  rw [← hsl, upto_map]
  exact ⟨rfl, hb.below (Nat.le_refl _) (fun k h => by cases h)⟩
theorem code_zx (c : UInt8) : codeC (zxC c) = codeC c := by
  unfold zxC codeC
  (split; rfl)
  (split <;> rfl)
theorem fold_zx (k : Int) (hk : k = 9 ∨ k = 10 ∨ k = 11) : ∀ (l : List UInt8) (x : UInt8), (l.map zxC).foldl (opC k) x = l.foldl (opC k) x
  | [], _ => rfl
  | c :: l, x => by
    have e : opC k x (zxC c) = opC k x c := by rw [(op_tab k hk _ _).1, (op_tab k hk _ _).1, code_zx]
    show (l.map zxC).foldl (opC k) (opC k x (zxC c)) = l.foldl (opC k) (opC k x c)
    rw [e]
    exact fold_zx k hk l _

theorem flat_bd : ∀ (vs : List ByteArray), (∀ v ∈ vs, v.size ≤ 130) → (vL vs).flatten.length ≤ vs.length * 130
  | [], _ => by simp [vL]
  | v :: vs, h => by
    have h1 := flat_bd vs fun x hx => h x (List.mem_cons_of_mem _ hx)
    have h2 := h v (List.mem_cons_self ..)
    have e : (vL (v :: vs)).flatten = v.data.toList ++ (vL vs).flatten := rfl
    have hl : v.data.toList.length = v.size := by simp
    rw [e, List.length_append, hl, List.length_cons]
    omega

set_option maxRecDepth 100000 in
set_option maxHeartbeats 4000000 in
theorem apply_any (n : Nf) (A : Option Addr) (c : Nat) (vs : List ByteArray) (w : World) (hA : StrsAt w (Lo w.heap.size) A vs) (hl : vs.length ≤ 1000) (hc : vs.length ≤ c) (hv : ∀ v ∈ vs, v.size ≤ 130) (ha : I64 n.a) (hb : I64 n.b) :
    Calls Tryz.prog 96 #[.agg (encNf n).toArray, .slice A vs.length c] w fun e w' => e = .returned (.string ⟨(applyL n.kind n.a n.b (vL vs)).toArray⟩) ∧ Below w.heap.size w w' := by
  obtain ⟨kind, at_, name, value, na, nb', nc, nd, kids⟩ := n
  dsimp only [encNf] at *
  have HV := hide hv
  clear hv
  go_enter Tryz.func96, Tryz.ntmps96
  go_wp2_with fail
  obtain ⟨W0, hW0⟩ : ∃ W0 : World, w.alloc (.cells #[.int .i64 kind, .int .i64 at_, .string name, .string value, .int .i64 na, .int .i64 nb', .int .i64 nc, .int .i64 nd, kids] 30) = W0 := ⟨_, rfl⟩
  have gN : W0.heap[w.heap.size]? = some (.cells #[.int .i64 kind, .int .i64 at_, .string name, .string value, .int .i64 na, .int .i64 nb', .int .i64 nc, .int .i64 nd, kids] 30 (0, 0)) := by rw [← hW0]; exact heap_alloc_new w _
  have hb0 : Below w.heap.size w W0 := by rw [← hW0]; exact (Below.refl _ _).alloc (Nat.le_refl _) _
  rw [hW0]
  clear hW0
  have hzN := box_lt gN
  have HA := hide (show ∀ W : World, Below W0.heap.size W0 W → StrsAt W (Lo w.heap.size) A vs from fun W hb => (hA.stay (stay_below hb0 fun _ h => h)).stay (stay_below hb fun b hb => Nat.lt_trans hb hzN))
  have HK := hide (show ∀ W : World, Below W0.heap.size W0 W → W.cell? ⟨w.heap.size, 0, none⟩ = some (.int .i64 kind) ∧ W.cell? ⟨w.heap.size, 4, none⟩ = some (.int .i64 na) ∧ W.cell? ⟨w.heap.size, 5, none⟩ = some (.int .i64 nb') from fun W hb => by
    have g := (hb.block _ hzN).trans gN
    exact ⟨by rw [cell_of_row W _ _ _ _ (0, 0) g]; rfl, by rw [cell_of_row W _ _ _ _ (0, 0) g]; rfl, by rw [cell_of_row W _ _ _ _ (0, 0) g]; rfl⟩)
  clear hA gN
  go_loopw [12] (fun i wr => ApRel W0 vs i wr) (fun i _ => vs.length - (intOf i).toNat)
  case atStart => exact ⟨0, Nat.zero_le _, rfl, by simp, Below.refl _ _⟩
  case round =>
    obtain ⟨k, hk, rfl, hgood, hbr⟩ := hrel
    by_cases hlt : k < vs.length
    · obtain ⟨b1, o1, hAe, _, q1⟩ := (HA.out wr hbr).at_ hlt
      subst hAe
      have hsz := HV.out _ (List.getElem_mem hlt)
      have HG := hide hgood
      clear hgood
      cases hbit : bitsB vs[k].data.toList with
      | false =>
        have HB := hide (any_bad (List.getElem_mem hlt) hbit kind na nb')
        have HBIT := hide hbit
        clear hbit
        generalize vs[k] = v at *
        go_wp2_with fail
        refine (isBits_any v _ (by omega)).mono ?_
        rw [HBIT.out]
        rintro e w1 ⟨rfl, b1⟩
        go_wp2_with fail
        go_ret
        exact ⟨by rw [HB.out]; rfl, bstep (bstep hb0 hbr) b1⟩
      | true =>
        have HT := hide (all_take_succ hlt HG.out hbit)
        have HBIT := hide hbit
        clear hbit
        generalize vs[k] = v at *
        go_wp2_with fail
        refine (isBits_any v _ (by omega)).mono ?_
        rw [HBIT.out]
        rintro e w1 ⟨rfl, b1⟩
        go_wp2_with fail
        go_roundw
        case rel => exact ⟨k + 1, by omega, by go_num, HT.out, bstep hbr b1⟩
        case measure => simp [intOf]; omega
    · have hke : k = vs.length := by omega
      subst hke
      rw [List.take_length] at hgood
      have HNB := hide (all_good hgood)
      obtain ⟨k0, _, _⟩ := HK.out wr hbr
      clear hgood
      go_wp2_with fail
      refine (tableOf_any kind _).mono ?_
      rintro e w1 ⟨rfl, b1⟩
      have htv : ∃ x0 x1 x2 x3 x4 x5 x6 x7 x8, tabV (tabOf kind) = #[bv x0, bv x1, bv x2, bv x3, bv x4, bv x5, bv x6, bv x7, bv x8] := by
        have htl := tabOf_len kind
        generalize tabOf kind = t at htl
        match t, htl with
        | [x0, x1, x2, x3, x4, x5, x6, x7, x8], _ => exact ⟨x0, x1, x2, x3, x4, x5, x6, x7, x8, rfl⟩
      obtain ⟨x0, x1, x2, x3, x4, x5, x6, x7, x8, htv⟩ := htv
      have HTV := hide htv
      rw [htv]
      clear htv
      go_upto_region 8 with (fail)
      obtain ⟨W2, hW2⟩ : ∃ W2 : World, w1.alloc (.cells #[.int .u8 x0.toNat, .int .u8 x1.toNat, .int .u8 x2.toNat, .int .u8 x3.toNat, .int .u8 x4.toNat, .int .u8 x5.toNat, .int .u8 x6.toNat, .int .u8 x7.toNat, .int .u8 x8.toNat] 180) = W2 := ⟨_, rfl⟩
      have gT : W2.heap[w1.heap.size]? = some (.cells (tabV (tabOf kind)) 180 (0, 0)) := by rw [← hW2, HTV.out]; exact heap_alloc_new w1 _
      have hb2 : Below W0.heap.size W0 W2 := by rw [← hW2]; exact (bstep hbr b1).alloc (bstep hbr b1).size _
      rw [hW2]
      have hbw := bstep hb0 hb2
      obtain ⟨k2, k4, k5⟩ := HK.out W2 hb2
      have hA2 := HA.out W2 hb2
      have HGT := hide gT
      clear hW2 b1 k0 gT HK HA
      generalize hT : w1.heap.size = BT at *
      clear hT
      by_cases h7 : kind = 7
      · subst h7
        have HR := hide (show applyL 7 na nb' (vL vs) = (vL vs).flatten by unfold applyL; rw [if_neg HNB.out, if_pos rfl])
        by_cases hv0 : vs = []
        · subst hv0
          go_wp2_with fail
          refine (join_none A c _ _).mono ?_
          rintro e w3 ⟨rfl, rfl⟩
          go_wp2_with fail
          go_ret
          exact ⟨by rw [HR.out]; rfl, hbw⟩
        · obtain ⟨bk, o, hAe, hlo, hcell⟩ := hA2 hv0
          subst hAe
          have HC := hide hcell
          have HLEN := hide (show (Lib.join (vs.map (·.data.toList)) []).length ≤ 140737488355328 by
            rw [join_nil]; have := flat_bd vs HV.out; unfold vL at this; omega)
          have hlt2 : bk < W2.heap.size := Nat.lt_of_lt_of_le hlo hbw.size
          clear hcell
          go_wp2_with fail
          refine (join_any bk o c vs ⟨#[]⟩ W2 HC.out hlt2 (by omega) hc HLEN.out).mono ?_
          rintro e w3 ⟨rfl, b3⟩
          go_wp2_with fail
          go_ret
          exact ⟨by rw [HR.out, ← join_nil]; rfl, bstep hbw b3⟩
      have t7 : (kind == 7) = false := beq_eq_false_iff_ne.2 h7
      by_cases h9 : 9 ≤ kind ∧ kind ≤ 13
      · have g9 : decide ((9 : Int) ≤ kind) = true := decide_eq_true h9.1
        have g13 : decide (kind ≤ (13 : Int)) = true := decide_eq_true h9.2
        by_cases hv2 : vs.length = 2
        · obtain ⟨x, y, rfl⟩ : ∃ x y, vs = [x, y] := by
            match vs, hv2 with
            | [x, y], _ => exact ⟨x, y, rfl⟩
          obtain ⟨bk, o, hAe, hlo, hcell⟩ := hA2 (by simp)
          subst hAe
          have c0 : W2.cell? ⟨bk, o, none⟩ = some (.string x) := hcell 0 x rfl
          have c1 : W2.cell? ⟨bk, o + 1, none⟩ = some (.string y) := hcell 1 y rfl
          clear hcell hA2 hv2 hl
          have hx0 : x.size ≤ 130 := HV.out x (by simp)
          have hy0 : y.size ≤ 130 := HV.out y (by simp)
          by_cases hxy : x.size = y.size
          · have HXY := hide hxy
            have txy : ((x.size : Int) != (y.size : Int)) = false := by rw [hxy]; simp
            have HE := hide (show applyL kind na nb' (vL [x, y]) = bothL kind x.data.toList y.data.toList by
              unfold applyL; rw [if_neg HNB.out, if_neg h7, if_pos h9]
              show (if x.data.toList.length = y.data.toList.length then _ else _) = _
              rw [if_pos (by simpa using hxy)])
            clear hxy
            go_upto_region 11 with (fail)
            go_quiet (fail)
            go_wp2_with fail
            refine wp_region_still_tail 9 (by kernel_rfl) (by kernel_rfl) ?_
            simp only [List.take_succ_cons, List.take_zero, List.drop_succ_cons, List.drop_zero]
            obtain ⟨W3, hW3⟩ : ∃ W3 : World, (W2.drewN nq).drew = W3 := ⟨_, rfl⟩
            have cT : W3.heap[BT]? = some (.cells (tabV (tabOf kind)) 180 (0, 0)) := by rw [← hW3]; exact HGT.out
            rw [HTV.out] at cT
            have d0 : W3.cell? ⟨bk, o, none⟩ = some (.string x) := by rw [← hW3]; exact c0
            have d1 : W3.cell? ⟨bk, o + 1, none⟩ = some (.string y) := by rw [← hW3]; exact c1
            have e0 : W3.cell? ⟨BT, 0, none⟩ = some (.int .u8 x0.toNat) := by rw [cell_of_row W3 _ _ _ _ (0, 0) cT]; rfl
            have e1 : W3.cell? ⟨BT, 1, none⟩ = some (.int .u8 x1.toNat) := by rw [cell_of_row W3 _ _ _ _ (0, 0) cT]; rfl
            have e2 : W3.cell? ⟨BT, 2, none⟩ = some (.int .u8 x2.toNat) := by rw [cell_of_row W3 _ _ _ _ (0, 0) cT]; rfl
            have e3 : W3.cell? ⟨BT, 3, none⟩ = some (.int .u8 x3.toNat) := by rw [cell_of_row W3 _ _ _ _ (0, 0) cT]; rfl
            have e4 : W3.cell? ⟨BT, 4, none⟩ = some (.int .u8 x4.toNat) := by rw [cell_of_row W3 _ _ _ _ (0, 0) cT]; rfl
            have e5 : W3.cell? ⟨BT, 5, none⟩ = some (.int .u8 x5.toNat) := by rw [cell_of_row W3 _ _ _ _ (0, 0) cT]; rfl
            have e6 : W3.cell? ⟨BT, 6, none⟩ = some (.int .u8 x6.toNat) := by rw [cell_of_row W3 _ _ _ _ (0, 0) cT]; rfl
            have e7 : W3.cell? ⟨BT, 7, none⟩ = some (.int .u8 x7.toNat) := by rw [cell_of_row W3 _ _ _ _ (0, 0) cT]; rfl
            have e8 : W3.cell? ⟨BT, 8, none⟩ = some (.int .u8 x8.toNat) := by rw [cell_of_row W3 _ _ _ _ (0, 0) cT]; rfl
            have dk : W3.cell? ⟨w.heap.size, 0, none⟩ = some (.int .i64 kind) := by rw [← hW3]; exact k2
            have hb3 : Below w.heap.size w W3 := by rw [← hW3]; exact below_drew (below_drewN hbw nq)
            change wpStill _ _ ((W2.drewN nq).drew) (fun a' => wpList _ _ _ _ a' ((W2.drewN nq).drew)) _ _
            rw [hW3]
            clear hW3
            repeat (refine wpStill_step (fun K hK => ?_); go_simp; refine hK _ ?_; clear hK K)
            refine wpStill_nil ?_
            have hT : (#[bv x0, bv x1, bv x2, bv x3, bv x4, bv x5, bv x6, bv x7, bv x8] : Array Value) = tabV (tabOf kind) := HTV.out.symm
            have HT := hide hT
            clear hT e0 e1 e2 e3 e4 e5 e6 e7 e8 d0 d1 dk cT
            go_wp2_with fail
            rw [HT.out]
            refine (both_any kind x y W3 h9 HXY.out (by omega)).mono ?_
            rintro e w4 ⟨rfl, b4⟩
            go_wp2_with fail
            go_ret
            exact ⟨by rw [HE.out]; rfl, bstep hb3 b4⟩
          · have txy : ((x.size : Int) != (y.size : Int)) = true := by rw [bne_iff_ne]; omega
            have HE := hide (show applyL kind na nb' (vL [x, y]) = [] by
              unfold applyL; rw [if_neg HNB.out, if_neg h7, if_pos h9]
              show (if x.data.toList.length = y.data.toList.length then _ else _) = _
              rw [if_neg (by simpa using hxy)])
            clear hxy
            go_upto_region 11 with (fail)
            go_quiet (fail)
            go_wp2_with fail
            go_ret
            exact ⟨by rw [HE.out]; rfl, below_drewN hbw nq⟩
        · have t2 : ((vs.length : Int) != 2) = true := by rw [bne_iff_ne]; omega
          have HE := hide (show applyL kind na nb' (vL vs) = [] by
            unfold applyL; rw [if_neg HNB.out, if_neg h7, if_pos h9]
            match vs, hv2 with
            | [], _ => rfl
            | [x], _ => rfl
            | [x, y], h => exact absurd rfl h
            | x :: y :: z :: r, _ => rfl)
          go_upto_region 11 with (fail)
          go_quiet (fail)
          go_wp2_with fail
          go_ret
          exact ⟨by rw [HE.out]; rfl, below_drewN hbw nq⟩
      have t9 : decide ((9 : Int) ≤ kind) = false ∨ decide ((9 : Int) ≤ kind) = true ∧ decide (kind ≤ (13 : Int)) = false := by
        by_cases h : (9 : Int) ≤ kind
        · exact .inr ⟨decide_eq_true h, decide_eq_false (by omega)⟩
        · exact .inl (decide_eq_false h)
      by_cases hv1 : vs.length = 1
      · obtain ⟨x, rfl⟩ : ∃ x, vs = [x] := by
          match vs, hv1 with
          | [x], _ => exact ⟨x, rfl⟩
        obtain ⟨bk, o, hAe, hlo, hcell⟩ := hA2 (by simp)
        subst hAe
        have c0 : W2.cell? ⟨bk, o, none⟩ = some (.string x) := hcell 0 x rfl
        clear hcell hA2 hv1 hl
        have hx0 : x.size ≤ 130 := HV.out x (by simp)
        have HA := hide (show applyL kind na nb' (vL [x]) = oneL kind na nb' x.data.toList by
          unfold applyL; rw [if_neg HNB.out, if_neg h7, if_neg h9]; rfl)
        have hxp : 0 < x.size := all_good_pos HNB.out
        by_cases h8 : kind = 8
        · subst h8
          have HE := hide (show applyL 8 na nb' (vL [x]) = x.data.toList.map invC by rw [HA.out]; rfl)
          go_wp2_with fail
          refine (mapped_inv x W2 (by omega)).mono ?_
          rintro e w4 ⟨rfl, b4⟩
          go_wp2_with fail
          go_ret
          exact ⟨by rw [HE.out]; rfl, bstep hbw b4⟩
        have t8 : (kind == 8) = false := beq_eq_false_iff_ne.2 h8
        by_cases h6 : kind = 6
        · subst h6
          have HE := hide (show applyL 6 na nb' (vL [x]) = sliceL x.data.toList na nb' by rw [HA.out]; rfl)
          go_wp2_with fail
          go_quiet ((go_at_call 130; exact Calls.quiet_of_same ((slice_any x na nb' _ (by omega) ha hb).mono fun _ _ ⟨h1, h2⟩ => ⟨h1, h2.symm⟩)))
          go_wp2_with fail
          go_ret
          exact ⟨by rw [HE.out]; rfl, below_drewN hbw nq⟩
        have t6 : (kind == 6) = false := beq_eq_false_iff_ne.2 h6
        by_cases ht : 14 ≤ kind ∧ kind ≤ 16
        · have HTB := hide (show isTab kind = true by unfold isTab; exact decide_eq_true (by omega))
          have hk3 : kind - 5 = 9 ∨ kind - 5 = 10 ∨ kind - 5 = 11 := by omega
          rw [HTB.out]
          have h9' : decide (kind ≤ (13 : Int)) = false := decide_eq_false (by omega)
          have h9'' : decide ((9 : Int) ≤ kind) = true := decide_eq_true (by omega)
          have HRED := hide (show oneL kind na nb' x.data.toList = redL kind x.data.toList by unfold oneL; rw [if_neg h8, if_neg h6, if_pos ht])
          have HK3 := hide hk3
          clear t9 ht hk3
          go_wp2_with fail
          refine (mapped_zx x W2 (by omega)).mono ?_
          rintro e w4 ⟨rfl, b4⟩
          obtain ⟨v, hv⟩ : ∃ v : ByteArray, (⟨(x.data.toList.map zxC).toArray⟩ : ByteArray) = v := ⟨_, rfl⟩
          rw [hv]
          have hvl : v.data.toList = x.data.toList.map zxC := by rw [← hv]
          have hvs : v.size = x.size := by
            have := congrArg List.length hvl
            simpa using this
          clear hv
          have HVL := hide hvl
          clear hvl
          go_wp2_with fail
          obtain ⟨u, hu⟩ : ∃ u : ByteArray, v.extract 1 v.size = u := ⟨_, rfl⟩
          have hul : u.data.toList = v.data.toList.drop 1 := by rw [← hu, Lib.extract_data]; rw [List.take_of_length_le]; simp
          have huz : u.data.toList.length = u.size := by simp
          have huz2 : u.size ≤ 1000 := by
            have := congrArg List.length hul
            simp at this
            omega
          obtain ⟨WB, C, hcv, hzB, hbB, hcB⟩ := conv_bytes w4.drew u
          have hv0 : 0 < v.size := by omega
          have hv1 : (1 : Int) ≤ (v.size : Int) := by omega
          have hbW : Below w.heap.size w WB := bstep (below_drew (bstep hbw b4)) hbB
          have hTB : WB.heap[BT]? = some (.cells (tabV (tabOf kind)) 180 (0, 0)) := by
            have h1 : BT < W2.heap.size := box_lt HGT.out
            exact (hbB.block BT (by have := b4.size; show BT < w4.heap.size; omega)).trans ((b4.block BT h1).trans HGT.out)
          have hk5 : kind = kind - 5 + 5 := by omega
          rw [hk5] at hTB
          have hF := fun (W : World) (h : W.heap[BT]? = _) (hc : ∀ i c, u.data.toList[i]? = some c → W.cell? ⟨w4.heap.size, i, none⟩ = some (bv c)) => foldo_any (kind - 5) HK3.out v[0] u.data.toList w4.heap.size C BT W h hc (by rw [huz]; exact huz2)
          obtain ⟨r, hr⟩ : ∃ r : UInt8, u.data.toList.foldl (opC (kind - 5)) v[0] = r := ⟨_, rfl⟩
          rw [huz, hr] at hF
          have hres : applyL kind na nb' (vL [x]) = [r] := by
            rw [HA.out, HRED.out, ← hr]
            have e1 : v.data.toList = v[0] :: u.data.toList := by
              rw [hul]
              have h1 : 0 < v.data.toList.length := by simpa using hv0
              have := List.drop_eq_getElem_cons h1
              rw [List.drop_zero] at this
              exact this
            have e2 := HVL.out
            rw [e1] at e2
            cases hx : x.data.toList with
            | nil => rw [hx] at e2; simp at e2
            | cons c l =>
              rw [hx] at e2
              simp only [List.map_cons, List.cons.injEq] at e2
              rw [e2.1, e2.2, fold_zx _ HK3.out]
              rfl
          have HRES := hide hres
          have kc : ∀ n, (convert 174 9 (.slice (some ⟨w4.heap.size + 1, 0, none⟩) 1 1)).run Tryz.prog ((WB.drewN n).alloc (.cells #[bv r] 5)) = .ok (.string ⟨#[r]⟩) ((WB.drewN n).alloc (.cells #[bv r] 5)) := fun n => by
            have h := conv_one (WB.drewN n) r
            rw [show (WB.drewN n).heap.size = w4.heap.size + 1 from hzB] at h
            exact h
          clear hr hres
          have HF := hide (hF WB hTB hcB)
          clear hF hk5 hTB hcB hul hvs
          go_upto_region 22 with (fail)
          go_region_with (go_at_call 133; refine HF.out.mono ?_; rintro e w5 ⟨rfl, n5, rfl⟩)
          all_goals
            go_wp2_with fail
            go_ret
            exact ⟨by rw [HRES.out]; rfl, (below_drewN hbW _).alloc hbW.size _⟩
        · have HE := hide (show applyL kind na nb' (vL [x]) = [] by rw [HA.out]; unfold oneL; rw [if_neg h8, if_neg h6, if_neg ht])
          have HTB := hide (show isTab kind = false by unfold isTab; exact decide_eq_false (by omega))
          rw [HTB.out]
          clear ht
          rcases t9 with t9 | ⟨t9, t13⟩
          all_goals
            go_wp2_with fail
            go_ret
            exact ⟨by rw [HE.out]; rfl, hbw⟩
      · have t1 : ((vs.length : Int) != 1) = true := by rw [bne_iff_ne]; omega
        have HE := hide (show applyL kind na nb' (vL vs) = [] by
          unfold applyL; rw [if_neg HNB.out, if_neg h7, if_neg h9]
          match vs, hv1 with
          | [], _ => rfl
          | [x], h => exact absurd rfl h
          | x :: y :: r, _ => rfl)
        rcases t9 with t9 | ⟨t9, t13⟩
        all_goals
          go_wp2_with fail
          go_ret
          exact ⟨by rw [HE.out]; rfl, hbw⟩

end Go.Proofs.YtbhcmnfeeogdhaaGreatDoor

/-
  The plain functions of package qcheck on resolved trees: duration, horizon, steps, signals. No program in sight.
-/
namespace Go.Proofs.YtbhcmnfeeogdhaaGreatDoor
open Go.RowKit

/-- the duration of a pattern -/
def durB (n : Nd) (l : List Int) : Int :=
  if n.kind = 45 then (match l with | x :: y :: _ => wrap64 (wrap64 (x + y) + n.b) | _ => 0)
  else if n.kind = 46 then (match l with | x :: y :: _ => max x y | _ => 0)
  else if n.kind = 47 then (match l with | x :: _ => if 0 < n.b then wrap64 (wrap64 (n.b * x) + wrap64 (wrap64 (n.b - 1) * n.d)) else 0 | _ => 0)
  else 0
def durF (n : Nd) : Int := n.fold durB
/-- past, future, and the greatest future inside of a pattern -/
structure Hz where
  past : Int
  fut : Int
  ins : Int
def maxF (l : List Int) : Int := l.foldl max 0
def hzB (n : Nd) (l : List Hz) : Hz :=
  let p := maxF (l.map Hz.past)
  let f := maxF (l.map Hz.fut)
  let i := maxF (l.map Hz.ins)
  if n.kind = 31 ∨ n.kind = 32 ∨ n.kind = 35 then ⟨wrap64 (p + n.b), f, f⟩
  else if n.kind = 33 ∨ n.kind = 34 ∨ n.kind = 36 then ⟨p, wrap64 (f + n.b), wrap64 (f + n.b)⟩
  else if (37 ≤ n.kind ∧ n.kind ≤ 41) ∨ n.kind = 43 then ⟨wrap64 (p + 1), f, f⟩
  else if 45 ≤ n.kind ∧ n.kind ≤ 47 then ⟨p, wrap64 (durF n + i), i⟩
  else ⟨p, f, f⟩
/-- the signals of a tree, in the order of the walk -/
def sigB (n : Nd) (l : List (List Int)) : List Int := (if n.kind = 1 then [n.a] else []) ++ l.flatten
def sigF (n : Nd) : List Int := n.fold sigB
theorem sigF_eq (n : Nd) : sigF n = sigB n (n.kids.map sigF) := Nd.fold_eq _ n

end Go.Proofs.YtbhcmnfeeogdhaaGreatDoor

/-
  What a resolved tree says at one moment: its value, its truth, whether it is a resolved condition. Plain; no program in sight.
-/
namespace Go.Proofs.YtbhcmnfeeogdhaaGreatDoor
open Go.RowKit

def vL2 (vs : List ByteArray) : List (List UInt8) := vs.map fun v => v.data.toList
/-- the value of a tree where env says the signals -/
def vaB (env : Int → ByteArray) (n : Nd) (l : List ByteArray) : ByteArray :=
  if n.kind = 1 then env n.a else if n.kind = 2 ∨ n.kind = 4 ∨ n.kind = 5 then n.value else ⟨(applyL n.kind n.a n.b (vL2 l)).toArray⟩
def valF (env : Int → ByteArray) (n : Nd) : ByteArray := n.fold (vaB env)
theorem valF_eq (env : Int → ByteArray) (n : Nd) : valF env n = vaB env n (n.kids.map (valF env)) := Nd.fold_eq _ n
theorem valF_mk (env : Int → ByteArray) (kind at_ : Int) (name value : ByteArray) (a b c d : Int) (KA : Option Addr) (kc : Nat) (kids : List Nd) : valF env (.mk kind at_ name value a b c d KA kc kids) =
    if kind = 1 then env a else if kind = 2 ∨ kind = 4 ∨ kind = 5 then value else ⟨(applyL kind a b (vL2 (kids.map (valF env)))).toArray⟩ := valF_eq env _

/-- the values of the signals fit their widths -/
def envB (env : Int → ByteArray) (n : Nd) (l : List Prop) : Prop := (n.kind = 1 → (n.c = 0 → ((env n.a).size : Int) ≤ n.b) ∧ (env n.a).size ≤ 130) ∧ n.value.size ≤ 130 ∧ ∀ p ∈ l, p
def EnvOk (env : Int → ByteArray) (n : Nd) : Prop := n.fold (envB env)
theorem EnvOk_eq (env : Int → ByteArray) (n : Nd) : EnvOk env n ↔ (n.kind = 1 → (n.c = 0 → ((env n.a).size : Int) ≤ n.b) ∧ (env n.a).size ≤ 130) ∧ n.value.size ≤ 130 ∧ ∀ k ∈ n.kids, EnvOk env k := by
  unfold EnvOk
  rw [Nd.fold_eq]
  unfold envB
  refine and_congr_right fun _ => and_congr_right fun _ => ⟨fun h k hk => h _ (List.mem_map.2 ⟨k, hk, rfl⟩), fun h p hp => ?_⟩
  obtain ⟨k, hk, rfl⟩ := List.mem_map.1 hp
  exact h k hk
theorem zip_op_len (k : Int) (xs ys : List UInt8) (h : xs.length = ys.length) : (bothL k xs ys).length = xs.length := by
  unfold bothL
  split
  · split
    · unfold sumL
      split
      · rw [addR_len _ _ _ (by simpa using h)]
      · rw [addR_len _ _ _ h]
    · simp
  · simp [h]
theorem apply_len {kind a b : Int} {ls : List (List UInt8)} {ws : List Int} (hlen : ls.length = ws.length) (hw : ∀ (i : Nat) (x : List UInt8) (w : Int), ls[i]? = some x → ws[i]? = some w → (x.length : Int) ≤ w) (hz : 0 ≤ operF kind a b ws) : 1 ≤ operF kind a b ws → ((applyL kind a b ls).length : Int) ≤ operF kind a b ws := by
  intro hp
  unfold applyL
  split
  · simp; omega
  · unfold operF at hp hz ⊢
    by_cases k6 : kind = 6
    · rw [if_pos k6] at hp hz ⊢
      rw [if_neg (by omega), if_neg (by omega)]
      match ls, ws, hlen with
      | [x], [w], _ =>
        dsimp only at hp hz ⊢
        have := hw 0 x w rfl rfl
        split at hp
        · rename_i h6
          rw [if_pos h6]
          unfold oneL
          rw [if_neg (by omega), if_pos k6]
          unfold sliceL
          split
          · simp; omega
          · simp; omega
        · omega
      | [], [], _ => dsimp only at hp; omega
      | [], _ :: _, h => simp at h
      | x :: y :: r, [], h => simp at h
      | x :: y :: r, [_], h => simp at h
      | x :: y :: r, _ :: _ :: _, h => dsimp only at hp; omega
    · rw [if_neg k6] at hp hz ⊢
      by_cases k7 : kind = 7
      · rw [if_pos k7] at hp hz ⊢
        rw [if_pos k7]
        split at hp
        · rename_i h7
          rw [if_pos h7]
          clear h7 hp hz k6 k7
          rename_i h8
          clear h8
          induction ls generalizing ws with
          | nil => have : ws = [] := List.eq_nil_of_length_eq_zero (by simpa using hlen.symm); subst this; simp [sumF]
          | cons x ls ih =>
            cases ws with
            | nil => simp at hlen
            | cons w ws =>
              have h1 := hw 0 x w rfl rfl
              have h2 := ih (ws := ws) (by simpa using hlen) (fun i y v hy hv => hw (i + 1) y v (by simpa using hy) (by simpa using hv))
              have h3 : sumF (w :: ws) = w + sumF ws := sumF_cons w ws
              rw [List.flatten_cons, List.length_append, h3]
              omega
        · omega
      · rw [if_neg k7] at hp hz ⊢
        rw [if_neg k7]
        by_cases k8 : kind = 8
        · rw [if_pos k8] at hp hz ⊢
          rw [if_neg (by omega)]
          match ls, ws, hlen with
          | [x], [w], _ =>
            have := hw 0 x w rfl rfl
            dsimp only
            unfold oneL
            rw [if_pos k8]
            simpa using this
          | [], [], _ => dsimp only at hp; omega
          | [], _ :: _, h => simp at h
          | x :: y :: r, [], h => simp at h
          | x :: y :: r, [_], h => simp at h
          | x :: y :: r, _ :: _ :: _, h => dsimp only at hp; omega
        · rw [if_neg k8] at hp hz ⊢
          by_cases k14 : 14 ≤ kind ∧ kind ≤ 16
          · rw [if_pos k14] at hp hz ⊢
            rw [if_neg (by omega)]
            match ls, ws, hlen with
            | [x], [w], _ =>
              dsimp only
              unfold oneL
              rw [if_neg k8, if_neg k6, if_pos k14]
              unfold redL
              split <;> simp
            | [], [], _ => dsimp only at hp; omega
            | [], _ :: _, h => simp at h
            | x :: y :: r, [], h => simp at h
            | x :: y :: r, [_], h => simp at h
            | x :: y :: r, _ :: _ :: _, h => dsimp only at hp; omega
          · rw [if_neg k14] at hp hz ⊢
            by_cases k9 : 9 ≤ kind ∧ kind ≤ 13
            · rw [if_pos k9] at hp hz ⊢
              rw [if_pos k9]
              match ls, ws, hlen with
              | [x, y], [w, v], _ =>
                dsimp only at hp hz ⊢
                have := hw 0 x w rfl rfl
                split at hp
                · rename_i h9
                  rw [if_pos h9]
                  split
                  · rename_i hxy
                    rw [zip_op_len _ _ _ hxy]
                    exact this
                  · simp; omega
                · omega
              | [], [], _ => dsimp only at hp; omega
              | [], _ :: _, h => simp at h
              | [x], [], h => simp at h
              | [x], [_], h => dsimp only at hp; omega
              | [x], _ :: _ :: _, h => simp at h
              | x :: y :: z :: r, [], h => simp at h
              | x :: y :: z :: r, [_], h => simp at h
              | x :: y :: z :: r, [_, _], h => simp at h
              | x :: y :: z :: r, _ :: _ :: _ :: _, h => dsimp only at hp; omega
            · rw [if_neg k9] at hp; omega
/-- the value of a tree of a type is no longer than its width -/
theorem val_size {env : Int → ByteArray} (n : Nd) : EnvOk env n → ∀ k w, typeF n = some (k, w) → (valF env n).size ≤ 130 ∧ (k = 0 → ((valF env n).size : Int) ≤ w) := by
  induction n using Nd.ind with
  | h n ih =>
  intro he k w ht
  have hbd := typeF_bound n k w ht
  obtain ⟨h1, h2, h3⟩ := (EnvOk_eq env n).1 he
  rw [typeF_eq] at ht
  rw [valF_eq]
  unfold typeB at ht
  unfold vaB
  by_cases k1 : n.kind = 1
  · rw [if_pos k1] at ht ⊢
    obtain ⟨h4, h5⟩ := h1 k1
    refine ⟨h5, fun k0 => ?_⟩
    subst k0
    split at ht
    · cases ht
    · split at ht
      · rename_i h6
        injection ht with ht
        injection ht with h7 h8
        omega
      · split at ht
        · rename_i h6
          obtain ⟨h7, h8⟩ := widthOk_some ht
          injection h7 with _ h9
          have := h4 h6.1
          omega
        · cases ht
  · rw [if_neg k1] at ht ⊢
    by_cases k2 : n.kind = 2
    · rw [if_pos k2] at ht
      rw [if_pos (.inl k2)]
      refine ⟨h2, fun k0 => ?_⟩
      split at ht
      · cases ht
      · split at ht
        · obtain ⟨h7, h8⟩ := widthOk_some ht
          injection h7 with _ h9
          omega
        · cases ht
    · rw [if_neg k2] at ht
      by_cases k4 : n.kind = 4
      · rw [if_pos k4] at ht
        rw [if_pos (.inr (.inl k4))]
        refine ⟨h2, fun k0 => ?_⟩
        split at ht
        · cases ht
        · injection ht with ht; injection ht with h7 h8; omega
      · rw [if_neg k4] at ht
        by_cases k5 : n.kind = 5
        · rw [if_pos k5] at ht
          rw [if_pos (.inr (.inr k5))]
          refine ⟨h2, fun k0 => ?_⟩
          split at ht
          · cases ht
          · injection ht with ht; injection ht with h7 h8; omega
        · rw [if_neg k5] at ht
          rw [if_neg (by omega)]
          split at ht
          · rename_i ws hws
            split at ht
            · obtain ⟨h7, h8⟩ := widthOk_some ht
              injection h7 with h9 h10
              obtain ⟨hl, hat⟩ := widthsF_at hws
              have hap := apply_len (kind := n.kind) (a := n.a) (b := n.b) (ls := vL2 (n.kids.map (valF env))) (ws := ws) (by simp [vL2, hl]) (fun i x u hx hu => by
                have h11 := hat i u hu
                rw [List.getElem?_map, Option.map_eq_some_iff] at h11
                obtain ⟨m, h12, h13⟩ := h11
                unfold vL2 at hx
                rw [List.map_map, List.getElem?_map, h12] at hx
                injection hx with hx
                subst hx
                have hm := List.mem_of_getElem? h12
                have := (ih m hm (h3 m hm) 0 u h13).2 rfl
                simpa using this) (by omega) h8
              have hsz : ((⟨(applyL n.kind n.a n.b (vL2 (n.kids.map (valF env)))).toArray⟩ : ByteArray).size : Int) = ((applyL n.kind n.a n.b (vL2 (n.kids.map (valF env)))).length : Int) := by
                show ((applyL n.kind n.a n.b (vL2 (n.kids.map (valF env)))).toArray.size : Int) = _
                simp
              rw [← h10] at hap
              refine ⟨by omega, fun _ => by omega⟩
            · cases ht
          · cases ht

/-- the kind of operands that are of one type -/
def typedK (l : List Nd) : Option Int := match l with
  | [] => none
  | x :: r => match typeF x with
    | none => none
    | some p => if ∀ y ∈ r, typeF y = some p then some p.1 else none
def resB (n : Nd) (l : List Bool) : Bool :=
  if n.kind = 17 ∨ n.kind = 18 then n.kids.isEmpty
  else if 19 ≤ n.kind ∧ n.kind ≤ 26 then (n.kids.length == 2 && (match typedK n.kids with | some k => decide (k ≠ 2 ∨ n.kind ≤ 22) | none => false))
  else if n.kind = 27 then (n.kids.length == 1 && (match typedK n.kids with | some k => decide (k = 0) | none => false))
  else if n.kind = 28 then (match l with | [x] => x | _ => false)
  else if n.kind = 29 ∨ n.kind = 30 then (match l with | [x, y] => x && y | _ => false)
  else decide (typeF n = some (0, 1))
def resF (n : Nd) : Bool := n.fold resB
theorem resF_eq (n : Nd) : resF n = resB n (n.kids.map resF) := Nd.fold_eq _ n
def kindK (x : Nd) : Int := match typeF x with | some p => p.1 | none => 0

end Go.Proofs.YtbhcmnfeeogdhaaGreatDoor
