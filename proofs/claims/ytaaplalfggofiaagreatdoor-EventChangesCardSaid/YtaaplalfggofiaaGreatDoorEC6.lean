/-
  Several texts in one: Ref51, Apply, Cmp51, Sets. Each says at its head what it holds.
-/
import Derived.Test.YtaaplalfggofiaaGreatDoorEC4
import Derived.Lib.SlBytesRow
import Derived.Test.YtaaplalfggofiaaGreatDoorEC5
import Derived.StillTailTactics
import Derived.Below

/-
  wavestoreref51.known, isBits, inverted, bit, sum.
-/
namespace Go.Proofs.YtaaplalfggofiaaGreatDoor
open Go.RowKit

def KnRel (P : List UInt8 → Bool) (s : ByteArray) (i : Value) : Prop := ∃ k : Nat, k ≤ s.size ∧ i = .int .i64 k ∧ P (s.data.toList.take k) = true

def allBits (l : List UInt8) : Bool := l.all bitC
theorem bit_take {s : ByteArray} {k : Nat} (hk : k < s.size) : allBits (s.data.toList.take (k + 1)) = (allBits (s.data.toList.take k) && bitC s[k]) := by
  unfold allBits
  rw [List.take_succ_eq_append_getElem (by simpa using hk), List.all_append]
  simp
  rfl
theorem bit_false {s : ByteArray} {k : Nat} (hk : k < s.size) (h : bitC s[k] = false) : bitsB s.data.toList = false := by
  unfold bitsB
  rw [Bool.and_eq_false_iff]
  right
  rw [← Bool.not_eq_true, List.all_eq_true]
  intro ha
  have := ha s[k] (by show s.data[k] ∈ _; simp)
  rw [h] at this
  cases this
theorem u8_ne {c d : UInt8} (h : c ≠ d) : ((c.toNat : Int) != (d.toNat : Int)) = true := by
  rw [bne_iff_ne]
  intro e
  exact h (UInt8.toNat_inj.1 (by omega))
set_option maxRecDepth 100000 in
theorem risBits_any (s : ByteArray) (w : World) (hs : s.size ≤ 1000) : Calls Tryz.prog 109 #[.string s] w fun e w' => e = .returned (.bool (bitsB s.data.toList)) ∧ w = w' := by
  go_enter Tryz.func109, Tryz.ntmps109
  go_wp2_with fail
  go_loop [3] (fun i => KnRel allBits s i) (fun i => s.size - (intOf i).toNat)
  case atStart => exact ⟨0, Nat.zero_le _, rfl, rfl⟩
  case round =>
    obtain ⟨k, hk, rfl, hp⟩ := hrel
    have HP := hide hp
    clear hp
    by_cases hlt : k < s.size
    · have HT := hide (bit_take hlt)
      have HF := hide (fun h => bit_false hlt h)
      by_cases h0 : s[k] = 48
      · have HK := hide (show bitC s[k] = true by rw [h0]; rfl)
        have t0 : ((s[k].toNat : Int) != 48) = false := by rw [h0]; rfl
        clear h0
        go_wp2_with fail
        go_round
        case rel => exact ⟨k + 1, by omega, by go_num, by rw [HT.out, HP.out, HK.out]; rfl⟩
        case measure => simp [intOf]; omega
      · have t0 : ((s[k].toNat : Int) != 48) = true := u8_ne h0
        have H0 := hide h0
        clear h0
        by_cases h1 : s[k] = 49
        · have HK := hide (show bitC s[k] = true by rw [h1]; rfl)
          have t1 : ((s[k].toNat : Int) != 49) = false := by rw [h1]; rfl
          clear h1
          go_wp2_with fail
          go_round
          case rel => exact ⟨k + 1, by omega, by go_num, by rw [HT.out, HP.out, HK.out]; rfl⟩
          case measure => simp [intOf]; omega
        · have t1 : ((s[k].toNat : Int) != 49) = true := u8_ne h1
          have H1 := hide h1
          clear h1
          by_cases h2 : s[k] = 120
          · have HK := hide (show bitC s[k] = true by rw [h2]; rfl)
            have t2 : ((s[k].toNat : Int) != 120) = false := by rw [h2]; rfl
            clear h2
            go_wp2_with fail
            go_round
            case rel => exact ⟨k + 1, by omega, by go_num, by rw [HT.out, HP.out, HK.out]; rfl⟩
            case measure => simp [intOf]; omega
          · have t2 : ((s[k].toNat : Int) != 120) = true := u8_ne h2
            have H2 := hide h2
            clear h2
            by_cases h3 : s[k] = 122
            · have HK := hide (show bitC s[k] = true by rw [h3]; rfl)
              have t3 : ((s[k].toNat : Int) != 122) = false := by rw [h3]; rfl
              clear h3
              go_wp2_with fail
              go_round
              case rel => exact ⟨k + 1, by omega, by go_num, by rw [HT.out, HP.out, HK.out]; rfl⟩
              case measure => simp [intOf]; omega
            · have t3 : ((s[k].toNat : Int) != 122) = true := u8_ne h3
              have HK := hide (show bitC s[k] = false by
                have a0 := H0.out
                have a1 := H1.out
                have a2 := H2.out
                unfold bitC; simp [a0, a1, a2, h3])
              clear h3
              go_wp2_with fail
              go_ret
              exact ⟨by rw [HF.out HK.out]; rfl, rfl⟩
    · have hke : k = s.size := by omega
      subst hke
      have hp := HP.out
      rw [List.take_of_length_le (by simp)] at hp
      have HP2 := hide hp
      clear hp
      by_cases hz : s.size = 0
      · have HB := hide (show bitsB s.data.toList = false by
          have : s.data.toList = [] := List.eq_nil_of_length_eq_zero (by simpa using hz)
          unfold bitsB; rw [this]; rfl)
        have hzi : decide (0 < s.size) = false := decide_eq_false (by omega)
        go_wp2_with fail
        go_ret
        exact ⟨by rw [HB.out]; rfl, rfl⟩
      · have HB := hide (show bitsB s.data.toList = true by
          have h1 : s.data.toList.isEmpty = false := by
            rw [List.isEmpty_eq_false_iff]
            exact fun e => hz (by have := congrArg List.length e; simpa using this)
          have e := HP2.out
          unfold allBits at e
          unfold bitsB; rw [e, h1]; rfl)
        have hz0 : decide (0 < s.size) = true := decide_eq_true (by omega)
        go_wp2_with fail
        go_ret
        exact ⟨by rw [HB.out]; rfl, rfl⟩

theorem conv_one (w : World) (c : UInt8) : (convert 186 9 (.slice (some ⟨w.heap.size, 0, none⟩) 1 1)).run Tryz.prog (w.alloc (.cells #[bv c] 5)) = .ok (.string ⟨#[c]⟩) (w.alloc (.cells #[bv c] 5)) := by
  have hb : Lib.Bytes (w.alloc (.cells #[bv c] 5)) w.heap.size 0 ⟨#[c]⟩ := fun i hi => by
    have : i = 0 := by have : i < 1 := hi; omega
    subst this
    rw [cell_of_row _ _ _ _ _ (0, 0) (heap_alloc_new w _)]
    rfl
  exact Lib.run_convert_whole (P := Tryz.prog) _ 186 5 9 Tryz.underlying186 Tryz.underlying5 Tryz.underlying9 w.heap.size 0 ⟨#[c]⟩ hb 1

end Go.Proofs.YtaaplalfggofiaaGreatDoor

/-
  condition.Apply.
-/
namespace Go.Proofs.YtaaplalfggofiaaGreatDoor
open Go.RowKit

/-- a node, its own cells alone: the place of its kids is a value -/
structure Nf where
  kind : Int
  at_ : Int
  name : ByteArray
  value : ByteArray
  a : Int
  b : Int
  c : Int
  d : Int
  kids : Value
def encNf (n : Nf) : List Value := [.int .i64 n.kind, .int .i64 n.at_, .string n.name, .string n.value, .int .i64 n.a, .int .i64 n.b, .int .i64 n.c, .int .i64 n.d, n.kids]

theorem join_nil : ∀ xs : List (List UInt8), Lib.join xs [] = xs.flatten
  | [] => rfl
  | [x] => by simp [Lib.join]
  | x :: y :: r => by
    have := join_nil (y :: r)
    simp [Lib.join] at this ⊢
    exact this

def vL (vs : List ByteArray) : List (List UInt8) := vs.map fun v => v.data.toList
def ApRel (W : World) (vs : List ByteArray) (i : Value) (wr : World) : Prop := ∃ k : Nat, k ≤ vs.length ∧ i = .int .i64 k ∧ (∀ v ∈ vs.take k, bitsB v.data.toList = true) ∧ Below W.heap.size W wr

theorem all_take_succ {vs : List ByteArray} {k : Nat} (hk : k < vs.length) (h : ∀ v ∈ vs.take k, bitsB v.data.toList = true) (hb : bitsB vs[k].data.toList = true) : ∀ v ∈ vs.take (k + 1), bitsB v.data.toList = true := fun v hv => by
  rw [List.take_succ_eq_append_getElem hk] at hv
  rcases List.mem_append.1 hv with hv | hv
  · exact h v hv
  · simp at hv; subst hv; exact hb
theorem any_bad {vs : List ByteArray} {v : ByteArray} (hv : v ∈ vs) (h : bitsB v.data.toList = false) (k a b : Int) : applyL k a b (vL vs) = [] := by
  unfold applyL
  rw [if_pos]
  rw [List.any_eq_true]
  exact ⟨v.data.toList, List.mem_map.2 ⟨v, hv, rfl⟩, by simp [h]⟩
theorem all_good {vs : List ByteArray} (h : ∀ v ∈ vs, bitsB v.data.toList = true) : ¬ (vL vs).any (fun v => !bitsB v) = true := by
  rw [List.any_eq_true]
  rintro ⟨x, hx, hb⟩
  obtain ⟨v, hv, rfl⟩ := List.mem_map.1 hx
  simp [h v hv] at hb

theorem all_good_pos {x : ByteArray} (h : ¬ (vL [x]).any (fun v => !bitsB v) = true) : 0 < x.size := by
  rw [Bool.not_eq_true, List.any_eq_false] at h
  have := h x.data.toList (by simp [vL])
  simp only [bitsB, Bool.not_eq_true', Bool.and_eq_true, Bool.not_eq_false] at this
  rcases Nat.eq_zero_or_pos x.size with h0 | h0
  · have h1 : x.data.toList = [] := List.eq_nil_of_length_eq_zero (by simpa using h0)
    rw [h1] at this
    simp at this
  · exact h0

theorem enters_zx : EntersF 124 := fun args w => by
  first | exact run_callFunc_enter _ _ _ | kernel_rfl
theorem zx_step (l : List UInt8) : StepBy 124 #[] none l (fun n => zxC (l.getD n 0)) (fun _ _ => True) := fun n c W hc _ => by
  refine (apply1_any c W).mono ?_
  rintro e w' ⟨rfl, rfl⟩
  have : l.getD n 0 = c := by rw [List.getD, hc]; rfl
  exact ⟨by show _ = Ending.returned (bv (zxC (l.getD n 0))); rw [this], trivial, But.refl _ _ _⟩
theorem mapped_zx (s : ByteArray) (w : World) (hl : s.size ≤ 1000) : Calls Tryz.prog 121 #[.string s, .func (.func 124) #[] #[]] w fun e w' => e = .returned (.string ⟨(s.data.toList.map zxC).toArray⟩) ∧ Below w.heap.size w w' := by
  refine (mapped_any _ #[] none s _ _ w enters_zx (zx_step _) (fun _ _ _ _ h => h) (fun n h => by cases h) trivial hl).mono ?_
  rintro e w' ⟨rfl, _, hb⟩
  have hsl : s.data.toList.length = s.size := by simp
  rw [← hsl, upto_map]
  exact ⟨rfl, hb.below (Nat.le_refl _) (fun k h => by cases h)⟩
theorem code_zx (c : UInt8) : codeC (zxC c) = codeC c := by
  unfold zxC codeC
  (split; rfl)
  (split <;> rfl)
theorem fold_zx (k : Int) (hk : k = 9 ∨ k = 10 ∨ k = 11) : ∀ (l : List UInt8) (x : UInt8), (l.map zxC).foldl (opC k) x = l.foldl (opC k) x
  | [], _ => rfl
  | c :: l, x => by
    have e : opC k x (zxC c) = opC k x c := by rw [(op_tab k hk _ _).1, (op_tab k hk _ _).1, code_zx]
    show (l.map zxC).foldl (opC k) (opC k x (zxC c)) = l.foldl (opC k) (opC k x c)
    rw [e]
    exact fold_zx k hk l _

theorem flat_bd : ∀ (vs : List ByteArray), (∀ v ∈ vs, v.size ≤ 130) → (vL vs).flatten.length ≤ vs.length * 130
  | [], _ => by simp [vL]
  | v :: vs, h => by
    have h1 := flat_bd vs fun x hx => h x (List.mem_cons_of_mem _ hx)
    have h2 := h v (List.mem_cons_self ..)
    have e : (vL (v :: vs)).flatten = v.data.toList ++ (vL vs).flatten := rfl
    have hl : v.data.toList.length = v.size := by simp
    rw [e, List.length_append, hl, List.length_cons]
    omega

set_option maxRecDepth 100000 in
set_option maxHeartbeats 4000000 in
theorem apply_any (n : Nf) (A : Option Addr) (c : Nat) (vs : List ByteArray) (w : World) (hA : StrsAt w (Lo w.heap.size) A vs) (hl : vs.length ≤ 1000) (hc : vs.length ≤ c) (hv : ∀ v ∈ vs, v.size ≤ 130) (ha : I64 n.a) (hb : I64 n.b) :
    Calls Tryz.prog 54 #[.agg (encNf n).toArray, .slice A vs.length c] w fun e w' => e = .returned (.string ⟨(applyL n.kind n.a n.b (vL vs)).toArray⟩) ∧ Below w.heap.size w w' := by
  obtain ⟨kind, at_, name, value, na, nb', nc, nd, kids⟩ := n
  dsimp only [encNf] at *
  have HV := hide hv
  clear hv
  go_enter Tryz.func54, Tryz.ntmps54
  go_wp2_with fail
  obtain ⟨W0, hW0⟩ : ∃ W0 : World, w.alloc (.cells #[.int .i64 kind, .int .i64 at_, .string name, .string value, .int .i64 na, .int .i64 nb', .int .i64 nc, .int .i64 nd, kids] 28) = W0 := ⟨_, rfl⟩
  have gN : W0.heap[w.heap.size]? = some (.cells #[.int .i64 kind, .int .i64 at_, .string name, .string value, .int .i64 na, .int .i64 nb', .int .i64 nc, .int .i64 nd, kids] 28 (0, 0)) := by rw [← hW0]; exact heap_alloc_new w _
  have hb0 : Below w.heap.size w W0 := by rw [← hW0]; exact (Below.refl _ _).alloc (Nat.le_refl _) _
  rw [hW0]
  clear hW0
  have hzN := box_lt gN
  have HA := hide (show ∀ W : World, Below W0.heap.size W0 W → StrsAt W (Lo w.heap.size) A vs from fun W hb => (hA.stay (stay_below hb0 fun _ h => h)).stay (stay_below hb fun b hb => Nat.lt_trans hb hzN))
  have HK := hide (show ∀ W : World, Below W0.heap.size W0 W → W.cell? ⟨w.heap.size, 0, none⟩ = some (.int .i64 kind) ∧ W.cell? ⟨w.heap.size, 4, none⟩ = some (.int .i64 na) ∧ W.cell? ⟨w.heap.size, 5, none⟩ = some (.int .i64 nb') from fun W hb => by
    have g := (hb.block _ hzN).trans gN
    exact ⟨by rw [cell_of_row W _ _ _ _ (0, 0) g]; rfl, by rw [cell_of_row W _ _ _ _ (0, 0) g]; rfl, by rw [cell_of_row W _ _ _ _ (0, 0) g]; rfl⟩)
  clear hA gN
  go_loopw [12] (fun i wr => ApRel W0 vs i wr) (fun i _ => vs.length - (intOf i).toNat)
  case atStart => exact ⟨0, Nat.zero_le _, rfl, by simp, Below.refl _ _⟩
  case round =>
    obtain ⟨k, hk, rfl, hgood, hbr⟩ := hrel
    by_cases hlt : k < vs.length
    · obtain ⟨b1, o1, hAe, _, q1⟩ := (HA.out wr hbr).at_ hlt
      subst hAe
      have hsz := HV.out _ (List.getElem_mem hlt)
      have HG := hide hgood
      clear hgood
      cases hbit : bitsB vs[k].data.toList with
      | false =>
        have HB := hide (any_bad (List.getElem_mem hlt) hbit kind na nb')
        have HBIT := hide hbit
        clear hbit
        generalize vs[k] = v at *
        go_wp2_with fail
        refine (isBits_any v _ (by omega)).mono ?_
        rw [HBIT.out]
        rintro e w1 ⟨rfl, b1⟩
        go_wp2_with fail
        go_ret
        exact ⟨by rw [HB.out]; rfl, bstep (bstep hb0 hbr) b1⟩
      | true =>
        have HT := hide (all_take_succ hlt HG.out hbit)
        have HBIT := hide hbit
        clear hbit
        generalize vs[k] = v at *
        go_wp2_with fail
        refine (isBits_any v _ (by omega)).mono ?_
        rw [HBIT.out]
        rintro e w1 ⟨rfl, b1⟩
        go_wp2_with fail
        go_roundw
        case rel => exact ⟨k + 1, by omega, by go_num, HT.out, bstep hbr b1⟩
        case measure => simp [intOf]; omega
    · have hke : k = vs.length := by omega
      subst hke
      rw [List.take_length] at hgood
      have HNB := hide (all_good hgood)
      obtain ⟨k0, _, _⟩ := HK.out wr hbr
      clear hgood
      go_wp2_with fail
      refine (tableOf_any kind _).mono ?_
      rintro e w1 ⟨rfl, b1⟩
      have htv : ∃ x0 x1 x2 x3 x4 x5 x6 x7 x8, tabV (tabOf kind) = #[bv x0, bv x1, bv x2, bv x3, bv x4, bv x5, bv x6, bv x7, bv x8] := by
        have htl := tabOf_len kind
        generalize tabOf kind = t at htl
        match t, htl with
        | [x0, x1, x2, x3, x4, x5, x6, x7, x8], _ => exact ⟨x0, x1, x2, x3, x4, x5, x6, x7, x8, rfl⟩
      obtain ⟨x0, x1, x2, x3, x4, x5, x6, x7, x8, htv⟩ := htv
      have HTV := hide htv
      rw [htv]
      clear htv
      go_upto_region 8 with (fail)
      obtain ⟨W2, hW2⟩ : ∃ W2 : World, w1.alloc (.cells #[.int .u8 x0.toNat, .int .u8 x1.toNat, .int .u8 x2.toNat, .int .u8 x3.toNat, .int .u8 x4.toNat, .int .u8 x5.toNat, .int .u8 x6.toNat, .int .u8 x7.toNat, .int .u8 x8.toNat] 176) = W2 := ⟨_, rfl⟩
      have gT : W2.heap[w1.heap.size]? = some (.cells (tabV (tabOf kind)) 176 (0, 0)) := by rw [← hW2, HTV.out]; exact heap_alloc_new w1 _
      have hb2 : Below W0.heap.size W0 W2 := by rw [← hW2]; exact (bstep hbr b1).alloc (bstep hbr b1).size _
      rw [hW2]
      have hbw := bstep hb0 hb2
      obtain ⟨k2, k4, k5⟩ := HK.out W2 hb2
      have hA2 := HA.out W2 hb2
      have HGT := hide gT
      clear hW2 b1 k0 gT HK HA
      generalize hT : w1.heap.size = BT at *
      clear hT
      by_cases h7 : kind = 7
      · subst h7
        have HR := hide (show applyL 7 na nb' (vL vs) = (vL vs).flatten by unfold applyL; rw [if_neg HNB.out, if_pos rfl])
        by_cases hv0 : vs = []
        · subst hv0
          go_wp2_with fail
          refine (join_none A c _ _).mono ?_
          rintro e w3 ⟨rfl, rfl⟩
          go_wp2_with fail
          go_ret
          exact ⟨by rw [HR.out]; rfl, hbw⟩
        · obtain ⟨bk, o, hAe, hlo, hcell⟩ := hA2 hv0
          subst hAe
          have HC := hide hcell
          have HLEN := hide (show (Lib.join (vs.map (·.data.toList)) []).length ≤ 140737488355328 by
            rw [join_nil]; have := flat_bd vs HV.out; unfold vL at this; omega)
          have hlt2 : bk < W2.heap.size := Nat.lt_of_lt_of_le hlo hbw.size
          clear hcell
          go_wp2_with fail
          refine (join_any bk o c vs ⟨#[]⟩ W2 HC.out hlt2 (by omega) hc HLEN.out).mono ?_
          rintro e w3 ⟨rfl, b3⟩
          go_wp2_with fail
          go_ret
          exact ⟨by rw [HR.out, ← join_nil]; rfl, bstep hbw b3⟩
      have t7 : (kind == 7) = false := beq_eq_false_iff_ne.2 h7
      by_cases h9 : 9 ≤ kind ∧ kind ≤ 13
      · have g9 : decide ((9 : Int) ≤ kind) = true := decide_eq_true h9.1
        have g13 : decide (kind ≤ (13 : Int)) = true := decide_eq_true h9.2
        by_cases hv2 : vs.length = 2
        · obtain ⟨x, y, rfl⟩ : ∃ x y, vs = [x, y] := by
            match vs, hv2 with
            | [x, y], _ => exact ⟨x, y, rfl⟩
          obtain ⟨bk, o, hAe, hlo, hcell⟩ := hA2 (by simp)
          subst hAe
          have c0 : W2.cell? ⟨bk, o, none⟩ = some (.string x) := hcell 0 x rfl
          have c1 : W2.cell? ⟨bk, o + 1, none⟩ = some (.string y) := hcell 1 y rfl
          clear hcell hA2 hv2 hl
          have hx0 : x.size ≤ 130 := HV.out x (by simp)
          have hy0 : y.size ≤ 130 := HV.out y (by simp)
          by_cases hxy : x.size = y.size
          · have HXY := hide hxy
            have txy : ((x.size : Int) != (y.size : Int)) = false := by rw [hxy]; simp
            have HE := hide (show applyL kind na nb' (vL [x, y]) = bothL kind x.data.toList y.data.toList by
              unfold applyL; rw [if_neg HNB.out, if_neg h7, if_pos h9]
              show (if x.data.toList.length = y.data.toList.length then _ else _) = _
              rw [if_pos (by simpa using hxy)])
            clear hxy
            go_upto_region 11 with (fail)
            go_quiet (fail)
            go_wp2_with fail
            refine wp_region_still_tail 9 (by kernel_rfl) (by kernel_rfl) ?_
            simp only [List.take_succ_cons, List.take_zero, List.drop_succ_cons, List.drop_zero]
            obtain ⟨W3, hW3⟩ : ∃ W3 : World, (W2.drewN nq).drew = W3 := ⟨_, rfl⟩
            have cT : W3.heap[BT]? = some (.cells (tabV (tabOf kind)) 176 (0, 0)) := by rw [← hW3]; exact HGT.out
            rw [HTV.out] at cT
            have d0 : W3.cell? ⟨bk, o, none⟩ = some (.string x) := by rw [← hW3]; exact c0
            have d1 : W3.cell? ⟨bk, o + 1, none⟩ = some (.string y) := by rw [← hW3]; exact c1
            have e0 : W3.cell? ⟨BT, 0, none⟩ = some (.int .u8 x0.toNat) := by rw [cell_of_row W3 _ _ _ _ (0, 0) cT]; rfl
            have e1 : W3.cell? ⟨BT, 1, none⟩ = some (.int .u8 x1.toNat) := by rw [cell_of_row W3 _ _ _ _ (0, 0) cT]; rfl
            have e2 : W3.cell? ⟨BT, 2, none⟩ = some (.int .u8 x2.toNat) := by rw [cell_of_row W3 _ _ _ _ (0, 0) cT]; rfl
            have e3 : W3.cell? ⟨BT, 3, none⟩ = some (.int .u8 x3.toNat) := by rw [cell_of_row W3 _ _ _ _ (0, 0) cT]; rfl
            have e4 : W3.cell? ⟨BT, 4, none⟩ = some (.int .u8 x4.toNat) := by rw [cell_of_row W3 _ _ _ _ (0, 0) cT]; rfl
            have e5 : W3.cell? ⟨BT, 5, none⟩ = some (.int .u8 x5.toNat) := by rw [cell_of_row W3 _ _ _ _ (0, 0) cT]; rfl
            have e6 : W3.cell? ⟨BT, 6, none⟩ = some (.int .u8 x6.toNat) := by rw [cell_of_row W3 _ _ _ _ (0, 0) cT]; rfl
            have e7 : W3.cell? ⟨BT, 7, none⟩ = some (.int .u8 x7.toNat) := by rw [cell_of_row W3 _ _ _ _ (0, 0) cT]; rfl
            have e8 : W3.cell? ⟨BT, 8, none⟩ = some (.int .u8 x8.toNat) := by rw [cell_of_row W3 _ _ _ _ (0, 0) cT]; rfl
            have dk : W3.cell? ⟨w.heap.size, 0, none⟩ = some (.int .i64 kind) := by rw [← hW3]; exact k2
            have hb3 : Below w.heap.size w W3 := by rw [← hW3]; exact below_drew (below_drewN hbw nq)
            change wpStill _ _ ((W2.drewN nq).drew) (fun a' => wpList _ _ _ _ a' ((W2.drewN nq).drew)) _ _
            rw [hW3]
            clear hW3
            repeat (refine wpStill_step (fun K hK => ?_); go_simp; refine hK _ ?_; clear hK K)
            refine wpStill_nil ?_
            have hT : (#[bv x0, bv x1, bv x2, bv x3, bv x4, bv x5, bv x6, bv x7, bv x8] : Array Value) = tabV (tabOf kind) := HTV.out.symm
            have HT := hide hT
            clear hT e0 e1 e2 e3 e4 e5 e6 e7 e8 d0 d1 dk cT
            go_wp2_with fail
            rw [HT.out]
            refine (both_any kind x y W3 h9 HXY.out (by omega)).mono ?_
            rintro e w4 ⟨rfl, b4⟩
            go_wp2_with fail
            go_ret
            exact ⟨by rw [HE.out]; rfl, bstep hb3 b4⟩
          · have txy : ((x.size : Int) != (y.size : Int)) = true := by rw [bne_iff_ne]; omega
            have HE := hide (show applyL kind na nb' (vL [x, y]) = [] by
              unfold applyL; rw [if_neg HNB.out, if_neg h7, if_pos h9]
              show (if x.data.toList.length = y.data.toList.length then _ else _) = _
              rw [if_neg (by simpa using hxy)])
            clear hxy
            go_upto_region 11 with (fail)
            go_quiet (fail)
            go_wp2_with fail
            go_ret
            exact ⟨by rw [HE.out]; rfl, below_drewN hbw nq⟩
        · have t2 : ((vs.length : Int) != 2) = true := by rw [bne_iff_ne]; omega
          have HE := hide (show applyL kind na nb' (vL vs) = [] by
            unfold applyL; rw [if_neg HNB.out, if_neg h7, if_pos h9]
            match vs, hv2 with
            | [], _ => rfl
            | [x], _ => rfl
            | [x, y], h => exact absurd rfl h
            | x :: y :: z :: r, _ => rfl)
          go_upto_region 11 with (fail)
          go_quiet (fail)
          go_wp2_with fail
          go_ret
          exact ⟨by rw [HE.out]; rfl, below_drewN hbw nq⟩
      have t9 : decide ((9 : Int) ≤ kind) = false ∨ decide ((9 : Int) ≤ kind) = true ∧ decide (kind ≤ (13 : Int)) = false := by
        by_cases h : (9 : Int) ≤ kind
        · exact .inr ⟨decide_eq_true h, decide_eq_false (by omega)⟩
        · exact .inl (decide_eq_false h)
      by_cases hv1 : vs.length = 1
      · obtain ⟨x, rfl⟩ : ∃ x, vs = [x] := by
          match vs, hv1 with
          | [x], _ => exact ⟨x, rfl⟩
        obtain ⟨bk, o, hAe, hlo, hcell⟩ := hA2 (by simp)
        subst hAe
        have c0 : W2.cell? ⟨bk, o, none⟩ = some (.string x) := hcell 0 x rfl
        clear hcell hA2 hv1 hl
        have hx0 : x.size ≤ 130 := HV.out x (by simp)
        have HA := hide (show applyL kind na nb' (vL [x]) = oneL kind na nb' x.data.toList by
          unfold applyL; rw [if_neg HNB.out, if_neg h7, if_neg h9]; rfl)
        have hxp : 0 < x.size := all_good_pos HNB.out
        by_cases h8 : kind = 8
        · subst h8
          have HE := hide (show applyL 8 na nb' (vL [x]) = x.data.toList.map invC by rw [HA.out]; rfl)
          go_wp2_with fail
          refine (mapped_inv x W2 (by omega)).mono ?_
          rintro e w4 ⟨rfl, b4⟩
          go_wp2_with fail
          go_ret
          exact ⟨by rw [HE.out]; rfl, bstep hbw b4⟩
        have t8 : (kind == 8) = false := beq_eq_false_iff_ne.2 h8
        by_cases h6 : kind = 6
        · subst h6
          have HE := hide (show applyL 6 na nb' (vL [x]) = sliceL x.data.toList na nb' by rw [HA.out]; rfl)
          go_wp2_with fail
          go_quiet ((go_at_call 123; exact Calls.quiet_of_same ((slice_any x na nb' _ (by omega) ha hb).mono fun _ _ ⟨h1, h2⟩ => ⟨h1, h2.symm⟩)))
          go_wp2_with fail
          go_ret
          exact ⟨by rw [HE.out]; rfl, below_drewN hbw nq⟩
        have t6 : (kind == 6) = false := beq_eq_false_iff_ne.2 h6
        by_cases ht : 14 ≤ kind ∧ kind ≤ 16
        · have HTB := hide (show isTab kind = true by unfold isTab; exact decide_eq_true (by omega))
          have hk3 : kind - 5 = 9 ∨ kind - 5 = 10 ∨ kind - 5 = 11 := by omega
          rw [HTB.out]
          have h9' : decide (kind ≤ (13 : Int)) = false := decide_eq_false (by omega)
          have h9'' : decide ((9 : Int) ≤ kind) = true := decide_eq_true (by omega)
          have HRED := hide (show oneL kind na nb' x.data.toList = redL kind x.data.toList by unfold oneL; rw [if_neg h8, if_neg h6, if_pos ht])
          have HK3 := hide hk3
          clear t9 ht hk3
          go_wp2_with fail
          refine (mapped_zx x W2 (by omega)).mono ?_
          rintro e w4 ⟨rfl, b4⟩
          obtain ⟨v, hv⟩ : ∃ v : ByteArray, (⟨(x.data.toList.map zxC).toArray⟩ : ByteArray) = v := ⟨_, rfl⟩
          rw [hv]
          have hvl : v.data.toList = x.data.toList.map zxC := by rw [← hv]
          have hvs : v.size = x.size := by
            have := congrArg List.length hvl
            simpa using this
          clear hv
          have HVL := hide hvl
          clear hvl
          go_wp2_with fail
          obtain ⟨u, hu⟩ : ∃ u : ByteArray, v.extract 1 v.size = u := ⟨_, rfl⟩
          have hul : u.data.toList = v.data.toList.drop 1 := by rw [← hu, Lib.extract_data]; rw [List.take_of_length_le]; simp
          have huz : u.data.toList.length = u.size := by simp
          have huz2 : u.size ≤ 1000 := by
            have := congrArg List.length hul
            simp at this
            omega
          obtain ⟨WB, C, hcv, hzB, hbB, hcB⟩ := conv_bytes w4.drew u
          have hv0 : 0 < v.size := by omega
          have hv1 : (1 : Int) ≤ (v.size : Int) := by omega
          have hbW : Below w.heap.size w WB := bstep (below_drew (bstep hbw b4)) hbB
          have hTB : WB.heap[BT]? = some (.cells (tabV (tabOf kind)) 176 (0, 0)) := by
            have h1 : BT < W2.heap.size := box_lt HGT.out
            exact (hbB.block BT (by have := b4.size; show BT < w4.heap.size; omega)).trans ((b4.block BT h1).trans HGT.out)
          have hk5 : kind = kind - 5 + 5 := by omega
          rw [hk5] at hTB
          have hF := fun (W : World) (h : W.heap[BT]? = _) (hc : ∀ i c, u.data.toList[i]? = some c → W.cell? ⟨w4.heap.size, i, none⟩ = some (bv c)) => foldo_any (kind - 5) HK3.out v[0] u.data.toList w4.heap.size C BT W h hc (by rw [huz]; exact huz2)
          obtain ⟨r, hr⟩ : ∃ r : UInt8, u.data.toList.foldl (opC (kind - 5)) v[0] = r := ⟨_, rfl⟩
          rw [huz, hr] at hF
          have hres : applyL kind na nb' (vL [x]) = [r] := by
            rw [HA.out, HRED.out, ← hr]
            have e1 : v.data.toList = v[0] :: u.data.toList := by
              rw [hul]
              have h1 : 0 < v.data.toList.length := by simpa using hv0
              have := List.drop_eq_getElem_cons h1
              rw [List.drop_zero] at this
              exact this
            have e2 := HVL.out
            rw [e1] at e2
            cases hx : x.data.toList with
            | nil => rw [hx] at e2; simp at e2
            | cons c l =>
              rw [hx] at e2
              simp only [List.map_cons, List.cons.injEq] at e2
              rw [e2.1, e2.2, fold_zx _ HK3.out]
              rfl
          have HRES := hide hres
          have kc : ∀ n, (convert 186 9 (.slice (some ⟨w4.heap.size + 1, 0, none⟩) 1 1)).run Tryz.prog ((WB.drewN n).alloc (.cells #[bv r] 5)) = .ok (.string ⟨#[r]⟩) ((WB.drewN n).alloc (.cells #[bv r] 5)) := fun n => by
            have h := conv_one (WB.drewN n) r
            rw [show (WB.drewN n).heap.size = w4.heap.size + 1 from hzB] at h
            exact h
          clear hr hres
          have HF := hide (hF WB hTB hcB)
          clear hF hk5 hTB hcB hul hvs
          go_upto_region 22 with (fail)
          go_region_with (go_at_call 126; refine HF.out.mono ?_; rintro e w5 ⟨rfl, n5, rfl⟩)
          all_goals
            go_wp2_with fail
            go_ret
            exact ⟨by rw [HRES.out]; rfl, (below_drewN hbW _).alloc hbW.size _⟩
        · have HE := hide (show applyL kind na nb' (vL [x]) = [] by rw [HA.out]; unfold oneL; rw [if_neg h8, if_neg h6, if_neg ht])
          have HTB := hide (show isTab kind = false by unfold isTab; exact decide_eq_false (by omega))
          rw [HTB.out]
          clear ht
          rcases t9 with t9 | ⟨t9, t13⟩
          all_goals
            go_wp2_with fail
            go_ret
            exact ⟨by rw [HE.out]; rfl, hbw⟩
      · have t1 : ((vs.length : Int) != 1) = true := by rw [bne_iff_ne]; omega
        have HE := hide (show applyL kind na nb' (vL vs) = [] by
          unfold applyL; rw [if_neg HNB.out, if_neg h7, if_neg h9]
          match vs, hv1 with
          | [], _ => rfl
          | [x], h => exact absurd rfl h
          | x :: y :: r, _ => rfl)
        rcases t9 with t9 | ⟨t9, t13⟩
        all_goals
          go_wp2_with fail
          go_ret
          exact ⟨by rw [HE.out]; rfl, hbw⟩

end Go.Proofs.YtaaplalfggofiaaGreatDoor

/-
  condition.equality and Compare, where both strings are bits of one length and the operator is an equality.
-/
namespace Go.Proofs.YtaaplalfggofiaaGreatDoor
open Go.RowKit

/-- two places that are known and differ -/
def diffC (x y : UInt8) : Bool := knC x && knC y && (x != y)
def diffL (a b : List UInt8) : Bool := (List.zipWith diffC a b).any id
def eqP (a b : List UInt8) : Bool × Bool := if diffL a b then (false, true) else (knownB a && knownB b, knownB a && knownB b)

end Go.Proofs.YtaaplalfggofiaaGreatDoor

/-
  Plain mathematics of lists of intervals: the set of a list, normal lists, their uniqueness and length, the merging of a sorted list. No program in sight.
-/
namespace Go.Proofs.YtaaplalfggofiaaGreatDoor

abbrev Iv := Int × Int

end Go.Proofs.YtaaplalfggofiaaGreatDoor
