/-
  Several texts in one: Ref51d, RAt, COf, CTruthP. Each says at its head what it holds.
-/
import Derived.Test.YtdlebcijgdkfjaaGreatDoorCV21
import Derived.Test.YtdlebcijgdkfjaaGreatDoorCV5
import Derived.Test.YtdlebcijgdkfjaaGreatDoorCV16
import Derived.Test.YtdlebcijgdkfjaaGreatDoorCV13
import Derived.Test.YtdlebcijgdkfjaaGreatDoorCV17
import Derived.Deep.RegionLaw
import Derived.Test.YtdlebcijgdkfjaaGreatDoorCV14
import Derived.Test.YtdlebcijgdkfjaaGreatDoorCV7
import Derived.Test.YtdlebcijgdkfjaaGreatDoorCV8
import Derived.Test.YtdlebcijgdkfjaaGreatDoorCV12
import Derived.Test.YtdlebcijgdkfjaaGreatDoorCV10
import Derived.Test.YtdlebcijgdkfjaaGreatDoorCV11

/-
  wavestoreref51.inverted, Apply.
-/
namespace Go.Proofs.YtdlebcijgdkfjaaGreatDoor
open Go.RowKit

set_option maxRecDepth 100000 in
theorem rinverted_any (c : UInt8) (w : World) : Calls Tryz.prog 159 #[.int .u8 (c.toNat : Int)] w fun e w' => e = .returned (.int .u8 ((invC c).toNat : Int)) ∧ w = w' := by
  have hk := inv_code c
  rcases code_cases c with ⟨rfl, h1, h2⟩ | ⟨rfl, h1, h2⟩ | ⟨p0, p1, p0', p1', h1, h2⟩
  all_goals
    rw [h1] at hk
    have HK := hide hk
    clear hk h1 h2
    go_enter Tryz.func159, Tryz.ntmps159
    go_wp2_with fail
    go_ret
    exact ⟨by rw [HK.out]; rfl, rfl⟩

def RaRel (vs : List ByteArray) (i : Value) : Prop := ∃ k : Nat, k ≤ vs.length ∧ i = .int .i64 k ∧ (∀ v ∈ vs.take k, bitsB v.data.toList = true)
def RcRel (vs : List ByteArray) (out i : Value) : Prop := ∃ k : Nat, k ≤ vs.length ∧ i = .int .i64 k ∧ out = .string (strB (vL (vs.take k)).flatten)
/-- a row of bytes that grows: place by place -/
def RbRel (g : Nat → UInt8) (n base : Nat) (W : World) (out i : Value) (wr : World) : Prop :=
  ∃ (k : Nat) (A : Option Addr) (c : Nat), k ≤ n ∧ i = .int .i64 k ∧ out = .slice A k c ∧ OwnBy wr base A c (upto g k) ∧ Below W.heap.size W wr
def RfRel (k : Int) (x : UInt8) (l : List UInt8) (W : World) (out i : Value) (wr : World) : Prop :=
  ∃ n : Nat, 1 ≤ n ∧ n ≤ l.length ∧ i = .int .i64 n ∧ out = bv (((l.drop 1).take (n - 1)).foldl (opC k) x) ∧ Below W.heap.size W wr

theorem rsum_both (k : Int) (hk : k = 12 ∨ k = 13) (a b : ByteArray) (w : World) (hl : a.size ≤ 1000) (hab : a.size = b.size) :
    Calls Tryz.prog 157 #[.string a, .string b, .bool (k == 13)] w fun e w' => e = .returned (.string (strB (bothL k a.data.toList b.data.toList))) ∧ Below w.heap.size w w' := by
  have hla : a.data.toList.length = a.size := by simp
  unfold bothL
  rw [if_pos hk, hla]
  cases hh : knownB a.data.toList && knownB b.data.toList with
  | false => exact (rsum_unk a b _ w hl (by omega) hh).mono fun e w' ⟨h1, h2⟩ => ⟨h1, h2 ▸ Below.refl _ _⟩
  | true =>
    rw [Bool.and_eq_true] at hh
    exact rsum_kn a b _ w hl hab hh.1 hh.2

theorem own_empty (W : World) {base : Nat} (hb : base ≤ W.heap.size) : OwnBy (W.alloc (.cells #[] 5)) base (some ⟨W.heap.size, 0, none⟩) 0 [] := World.ownsRow_lit W #[] 0 hb (by simp [maxLen]) rfl

theorem fold_step (k : Int) (z : UInt8) (x : ByteArray) (n : Nat) (h1 : 1 ≤ n) (h : n < x.size) : ((x.data.toList.drop 1).take (n + 1 - 1)).foldl (opC k) z = opC k (((x.data.toList.drop 1).take (n - 1)).foldl (opC k) z) x[n] := by
  have e : n + 1 - 1 = (n - 1) + 1 := by omega
  have hl : n - 1 < (x.data.toList.drop 1).length := by simp; omega
  rw [e, List.take_succ_eq_append_getElem hl, List.foldl_append]
  simp only [List.foldl_cons, List.foldl_nil]
  congr 1
  rw [List.getElem_drop]
  have : 1 + (n - 1) = n := by omega
  simp only [this]
  rfl
theorem bits_zx {c : UInt8} (h : bitC c = true) : (c = 122 ∧ zxC c = 120) ∨ (((c.toNat : Int) == 122) = false ∧ zxC c = c) := by
  unfold bitC at h
  simp only [Bool.or_eq_true, beq_iff_eq] at h
  rcases h with ((rfl | rfl) | rfl) | rfl
  · exact .inr ⟨rfl, rfl⟩
  · exact .inr ⟨rfl, rfl⟩
  · exact .inr ⟨rfl, rfl⟩
  · exact .inl ⟨rfl, rfl⟩

set_option maxRecDepth 100000 in
set_option maxHeartbeats 4000000 in
theorem rapply_any (n : Nf) (A : Option Addr) (c : Nat) (vs : List ByteArray) (w : World) (hA : StrsAt w (Lo w.heap.size) A vs) (hl : vs.length ≤ 1000) (hc : vs.length ≤ c) (hv : ∀ v ∈ vs, v.size ≤ 130) (ha : I64 n.a) (hb : I64 n.b) (hk : I64 n.kind) :
    Calls Tryz.prog 104 #[.agg (encNf n).toArray, .slice A vs.length c] w fun e w' => e = .returned (.string ⟨(applyL n.kind n.a n.b (vL vs)).toArray⟩) ∧ Below w.heap.size w w' := by
  obtain ⟨kind, at_, name, value, na, nb', nc, nd, kids⟩ := n
  dsimp only [encNf] at *
  have HV := hide hv
  clear hv
  go_enter Tryz.func104, Tryz.ntmps104
  go_wp2_with fail
  obtain ⟨W0, hW0⟩ : ∃ W0 : World, w.alloc (.cells #[.int .i64 kind, .int .i64 at_, .string name, .string value, .int .i64 na, .int .i64 nb', .int .i64 nc, .int .i64 nd, kids] 32) = W0 := ⟨_, rfl⟩
  have gN : W0.heap[w.heap.size]? = some (.cells #[.int .i64 kind, .int .i64 at_, .string name, .string value, .int .i64 na, .int .i64 nb', .int .i64 nc, .int .i64 nd, kids] 32 (0, 0)) := by rw [← hW0]; exact heap_alloc_new w _
  have hb0 : Below w.heap.size w W0 := by rw [← hW0]; exact (Below.refl _ _).alloc (Nat.le_refl _) _
  rw [hW0]
  clear hW0
  have hA0 : StrsAt W0 (Lo w.heap.size) A vs := hA.stay (stay_below hb0 fun _ h => h)
  have k0 : W0.cell? ⟨w.heap.size, 0, none⟩ = some (.int .i64 kind) := by rw [cell_of_row W0 _ _ _ _ (0, 0) gN]; rfl
  have k4 : W0.cell? ⟨w.heap.size, 4, none⟩ = some (.int .i64 na) := by rw [cell_of_row W0 _ _ _ _ (0, 0) gN]; rfl
  have k5 : W0.cell? ⟨w.heap.size, 5, none⟩ = some (.int .i64 nb') := by rw [cell_of_row W0 _ _ _ _ (0, 0) gN]; rfl
  clear hA gN
  go_loop [5] (fun i => RaRel vs i) (fun i => vs.length - (intOf i).toNat)
  case atStart => exact ⟨0, Nat.zero_le _, rfl, by simp⟩
  case round =>
    obtain ⟨k, hk, rfl, hgood⟩ := hrel
    by_cases hlt : k < vs.length
    · obtain ⟨b1, o1, hAe, _, q1⟩ := hA0.at_ hlt
      subst hAe
      have hsz := HV.out _ (List.getElem_mem hlt)
      have HG := hide hgood
      clear hgood
      cases hbit : bitsB vs[k].data.toList with
      | false =>
        have HB := hide (any_bad (List.getElem_mem hlt) hbit kind na nb')
        have HBIT := hide hbit
        clear hbit
        generalize vs[k] = v at *
        go_wp2_with fail
        refine (risBits_any v _ (by omega)).mono ?_
        rw [HBIT.out]
        rintro e w1 ⟨rfl, rfl⟩
        go_wp2_with fail
        go_ret
        exact ⟨by rw [HB.out]; rfl, hb0⟩
      | true =>
        have HT := hide (all_take_succ hlt HG.out hbit)
        have HBIT := hide hbit
        clear hbit
        generalize vs[k] = v at *
        go_wp2_with fail
        refine (risBits_any v _ (by omega)).mono ?_
        rw [HBIT.out]
        rintro e w1 ⟨rfl, rfl⟩
        go_wp2_with fail
        go_round
        case rel => exact ⟨k + 1, by omega, by go_num, HT.out⟩
        case measure => simp [intOf]; omega
    · have hke : k = vs.length := by omega
      subst hke
      rw [List.take_length] at hgood
      have HNB := hide (all_good hgood)
      clear hgood
      by_cases h9 : 9 ≤ kind ∧ kind ≤ 13
      · have g9 : decide ((9 : Int) ≤ kind) = true := decide_eq_true h9.1
        have g13 : decide (kind ≤ (13 : Int)) = true := decide_eq_true h9.2
        have h7 : ¬ kind = 7 := by omega
        by_cases hv2 : vs.length = 2
        · obtain ⟨x, y, rfl⟩ : ∃ x y, vs = [x, y] := by
            match vs, hv2 with
            | [x, y], _ => exact ⟨x, y, rfl⟩
          obtain ⟨bk, o, hAe, hlo, hcell⟩ := hA0 (by simp)
          subst hAe
          have c0 : W0.cell? ⟨bk, o, none⟩ = some (.string x) := hcell 0 x rfl
          have c1 : W0.cell? ⟨bk, o + 1, none⟩ = some (.string y) := hcell 1 y rfl
          clear hcell hA0 hv2 hl
          have hx0 : x.size ≤ 130 := HV.out x (by simp)
          have hy0 : y.size ≤ 130 := HV.out y (by simp)
          by_cases hxy : x.size = y.size
          · have HXY := hide hxy
            have txy : ((x.size : Int) != (y.size : Int)) = false := by rw [hxy]; simp
            have HE := hide (show applyL kind na nb' (vL [x, y]) = bothL kind x.data.toList y.data.toList by
              unfold applyL; rw [if_neg HNB.out, if_neg h7, if_pos h9]
              show (if x.data.toList.length = y.data.toList.length then _ else _) = _
              rw [if_pos (by simpa using hxy)])
            clear hxy h7
            by_cases h12 : 12 ≤ kind
            · have hk2 : kind = 12 ∨ kind = 13 := by omega
              have HS := hide (fun (W : World) => rsum_both kind hk2 x y W (by omega) HXY.out)
              have t12 : decide ((12 : Int) ≤ kind) = true := decide_eq_true h12
              clear hk2
              go_upto_region 8 with (fail)
              go_quiet (fail)
              go_wp2_with fail
              refine wp_region_still_tail 8 (by kernel_rfl) (by kernel_rfl) ?_
              simp only [List.take_succ_cons, List.take_zero, List.drop_succ_cons, List.drop_zero]
              obtain ⟨W3, hW3⟩ : ∃ W3 : World, (W0.drewN nq).drew = W3 := ⟨_, rfl⟩
              have d0 : W3.cell? ⟨bk, o, none⟩ = some (.string x) := by rw [← hW3]; exact c0
              have d1 : W3.cell? ⟨bk, o + 1, none⟩ = some (.string y) := by rw [← hW3]; exact c1
              have hb3 : Below w.heap.size w W3 := by rw [← hW3]; exact below_drew (below_drewN hb0 nq)
              change wpStill _ _ ((W0.drewN nq).drew) (fun a' => wpList _ _ _ _ a' ((W0.drewN nq).drew)) _ _
              rw [hW3]
              clear hW3
              repeat (refine wpStill_step (fun K hK => ?_); go_simp; refine hK _ ?_; clear hK K)
              refine wpStill_nil ?_
              go_wp2_with fail
              refine (HS.out W3).mono ?_
              rintro e w4 ⟨rfl, b4⟩
              go_wp2_with fail
              go_ret
              exact ⟨by rw [HE.out]; rfl, bstep hb3 b4⟩
            · have hk3 : kind = 9 ∨ kind = 10 ∨ kind = 11 := by omega
              have HK3 := hide hk3
              have HBL := hide (show bothL kind x.data.toList y.data.toList = upto (fun n => opC kind (x.data.toList.getD n 0) (y.data.toList.getD n 0)) x.size by
                have hxl : x.data.toList.length = x.size := by simp
                rw [← hxl, upto_zip _ _ _ (by simpa using HXY.out)]
                unfold bothL; rw [if_neg (by omega)])
              have t12 : decide ((12 : Int) ≤ kind) = false := decide_eq_false h12
              obtain ⟨i0, hi0, hz0, hz1, hz2⟩ := info_parts infoBy
              clear hk3 h12
              generalize hg : (fun n => opC kind (x.data.toList.getD n 0) (y.data.toList.getD n 0)) = g at *
              have HG := hide (show ∀ n (h1 : n < x.size) (h2 : n < y.size), g n = opC kind x[n] y[n] from fun n h1 h2 => by
                rw [← hg]
                show opC kind (x.data.toList.getD n 0) (y.data.toList.getD n 0) = _
                rw [List.getD, List.getD, List.getElem?_eq_getElem (by simpa using h1), List.getElem?_eq_getElem (by simpa using h2)]
                rfl)
              clear hg
              go_upto_region 8 with (fail)
              go_quiet (fail)
              go_wp2_with fail
              have HO := hide (own_empty (W0.drewN nq) (base := W0.heap.size) (Nat.le_refl _))
              have HB1 := hide (show Below W0.heap.size W0 ((W0.drewN nq).alloc (.cells #[] 5)) from (below_drewN (Below.refl _ _) nq).alloc (Nat.le_refl _) _)
              go_loopw [7, 8] (fun out i wr => RbRel g x.size W0.heap.size W0 out i wr) (fun _ i _ => x.size - (intOf i).toNat)
              case atStart => exact ⟨0, some ⟨W0.heap.size, 0, none⟩, 0, Nat.zero_le _, rfl, rfl, HO.out, HB1.out⟩
              case round =>
                obtain ⟨k, A1, cp1, hk, rfl, rfl, ho1, hbr⟩ := hrel
                have q0 : wr.cell? ⟨bk, o, none⟩ = some (.string x) := (hbr.cell (p := ⟨bk, o, none⟩) (Nat.lt_of_lt_of_le hlo hb0.size)).trans c0
                have q1 : wr.cell? ⟨bk, o + 1, none⟩ = some (.string y) := (hbr.cell (p := ⟨bk, o + 1, none⟩) (Nat.lt_of_lt_of_le hlo hb0.size)).trans c1
                by_cases hlt : k < x.size
                · have hlt2 : k < y.size := by have := HXY.out; omega
                  have hi1 : (k : Int) < (x.size : Int) := by omega
                  have hi2 : (k : Int) < (y.size : Int) := by omega
                  have hi3 : (0 : Int) ≤ (k : Int) := by omega
                  have HGK := hide (HG.out k hlt hlt2)
                  have HBIT := hide (fun (W : World) => bit_any kind HK3.out x[k] y[k] W)
                  rw [← HGK.out] at HBIT
                  have HUS := hide (upto_succ g k)
                  have hul : (upto g k).length = k := upto_len g k
                  have HUL := hide hul
                  clear hul
                  have hbk := hbr.size
                  have HQ := hide (show Below W0.heap.size W0 wr.drew from below_drew hbr)
                  have HOW := hide (show OwnBy wr.drew W0.heap.size A1 cp1 (upto g k) from ho1)
                  clear ho1 HGK
                  generalize g k = yb at *
                  go_wp2_with fail
                  go_region_law
                    (first
                      | (refine step_append_src rfl (.tmp 70) (.tmp 83) 108 rfl W0.heap.size 5 i0 _ 1 1 Tryz.underlying108 hi0 hz0 hz1 hz2 rfl (by decide) (.slice A1 k cp1) k ((upto g k).map bv) rfl HO1.out (some ⟨w4.heap.size, 0, none⟩) 1 1 [bv yb] rfl rfl (src_block (t := 5) (fr := (0, 0)) HBX.out) (bv_one [yb]) (by simp only [maxLen]; omega) (by omega) (by simp; omega) ?_
                         intro v' w5 hown5 hg5)
                      | (go_simp
                         go_at_call 158
                         refine (HBIT.out wr.drew).mono ?_
                         rintro e w4 ⟨rfl, b4⟩
                         have ho4 : OwnBy w4 W0.heap.size A1 cp1 (upto g k) := own_block HOW.out fun n hn => b4.block n (own_ob HOW.out n hn).2
                         have HO1 := hide (World.ownsRow.alloc ho4 (.cells #[bv yb] 5))
                         have HBX := hide (heap_alloc_new w4 (.cells #[bv yb] 5))
                         have hb4 := bstep HQ.out b4
                         have hsz4 : W0.heap.size ≤ w4.heap.size := hb4.size
                         rw [HUL.out] at HO1
                         clear ho4 b4)
                      | fail)
                  all_goals
                    obtain ⟨A3, c3, rfl, ho5⟩ := ownBy_row (l := upto g k ++ [yb]) (by rw [List.map_append, List.length_append, HUL.out]; exact hown5)
                    have hbel : Below W0.heap.size W0 w5 := (hb4.alloc hb4.size _).grown hg5 (by simp; omega) (fun n hn => (own_ob HO1.out n (by rw [ob_eq] at hn; exact hn)).1)
                    have HO5 := hide ho5
                    have HL2 := hide (show (upto g k ++ [yb]).length = k + 1 by rw [List.length_append, HUL.out]; rfl)
                    rw [HL2.out]
                    clear ho5 hown5 hg5
                    go_wp2_with fail
                    go_roundw
                    case rel => exact ⟨k + 1, A3, c3, by omega, by go_num, rfl, by rw [HUS.out]; exact HO5.out, hbel⟩
                    case measure => simp [intOf]; omega
                · have hke : k = x.size := by omega
                  subst hke
                  have hcv := conv_own ho1
                  rw [upto_len] at hcv
                  go_wp2_with fail
                  go_ret
                  exact ⟨by rw [HE.out, HBL.out]; rfl, bstep hb0 hbr⟩
          · have txy : ((x.size : Int) != (y.size : Int)) = true := by rw [bne_iff_ne]; omega
            have HE := hide (show applyL kind na nb' (vL [x, y]) = [] by
              unfold applyL; rw [if_neg HNB.out, if_neg h7, if_pos h9]
              show (if x.data.toList.length = y.data.toList.length then _ else _) = _
              rw [if_neg (by simpa using hxy)])
            clear hxy
            go_upto_region 8 with (fail)
            go_quiet (fail)
            go_wp2_with fail
            go_ret
            exact ⟨by rw [HE.out]; rfl, below_drewN hb0 nq⟩
        · have t2 : ((vs.length : Int) != 2) = true := by rw [bne_iff_ne]; omega
          have HE := hide (show applyL kind na nb' (vL vs) = [] by
            unfold applyL; rw [if_neg HNB.out, if_neg h7, if_pos h9]
            match vs, hv2 with
            | [], _ => rfl
            | [x], _ => rfl
            | [x, y], h => exact absurd rfl h
            | x :: y :: z :: r, _ => rfl)
          go_upto_region 8 with (fail)
          go_quiet (fail)
          go_wp2_with fail
          go_ret
          exact ⟨by rw [HE.out]; rfl, below_drewN hb0 nq⟩
      have t9 : decide ((9 : Int) ≤ kind) = false ∨ decide ((9 : Int) ≤ kind) = true ∧ decide (kind ≤ (13 : Int)) = false := by
        by_cases h : (9 : Int) ≤ kind
        · exact .inr ⟨decide_eq_true h, decide_eq_false (by omega)⟩
        · exact .inl (decide_eq_false h)
      by_cases h7 : kind = 7
      · subst h7
        have HR := hide (show applyL 7 na nb' (vL vs) = (vL vs).flatten by unfold applyL; rw [if_neg HNB.out, if_pos rfl])
        clear t9
        go_wp2_with fail
        go_loop [9, 10] (fun out i => RcRel vs out i) (fun _ i => vs.length - (intOf i).toNat)
        case atStart => exact ⟨0, Nat.zero_le _, rfl, rfl⟩
        case round =>
          obtain ⟨k, hk, rfl, rfl⟩ := hrel
          by_cases hlt : k < vs.length
          · obtain ⟨b1, o1, hAe, _, q1⟩ := hA0.at_ hlt
            subst hAe
            have hsz := HV.out _ (List.getElem_mem hlt)
            have HS := hide (show strB (vL (vs.take k)).flatten ++ vs[k] = strB (vL (vs.take (k + 1))).flatten by
              have e : vL (vs.take (k + 1)) = vL (vs.take k) ++ [vs[k].data.toList] := by
                unfold vL; rw [List.take_succ_eq_append_getElem hlt, List.map_append]; rfl
              rw [e, List.flatten_append]
              have : vs[k] = strB vs[k].data.toList := rfl
              rw [this, strB_cat]
              simp [strB_list])
            have hz : (strB (vL (vs.take k)).flatten).size ≤ 130000 := by
              rw [strB_size]
              have := flat_bd (vs.take k) fun v hv => HV.out v (List.mem_of_mem_take hv)
              rw [List.length_take] at this
              omega
            generalize vs[k] = v at *
            have hz2 : (strB (vL (vs.take k)).flatten).size + v.size ≤ 9223372036854775807 := by omega
            go_wp2_with fail
            go_round
            case rel => exact ⟨k + 1, by omega, by go_num, by rw [HS.out]⟩
            case measure => simp [intOf]; omega
          · have hke : k = vs.length := by omega
            subst hke
            rw [List.take_length]
            go_wp2_with fail
            go_ret
            exact ⟨by rw [HR.out]; rfl, hb0⟩
      have t7 : (kind == 7) = false := beq_eq_false_iff_ne.2 h7
      by_cases hv1 : vs.length = 1
      · obtain ⟨x, rfl⟩ : ∃ x, vs = [x] := by
          match vs, hv1 with
          | [x], _ => exact ⟨x, rfl⟩
        obtain ⟨bk, o, hAe, hlo, hcell⟩ := hA0 (by simp)
        subst hAe
        have c0 : W0.cell? ⟨bk, o, none⟩ = some (.string x) := hcell 0 x rfl
        clear hcell hA0 hv1 hl
        have hx0 : x.size ≤ 130 := HV.out x (by simp)
        have HA := hide (show applyL kind na nb' (vL [x]) = oneL kind na nb' x.data.toList by
          unfold applyL; rw [if_neg HNB.out, if_neg h7, if_neg h9]; rfl)
        have hxp : 0 < x.size := all_good_pos HNB.out
        by_cases h6 : kind = 6
        · subst h6
          have HS := hide (show applyL 6 na nb' (vL [x]) = sliceL x.data.toList na nb' by rw [HA.out]; rfl)
          have hxl : x.data.toList.length = x.size := by simp
          clear t9 h9 h7
          by_cases h : nb' < 0 ∨ nb' > na ∨ na ≥ x.size
          · have HE := hide (show applyL 6 na nb' (vL [x]) = [] by rw [HS.out]; unfold sliceL; rw [if_pos]; rw [hxl]; exact h)
            clear hxl
            by_cases g1 : nb' < 0
            · go_wp2_with fail
              go_ret
              exact ⟨by rw [HE.out]; rfl, hb0⟩
            · by_cases g2 : na < nb'
              · go_wp2_with fail
                go_ret
                exact ⟨by rw [HE.out]; rfl, hb0⟩
              · have g3 : (x.size : Int) ≤ na := by omega
                clear h
                go_wp2_with fail
                go_ret
                exact ⟨by rw [HE.out]; rfl, hb0⟩
          · obtain ⟨m, rfl⟩ : ∃ m : Nat, na = m := ⟨na.toNat, by omega⟩
            obtain ⟨n, rfl⟩ : ∃ n : Nat, nb' = n := ⟨nb'.toNat, by omega⟩
            have e1 : n ≤ m := by omega
            have e2 : m < x.size := by omega
            have e3 : (m : Int) < (x.size : Int) := by omega
            have e4 : (n : Int) ≤ (m : Int) := by omega
            have e5 : (0 : Int) ≤ (n : Int) := by omega
            have hx : x.extract (x.size - 1 - m) (x.size - n) = ⟨(sliceL x.data.toList m n).toArray⟩ := by
              apply ByteArray.ext
              apply Array.toList_inj.1
              rw [Lib.extract_data]
              unfold sliceL
              rw [if_neg (by rw [hxl]; omega), hxl]
              show _ = List.take ((m : Int).toNat - (n : Int).toNat + 1) (List.drop (x.size - 1 - (m : Int).toNat) x.data.toList)
              rw [Int.toNat_natCast, Int.toNat_natCast]
              congr 1
              omega
            have HX := hide hx
            clear hx hxl h
            go_wp2_with fail
            go_ret
            exact ⟨by rw [HS.out, ← HX.out]; rfl, hb0⟩
        have t6 : (kind == 6) = false := beq_eq_false_iff_ne.2 h6
        by_cases h8 : kind = 8
        · subst h8
          have HE := hide (show applyL 8 na nb' (vL [x]) = upto (fun n => invC (x.data.toList.getD n 0)) x.size by
            have hxl : x.data.toList.length = x.size := by simp
            rw [HA.out, ← hxl, upto_map]; rfl)
          obtain ⟨i0, hi0, hz0, hz1, hz2⟩ := info_parts infoBy
          generalize hg : (fun n => invC (x.data.toList.getD n 0)) = g at *
          have HG := hide (show ∀ n (h1 : n < x.size), g n = invC x[n] from fun n h1 => by
            rw [← hg]
            show invC (x.data.toList.getD n 0) = _
            rw [List.getD, List.getElem?_eq_getElem (by simpa using h1)]
            rfl)
          clear hg t9 h9 h7
          go_wp2_with fail
          have HO := hide (own_empty W0 (base := W0.heap.size) (Nat.le_refl _))
          have HB1 := hide (show Below W0.heap.size W0 (W0.alloc (.cells #[] 5)) from (Below.refl _ _).alloc (Nat.le_refl _) _)
          go_loopw [12, 13] (fun out i wr => RbRel g x.size W0.heap.size W0 out i wr) (fun _ i _ => x.size - (intOf i).toNat)
          case atStart => exact ⟨0, some ⟨W0.heap.size, 0, none⟩, 0, Nat.zero_le _, rfl, rfl, HO.out, HB1.out⟩
          case round =>
            obtain ⟨k, A1, cp1, hk, rfl, rfl, ho1, hbr⟩ := hrel
            by_cases hlt : k < x.size
            · have hi1 : (k : Int) < (x.size : Int) := by omega
              have hi3 : (0 : Int) ≤ (k : Int) := by omega
              have HGK := hide (HG.out k hlt)
              have HINV := hide (fun (W : World) => rinverted_any x[k] W)
              rw [← HGK.out] at HINV
              have HUS := hide (upto_succ g k)
              have hul : (upto g k).length = k := upto_len g k
              have HUL := hide hul
              clear hul
              have hbk := hbr.size
              have HO1 := hide (World.ownsRow.alloc ho1 (.cells #[bv (g k)] 5))
              have HBX := hide (heap_alloc_new wr (.cells #[bv (g k)] 5))
              rw [HUL.out] at HO1
              clear ho1 HGK
              generalize g k = yb at *
              go_wp2_with fail
              refine (HINV.out wr).mono ?_
              rintro e w4 ⟨rfl, rfl⟩
              go_wp2_with (at_builtin; (refine append_src rfl _ _ 108 rfl W0.heap.size 5 i0 _ 1 1 Tryz.underlying108 hi0 hz0 hz1 hz2 rfl (by decide) (.slice A1 k cp1) k ((upto g k).map bv) rfl HO1.out (some ⟨wr.heap.size, 0, none⟩) 1 1 [bv yb] rfl rfl (src_block (t := 5) (fr := (0, 0)) HBX.out) (bv_one [yb]) (by simp only [maxLen]; omega) (by omega) (by simp; omega) ?_); intro v' w5 hown5 hg5)
              obtain ⟨A3, c3, rfl, ho5⟩ := ownBy_row (l := upto g k ++ [yb]) (by rw [List.map_append, List.length_append, HUL.out]; exact hown5)
              have hbel : Below W0.heap.size W0 w5 := (hbr.alloc hbr.size _).grown hg5 (by simp; omega) (fun n hn => (own_ob HO1.out n (by rw [ob_eq] at hn; exact hn)).1)
              have HO5 := hide ho5
              have HL2 := hide (show (upto g k ++ [yb]).length = k + 1 by rw [List.length_append, HUL.out]; rfl)
              rw [HL2.out]
              clear ho5 hown5 hg5
              go_wp2_with fail
              go_roundw
              case rel => exact ⟨k + 1, A3, c3, by omega, by go_num, rfl, by rw [HUS.out]; exact HO5.out, hbel⟩
              case measure => simp [intOf]; omega
            · have hke : k = x.size := by omega
              subst hke
              have hcv := conv_own ho1
              rw [upto_len] at hcv
              go_wp2_with fail
              go_ret
              exact ⟨by rw [HE.out]; rfl, bstep hb0 hbr⟩
        have t8 : (kind == 8) = false := beq_eq_false_iff_ne.2 h8
        by_cases ht : 14 ≤ kind ∧ kind ≤ 16
        · have hlx : 0 < x.data.toList.length := by simpa using hxp
          have hx1 : x.data.toList = x[0] :: x.data.toList.drop 1 := by
            have := List.drop_eq_getElem_cons hlx
            rw [List.drop_zero] at this
            exact this
          have hb0' : bitC x[0] = true := by
            have h := HNB.out
            rw [Bool.not_eq_true, List.any_eq_false] at h
            have := h x.data.toList (by simp [vL])
            simp only [bitsB, Bool.not_eq_true', Bool.and_eq_true, Bool.not_eq_false] at this
            exact List.all_eq_true.1 this.2 _ (by rw [hx1]; exact List.mem_cons_self ..)
          have HZ := hide (bits_zx hb0')
          have HE := hide (show applyL kind na nb' (vL [x]) = [(x.data.toList.drop 1).foldl (opC (kind - 5)) (zxC x[0])] by
            rw [HA.out]; unfold oneL; rw [if_neg h8, if_neg h6, if_pos ht]
            unfold redL
            rw [hx1]
            rfl)
          have hxl : x.data.toList.length = x.size := by simp
          have HXL := hide hxl
          have h9' : decide (kind ≤ (13 : Int)) = false := decide_eq_false (by omega)
          have h9'' : decide ((9 : Int) ≤ kind) = true := decide_eq_true (by omega)
          have t14 : decide ((14 : Int) ≤ kind) = true := decide_eq_true ht.1
          have t16 : decide (kind ≤ (16 : Int)) = true := decide_eq_true ht.2
          have hk5 : kind - 14 + 9 = 9 ∨ kind - 14 + 9 = 10 ∨ kind - 14 + 9 = 11 := by omega
          have hk55 : kind - 5 = kind - 14 + 9 := by omega
          rw [hk55] at HE
          have HK5 := hide hk5
          have hw1 : IntKind.i64.wrap (kind - 14) = kind - 14 := IntWalk.i64_in _ (by omega)
          have hw2 : IntKind.i64.wrap (kind - 14 + 9) = kind - 14 + 9 := IntWalk.i64_in _ (by omega)
          have kc := conv_one
          clear t9 hx1 hk5 hk55 hxl
          rcases HZ.out with ⟨hz, hz'⟩ | ⟨hz, hz'⟩
          all_goals
            have HZ1 := hide hz'
            rw [HZ1.out] at HE
            clear hz'
          · have hz2 : (x[0].toNat : Int) = 122 := by rw [hz]; rfl
            clear hz
            go_wp2_with fail
            go_loopw [14, 15] (fun c i wr => RfRel (kind - 14 + 9) 120 x.data.toList W0 c i wr) (fun _ i _ => x.size - (intOf i).toNat)
            case atStart => exact ⟨1, Nat.le_refl _, by rw [HXL.out]; exact hxp, rfl, rfl, Below.refl _ _⟩
            case round =>
              obtain ⟨n, hn1, hn2, rfl, rfl, hbr⟩ := hrel
              rw [HXL.out] at hn2
              by_cases hlt : n < x.size
              · have hi1 : (n : Int) < (x.size : Int) := by omega
                have hi3 : (0 : Int) ≤ (n : Int) := by omega
                have HST := hide (fold_step (kind - 14 + 9) 120 x n hn1 hlt)
                have HBT := hide (fun (y : UInt8) (W : World) => bit_any (kind - 14 + 9) HK5.out y x[n] W)
                generalize ((x.data.toList.drop 1).take (n - 1)).foldl (opC (kind - 14 + 9)) 120 = y at *
                go_wp2_with fail
                refine (HBT.out y wr).mono ?_
                rintro e w4 ⟨rfl, b4⟩
                go_wp2_with fail
                go_roundw
                case rel => exact ⟨n + 1, by omega, by rw [HXL.out]; omega, by go_num, by rw [HST.out], bstep hbr b4⟩
                case measure => simp [intOf]; omega
              · have hke : n = x.size := by omega
                subst hke
                have HT := hide (show ((x.data.toList.drop 1).take (x.size - 1)) = x.data.toList.drop 1 from List.take_of_length_le (by rw [List.length_drop, HXL.out]; omega))
                rw [HT.out]
                generalize (x.data.toList.drop 1).foldl (opC (kind - 14 + 9)) 120 = y at *
                go_wp2_with fail
                go_ret
                exact ⟨by rw [HE.out]; rfl, (bstep hb0 hbr).alloc (bstep hb0 hbr).size _⟩
          · go_wp2_with fail
            go_loopw [14, 15] (fun c i wr => RfRel (kind - 14 + 9) x[0] x.data.toList W0 c i wr) (fun _ i _ => x.size - (intOf i).toNat)
            case atStart => exact ⟨1, Nat.le_refl _, by rw [HXL.out]; exact hxp, rfl, rfl, Below.refl _ _⟩
            case round =>
              obtain ⟨n, hn1, hn2, rfl, rfl, hbr⟩ := hrel
              rw [HXL.out] at hn2
              by_cases hlt : n < x.size
              · have hi1 : (n : Int) < (x.size : Int) := by omega
                have hi3 : (0 : Int) ≤ (n : Int) := by omega
                have HST := hide (fold_step (kind - 14 + 9) x[0] x n hn1 hlt)
                have HBT := hide (fun (y : UInt8) (W : World) => bit_any (kind - 14 + 9) HK5.out y x[n] W)
                generalize ((x.data.toList.drop 1).take (n - 1)).foldl (opC (kind - 14 + 9)) x[0] = y at *
                go_wp2_with fail
                refine (HBT.out y wr).mono ?_
                rintro e w4 ⟨rfl, b4⟩
                go_wp2_with fail
                go_roundw
                case rel => exact ⟨n + 1, by omega, by rw [HXL.out]; omega, by go_num, by rw [HST.out], bstep hbr b4⟩
                case measure => simp [intOf]; omega
              · have hke : n = x.size := by omega
                subst hke
                have HT := hide (show ((x.data.toList.drop 1).take (x.size - 1)) = x.data.toList.drop 1 from List.take_of_length_le (by rw [List.length_drop, HXL.out]; omega))
                rw [HT.out]
                generalize (x.data.toList.drop 1).foldl (opC (kind - 14 + 9)) x[0] = y at *
                go_wp2_with fail
                go_ret
                exact ⟨by rw [HE.out]; rfl, (bstep hb0 hbr).alloc (bstep hb0 hbr).size _⟩
        · have HE := hide (show applyL kind na nb' (vL [x]) = [] by rw [HA.out]; unfold oneL; rw [if_neg h8, if_neg h6, if_neg ht])
          have t14 : decide ((14 : Int) ≤ kind) = false ∨ decide ((14 : Int) ≤ kind) = true ∧ decide (kind ≤ (16 : Int)) = false := by
            by_cases h : (14 : Int) ≤ kind
            · exact .inr ⟨decide_eq_true h, decide_eq_false (by omega)⟩
            · exact .inl (decide_eq_false h)
          clear ht h9 h7 h6 h8
          rcases t9 with t9 | ⟨t9, t13⟩
          all_goals
            rcases t14 with t14 | ⟨t14, t16⟩
            all_goals
              go_wp2_with fail
              go_ret
              exact ⟨by rw [HE.out]; rfl, hb0⟩
      · have t1 : ((vs.length : Int) != 1) = true := by rw [bne_iff_ne]; omega
        have HE := hide (show applyL kind na nb' (vL vs) = [] by
          unfold applyL; rw [if_neg HNB.out, if_neg h7, if_neg h9]
          match vs, hv1 with
          | [], _ => rfl
          | [x], h => exact absurd rfl h
          | x :: y :: r, _ => rfl)
        rcases t9 with t9 | ⟨t9, t13⟩
        all_goals
          go_wp2_with fail
          go_ret
          exact ⟨by rw [HE.out]; rfl, hb0⟩

end Go.Proofs.YtdlebcijgdkfjaaGreatDoor

/-
  wavestoreref51.At: the value of a tree at a time.
-/
namespace Go.Proofs.YtdlebcijgdkfjaaGreatDoor
open Go.RowKit

def AtRel (env : Int → ByteArray) (l : List Nd) (w : World) (o i : Value) (wr : World) : Prop :=
  ∃ (j : Nat) (A : Option Addr) (c : Nat), j ≤ l.length ∧ i = .int .i64 (j : Int) ∧ o = .slice A j c ∧ OwnStr wr w.heap.size A c ((l.take j).map (valF env)) ∧ Below w.heap.size w wr
/-- a wave in a box -/
theorem wv_held {W0 : World} {N : Nat} {a0 a1 a2 : Value} {t : TypeId} (h0 : W0.heap[N]? = some (.cells #[a0, a1, a2] t (0, 0))) (W : World) (hb : Below W0.heap.size W0 W) : W.cell? ⟨N, 0, none⟩ = some a0 ∧ W.cell? ⟨N, 1, none⟩ = some a1 ∧ W.cell? ⟨N, 2, none⟩ = some a2 := by
  have g0 := (hb.block _ (box_lt h0)).trans h0
  refine ⟨?_, ?_, ?_⟩
  all_goals (rw [cell_of_row W N _ _ t (0, 0) g0]; rfl)
theorem SigsAt.up {w w' : World} {A : Option Addr} {l : List Sgn} (h : SigsAt w (Lo w.heap.size) A l) (hb : Below w.heap.size w w') : SigsAt w' (Lo w'.heap.size) A l := ⟨h.row.grow hb, fun s hs => (h.each s hs).grow hb⟩

theorem str_empty (W : World) {base : Nat} (hb : base ≤ W.heap.size) : OwnStr (W.alloc (.cells #[] 9)) base (some ⟨W.heap.size, 0, none⟩) 0 [] := World.ownsRow_lit W #[] 0 hb (by simp [maxLen]) rfl

set_option maxRecDepth 100000 in
set_option maxHeartbeats 8000000 in
theorem rat_any (v : Wv) (t : Int) (hv : SmallOk v) (n : Nd) : ∀ w : World, SigsAt w (Lo w.heap.size) v.A v.sigs → TreesAt w (Lo w.heap.size) n.KA n.kids → okF n → Siz (envW v t) n → (∀ x ∈ sigF n, 0 ≤ x ∧ x < v.sigs.length) →
    Calls Tryz.prog 57 #[.agg (cWv v).toArray, .agg (cNd n).toArray, .int .i64 t] w (RetV (.string (valF (envW v t) n)) w) := by
  obtain ⟨i0, hi0, hz0, hz1, hz2⟩ := info_parts infoStr
  induction n using Nd.ind with
  | h n ih =>
  intro w hS ht hok hsz hsg
  have IH := hide ih
  have HOK := hide ((okF_eq n).1 hok)
  have HSZ := hide ((Siz_eq _ n).1 hsz)
  have HSK := hide (show ∀ k ∈ n.kids, ∀ x ∈ sigF k, 0 ≤ x ∧ x < v.sigs.length from fun k hk x hx => hsg x (sig_kid hk hx))
  have HSA := hide (show n.kind = 1 → 0 ≤ n.a ∧ n.a < v.sigs.length from fun k1 => hsg n.a (by rw [sigF_eq]; unfold sigB; simp [k1]))
  clear ih hok hsz hsg
  have HS := hide hS
  obtain ⟨v', hv'⟩ : ∃ v', v' = v := ⟨_, rfl⟩
  obtain ⟨kind, at_, name, value, a, b, c, d, KA, kc, kids⟩ := n
  unfold Nd.KA Nd.kids at ht
  dsimp only [Nd.kind, Nd.a, Nd.b, Nd.c, Nd.d, Nd.kids] at HOK HSZ HSK HSA
  unfold cNd
  have hl := ht.len
  obtain ⟨env, henv⟩ : ∃ env, envW v t = env := ⟨_, rfl⟩
  rw [henv] at IH HSZ ⊢
  have HENV := hide henv
  obtain ⟨A, cA, sigs, G, gn, cG, fin⟩ := v
  unfold cWv at IH ⊢
  dsimp only at IH HS HSK HSA ⊢
  obtain ⟨W0, hW0⟩ : ∃ W0, (w.alloc (.cells #[.slice A sigs.length cA, .slice G gn cG, .int .i64 fin] 29)).alloc (.cells #[.int .i64 kind, .int .i64 at_, .string name, .string value, .int .i64 a, .int .i64 b, .int .i64 c, .int .i64 d, .slice KA kids.length kc] 32) = W0 := ⟨_, rfl⟩
  obtain ⟨p0, p1, hb0⟩ := chain2 _ _ _ hW0
  have HT := hide (ht.grow hb0)
  have HS0 := hide (HS.out.up hb0)
  have HH := hide (wv_held p0)
  have HG1 := hide p1
  have HB0 := hide hb0
  have HW0 := hide hW0
  obtain ⟨q0, q1, q2⟩ := HH.out W0 (Below.refl _ _)
  obtain ⟨y0, y1, y2, y3, y4, y5, y6, y7, y8⟩ := box9 p1
  have HQ := hide (show ∀ (o : ByteArray) (wr : World), valF env (.mk kind at_ name value a b c d KA kc kids) = o → Below W0.heap.size W0 wr → RetV (.string (valF env (.mk kind at_ name value a b c d KA kc kids))) w (.returned (.string o)) wr from fun o wr h hb => ⟨by rw [h], bstep HB0.out hb⟩)
  have HEQ := hide (valF_mk env kind at_ name value a b c d KA kc kids)
  clear ht hb0 hW0 p0 p1 hS henv
  go_enter Tryz.func57, Tryz.ntmps57
  go_upto_region 1 with (fail)
  rw [HW0.out]
  by_cases k1 : kind = 1
  · subst k1
    rw [if_pos rfl] at HEQ
    obtain ⟨a0, a1⟩ := HSA.out rfl
    obtain ⟨ai, rfl⟩ : ∃ ai : Nat, a = (ai : Int) := ⟨a.toNat, by omega⟩
    have hai : ai < sigs.length := by omega
    obtain ⟨bk, ok, rfl, hbk, hc⟩ := HS0.out.row.at_ hai
    have hrow := HS0.out.each _ (List.getElem_mem hai)
    have hsk := hv.each _ (List.getElem_mem hai)
    have hval : env (ai : Int) = valS sigs[ai] t := by
      rw [← HENV.out]
      unfold envW sgnAt
      simp [List.getElem?_eq_getElem hai]
    have hcall := fun (W : World) (hb : Below W0.heap.size W0 W) => rvalue_any sigs[ai] t W (fun h => by have := (hsk.width.1 h); omega) (by have := hsk.len; omega) (hrow.grow hb)
    generalize sigs[ai] = s at *
    obtain ⟨sk, sw, sA, sc, chs⟩ := s
    unfold cSgn at hc
    dsimp only at hcall
    have d0 := hc 0 (by omega)
    have d1 := hc 1 (by omega)
    have d2 := hc 2 (by omega)
    simp only [List.getElem?_cons_zero, List.getElem?_cons_succ, Nat.add_zero] at d0 d1 d2
    have HC := hide hcall
    have HV := hide (HEQ.out.trans hval)
    clear hc hrow hsk hval hcall HEQ
    go_wp2_with fail
    refine (HC.out _ (Below.refl _ _)).mono ?_
    rintro e w2 ⟨rfl, hb2⟩
    have HR := hide (HQ.out _ w2 HV.out hb2)
    clear hb2 HQ
    go_wp2_with fail
    go_ret
    exact HR.out
  rw [if_neg k1] at HEQ
  have T1 : (kind == 1) = false := beq_eq_false_iff_ne.2 k1
  by_cases k2 : kind = 2 ∨ kind = 4 ∨ kind = 5
  · rw [if_pos k2] at HEQ
    have HR := hide (HQ.out _ W0 HEQ.out (Below.refl _ _))
    clear HQ HEQ k1
    rcases k2 with rfl | rfl | rfl
    all_goals
      go_wp2_with fail
      go_ret
      exact HR.out
  rw [if_neg k2] at HEQ
  have T2 : (kind == 2) = false := beq_eq_false_iff_ne.2 fun h => k2 (.inl h)
  have T4 : (kind == 4) = false := beq_eq_false_iff_ne.2 fun h => k2 (.inr (.inl h))
  have T5 : (kind == 5) = false := beq_eq_false_iff_ne.2 fun h => k2 (.inr (.inr h))
  have hbd := HSZ.out.1 k1 (fun h => k2 (.inl h)) (fun h => k2 (.inr (.inl h))) (fun h => k2 (.inr (.inr h)))
  have hkl := hbd.1
  have HBD := hide hbd.2
  clear k1 k2 hbd
  go_upto_region 10 with (fail)
  have hbE : Below W0.heap.size W0 (W0.alloc (.cells #[] 9)) := (Below.refl _ _).alloc (Nat.le_refl _) _
  go_loopw [7, 8] (fun o i wr => AtRel env kids W0 o i wr) (fun _ i _ => kids.length - (intOf i).toNat)
  case atStart => exact ⟨0, _, 0, Nat.zero_le _, rfl, rfl, str_empty W0 (Nat.le_refl _), hbE⟩
  case round =>
    obtain ⟨V, rfl⟩ : ∃ w2 : World, w2 = wr := ⟨_, rfl⟩
    obtain ⟨j, A2, c2, hj, rfl, rfl, hown, hbr⟩ := hrel
    have HOWN := hide hown
    have HBR := hide hbr
    clear hown hbr hbE q0 q1 q2 y0 y1 y2 y3 y4 y5 y6 y7 y8
    obtain ⟨q0, q1, q2⟩ := HH.out V HBR.out
    obtain ⟨y0, y1, y2, y3, y4, y5, y6, y7, y8⟩ := box9 ((HBR.out.block _ (box_lt HG1.out)).trans HG1.out)
    by_cases hlt : j < kids.length
    · have hT := HT.out.grow HBR.out
      obtain ⟨bk, ok, rfl, hbk, hc⟩ := hT.row.at_ hlt
      have hmem := List.getElem_mem hlt
      have hkid := hT.each _ hmem
      have hokk := HOK.out.2 _ hmem
      have hszk := HSZ.out.2 _ hmem
      have hsgk := HSK.out _ hmem
      have HTK := hide (show (kids.take (j + 1)).map (valF env) = (kids.take j).map (valF env) ++ [valF env kids[j]] by rw [List.take_succ_eq_append_getElem hlt, List.map_append]; rfl)
      have hlk : ((kids.take j).map (valF env)).length = j := by simp; omega
      have hcall := IH.out _ hmem V.drew (HS0.out.up (below_drew HBR.out)) (hkid.grow (below_drew (Below.refl _ _))) hokk hszk hsgk
      generalize kids[j] = qn at *
      obtain ⟨vq, hvq⟩ : ∃ vq, valF env qn = vq := ⟨_, rfl⟩
      rw [hvq] at hcall HTK
      obtain ⟨m1, m2, m3, m4, m5, m6, m7, m8, mK, mc, ml⟩ := qn
      unfold cNd at hc hcall
      obtain ⟨c0, c1, c2', c3, c4, c5, c6, c7, c8⟩ := nine hc
      have HC := hide hcall
      have hzw := HBR.out.size
      clear hc hkid hokk hszk hsgk hcall hmem hT hvq
      go_upto_region 12 with (fail)
      go_region_law
        (first
          | (refine step_append_src rfl (.tmp 35) (.tmp 44) 110 rfl W0.heap.size 9 i0 _ 1 16 Tryz.underlying110 hi0 hz0 hz1 hz2 rfl (by decide) (.slice A2 j c2) j (((kids.take j).map (valF env)).map Value.string) rfl HO3.out (some ⟨w2.heap.size, 0, none⟩) 1 1 [.string vq] rfl rfl (src_block (t := 9) (fr := (0, 0)) HN.out) (str_one vq) (by simp only [maxLen]; omega) (by omega) (by simp; omega) ?_
             intro v5 w5 hown5 hg5
             obtain ⟨A5, c5, rfl, ho5⟩ := OwnStr.of_row (l := (kids.take (j + 1)).map (valF env)) hown5 (by rw [HTK.out]; simp; omega) (by rw [HTK.out]; simp)
             rw [ob_eq] at hg5
             rw [show ((kids.take (j + 1)).map (valF env)).length = j + 1 by simp; omega]
             have HO5 := hide ho5
             have HB5 := hide ((HB2.out.alloc (by omega) (.cells #[.string vq] 9)).grown hg5 (by simp; omega) (fun g hg => (own_ob HOWN.out g hg).1))
             clear hown5 hg5 ho5)
          | (go_simp
             go_at_call 57
             refine HC.out.mono ?_
             rintro e w2 ⟨rfl, hb2⟩
             have hb2' := bstep (below_drew (Below.refl V.heap.size V)) hb2
             have HB2 := hide (bstep HBR.out hb2')
             have HO3 := hide (World.ownsRow.alloc (HOWN.out.below hb2') (.cells #[.string vq] 9))
             have HN := hide (heap_alloc_new w2 (.cells #[.string vq] 9))
             rw [hlk] at HO3
             have hzw2 := hb2'.size
             clear hb2 hb2')
          | fail)
      all_goals
        go_wp2_with fail
        exact ⟨⟨j + 1, A5, c5, hlt, by go_num, rfl, HO5.out, HB5.out⟩, by simp [intOf]; omega⟩
    · have hke : j = kids.length := by omega
      subst hke
      rw [List.take_length] at HOWN
      have hap := rapply_any ⟨kind, at_, name, value, a, b, c, d, .slice KA kids.length kc⟩ A2 c2 (kids.map (valF env)) V (HOWN.out.strs.more fun b h => h.2.1) (by simp; omega) HOWN.out.cap (fun v hv => by obtain ⟨k, hk, rfl⟩ := List.mem_map.1 hv; exact HBD.out k hk) HOK.out.1.2.1 HOK.out.1.2.2.1 HOK.out.1.1
      unfold encNf at hap
      dsimp only at hap
      rw [List.length_map] at hap
      have HAP := hide hap
      have HR := hide (fun wx hb => HQ.out _ wx HEQ.out hb)
      rw [vL_eq] at HR
      clear HQ HEQ hap
      go_wp2_with (go_at_call 104; refine HAP.out.mono ?_; rintro e w2 ⟨rfl, hb2⟩; have HB2 := hide hb2; clear hb2)
      go_ret
      exact HR.out _ (bstep HBR.out HB2.out)

end Go.Proofs.YtdlebcijgdkfjaaGreatDoor

/-
  condition.Of: where a value of one bit is true and false; condition.within.
-/
namespace Go.Proofs.YtdlebcijgdkfjaaGreatDoor
open Go.RowKit

set_option maxRecDepth 100000 in
theorem within_any (v : Wv) (L c : Int) (M : Nat) (f t : Int) (w : World) (h : SourceAt w M v L c) : Calls Tryz.prog 47 #[srcV M, .int .i64 f, .int .i64 t] w fun e w' => e = .returned (.bool (decide (0 ≤ f) && decide (f ≤ t) && decide (t ≤ v.fin))) ∧ w = w' := by
  have HE := hide (end_any M v L c w h)
  have hm := meth_end (some ⟨M, 0, none⟩)
  unfold srcV
  clear h
  by_cases h1 : 0 ≤ f
  · have T1 : decide (0 ≤ f) = true := decide_eq_true h1
    by_cases h2 : f ≤ t
    · have T2 : decide (f ≤ t) = true := decide_eq_true h2
      go_enter Tryz.func47, Tryz.ntmps47
      go_wp2_with fail
      refine HE.out.mono ?_
      rintro e w' ⟨rfl, rfl⟩
      go_wp2_with fail
      go_ret
      exact ⟨by first | rfl | (rw [T1, T2]; rfl), rfl⟩
    · have T2 : decide (f ≤ t) = false := decide_eq_false h2
      go_enter Tryz.func47, Tryz.ntmps47
      go_wp2_with fail
      go_ret
      exact ⟨by first | rfl | (rw [T1, T2]; rfl), rfl⟩
  · have T1 : decide (0 ≤ f) = false := decide_eq_false h1
    go_enter Tryz.func47, Tryz.ntmps47
    go_wp2_with fail
    go_ret
    exact ⟨by first | rfl | (rw [T1]; rfl), rfl⟩

end Go.Proofs.YtdlebcijgdkfjaaGreatDoor

/-
  How many intervals the sets of a condition have; the table of powers of ten behind calls of a source.
-/
namespace Go.Proofs.YtdlebcijgdkfjaaGreatDoor
open Go.RowKit

theorem Tab.src {w w' : World} {M : Nat} {v : Wv} {L c : Int} (h : Tab w) (hs : SourceAt w M v L c) (hb : But w.heap.size (some M) w w') : Tab w' := ⟨by
  have h0 := h.tab
  unfold Lib.TabIs World.var? at h0 ⊢
  obtain ⟨g, h1, h2⟩ := Option.bind_eq_some_iff.1 h0
  rw [h1]
  have h3 : g < w.heap.size := by
    rcases Nat.lt_or_ge g w.heap.size with h3 | h3
    · exact h3
    · rw [Array.getElem?_eq_none h3] at h2; cases h2
  have hne : g ≠ M := fun e => by
    subst e
    rw [hs.box] at h2
    unfold memO at h2
    have h4 := congrArg (Option.map Array.size) h2
    revert h4
    simp [Lib.pow10Tab]
  show (match w'.heap[g]? with | some (.cells cs _ _) => some cs | _ => none) = _
  rw [hb.block g h3 (fun e => by injection e with e; exact hne e)]
  exact h2⟩

end Go.Proofs.YtdlebcijgdkfjaaGreatDoor
