/-
  intervals.Points and the reference's: all times of a set.
-/
import Derived.Test.YthgglblbjghamaaSearch
namespace Go.Proofs.Ythgglblbjghamaa
open Go.RowKit Go.Joins

theorem norm_exists (xs : List Iv) : ∃ ys, Norm ys ∧ ∀ t, Mem ys t ↔ Mem xs t := by
  have hp : ((clipped 0 1099511627776 xs).mergeSort fun a b => decide (a.1 ≤ b.1)).Perm (clipped 0 1099511627776 xs) := List.mergeSort_perm _ _
  have hs : ((clipped 0 1099511627776 xs).mergeSort fun a b => decide (a.1 ≤ b.1)).Pairwise fun a b => a.1 ≤ b.1 := by
    have := List.pairwise_mergeSort (le := fun a b : Iv => decide (a.1 ≤ b.1)) (fun a b c h1 h2 => by simp only [decide_eq_true_eq] at *; omega) (fun a b => by simp only [Bool.or_eq_true, decide_eq_true_eq]; omega) (clipped 0 1099511627776 xs)
    exact this.imp fun h => by simpa using h
  obtain ⟨n, m, _⟩ := merged_spec _ (fun x hx => clipped_ok 0 1099511627776 xs (by omega) (by omega) x (hp.mem_iff.1 hx)) hs
  refine ⟨_, n, fun t => ?_⟩
  rw [m, mem_perm hp, clipped_mem]
  exact ⟨fun h => h.2.2, fun h => ⟨(mem_bounds h).1, (mem_bounds h).2, h⟩⟩

theorem pts_bad {w w' : World} {xs : List Iv} {most : Int} (h : most < 0 ∨ 4096 < most) (hb : Below w.heap.size w w') : RetPts w xs most (.returned (.tuple #[.slice none 0 0, .int .i64 1])) w' := by
  obtain ⟨ys, n, m⟩ := norm_exists xs
  exact ⟨ys, none, 0, [], 1, n, m, .inl ⟨h, rfl, rfl⟩, rfl, OwnInt.nil _ _, hb⟩

theorem iv_box {w : World} {N : Nat} {p q : Int} {t : TypeId} (h : w.heap[N]? = some (.cells #[.int .i64 p, .int .i64 q] t (0, 0))) : w.cell? ⟨N, 0, none⟩ = some (.int .i64 p) ∧ w.cell? ⟨N, 1, none⟩ = some (.int .i64 q) :=
  ⟨by rw [cell_of_row w N _ _ t (0, 0) h]; rfl, by rw [cell_of_row w N _ _ t (0, 0) h]; rfl⟩

theorem pts_end {ys : List Iv} {k : Nat} (hk : k < ys.length) {n : Nat} (hn : (n : Int) = ys[k].2 - ys[k].1 + 1) : pts (ys.take k) ++ runL ys[k].1 n = pts (ys.take (k + 1)) := by
  rw [pts_take_succ ys k hk, show (ys[k].2 - ys[k].1 + 1).toNat = n by omega]

/-- 'append(out, x)' of one integer that was laid into a block just before; which block it writes is told -/
theorem append_int1 {ops : Array Oper} {rest : List Oper} {o : Oper} {a : Act} {Q : Exit → Act → World → Prop} {w : World} (hgd : o.guard = none) (s x : Operand)
    (ho : o.op = .call { callee := .builtin .append, args := #[s, x], argTypes := #[37, 37] })
    (base : Nat) (A : Option Addr) (c : Nat) (zs : List Int) (n : Nat) (hs : a.eval s = .slice A n c) (hn : n = zs.length) (p : Int)
    (N : Nat) (hx : a.eval x = .slice (some ⟨N, 0, none⟩) 1 1) (wp : World) (hw : w.heap = wp.heap.push (.cells #[.int .i64 p] 3)) (hN : N = wp.heap.size)
    (hown : OwnInt wp base A c zs) (hlen : n + 1 ≤ 8796093022208) (hbase : base ≤ wp.heap.size)
    (h : ∀ (g c' : Nat) (w' : World), OwnInt w' base (some ⟨g, 0, none⟩) c' (zs ++ [p]) → base ≤ g → w.grownBy w' (Value.slice A zs.length c).ownBlock → (∀ k, (Value.slice A zs.length c).ownBlock = some k → base ≤ k) →
      wpList Try.prog ops Q rest (a.put o.dst (.slice (some ⟨g, 0, none⟩) (n + 1) c')) w') :
    wpList Try.prog ops Q (o :: rest) a w := by
  subst hn hN
  obtain ⟨i0, hi0, hz0, hz1, hz2⟩ := info_parts infoInt
  refine wpList_append_own _ hgd s x 37 ho base 3 i0 _ 1 8 Try.underlying37 hi0 hz0 hz1 hz2 rfl (by decide) _ zs.length (zs.map (Value.int .i64)) hs (own_push hown hw)
    ⟨wp.heap.size, 0, none⟩ 1 1 [.int .i64 p] hx rfl (fun j u hu => by rw [cells_push hw]; simpa using hu) (by simp [Value.oneCell']) (by simp only [maxLen]; omega) (by omega) (by rw [hw]; simp; omega) ?_
  intro v' w' ho' hg _
  obtain ⟨A', c', rfl, ho''⟩ := OwnInt.of_row (zs := zs ++ [p]) ho' (by simp) (by simp)
  rcases ho''.form with ⟨_, _, h3⟩ | ⟨g, rfl, h1, _⟩
  · simp at h3
  · have := h g c' w' ho'' h1 hg hown.block
    simpa using this

theorem box_not_row {W : World} {N : Nat} {cs : Array Value} {t : TypeId} (h : W.heap[N]? = some (.cells cs t (0, 0))) {base c : Nat} {A : Option Addr} {zs : List Int} (hte : t ≠ 3) (hr : OwnInt W base A c zs) : some N ≠ (Value.slice A zs.length c).ownBlock := by
  rcases hr.2 with ⟨h1, _⟩ | ⟨g, cap, cur, h1, _, hgb, _⟩
  · rw [h1]; simp [Value.ownBlock]
  · rw [h1]
    intro e'
    have e2 : N = g := by simpa [Value.ownBlock] using e'
    subst e2
    rw [h] at hgb
    injection hgb with hgb
    injection hgb with _ hgb
    exact hte hgb

set_option maxRecDepth 100000 in
set_option maxHeartbeats 2000000 in
theorem points_any (A : Option Addr) (c : Nat) (xs : List Iv) (most : Int) (w : World) (h : IvsAt w w.heap.size A xs) (hl : xs.length ≤ 1000000000000) :
    Calls Try.prog 43 #[.slice A xs.length c, .int .i64 most] w (RetPts w xs most) := by
  by_cases hm0 : most < 0
  · have d0 : decide (most < 0) = true := decide_eq_true hm0
    go_enter Try.func43, Try.ntmps43
    go_wp2_with fail
    go_ret2
    exact pts_bad (.inl hm0) (Below.refl _ _)
  · have d0 : decide (most < 0) = false := decide_eq_false hm0
    by_cases hm1 : 4096 < most
    · have d1 : decide (4096 < most) = true := decide_eq_true hm1
      go_enter Try.func43, Try.ntmps43
      go_wp2_with fail
      go_ret2
      exact pts_bad (.inr hm1) (Below.refl _ _)
    · have d1 : decide (4096 < most) = false := decide_eq_false hm1
      go_enter Try.func43, Try.ntmps43
      go_wp2_with fail
      refine (count_any A c xs w h hl).mono ?_
      rintro e w1 ⟨ys, ny, my, rfl, hb1⟩
      have HMY := hide my
      clear my
      by_cases hc : most < cnt ys
      · have d2 : decide (most < cnt ys) = true := decide_eq_true hc
        go_wp2_with fail
        go_ret2
        exact ⟨ys, none, 0, [], 9, ny, HMY.out, .inr (.inl ⟨by omega, hc, rfl, rfl⟩), rfl, OwnInt.nil _ _, hb1⟩
      · have d2 : decide (most < cnt ys) = false := decide_eq_false hc
        go_wp2_with fail
        refine (normal_any A c xs _ (h.step hb1) (by omega)).mono ?_
        rintro e w2 ⟨A2, c2, ys2, rfl, hown2, hb2, ny2, my2⟩
        obtain rfl : ys2 = ys := norm_ext ny2 ny fun t => (my2 t).trans (HMY.out t).symm
        have hly := norm_len ny
        have ry := hown2.ats
        have hbw := bstep hb1 hb2
        clear my2 hown2 h ny2
        go_wp2_with fail
        go_loopw [6, 25] (fun out i wr => PtsRel w2 w2.heap.size ys2 out i wr) (fun _ i _ => ys2.length - (intOf i).toNat)
        case atStart => exact ⟨0, none, 0, Nat.zero_le _, rfl, rfl, OwnInt.nil _ _, Below.refl _ _⟩
        case round =>
          obtain ⟨k, A3, c3, hk, rfl, rfl, hown, hb⟩ := hrel
          by_cases hlt : k < ys2.length
          · obtain ⟨b, off, rfl, hbb, hc1, hc2⟩ := (ry.below hb).at_ hlt
            have hoy := ny.1 ys2[k] (List.getElem_mem _)
            unfold Okv at hoy
            have HL := hide (fun (n : Nat) (hn : (n : Int) ≤ ys2[k].2 - ys2[k].1 + 1) => run_lt ny hlt (m := most) (by omega) hn)
            have HE := hide (fun (n : Nat) (hn : (n : Int) = ys2[k].2 - ys2[k].1 + 1) => pts_end hlt hn)
            generalize ys2[k].1 = p at *
            generalize ys2[k].2 = q at *
            obtain ⟨wo, rfl⟩ : ∃ wo : World, wo = wr := ⟨_, rfl⟩
            go_wp2_with fail
            have hbx := heap_alloc_new wo (.cells #[.int .i64 p, .int .i64 q] 52)
            go_loopw [6, 9] (fun out t wr => PtsIn w2 w2.heap.size ys2 k p q wo.heap.size out t wr) (fun _ t _ => (q + 1 - intOf t).toNat)
            case atStart => exact ⟨0, A3, c3, by omega, by simp, by simp [runL], by simpa [runL] using hown.alloc _, hb.alloc hb.size _, hbx⟩
            case round =>
              obtain ⟨n, A4, c4, hn, rfl, rfl, hown4, hb4, hbx4⟩ := hrel
              obtain ⟨g0, g1⟩ := iv_box hbx4
              have hln := HL.out n hn
              by_cases hle : p + n ≤ q
              · have HS := hide (show pts (ys2.take k) ++ runL p (n + 1) = (pts (ys2.take k) ++ runL p n) ++ [p + (n : Int)] by rw [runL_succ, List.append_assoc])
                generalize pts (ys2.take k) ++ runL p n = zs at *
                go_wp2_with (at_builtin; (refine append_int1 rfl _ _ rfl w2.heap.size A4 c4 zs _ rfl rfl (p + (n : Int)) _ rfl _ rfl (by simp) hown4 (by omega) hb4.size ?_)
                             intro g' c' w5 hown5 hg' hgrow hrow)
                go_roundw
                case rel =>
                  refine ⟨n + 1, some ⟨g', 0, none⟩, c', by omega, by go_num, ?_, ?_, ?_, ?_⟩
                  · rw [HS.out]; simp
                  · rw [HS.out]; exact hown5
                  · exact (hb4.alloc hb4.size _).grown hgrow (by have := hb4.size; simp; omega) hrow
                  · exact (hgrow.block _ (by have := box_lt hbx4; simp; omega) (box_not_row hbx4 (by decide) hown4)).trans (box_alloc hbx4)
                case measure => simp [intOf]; omega
              · have he := HE.out n (by omega)
                rw [he] at hown4 ⊢
                clear he
                go_wp2_with fail
                go_roundw
                case rel => exact ⟨k + 1, A4, c4, by omega, by go_num, rfl, hown4, hb4⟩
                case measure => simp [intOf]; omega
          · have hke : k = ys2.length := by omega
            subst hke
            rw [List.take_length] at hown ⊢
            go_wp2_with fail
            go_ret2
            exact ⟨ys2, A3, c3, pts ys2, 0, ny, HMY.out, .inr (.inr ⟨by omega, by omega, rfl, rfl⟩), rfl, hown.lower hbw.size, bstep hbw hb⟩

theorem rows_apart {w w' : World} {b b' c c' : Nat} {A A' : Option Addr} {ys : List Iv} {zs : List Int} (h : OwnIv w b A c ys) (h' : OwnInt w b' A' c' zs) {o : Obj} (hg : (w.alloc o).grownBy w' (Value.slice A' zs.length c').ownBlock) : OwnIv w' b A c ys := by
  refine World.ownsRow.kept (h.alloc o) hg ?_
  rcases h.2 with ⟨h1, _⟩ | ⟨g, cap, cur, h1, _, hgb, _⟩
  · exact .inl (by rw [h1]; rfl)
  · refine .inr ?_
    rw [h1]
    rcases h'.2 with ⟨k1, _⟩ | ⟨g', cap', cur', k1, _, kgb, _⟩
    · rw [k1]; simp [Value.ownBlock]
    · rw [k1]
      intro e
      have e2 : g = g' := by simpa [Value.ownBlock] using e
      subst e2
      rw [hgb] at kgb
      injection kgb with kgb
      injection kgb with _ kgb
      exact absurd kgb (by decide)

/-- the reference's outer loop -/
def RPtsRel (w : World) (A2 : Option Addr) (c2 : Nat) (ys : List Iv) (out i : Value) (wr : World) : Prop :=
  ∃ (k : Nat) (A : Option Addr) (c : Nat), k ≤ ys.length ∧ i = .int .i64 k ∧ out = .slice A (pts (ys.take k)).length c ∧ OwnInt wr w.heap.size A c (pts (ys.take k)) ∧ OwnIv wr w.heap.size A2 c2 ys ∧ Below w.heap.size w wr
def RPtsIn (w : World) (A2 : Option Addr) (c2 : Nat) (ys : List Iv) (k : Nat) (p q : Int) (out t : Value) (wr : World) : Prop :=
  ∃ (n : Nat) (A : Option Addr) (c : Nat), (n : Int) ≤ q - p + 1 ∧ t = .int .i64 (p + n) ∧ out = .slice A (pts (ys.take k) ++ runL p n).length c ∧ OwnInt wr w.heap.size A c (pts (ys.take k) ++ runL p n) ∧ OwnIv wr w.heap.size A2 c2 ys ∧ Below w.heap.size w wr

set_option maxRecDepth 100000 in
set_option maxHeartbeats 2000000 in
theorem refPoints_any (A : Option Addr) (c : Nat) (xs : List Iv) (most : Int) (w : World) (h : IvsAt w w.heap.size A xs) (hl : xs.length ≤ 1000000000000) :
    Calls Try.prog 44 #[.slice A xs.length c, .int .i64 most] w (RetPts w xs most) := by
  by_cases hm0 : most < 0
  · have d0 : decide (most < 0) = true := decide_eq_true hm0
    go_enter Try.func44, Try.ntmps44
    go_wp2_with fail
    go_ret2
    exact pts_bad (.inl hm0) (Below.refl _ _)
  · have d0 : decide (most < 0) = false := decide_eq_false hm0
    by_cases hm1 : 4096 < most
    · have d1 : decide (4096 < most) = true := decide_eq_true hm1
      go_enter Try.func44, Try.ntmps44
      go_wp2_with fail
      go_ret2
      exact pts_bad (.inr hm1) (Below.refl _ _)
    · have d1 : decide (4096 < most) = false := decide_eq_false hm1
      go_enter Try.func44, Try.ntmps44
      go_wp2_with fail
      refine (refCount_any A c xs w h hl).mono ?_
      rintro e w1 ⟨ys, ny, my, rfl, hb1⟩
      have HMY := hide my
      clear my
      by_cases hc : most < cnt ys
      · have d2 : decide (most < cnt ys) = true := decide_eq_true hc
        go_wp2_with fail
        go_ret2
        exact ⟨ys, none, 0, [], 9, ny, HMY.out, .inr (.inl ⟨by omega, hc, rfl, rfl⟩), rfl, OwnInt.nil _ _, hb1⟩
      · have d2 : decide (most < cnt ys) = false := decide_eq_false hc
        go_wp2_with fail
        have he0 := OwnInt.empty w1 w.heap.size hb1.size
        have hb1' := hb1.alloc hb1.size (.cells #[] 3)
        refine (refNormal_any A c xs _ ((h.below hb1').more hb1'.size) hl).mono ?_
        rintro e w2 ⟨A2, c2, ys2, rfl, hown2, hb2, ny2, my2⟩
        obtain rfl : ys2 = ys := norm_ext ny2 ny fun t => (my2 t).trans (HMY.out t).symm
        have hly := norm_len ny
        have hbw := bstep hb1' hb2
        have he2 := he0.below hb2 (Nat.le_refl _)
        have ho2 := hown2.lower hb1'.size
        clear my2 hown2 h ny2 he0 hb2 hb1'
        go_wp2_with fail
        go_loopw [6, 8] (fun out i wr => RPtsRel w A2 c2 ys2 out i wr) (fun _ i _ => ys2.length - (intOf i).toNat)
        case atStart => exact ⟨0, some ⟨w1.heap.size, 0, none⟩, 0, Nat.zero_le _, rfl, rfl, he2, ho2, hbw⟩
        case round =>
          obtain ⟨k, A3, c3, hk, rfl, rfl, hown, hoy2, hb⟩ := hrel
          by_cases hlt : k < ys2.length
          · obtain ⟨b, off, hAe, hbb, hc1, hc2⟩ := hoy2.ats.at_ hlt
            subst hAe
            have hoy := ny.1 ys2[k] (List.getElem_mem _)
            unfold Okv at hoy
            have HC := hide (fun (w' : World) (h' : OwnIv w' w.heap.size (some ⟨b, off, none⟩) c2 ys2) => h'.ats.at_ hlt)
            have HL := hide (fun (n : Nat) (hn : (n : Int) ≤ ys2[k].2 - ys2[k].1 + 1) => run_lt ny hlt (m := most) (by omega) hn)
            have HE := hide (fun (n : Nat) (hn : (n : Int) = ys2[k].2 - ys2[k].1 + 1) => pts_end hlt hn)
            generalize ys2[k].1 = p at *
            generalize ys2[k].2 = q at *
            obtain ⟨wo, rfl⟩ : ∃ wo : World, wo = wr := ⟨_, rfl⟩
            have hd1 : decide ((k : Int) < (ys2.length : Int)) = true := decide_eq_true (by omega)
            go_wp2_with fail
            go_loopw [6, 9] (fun out t wr => RPtsIn w (some ⟨b, off, none⟩) c2 ys2 k p q out t wr) (fun _ t _ => (q + 1 - intOf t).toNat)
            case atStart => exact ⟨0, A3, c3, by omega, by simp, by simp [runL], by simpa [runL] using hown, hoy2, hb⟩
            case round =>
              obtain ⟨n, A4, c4, hn, rfl, rfl, hown4, hoy4, hb4⟩ := hrel
              obtain ⟨b', off', hAe, _, g0, g1⟩ := HC.out _ hoy4
              injection hAe with hAe
              injection hAe with hAe1 hAe2
              subst hAe1 hAe2
              have hln := HL.out n hn
              by_cases hle : p + n ≤ q
              · have HS := hide (show pts (ys2.take k) ++ runL p (n + 1) = (pts (ys2.take k) ++ runL p n) ++ [p + (n : Int)] by rw [runL_succ, List.append_assoc])
                generalize pts (ys2.take k) ++ runL p n = zs at *
                go_wp2_with (at_builtin; (refine append_int1 rfl _ _ rfl w.heap.size A4 c4 zs _ rfl rfl (p + (n : Int)) _ rfl _ rfl (by simp) hown4 (by omega) hb4.size ?_)
                             intro g' c' w5 hown5 hg' hgrow hrow)
                go_roundw
                case rel =>
                  refine ⟨n + 1, some ⟨g', 0, none⟩, c', by omega, by go_num, ?_, ?_, ?_, ?_⟩
                  · rw [HS.out]; simp
                  · rw [HS.out]; exact hown5
                  · exact rows_apart hoy4 hown4 hgrow
                  · exact (hb4.alloc hb4.size _).grown hgrow (by have := hb4.size; simp; omega) hrow
                case measure => simp [intOf]; omega
              · have he := HE.out n (by omega)
                rw [he] at hown4 ⊢
                clear he
                go_wp2_with fail
                go_roundw
                case rel => exact ⟨k + 1, A4, c4, by omega, by go_num, rfl, hown4, hoy4, hb4⟩
                case measure => simp [intOf]; omega
          · have hke : k = ys2.length := by omega
            subst hke
            rw [List.take_length] at hown ⊢
            go_wp2_with fail
            go_ret2
            exact ⟨ys2, A3, c3, pts ys2, 0, ny, HMY.out, .inr (.inr ⟨by omega, by omega, rfl, rfl⟩), rfl, hown, hb⟩

/-- equal lists of integers -/
def IntsRel (w : World) (xs : List Int) (i : Value) (wr : World) : Prop := ∃ k : Nat, k ≤ xs.length ∧ i = .int .i64 k ∧ Below w.heap.size w wr
set_option maxHeartbeats 1000000 in
theorem ints_same (A B : Option Addr) (c d : Nat) (xs : List Int) (w : World) (hx : IntsAt w w.heap.size A xs) (hy : IntsAt w w.heap.size B xs) (hl : xs.length ≤ 4398046511104) :
    Calls Try.prog 45 #[.slice A xs.length c, .slice B xs.length d] w fun e w' => e = .returned (.bool true) ∧ Below w.heap.size w w' := by
  go_enter Try.func45, Try.ntmps45
  go_wp2_with fail
  go_loopw [5] (fun i wr => IntsRel w xs i wr) (fun i _ => xs.length - (intOf i).toNat)
  case atStart => exact ⟨0, Nat.zero_le _, rfl, Below.refl _ _⟩
  case round =>
    obtain ⟨k, hk, rfl, hb⟩ := hrel
    by_cases hlt : k < xs.length
    · obtain ⟨b, off, rfl, hbb, hc1⟩ := (hx.below hb).at_ hlt
      obtain ⟨b', off', rfl, hbb', hc1'⟩ := (hy.below hb).at_ hlt
      have hd1 : decide ((k : Int) < (xs.length : Int)) = true := decide_eq_true (by omega)
      have hq0 : (0 : Int) ≤ (k : Int) := by omega
      go_wp2_with fail
      go_quiet (fail)
      go_wp2_with fail
      go_roundw
      case rel => exact ⟨k + 1, by omega, by go_num, below_drewN hb _⟩
      case measure => simp [intOf]; omega
    · go_wp2_with fail
      go_ret
      exact ⟨rfl, hb⟩

end Go.Proofs.Ythgglblbjghamaa
