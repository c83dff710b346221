/-
  The reference's Combine: the normal list of the times whose membership in two sets satisfies a rule.
-/
import Derived.Test.YtkbiefklilelmaaRefCuts
import Derived.Test.YtkbiefklilelmaaCombine
import Derived.Deep.RegionLaw
import Derived.IntWalk
namespace Go.Proofs.Ytkbiefklilelmaa
open Go.RowKit Go.Joins

/-- the law of append_iv in a region that draws its order -/
theorem step_append_iv {ops : Array Oper} {o : Oper} {a : Act} {K : Act → World → Prop} {Q : Exit → Act → World → Prop} {E : Prop} {w : World} (hgd : o.guard = none) (s x : Operand)
    (ho : o.op = .call { callee := .builtin .append, args := #[s, x], argTypes := #[22, 22] })
    (base : Nat) (A : Option Addr) (c : Nat) (xs : List Iv) (n : Nat) (hs : a.eval s = .slice A n c) (hn : n = xs.length) (p q : Int)
    (N : Nat) (hx : a.eval x = .slice (some ⟨N, 0, none⟩) 1 1) (wp : World) (hw : w.heap = wp.heap.push (.cells #[.int .i64 p, .int .i64 q] 42)) (hN : N = wp.heap.size)
    (hown : OwnIv wp base A c xs) (hlen : xs.length ≤ 4398046511104) (hbase : base ≤ wp.heap.size)
    (h : ∀ (g c' : Nat) (w' : World) (row : Option Nat), OwnIv w' base (some ⟨g, 0, none⟩) c' (xs ++ [(p, q)]) → base ≤ g → w.grownBy w' row → (∀ k, row = some k → base ≤ k) →
      K (a.put o.dst (.slice (some ⟨g, 0, none⟩) (n + 1) c')) w') :
    if Region.wanted o (yielded ops a.tmps) = true then Oper.wp Try.prog o a w K Q else E := by
  have hwt : Region.wanted o (yielded ops a.tmps) = true := by simp [Region.wanted, hgd]
  rw [if_pos hwt]
  subst hn hN
  obtain ⟨i0, hi0, hz0, hz1, hz2⟩ := info_parts infoIv
  refine wp_append_own _ s x 22 ho base 42 i0 _ 2 16 Try.underlying22 hi0 hz0 hz1 hz2 rfl (by decide) _ xs.length (encIvs xs) hs (own_push hown hw)
    ⟨wp.heap.size, 0, none⟩ 1 1 [.int .i64 p, .int .i64 q] hx rfl (fun j u hu => by rw [cells_push hw]; simpa using hu) (by simp [Value.oneCell']) (by simp only [maxLen]; omega) (by omega) (by rw [hw]; simp; omega) ?_
  intro v' w' ho' hg _
  obtain ⟨A', c', rfl, ho''⟩ := OwnIv.of_row (xs := xs ++ [(p, q)]) ho' (by simp) (by rw [encIvs_snoc])
  rcases ho''.form with ⟨_, _, h3⟩ | ⟨g, rfl, h1, _⟩
  · simp at h3
  · have := h g c' w' _ ho'' h1 hg hown.block
    simpa using this

def RefComb (w : World) (r : Int) (a b : List Iv) (ps : List Int) (out i : Value) (wr : World) : Prop :=
  ∃ (k : Nat) (A : Option Addr) (c : Nat) (ys : List Iv), k + 1 ≤ ps.length ∧ i = .int .i64 k ∧ out = .slice A ys.length c ∧ OwnIv wr w.heap.size A c ys ∧ RefInv (fun t => rl r (memT a t) (memT b t)) ys (ps.getD k 0) ∧ Below w.heap.size w wr
def RefTest (w0 : World) (x : Bool) (v : Value) (w : World) : Prop := ∃ q : Nat, v = .bool x ∧ w = w0.drewN q

theorem quiet_add_left {P : Program} {f : FuncId} {args : Array Value} {w : World} {a n : Nat} {v : Value}
    (h : Calls P f args (w.drewN (a + n)) fun e w' => e = .returned v ∧ w.drewN (a + n) = w') : Calls P f args (w.drewN (a + n)) fun e w'' => e = .returned v ∧ ∃ m, w'' = w.drewN (a + m) :=
  h.mono fun _ _ ⟨he, hm⟩ => ⟨he, n, hm.symm⟩

set_option maxRecDepth 100000 in
set_option maxHeartbeats 4000000 in
theorem refCombine_any (r : Int) (hr : r = 0 ∨ r = 1 ∨ r = 2) (A B : Option Addr) (c d : Nat) (a b : List Iv) (w : World) (ha : IvsAt w w.heap.size A a) (hb : IvsAt w w.heap.size B b) (hla : a.length ≤ 1000000000000) (hlb : b.length ≤ 1000000000000) :
    Calls Try.prog 72 #[.slice A a.length c, .slice B b.length d, .int .i64 r] w (RetIvs w fun t => 0 ≤ t ∧ t ≤ 1099511627776 ∧ rl r (memT a t) (memT b t) = true) := by
  go_enter Try.func72, Try.ntmps72
  go_wp2_with fail
  refine (refCuts_any A B c d a b _ ha hb hla hlb).mono ?_
  rintro e w1 ⟨bp, offp, cp, ps, rfl, hps, hok, hpl, hb1⟩
  have ra := ha.step hb1
  have rb := hb.step hb1
  have HOK := hide hok
  have hpos := hok.pos
  rw [List.length_append] at hpl
  clear hok ha hb
  go_wp2_with fail
  go_loopw [8, 9] (fun out i wr => RefComb w1 r a b ps out i wr) (fun _ i _ => ps.length - (intOf i).toNat)
  case atStart => exact ⟨0, none, 0, [], by omega, rfl, rfl, OwnIv.nil _ _, by rw [HOK.out.first]; exact RefInv.start _, Below.refl _ _⟩
  case round =>
    obtain ⟨k, A2, c2, ys, hk, rfl, rfl, hown, hinv, hbr⟩ := hrel
    by_cases hlt : k + 1 < ps.length
    · obtain ⟨b1, o1, e1, _, hc1⟩ := (hps.below hbr).at_ (k := k) (by omega)
      obtain ⟨b2, o2, e2, _, hc2⟩ := (hps.below hbr).at_ (k := k + 1) hlt
      injection e1 with e1
      injection e1 with e11 e12
      injection e2 with e2
      injection e2 with e21 e22
      subst e11 e12 e21 e22
      have HT : ps.getD k 0 = ps[k] := getD_get (by omega)
      have HT' : ps.getD (k + 1) 0 = ps[k + 1] := getD_get hlt
      have r1 := HOK.out.range ps[k] (List.getElem_mem _)
      have r2 := HOK.out.range ps[k + 1] (List.getElem_mem _)
      have hmono := getD_mono HOK.out.sorted (Nat.lt_succ_self k) hlt
      have hconst : ∀ t, ps[k] ≤ t → t < ps[k + 1] → rl r (memT a t) (memT b t) = rl r (memT a ps[k]) (memT b ps[k]) := by
        intro t h1 h2
        rw [← HT] at h1 ⊢
        rw [← HT'] at h2
        rw [(HOK.out.mono (l' := a) (fun x hx => by simp [hx])).const hlt h1 h2, (HOK.out.mono (l' := b) (fun x hx => by simp [hx])).const hlt h1 h2]
      rw [HT, HT'] at hmono
      rw [HT] at hinv
      have HTH := hide HT'
      have HINV := hide hinv
      have HCO := hide hconst
      have hyl := norm_len hinv.1
      have HNY := hide hinv.1
      clear HT HT' hinv hconst
      generalize ps[k] = p at *
      generalize ps[k + 1] = p' at *
      have hd1 : decide ((k : Int) + 1 < (ps.length : Int)) = true := decide_eq_true (by omega)
      go_wp2_with fail
      go_quiet ((first | (go_at_call_of 49 (Value.slice A a.length c); exact quiet_left (refIn_any A c a p _ w1.heap.size ((ra.below hbr).drewN _) (by omega))) | (go_at_call_of 49 (Value.slice B b.length d); exact quiet_left (refIn_any B d b p _ w1.heap.size ((rb.below hbr).drewN _) (by omega)))))
      go_upto_region 7 with fail
      generalize hx : memT a p = x at *
      generalize hy : memT b p = y at *
      have HX := hide hx
      have HY := hide hy
      clear hx hy
      go_cut [12] (fun v wx => v = .bool (x || y) ∧ wr.drewN nq = wx)
      case first =>
        cases x <;> cases y <;> (go_wp2_with fail; go_meet; exact ⟨rfl, rfl⟩)
      case rest =>
        obtain ⟨rfl, rfl⟩ := hcut
        go_upto_if 41 with fail
        go_cut [12] (fun v wx => v = .bool (if r = 1 then x && y else x || y) ∧ wr.drewN nq = wx)
        case first =>
          rcases hr with rfl | rfl | rfl <;> cases x <;> cases y <;> (go_wp2_with fail; go_meet; exact ⟨rfl, rfl⟩)
        case rest =>
          obtain ⟨rfl, rfl⟩ := hcut
          go_upto_if 47 with fail
          go_cut [12] (fun v wx => v = .bool (rl r x y) ∧ wr.drewN nq = wx)
          case first =>
            rcases hr with rfl | rfl | rfl <;> cases x <;> cases y <;> (go_wp2_with fail; go_meet; exact ⟨rfl, rfl⟩)
          case rest =>
            obtain ⟨rfl, rfl⟩ := hcut
            have HRP := hide (show (fun t => rl r (memT a t) (memT b t)) p = rl r x y by simp only [HX.out, HY.out])
            have HC : ∀ t, p ≤ t → t < p' → (fun t => rl r (memT a t) (memT b t)) t = (fun t => rl r (memT a t) (memT b t)) p := fun t h1 h2 => (HCO.out t h1 h2).trans HRP.out.symm
            have HC' := hide HC
            clear HC
            cases hrl : rl r x y
            · have HRL := hide hrl
              clear hrl
              go_wp2_with fail
              go_roundw
              case rel =>
                refine ⟨k + 1, A2, c2, ys, by omega, by go_num, rfl, hown.drewN _, ?_, below_drewN hbr _⟩
                rw [HTH.out]
                exact HINV.out.skip hmono HC'.out (HRP.out.trans HRL.out)
              case measure => simp [intOf]; omega
            · have HRL := hide hrl
              clear hrl
              rcases snoc_cases ys with rfl | ⟨init, z, rfl⟩
              · have hd0 : decide ((0 : Int) < 0) = false := by decide
                go_wp2_with fail
                go_quiet (fail)
                go_wp2_with fail
                have hk1 : k < ps.length := by omega
                have hk2 : (k : Int) + 1 < (ps.length : Int) := by omega
                have q1 : IntKind.i64.wrap ((k : Int) + 1) = (k : Int) + 1 := IntWalk.i64_in _ (by omega)
                have q2 : (0 : Int) ≤ (k : Int) + 1 := by omega
                have q4 : IntKind.i64.wrap (p' - 1) = p' - 1 := IntWalk.i64_in _ (by omega)
                have q3 : ((k : Int) + 1).toNat = k + 1 := by omega
                go_region_law (refine step_append_iv rfl _ _ rfl w1.heap.size A2 c2 [] _ rfl (by simp) p (p' - 1) _ rfl _ rfl (by simp) (by exact hown) (by simp) (by exact hbr.size) ?_; intro g' c' w3 row hown3 hg' hgrow hrow)
                all_goals
                  clear q1 q2 q3 q4
                  go_wp2_with fail
                  go_roundw
                  case rel =>
                    refine ⟨k + 1, some ⟨g', 0, none⟩, c', [] ++ [(p, p' - 1)], by omega, by go_num, by simp, hown3, ?_, ((below_drewN hbr _).alloc (by exact hbr.size) _).grown hgrow (by have := hbr.size; simp; omega) hrow⟩
                    rw [HTH.out]
                    exact HINV.out.push r1.1 hmono r2.2 HC'.out (HRP.out.trans HRL.out) (by simp)
                  case measure => simp [intOf]; omega
              · obtain ⟨g, rfl, hgb, hgl, hz1, hz2, hzf⟩ := hown.last
                have hoz := HNY.out.1 z (by simp)
                unfold Okv at hoz
                have el : (init ++ [z]).length = init.length + 1 := by simp
                have hd0 : decide ((0 : Int) < init.length + 1) = true := decide_eq_true (by omega)
                by_cases hze : z.2 = p - 1
                · have hbe : (z.2 == p - 1) = true := by simp [hze]
                  have HZE := hide hze
                  clear hze
                  go_wp2_with fail
                  go_quiet (fail)
                  go_wp2_with fail
                  go_roundw
                  case rel =>
                    refine ⟨k + 1, some ⟨g, 0, none⟩, c2, init ++ [(z.1, p' - 1)], by omega, by go_num, by simp, (hown.drewN _).set_last _, ?_, (below_drewN hbr _).setCell (p := ⟨g, init.length * 2 + 1, none⟩) hgb _⟩
                    rw [HTH.out]
                    exact HINV.out.more hmono r2.2 HC'.out (HRP.out.trans HRL.out) HZE.out
                  case measure => simp [intOf]; omega
                · have hbe : (z.2 == p - 1) = false := by simp [hze]
                  have HZE := hide hze
                  clear hze
                  go_wp2_with fail
                  go_quiet (fail)
                  go_wp2_with fail
                  have hk1 : k < ps.length := by omega
                  have hk2 : (k : Int) + 1 < (ps.length : Int) := by omega
                  have q1 : IntKind.i64.wrap ((k : Int) + 1) = (k : Int) + 1 := IntWalk.i64_in _ (by omega)
                  have q2 : (0 : Int) ≤ (k : Int) + 1 := by omega
                  have q4 : IntKind.i64.wrap (p' - 1) = p' - 1 := IntWalk.i64_in _ (by omega)
                  have q3 : ((k : Int) + 1).toNat = k + 1 := by omega
                  go_region_law (refine step_append_iv rfl _ _ rfl w1.heap.size _ c2 (init ++ [z]) _ rfl (by simp) p (p' - 1) _ rfl _ rfl (by simp) (by exact hown) (by omega) (by exact hbr.size) ?_; intro g' c' w3 row hown3 hg' hgrow hrow)
                  all_goals
                    clear q1 q2 q3 q4
                    go_wp2_with fail
                    go_roundw
                    case rel =>
                      refine ⟨k + 1, some ⟨g', 0, none⟩, c', (init ++ [z]) ++ [(p, p' - 1)], by omega, by go_num, by simp, hown3, ?_, ((below_drewN hbr _).alloc (by exact hbr.size) _).grown hgrow (by have := hbr.size; simp; omega) hrow⟩
                      rw [HTH.out]
                      exact HINV.out.push r1.1 hmono r2.2 HC'.out (HRP.out.trans HRL.out) (HINV.out.last_ne HZE.out)
                    case measure => simp [intOf]; omega
    · have hdn : decide ((k : Int) + 1 < (ps.length : Int)) = false := decide_eq_false (by omega)
      rw [HOK.out.end_ (by omega)] at hinv
      go_wp2_with fail
      go_ret
      refine ⟨A2, c2, ys, rfl, hown.lower hb1.size, bstep hb1 hbr, hinv.1, fun t => ?_⟩
      rw [hinv.2.2]
      constructor
      · rintro ⟨h1, h2, h3, h4⟩; exact ⟨h1, h2, h4⟩
      · rintro ⟨h1, h2, h4⟩; exact ⟨h1, h2, by omega, h4⟩
end Go.Proofs.Ytkbiefklilelmaa
