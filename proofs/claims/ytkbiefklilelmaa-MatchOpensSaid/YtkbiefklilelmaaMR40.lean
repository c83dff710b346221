/-
  Several texts in one: RefCuts, RefCombine. Each says at its head what it holds.
-/
import Derived.Test.YtkbiefklilelmaaMR39
import Derived.Test.YtkbiefklilelmaaMR18
import Derived.Deep.RegionLaw
import Derived.IntWalk

/-
  The reference's cuts.
-/
namespace Go.Proofs.Ytkbiefklilelmaa
open Go.RowKit Go.Joins

def RefCutsRel (w : World) (l : List Iv) (out i : Value) (wr : World) : Prop :=
  ∃ (k b off c : Nat) (ps : List Int), k ≤ l.length ∧ i = .int .i64 k ∧ out = .slice (some ⟨b, off, none⟩) ps.length c ∧ IntsAt wr wr.heap.size (some ⟨b, off, none⟩) ps ∧ ps.length ≤ c ∧ CutsOk (l.take k) ps ∧ ps.length ≤ 2 + 2 * k ∧ Below w.heap.size w wr

def RetCuts (w : World) (l : List Iv) (e : Ending) (w' : World) : Prop :=
  ∃ (b off c : Nat) (ps : List Int), e = .returned (.slice (some ⟨b, off, none⟩) ps.length c) ∧ IntsAt w' w'.heap.size (some ⟨b, off, none⟩) ps ∧ CutsOk l ps ∧ ps.length ≤ 2 + 2 * l.length ∧ Below w.heap.size w w'

theorem intsAt_block {w : World} {g B : Nat} {cs : Array Value} {t : TypeId} {zs : List Int} (h : w.heap[g]? = some (.cells cs t (0, 0))) (hcs : cs.toList = zs.map (Value.int .i64)) (hB : g < B) : IntsAt w B (some ⟨g, 0, none⟩) zs := fun _ => by
  refine ⟨g, 0, rfl, hB, fun i z hi => ?_⟩
  rw [Nat.zero_add, cell_of_row w g _ cs t (0, 0) h, ← Array.getElem?_toList, hcs, List.getElem?_map, hi]
  rfl

set_option maxHeartbeats 2000000 in
theorem refCuts_any (A B : Option Addr) (c d : Nat) (a b : List Iv) (w : World) (ha : IvsAt w w.heap.size A a) (hb : IvsAt w w.heap.size B b) (hla : a.length ≤ 1000000000000) (hlb : b.length ≤ 1000000000000) :
    Calls Try.prog 92 #[.slice A a.length c, .slice B b.length d] w (RetCuts w (a ++ b)) := by
  go_enter Try.func92, Try.ntmps92
  go_upto_region 2 with fail
  have hb0 : Below w.heap.size w (w.alloc (.cells #[.int .i64 0, .int .i64 1099511627777] 3)) := (Below.refl _ _).alloc (Nat.le_refl _) _
  have hp0 : IntsAt (w.alloc (.cells #[.int .i64 0, .int .i64 1099511627777] 3)) (w.alloc (.cells #[.int .i64 0, .int .i64 1099511627777] 3)).heap.size (some ⟨w.heap.size, 0, none⟩) [0, 1099511627777] := intsAt_block (heap_alloc_new w _) rfl (by simp)
  have ha0 := ha.step hb0
  have hb1 := hb.step hb0
  obtain ⟨W0, hW0⟩ : ∃ W0 : World, w.alloc (.cells #[.int .i64 0, .int .i64 1099511627777] 3) = W0 := ⟨_, rfl⟩
  rw [hW0] at hb0 hp0 ha0 hb1 ⊢
  clear hW0 ha hb
  go_upto_region 3 with (first | (at_builtin; (refine append_ivs rfl (.tmp 12) (.tmp 13) rfl W0.heap.size _ 0 [] _ rfl rfl (OwnIv.empty _ _ (Nat.le_refl _)) A a.length c _ a rfl rfl (ha0.alloc _) (by omega) (by simp) ?_); intro A2 c2 w2 row2 own2 hg2 hr2; have hb2 : Below W0.heap.size W0 w2 := ((Below.refl _ _).alloc (Nat.le_refl _) _).grown hg2 (by simp) hr2) | (at_builtin; (refine append_ivs rfl (.tmp 14) (.tmp 15) rfl W0.heap.size A2 c2 a _ rfl (by simp) own2 B b.length d _ b rfl rfl (hb1.step hb2) (by omega) hb2.size ?_); intro A3 c3 w3 row3 own3 hg3 hr3; have hb3 : Below W0.heap.size W0 w3 := hb2.grown hg3 hb2.size hr3))
  have rL := own3.ats
  have hlL : (a ++ b).length ≤ 2000000000000 := by rw [List.length_append]; omega
  rw [← List.length_append]
  generalize hL : a ++ b = L at rL hlL ⊢
  have HL := hide hL
  clear hL
  have hbW : Below w.heap.size w w3 := bstep hb0 hb3
  have hp3 := hp0.step hb3
  clear hp0 ha0 hb1 own2 own3 hg2 hg3 hb0 hb2 hb3
  go_wp2
  go_loopw [5, 7] (fun out i wr => RefCutsRel w3 L out i wr) (fun _ i _ => L.length - (intOf i).toNat)
  case atStart => exact ⟨0, w.heap.size, 0, 2, [0, 1099511627777], Nat.zero_le _, rfl, rfl, hp3, by simp, by simpa using CutsOk.start, by simp, Below.refl _ _⟩
  case round =>
    obtain ⟨k, b', off', c', ps, hk, rfl, rfl, hps, hc', hok, hpl, hbr⟩ := hrel
    by_cases hlt : k < L.length
    · obtain ⟨bl, offl, rfl, hbl, hc1, hc2⟩ := (rL.below hbr).at_ hlt
      have HOK := hide hok
      have hso := hok.sorted
      have hpos := hok.pos
      clear hok
      by_cases hx : max L[k].1 0 ≤ min L[k].2 1099511627776
      · have hd0 : decide (max L[k].1 0 ≤ min L[k].2 1099511627776) = true := decide_eq_true hx
        have HX := hide hx
        have HD0 := hide hd0
        clear hx hd0
        go_wp2_with fail
        refine (bounds_any L[k].1 L[k].2 _).mono ?_
        rintro e w4 ⟨rfl, hb4⟩
        rw [HD0.out]
        have hmn : 0 ≤ min L[k].2 1099511627776 := by have := HX.out; omega
        have hmx : min L[k].2 1099511627776 ≤ 1099511627776 := by omega
        go_wp2_with fail
        refine (add_any b' off' c' ps (max L[k].1 0) _ (hps.step hb4) hc' (by omega) (fun e => by rw [e] at hpos; simp at hpos) hso).mono ?_
        rintro e w5 ⟨b5, off5, c5, ps5, rfl, h5, hc5, hb5, hs5, hm5, hl5, hn5⟩
        have HM5 := hide hm5
        clear hm5
        go_wp2_with fail
        refine (add_any b5 off5 c5 ps5 (min L[k].2 1099511627776 + 1) _ h5 hc5 (by omega) hn5 hs5).mono ?_
        rintro e w6 ⟨b6, off6, c6, ps6, rfl, h6, hc6, hb6, hs6, hm6, hl6, hn6⟩
        have HM6 := hide hm6
        clear hm6
        go_wp2_with fail
        go_roundw
        case rel =>
          refine ⟨k + 1, b6, off6, c6, ps6, by omega, by go_num, rfl, h6, hc6, ?_, by omega, bstep (bstep (bstep hbr hb4) hb5) hb6⟩
          rw [List.take_succ_eq_append_getElem hlt]
          refine HOK.out.add HX.out hs6 fun u => ?_
          rw [HM6.out, HM5.out]
          constructor
          · rintro (h | h | h)
            · exact .inr (.inl h)
            · exact .inl h
            · exact .inr (.inr h)
          · rintro (h | h | h)
            · exact .inr (.inl h)
            · exact .inl h
            · exact .inr (.inr h)
        case measure => simp [intOf]; omega
      · have hd0 : decide (max L[k].1 0 ≤ min L[k].2 1099511627776) = false := decide_eq_false hx
        have HX := hide hx
        have HD0 := hide hd0
        clear hx hd0
        go_wp2_with fail
        refine (bounds_any L[k].1 L[k].2 _).mono ?_
        rintro e w4 ⟨rfl, hb4⟩
        rw [HD0.out]
        go_wp2_with fail
        go_roundw
        case rel =>
          refine ⟨k + 1, b', off', c', ps, by omega, by go_num, rfl, hps.step hb4, hc', ?_, by omega, bstep hbr hb4⟩
          rw [List.take_succ_eq_append_getElem hlt]
          exact HOK.out.skip (by have := HX.out; omega)
        case measure => simp [intOf]; omega
    · have hke : k = L.length := by omega
      subst hke
      rw [List.take_length] at hok
      go_wp2
      go_ret
      exact ⟨b', off', c', ps, rfl, hps, by rw [HL.out]; exact hok, by rw [HL.out]; exact hpl, bstep hbW hbr⟩
end Go.Proofs.Ytkbiefklilelmaa

/-
  The reference's Combine: the normal list of the times whose membership in two sets satisfies a rule.
-/
namespace Go.Proofs.Ytkbiefklilelmaa
open Go.RowKit Go.Joins

/-- the law of append_iv in a region that draws its order -/
theorem step_append_iv {ops : Array Oper} {o : Oper} {a : Act} {K : Act → World → Prop} {Q : Exit → Act → World → Prop} {E : Prop} {w : World} (hgd : o.guard = none) (s x : Operand)
    (ho : o.op = .call { callee := .builtin .append, args := #[s, x], argTypes := #[22, 22] })
    (base : Nat) (A : Option Addr) (c : Nat) (xs : List Iv) (n : Nat) (hs : a.eval s = .slice A n c) (hn : n = xs.length) (p q : Int)
    (N : Nat) (hx : a.eval x = .slice (some ⟨N, 0, none⟩) 1 1) (wp : World) (hw : w.heap = wp.heap.push (.cells #[.int .i64 p, .int .i64 q] 42)) (hN : N = wp.heap.size)
    (hown : OwnIv wp base A c xs) (hlen : xs.length ≤ 4398046511104) (hbase : base ≤ wp.heap.size)
    (h : ∀ (g c' : Nat) (w' : World) (row : Option Nat), OwnIv w' base (some ⟨g, 0, none⟩) c' (xs ++ [(p, q)]) → base ≤ g → w.grownBy w' row → (∀ k, row = some k → base ≤ k) →
      K (a.put o.dst (.slice (some ⟨g, 0, none⟩) (n + 1) c')) w') :
    if Region.wanted o (yielded ops a.tmps) = true then Oper.wp Try.prog o a w K Q else E := by
  have hwt : Region.wanted o (yielded ops a.tmps) = true := by simp [Region.wanted, hgd]
  rw [if_pos hwt]
  subst hn hN
  obtain ⟨i0, hi0, hz0, hz1, hz2⟩ := info_parts infoIv
  refine wp_append_own _ s x 22 ho base 42 i0 _ 2 16 Try.underlying22 hi0 hz0 hz1 hz2 rfl (by decide) _ xs.length (encIvs xs) hs (own_push hown hw)
    ⟨wp.heap.size, 0, none⟩ 1 1 [.int .i64 p, .int .i64 q] hx rfl (fun j u hu => by rw [cells_push hw]; simpa using hu) (by simp [Value.oneCell']) (by simp only [maxLen]; omega) (by omega) (by rw [hw]; simp; omega) ?_
  intro v' w' ho' hg _
  obtain ⟨A', c', rfl, ho''⟩ := OwnIv.of_row (xs := xs ++ [(p, q)]) ho' (by simp) (by rw [encIvs_snoc])
  rcases ho''.form with ⟨_, _, h3⟩ | ⟨g, rfl, h1, _⟩
  · simp at h3
  · have := h g c' w' _ ho'' h1 hg hown.block
    simpa using this

def RefComb (w : World) (r : Int) (a b : List Iv) (ps : List Int) (out i : Value) (wr : World) : Prop :=
  ∃ (k : Nat) (A : Option Addr) (c : Nat) (ys : List Iv), k + 1 ≤ ps.length ∧ i = .int .i64 k ∧ out = .slice A ys.length c ∧ OwnIv wr w.heap.size A c ys ∧ RefInv (fun t => rl r (memT a t) (memT b t)) ys (ps.getD k 0) ∧ Below w.heap.size w wr
def RefTest (w0 : World) (x : Bool) (v : Value) (w : World) : Prop := ∃ q : Nat, v = .bool x ∧ w = w0.drewN q

theorem quiet_add_left {P : Program} {f : FuncId} {args : Array Value} {w : World} {a n : Nat} {v : Value}
    (h : Calls P f args (w.drewN (a + n)) fun e w' => e = .returned v ∧ w.drewN (a + n) = w') : Calls P f args (w.drewN (a + n)) fun e w'' => e = .returned v ∧ ∃ m, w'' = w.drewN (a + m) :=
  h.mono fun _ _ ⟨he, hm⟩ => ⟨he, n, hm.symm⟩

set_option maxRecDepth 100000 in
set_option maxHeartbeats 4000000 in
theorem refCombine_any (r : Int) (hr : r = 0 ∨ r = 1 ∨ r = 2) (A B : Option Addr) (c d : Nat) (a b : List Iv) (w : World) (ha : IvsAt w w.heap.size A a) (hb : IvsAt w w.heap.size B b) (hla : a.length ≤ 1000000000000) (hlb : b.length ≤ 1000000000000) :
    Calls Try.prog 72 #[.slice A a.length c, .slice B b.length d, .int .i64 r] w (RetIvs w fun t => 0 ≤ t ∧ t ≤ 1099511627776 ∧ rl r (memT a t) (memT b t) = true) := by
  go_enter Try.func72, Try.ntmps72
  go_wp2_with fail
  refine (refCuts_any A B c d a b _ ha hb hla hlb).mono ?_
  rintro e w1 ⟨bp, offp, cp, ps, rfl, hps, hok, hpl, hb1⟩
  have ra := ha.step hb1
  have rb := hb.step hb1
  have HOK := hide hok
  have hpos := hok.pos
  rw [List.length_append] at hpl
  clear hok ha hb
  go_wp2_with fail
  go_loopw [8, 9] (fun out i wr => RefComb w1 r a b ps out i wr) (fun _ i _ => ps.length - (intOf i).toNat)
  case atStart => exact ⟨0, none, 0, [], by omega, rfl, rfl, OwnIv.nil _ _, by rw [HOK.out.first]; exact RefInv.start _, Below.refl _ _⟩
  case round =>
    obtain ⟨k, A2, c2, ys, hk, rfl, rfl, hown, hinv, hbr⟩ := hrel
    by_cases hlt : k + 1 < ps.length
    · obtain ⟨b1, o1, e1, _, hc1⟩ := (hps.below hbr).at_ (k := k) (by omega)
      obtain ⟨b2, o2, e2, _, hc2⟩ := (hps.below hbr).at_ (k := k + 1) hlt
      injection e1 with e1
      injection e1 with e11 e12
      injection e2 with e2
      injection e2 with e21 e22
      subst e11 e12 e21 e22
      have HT : ps.getD k 0 = ps[k] := getD_get (by omega)
      have HT' : ps.getD (k + 1) 0 = ps[k + 1] := getD_get hlt
      have r1 := HOK.out.range ps[k] (List.getElem_mem _)
      have r2 := HOK.out.range ps[k + 1] (List.getElem_mem _)
      have hmono := getD_mono HOK.out.sorted (Nat.lt_succ_self k) hlt
      have hconst : ∀ t, ps[k] ≤ t → t < ps[k + 1] → rl r (memT a t) (memT b t) = rl r (memT a ps[k]) (memT b ps[k]) := by
        intro t h1 h2
        rw [← HT] at h1 ⊢
        rw [← HT'] at h2
        rw [(HOK.out.mono (l' := a) (fun x hx => by simp [hx])).const hlt h1 h2, (HOK.out.mono (l' := b) (fun x hx => by simp [hx])).const hlt h1 h2]
      rw [HT, HT'] at hmono
      rw [HT] at hinv
      have HTH := hide HT'
      have HINV := hide hinv
      have HCO := hide hconst
      have hyl := norm_len hinv.1
      have HNY := hide hinv.1
      clear HT HT' hinv hconst
      generalize ps[k] = p at *
      generalize ps[k + 1] = p' at *
      have hd1 : decide ((k : Int) + 1 < (ps.length : Int)) = true := decide_eq_true (by omega)
      go_wp2_with fail
      go_quiet ((first | (go_at_call_of 49 (Value.slice A a.length c); exact quiet_left (refIn_any A c a p _ w1.heap.size ((ra.below hbr).drewN _) (by omega))) | (go_at_call_of 49 (Value.slice B b.length d); exact quiet_left (refIn_any B d b p _ w1.heap.size ((rb.below hbr).drewN _) (by omega)))))
      go_upto_region 7 with fail
      generalize hx : memT a p = x at *
      generalize hy : memT b p = y at *
      have HX := hide hx
      have HY := hide hy
      clear hx hy
      go_cut [12] (fun v wx => v = .bool (x || y) ∧ wr.drewN nq = wx)
      case first =>
        cases x <;> cases y <;> (go_wp2_with fail; go_meet; exact ⟨rfl, rfl⟩)
      case rest =>
        obtain ⟨rfl, rfl⟩ := hcut
        go_upto_if 41 with fail
        go_cut [12] (fun v wx => v = .bool (if r = 1 then x && y else x || y) ∧ wr.drewN nq = wx)
        case first =>
          rcases hr with rfl | rfl | rfl <;> cases x <;> cases y <;> (go_wp2_with fail; go_meet; exact ⟨rfl, rfl⟩)
        case rest =>
          obtain ⟨rfl, rfl⟩ := hcut
          go_upto_if 47 with fail
          go_cut [12] (fun v wx => v = .bool (rl r x y) ∧ wr.drewN nq = wx)
          case first =>
            rcases hr with rfl | rfl | rfl <;> cases x <;> cases y <;> (go_wp2_with fail; go_meet; exact ⟨rfl, rfl⟩)
          case rest =>
            obtain ⟨rfl, rfl⟩ := hcut
            have HRP := hide (show (fun t => rl r (memT a t) (memT b t)) p = rl r x y by simp only [HX.out, HY.out])
            have HC : ∀ t, p ≤ t → t < p' → (fun t => rl r (memT a t) (memT b t)) t = (fun t => rl r (memT a t) (memT b t)) p := fun t h1 h2 => (HCO.out t h1 h2).trans HRP.out.symm
            have HC' := hide HC
            clear HC
            cases hrl : rl r x y
            · have HRL := hide hrl
              clear hrl
              go_wp2_with fail
              go_roundw
              case rel =>
                refine ⟨k + 1, A2, c2, ys, by omega, by go_num, rfl, hown.drewN _, ?_, below_drewN hbr _⟩
                rw [HTH.out]
                exact HINV.out.skip hmono HC'.out (HRP.out.trans HRL.out)
              case measure => simp [intOf]; omega
            · have HRL := hide hrl
              clear hrl
              rcases snoc_cases ys with rfl | ⟨init, z, rfl⟩
              · have hd0 : decide ((0 : Int) < 0) = false := by decide
                go_wp2_with fail
                go_quiet (fail)
                go_wp2_with fail
                have hk1 : k < ps.length := by omega
                have hk2 : (k : Int) + 1 < (ps.length : Int) := by omega
                have q1 : IntKind.i64.wrap ((k : Int) + 1) = (k : Int) + 1 := IntWalk.i64_in _ (by omega)
                have q2 : (0 : Int) ≤ (k : Int) + 1 := by omega
                have q4 : IntKind.i64.wrap (p' - 1) = p' - 1 := IntWalk.i64_in _ (by omega)
                have q3 : ((k : Int) + 1).toNat = k + 1 := by omega
                go_region_law (refine step_append_iv rfl _ _ rfl w1.heap.size A2 c2 [] _ rfl (by simp) p (p' - 1) _ rfl _ rfl (by simp) (by exact hown) (by simp) (by exact hbr.size) ?_; intro g' c' w3 row hown3 hg' hgrow hrow)
                all_goals
                  clear q1 q2 q3 q4
                  go_wp2_with fail
                  go_roundw
                  case rel =>
                    refine ⟨k + 1, some ⟨g', 0, none⟩, c', [] ++ [(p, p' - 1)], by omega, by go_num, by simp, hown3, ?_, ((below_drewN hbr _).alloc (by exact hbr.size) _).grown hgrow (by have := hbr.size; simp; omega) hrow⟩
                    rw [HTH.out]
                    exact HINV.out.push r1.1 hmono r2.2 HC'.out (HRP.out.trans HRL.out) (by simp)
                  case measure => simp [intOf]; omega
              · obtain ⟨g, rfl, hgb, hgl, hz1, hz2, hzf⟩ := hown.last
                have hoz := HNY.out.1 z (by simp)
                unfold Okv at hoz
                have el : (init ++ [z]).length = init.length + 1 := by simp
                have hd0 : decide ((0 : Int) < init.length + 1) = true := decide_eq_true (by omega)
                by_cases hze : z.2 = p - 1
                · have hbe : (z.2 == p - 1) = true := by simp [hze]
                  have HZE := hide hze
                  clear hze
                  go_wp2_with fail
                  go_quiet (fail)
                  go_wp2_with fail
                  go_roundw
                  case rel =>
                    refine ⟨k + 1, some ⟨g, 0, none⟩, c2, init ++ [(z.1, p' - 1)], by omega, by go_num, by simp, (hown.drewN _).set_last _, ?_, (below_drewN hbr _).setCell (p := ⟨g, init.length * 2 + 1, none⟩) hgb _⟩
                    rw [HTH.out]
                    exact HINV.out.more hmono r2.2 HC'.out (HRP.out.trans HRL.out) HZE.out
                  case measure => simp [intOf]; omega
                · have hbe : (z.2 == p - 1) = false := by simp [hze]
                  have HZE := hide hze
                  clear hze
                  go_wp2_with fail
                  go_quiet (fail)
                  go_wp2_with fail
                  have hk1 : k < ps.length := by omega
                  have hk2 : (k : Int) + 1 < (ps.length : Int) := by omega
                  have q1 : IntKind.i64.wrap ((k : Int) + 1) = (k : Int) + 1 := IntWalk.i64_in _ (by omega)
                  have q2 : (0 : Int) ≤ (k : Int) + 1 := by omega
                  have q4 : IntKind.i64.wrap (p' - 1) = p' - 1 := IntWalk.i64_in _ (by omega)
                  have q3 : ((k : Int) + 1).toNat = k + 1 := by omega
                  go_region_law (refine step_append_iv rfl _ _ rfl w1.heap.size _ c2 (init ++ [z]) _ rfl (by simp) p (p' - 1) _ rfl _ rfl (by simp) (by exact hown) (by omega) (by exact hbr.size) ?_; intro g' c' w3 row hown3 hg' hgrow hrow)
                  all_goals
                    clear q1 q2 q3 q4
                    go_wp2_with fail
                    go_roundw
                    case rel =>
                      refine ⟨k + 1, some ⟨g', 0, none⟩, c', (init ++ [z]) ++ [(p, p' - 1)], by omega, by go_num, by simp, hown3, ?_, ((below_drewN hbr _).alloc (by exact hbr.size) _).grown hgrow (by have := hbr.size; simp; omega) hrow⟩
                      rw [HTH.out]
                      exact HINV.out.push r1.1 hmono r2.2 HC'.out (HRP.out.trans HRL.out) (HINV.out.last_ne HZE.out)
                    case measure => simp [intOf]; omega
    · have hdn : decide ((k : Int) + 1 < (ps.length : Int)) = false := decide_eq_false (by omega)
      rw [HOK.out.end_ (by omega)] at hinv
      go_wp2_with fail
      go_ret
      refine ⟨A2, c2, ys, rfl, hown.lower hb1.size, bstep hb1 hbr, hinv.1, fun t => ?_⟩
      rw [hinv.2.2]
      constructor
      · rintro ⟨h1, h2, h3, h4⟩; exact ⟨h1, h2, h4⟩
      · rintro ⟨h1, h2, h4⟩; exact ⟨h1, h2, by omega, h4⟩
end Go.Proofs.Ytkbiefklilelmaa
