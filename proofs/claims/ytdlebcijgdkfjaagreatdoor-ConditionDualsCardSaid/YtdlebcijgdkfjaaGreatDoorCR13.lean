/-
  Several texts in one: Combine, Union, Same. Each says at its head what it holds.
-/
import Derived.Test.YtdlebcijgdkfjaaGreatDoorCR11
import Derived.Test.YtdlebcijgdkfjaaGreatDoorCR12
import Derived.Deep.DeepCutAuto
import Derived.Deep.CutBlock
import Derived.Laws.StructEq

/-
  intervals.Normal and intervals.combine: the normal list of the times whose membership in two sets satisfies a rule.
-/
namespace Go.Proofs.YtdlebcijgdkfjaaGreatDoor
open Go.RowKit Go.Joins

theorem normal_any (A : Option Addr) (c : Nat) (xs : List Iv) (w : World) (h : IvsAt w w.heap.size A xs) (hl : xs.length ≤ 4398046511104) :
    Calls Tryz.prog 71 #[.slice A xs.length c] w (RetIvs w (Mem xs)) := by
  go_enter Tryz.func71, Tryz.ntmps71
  go_wp2_with fail
  refine (clip_any A c xs 0 1099511627776 _ h hl).mono ?_
  rintro e w1 ⟨A1, c1, ys, rfl, hown, hb, hn, hm⟩
  go_wp2_with fail
  go_ret
  exact ⟨A1, c1, ys, rfl, hown, hb, hn, fun t => by rw [hm]; exact ⟨fun h => h.2.2, fun h => ⟨h.1, h.2.1, h⟩⟩⟩

theorem quiet_left {P : Program} {f : FuncId} {args : Array Value} {w : World} {n : Nat} {v : Value}
    (h : Calls P f args (w.drewN n) fun e w' => e = .returned v ∧ w.drewN n = w') : Calls P f args (w.drewN n) fun e w'' => e = .returned v ∧ ∃ m, w'' = w.drewN m :=
  h.mono fun _ _ ⟨he, hm⟩ => ⟨he, n, hm.symm⟩

/-- what the combining function does at two bools -/
def RuleOf (g : Nat) (rule : Bool → Bool → Bool) : Prop := ∀ (x y : Bool) (w : World), Calls Tryz.prog g #[.bool x, .bool y] w fun e w' => e = .returned (.bool (rule x y)) ∧ w = w'

theorem union_rule : RuleOf 117 (· || ·) := by
  intro x y w
  cases x <;> cases y <;>
  · go_enter Tryz.func117, Tryz.ntmps117
    go_wp2
    go_ret
    exact ⟨rfl, rfl⟩
theorem intersect_rule : RuleOf 64 (· && ·) := by
  intro x y w
  cases x <;> cases y <;>
  · go_enter Tryz.func64, Tryz.ntmps64
    go_wp2
    go_ret
    exact ⟨rfl, rfl⟩
def CombOut (w : World) (rule : Bool → Bool → Bool) (a b : List Iv) (ps : List Int) (out vi vk vn : Value) (wr : World) : Prop :=
  ∃ (n i k : Nat) (A : Option Addr) (c : Nat), n ≤ ps.length - 1 ∧ vn = .int .i64 n ∧ vi = .int .i64 i ∧ vk = .int .i64 k ∧ i ≤ a.length ∧ k ≤ b.length ∧
    (∀ j (hj : j < a.length), j < i → n < ps.length → a[j].2 < ps.getD n 0) ∧ (∀ j (hj : j < b.length), j < k → n < ps.length → b[j].2 < ps.getD n 0) ∧
    out = .slice A (segs rule a b ps n).length c ∧ OwnIv wr w.heap.size A c (segs rule a b ps n) ∧ Below w.heap.size w wr
def CombEnd (a : List Iv) (t : Int) (vi : Value) (w0 w : World) : Prop :=
  ∃ (i : Nat), vi = .int .i64 i ∧ i ≤ a.length ∧ (∀ j (_hj : j < a.length), j < i → a[j].2 < t) ∧ (∀ (_h : i < a.length), t ≤ a[i].2) ∧ w0 = w
def CombTest (rule : Bool → Bool → Bool) (a b : List Iv) (t : Int) (v : Value) (w0 w : World) : Prop :=
  ∃ q : Nat, v = .bool (rule (memB a t) (memB b t)) ∧ w = w0.drewN q
def CombIn (a : List Iv) (t : Int) (vi : Value) : Prop :=
  ∃ (i : Nat), vi = .int .i64 i ∧ i ≤ a.length ∧ ∀ j (_hj : j < a.length), j < i → a[j].2 < t

set_option maxRecDepth 100000 in
set_option maxHeartbeats 4000000 in
theorem combine_any (g : Nat) (eg : ∀ args w, (callFunc g args).run Tryz.prog w = .ok (.enter g args) w) (rule : Bool → Bool → Bool) (hr : RuleOf g rule) (hff : rule false false = false)
    (A B : Option Addr) (c d : Nat) (a b : List Iv) (w : World) (ha : IvsAt w w.heap.size A a) (hb : IvsAt w w.heap.size B b) (hla : a.length ≤ 4398046511104) (hlb : b.length ≤ 4398046511104) :
    Calls Tryz.prog 63 #[.slice A a.length c, .slice B b.length d, .func (.func g) #[] #[]] w (RetIvs w fun t => rule (memT a t) (memT b t) = true) := by
  have HFF := hide hff
  clear hff
  go_enter Tryz.func63, Tryz.ntmps63
  go_wp2_with fail
  refine (normal_any A c a _ ha hla).mono ?_
  rintro e w1 ⟨A1, c1, a1, rfl, hown1, hb1, na, ma⟩
  go_wp2_with fail
  refine (normal_any B d b _ ((hb.below hb1).more hb1.size) hlb).mono ?_
  rintro e w2 ⟨B1, d1, b1, rfl, hown2, hb2, nb, mb⟩
  go_wp2_with fail
  have ra : IvsAt w2 w2.heap.size A1 a1 := (hown1.ats.below hb2).more hb2.size
  refine (cuts_any A1 B1 c1 d1 a1 b1 _ ra hown2.ats na nb).mono ?_
  rintro e w3 ⟨P3, c3, ps, rfl, hown3, hb3, hps, hpm, hpl⟩
  have ra3 : IvsAt w3 w3.heap.size A1 a1 := (ra.below hb3).more hb3.size
  have rb3 : IvsAt w3 w3.heap.size B1 b1 := (hown2.ats.below hb3).more hb3.size
  have rp3 : IntsAt w3 w3.heap.size P3 ps := hown3.ats
  have hbw : Below w.heap.size w w3 := hb1.trans ((hb2.mono hb1.size).trans (hb3.mono (Nat.le_trans hb1.size hb2.size)))
  have hla1 := norm_len na
  have hlb1 := norm_len nb
  clear ha hb hown1 hown2 hown3 hb1 hb2 hb3 ra
  have HMA := hide ma
  have HMB := hide mb
  have HPM := hide hpm
  have HPS := hide hps
  clear ma mb hpm hps
  go_wp2_with fail
  go_loopw [8, 9, 10, 11] (fun out i k n wr => CombOut w3 rule a1 b1 ps out i k n wr) (fun _ _ _ n _ => ps.length - (intOf n).toNat)
  case atStart => exact ⟨0, 0, 0, none, 0, by omega, rfl, rfl, rfl, by omega, by omega, fun j hj h => by omega, fun j hj h => by omega, rfl, OwnIv.nil _ _, Below.refl _ _⟩
  case round =>
    obtain ⟨n, i, k, A4, c4, hn, rfl, rfl, rfl, hi, hk, hia, hkb, rfl, hown, hb⟩ := hrel
    have hsl := segs_len rule a1 b1 ps n
    by_cases hlt : n + 1 < ps.length
    · obtain ⟨bp, offp, rfl, hbp, hcp⟩ := (rp3.below hb).at_ (k := n) (by omega)
      obtain ⟨bp', offp', hpe, hbp', hcp'⟩ := (rp3.below hb).at_ (k := n + 1) (by omega)
      have HT : ps.getD n 0 = ps[n] := by simp [List.getD_eq_getElem?_getD, List.getElem?_eq_getElem (show n < ps.length by omega)]
      have HT' : ps.getD (n + 1) 0 = ps[n + 1] := by simp [List.getD_eq_getElem?_getD, List.getElem?_eq_getElem hlt]
      injection hpe with hpe
      injection hpe with e1 e2
      subst e1 e2
      have hmono : ps[n] < ps[n + 1] := List.pairwise_iff_getElem.1 HPS.out n (n + 1) (by omega) hlt (by omega)
      have hmem : ∀ v ∈ ps, 0 ≤ v ∧ v ≤ 1099511627777 := by
        intro v hv
        obtain ⟨x, hx, h⟩ := mem_cutsOf.1 ((HPM.out v).1 hv)
        have : Okv x := by
          rcases List.mem_append.1 hx with hx | hx
          · exact na.1 x hx
          · exact nb.1 x hx
        unfold Okv at this
        omega
      have hbt := hmem ps[n] (List.getElem_mem _)
      have hbt' := hmem ps[n + 1] (List.getElem_mem _)
      clear hmem
      obtain ⟨t, ht⟩ : ∃ t, ps[n] = t := ⟨_, rfl⟩
      obtain ⟨t', ht'⟩ : ∃ t', ps[n + 1] = t' := ⟨_, rfl⟩
      rw [ht] at HT hbt hmono hcp
      rw [ht'] at HT' hbt' hmono hcp'
      have HIA : ∀ j (hj : j < a1.length), j < i → a1[j].2 < t := fun j hj h => by have := hia j hj h (by omega); rwa [HT] at this
      have HKB : ∀ j (hj : j < b1.length), j < k → b1[j].2 < t := fun j hj h => by have := hkb j hj h (by omega); rwa [HT] at this
      have HSG := hide (segs_succ rule a1 b1 ps n)
      rw [HT, HT'] at HSG
      have HTH := hide HT'
      clear HT HT' hia hkb ht ht'
      generalize hsg : segs rule a1 b1 ps n = sg at *
      clear hsg
      have hd1 : decide ((n : Int) + 1 < (ps.length : Int)) = true := decide_eq_true (by omega)
      have HIA' := hide HIA
      have HKB' := hide HKB
      clear HIA HKB
      go_upto_block 2 with fail
      go_cut [9] (fun vi wx => CombEnd a1 t vi wr wx)
      case first =>
        go_wp2
        go_loop [9] (fun vi => CombIn a1 t vi) (fun vi => a1.length - (intOf vi).toNat)
        case atStart => exact ⟨i, rfl, hi, HIA'.out⟩
        case round =>
          obtain ⟨i', rfl, hi', hia'⟩ := hrel
          by_cases hlt1 : i' < a1.length
          · obtain ⟨ba, offa, rfl, hba, hca1, hca2⟩ := (ra3.below hb).at_ hlt1
            by_cases hto : a1[i'].2 < t
            · go_wp2
              go_round
              case rel => exact ⟨i' + 1, by go_num, by omega, fun j hj h => by
                rcases Nat.lt_or_ge j i' with h' | h'
                · exact hia' j hj h'
                · have : j = i' := by omega
                  subst this; exact hto⟩
              case measure => simp [intOf]; omega
            · go_wp2
              go_meet
              exact ⟨i', rfl, hi', hia', fun h => by omega, rfl⟩
          · go_wp2
            go_meet
            exact ⟨i', rfl, hi', hia', fun h => by omega, rfl⟩
      case rest =>
        obtain ⟨i', rfl, hi', hia', hie', rfl⟩ := hcut
        go_upto_block 4 with fail
        go_cut [10] (fun vi wx => CombEnd b1 t vi wr wx)
        case first =>
          go_wp2
          go_loop [10] (fun vi => CombIn b1 t vi) (fun vi => b1.length - (intOf vi).toNat)
          case atStart => exact ⟨k, rfl, hk, HKB'.out⟩
          case round =>
            obtain ⟨k', rfl, hk', hkb'⟩ := hrel
            by_cases hlt1 : k' < b1.length
            · obtain ⟨ba, offa, rfl, hba, hca1, hca2⟩ := (rb3.below hb).at_ hlt1
              by_cases hto : b1[k'].2 < t
              · go_wp2
                go_round
                case rel => exact ⟨k' + 1, by go_num, by omega, fun j hj h => by
                  rcases Nat.lt_or_ge j k' with h' | h'
                  · exact hkb' j hj h'
                  · have : j = k' := by omega
                    subst this; exact hto⟩
                case measure => simp [intOf]; omega
              · go_wp2
                go_meet
                exact ⟨k', rfl, hk', hkb', fun h => by omega, rfl⟩
            · go_wp2
              go_meet
              exact ⟨k', rfl, hk', hkb', fun h => by omega, rfl⟩
        case rest =>
          obtain ⟨k', rfl, hk', hkb', hke', rfl⟩ := hcut
          have hma := memB_at na hia' hie'
          have hmb := memB_at nb hkb' hke'
          have HMA1 := hide hma
          have HMB1 := hide hmb
          clear hma hmb
          go_upto_region 13 with fail
          go_cut [88] (fun v wx => CombTest rule a1 b1 t v wr wx)
          case first =>
            by_cases hlta : i' < a1.length
            · obtain ⟨ba, offa, rfl, hba, hca1, hca2⟩ := (ra3.below hb).at_ hlta
              have hda : decide ((i' : Int) < (a1.length : Int)) = true := decide_eq_true (by omega)
              have ema : memB a1 t = decide (a1[i'].1 ≤ t) := by rw [Bool.eq_iff_iff, HMA1.out, decide_eq_true_eq]; exact ⟨fun ⟨_, h⟩ => h, fun h => ⟨hlta, h⟩⟩
              have EMA := hide ema
              clear ema
              by_cases hltb : k' < b1.length
              · obtain ⟨bb, offb, rfl, hbb, hcb1, hcb2⟩ := (rb3.below hb).at_ hltb
                have hdb : decide ((k' : Int) < (b1.length : Int)) = true := decide_eq_true (by omega)
                have emb : memB b1 t = decide (b1[k'].1 ≤ t) := by rw [Bool.eq_iff_iff, HMB1.out, decide_eq_true_eq]; exact ⟨fun ⟨_, h⟩ => h, fun h => ⟨hltb, h⟩⟩
                have EMB := hide emb
                clear emb
                go_quiet ((exact quiet_left (hr _ _ _)))
                go_wp2
                go_meet
                exact ⟨nq, by rw [EMA.out, EMB.out], rfl⟩
              · have hdb : decide ((k' : Int) < (b1.length : Int)) = false := decide_eq_false (by omega)
                have emb : memB b1 t = false := by rw [Bool.eq_false_iff, Ne, HMB1.out]; exact fun ⟨h, _⟩ => hltb h
                have EMB := hide emb
                clear emb
                go_quiet ((exact quiet_left (hr _ _ _)))
                go_wp2
                go_meet
                exact ⟨nq, by rw [EMA.out, EMB.out], rfl⟩
            · have hda : decide ((i' : Int) < (a1.length : Int)) = false := decide_eq_false (by omega)
              have ema : memB a1 t = false := by rw [Bool.eq_false_iff, Ne, HMA1.out]; exact fun ⟨h, _⟩ => hlta h
              have EMA := hide ema
              clear ema
              by_cases hltb : k' < b1.length
              · obtain ⟨bb, offb, rfl, hbb, hcb1, hcb2⟩ := (rb3.below hb).at_ hltb
                have hdb : decide ((k' : Int) < (b1.length : Int)) = true := decide_eq_true (by omega)
                have emb : memB b1 t = decide (b1[k'].1 ≤ t) := by rw [Bool.eq_iff_iff, HMB1.out, decide_eq_true_eq]; exact ⟨fun ⟨_, h⟩ => h, fun h => ⟨hltb, h⟩⟩
                have EMB := hide emb
                clear emb
                go_quiet ((exact quiet_left (hr _ _ _)))
                go_wp2
                go_meet
                exact ⟨nq, by rw [EMA.out, EMB.out], rfl⟩
              · have hdb : decide ((k' : Int) < (b1.length : Int)) = false := decide_eq_false (by omega)
                have emb : memB b1 t = false := by rw [Bool.eq_false_iff, Ne, HMB1.out]; exact fun ⟨h, _⟩ => hltb h
                have EMB := hide emb
                clear emb
                go_quiet ((exact quiet_left (hr _ _ _)))
                go_wp2
                go_meet
                exact ⟨nq, by rw [EMA.out, EMB.out], rfl⟩
          case rest =>
            obtain ⟨nq, rfl, rfl⟩ := hcut
            cases hrule : rule (memB a1 t) (memB b1 t)
            · go_wp2
              go_roundw
              case rel =>
                exact ⟨n + 1, i', k', A4, c4, by omega, by go_num, rfl, rfl, hi', hk', fun j hj h h2 => by rw [HTH.out]; exact Int.lt_trans (hia' j hj h) hmono, fun j hj h h2 => by rw [HTH.out]; exact Int.lt_trans (hkb' j hj h) hmono,
                  by rw [HSG.out, hrule]; simp, by rw [HSG.out, hrule]; simpa using hown.drewN _, below_drewN hb _⟩
              case measure => simp [intOf]; omega
            · go_wp2_with (at_builtin; (refine append_iv rfl _ _ rfl w3.heap.size A4 c4 sg _ rfl rfl t (t' - 1) _ rfl _ rfl (by simp) (hown.drewN _) (by omega) (by have := hb.size; simp; omega) ?_)
                           intro g' c' w1 row hown1 hg' hgrow hrow)
              go_roundw
              case rel =>
                exact ⟨n + 1, i', k', some ⟨g', 0, none⟩, c', by omega, by go_num, rfl, rfl, hi', hk', fun j hj h h2 => by rw [HTH.out]; exact Int.lt_trans (hia' j hj h) hmono, fun j hj h h2 => by rw [HTH.out]; exact Int.lt_trans (hkb' j hj h) hmono,
                  by rw [HSG.out, hrule]; simp, by rw [HSG.out, hrule]; exact hown1, (below_drewN (hb.alloc hb.size _) _).grown hgrow (by have := hb.size; go_simp; omega) hrow⟩
              case measure => simp [intOf]; omega
    · have hdn : decide ((n : Int) + 1 < (ps.length : Int)) = false := decide_eq_false (by omega)
      go_wp2_with fail
      refine (normal_any A4 c4 (segs rule a1 b1 ps n) _ ((hown.ats)) (by omega)).mono ?_
      rintro e w5 ⟨A5, c5, ys, rfl, hown5, hb5, n5, m5⟩
      go_wp2_with fail
      go_ret
      refine ⟨A5, c5, ys, rfl, hown5.lower (Nat.le_trans hbw.size hb.size), hbw.trans ((hb.mono hbw.size).trans (hb5.mono (Nat.le_trans hbw.size hb.size))), n5, fun x => ?_⟩
      show _ ↔ rule (memT a x) (memT b x) = true
      rw [m5, ← memB_eq_memT na HMA.out, ← memB_eq_memT nb HMB.out, ← segs_mem rule HFF.out na nb HPS.out HPM.out]
      rw [show ps.length - 1 = n by omega]
end Go.Proofs.YtdlebcijgdkfjaaGreatDoor

/-
  intervals.Union, Intersect: the sets of their results.
-/
namespace Go.Proofs.YtdlebcijgdkfjaaGreatDoor
open Go.RowKit Go.Joins

theorem RetIvs.congr {w : World} {S S' : Int → Prop} {e : Ending} {w' : World} (h : RetIvs w S e w') (hs : ∀ t, S t ↔ S' t) : RetIvs w S' e w' := by
  obtain ⟨A, c, ys, h1, h2, h3, h4, h5⟩ := h
  exact ⟨A, c, ys, h1, h2, h3, h4, fun t => (h5 t).trans (hs t)⟩

theorem union_any (A B : Option Addr) (c d : Nat) (a b : List Iv) (w : World) (ha : IvsAt w w.heap.size A a) (hb : IvsAt w w.heap.size B b) (hla : a.length ≤ 4398046511104) (hlb : b.length ≤ 4398046511104) :
    Calls Tryz.prog 72 #[.slice A a.length c, .slice B b.length d] w (RetIvs w fun t => Mem a t ∨ Mem b t) := by
  go_enter Tryz.func72, Tryz.ntmps72
  go_wp2_with fail
  refine (combine_any 117 (enters_of Tryz.func117 (by kernel_rfl) rfl) _ union_rule rfl A B c d a b _ ha hb hla hlb).mono ?_
  rintro e w1 ⟨A1, c1, ys, rfl, hown, hb, hn, hm⟩
  go_wp2_with fail
  go_ret
  exact ⟨A1, c1, ys, rfl, hown, hb, hn, fun t => by rw [hm, Bool.or_eq_true, memT_iff, memT_iff]⟩

theorem intersect_any (A B : Option Addr) (c d : Nat) (a b : List Iv) (w : World) (ha : IvsAt w w.heap.size A a) (hb : IvsAt w w.heap.size B b) (hla : a.length ≤ 4398046511104) (hlb : b.length ≤ 4398046511104) :
    Calls Tryz.prog 19 #[.slice A a.length c, .slice B b.length d] w (RetIvs w fun t => Mem a t ∧ Mem b t) := by
  go_enter Tryz.func19, Tryz.ntmps19
  go_wp2_with fail
  refine (combine_any 64 (enters_of Tryz.func64 (by kernel_rfl) rfl) _ intersect_rule rfl A B c d a b _ ha hb hla hlb).mono ?_
  rintro e w1 ⟨A1, c1, ys, rfl, hown, hb, hn, hm⟩
  go_wp2_with fail
  go_ret
  exact ⟨A1, c1, ys, rfl, hown, hb, hn, fun t => by rw [hm, Bool.and_eq_true, memT_iff, memT_iff]⟩

end Go.Proofs.YtdlebcijgdkfjaaGreatDoor

/-
  wavestoreref46.Same: whether two lists are equal.
-/
namespace Go.Proofs.YtdlebcijgdkfjaaGreatDoor
open Go.RowKit Go.Joins

theorem eq_iv (a b c d : Int) (w : World) : (Op.equalIn 10000 69 (.agg #[.int .i64 a, .int .i64 b]) (.agg #[.int .i64 c, .int .i64 d])).run Tryz.prog w = .ok (a == c && b == d) w := by
  have u3 := Tryz.underlying3
  have a3 := Tryz.isAgg3
  have z3 := Tryz.sizeOf3
  have hS : Tryz.prog.underlying 69 = some (.struct (Tryz.prog.fieldsOf 69)) := by kernel_rfl
  have hp : Tryz.prog.stoodInHeld 69 = false := by kernel_rfl
  rw [show (10000 : Nat) = 9999 + 1 from rfl, run_equalIn_agg w 9999 69 _ _ hS hp]
  simp only [Program.fieldsOf, Tryz.underlying69]
  go_simp
  by_cases h1 : a = c <;> by_cases h2 : b = d <;> simp [h1, h2]
theorem neq_iv (a b c d : Int) (w : World) : (binOp .neq 69 (.agg #[.int .i64 a, .int .i64 b]) (.agg #[.int .i64 c, .int .i64 d])).run Tryz.prog w = .ok (.bool (!(a == c && b == d))) w := by
  rw [run_neq_struct, eq_iv]; rfl

theorem same_ne {xs ys : List Iv} (e : xs = ys) {k : Nat} (h1 : k < xs.length) (h2 : k < ys.length) (hw : (!xs[k].1 == ys[k].1) = true ∨ (!xs[k].2 == ys[k].2) = true) : False := by
  subst e; simp at hw
theorem same_step {xs ys : List Iv} {k : Nat} (ht : xs.take k = ys.take k) (h1 : k < xs.length) (h2 : k < ys.length) (hw : (!xs[k].1 == ys[k].1) = false ∧ (!xs[k].2 == ys[k].2) = false) : xs.take (k + 1) = ys.take (k + 1) := by
  rw [List.take_succ_eq_append_getElem h1, List.take_succ_eq_append_getElem h2, ht]
  simp only [Bool.not_eq_false', beq_iff_eq] at hw
  rw [Prod.ext hw.1 hw.2]

def SameRel (w : World) (xs ys : List Iv) (i : Value) (wr : World) : Prop :=
  ∃ (k q : Nat), k ≤ xs.length ∧ i = .int .i64 k ∧ xs.take k = ys.take k ∧ wr = w.drewN q

set_option maxHeartbeats 1000000 in
theorem same_any (A B : Option Addr) (c d : Nat) (xs ys : List Iv) (w : World) (hx : IvsAt w w.heap.size A xs) (hy : IvsAt w w.heap.size B ys) (hl : xs.length ≤ 4398046511104) (_hl2 : ys.length ≤ 4398046511104) :
    Calls Tryz.prog 20 #[.slice A xs.length c, .slice B ys.length d] w fun e w' => e = .returned (.bool (decide (xs = ys))) ∧ ∃ q, w' = w.drewN q := by
  by_cases hlen : xs.length = ys.length
  · have HL := hide hlen
    have hne : ((xs.length : Int) != (ys.length : Int)) = false := by simp [hlen]
    clear hlen
    go_enter Tryz.func20, Tryz.ntmps20
    go_wp2
    go_loopw [5] (fun i wr => SameRel w xs ys i wr) (fun i _ => xs.length - (intOf i).toNat)
    case atStart => exact ⟨0, 0, Nat.zero_le _, rfl, rfl, rfl⟩
    case round =>
      obtain ⟨k, q, hk, rfl, htk, rfl⟩ := hrel
      have HTK := hide htk
      clear htk
      by_cases hlt : k < xs.length
      · have hlt2 : k < ys.length := by have := HL.out; omega
        obtain ⟨b, off, rfl, hbb, hc1, hc2⟩ := hx.at_ hlt
        obtain ⟨b', off', rfl, hbb', hc1', hc2'⟩ := hy.at_ hlt2
        have hne2 := neq_iv xs[k].1 xs[k].2 ys[k].1 ys[k].2
        go_wp2
        go_quiet (fail)
        go_wp2
        · have hw : (!xs[k].1 == ys[k].1) = true ∨ (!xs[k].2 == ys[k].2) = true := by assumption
          go_ret
          exact ⟨by rw [decide_eq_false (fun e => same_ne e hlt hlt2 hw)]; rfl, q + nq, by rw [World.drewN_drewN]⟩
        · have hw : (!xs[k].1 == ys[k].1) = false ∧ (!xs[k].2 == ys[k].2) = false := by assumption
          go_roundw
          case rel => exact ⟨k + 1, q + nq, by omega, by go_num, same_step HTK.out hlt hlt2 hw, rfl⟩
          case measure => simp [intOf]; omega
      · go_wp2
        go_ret
        refine ⟨?_, _, rfl⟩
        have h1 := HTK.out
        have h2 := HL.out
        rw [List.take_of_length_le (by omega), List.take_of_length_le (by omega)] at h1
        rw [decide_eq_true h1]
        rfl
  · have hne : ((xs.length : Int) != (ys.length : Int)) = true := by simp; omega
    have HL := hide hlen
    clear hlen
    go_enter Tryz.func20, Tryz.ntmps20
    go_wp2
    go_ret
    exact ⟨by rw [decide_eq_false (fun e => HL.out (by rw [e]))]; rfl, 0, rfl⟩

/-- two lists that are the normal lists of one set -/
theorem sameR_true (A B : Option Addr) (c d : Nat) (xs ys : List Iv) (w : World) (hx : IvsAt w w.heap.size A xs) (hy : IvsAt w w.heap.size B ys) (nx : Norm xs) (ny : Norm ys) (h : ∀ t, Mem xs t ↔ Mem ys t) :
    Calls Tryz.prog 20 #[.slice A xs.length c, .slice B ys.length d] w fun e w' => e = .returned (.bool true) ∧ Below w.heap.size w w' :=
  (same_any A B c d xs ys w hx hy (by have := norm_len nx; omega) (by have := norm_len ny; omega)).mono fun _ _ ⟨he, q, hw⟩ => ⟨by rw [he, decide_eq_true (norm_ext nx ny h)], by rw [hw]; exact below_drewN (Below.refl _ _) q⟩

end Go.Proofs.YtdlebcijgdkfjaaGreatDoor
