/-
  Several texts in one: Combine, Union, Same, Incr, MapI, MapK. Each says at its head what it holds.
-/
import Derived.Test.YtkbiefklilelmaaMP6
import Derived.Deep.DeepCutAuto
import Derived.Deep.CutBlock
import Derived.Laws.StructEq
import Derived.Test.YtkbiefklilelmaaMP3
import Derived.Deep.QuietTactic
import Derived.BigQuiet
import Derived.IntWalk
import Derived.Test.YtkbiefklilelmaaMP1
import Derived.Maps.Own
import Derived.Maps.OwnSet
import Derived.Maps.Views
import Derived.Carry

/-
  intervals.Normal and intervals.combine: the normal list of the times whose membership in two sets satisfies a rule.
-/
namespace Go.Proofs.Ytkbiefklilelmaa
open Go.RowKit Go.Joins

theorem normal_any (A : Option Addr) (c : Nat) (xs : List Iv) (w : World) (h : IvsAt w w.heap.size A xs) (hl : xs.length ≤ 4398046511104) :
    Calls Try.prog 45 #[.slice A xs.length c] w (RetIvs w (Mem xs)) := by
  go_enter Try.func45, Try.ntmps45
  go_wp2_with fail
  refine (clip_any A c xs 0 1099511627776 _ h hl).mono ?_
  rintro e w1 ⟨A1, c1, ys, rfl, hown, hb, hn, hm⟩
  go_wp2_with fail
  go_ret
  exact ⟨A1, c1, ys, rfl, hown, hb, hn, fun t => by rw [hm]; exact ⟨fun h => h.2.2, fun h => ⟨h.1, h.2.1, h⟩⟩⟩

theorem quiet_left {P : Program} {f : FuncId} {args : Array Value} {w : World} {n : Nat} {v : Value}
    (h : Calls P f args (w.drewN n) fun e w' => e = .returned v ∧ w.drewN n = w') : Calls P f args (w.drewN n) fun e w'' => e = .returned v ∧ ∃ m, w'' = w.drewN m :=
  h.mono fun _ _ ⟨he, hm⟩ => ⟨he, n, hm.symm⟩

/-- what the combining function does at two bools -/
def RuleOf (g : Nat) (rule : Bool → Bool → Bool) : Prop := ∀ (x y : Bool) (w : World), Calls Try.prog g #[.bool x, .bool y] w fun e w' => e = .returned (.bool (rule x y)) ∧ w = w'

theorem union_rule : RuleOf 73 (· || ·) := by
  intro x y w
  cases x <;> cases y <;>
  · go_enter Try.func73, Try.ntmps73
    go_wp2
    go_ret
    exact ⟨rfl, rfl⟩
theorem intersect_rule : RuleOf 47 (· && ·) := by
  intro x y w
  cases x <;> cases y <;>
  · go_enter Try.func47, Try.ntmps47
    go_wp2
    go_ret
    exact ⟨rfl, rfl⟩
def CombOut (w : World) (rule : Bool → Bool → Bool) (a b : List Iv) (ps : List Int) (out vi vk vn : Value) (wr : World) : Prop :=
  ∃ (n i k : Nat) (A : Option Addr) (c : Nat), n ≤ ps.length - 1 ∧ vn = .int .i64 n ∧ vi = .int .i64 i ∧ vk = .int .i64 k ∧ i ≤ a.length ∧ k ≤ b.length ∧
    (∀ j (hj : j < a.length), j < i → n < ps.length → a[j].2 < ps.getD n 0) ∧ (∀ j (hj : j < b.length), j < k → n < ps.length → b[j].2 < ps.getD n 0) ∧
    out = .slice A (segs rule a b ps n).length c ∧ OwnIv wr w.heap.size A c (segs rule a b ps n) ∧ Below w.heap.size w wr
def CombEnd (a : List Iv) (t : Int) (vi : Value) (w0 w : World) : Prop :=
  ∃ (i : Nat), vi = .int .i64 i ∧ i ≤ a.length ∧ (∀ j (_hj : j < a.length), j < i → a[j].2 < t) ∧ (∀ (_h : i < a.length), t ≤ a[i].2) ∧ w0 = w
def CombTest (rule : Bool → Bool → Bool) (a b : List Iv) (t : Int) (v : Value) (w0 w : World) : Prop :=
  ∃ q : Nat, v = .bool (rule (memB a t) (memB b t)) ∧ w = w0.drewN q
def CombIn (a : List Iv) (t : Int) (vi : Value) : Prop :=
  ∃ (i : Nat), vi = .int .i64 i ∧ i ≤ a.length ∧ ∀ j (_hj : j < a.length), j < i → a[j].2 < t

set_option maxRecDepth 100000 in
set_option maxHeartbeats 4000000 in
theorem combine_any (g : Nat) (eg : ∀ args w, (callFunc g args).run Try.prog w = .ok (.enter g args) w) (rule : Bool → Bool → Bool) (hr : RuleOf g rule) (hff : rule false false = false)
    (A B : Option Addr) (c d : Nat) (a b : List Iv) (w : World) (ha : IvsAt w w.heap.size A a) (hb : IvsAt w w.heap.size B b) (hla : a.length ≤ 4398046511104) (hlb : b.length ≤ 4398046511104) :
    Calls Try.prog 46 #[.slice A a.length c, .slice B b.length d, .func (.func g) #[] #[]] w (RetIvs w fun t => rule (memT a t) (memT b t) = true) := by
  have HFF := hide hff
  clear hff
  go_enter Try.func46, Try.ntmps46
  go_wp2_with fail
  refine (normal_any A c a _ ha hla).mono ?_
  rintro e w1 ⟨A1, c1, a1, rfl, hown1, hb1, na, ma⟩
  go_wp2_with fail
  refine (normal_any B d b _ ((hb.below hb1).more hb1.size) hlb).mono ?_
  rintro e w2 ⟨B1, d1, b1, rfl, hown2, hb2, nb, mb⟩
  go_wp2_with fail
  have ra : IvsAt w2 w2.heap.size A1 a1 := (hown1.ats.below hb2).more hb2.size
  refine (cuts_any A1 B1 c1 d1 a1 b1 _ ra hown2.ats na nb).mono ?_
  rintro e w3 ⟨P3, c3, ps, rfl, hown3, hb3, hps, hpm, hpl⟩
  have ra3 : IvsAt w3 w3.heap.size A1 a1 := (ra.below hb3).more hb3.size
  have rb3 : IvsAt w3 w3.heap.size B1 b1 := (hown2.ats.below hb3).more hb3.size
  have rp3 : IntsAt w3 w3.heap.size P3 ps := hown3.ats
  have hbw : Below w.heap.size w w3 := hb1.trans ((hb2.mono hb1.size).trans (hb3.mono (Nat.le_trans hb1.size hb2.size)))
  have hla1 := norm_len na
  have hlb1 := norm_len nb
  clear ha hb hown1 hown2 hown3 hb1 hb2 hb3 ra
  have HMA := hide ma
  have HMB := hide mb
  have HPM := hide hpm
  have HPS := hide hps
  clear ma mb hpm hps
  go_wp2_with fail
  go_loopw [8, 9, 10, 11] (fun out i k n wr => CombOut w3 rule a1 b1 ps out i k n wr) (fun _ _ _ n _ => ps.length - (intOf n).toNat)
  case atStart => exact ⟨0, 0, 0, none, 0, by omega, rfl, rfl, rfl, by omega, by omega, fun j hj h => by omega, fun j hj h => by omega, rfl, OwnIv.nil _ _, Below.refl _ _⟩
  case round =>
    obtain ⟨n, i, k, A4, c4, hn, rfl, rfl, rfl, hi, hk, hia, hkb, rfl, hown, hb⟩ := hrel
    have hsl := segs_len rule a1 b1 ps n
    by_cases hlt : n + 1 < ps.length
    · obtain ⟨bp, offp, rfl, hbp, hcp⟩ := (rp3.below hb).at_ (k := n) (by omega)
      obtain ⟨bp', offp', hpe, hbp', hcp'⟩ := (rp3.below hb).at_ (k := n + 1) (by omega)
      have HT : ps.getD n 0 = ps[n] := by simp [List.getD_eq_getElem?_getD, List.getElem?_eq_getElem (show n < ps.length by omega)]
      have HT' : ps.getD (n + 1) 0 = ps[n + 1] := by simp [List.getD_eq_getElem?_getD, List.getElem?_eq_getElem hlt]
      injection hpe with hpe
      injection hpe with e1 e2
      subst e1 e2
      have hmono : ps[n] < ps[n + 1] := List.pairwise_iff_getElem.1 HPS.out n (n + 1) (by omega) hlt (by omega)
      have hmem : ∀ v ∈ ps, 0 ≤ v ∧ v ≤ 1099511627777 := by
        intro v hv
        obtain ⟨x, hx, h⟩ := mem_cutsOf.1 ((HPM.out v).1 hv)
        have : Okv x := by
          rcases List.mem_append.1 hx with hx | hx
          · exact na.1 x hx
          · exact nb.1 x hx
        unfold Okv at this
        omega
      have hbt := hmem ps[n] (List.getElem_mem _)
      have hbt' := hmem ps[n + 1] (List.getElem_mem _)
      clear hmem
      obtain ⟨t, ht⟩ : ∃ t, ps[n] = t := ⟨_, rfl⟩
      obtain ⟨t', ht'⟩ : ∃ t', ps[n + 1] = t' := ⟨_, rfl⟩
      rw [ht] at HT hbt hmono hcp
      rw [ht'] at HT' hbt' hmono hcp'
      have HIA : ∀ j (hj : j < a1.length), j < i → a1[j].2 < t := fun j hj h => by have := hia j hj h (by omega); rwa [HT] at this
      have HKB : ∀ j (hj : j < b1.length), j < k → b1[j].2 < t := fun j hj h => by have := hkb j hj h (by omega); rwa [HT] at this
      have HSG := hide (segs_succ rule a1 b1 ps n)
      rw [HT, HT'] at HSG
      have HTH := hide HT'
      clear HT HT' hia hkb ht ht'
      generalize hsg : segs rule a1 b1 ps n = sg at *
      clear hsg
      have hd1 : decide ((n : Int) + 1 < (ps.length : Int)) = true := decide_eq_true (by omega)
      have HIA' := hide HIA
      have HKB' := hide HKB
      clear HIA HKB
      go_upto_block 2 with fail
      go_cut [9] (fun vi wx => CombEnd a1 t vi wr wx)
      case first =>
        go_wp2
        go_loop [9] (fun vi => CombIn a1 t vi) (fun vi => a1.length - (intOf vi).toNat)
        case atStart => exact ⟨i, rfl, hi, HIA'.out⟩
        case round =>
          obtain ⟨i', rfl, hi', hia'⟩ := hrel
          by_cases hlt1 : i' < a1.length
          · obtain ⟨ba, offa, rfl, hba, hca1, hca2⟩ := (ra3.below hb).at_ hlt1
            by_cases hto : a1[i'].2 < t
            · go_wp2
              go_round
              case rel => exact ⟨i' + 1, by go_num, by omega, fun j hj h => by
                rcases Nat.lt_or_ge j i' with h' | h'
                · exact hia' j hj h'
                · have : j = i' := by omega
                  subst this; exact hto⟩
              case measure => simp [intOf]; omega
            · go_wp2
              go_meet
              exact ⟨i', rfl, hi', hia', fun h => by omega, rfl⟩
          · go_wp2
            go_meet
            exact ⟨i', rfl, hi', hia', fun h => by omega, rfl⟩
      case rest =>
        obtain ⟨i', rfl, hi', hia', hie', rfl⟩ := hcut
        go_upto_block 4 with fail
        go_cut [10] (fun vi wx => CombEnd b1 t vi wr wx)
        case first =>
          go_wp2
          go_loop [10] (fun vi => CombIn b1 t vi) (fun vi => b1.length - (intOf vi).toNat)
          case atStart => exact ⟨k, rfl, hk, HKB'.out⟩
          case round =>
            obtain ⟨k', rfl, hk', hkb'⟩ := hrel
            by_cases hlt1 : k' < b1.length
            · obtain ⟨ba, offa, rfl, hba, hca1, hca2⟩ := (rb3.below hb).at_ hlt1
              by_cases hto : b1[k'].2 < t
              · go_wp2
                go_round
                case rel => exact ⟨k' + 1, by go_num, by omega, fun j hj h => by
                  rcases Nat.lt_or_ge j k' with h' | h'
                  · exact hkb' j hj h'
                  · have : j = k' := by omega
                    subst this; exact hto⟩
                case measure => simp [intOf]; omega
              · go_wp2
                go_meet
                exact ⟨k', rfl, hk', hkb', fun h => by omega, rfl⟩
            · go_wp2
              go_meet
              exact ⟨k', rfl, hk', hkb', fun h => by omega, rfl⟩
        case rest =>
          obtain ⟨k', rfl, hk', hkb', hke', rfl⟩ := hcut
          have hma := memB_at na hia' hie'
          have hmb := memB_at nb hkb' hke'
          have HMA1 := hide hma
          have HMB1 := hide hmb
          clear hma hmb
          go_upto_region 13 with fail
          go_cut [88] (fun v wx => CombTest rule a1 b1 t v wr wx)
          case first =>
            by_cases hlta : i' < a1.length
            · obtain ⟨ba, offa, rfl, hba, hca1, hca2⟩ := (ra3.below hb).at_ hlta
              have hda : decide ((i' : Int) < (a1.length : Int)) = true := decide_eq_true (by omega)
              have ema : memB a1 t = decide (a1[i'].1 ≤ t) := by rw [Bool.eq_iff_iff, HMA1.out, decide_eq_true_eq]; exact ⟨fun ⟨_, h⟩ => h, fun h => ⟨hlta, h⟩⟩
              have EMA := hide ema
              clear ema
              by_cases hltb : k' < b1.length
              · obtain ⟨bb, offb, rfl, hbb, hcb1, hcb2⟩ := (rb3.below hb).at_ hltb
                have hdb : decide ((k' : Int) < (b1.length : Int)) = true := decide_eq_true (by omega)
                have emb : memB b1 t = decide (b1[k'].1 ≤ t) := by rw [Bool.eq_iff_iff, HMB1.out, decide_eq_true_eq]; exact ⟨fun ⟨_, h⟩ => h, fun h => ⟨hltb, h⟩⟩
                have EMB := hide emb
                clear emb
                go_quiet ((exact quiet_left (hr _ _ _)))
                go_wp2
                go_meet
                exact ⟨nq, by rw [EMA.out, EMB.out], rfl⟩
              · have hdb : decide ((k' : Int) < (b1.length : Int)) = false := decide_eq_false (by omega)
                have emb : memB b1 t = false := by rw [Bool.eq_false_iff, Ne, HMB1.out]; exact fun ⟨h, _⟩ => hltb h
                have EMB := hide emb
                clear emb
                go_quiet ((exact quiet_left (hr _ _ _)))
                go_wp2
                go_meet
                exact ⟨nq, by rw [EMA.out, EMB.out], rfl⟩
            · have hda : decide ((i' : Int) < (a1.length : Int)) = false := decide_eq_false (by omega)
              have ema : memB a1 t = false := by rw [Bool.eq_false_iff, Ne, HMA1.out]; exact fun ⟨h, _⟩ => hlta h
              have EMA := hide ema
              clear ema
              by_cases hltb : k' < b1.length
              · obtain ⟨bb, offb, rfl, hbb, hcb1, hcb2⟩ := (rb3.below hb).at_ hltb
                have hdb : decide ((k' : Int) < (b1.length : Int)) = true := decide_eq_true (by omega)
                have emb : memB b1 t = decide (b1[k'].1 ≤ t) := by rw [Bool.eq_iff_iff, HMB1.out, decide_eq_true_eq]; exact ⟨fun ⟨_, h⟩ => h, fun h => ⟨hltb, h⟩⟩
                have EMB := hide emb
                clear emb
                go_quiet ((exact quiet_left (hr _ _ _)))
                go_wp2
                go_meet
                exact ⟨nq, by rw [EMA.out, EMB.out], rfl⟩
              · have hdb : decide ((k' : Int) < (b1.length : Int)) = false := decide_eq_false (by omega)
                have emb : memB b1 t = false := by rw [Bool.eq_false_iff, Ne, HMB1.out]; exact fun ⟨h, _⟩ => hltb h
                have EMB := hide emb
                clear emb
                go_quiet ((exact quiet_left (hr _ _ _)))
                go_wp2
                go_meet
                exact ⟨nq, by rw [EMA.out, EMB.out], rfl⟩
          case rest =>
            obtain ⟨nq, rfl, rfl⟩ := hcut
            cases hrule : rule (memB a1 t) (memB b1 t)
            · go_wp2
              go_roundw
              case rel =>
                exact ⟨n + 1, i', k', A4, c4, by omega, by go_num, rfl, rfl, hi', hk', fun j hj h h2 => by rw [HTH.out]; exact Int.lt_trans (hia' j hj h) hmono, fun j hj h h2 => by rw [HTH.out]; exact Int.lt_trans (hkb' j hj h) hmono,
                  by rw [HSG.out, hrule]; simp, by rw [HSG.out, hrule]; simpa using hown.drewN _, below_drewN hb _⟩
              case measure => simp [intOf]; omega
            · go_wp2_with (at_builtin; (refine append_iv rfl _ _ rfl w3.heap.size A4 c4 sg _ rfl rfl t (t' - 1) _ rfl _ rfl (by simp) (hown.drewN _) (by omega) (by have := hb.size; simp; omega) ?_)
                           intro g' c' w1 row hown1 hg' hgrow hrow)
              go_roundw
              case rel =>
                exact ⟨n + 1, i', k', some ⟨g', 0, none⟩, c', by omega, by go_num, rfl, rfl, hi', hk', fun j hj h h2 => by rw [HTH.out]; exact Int.lt_trans (hia' j hj h) hmono, fun j hj h h2 => by rw [HTH.out]; exact Int.lt_trans (hkb' j hj h) hmono,
                  by rw [HSG.out, hrule]; simp, by rw [HSG.out, hrule]; exact hown1, (below_drewN (hb.alloc hb.size _) _).grown hgrow (by have := hb.size; go_simp; omega) hrow⟩
              case measure => simp [intOf]; omega
    · have hdn : decide ((n : Int) + 1 < (ps.length : Int)) = false := decide_eq_false (by omega)
      go_wp2_with fail
      refine (normal_any A4 c4 (segs rule a1 b1 ps n) _ ((hown.ats)) (by omega)).mono ?_
      rintro e w5 ⟨A5, c5, ys, rfl, hown5, hb5, n5, m5⟩
      go_wp2_with fail
      go_ret
      refine ⟨A5, c5, ys, rfl, hown5.lower (Nat.le_trans hbw.size hb.size), hbw.trans ((hb.mono hbw.size).trans (hb5.mono (Nat.le_trans hbw.size hb.size))), n5, fun x => ?_⟩
      show _ ↔ rule (memT a x) (memT b x) = true
      rw [m5, ← memB_eq_memT na HMA.out, ← memB_eq_memT nb HMB.out, ← segs_mem rule HFF.out na nb HPS.out HPM.out]
      rw [show ps.length - 1 = n by omega]
end Go.Proofs.Ytkbiefklilelmaa

/-
  intervals.Union, Intersect: the sets of their results.
-/
namespace Go.Proofs.Ytkbiefklilelmaa
open Go.RowKit Go.Joins

theorem RetIvs.congr {w : World} {S S' : Int → Prop} {e : Ending} {w' : World} (h : RetIvs w S e w') (hs : ∀ t, S t ↔ S' t) : RetIvs w S' e w' := by
  obtain ⟨A, c, ys, h1, h2, h3, h4, h5⟩ := h
  exact ⟨A, c, ys, h1, h2, h3, h4, fun t => (h5 t).trans (hs t)⟩

theorem union_any (A B : Option Addr) (c d : Nat) (a b : List Iv) (w : World) (ha : IvsAt w w.heap.size A a) (hb : IvsAt w w.heap.size B b) (hla : a.length ≤ 4398046511104) (hlb : b.length ≤ 4398046511104) :
    Calls Try.prog 52 #[.slice A a.length c, .slice B b.length d] w (RetIvs w fun t => Mem a t ∨ Mem b t) := by
  go_enter Try.func52, Try.ntmps52
  go_wp2_with fail
  refine (combine_any 73 (enters_of Try.func73 (by kernel_rfl) rfl) _ union_rule rfl A B c d a b _ ha hb hla hlb).mono ?_
  rintro e w1 ⟨A1, c1, ys, rfl, hown, hb, hn, hm⟩
  go_wp2_with fail
  go_ret
  exact ⟨A1, c1, ys, rfl, hown, hb, hn, fun t => by rw [hm, Bool.or_eq_true, memT_iff, memT_iff]⟩

theorem intersect_any (A B : Option Addr) (c d : Nat) (a b : List Iv) (w : World) (ha : IvsAt w w.heap.size A a) (hb : IvsAt w w.heap.size B b) (hla : a.length ≤ 4398046511104) (hlb : b.length ≤ 4398046511104) :
    Calls Try.prog 20 #[.slice A a.length c, .slice B b.length d] w (RetIvs w fun t => Mem a t ∧ Mem b t) := by
  go_enter Try.func20, Try.ntmps20
  go_wp2_with fail
  refine (combine_any 47 (enters_of Try.func47 (by kernel_rfl) rfl) _ intersect_rule rfl A B c d a b _ ha hb hla hlb).mono ?_
  rintro e w1 ⟨A1, c1, ys, rfl, hown, hb, hn, hm⟩
  go_wp2_with fail
  go_ret
  exact ⟨A1, c1, ys, rfl, hown, hb, hn, fun t => by rw [hm, Bool.and_eq_true, memT_iff, memT_iff]⟩

end Go.Proofs.Ytkbiefklilelmaa

/-
  wavestoreref46.Same: whether two lists are equal.
-/
namespace Go.Proofs.Ytkbiefklilelmaa
open Go.RowKit Go.Joins

theorem eq_iv (a b c d : Int) (w : World) : (Op.equalIn 10000 42 (.agg #[.int .i64 a, .int .i64 b]) (.agg #[.int .i64 c, .int .i64 d])).run Try.prog w = .ok (a == c && b == d) w := by
  have u3 := Try.underlying3
  have a3 := Try.isAgg3
  have z3 := Try.sizeOf3
  have hS : Try.prog.underlying 42 = some (.struct (Try.prog.fieldsOf 42)) := by kernel_rfl
  have hp : Try.prog.stoodInHeld 42 = false := by kernel_rfl
  rw [show (10000 : Nat) = 9999 + 1 from rfl, run_equalIn_agg w 9999 42 _ _ hS hp]
  simp only [Program.fieldsOf, Try.underlying42]
  go_simp
  by_cases h1 : a = c <;> by_cases h2 : b = d <;> simp [h1, h2]
theorem neq_iv (a b c d : Int) (w : World) : (binOp .neq 42 (.agg #[.int .i64 a, .int .i64 b]) (.agg #[.int .i64 c, .int .i64 d])).run Try.prog w = .ok (.bool (!(a == c && b == d))) w := by
  rw [run_neq_struct, eq_iv]; rfl

theorem same_ne {xs ys : List Iv} (e : xs = ys) {k : Nat} (h1 : k < xs.length) (h2 : k < ys.length) (hw : (!xs[k].1 == ys[k].1) = true ∨ (!xs[k].2 == ys[k].2) = true) : False := by
  subst e; simp at hw
theorem same_step {xs ys : List Iv} {k : Nat} (ht : xs.take k = ys.take k) (h1 : k < xs.length) (h2 : k < ys.length) (hw : (!xs[k].1 == ys[k].1) = false ∧ (!xs[k].2 == ys[k].2) = false) : xs.take (k + 1) = ys.take (k + 1) := by
  rw [List.take_succ_eq_append_getElem h1, List.take_succ_eq_append_getElem h2, ht]
  simp only [Bool.not_eq_false', beq_iff_eq] at hw
  rw [Prod.ext hw.1 hw.2]

def SameRel (w : World) (xs ys : List Iv) (i : Value) (wr : World) : Prop :=
  ∃ (k q : Nat), k ≤ xs.length ∧ i = .int .i64 k ∧ xs.take k = ys.take k ∧ wr = w.drewN q

set_option maxHeartbeats 1000000 in
theorem same_any (A B : Option Addr) (c d : Nat) (xs ys : List Iv) (w : World) (hx : IvsAt w w.heap.size A xs) (hy : IvsAt w w.heap.size B ys) (hl : xs.length ≤ 4398046511104) (_hl2 : ys.length ≤ 4398046511104) :
    Calls Try.prog 39 #[.slice A xs.length c, .slice B ys.length d] w fun e w' => e = .returned (.bool (decide (xs = ys))) ∧ ∃ q, w' = w.drewN q := by
  by_cases hlen : xs.length = ys.length
  · have HL := hide hlen
    have hne : ((xs.length : Int) != (ys.length : Int)) = false := by simp [hlen]
    clear hlen
    go_enter Try.func39, Try.ntmps39
    go_wp2
    go_loopw [5] (fun i wr => SameRel w xs ys i wr) (fun i _ => xs.length - (intOf i).toNat)
    case atStart => exact ⟨0, 0, Nat.zero_le _, rfl, rfl, rfl⟩
    case round =>
      obtain ⟨k, q, hk, rfl, htk, rfl⟩ := hrel
      have HTK := hide htk
      clear htk
      by_cases hlt : k < xs.length
      · have hlt2 : k < ys.length := by have := HL.out; omega
        obtain ⟨b, off, rfl, hbb, hc1, hc2⟩ := hx.at_ hlt
        obtain ⟨b', off', rfl, hbb', hc1', hc2'⟩ := hy.at_ hlt2
        have hne2 := neq_iv xs[k].1 xs[k].2 ys[k].1 ys[k].2
        go_wp2
        go_quiet (fail)
        go_wp2
        · have hw : (!xs[k].1 == ys[k].1) = true ∨ (!xs[k].2 == ys[k].2) = true := by assumption
          go_ret
          exact ⟨by rw [decide_eq_false (fun e => same_ne e hlt hlt2 hw)]; rfl, q + nq, by rw [World.drewN_drewN]⟩
        · have hw : (!xs[k].1 == ys[k].1) = false ∧ (!xs[k].2 == ys[k].2) = false := by assumption
          go_roundw
          case rel => exact ⟨k + 1, q + nq, by omega, by go_num, same_step HTK.out hlt hlt2 hw, rfl⟩
          case measure => simp [intOf]; omega
      · go_wp2
        go_ret
        refine ⟨?_, _, rfl⟩
        have h1 := HTK.out
        have h2 := HL.out
        rw [List.take_of_length_le (by omega), List.take_of_length_le (by omega)] at h1
        rw [decide_eq_true h1]
        rfl
  · have hne : ((xs.length : Int) != (ys.length : Int)) = true := by simp; omega
    have HL := hide hlen
    clear hlen
    go_enter Try.func39, Try.ntmps39
    go_wp2
    go_ret
    exact ⟨by rw [decide_eq_false (fun e => HL.out (by rw [e]))]; rfl, 0, rfl⟩

/-- two lists that are the normal lists of one set -/
theorem sameR_true (A B : Option Addr) (c d : Nat) (xs ys : List Iv) (w : World) (hx : IvsAt w w.heap.size A xs) (hy : IvsAt w w.heap.size B ys) (nx : Norm xs) (ny : Norm ys) (h : ∀ t, Mem xs t ↔ Mem ys t) :
    Calls Try.prog 39 #[.slice A xs.length c, .slice B ys.length d] w fun e w' => e = .returned (.bool true) ∧ Below w.heap.size w w' :=
  (same_any A B c d xs ys w hx hy (by have := norm_len nx; omega) (by have := norm_len ny; omega)).mono fun _ _ ⟨he, q, hw⟩ => ⟨by rw [he, decide_eq_true (norm_ext nx ny h)], by rw [hw]; exact below_drewN (Below.refl _ _) q⟩

end Go.Proofs.Ytkbiefklilelmaa

/-
  match.increasing and the reference's times: whether a list consists of times in strictly increasing order.
-/
namespace Go.Proofs.Ytkbiefklilelmaa
open Go.RowKit

/-- a truth value that says whether P holds; memory that was there is as it was -/
def SaysP (P : Prop) (w : World) (e : Ending) (w' : World) : Prop := ∃ b : Bool, e = .returned (.bool b) ∧ (b = true ↔ P) ∧ Below w.heap.size w w'
theorem incr_nil : Incr [] := ⟨List.Pairwise.nil, by simp⟩
theorem incr_snoc {l : List Int} {t : Int} : Incr (l ++ [t]) ↔ Incr l ∧ (0 ≤ t ∧ t ≤ 1099511627776) ∧ ∀ u ∈ l, u < t := by
  unfold Incr
  rw [List.pairwise_append]
  constructor
  · rintro ⟨⟨h1, _, h3⟩, h4⟩
    exact ⟨⟨h1, fun u hu => h4 u (by simp [hu])⟩, h4 t (by simp), fun u hu => h3 u hu t (by simp)⟩
  · rintro ⟨⟨h1, h2⟩, h3, h4⟩
    refine ⟨⟨h1, by simp, fun a ha b hb => by simp at hb; subst hb; exact h4 a ha⟩, fun u hu => ?_⟩
    rcases List.mem_append.1 hu with hu | hu
    · exact h2 u hu
    · simp at hu; subst hu; exact h3
theorem incr_take {l : List Int} (h : Incr l) (k : Nat) : Incr (l.take k) := ⟨h.1.sublist (List.take_sublist _ _), fun t ht => h.2 t (List.mem_of_mem_take ht)⟩
/-- the next time, when the ones before are in order -/
theorem incr_step {l : List Int} {k : Nat} (hk : k < l.length) (h : Incr (l.take k)) : Incr (l.take (k + 1)) ↔ (0 ≤ l[k] ∧ l[k] ≤ 1099511627776) ∧ (∀ j (_ : j < l.length), j + 1 = k → l[j] < l[k]) := by
  rw [List.take_succ_eq_append_getElem hk, incr_snoc]
  constructor
  · rintro ⟨_, h2, h3⟩
    refine ⟨h2, fun j hj hjk => h3 _ ?_⟩
    rw [List.mem_take_iff_getElem]
    exact ⟨j, by omega, rfl⟩
  · rintro ⟨h2, h3⟩
    refine ⟨h, h2, fun u hu => ?_⟩
    obtain ⟨i, hi, rfl⟩ := List.mem_take_iff_getElem.1 hu
    have hpos : 0 < k := by omega
    have h4 := h3 (k - 1) (by omega) (by omega)
    rcases Nat.lt_or_ge i (k - 1) with h5 | h5
    · have h6 := h.1
      rw [List.pairwise_iff_getElem] at h6
      have := h6 i (k - 1) (by rw [List.length_take]; omega) (by rw [List.length_take]; omega) h5
      rw [List.getElem_take, List.getElem_take] at this
      omega
    · have : i = k - 1 := by omega
      subst this
      exact h4
theorem not_incr {l : List Int} {k : Nat} (h : ¬ Incr (l.take k)) : ¬ Incr l := fun h1 => h (incr_take h1 k)
def IncRel (l : List Int) (w : World) (i : Value) (wr : World) : Prop := ∃ k : Nat, k ≤ l.length ∧ i = .int .i64 k ∧ Incr (l.take k) ∧ Below w.heap.size w wr

set_option maxRecDepth 100000 in
set_option maxHeartbeats 4000000 in
theorem increasing_any (A : Option Addr) (c : Nat) (l : List Int) (w : World) (h : IntsAt w w.heap.size A l) (hl : l.length ≤ 140737488355328) :
    Calls Try.prog 78 #[.slice A l.length c] w (SaysP (Incr l) w) := by
  go_enter Try.func78, Try.ntmps78
  go_wp2_with fail
  go_loopw [7] (fun i wr => IncRel l w i wr) (fun i _ => l.length - (intOf i).toNat)
  case atStart => exact ⟨0, Nat.zero_le _, rfl, incr_nil, Below.refl _ _⟩
  case round =>
    obtain ⟨k, hk, rfl, hinc, hbr⟩ := hrel
    have HBR := hide hbr
    by_cases hlt : k < l.length
    · have hr := (h.below hbr).more hbr.size
      obtain ⟨b, off, rfl, hb, e0⟩ := hr.at_ hlt
      have HST := hide (incr_step hlt hinc)
      have HN := hide (fun (h1 : ¬ Incr (l.take (k + 1))) => not_incr h1)
      have hprev : ∀ hp : 0 < k, wr.cell? ⟨b, off + (k - 1), none⟩ = some (.int .i64 (l[k - 1]'(by omega))) := fun hp => by
        obtain ⟨b', off', he, _, e1⟩ := hr.at_ (k := k - 1) (by omega)
        injection he with he
        injection he with e2 e3
        subst e2 e3
        exact e1
      have HPREV := hide hprev
      clear hinc hr hprev hbr
      obtain ⟨t, ht⟩ : ∃ t, l[k] = t := ⟨_, rfl⟩
      rw [ht] at e0 HST
      clear ht
      by_cases s1 : t < 0
      · have T1 : decide (t < 0) = true := decide_eq_true s1
        have HE := hide (show SaysP (Incr l) w (.returned (.bool false)) wr from ⟨false, rfl, ⟨(fun e => by cases e), fun e => absurd e (HN.out fun h1 => by have := (HST.out.1 h1).1; omega)⟩, HBR.out⟩)
        clear s1
        go_wp2_with fail
        go_ret
        exact HE.out
      · have T1 : decide (t < 0) = false := decide_eq_false s1
        by_cases s2 : 1099511627776 < t
        · have T2 : decide (1099511627776 < t) = true := decide_eq_true s2
          have HE := hide (show SaysP (Incr l) w (.returned (.bool false)) wr from ⟨false, rfl, ⟨(fun e => by cases e), fun e => absurd e (HN.out fun h1 => by have := (HST.out.1 h1).1; omega)⟩, HBR.out⟩)
          clear s1 s2
          go_wp2_with fail
          go_ret
          exact HE.out
        · have T2 : decide (1099511627776 < t) = false := decide_eq_false s2
          by_cases s3 : 0 < k
          · have e1 := HPREV.out s3
            have T3 : decide (0 < k) = true := decide_eq_true s3
            obtain ⟨u, hu⟩ : ∃ u, l[k - 1]'(by omega) = u := ⟨_, rfl⟩
            rw [hu] at e1
            have HU := hide hu
            have hk1 : ((k : Int) - 1).toNat = k - 1 := by omega
            clear hu
            by_cases s4 : t ≤ u
            · have T4 : decide (t ≤ u) = true := decide_eq_true s4
              have HE := hide (show SaysP (Incr l) w (.returned (.bool false)) wr from ⟨false, rfl, ⟨(fun e => by cases e), fun e => absurd e (HN.out fun h1 => by have := (HST.out.1 h1).2 (k - 1) (by omega) (by omega); rw [HU.out] at this; omega)⟩, HBR.out⟩)
              clear s1 s2 s4
              go_wp2_with fail
              go_ret
              exact HE.out
            · have T4 : decide (t ≤ u) = false := decide_eq_false s4
              have HI := hide (HST.out.2 ⟨by omega, fun j hj hjk => by have : j = k - 1 := by omega
                                                                       subst this
                                                                       rw [HU.out]; omega⟩)
              clear s1 s2 s4
              go_wp2_with fail
              exact ⟨⟨k + 1, hlt, by go_num, HI.out, HBR.out⟩, by simp [intOf]; omega⟩
          · have T3 : decide (0 < k) = false := decide_eq_false s3
            have HI := hide (HST.out.2 ⟨by omega, fun j hj hjk => by omega⟩)
            clear s1 s2
            go_wp2_with fail
            exact ⟨⟨k + 1, hlt, by go_num, HI.out, HBR.out⟩, by simp [intOf]; omega⟩
    · have hke : k = l.length := by omega
      subst hke
      have HE := hide (show SaysP (Incr l) w (.returned (.bool true)) wr from ⟨true, rfl, ⟨fun _ => by rwa [List.take_length] at hinc, fun _ => rfl⟩, HBR.out⟩)
      clear hinc hbr
      go_wp2_with fail
      go_ret
      exact HE.out

set_option maxRecDepth 100000 in
set_option maxHeartbeats 4000000 in
theorem rtimes_any (A : Option Addr) (c : Nat) (l : List Int) (w : World) (h : IntsAt w w.heap.size A l) (hl : l.length ≤ 140737488355328) :
    Calls Try.prog 87 #[.slice A l.length c] w (SaysP (Incr l) w) := by
  go_enter Try.func87, Try.ntmps87
  go_wp2_with fail
  go_loopw [3] (fun i wr => IncRel l w i wr) (fun i _ => l.length - (intOf i).toNat)
  case atStart => exact ⟨0, Nat.zero_le _, rfl, incr_nil, Below.refl _ _⟩
  case round =>
    obtain ⟨k, hk, rfl, hinc, hbr⟩ := hrel
    have HBR := hide hbr
    by_cases hlt : k < l.length
    · have hr := (h.below hbr).more hbr.size
      obtain ⟨b, off, rfl, hb, e0⟩ := hr.at_ hlt
      have HST := hide (incr_step hlt hinc)
      have HN := hide (fun (h1 : ¬ Incr (l.take (k + 1))) => not_incr h1)
      have hprev : ∀ hp : 0 < k, wr.cell? ⟨b, off + (k - 1), none⟩ = some (.int .i64 (l[k - 1]'(by omega))) := fun hp => by
        obtain ⟨b', off', he, _, e1⟩ := hr.at_ (k := k - 1) (by omega)
        injection he with he
        injection he with e2 e3
        subst e2 e3
        exact e1
      have HPREV := hide hprev
      clear hinc hr hprev hbr
      obtain ⟨t, ht⟩ : ∃ t, l[k] = t := ⟨_, rfl⟩
      rw [ht] at e0 HST
      clear ht
      by_cases s1 : t < 0
      · have T1 : decide (t < 0) = true := decide_eq_true s1
        have HE := hide (show ∀ q, SaysP (Incr l) w (.returned (.bool false)) (wr.drewN q) from fun q => ⟨false, rfl, ⟨(fun e => by cases e), fun e => absurd e (HN.out fun h1 => by have := (HST.out.1 h1).1; omega)⟩, below_drewN HBR.out q⟩)
        clear s1
        go_upto_region 4 with (fail)
        go_quiet (fail)
        go_wp2_with fail
        go_ret
        exact HE.out nq
      · have T1 : decide (t < 0) = false := decide_eq_false s1
        by_cases s2 : 1099511627776 < t
        · have T2 : decide (1099511627776 < t) = true := decide_eq_true s2
          have HE := hide (show ∀ q, SaysP (Incr l) w (.returned (.bool false)) (wr.drewN q) from fun q => ⟨false, rfl, ⟨(fun e => by cases e), fun e => absurd e (HN.out fun h1 => by have := (HST.out.1 h1).1; omega)⟩, below_drewN HBR.out q⟩)
          clear s1 s2
          go_upto_region 4 with (fail)
          go_quiet (fail)
          go_wp2_with fail
          go_ret
          exact HE.out nq
        · have T2 : decide (1099511627776 < t) = false := decide_eq_false s2
          by_cases s3 : 0 < k
          · have e1 := HPREV.out s3
            have T3 : decide (0 < k) = true := decide_eq_true s3
            obtain ⟨u, hu⟩ : ∃ u, l[k - 1]'(by omega) = u := ⟨_, rfl⟩
            rw [hu] at e1
            have HU := hide hu
            have hk1 : ((k : Int) - 1).toNat = k - 1 := by omega
            have hw1 : IntKind.i64.wrap ((k : Int) - 1) = (k : Int) - 1 := IntWalk.i64_in _ (by omega)
            have hw2 : (0 : Int) ≤ (k : Int) - 1 := by omega
            have hw3 : (k : Int) - 1 < (l.length : Int) := by omega
            clear hu
            by_cases s4 : t ≤ u
            · have T4 : decide (t ≤ u) = true := decide_eq_true s4
              have HE := hide (show ∀ q, SaysP (Incr l) w (.returned (.bool false)) (wr.drewN q) from fun q => ⟨false, rfl, ⟨(fun e => by cases e), fun e => absurd e (HN.out fun h1 => by have := (HST.out.1 h1).2 (k - 1) (by omega) (by omega); rw [HU.out] at this; omega)⟩, below_drewN HBR.out q⟩)
              clear s1 s2 s4
              go_upto_region 4 with (fail)
              go_quiet (fail)
              go_wp2_with fail
              go_ret
              exact HE.out nq
            · have T4 : decide (t ≤ u) = false := decide_eq_false s4
              have HI := hide (HST.out.2 ⟨by omega, fun j hj hjk => by have : j = k - 1 := by omega
                                                                       subst this
                                                                       rw [HU.out]; omega⟩)
              clear s1 s2 s4
              go_upto_region 4 with (fail)
              go_quiet (fail)
              go_wp2_with fail
              exact ⟨⟨k + 1, hlt, by go_num, HI.out, below_drewN HBR.out nq⟩, by simp [intOf]; omega⟩
          · have T3 : decide (0 < k) = false := decide_eq_false s3
            have HI := hide (HST.out.2 ⟨by omega, fun j hj hjk => by omega⟩)
            clear s1 s2
            go_upto_region 4 with (fail)
            go_quiet (fail)
            go_wp2_with fail
            exact ⟨⟨k + 1, hlt, by go_num, HI.out, below_drewN HBR.out nq⟩, by simp [intOf]; omega⟩
    · have hke : k = l.length := by omega
      subst hke
      have HE := hide (show SaysP (Incr l) w (.returned (.bool true)) wr from ⟨true, rfl, ⟨fun _ => by rwa [List.take_length] at hinc, fun _ => rfl⟩, HBR.out⟩)
      clear hinc hbr
      go_wp2_with fail
      go_ret
      exact HE.out

end Go.Proofs.Ytkbiefklilelmaa

/-
  Maps from int to int that the call has made: what they hold, key by key.
-/
namespace Go.Proofs.Ytkbiefklilelmaa
open Go.RowKit

def MapII (w : World) (B n : Nat) (m : Int → Option Int) : Prop :=
  ∃ D : DataW Unit, w.ownsMap Try.prog 3 (plainElem Try.prog 3) B n D ∧ ∀ i, I64 i → (m i = none → Maps.has D (.int .i64 i) = false) ∧ ∀ v, m i = some v → Maps.has D (.int .i64 i) = true ∧ ∀ z, D.atKey (.int .i64 i) z = .lit (.int .i64 v)
theorem i64_wf {i : Int} (h : I64 i) : (Lit.int .i64 i).wf = true := by
  unfold I64 at h
  simp [Lit.wf, IntKind.min, IntKind.max, IntKind.bits, IntKind.signed]
  omega
theorem intKey : Maps.Keyed Try.prog 3 := Maps.int_keyed Try.underlying3
theorem zeroInt (w : World) : (zeroValue 3).run Try.prog w = .ok (.int .i64 0) w := by kernel_rfl
theorem MapII.made (w : World) : MapII (w.alloc (.map #[] 0)) w.heap.size 0 (fun _ => none) :=
  ⟨.map [], World.ownsMap_made _ _ _ _, fun i _ => ⟨fun _ => rfl, (fun v h => by cases h)⟩⟩
theorem MapII.kept {w w' : World} {B n : Nat} {m : Int → Option Int} {row : Option Nat} (h : MapII w B n m) (hg : w.grownBy w' row) (hne : some B ≠ row) : MapII w' B n m := by
  obtain ⟨D, h1, h2⟩ := h
  exact ⟨D, h1.kept hg hne, h2⟩
theorem MapII.alloc {w : World} {B n : Nat} {m : Int → Option Int} (h : MapII w B n m) (o : Obj) : MapII (w.alloc o) B n m := by
  obtain ⟨D, h1, h2⟩ := h
  exact ⟨D, h1.alloc o, h2⟩
theorem MapII.block {w w' : World} {B n : Nat} {m : Int → Option Int} (h : MapII w B n m) (hb : w'.heap[B]? = w.heap[B]?) : MapII w' B n m := by
  obtain ⟨D, ⟨es, clock, h1, h3⟩, h2⟩ := h
  exact ⟨D, ⟨es, clock, hb.trans h1, h3⟩, h2⟩
theorem MapII.lt {w : World} {B n : Nat} {m : Int → Option Int} (h : MapII w B n m) : B < w.heap.size := by
  obtain ⟨D, h1, _⟩ := h
  exact h1.lt
theorem tup_eq {a b : Int} {x y : Bool} {w : World} (h : a = b) (h2 : x = y) : Result.ok (Value.tuple #[.int .i64 a, .bool x]) w = Result.ok (Value.tuple #[.int .i64 b, .bool y]) w := by rw [h, h2]
/-- 'v, ok := m[i]' -/
theorem MapII.look {w : World} {B n : Nat} {m : Int → Option Int} (h : MapII w B n m) {i : Int} (hi : I64 i) :
    (Instr.lookup 132 (.map (some B)) (.int .i64 i) true).run Try.prog w = .ok (.tuple #[.int .i64 ((m i).getD 0), .bool (m i).isSome]) w := by
  obtain ⟨D, h1, h2⟩ := h
  obtain ⟨v, ps, hr, hv⟩ := h1.look_ok intKey Try.underlying132 (zeroInt w) (plainElem_int (H := Unit) Try.underlying3 (by decide)) (Maps.keyOf_int_mk Try.underlying3 (i64_wf hi))
  rw [hr]
  obtain ⟨c, rfl, hc, _⟩ := plainElem_int_inv Try.underlying3 hv
  have hc1 := congrArg Prod.fst hc
  dsimp only at hc1
  obtain ⟨h3, h4⟩ := h2 i hi
  cases hm : m i with
  | none =>
    have h5 := h3 hm
    rw [h5]
    rw [Maps.atKey_of_not_has h5] at hc1
    have hc1 := (Lit.int.inj (DataW.lit.inj hc1)).2
    rw [← hc1]
    exact tup_eq rfl rfl
  | some v =>
    obtain ⟨h5, h6⟩ := h4 v hm
    rw [h5]
    rw [h6] at hc1
    have hc1 := (Lit.int.inj (DataW.lit.inj hc1)).2
    rw [← hc1]
    exact tup_eq rfl rfl
def setM (m : Int → Option Int) (i v : Int) : Int → Option Int := fun j => if j = i then some v else m j
/-- 'm[i] = v' -/
theorem MapII.put {w : World} {B n : Nat} {m : Int → Option Int} (h : MapII w B n m) {i v : Int} (hi : I64 i) (hv : I64 v) (hn : n < maxLen) :
    ∃ w', (Instr.mapUpdate 132 (.map (some B)) (.int .i64 i) (.int .i64 v)).run Try.prog w = .ok () w' ∧ MapII w' B (n + 1) (setM m i v) ∧ w.grownBy w' (some B) := by
  obtain ⟨D, h1, h2⟩ := h
  obtain ⟨w', hr, h3, h4⟩ := h1.update intKey Try.underlying132 hn (Maps.keyOf_int_mk Try.underlying3 (i64_wf hi)) (plainElem_int (H := Unit) Try.underlying3 (i64_wf hv))
  refine ⟨w', hr, ⟨_, h3, fun j hj => ?_⟩, h4⟩
  have hM := h1.isMap
  unfold setM
  by_cases e : j = i
  · subst e
    rw [if_pos rfl]
    refine ⟨(fun h => by cases h), fun u hu => ?_⟩
    injection hu with hu
    subst hu
    exact ⟨Maps.has_put_same hM (by trivial) _, fun z => Maps.atKey_put_same hM (by trivial) _ z⟩
  · rw [if_neg e]
    have hne : (Lit.int .i64 j) ≠ .int .i64 i := fun h => e (by injection h)
    obtain ⟨h5, h6⟩ := h2 j hj
    refine ⟨fun h => by rw [Maps.has_put_other hne]; exact h5 h, fun u hu => ?_⟩
    obtain ⟨h7, h8⟩ := h6 u hu
    exact ⟨by rw [Maps.has_put_other hne]; exact h7, fun z => by rw [Maps.atKey_put_other hne]; exact h8 z⟩

/-- behind a store by the library's law -/
theorem map_put {w' : World} {B n : Nat} {m : Int → Option Int} {D : DataW Unit} {i v : Int} (h3 : w'.ownsMap Try.prog 3 (plainElem Try.prog 3) B (n + 1) (D.put (.int .i64 i) (.lit (.int .i64 v)))) (hM : Maps.IsMap D)
    (h2 : ∀ i, I64 i → (m i = none → Maps.has D (.int .i64 i) = false) ∧ ∀ v, m i = some v → Maps.has D (.int .i64 i) = true ∧ ∀ z, D.atKey (.int .i64 i) z = .lit (.int .i64 v)) : MapII w' B (n + 1) (setM m i v) := by
  refine ⟨_, h3, fun j hj => ?_⟩
  unfold setM
  by_cases e : j = i
  · subst e
    rw [if_pos rfl]
    refine ⟨(fun h => by cases h), fun u hu => ?_⟩
    injection hu with hu
    subst hu
    exact ⟨Maps.has_put_same hM (by trivial) _, fun z => Maps.atKey_put_same hM (by trivial) _ z⟩
  · rw [if_neg e]
    have hne : (Lit.int .i64 j) ≠ .int .i64 i := fun h => e (by injection h)
    obtain ⟨h5, h6⟩ := h2 j hj
    refine ⟨fun h => by rw [Maps.has_put_other hne]; exact h5 h, fun u hu => ?_⟩
    obtain ⟨h7, h8⟩ := h6 u hu
    exact ⟨by rw [Maps.has_put_other hne]; exact h7, fun z => by rw [Maps.atKey_put_other hne]; exact h8 z⟩

end Go.Proofs.Ytkbiefklilelmaa

/-
  The map that automaton.Valid fills: the event of the last edge to a state; what it says of the edges ahead.
-/
namespace Go.Proofs.Ytkbiefklilelmaa
open Go.RowKit

def mapK (xs : List Edg) : Nat → Int → Option Int
  | 0 => fun _ => none
  | k + 1 => match xs[k]? with
    | some x => setM (mapK xs k) x.to_ x.event
    | none => mapK xs k
theorem mapK_succ {xs : List Edg} {k : Nat} {x : Edg} (h : xs[k]? = some x) : mapK xs (k + 1) = setM (mapK xs k) x.to_ x.event := by
  show (match xs[k]? with | some x => setM (mapK xs k) x.to_ x.event | none => mapK xs k) = _
  rw [h]
theorem mapK_some {xs : List Edg} {t e : Int} : ∀ {k : Nat}, mapK xs k t = some e → ∃ i y, i < k ∧ xs[i]? = some y ∧ y.to_ = t ∧ y.event = e
  | 0, h => by cases h
  | k + 1, h => by
    cases hx : xs[k]? with
    | none =>
      have h' : mapK xs k t = some e := by
        have h2 : mapK xs (k + 1) = mapK xs k := by
          show (match xs[k]? with | some x => setM (mapK xs k) x.to_ x.event | none => mapK xs k) = _
          rw [hx]
        rw [h2] at h; exact h
      obtain ⟨i, y, h1, h2⟩ := mapK_some h'
      exact ⟨i, y, by omega, h2⟩
    | some x =>
      rw [mapK_succ hx] at h
      unfold setM at h
      by_cases ht : t = x.to_
      · rw [if_pos ht] at h
        injection h with h
        exact ⟨k, x, by omega, hx, ht.symm, h⟩
      · rw [if_neg ht] at h
        obtain ⟨i, y, h1, h2⟩ := mapK_some h
        exact ⟨i, y, by omega, h2⟩
theorem mapK_none {xs : List Edg} {t : Int} : ∀ {k : Nat}, mapK xs k t = none → ∀ i y, i < k → xs[i]? = some y → y.to_ ≠ t
  | 0, _, _, _, hi, _ => absurd hi (Nat.not_lt_zero _)
  | k + 1, h, i, y, hi, hy => by
    cases hx : xs[k]? with
    | none =>
      have h2 : mapK xs (k + 1) = mapK xs k := by
        show (match xs[k]? with | some x => setM (mapK xs k) x.to_ x.event | none => mapK xs k) = _
        rw [hx]
      rw [h2] at h
      rcases Nat.lt_or_ge i k with h1 | h1
      · exact mapK_none h i y h1 hy
      · have : i = k := by omega
        subst this
        rw [hx] at hy
        cases hy
    | some x =>
      rw [mapK_succ hx] at h
      unfold setM at h
      by_cases ht : t = x.to_
      · rw [if_pos ht] at h; cases h
      · rw [if_neg ht] at h
        rcases Nat.lt_or_ge i k with h1 | h1
        · exact mapK_none h i y h1 hy
        · have : i = k := by omega
          subst this
          rw [hx] at hy
          injection hy with hy
          subst hy
          exact fun e => ht e.symm
theorem fits_one {n nE nC : Nat} {xs : List Edg} {i j : Nat} {y z : Edg} (hj : fitsB n nE nC xs j = true) (hij : i < j) (hy : xs[i]? = some y) (hz : xs[j]? = some z) : oneB y z = true := by
  have hl := (List.getElem?_eq_some_iff.1 hz).1
  have e := (List.getElem?_eq_some_iff.1 hz).2
  rw [fits_at hl, Bool.and_eq_true] at hj
  rw [← e]
  refine List.all_eq_true.1 hj.2 y ?_
  have h1 : (xs.take j)[i]? = some y := by rw [List.getElem?_take_of_lt hij]; exact hy
  exact List.mem_of_getElem? h1
theorem one_iff {y z : Edg} : oneB y z = true ↔ (y.to_ = z.to_ → y.event = z.event) := by unfold oneB; rw [decide_eq_true_iff]
theorem fits_same {n nE nC : Nat} {xs : List Edg} {k i j : Nat} {y z : Edg} (h : ∀ i, i < k → fitsB n nE nC xs i = true) (hi : i < k) (hj : j < k) (hy : xs[i]? = some y) (hz : xs[j]? = some z) (ht : y.to_ = z.to_) : y.event = z.event := by
  rcases Nat.lt_trichotomy i j with h1 | h1 | h1
  · exact one_iff.1 (fits_one (h j hj) h1 hy hz) ht
  · subst h1
    rw [hy] at hz
    injection hz with hz
    rw [hz]
  · exact (one_iff.1 (fits_one (h i hi) h1 hz hy) ht.symm).symm
theorem mapK_all_none {xs : List Edg} {k : Nat} {x : Edg} (h : mapK xs k x.to_ = none) : (xs.take k).all (fun y => oneB y x) = true :=
  one_all fun i y hi hy => one_iff.2 fun e => absurd e (mapK_none h i y hi hy)
theorem mapK_all_some {n nE nC : Nat} {xs : List Edg} {k : Nat} {x : Edg} {e : Int} (hf : ∀ i, i < k → fitsB n nE nC xs i = true) (h : mapK xs k x.to_ = some e) (he : e = x.event) : (xs.take k).all (fun y => oneB y x) = true :=
  one_all fun i y hi hy => one_iff.2 fun ht => by
    obtain ⟨j, z, h1, h2, h3, h4⟩ := mapK_some h
    rw [← he, ← h4]
    exact fits_same hf hi h1 hy h2 (by rw [ht, h3])
theorem mapK_all_bad {xs : List Edg} {k : Nat} {x : Edg} {e : Int} (h : mapK xs k x.to_ = some e) (he : e ≠ x.event) : (xs.take k).all (fun y => oneB y x) = false := by
  obtain ⟨j, z, h1, h2, h3, h4⟩ := mapK_some h
  refine one_bad h1 h2 ?_
  unfold oneB
  exact decide_eq_false fun hh => he (by rw [← h4]; exact hh h3)

end Go.Proofs.Ytkbiefklilelmaa
