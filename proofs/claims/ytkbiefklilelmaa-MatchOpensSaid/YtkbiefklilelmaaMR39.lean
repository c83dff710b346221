/-
  Several texts in one: RefAdd. Each says at its head what it holds.
-/
import Derived.Test.YtkbiefklilelmaaMR38
import Derived.Deep.DeepCutAuto
import Derived.Deep.CutBlock

/-
  The reference's In, bounds, add and cuts.
-/
namespace Go.Proofs.Ytkbiefklilelmaa
open Go.RowKit Go.Joins

theorem memB_take_succ (xs : List Iv) (k : Nat) (t : Int) (hk : k < xs.length) : memB (xs.take (k + 1)) t = (memB (xs.take k) t || decide (xs[k].1 ≤ t ∧ t ≤ xs[k].2)) := by
  unfold memB; rw [List.take_succ_eq_append_getElem hk, List.any_append]; simp
theorem memB_true {xs : List Iv} {k : Nat} {t : Int} (hk : k < xs.length) (h : xs[k].1 ≤ t ∧ t ≤ xs[k].2) : memB xs t = true := memB_iff.2 ⟨xs[k], List.getElem_mem _, h⟩
theorem memT_in {xs : List Iv} {t : Int} (h : 0 ≤ t ∧ t ≤ 1099511627776) : memT xs t = memB xs t := by unfold memT; rw [decide_eq_true h]; rfl
theorem memT_out {xs : List Iv} {t : Int} (h : ¬ (0 ≤ t ∧ t ≤ 1099511627776)) : memT xs t = false := by unfold memT; rw [decide_eq_false h]; rfl

def InRel (xs : List Iv) (t : Int) (i : Value) : Prop := ∃ k : Nat, k ≤ xs.length ∧ i = .int .i64 k ∧ memB (xs.take k) t = false

set_option maxHeartbeats 1000000 in
theorem refIn_any (A : Option Addr) (c : Nat) (xs : List Iv) (t : Int) (w : World) (B : Nat) (h : IvsAt w B A xs) (hl : xs.length ≤ 4398046511104) :
    Calls Try.prog 49 #[.slice A xs.length c, .int .i64 t] w fun e w' => e = .returned (.bool (memT xs t)) ∧ w = w' := by
  by_cases ht : 0 ≤ t ∧ t ≤ 1099511627776
  · have HT := hide (memT_in (xs := xs) ht)
    obtain ⟨t1, t2⟩ := ht
    go_enter Try.func49, Try.ntmps49
    go_wp2
    go_loop [5] (fun i => InRel xs t i) (fun i => xs.length - (intOf i).toNat)
    case atStart => exact ⟨0, Nat.zero_le _, rfl, rfl⟩
    case round =>
      obtain ⟨k, hk, rfl, hm⟩ := hrel
      have HM := hide hm
      clear hm
      by_cases hlt : k < xs.length
      · obtain ⟨b, off, rfl, hbb, hc1, hc2⟩ := h.at_ hlt
        have HS := hide (memB_take_succ xs k t hlt)
        by_cases h1 : xs[k].1 ≤ t
        · by_cases h2 : t ≤ xs[k].2
          · go_wp2
            go_ret
            exact ⟨by rw [HT.out, memB_true hlt ⟨h1, h2⟩]; rfl, rfl⟩
          · go_wp2
            go_round
            case rel => exact ⟨k + 1, by omega, by go_num, by rw [HS.out, HM.out, decide_eq_false (by omega)]; rfl⟩
            case measure => simp [intOf]; omega
        · go_wp2
          go_round
          case rel => exact ⟨k + 1, by omega, by go_num, by rw [HS.out, HM.out, decide_eq_false (by omega)]; rfl⟩
          case measure => simp [intOf]; omega
      · go_wp2
        go_ret
        exact ⟨by rw [HT.out, ← List.take_of_length_le (show xs.length ≤ k by omega), HM.out]; rfl, rfl⟩
  · have HT := hide (memT_out (xs := xs) ht)
    by_cases h1 : t < 0
    · go_enter Try.func49, Try.ntmps49
      go_wp2
      go_ret
      exact ⟨by rw [HT.out]; rfl, rfl⟩
    · have h2 : 1099511627776 < t := by omega
      go_enter Try.func49, Try.ntmps49
      go_wp2
      go_ret
      exact ⟨by rw [HT.out]; rfl, rfl⟩

theorem ret3 {k k' : IntKind} {a a' b b' : Int} {c c' : Bool} (h1 : a = a') (h2 : b = b') (h3 : c = c') : Ending.returned (.tuple #[.int k a, .int k' b, .bool c]) = .returned (.tuple #[.int k a', .int k' b', .bool c']) := by rw [h1, h2, h3]

theorem bounds_any (p q : Int) (w : World) :
    Calls Try.prog 107 #[.agg #[.int .i64 p, .int .i64 q]] w fun e w' =>
      e = .returned (.tuple #[.int .i64 (max p 0), .int .i64 (min q 1099511627776), .bool (decide (max p 0 ≤ min q 1099511627776))]) ∧ Below w.heap.size w w' := by
  by_cases h1 : p < 0 <;> by_cases h2 : 1099511627776 < q
  · go_enter Try.func107, Try.ntmps107
    go_wp2
    go_quiet (fail)
    go_wp2
    go_ret3
    exact ⟨ret3 (by omega) (by omega) (decide_eq_true (by omega)).symm, below_drewN ((Below.refl _ _).alloc (Nat.le_refl _) _) _⟩
  · by_cases h3 : 0 ≤ q
    · go_enter Try.func107, Try.ntmps107
      go_wp2
      go_quiet (fail)
      go_wp2
      go_ret3
      exact ⟨ret3 (by omega) (by omega) (decide_eq_true (by omega)).symm, below_drewN ((Below.refl _ _).alloc (Nat.le_refl _) _) _⟩
    · go_enter Try.func107, Try.ntmps107
      go_wp2
      go_quiet (fail)
      go_wp2
      go_ret3
      exact ⟨ret3 (by omega) (by omega) (decide_eq_decide.2 (by omega)), below_drewN ((Below.refl _ _).alloc (Nat.le_refl _) _) _⟩
  · by_cases h3 : p ≤ 1099511627776
    · go_enter Try.func107, Try.ntmps107
      go_wp2
      go_quiet (fail)
      go_wp2
      go_ret3
      exact ⟨ret3 (by omega) (by omega) (decide_eq_true (by omega)).symm, below_drewN ((Below.refl _ _).alloc (Nat.le_refl _) _) _⟩
    · go_enter Try.func107, Try.ntmps107
      go_wp2
      go_quiet (fail)
      go_wp2
      go_ret3
      exact ⟨ret3 (by omega) (by omega) (decide_eq_decide.2 (by omega)), below_drewN ((Below.refl _ _).alloc (Nat.le_refl _) _) _⟩
  · by_cases h3 : p ≤ q
    · go_enter Try.func107, Try.ntmps107
      go_wp2
      go_quiet (fail)
      go_wp2
      go_ret3
      exact ⟨ret3 (by omega) (by omega) (decide_eq_true (by omega)).symm, below_drewN ((Below.refl _ _).alloc (Nat.le_refl _) _) _⟩
    · go_enter Try.func107, Try.ntmps107
      go_wp2
      go_quiet (fail)
      go_wp2
      go_ret3
      exact ⟨ret3 (by omega) (by omega) (decide_eq_decide.2 (by omega)), below_drewN ((Below.refl _ _).alloc (Nat.le_refl _) _) _⟩

theorem ret_slice {A : Option Addr} {n m c : Nat} (h : n = m) : Ending.returned (.slice A n c) = .returned (.slice A m c) := by rw [h]

def AddRel (ps : List Int) (v : Int) (i : Value) : Prop := ∃ k : Nat, k ≤ ps.length ∧ i = .int .i64 k ∧ ∀ j (_ : j < ps.length), j < k → ps[j] < v
def AddEnd (ps : List Int) (v : Int) (i : Value) (w0 w : World) : Prop := ∃ k : Nat, k ≤ ps.length ∧ i = .int .i64 k ∧ (∀ j (_ : j < ps.length), j < k → ps[j] < v) ∧ (∀ (_ : k < ps.length), v ≤ ps[k]) ∧ w0 = w

/-- what add returns: the sorted numbers with one more -/
def RetAdd (w : World) (ps : List Int) (v : Int) (e : Ending) (w' : World) : Prop :=
  ∃ (b off c : Nat) (ps' : List Int), e = .returned (.slice (some ⟨b, off, none⟩) ps'.length c) ∧ IntsAt w' w'.heap.size (some ⟨b, off, none⟩) ps' ∧ ps'.length ≤ c ∧ Below w.heap.size w w' ∧
    ps'.Pairwise (· < ·) ∧ (∀ u, u ∈ ps' ↔ u = v ∨ u ∈ ps) ∧ ps'.length ≤ ps.length + 1 ∧ ps' ≠ []

set_option maxHeartbeats 2000000 in
theorem add_any (b off c : Nat) (ps : List Int) (v : Int) (w : World) (h : IntsAt w w.heap.size (some ⟨b, off, none⟩) ps) (hc : ps.length ≤ c) (hl : ps.length ≤ 4398046511104) (hne : ps ≠ []) (hs : ps.Pairwise (· < ·)) :
    Calls Try.prog 108 #[.slice (some ⟨b, off, none⟩) ps.length c, .int .i64 v] w (RetAdd w ps v) := by
  have HSO := hide hs
  clear hs
  go_enter Try.func108, Try.ntmps108
  go_upto_block 0 with fail
  go_cut [5] (fun i wx => AddEnd ps v i w wx)
  case first =>
    go_wp2
    go_loop [5] (fun i => AddRel ps v i) (fun i => ps.length - (intOf i).toNat)
    case atStart => exact ⟨0, Nat.zero_le _, rfl, fun j _ h => by omega⟩
    case round =>
      obtain ⟨k, hk, rfl, hlo⟩ := hrel
      by_cases hlt : k < ps.length
      · obtain ⟨b', off', e, hbb, hc1⟩ := h.at_ hlt
        injection e with e
        injection e with e1 e2
        subst e1 e2
        by_cases h1 : ps[k] < v
        · go_wp2
          go_round
          case rel => exact ⟨k + 1, by omega, by go_num, fun j hj hjk => by
            rcases Nat.lt_or_ge j k with h' | h'
            · exact hlo j hj h'
            · have : j = k := by omega
              subst this; exact h1⟩
          case measure => simp [intOf]; omega
        · go_wp2
          go_meet
          exact ⟨k, hk, rfl, hlo, fun _ => by omega, rfl⟩
      · go_wp2
        go_meet
        exact ⟨k, hk, rfl, hlo, fun _ => by omega, rfl⟩
  case rest =>
    obtain ⟨k, hk, rfl, hlo, hhi, rfl⟩ := hcut
    have HLO := hide hlo
    have HHI := hide hhi
    clear hlo hhi
    by_cases heq : ∃ hlt : k < ps.length, ps[k] = v
    · obtain ⟨hlt, hv⟩ := heq
      obtain ⟨b', off', e, hbb, hc1⟩ := h.at_ hlt
      injection e with e
      injection e with e1 e2
      subst e1 e2
      subst hv
      go_wp2
      go_ret
      exact ⟨b, off, c, ps, rfl, h, hc, Below.refl _ _, HSO.out, fun u => ⟨fun hu => .inr hu, fun hu => hu.elim (fun e => by rw [e]; exact List.getElem_mem _) id⟩, by omega, hne⟩
    · have hlen : (insAt ps k v).length = ps.length + 1 := insAt_length ps k v hk
      have hso : (insAt ps k v).Pairwise (· < ·) := insAt_sorted ps k v HSO.out HLO.out (fun hlt => by have := HHI.out hlt; have : ps[k] ≠ v := fun e => heq ⟨hlt, e⟩; omega)
      by_cases hlt : k < ps.length
      · obtain ⟨b', off', e, hbb, hc1⟩ := h.at_ hlt
        injection e with e
        injection e with e1 e2
        subst e1 e2
        have hbe : (ps[k] == v) = false := by simp; exact fun e => heq ⟨hlt, e⟩
        have hck : ¬ c = k := by omega
        have hd : IntsAt w w.heap.size (some ⟨b, off + k, none⟩) (ps.drop k) := h.drop k
        go_upto_region 7 with (at_builtin; (refine append_ints_any rfl _ _ rfl w.heap.size _ 0 [] _ rfl rfl (OwnInt.empty _ _ (Nat.le_refl _)) (some ⟨b, off + k, none⟩) (ps.length - k) (c - k) _ (ps.drop k) rfl (by simp) (hd.alloc _) (by omega) (by simp) ?_); intro A1 c1 w1 row1 own1 hg1 hr1)
        have hb1 : Below w.heap.size w w1 := ((Below.refl _ _).alloc (Nat.le_refl _) _).grown hg1 (by simp) hr1
        have hrest : IntsAt w1 w1.heap.size A1 (ps.drop k) := by simpa using own1.ats
        have hfront : IntsAt w1 w1.heap.size (some ⟨b, off, none⟩) (ps.take k) := (h.step hb1).take k
        have hmin : (ps.take k).length = k := by simp; omega
        have HMIN := hide hmin
        clear hmin
        go_wp2_with (first
          | (at_builtin; (refine append_ints_any rfl (.tmp 39) (.tmp 42) rfl w1.heap.size _ 0 [] _ rfl rfl (OwnInt.empty _ _ (Nat.le_refl _)) (some ⟨b, off, none⟩) k c _ (ps.take k) rfl HMIN.out.symm (hfront.alloc _) (by omega) (by simp) ?_); intro A2 c2 w2 row2 own2 hg2 hr2; have hb2 : Below w1.heap.size w1 w2 := ((Below.refl _ _).alloc (Nat.le_refl _) _).grown hg2 (by simp) hr2)
          | (at_builtin; (refine append_ints rfl (.tmp 43) (.tmp 45) rfl w1.heap.size A2 c2 (ps.take k) _ rfl (by simp; omega) [v] 1 1 _ rfl rfl (by simp) _ _ rfl rfl (by simp) own2 (by omega) hb2.size ?_); intro g3 c3 w3 row3 own3 hg3' hg3 hr3; have hb3 : Below w1.heap.size w1 w3 := (hb2.alloc hb2.size _).grown hg3 (by have := hb2.size; simp; omega) hr3)
          | (at_builtin; (refine append_ints_any rfl (.tmp 46) (.tmp 47) rfl w1.heap.size _ c3 (ps.take k ++ [v]) _ rfl (by simp; omega) own3 A1 (ps.length - k) c1 _ (ps.drop k) rfl (by simp) (hrest.below hb3) (by omega) hb3.size ?_); intro A4 c4 w4 row4 own4 hg4 hr4; have hb4 : Below w1.heap.size w1 w4 := hb3.grown hg4 hb3.size hr4))
        go_ret
        have e4 : ps.take k ++ [v] ++ ps.drop k = insAt ps k v := rfl
        rw [e4] at own4
        rcases own4.form with ⟨_, _, h3⟩ | ⟨g, rfl, _, _, h3, _⟩
        · rw [h3] at hlen; simp at hlen
        · refine ⟨g, 0, c4, insAt ps k v, ?_, own4.ats, h3, bstep hb1 hb4, hso, fun u => insAt_mem ps k v u, by omega, fun e => by rw [e] at hlen; simp at hlen⟩
          rw [hlen]
          exact ret_slice (by omega)
      · have HDROP := hide (show ps.drop k = [] from List.drop_eq_nil_of_le (by omega))
        by_cases hck : c = k
        · have hck2 : k = c := hck.symm
          subst hck2
          clear hck
          have hle : ps.length ≤ k := by omega
          go_upto_region 7 with (at_builtin; (refine append_ints_any rfl _ _ rfl w.heap.size _ 0 [] _ rfl rfl (OwnInt.empty _ _ (Nat.le_refl _)) _ _ _ 0 (ps.drop k) rfl (by simp; try omega) (by rw [HDROP.out]; exact IntsAt.nil) (by omega) (by simp) ?_); intro A1 c1 w1 row1 own1 hg1 hr1)
          have hb1 : Below w.heap.size w w1 := ((Below.refl _ _).alloc (Nat.le_refl _) _).grown hg1 (by simp) hr1
          have hrest : IntsAt w1 w1.heap.size A1 (ps.drop k) := by simpa using own1.ats
          have hfront : IntsAt w1 w1.heap.size (some ⟨b, off, none⟩) (ps.take k) := (h.step hb1).take k
          have hmin : (ps.take k).length = k := by simp; omega
          have HMIN := hide hmin
          clear hmin
          go_wp2_with (first
            | (at_builtin; (refine append_ints_any rfl (.tmp 39) (.tmp 42) rfl w1.heap.size _ 0 [] _ rfl rfl (OwnInt.empty _ _ (Nat.le_refl _)) (some ⟨b, off, none⟩) k k _ (ps.take k) rfl HMIN.out.symm (hfront.alloc _) (by omega) (by simp) ?_); intro A2 c2 w2 row2 own2 hg2 hr2; have hb2 : Below w1.heap.size w1 w2 := ((Below.refl _ _).alloc (Nat.le_refl _) _).grown hg2 (by simp) hr2)
            | (at_builtin; (refine append_ints rfl (.tmp 43) (.tmp 45) rfl w1.heap.size A2 c2 (ps.take k) _ rfl (by simp; omega) [v] 1 1 _ rfl rfl (by simp) _ _ rfl rfl (by simp) own2 (by omega) hb2.size ?_); intro g3 c3 w3 row3 own3 hg3' hg3 hr3; have hb3 : Below w1.heap.size w1 w3 := (hb2.alloc hb2.size _).grown hg3 (by have := hb2.size; simp; omega) hr3)
            | (at_builtin; (refine append_ints_any rfl (.tmp 46) (.tmp 47) rfl w1.heap.size _ c3 (ps.take k ++ [v]) _ rfl (by simp; omega) own3 A1 _ c1 _ (ps.drop k) rfl (by simp; try omega) (hrest.below hb3) (by omega) hb3.size ?_); intro A4 c4 w4 row4 own4 hg4 hr4; have hb4 : Below w1.heap.size w1 w4 := hb3.grown hg4 hb3.size hr4))
          go_ret
          have e4 : ps.take k ++ [v] ++ ps.drop k = insAt ps k v := rfl
          rw [e4] at own4
          rcases own4.form with ⟨_, _, h3⟩ | ⟨g, rfl, _, _, h3, _⟩
          · rw [h3] at hlen; simp at hlen
          · refine ⟨g, 0, c4, insAt ps k v, ?_, own4.ats, h3, bstep hb1 hb4, hso, fun u => insAt_mem ps k v u, by omega, fun e => by rw [e] at hlen; simp at hlen⟩
            rw [hlen]
            exact ret_slice (by omega)
        · go_upto_region 7 with (at_builtin; (refine append_ints_any rfl _ _ rfl w.heap.size _ 0 [] _ rfl rfl (OwnInt.empty _ _ (Nat.le_refl _)) _ _ _ 0 (ps.drop k) rfl (by simp) (by rw [HDROP.out]; exact IntsAt.nil) (by omega) (by simp) ?_); intro A1 c1 w1 row1 own1 hg1 hr1)
          have hb1 : Below w.heap.size w w1 := ((Below.refl _ _).alloc (Nat.le_refl _) _).grown hg1 (by simp) hr1
          have hrest : IntsAt w1 w1.heap.size A1 (ps.drop k) := by simpa using own1.ats
          have hfront : IntsAt w1 w1.heap.size (some ⟨b, off, none⟩) (ps.take k) := (h.step hb1).take k
          have hmin : (ps.take k).length = k := by simp; omega
          have HMIN := hide hmin
          clear hmin
          go_wp2_with (first
            | (at_builtin; (refine append_ints_any rfl (.tmp 39) (.tmp 42) rfl w1.heap.size _ 0 [] _ rfl rfl (OwnInt.empty _ _ (Nat.le_refl _)) (some ⟨b, off, none⟩) k c _ (ps.take k) rfl HMIN.out.symm (hfront.alloc _) (by omega) (by simp) ?_); intro A2 c2 w2 row2 own2 hg2 hr2; have hb2 : Below w1.heap.size w1 w2 := ((Below.refl _ _).alloc (Nat.le_refl _) _).grown hg2 (by simp) hr2)
            | (at_builtin; (refine append_ints rfl (.tmp 43) (.tmp 45) rfl w1.heap.size A2 c2 (ps.take k) _ rfl (by simp; omega) [v] 1 1 _ rfl rfl (by simp) _ _ rfl rfl (by simp) own2 (by omega) hb2.size ?_); intro g3 c3 w3 row3 own3 hg3' hg3 hr3; have hb3 : Below w1.heap.size w1 w3 := (hb2.alloc hb2.size _).grown hg3 (by have := hb2.size; simp; omega) hr3)
            | (at_builtin; (refine append_ints_any rfl (.tmp 46) (.tmp 47) rfl w1.heap.size _ c3 (ps.take k ++ [v]) _ rfl (by simp; omega) own3 A1 (ps.length - k) c1 _ (ps.drop k) rfl (by simp) (hrest.below hb3) (by omega) hb3.size ?_); intro A4 c4 w4 row4 own4 hg4 hr4; have hb4 : Below w1.heap.size w1 w4 := hb3.grown hg4 hb3.size hr4))
          go_ret
          have e4 : ps.take k ++ [v] ++ ps.drop k = insAt ps k v := rfl
          rw [e4] at own4
          rcases own4.form with ⟨_, _, h3⟩ | ⟨g, rfl, _, _, h3, _⟩
          · rw [h3] at hlen; simp at hlen
          · refine ⟨g, 0, c4, insAt ps k v, ?_, own4.ats, h3, bstep hb1 hb4, hso, fun u => insAt_mem ps k v u, by omega, fun e => by rw [e] at hlen; simp at hlen⟩
            rw [hlen]
            exact ret_slice (by omega)
end Go.Proofs.Ytkbiefklilelmaa
