/-
  Several texts in one: Clip, Segs. Each says at its head what it holds.
-/
import Derived.Test.YtdlebcijgdkfjaaGreatDoorCR10
import Derived.Test.YtdlebcijgdkfjaaGreatDoorCR9
import Derived.Lib.SlicesCompact

/-
  intervals.Clip: the normal list of the times of a list that are in a range.
-/
namespace Go.Proofs.YtdlebcijgdkfjaaGreatDoor
open Go.RowKit Go.Joins

def ClipRel (w : World) (lo hi : Int) (xs : List Iv) (i : Value) (wr : World) : Prop :=
  ∃ (k : Nat) (A : Option Addr) (c : Nat), k ≤ xs.length ∧ i = .int .i64 k ∧ wr.heap[w.heap.size]? = some (.cells #[.slice A (clipped lo hi (xs.take k)).length c] 43 (0, 0)) ∧
    OwnIv wr (w.heap.size + 1) A c (clipped lo hi (xs.take k)) ∧ Below w.heap.size w wr

def ClipRel2 (w2 : World) (d : List Iv) (out i : Value) (wr : World) : Prop :=
  ∃ (k : Nat) (A : Option Addr) (c : Nat), k ≤ d.length ∧ i = .int .i64 k ∧ out = .slice A (merged (d.take k)).length c ∧ OwnIv wr w2.heap.size A c (merged (d.take k)) ∧ Below w2.heap.size w2 wr

theorem clipped_take_succ (lo hi : Int) (xs : List Iv) (k : Nat) (hk : k < xs.length) : clipped lo hi (xs.take (k + 1)) = clipped lo hi (xs.take k) ++ if max xs[k].1 lo ≤ min xs[k].2 hi then [(max xs[k].1 lo, min xs[k].2 hi)] else [] := by
  rw [List.take_succ_eq_append_getElem hk, clipped_snoc]; rfl

theorem snoc_cases (ms : List Iv) : ms = [] ∨ ∃ init z, ms = init ++ [z] := by
  cases h : ms.getLast? with
  | none => exact .inl (by simpa using h)
  | some z => exact .inr ⟨_, z, getLast?_snoc_of h⟩
theorem mergeStep_le (init : List Iv) (z x : Iv) (h : x.1 ≤ z.2 + 1) : mergeStep (init ++ [z]) x = init ++ [(z.1, max z.2 x.2)] := by
  unfold mergeStep; simp [h]
theorem mergeStep_gt (init : List Iv) (z x : Iv) (h : ¬ x.1 ≤ z.2 + 1) : mergeStep (init ++ [z]) x = (init ++ [z]) ++ [x] := by
  unfold mergeStep; simp [h]
theorem merged_take_succ (xs : List Iv) (k : Nat) (hk : k < xs.length) : merged (xs.take (k + 1)) = mergeStep (merged (xs.take k)) xs[k] := by
  rw [List.take_succ_eq_append_getElem hk, merged_snoc]

set_option maxRecDepth 100000 in
set_option maxHeartbeats 2000000 in
theorem clip_any (A : Option Addr) (c : Nat) (xs : List Iv) (lo hi : Int) (w : World) (h : IvsAt w w.heap.size A xs) (hl : xs.length ≤ 4398046511104) :
    Calls Tryz.prog 21 #[.slice A xs.length c, .int .i64 lo, .int .i64 hi] w (RetIvs w fun t => lo ≤ t ∧ t ≤ hi ∧ Mem xs t) := by
  go_enter Tryz.func21, Tryz.ntmps21
  go_wp2
  go_loopw [20] (fun i wr => ClipRel w (max lo 0) (min hi 1099511627776) xs i wr) (fun i _ => xs.length - (intOf i).toNat)
  case atStart => exact ⟨0, none, 0, Nat.zero_le _, rfl, by have := heap_alloc_new w (.cells #[.slice none 0 0] 43); simpa [clipped] using this, by simpa [clipped] using OwnIv.nil _ _, (Below.refl _ _).alloc (Nat.le_refl _) _⟩
  case round =>
    obtain ⟨k, A1, c1, hk, rfl, hbox, hown, hb⟩ := hrel
    have hyl : (clipped (max lo 0) (min hi 1099511627776) (xs.take k)).length ≤ 4398046511104 := by
      have := clipped_len (max lo 0) (min hi 1099511627776) (xs.take k); have := List.length_take_le k xs; omega
    have hcb := box_cell hbox
    have hlb := box_lt hbox
    by_cases hlt : k < xs.length
    · obtain ⟨b, off, rfl, hbb, hc1, hc2⟩ := (h.below hb).at_ hlt
      have HS := hide (clipped_take_succ (max lo 0) (min hi 1099511627776) xs k hlt)
      generalize hys : clipped (max lo 0) (min hi 1099511627776) (xs.take k) = ys at *
      clear hys
      have HBOX := hide hbox
      clear hbox
      go_wp2_with (at_builtin; refine append_iv rfl _ _ rfl (w.heap.size + 1) A1 c1 ys _ rfl rfl (max xs[k].1 (max lo 0)) (min xs[k].2 (min hi 1099511627776)) _ rfl _ rfl (by simp) (hown.alloc _) hyl (by simp; omega) ?_
                   intro g' c' w1 row hown1 hg' hgrow hrow
                   have hbox1 := box_grownB (box_alloc (box_alloc HBOX.out)) hgrow hrow (Nat.lt_succ_self _)
                   have HB1 := hide hbox1
                   have hcb1 := box_cell hbox1
                   have hfb1 := box_frozen hbox1
                   clear hbox1)
      · go_roundw
        case rel =>
          refine ⟨k + 1, some ⟨g', 0, none⟩, c', by omega, by go_num, ?_, ?_, ?_⟩
          · rw [HS.out, if_pos ‹_›, List.length_append]
            exact box_set1 HB1.out
          · rw [HS.out, if_pos ‹_›]
            exact ownsRow_setCell_below hown1 (by simp) _
          · exact (((hb.alloc hb.size _).alloc (by have := hb.size; simp; omega) _).grown hgrow (by have := hb.size; simp; omega) (fun k hk => by have := hrow k hk; omega)).setCell (p := ⟨w.heap.size, 0, none⟩) (Nat.le_refl _) _
        case measure => simp [intOf]; omega
      · go_roundw
        case rel =>
          refine ⟨k + 1, A1, c1, by omega, by go_num, ?_, ?_, ?_⟩
          · rw [HS.out, if_neg (by omega), List.append_nil]
            exact box_alloc HBOX.out
          · rw [HS.out, if_neg (by omega), List.append_nil]
            exact hown.alloc _
          · exact hb.alloc hb.size _
        case measure => simp [intOf]; omega
    · have hke : k = xs.length := by omega
      subst hke
      rw [List.take_length] at *
      generalize hys : clipped (max lo 0) (min hi 1099511627776) xs = ys at *
      have HYS := hide hys
      clear hys
      have HBOX := hide hbox
      clear hbox
      go_wp2_with (go_at_call 65; refine (sort_any (w.heap.size + 1) w.heap.size (.slice A1 ys.length c1) ys _ hown (by omega) (by omega) hcb (by omega)).mono ?_; rintro e w2 ⟨rfl, d, hperm, hsort, hown2, hb2⟩
                   have hcb2 := (hb2.cell (p := ⟨w.heap.size, 0, none⟩) (by simp)).trans hcb)
      have HLEN := hide hperm.length_eq
      have hld : d.length ≤ ys.length := Nat.le_of_eq hperm.length_eq
      have hld' : ys.length ≤ d.length := Nat.le_of_eq hperm.length_eq.symm
      have hokd : ∀ x ∈ d, Okv x := fun x hx => clipped_ok (max lo 0) (min hi 1099511627776) xs (by omega) (by omega) x (by rw [HYS.out]; exact hperm.mem_iff.1 hx)
      have hrd : IvsAt w2 w2.heap.size A1 d := (show OwnIv w2 (w.heap.size + 1) A1 c1 d by unfold OwnIv; rw [hperm.length_eq] at hown2 ⊢; exact hown2).ats
      have hmn : ∀ k, Norm (merged (d.take k)) := fun k => (merged_spec _ (fun x hx => hokd x (List.mem_of_mem_take hx)) (hsort.sublist (List.take_sublist k d))).1
      have hwr : Below w.heap.size w w2 := hb.trans (hb2.mono (by omega))
      have HP := hide hperm
      have HSO := hide hsort
      clear hperm hsort hown2 hown h hb HBOX hb2
      go_loopw [10, 50] (fun out i wr2 => ClipRel2 w2 d out i wr2) (fun _ i _ => d.length - (intOf i).toNat)
      case atStart => exact ⟨0, none, 0, Nat.zero_le _, rfl, rfl, OwnIv.nil _ _, Below.refl _ _⟩
      case round =>
        rename_i wr' _ _ _ _ _
        obtain ⟨k, A3, c3, hk3, rfl, rfl, hown3, hb3⟩ := hrel
        by_cases hlt3 : k < d.length
        · obtain ⟨b, off, rfl, hbb, hc1, hc2⟩ := (hrd.below hb3).at_ hlt3
          have HS := hide (merged_take_succ d k hlt3)
          have hnm := hmn k
          have hml := norm_len hnm
          have hox := hokd d[k] (List.getElem_mem _)
          unfold Okv at hox
          generalize hms : merged (d.take k) = ms at *
          clear hms
          rcases snoc_cases ms with rfl | ⟨init, z, rfl⟩
          · have hd0 : decide ((0:Int) < 0) = false := by decide
            go_wp2
            go_quiet (fail)
            go_wp2_with (at_builtin; (refine append_iv rfl _ _ rfl w2.heap.size A3 c3 [] _ rfl rfl d[k].1 d[k].2 _ rfl _ rfl (by simp) (hown3.alloc _) (by simp) (by have := hb3.size; simp; omega) ?_)
                         intro g' c' w1 row hown1 hg' hgrow hrow)
            go_roundw
            case rel =>
              refine ⟨k + 1, some ⟨g', 0, none⟩, c', by omega, by go_num, ?_, ?_, ?_⟩
              · rw [HS.out]; rfl
              · rw [HS.out]; exact hown1
              · exact (below_drewN ((hb3.alloc hb3.size _).alloc (by have := hb3.size; simp; omega) _) _).grown hgrow (by have := hb3.size; go_simp; omega) hrow
            case measure => simp [intOf]; omega
          · obtain ⟨g, rfl, hgb, hgl, hz1, hz2, hzf⟩ := hown3.last
            have hoz := hnm.1 z (by simp)
            unfold Okv at hoz
            have e1 : (init ++ [z]).length = init.length + 1 := by simp
            have hd0 : decide ((0:Int) < init.length + 1) = true := decide_eq_true (by omega)
            by_cases hle : d[k].1 ≤ z.2 + 1
            · go_wp2
              go_quiet (fail)
              go_wp2
              go_region
              all_goals go_wp2
              go_roundw
              case rel =>
                refine ⟨k + 1, some ⟨g, 0, none⟩, c3, by omega, by go_num, ?_, ?_, ?_⟩
                · rw [HS.out, mergeStep_le init z d[k] hle]; simp
                · rw [HS.out, mergeStep_le init z d[k] hle]; exact ((hown3.alloc _).drewN _).set_last _
                · exact (below_drewN (hb3.alloc hb3.size _) _).setCell (p := ⟨g, init.length * 2 + 1, none⟩) hgb _
              case measure => simp [intOf]; omega
            · go_wp2
              go_quiet (fail)
              go_wp2_with (at_builtin; (refine append_iv rfl _ _ rfl w2.heap.size _ c3 (init ++ [z]) _ rfl (by simp) d[k].1 d[k].2 _ rfl _ rfl (by simp) (hown3.alloc _) (by omega) (by have := hb3.size; simp; omega) ?_)
                           intro g' c' w1 row hown1 hg' hgrow hrow)
              go_roundw
              case rel =>
                refine ⟨k + 1, some ⟨g', 0, none⟩, c', by omega, by go_num, ?_, ?_, ?_⟩
                · rw [HS.out, mergeStep_gt init z d[k] (by omega)]; simp
                · rw [HS.out, mergeStep_gt init z d[k] (by omega)]; exact hown1
                · exact (below_drewN ((hb3.alloc hb3.size _).alloc (by have := hb3.size; simp; omega) _) _).grown hgrow (by have := hb3.size; go_simp; omega) hrow
              case measure => simp [intOf]; omega
        · have hke : k = d.length := by omega
          subst hke
          go_wp2
          go_ret
          rw [List.take_length] at hown3 ⊢
          obtain ⟨hn1, hn2, _⟩ := merged_spec d hokd HSO.out
          refine ⟨A3, c3, merged d, rfl, hown3.lower hwr.size, hwr.trans (hb3.mono hwr.size), hn1, fun t => ?_⟩
          rw [hn2, mem_perm HP.out, ← HYS.out, clipped_mem]
          constructor
          · rintro ⟨h1, h2, h3⟩; exact ⟨by omega, by omega, h3⟩
          · rintro ⟨h1, h2, h3⟩; have := mem_bounds h3; exact ⟨by omega, by omega, h3⟩
end Go.Proofs.YtdlebcijgdkfjaaGreatDoor

/-
  Plain mathematics of the combination of two normal lists by their cuts; sorted numbers without repetitions. No program in sight.
-/
namespace Go.Proofs.YtdlebcijgdkfjaaGreatDoor

/-- membership as a test -/
def memB (xs : List Iv) (t : Int) : Bool := xs.any fun x => decide (x.1 ≤ t ∧ t ≤ x.2)
theorem memB_iff {xs : List Iv} {t : Int} : memB xs t = true ↔ ∃ x ∈ xs, x.1 ≤ t ∧ t ≤ x.2 := by simp [memB]
theorem memB_norm {xs : List Iv} (h : Norm xs) (t : Int) : memB xs t = true ↔ Mem xs t := by
  rw [memB_iff]
  constructor
  · rintro ⟨x, hx, h1, h2⟩
    have := h.1 x hx
    unfold Okv at this
    exact ⟨by omega, by omega, x, hx, h1, h2⟩
  · rintro ⟨_, _, x, hx, h1, h2⟩
    exact ⟨x, hx, h1, h2⟩

/-- membership in the set of whatever list, as a test -/
def memT (xs : List Iv) (t : Int) : Bool := decide (0 ≤ t ∧ t ≤ 1099511627776) && memB xs t
theorem memT_iff {xs : List Iv} {t : Int} : memT xs t = true ↔ Mem xs t := by
  unfold memT
  rw [Bool.and_eq_true, memB_iff, decide_eq_true_eq]
  exact ⟨fun ⟨⟨h1, h2⟩, h3⟩ => ⟨h1, h2, h3⟩, fun ⟨h1, h2, h3⟩ => ⟨⟨h1, h2⟩, h3⟩⟩
theorem memB_eq_memT {xs ys : List Iv} (h : Norm ys) (hm : ∀ t, Mem ys t ↔ Mem xs t) (t : Int) : memB ys t = memT xs t := by
  rw [Bool.eq_iff_iff, memB_norm h, hm, memT_iff]

/-- the cuts of a list -/
def cutsOf (xs : List Iv) : List Int := xs.flatMap fun x => [x.1, x.2 + 1]
theorem mem_cutsOf {xs : List Iv} {v : Int} : v ∈ cutsOf xs ↔ ∃ x ∈ xs, v = x.1 ∨ v = x.2 + 1 := by simp [cutsOf]
theorem cutsOf_length (xs : List Iv) : (cutsOf xs).length = 2 * xs.length := by
  unfold cutsOf
  induction xs with
  | nil => rfl
  | cons x xs ih => rw [List.flatMap_cons, List.length_append, ih]; simp; omega
theorem cutsOf_snoc (xs : List Iv) (x : Iv) : cutsOf (xs ++ [x]) = cutsOf xs ++ [x.1, x.2 + 1] := by simp [cutsOf]
theorem cutsOf_append (xs ys : List Iv) : cutsOf (xs ++ ys) = cutsOf xs ++ cutsOf ys := by simp [cutsOf]

/-- between two cuts membership does not change -/
theorem memB_const {xs : List Iv} {p t : Int} (hpt : p ≤ t) (h : ∀ v ∈ cutsOf xs, v ≤ p ∨ t < v) : memB xs t = memB xs p := by
  rw [Bool.eq_iff_iff, memB_iff, memB_iff]
  constructor
  · rintro ⟨x, hx, h1, h2⟩
    have := h x.1 (mem_cutsOf.2 ⟨x, hx, .inl rfl⟩)
    exact ⟨x, hx, by omega, by omega⟩
  · rintro ⟨x, hx, h1, h2⟩
    have := h (x.2 + 1) (mem_cutsOf.2 ⟨x, hx, .inr rfl⟩)
    exact ⟨x, hx, by omega, by omega⟩

/-- the index where the search in a normal list stands -/
theorem memB_at {xs : List Iv} (hn : Norm xs) {i : Nat} {t : Int} (hlo : ∀ j (hj : j < xs.length), j < i → xs[j].2 < t) (hhi : ∀ (h : i < xs.length), t ≤ xs[i].2) :
    memB xs t = true ↔ ∃ h : i < xs.length, xs[i].1 ≤ t := by
  rw [memB_iff]
  constructor
  · rintro ⟨x, hx, h1, h2⟩
    obtain ⟨j, hj, rfl⟩ := List.getElem_of_mem hx
    have hij : i ≤ j := by
      rcases Nat.lt_or_ge j i with h | h
      · have := hlo j hj h; omega
      · exact h
    have hi : i < xs.length := by omega
    refine ⟨hi, ?_⟩
    rcases Nat.lt_or_ge i j with h | h
    · have := List.pairwise_iff_getElem.1 hn.2 i j hi hj h
      have := hhi hi
      omega
    · have : i = j := by omega
      subst this
      exact h1
  · rintro ⟨hi, h⟩
    exact ⟨xs[i], List.getElem_mem _, h, hhi hi⟩

/-- strictly increasing numbers: the place of a number between two of them -/
theorem place_of {ps : List Int} {t : Int} (i j : Nat) (hj : j < ps.length) (hi : ps.getD i 0 ≤ t) (hj' : t < ps.getD j 0) (hij : i < j) : ∃ m, m + 1 < ps.length ∧ ps.getD m 0 ≤ t ∧ t < ps.getD (m + 1) 0 := by
  obtain ⟨d, rfl⟩ : ∃ d, j = i + 1 + d := ⟨j - (i + 1), by omega⟩
  induction d with
  | zero => exact ⟨i, hj, hi, hj'⟩
  | succ d ih =>
    rcases Int.lt_or_le t (ps.getD (i + 1 + d) 0) with h | h
    · exact ih (by omega) h (by omega)
    · exact ⟨i + 1 + d, by omega, h, hj'⟩

/-- the parts between the first n + 1 cuts in which the rule holds -/
def segs (rule : Bool → Bool → Bool) (a b : List Iv) (ps : List Int) (n : Nat) : List Iv :=
  ((List.range n).filter fun m => rule (memB a (ps.getD m 0)) (memB b (ps.getD m 0))).map fun m => (ps.getD m 0, ps.getD (m + 1) 0 - 1)

theorem segs_succ (rule : Bool → Bool → Bool) (a b : List Iv) (ps : List Int) (n : Nat) :
    segs rule a b ps (n + 1) = segs rule a b ps n ++ if rule (memB a (ps.getD n 0)) (memB b (ps.getD n 0)) then [(ps.getD n 0, ps.getD (n + 1) 0 - 1)] else [] := by
  unfold segs
  rw [List.range_succ, List.filter_append, List.map_append]
  congr 1
  by_cases h : rule (memB a (ps.getD n 0)) (memB b (ps.getD n 0)) = true
  · simp only [List.filter_cons, List.filter_nil]
    rw [if_pos h, if_pos h]; rfl
  · simp only [List.filter_cons, List.filter_nil]
    rw [if_neg h, if_neg h]; rfl

theorem segs_len (rule : Bool → Bool → Bool) (a b : List Iv) (ps : List Int) (n : Nat) : (segs rule a b ps n).length ≤ n := by
  unfold segs
  rw [List.length_map]
  exact Nat.le_trans (List.length_filter_le _ _) (by simp)

theorem getD_mono {ps : List Int} (h : ps.Pairwise (· < ·)) {i j : Nat} (hij : i < j) (hj : j < ps.length) : ps.getD i 0 < ps.getD j 0 := by
  have := List.pairwise_iff_getElem.1 h i j (by omega) hj hij
  simpa [List.getD_eq_getElem?_getD, List.getElem?_eq_getElem hj, List.getElem?_eq_getElem (show i < ps.length by omega)] using this

theorem getD_of_mem {ps : List Int} {v : Int} (h : v ∈ ps) : ∃ i, i < ps.length ∧ ps.getD i 0 = v := by
  obtain ⟨i, hi, rfl⟩ := List.getElem_of_mem h
  exact ⟨i, hi, by simp [List.getD_eq_getElem?_getD, List.getElem?_eq_getElem hi]⟩

theorem segs_mem (rule : Bool → Bool → Bool) (hr : rule false false = false) {a b : List Iv} (ha : Norm a) (hb : Norm b) {ps : List Int} (hp : ps.Pairwise (· < ·)) (hc : ∀ v, v ∈ ps ↔ v ∈ cutsOf (a ++ b)) (t : Int) :
    Mem (segs rule a b ps (ps.length - 1)) t ↔ rule (memB a t) (memB b t) = true := by
  have hconst : ∀ m, m + 1 < ps.length → ps.getD m 0 ≤ t → t < ps.getD (m + 1) 0 → memB a t = memB a (ps.getD m 0) ∧ memB b t = memB b (ps.getD m 0) := by
    intro m hm h1 h2
    have key : ∀ v ∈ cutsOf (a ++ b), v ≤ ps.getD m 0 ∨ t < v := by
      intro v hv
      obtain ⟨i, hi, rfl⟩ := getD_of_mem ((hc v).2 hv)
      rcases Nat.lt_trichotomy i m with h | h | h
      · exact .inl (Int.le_of_lt (getD_mono hp h (by omega)))
      · subst h; exact .inl (Int.le_refl _)
      · right
        rcases Nat.lt_or_ge (m + 1) i with h' | h'
        · exact Int.lt_trans h2 (getD_mono hp h' hi)
        · have : i = m + 1 := by omega
          subst this; exact h2
    rw [cutsOf_append] at key
    exact ⟨memB_const h1 fun v hv => key v (by simp [hv]), memB_const h1 fun v hv => key v (by simp [hv])⟩
  constructor
  · rintro ⟨_, _, x, hx, h1, h2⟩
    unfold segs at hx
    rw [List.mem_map] at hx
    obtain ⟨m, hm, rfl⟩ := hx
    rw [List.mem_filter, List.mem_range] at hm
    dsimp only at h1 h2
    obtain ⟨e1, e2⟩ := hconst m (by omega) h1 (by omega)
    rw [e1, e2]
    exact hm.2
  · intro h
    have hex : ∃ x ∈ a ++ b, x.1 ≤ t ∧ t ≤ x.2 := by
      by_cases h1 : memB a t = true
      · obtain ⟨x, hx, h2⟩ := memB_iff.1 h1
        exact ⟨x, by simp [hx], h2⟩
      · by_cases h3 : memB b t = true
        · obtain ⟨x, hx, h2⟩ := memB_iff.1 h3
          exact ⟨x, by simp [hx], h2⟩
        · simp only [Bool.not_eq_true] at h1 h3
          rw [h1, h3, hr] at h
          cases h
    obtain ⟨x, hx, h1, h2⟩ := hex
    have hox : Okv x := by
      rcases List.mem_append.1 hx with hx | hx
      · exact ha.1 x hx
      · exact hb.1 x hx
    unfold Okv at hox
    obtain ⟨i, hi, ei⟩ := getD_of_mem ((hc x.1).2 (mem_cutsOf.2 ⟨x, hx, .inl rfl⟩))
    obtain ⟨j, hj, ej⟩ := getD_of_mem ((hc (x.2 + 1)).2 (mem_cutsOf.2 ⟨x, hx, .inr rfl⟩))
    have hij : i < j := by
      rcases Nat.lt_trichotomy i j with h' | h' | h'
      · exact h'
      · rw [h'] at ei; omega
      · have := getD_mono hp h' hi; rw [ei, ej] at this; omega
    obtain ⟨m, hm, h3, h4⟩ := place_of (ps := ps) (t := t) i j hj (by omega) (by omega) hij
    obtain ⟨e1, e2⟩ := hconst m hm h3 h4
    refine ⟨by omega, by omega, (ps.getD m 0, ps.getD (m + 1) 0 - 1), ?_, h3, by dsimp only; omega⟩
    unfold segs
    rw [List.mem_map]
    exact ⟨m, by rw [List.mem_filter, List.mem_range]; exact ⟨by omega, by rw [← e1, ← e2]; exact h⟩, rfl⟩

/-! sorted numbers without repetitions -/
theorem compact_mem (zs : List Int) (v : Int) : v ∈ Lib.compact zs ↔ v ∈ zs := by
  unfold Lib.compact Lib.compactUpTo
  rw [List.mem_map]
  constructor
  · rintro ⟨j, hj, rfl⟩
    rw [List.mem_filter, List.mem_range] at hj
    have h : j < zs.toArray.size := by simpa using hj.1
    rw [getElem!_pos zs.toArray j h]
    simp
  · intro hv
    obtain ⟨j, hj, rfl⟩ := List.getElem_of_mem hv
    have hex : ∃ i, i < zs.length ∧ zs.toArray[i]! = zs[j] ∧ Lib.keeps zs.toArray i = true := by
      induction j with
      | zero => exact ⟨0, hj, by rw [getElem!_pos zs.toArray 0 (by simpa using hj)]; simp, by simp [Lib.keeps]⟩
      | succ j ih =>
        have e1 : zs.toArray[j + 1]! = zs[j + 1] := by rw [getElem!_pos zs.toArray (j + 1) (by simpa using hj)]; simp
        have e0 : zs.toArray[j]! = zs[j] := by rw [getElem!_pos zs.toArray j (by simp; omega)]; simp
        by_cases hk : zs.toArray[j + 1]! = zs.toArray[j + 1 - 1]!
        · obtain ⟨i, hi, h1, h2⟩ := ih (by omega) (List.getElem_mem _)
          refine ⟨i, hi, ?_, h2⟩
          rw [Nat.add_sub_cancel, e1, e0] at hk
          rw [h1, hk]
        · exact ⟨j + 1, hj, e1, Lib.keeps_pos hk⟩
    obtain ⟨i, hi, h1, h2⟩ := hex
    exact ⟨i, by rw [List.mem_filter, List.mem_range]; exact ⟨hi, h2⟩, h1⟩

theorem compact_sorted (zs : List Int) (h : zs.Pairwise (· ≤ ·)) : (Lib.compact zs).Pairwise (· < ·) := by
  unfold Lib.compact Lib.compactUpTo
  rw [List.pairwise_map]
  have h1 : ((List.range zs.length).filter (Lib.keeps zs.toArray)).Pairwise (· < ·) := List.Pairwise.filter _ List.pairwise_lt_range
  refine List.Pairwise.imp_of_mem ?_ h1
  intro i j hi hj hij
  rw [List.mem_filter, List.mem_range] at hi hj
  have hle := List.pairwise_iff_getElem.1 h
  have e : ∀ m (hm : m < zs.length), zs.toArray[m]! = zs[m] := fun m hm => by rw [getElem!_pos zs.toArray m (by simpa using hm)]; simp
  have hk : zs.toArray[j]! ≠ zs.toArray[j - 1]! := by
    have := hj.2
    unfold Lib.keeps at this
    simp only [decide_eq_true_eq] at this
    rcases this with h0 | h0
    · omega
    · exact h0
  rw [e j hj.1, e (j - 1) (by omega)] at hk
  have h2 := hle (j - 1) j (by omega) hj.1 (by omega)
  rw [e i hi.1, e j hj.1]
  rcases Nat.lt_or_ge i (j - 1) with h3 | h3
  · have := hle i (j - 1) hi.1 (by omega) h3
    omega
  · have : i = j - 1 := by omega
    subst this
    omega

theorem compact_le (zs : List Int) : (Lib.compact zs).length ≤ zs.length := by
  unfold Lib.compact Lib.compactUpTo
  rw [List.length_map]
  exact Nat.le_trans (List.length_filter_le _ _) (by simp)

theorem mergeSort_sorted (zs : List Int) : (zs.mergeSort fun x y => decide (x ≤ y)).Pairwise (· ≤ ·) := by
  have := List.pairwise_mergeSort (le := fun x y : Int => decide (x ≤ y)) (fun a b c h1 h2 => by simp at *; omega) (fun a b => by simp; omega) zs
  exact this.imp fun h => by simpa using h

end Go.Proofs.YtdlebcijgdkfjaaGreatDoor
