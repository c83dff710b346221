/-
  intervals.Of, In and Count, and the reference's Of, Count and Valid.
-/
import Derived.Test.YthgglblbjghamaaRefOps
import Derived.Test.YthgglblbjghamaaFind
import Derived.Test.YthgglblbjghamaaValid
import Derived.Test.YthgglblbjghamaaSame
namespace Go.Proofs.Ythgglblbjghamaa
open Go.RowKit Go.Joins

def singles (zs : List Int) : List Iv := zs.map fun t => (t, t)
theorem singles_take_succ (zs : List Int) (k : Nat) (hk : k < zs.length) : singles (zs.take (k + 1)) = singles (zs.take k) ++ [(zs[k], zs[k])] := by
  unfold singles; rw [List.take_succ_eq_append_getElem hk, List.map_append]; rfl
theorem singles_len (zs : List Int) (k : Nat) : (singles (zs.take k)).length ≤ zs.length := by unfold singles; rw [List.length_map]; exact List.length_take_le' k zs

def OfRel (w : World) (zs : List Int) (out i : Value) (wr : World) : Prop :=
  ∃ (k : Nat) (A : Option Addr) (c : Nat), k ≤ zs.length ∧ i = .int .i64 k ∧ out = .slice A (singles (zs.take k)).length c ∧ OwnIv wr w.heap.size A c (singles (zs.take k)) ∧ Below w.heap.size w wr

set_option maxHeartbeats 1000000 in
theorem of_any (A : Option Addr) (c : Nat) (zs : List Int) (w : World) (h : IntsAt w w.heap.size A zs) (hl : zs.length ≤ 1000000000000) :
    Calls Try.prog 33 #[.slice A zs.length c] w (RetIvs w (Mem (singles zs))) := by
  go_enter Try.func33, Try.ntmps33
  go_wp2_with fail
  go_loopw [3, 8] (fun out i wr => OfRel w zs out i wr) (fun _ i _ => zs.length - (intOf i).toNat)
  case atStart => exact ⟨0, none, 0, Nat.zero_le _, rfl, rfl, OwnIv.nil _ _, Below.refl _ _⟩
  case round =>
    obtain ⟨k, A2, c2, hk, rfl, rfl, hown, hb⟩ := hrel
    have hll := singles_len zs k
    by_cases hlt : k < zs.length
    · obtain ⟨b, off, rfl, hbb, hc1⟩ := (h.below hb).at_ hlt
      have HS := hide (singles_take_succ zs k hlt)
      generalize singles (zs.take k) = ms at *
      generalize zs[k] = z at *
      go_wp2_with (at_builtin; (refine append_iv rfl _ _ rfl w.heap.size A2 c2 ms _ rfl rfl z z _ rfl _ rfl (by simp) hown (by omega) hb.size ?_)
                   intro g' c' w2 row hown2 hg' hgrow hrow)
      go_roundw
      case rel =>
        refine ⟨k + 1, some ⟨g', 0, none⟩, c', by omega, by go_num, by rw [HS.out]; simp, by rw [HS.out]; exact hown2, ?_⟩
        exact (hb.alloc hb.size _).grown hgrow (by have := hb.size; simp; omega) hrow
      case measure => simp [intOf]; omega
    · have hke : k = zs.length := by omega
      subst hke
      rw [List.take_length] at hown hll ⊢
      go_wp2_with fail
      refine (normal_any A2 c2 (singles zs) _ hown.ats (by omega)).mono ?_
      rintro e w3 ⟨A3, c3, us, rfl, hown3, hb3, n3, m3⟩
      go_wp2_with fail
      go_ret
      exact ⟨A3, c3, us, rfl, hown3.lower hb.size, bstep hb hb3, n3, m3⟩

set_option maxHeartbeats 1000000 in
theorem refOf_any (A : Option Addr) (c : Nat) (zs : List Int) (w : World) (h : IntsAt w w.heap.size A zs) (hl : zs.length ≤ 1000000000000) :
    Calls Try.prog 34 #[.slice A zs.length c] w (RetIvs w (Mem (singles zs))) := by
  go_enter Try.func34, Try.ntmps34
  go_wp2_with fail
  go_loopw [3, 4] (fun out i wr => OfRel w zs out i wr) (fun _ i _ => zs.length - (intOf i).toNat)
  case atStart => exact ⟨0, some ⟨w.heap.size, 0, none⟩, 0, Nat.zero_le _, rfl, rfl, OwnIv.empty _ _ (Nat.le_refl _), (Below.refl _ _).alloc (Nat.le_refl _) _⟩
  case round =>
    obtain ⟨k, A2, c2, hk, rfl, rfl, hown, hb⟩ := hrel
    have hll := singles_len zs k
    by_cases hlt : k < zs.length
    · obtain ⟨b, off, rfl, hbb, hc1⟩ := (h.below hb).at_ hlt
      have HS := hide (singles_take_succ zs k hlt)
      generalize singles (zs.take k) = ms at *
      generalize zs[k] = z at *
      have hd1 : decide ((k : Int) < (zs.length : Int)) = true := decide_eq_true (by omega)
      go_wp2_with fail
      go_region_law (refine step_append_iv rfl _ _ rfl w.heap.size A2 c2 ms _ rfl rfl z z _ rfl _ rfl (by simp) (by exact hown) (by omega) (by exact hb.size) ?_; intro g' c' w3 row hown3 hg' hgrow hrow)
      all_goals
        go_wp2_with fail
        go_roundw
        case rel =>
          refine ⟨k + 1, some ⟨g', 0, none⟩, c', by omega, by go_num, by rw [HS.out]; simp, by rw [HS.out]; exact hown3, ?_⟩
          exact (hb.drew.alloc (by exact hb.size) _).grown hgrow (by have := hb.size; simp; omega) hrow
        case measure => simp [intOf]; omega
    · have hke : k = zs.length := by omega
      subst hke
      rw [List.take_length] at hown hll ⊢
      go_wp2_with fail
      refine (refNormal_any A2 c2 (singles zs) _ hown.ats (by omega)).mono ?_
      rintro e w3 ⟨A3, c3, us, rfl, hown3, hb3, n3, m3⟩
      go_wp2_with fail
      go_ret
      exact ⟨A3, c3, us, rfl, hown3.lower hb.size, bstep hb hb3, n3, m3⟩

def RetCount (w : World) (xs : List Iv) (e : Ending) (w' : World) : Prop := ∃ ys, Norm ys ∧ (∀ t, Mem ys t ↔ Mem xs t) ∧ e = .returned (.int .i64 (cnt ys)) ∧ Below w.heap.size w w'
def CountRel (w : World) (ys : List Iv) (n i : Value) (wr : World) : Prop := ∃ k : Nat, k ≤ ys.length ∧ i = .int .i64 k ∧ n = .int .i64 (cnt (ys.take k)) ∧ Below w.heap.size w wr

set_option maxHeartbeats 1000000 in
theorem count_any (A : Option Addr) (c : Nat) (xs : List Iv) (w : World) (h : IvsAt w w.heap.size A xs) (hl : xs.length ≤ 1000000000000) :
    Calls Try.prog 37 #[.slice A xs.length c] w (RetCount w xs) := by
  go_enter Try.func37, Try.ntmps37
  go_wp2_with fail
  refine (normal_any A c xs _ h (by omega)).mono ?_
  rintro e w1 ⟨A1, c1, ys, rfl, hown1, hb1, ny, my⟩
  have hly := norm_len ny
  have ry := hown1.ats
  have HMY := hide my
  clear my hown1 h
  go_wp2_with fail
  go_loopw [3, 9] (fun n i wr => CountRel w1 ys n i wr) (fun _ i _ => ys.length - (intOf i).toNat)
  case atStart => exact ⟨0, Nat.zero_le _, rfl, rfl, Below.refl _ _⟩
  case round =>
    obtain ⟨k, hk, rfl, rfl, hb⟩ := hrel
    have hcn := cnt_norm (norm_take ny k)
    by_cases hlt : k < ys.length
    · obtain ⟨b, off, rfl, hbb, hc1, hc2⟩ := (ry.below hb).at_ hlt
      have HS := hide (cnt_take_succ ys k hlt)
      have hoy := ny.1 ys[k] (List.getElem_mem _)
      unfold Okv at hoy
      generalize cnt (ys.take k) = n at *
      go_wp2
      go_roundw
      case rel => exact ⟨k + 1, by omega, by go_num, by rw [HS.out], hb.alloc hb.size _⟩
      case measure => simp [intOf]; omega
    · have hke : k = ys.length := by omega
      subst hke
      rw [List.take_length]
      go_wp2
      go_ret
      exact ⟨ys, ny, HMY.out, rfl, bstep hb1 hb⟩

set_option maxHeartbeats 1000000 in
theorem refCount_any (A : Option Addr) (c : Nat) (xs : List Iv) (w : World) (h : IvsAt w w.heap.size A xs) (hl : xs.length ≤ 1000000000000) :
    Calls Try.prog 38 #[.slice A xs.length c] w (RetCount w xs) := by
  go_enter Try.func38, Try.ntmps38
  go_wp2_with fail
  refine (refNormal_any A c xs _ h (by omega)).mono ?_
  rintro e w1 ⟨A1, c1, ys, rfl, hown1, hb1, ny, my⟩
  have hly := norm_len ny
  have ry := hown1.ats
  have HMY := hide my
  clear my hown1 h
  go_wp2_with fail
  go_loopw [3, 5] (fun n i wr => CountRel w1 ys n i wr) (fun _ i _ => ys.length - (intOf i).toNat)
  case atStart => exact ⟨0, Nat.zero_le _, rfl, rfl, Below.refl _ _⟩
  case round =>
    obtain ⟨k, hk, rfl, rfl, hb⟩ := hrel
    have hcn := cnt_norm (norm_take ny k)
    by_cases hlt : k < ys.length
    · obtain ⟨b, off, rfl, hbb, hc1, hc2⟩ := (ry.below hb).at_ hlt
      have HS := hide (cnt_take_succ ys k hlt)
      have hoy := ny.1 ys[k] (List.getElem_mem _)
      unfold Okv at hoy
      generalize cnt (ys.take k) = n at *
      have hd1 : decide ((k : Int) < (ys.length : Int)) = true := decide_eq_true (by omega)
      go_wp2
      have q1 : IntKind.i64.wrap (n + ys[k].2) = n + ys[k].2 := IntWalk.i64_in _ (by omega)
      have q2 : IntKind.i64.wrap (n + ys[k].2 - ys[k].1) = n + ys[k].2 - ys[k].1 := IntWalk.i64_in _ (by omega)
      have q3 : IntKind.i64.wrap (n + ys[k].2 - ys[k].1 + 1) = n + ys[k].2 - ys[k].1 + 1 := IntWalk.i64_in _ (by omega)
      go_quiet (fail)
      clear q1 q2 q3
      go_wp2
      go_roundw
      case rel => exact ⟨k + 1, by omega, by go_num, by rw [HS.out]; congr 1; omega, below_drewN hb _⟩
      case measure => simp [intOf]; omega
    · have hke : k = ys.length := by omega
      subst hke
      rw [List.take_length]
      go_wp2
      go_ret
      exact ⟨ys, ny, HMY.out, rfl, bstep hb1 hb⟩

/-- In's closure -/
theorem inFn_any (p q t : Int) (B : Nat) (w : World) (hB : w.cell? ⟨B, 0, none⟩ = some (.int .i64 t)) (hlt : B < w.heap.size) :
    Calls Try.prog 59 #[.agg #[.int .i64 p, .int .i64 q], .pointer (some ⟨B, 0, none⟩)] w fun e w' => e = .returned (.bool (decide (p ≤ t ∧ t ≤ q))) ∧ Below w.heap.size w w' := by
  by_cases h1 : p ≤ t
  · have d1 : decide (p ≤ t) = true := decide_eq_true h1
    by_cases h2 : t ≤ q
    · have d2 : decide (t ≤ q) = true := decide_eq_true h2
      have HD := hide (decide_eq_true (p := p ≤ t ∧ t ≤ q) ⟨h1, h2⟩)
      go_enter Try.func59, Try.ntmps59
      go_wp2
      try go_quiet (fail)
      try go_wp2
      go_ret
      exact ⟨by first | rfl | (rw [HD.out]; rfl), by first | exact (Below.refl _ _).alloc (Nat.le_refl _) _ | exact below_drewN ((Below.refl _ _).alloc (Nat.le_refl _) _) _⟩
    · have d2 : decide (t ≤ q) = false := decide_eq_false h2
      have HD := hide (decide_eq_false (p := p ≤ t ∧ t ≤ q) (fun h => h2 h.2))
      go_enter Try.func59, Try.ntmps59
      go_wp2
      try go_quiet (fail)
      try go_wp2
      go_ret
      exact ⟨by first | rfl | (rw [HD.out]; rfl), by first | exact (Below.refl _ _).alloc (Nat.le_refl _) _ | exact below_drewN ((Below.refl _ _).alloc (Nat.le_refl _) _) _⟩
  · have d1 : decide (p ≤ t) = false := decide_eq_false h1
    have HD := hide (decide_eq_false (p := p ≤ t ∧ t ≤ q) (fun h => h1 h.1))
    go_enter Try.func59, Try.ntmps59
    go_wp2
    try go_quiet (fail)
    try go_wp2
    go_ret
    exact ⟨by first | rfl | (rw [HD.out]; rfl), by first | exact (Below.refl _ _).alloc (Nat.le_refl _) _ | exact below_drewN ((Below.refl _ _).alloc (Nat.le_refl _) _) _⟩

def IdxRel (w : World) (xs : List Iv) (t : Int) (i : Value) (wr : World) : Prop := ∃ k : Nat, k ≤ xs.length ∧ i = .int .i64 k ∧ memB (xs.take k) t = false ∧ Below w.heap.size w wr
/-- an index at which it holds, or -1 -/
def RetIdx (w : World) (b : Bool) (e : Ending) (w' : World) : Prop := ∃ n : Int, e = .returned (.int .i64 n) ∧ decide (0 ≤ n) = b ∧ Below w.heap.size w w'

set_option maxHeartbeats 1000000 in
theorem idxFn_any (A : Option Addr) (c : Nat) (xs : List Iv) (t : Int) (B : Nat) (w : World) (h : IvsAt w w.heap.size A xs) (hl : xs.length ≤ 4398046511104) (hB : w.cell? ⟨B, 0, none⟩ = some (.int .i64 t)) (hBl : B < w.heap.size) :
    Calls Try.prog 69 #[.slice A xs.length c, .func (.func 59) #[] #[.pointer (some ⟨B, 0, none⟩)]] w (RetIdx w (memB xs t)) := by
  go_enter Try.func69, Try.ntmps69
  go_wp2_with fail
  go_loopw [8] (fun i wr => IdxRel w xs t i wr) (fun i _ => xs.length - (intOf i).toNat)
  case atStart => exact ⟨0, Nat.zero_le _, rfl, rfl, Below.refl _ _⟩
  case round =>
    obtain ⟨k, hk, rfl, hm, hb⟩ := hrel
    have HM := hide hm
    clear hm
    by_cases hlt : k < xs.length
    · obtain ⟨b, off, rfl, hbb, hc1, hc2⟩ := (h.below hb).at_ hlt
      have HS := hide (memB_take_succ xs k t hlt)
      have hBr := (hb.cell (p := ⟨B, 0, none⟩) hBl).trans hB
      have hBs : B < wr.heap.size := Nat.lt_of_lt_of_le hBl hb.size
      have HC := hide (fun W (h : Below wr.heap.size wr W) => h)
      go_wp2_with fail
      refine (inFn_any xs[k].1 xs[k].2 t B _ hBr hBs).mono ?_
      rintro e w1 ⟨rfl, hb1⟩
      by_cases hin : xs[k].1 ≤ t ∧ t ≤ xs[k].2
      · rw [decide_eq_true hin]
        have HI := hide hin
        clear hin HC
        go_wp2_with fail
        go_ret
        exact ⟨k, rfl, by rw [memB_true hlt HI.out]; exact decide_eq_true (by omega), bstep hb hb1⟩
      · rw [decide_eq_false hin]
        have HI := hide hin
        clear hin HC
        go_wp2_with fail
        go_roundw
        case rel => exact ⟨k + 1, by omega, by go_num, by rw [HS.out, HM.out, decide_eq_false (fun h => HI.out h)]; rfl, bstep hb hb1⟩
        case measure => simp [intOf]; omega
    · go_wp2_with fail
      go_ret
      refine ⟨-1, rfl, ?_, hb⟩
      have h1 := HM.out
      rw [List.take_of_length_le (by omega)] at h1
      rw [h1]
      rfl

theorem contFn_any (A : Option Addr) (c : Nat) (xs : List Iv) (t : Int) (B : Nat) (w : World) (h : IvsAt w w.heap.size A xs) (hl : xs.length ≤ 4398046511104) (hB : w.cell? ⟨B, 0, none⟩ = some (.int .i64 t)) (hBl : B < w.heap.size) :
    Calls Try.prog 58 #[.slice A xs.length c, .func (.func 59) #[] #[.pointer (some ⟨B, 0, none⟩)]] w fun e w' => e = .returned (.bool (memB xs t)) ∧ Below w.heap.size w w' := by
  go_enter Try.func58, Try.ntmps58
  go_wp2_with fail
  refine (idxFn_any A c xs t B _ h hl hB hBl).mono ?_
  rintro e w1 ⟨n, rfl, hn, hb⟩
  have HN := hide hn
  clear hn
  go_wp2_with fail
  go_ret
  exact ⟨by rw [← HN.out]; rfl, hb⟩

theorem in_any (A : Option Addr) (c : Nat) (xs : List Iv) (t : Int) (w : World) (h : IvsAt w w.heap.size A xs) (hl : xs.length ≤ 4398046511104) :
    Calls Try.prog 35 #[.slice A xs.length c, .int .i64 t] w fun e w' => e = .returned (.bool (memT xs t)) ∧ Below w.heap.size w w' := by
  have hb0 : Below w.heap.size w (w.alloc (.cells #[.int .i64 t] 3)) := (Below.refl _ _).alloc (Nat.le_refl _) _
  by_cases h1 : 0 ≤ t
  · have d1 : decide (0 ≤ t) = true := decide_eq_true h1
    by_cases h2 : t ≤ 1099511627776
    · have d2 : decide (t ≤ 1099511627776) = true := decide_eq_true h2
      have HT := hide (memT_in (xs := xs) ⟨h1, h2⟩)
      go_enter Try.func35, Try.ntmps35
      go_wp2_with fail
      refine (contFn_any A c xs t w.heap.size _ (h.step hb0) hl (by simp) (by simp)).mono ?_
      rintro e w1 ⟨rfl, hb⟩
      go_wp2_with fail
      go_ret
      exact ⟨by rw [HT.out]; rfl, bstep hb0 hb⟩
    · have d2 : decide (t ≤ 1099511627776) = false := decide_eq_false h2
      have HT := hide (memT_out (xs := xs) (t := t) (fun h => h2 h.2))
      go_enter Try.func35, Try.ntmps35
      go_wp2_with fail
      go_ret
      exact ⟨by rw [HT.out]; rfl, hb0⟩
  · have d1 : decide (0 ≤ t) = false := decide_eq_false h1
    have HT := hide (memT_out (xs := xs) (t := t) (fun h => h1 h.1))
    go_enter Try.func35, Try.ntmps35
    go_wp2_with fail
    go_ret
    exact ⟨by rw [HT.out]; rfl, hb0⟩

theorem refValid_any (A : Option Addr) (c : Nat) (xs : List Iv) (w : World) (h : IvsAt w w.heap.size A xs) (hl : xs.length ≤ 1000000000000) :
    Calls Try.prog 30 #[.slice A xs.length c] w fun e w' => e = .returned (.bool (validB xs)) ∧ Below w.heap.size w w' := by
  go_enter Try.func30, Try.ntmps30
  go_wp2_with fail
  refine (refNormal_any A c xs _ h (by omega)).mono ?_
  rintro e w1 ⟨A1, c1, ys, rfl, hown1, hb1, ny, my⟩
  have HMY := hide my
  clear my
  go_wp2_with fail
  refine (same_any A A1 c c1 xs ys _ (h.step hb1) hown1.ats (by omega) (by have := norm_len ny; omega)).mono ?_
  rintro e w2 ⟨rfl, q, rfl⟩
  have HE : Hid (decide (xs = ys) = validB xs) := by
    show decide (xs = ys) = validB xs
    rw [Bool.eq_iff_iff, decide_eq_true_eq, validB_iff]
    exact ⟨fun e => by rw [e]; exact ny, fun n => norm_ext n ny fun t => (HMY.out t).symm⟩
  rw [HE.out]
  go_wp2_with fail
  go_ret
  exact ⟨rfl, below_drewN hb1 q⟩

theorem valid_is (v : Bool) (A : Option Addr) (c : Nat) (xs : List Iv) (w : World) (h : IvsAt w w.heap.size A xs) (hl : xs.length ≤ 4398046511104) (hv : validB xs = v) :
    Calls Try.prog 29 #[.slice A xs.length c] w fun e w' => e = .returned (.bool v) ∧ Below w.heap.size w w' := by subst hv; exact valid_any A c xs w h hl
theorem refValid_is (v : Bool) (A : Option Addr) (c : Nat) (xs : List Iv) (w : World) (h : IvsAt w w.heap.size A xs) (hl : xs.length ≤ 1000000000000) (hv : validB xs = v) :
    Calls Try.prog 30 #[.slice A xs.length c] w fun e w' => e = .returned (.bool v) ∧ Below w.heap.size w w' := by subst hv; exact refValid_any A c xs w h hl
theorem in_is (v : Bool) (A : Option Addr) (c : Nat) (xs : List Iv) (t : Int) (w : World) (h : IvsAt w w.heap.size A xs) (hl : xs.length ≤ 4398046511104) (hv : memT xs t = v) :
    Calls Try.prog 35 #[.slice A xs.length c, .int .i64 t] w fun e w' => e = .returned (.bool v) ∧ Below w.heap.size w w' := by subst hv; exact in_any A c xs t w h hl

end Go.Proofs.Ythgglblbjghamaa
