/-
  Plain mathematics of searching in a normal list: the least time from t on, the greatest time up to t, the list of all times. No program in sight.
-/
import Derived.Test.YthgglblbjghamaaSets
namespace Go.Proofs.Ythgglblbjghamaa

/-- u is the least time of S from t on; or there is none and u is 0 -/
def NextIs (S : Int → Prop) (t u : Int) (ok : Bool) : Prop := (ok = true ∧ S u ∧ t ≤ u ∧ ∀ v, S v → t ≤ v → u ≤ v) ∨ (ok = false ∧ u = 0 ∧ ∀ v, S v → v < t)
/-- u is the greatest time of S up to t; or there is none and u is 0 -/
def PrevIs (S : Int → Prop) (t u : Int) (ok : Bool) : Prop := (ok = true ∧ S u ∧ u ≤ t ∧ ∀ v, S v → v ≤ t → v ≤ u) ∨ (ok = false ∧ u = 0 ∧ ∀ v, S v → t < v)

theorem NextIs.unique {S : Int → Prop} {t u v : Int} {a b : Bool} (h : NextIs S t u a) (h' : NextIs S t v b) : u = v ∧ a = b := by
  rcases h with ⟨rfl, h1, h2, h3⟩ | ⟨rfl, rfl, h3⟩ <;> rcases h' with ⟨rfl, k1, k2, k3⟩ | ⟨rfl, rfl, k3⟩
  · have := h3 v k1 k2; have := k3 u h1 h2; exact ⟨by omega, rfl⟩
  · have := k3 u h1; omega
  · have := h3 v k1; omega
  · exact ⟨rfl, rfl⟩
theorem PrevIs.unique {S : Int → Prop} {t u v : Int} {a b : Bool} (h : PrevIs S t u a) (h' : PrevIs S t v b) : u = v ∧ a = b := by
  rcases h with ⟨rfl, h1, h2, h3⟩ | ⟨rfl, rfl, h3⟩ <;> rcases h' with ⟨rfl, k1, k2, k3⟩ | ⟨rfl, rfl, k3⟩
  · have := h3 v k1 k2; have := k3 u h1 h2; exact ⟨by omega, rfl⟩
  · have := k3 u h1; omega
  · have := h3 v k1; omega
  · exact ⟨rfl, rfl⟩
theorem NextIs.congr {S S' : Int → Prop} (hs : ∀ t, S t ↔ S' t) {t u : Int} {a : Bool} (h : NextIs S t u a) : NextIs S' t u a := by
  unfold NextIs at *; simp only [hs] at h; exact h
theorem PrevIs.congr {S S' : Int → Prop} (hs : ∀ t, S t ↔ S' t) {t u : Int} {a : Bool} (h : PrevIs S t u a) : PrevIs S' t u a := by
  unfold PrevIs at *; simp only [hs] at h; exact h

theorem mem_idx {ys : List Iv} {t : Int} (h : Mem ys t) : ∃ j, ∃ hj : j < ys.length, ys[j].1 ≤ t ∧ t ≤ ys[j].2 := by
  obtain ⟨_, _, x, hx, h1, h2⟩ := h
  obtain ⟨j, hj, rfl⟩ := List.getElem_of_mem hx
  exact ⟨j, hj, h1, h2⟩
theorem mem_at {ys : List Iv} (hn : Norm ys) {k : Nat} (hk : k < ys.length) {t : Int} (h1 : ys[k].1 ≤ t) (h2 : t ≤ ys[k].2) : Mem ys t := by
  have := hn.1 ys[k] (List.getElem_mem _)
  unfold Okv at this
  exact ⟨by omega, by omega, ys[k], List.getElem_mem _, h1, h2⟩
theorem norm_lt {ys : List Iv} (hn : Norm ys) {i j : Nat} (hij : i < j) (hj : j < ys.length) : ys[i].2 + 2 ≤ ys[j].1 :=
  List.pairwise_iff_getElem.1 hn.2 i j (by omega) hj hij

theorem next_hit {ys : List Iv} (hn : Norm ys) {k : Nat} (hk : k < ys.length) {t : Int} (hpre : ∀ j (hj : j < ys.length), j < k → ys[j].2 < t) (ht : t ≤ ys[k].2) : NextIs (Mem ys) t (max ys[k].1 t) true := by
  have ho := hn.1 ys[k] (List.getElem_mem _)
  unfold Okv at ho
  refine .inl ⟨rfl, mem_at hn hk (by omega) (by omega), by omega, fun v hv htv => ?_⟩
  obtain ⟨j, hj, h1, h2⟩ := mem_idx hv
  rcases Nat.lt_trichotomy j k with h | rfl | h
  · have := hpre j hj h; omega
  · omega
  · have := norm_lt hn h hj; omega
theorem next_none {ys : List Iv} {t : Int} (hpre : ∀ j (hj : j < ys.length), ys[j].2 < t) : NextIs (Mem ys) t 0 false := by
  refine .inr ⟨rfl, rfl, fun v hv => ?_⟩
  obtain ⟨j, hj, h1, h2⟩ := mem_idx hv
  have := hpre j hj; omega
theorem prev_hit {ys : List Iv} (hn : Norm ys) {k : Nat} (hk : k < ys.length) {t : Int} (hpre : ∀ j (hj : j < ys.length), k < j → t < ys[j].1) (ht : ys[k].1 ≤ t) : PrevIs (Mem ys) t (min ys[k].2 t) true := by
  have ho := hn.1 ys[k] (List.getElem_mem _)
  unfold Okv at ho
  refine .inl ⟨rfl, mem_at hn hk (by omega) (by omega), by omega, fun v hv htv => ?_⟩
  obtain ⟨j, hj, h1, h2⟩ := mem_idx hv
  rcases Nat.lt_trichotomy j k with h | rfl | h
  · have := norm_lt hn h hk; omega
  · omega
  · have := hpre j hj h; omega
theorem prev_none {ys : List Iv} {t : Int} (hpre : ∀ j (hj : j < ys.length), t < ys[j].1) : PrevIs (Mem ys) t 0 false := by
  refine .inr ⟨rfl, rfl, fun v hv => ?_⟩
  obtain ⟨j, hj, h1, h2⟩ := mem_idx hv
  have := hpre j hj; omega

/-- the reference: the first beginning of what lies from t on -/
theorem next_clip {S : Int → Prop} {ys : List Iv} (hn : Norm ys) {t : Int} (hS : ∀ v, S v → v ≤ 1099511627776) (hm : ∀ v, Mem ys v ↔ (t ≤ v ∧ v ≤ 1099511627776 ∧ S v)) (h0 : 0 < ys.length) : NextIs S t ys[0].1 true := by
  have ho := hn.1 ys[0] (List.getElem_mem _)
  unfold Okv at ho
  have h1 := (hm ys[0].1).1 (mem_at hn h0 (by omega) (by omega))
  refine .inl ⟨rfl, h1.2.2, h1.1, fun v hv htv => ?_⟩
  obtain ⟨j, hj, h2, h3⟩ := mem_idx ((hm v).2 ⟨htv, hS v hv, hv⟩)
  rcases Nat.eq_zero_or_pos j with rfl | h
  · exact h2
  · have := norm_lt hn h hj; omega
theorem next_clip_none {S : Int → Prop} {ys : List Iv} {t : Int} (hS : ∀ v, S v → v ≤ 1099511627776) (hm : ∀ v, Mem ys v ↔ (t ≤ v ∧ v ≤ 1099511627776 ∧ S v)) (h0 : ys = []) : NextIs S t 0 false := by
  refine .inr ⟨rfl, rfl, fun v hv => ?_⟩
  refine Int.not_le.1 fun h => ?_
  have := (hm v).2 ⟨h, hS v hv, hv⟩
  rw [h0] at this
  exact mem_nil _ this
theorem prev_clip {S : Int → Prop} {ys : List Iv} (hn : Norm ys) {t : Int} (hS : ∀ v, S v → 0 ≤ v) (hm : ∀ v, Mem ys v ↔ (0 ≤ v ∧ v ≤ t ∧ S v)) (k : Nat) (h0 : k < ys.length) (hk : ys.length = k + 1) : PrevIs S t ys[k].2 true := by
  have ho := hn.1 ys[k] (List.getElem_mem _)
  unfold Okv at ho
  have h1 := (hm ys[k].2).1 (mem_at hn h0 (by omega) (by omega))
  refine .inl ⟨rfl, h1.2.2, h1.2.1, fun v hv htv => ?_⟩
  obtain ⟨j, hj, h2, h3⟩ := mem_idx ((hm v).2 ⟨hS v hv, htv, hv⟩)
  rcases Nat.lt_trichotomy j k with h | rfl | h
  · have := norm_lt hn h h0; omega
  · exact h3
  · omega
theorem prev_clip_none {S : Int → Prop} {ys : List Iv} {t : Int} (hS : ∀ v, S v → 0 ≤ v) (hm : ∀ v, Mem ys v ↔ (0 ≤ v ∧ v ≤ t ∧ S v)) (h0 : ys = []) : PrevIs S t 0 false := by
  refine .inr ⟨rfl, rfl, fun v hv => ?_⟩
  refine Int.not_le.1 fun h => ?_
  have := (hm v).2 ⟨hS v hv, h, hv⟩
  rw [h0] at this
  exact mem_nil _ this

/-- n times, one after the other -/
def runL (p : Int) (n : Nat) : List Int := (List.range n).map fun (i : Nat) => p + (i : Int)
theorem runL_succ (p : Int) (n : Nat) : runL p (n + 1) = runL p n ++ [p + (n : Int)] := by simp [runL, List.range_succ]
theorem runL_len (p : Int) (n : Nat) : (runL p n).length = n := by simp [runL]
theorem runL_mem {p : Int} {n : Nat} {t : Int} : t ∈ runL p n ↔ p ≤ t ∧ t < p + n := by
  unfold runL
  simp only [List.mem_map, List.mem_range]
  constructor
  · rintro ⟨i, hi, rfl⟩; omega
  · intro h; exact ⟨(t - p).toNat, by omega, by omega⟩
theorem runL_sorted (p : Int) (n : Nat) : (runL p n).Pairwise (· < ·) := by
  unfold runL
  rw [List.pairwise_map]
  exact List.pairwise_lt_range.imp fun h => by omega

/-- all times of a normal list -/
def pts (ys : List Iv) : List Int := ys.flatMap fun y => runL y.1 (y.2 - y.1 + 1).toNat
theorem pts_take_succ (ys : List Iv) (k : Nat) (hk : k < ys.length) : pts (ys.take (k + 1)) = pts (ys.take k) ++ runL ys[k].1 (ys[k].2 - ys[k].1 + 1).toNat := by
  unfold pts; rw [List.take_succ_eq_append_getElem hk, List.flatMap_append]; simp

/-- the number of times of a normal list -/
def cnt (xs : List Iv) : Int := (xs.map fun x => x.2 - x.1 + 1).sum
theorem cnt_take_succ (xs : List Iv) (k : Nat) (hk : k < xs.length) : cnt (xs.take (k + 1)) = cnt (xs.take k) + (xs[k].2 - xs[k].1 + 1) := by
  unfold cnt; rw [List.take_succ_eq_append_getElem hk, List.map_append, List.sum_append]; simp
theorem cnt_bound {xs : List Iv} (lo : Int) (hlo : lo ≤ 1099511627778) (h : Norm xs) (hl : ∀ x ∈ xs, lo ≤ x.1) : 0 ≤ cnt xs ∧ cnt xs + lo ≤ 1099511627778 := by
  induction xs generalizing lo with
  | nil => simpa [cnt] using hlo
  | cons x xs ih =>
    obtain ⟨ox, lx, nx⟩ := norm_cons.1 h
    unfold Okv at ox
    have h1 := hl x (by simp)
    have h2 := ih (x.2 + 2) (by omega) nx lx
    have e : cnt (x :: xs) = x.2 - x.1 + 1 + cnt xs := by simp [cnt]
    omega
theorem cnt_norm {xs : List Iv} (h : Norm xs) : 0 ≤ cnt xs ∧ cnt xs ≤ 1099511627778 := by
  have := cnt_bound 0 (by omega) h (fun x hx => (h.1 x hx).1)
  omega
theorem norm_take {xs : List Iv} (h : Norm xs) (k : Nat) : Norm (xs.take k) := ⟨fun x hx => h.1 x (List.mem_of_mem_take hx), h.2.sublist (List.take_sublist k xs)⟩
theorem norm_drop {xs : List Iv} (h : Norm xs) (k : Nat) : Norm (xs.drop k) := ⟨fun x hx => h.1 x (List.mem_of_mem_drop hx), h.2.sublist (List.drop_sublist k xs)⟩
theorem cnt_append (xs ys : List Iv) : cnt (xs ++ ys) = cnt xs + cnt ys := by simp [cnt]
theorem cnt_take_le {xs : List Iv} (h : Norm xs) (k : Nat) : cnt (xs.take k) ≤ cnt xs := by
  have e := cnt_append (xs.take k) (xs.drop k)
  rw [List.take_append_drop] at e
  have := (cnt_norm (norm_drop h k)).1
  omega

theorem pts_len {ys : List Iv} (h : Norm ys) : ((pts ys).length : Int) = cnt ys := by
  induction ys with
  | nil => simp [pts, cnt]
  | cons y ys ih =>
    obtain ⟨oy, _, ny⟩ := norm_cons.1 h
    unfold Okv at oy
    have e1 : pts (y :: ys) = runL y.1 (y.2 - y.1 + 1).toNat ++ pts ys := by simp [pts]
    have e2 : cnt (y :: ys) = y.2 - y.1 + 1 + cnt ys := by simp [cnt]
    rw [e1, e2, List.length_append, runL_len, ← ih ny]
    omega
theorem pts_mem {ys : List Iv} (h : Norm ys) (t : Int) : t ∈ pts ys ↔ Mem ys t := by
  unfold pts Mem
  rw [List.mem_flatMap]
  constructor
  · rintro ⟨y, hy, h1⟩
    have ho := h.1 y hy
    unfold Okv at ho
    rw [runL_mem] at h1
    exact ⟨by omega, by omega, y, hy, by omega, by omega⟩
  · rintro ⟨_, _, y, hy, h1, h2⟩
    exact ⟨y, hy, by rw [runL_mem]; omega⟩
theorem pts_sorted {ys : List Iv} (h : Norm ys) : (pts ys).Pairwise (· < ·) := by
  induction ys with
  | nil => simp [pts]
  | cons y ys ih =>
    obtain ⟨oy, ly, ny⟩ := norm_cons.1 h
    have e1 : pts (y :: ys) = runL y.1 (y.2 - y.1 + 1).toNat ++ pts ys := by simp [pts]
    unfold Okv at oy
    rw [e1, List.pairwise_append]
    refine ⟨runL_sorted _ _, ih ny, fun a ha b hb => ?_⟩
    rw [runL_mem] at ha
    obtain ⟨_, _, x, hx, h1, _⟩ := (pts_mem ny b).1 hb
    have := ly x hx
    omega
theorem run_lt {ys : List Iv} (h : Norm ys) {k : Nat} (hk : k < ys.length) {m : Int} (hm : cnt ys ≤ m) {n : Nat} (hn : (n : Int) ≤ ys[k].2 - ys[k].1 + 1) : (((pts (ys.take k)) ++ runL ys[k].1 n).length : Int) ≤ m := by
  have h1 := cnt_take_succ ys k hk
  have h2 := cnt_take_le h (k + 1)
  have h3 := pts_len (norm_take h k)
  rw [List.length_append, runL_len]
  omega

/-- what Points answers -/
def PtsIs (ys : List Iv) (most : Int) (zs : List Int) (er : Int) : Prop :=
  ((most < 0 ∨ 4096 < most) ∧ zs = [] ∧ er = 1) ∨ ((0 ≤ most ∧ most ≤ 4096) ∧ most < cnt ys ∧ zs = [] ∧ er = 9) ∨ ((0 ≤ most ∧ most ≤ 4096) ∧ cnt ys ≤ most ∧ zs = pts ys ∧ er = 0)
theorem PtsIs.unique {ys : List Iv} {most : Int} {zs zs' : List Int} {er er' : Int} (h : PtsIs ys most zs er) (h' : PtsIs ys most zs' er') : zs = zs' ∧ er = er' := by
  rcases h with ⟨h1, rfl, rfl⟩ | ⟨h1, h2, rfl, rfl⟩ | ⟨h1, h2, rfl, rfl⟩ <;> rcases h' with ⟨k1, rfl, rfl⟩ | ⟨k1, k2, rfl, rfl⟩ | ⟨k1, k2, rfl, rfl⟩ <;> first | exact ⟨rfl, rfl⟩ | (exfalso; omega)

end Go.Proofs.Ythgglblbjghamaa
