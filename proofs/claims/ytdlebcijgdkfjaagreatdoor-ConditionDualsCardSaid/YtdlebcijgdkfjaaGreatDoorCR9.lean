/-
  Several texts in one: Cmp51, Sets. Each says at its head what it holds.
-/
import Derived.Test.YtdlebcijgdkfjaaGreatDoorCR7
import Derived.Below

/-
  condition.equality and Compare, where both strings are bits of one length and the operator is an equality.
-/
namespace Go.Proofs.YtdlebcijgdkfjaaGreatDoor
open Go.RowKit

theorem codeL {c : UInt8} {n : Nat} (h : codeC c = n) (w : World) : Calls Tryz.prog 80 #[.int .u8 (c.toNat : Int)] w fun e w' => e = .returned (.int .i64 (n : Int)) ∧ w' = w := by
  subst h; exact codeq c w

/-- two places that are known and differ -/
def diffC (x y : UInt8) : Bool := knC x && knC y && (x != y)
def diffL (a b : List UInt8) : Bool := (List.zipWith diffC a b).any id
def eqP (a b : List UInt8) : Bool × Bool := if diffL a b then (false, true) else (knownB a && knownB b, knownB a && knownB b)

theorem diff_take {a b : List UInt8} {k : Nat} (ha : k < a.length) (hb : k < b.length) : diffL (a.take (k + 1)) (b.take (k + 1)) = (diffL (a.take k) (b.take k) || diffC a[k] b[k]) := by
  unfold diffL
  rw [List.take_succ_eq_append_getElem ha, List.take_succ_eq_append_getElem hb, List.zipWith_append (by simp; omega), List.any_append]
  simp
theorem diff_true {a b : List UInt8} {k : Nat} (ha : k < a.length) (hb : k < b.length) (h : diffC a[k] b[k] = true) : diffL a b = true := by
  unfold diffL
  rw [List.any_eq_true]
  refine ⟨true, ?_, rfl⟩
  rw [← h]
  have hl : k < (List.zipWith diffC a b).length := by simp; omega
  have : (List.zipWith diffC a b)[k] = diffC a[k] b[k] := by simp
  rw [← this]
  exact List.getElem_mem hl
theorem diff_code (x y : UInt8) : diffC x y = (decide (codeC x < 2) && decide (codeC y < 2) && (codeC x != codeC y)) := by
  unfold diffC
  rcases code_cases x with ⟨rfl, _, _⟩ | ⟨rfl, _, _⟩ | ⟨_, _, _, _, h1, h2⟩
  · rcases code_cases y with ⟨rfl, _, _⟩ | ⟨rfl, _, _⟩ | ⟨_, _, _, _, h1, h2⟩
    · rfl
    · rfl
    · rw [h1, h2]; rfl
  · rcases code_cases y with ⟨rfl, _, _⟩ | ⟨rfl, _, _⟩ | ⟨_, _, _, _, h1, h2⟩
    · rfl
    · rfl
    · rw [h1, h2]; rfl
  · rw [h1, h2]; rfl

def EqRel (a b : ByteArray) (w : World) (i : Value) (wr : World) : Prop := ∃ (k q : Nat), k ≤ a.size ∧ i = .int .i64 k ∧ diffL (a.data.toList.take k) (b.data.toList.take k) = false ∧ wr = w.drewN q
theorem code_three (c : UInt8) : codeC c = 0 ∨ codeC c = 1 ∨ codeC c = 2 := by have := codeC_le c; omega

set_option maxRecDepth 100000 in
set_option maxHeartbeats 4000000 in
theorem equality_any (a b : ByteArray) (w : World) (hab : a.size = b.size) (hl : a.size ≤ 1000) :
    Calls Tryz.prog 34 #[.string a, .string b] w fun e w' => e = .returned (.tuple #[.bool (eqP a.data.toList b.data.toList).1, .bool (eqP a.data.toList b.data.toList).2]) ∧ Below w.heap.size w w' := by
  have HAB := hide hab
  have hlb : b.size ≤ 1000 := by omega
  clear hab
  go_enter Tryz.func34, Tryz.ntmps34
  go_wp2_with fail
  go_loopw [11] (fun i wr => EqRel a b w i wr) (fun i _ => a.size - (intOf i).toNat)
  case atStart => exact ⟨0, 0, Nat.zero_le _, rfl, rfl, rfl⟩
  case round =>
    obtain ⟨k, q, hk, rfl, hnd, hwr⟩ := hrel
    have hbq : Below w.heap.size w wr := by rw [hwr]; exact below_drewN (Below.refl _ _) q
    have HWR := hide hwr
    clear hwr
    have HND := hide hnd
    clear hnd
    by_cases hlt : k < a.size
    · have hlt2 : k < b.size := by have := HAB.out; omega
      have h1 : k < a.data.toList.length := by simpa using hlt
      have h2 : k < b.data.toList.length := by simpa using hlt2
      have HT := hide (diff_take h1 h2)
      have HD := hide (fun h => diff_true h1 h2 h)
      have e1 : a.data.toList[k] = a[k] := rfl
      have e2 : b.data.toList[k] = b[k] := rfl
      rw [e1, e2] at HT HD
      have HDC := hide (diff_code a[k] b[k])
      have HA := hide (code_three a[k])
      have HB := hide (code_three b[k])
      have hi1 : (k : Int) < (a.size : Int) := by omega
      have hi2 : (k : Int) < (b.size : Int) := by omega
      have hi3 : (0 : Int) ≤ (k : Int) := by omega
      clear e1 e2
      rcases HA.out with hA | hA | hA
      all_goals
        rcases HB.out with hB | hB | hB
        all_goals
          have HA1 := hide hA
          have HB1 := hide hB
          clear hA hB
          rw [HA1.out, HB1.out] at HDC
          go_upto_region 4 with (fail)
          go_quiet ((go_at_call 80; first | (with_reducible exact Calls.quiet_of_same (codeL HA1.out _)) | (with_reducible exact Calls.quiet_of_same (codeL HB1.out _))))
          go_wp2_with fail
          first
            | (go_ret2
               exact ⟨by unfold eqP; rw [if_pos (HD.out HDC.out)]; rfl, below_drewN hbq nq⟩)
            | (go_roundw
               case rel => exact ⟨k + 1, q + nq, by omega, by go_num, by rw [HT.out, HND.out, HDC.out]; rfl, by rw [HWR.out]; simp [World.drewN, Nat.add_assoc]⟩
               case measure => simp [intOf]; omega)
    · have hke : k = a.size := by omega
      subst hke
      have hE := HND.out
      have hl1 : a.data.toList.length = a.size := by simp
      have hl2 : b.data.toList.length = b.size := by simp
      rw [List.take_of_length_le (by omega), List.take_of_length_le (by have := HAB.out; omega)] at hE
      have HE := hide (show eqP a.data.toList b.data.toList = (knownB a.data.toList && knownB b.data.toList, knownB a.data.toList && knownB b.data.toList) by unfold eqP; rw [hE]; rfl)
      clear hE hl1 hl2
      cases hka : knownB a.data.toList with
      | false =>
        have HK := hide hka
        clear hka
        go_wp2_with fail
        refine (known_any a _ hl).mono ?_
        rw [HK.out]
        rintro e w1 ⟨rfl, b1⟩
        go_wp2_with fail
        refine (known_any a _ hl).mono ?_
        rw [HK.out]
        rintro e w2 ⟨rfl, b2⟩
        go_wp2_with fail
        go_ret2
        exact ⟨by rw [HE.out, HK.out]; rfl, bstep (bstep hbq b1) b2⟩
      | true =>
        have HK := hide hka
        clear hka
        go_wp2_with fail
        refine (known_any a _ hl).mono ?_
        rw [HK.out]
        rintro e w1 ⟨rfl, b1⟩
        go_wp2_with fail
        refine (known_any b _ hlb).mono ?_
        rintro e w2 ⟨rfl, b2⟩
        go_wp2_with fail
        refine (known_any a _ hl).mono ?_
        rw [HK.out]
        rintro e w3 ⟨rfl, b3⟩
        go_wp2_with fail
        refine (known_any b _ hlb).mono ?_
        rintro e w4 ⟨rfl, b4⟩
        go_wp2_with fail
        go_ret2
        exact ⟨by rw [HE.out, HK.out]; rfl, bstep (bstep (bstep (bstep hbq b1) b2) b3) b4⟩

end Go.Proofs.YtdlebcijgdkfjaaGreatDoor

/-
  Plain mathematics of lists of intervals: the set of a list, normal lists, their uniqueness and length, the merging of a sorted list. No program in sight.
-/
namespace Go.Proofs.YtdlebcijgdkfjaaGreatDoor

abbrev Iv := Int × Int

/-- the times of a list -/
def Mem (xs : List Iv) (t : Int) : Prop := 0 ≤ t ∧ t ≤ 1099511627776 ∧ ∃ x ∈ xs, x.1 ≤ t ∧ t ≤ x.2

def Okv (x : Iv) : Prop := 0 ≤ x.1 ∧ x.1 ≤ x.2 ∧ x.2 ≤ 1099511627776
def Norm (xs : List Iv) : Prop := (∀ x ∈ xs, Okv x) ∧ xs.Pairwise fun a b => a.2 + 2 ≤ b.1

theorem Norm.nil : Norm [] := ⟨by simp, List.Pairwise.nil⟩

theorem norm_cons {x : Iv} {xs : List Iv} : Norm (x :: xs) ↔ Okv x ∧ (∀ y ∈ xs, x.2 + 2 ≤ y.1) ∧ Norm xs := by
  unfold Norm
  rw [List.pairwise_cons]
  constructor
  · rintro ⟨h1, h2, h3⟩
    exact ⟨h1 x (by simp), h2, fun y hy => h1 y (by simp [hy]), h3⟩
  · rintro ⟨h1, h2, h3, h4⟩
    refine ⟨fun y hy => ?_, h2, h4⟩
    rcases List.mem_cons.1 hy with rfl | hy
    · exact h1
    · exact h3 y hy

theorem norm_snoc {x : Iv} {xs : List Iv} : Norm (xs ++ [x]) ↔ Norm xs ∧ (∀ y ∈ xs, y.2 + 2 ≤ x.1) ∧ Okv x := by
  unfold Norm
  rw [List.pairwise_append]
  constructor
  · rintro ⟨h1, h2, _, h4⟩
    exact ⟨⟨fun y hy => h1 y (by simp [hy]), h2⟩, fun y hy => h4 y hy x (by simp), h1 x (by simp)⟩
  · rintro ⟨⟨h1, h2⟩, h3, h4⟩
    refine ⟨fun y hy => ?_, h2, by simp, fun y hy z hz => ?_⟩
    · rcases List.mem_append.1 hy with hy | hy
      · exact h1 y hy
      · simp at hy; subst hy; exact h4
    · simp at hz; subst hz; exact h3 y hy

theorem mem_nil (t : Int) : ¬ Mem [] t := by simp [Mem]
theorem mem_cons {x : Iv} {xs : List Iv} {t : Int} : Mem (x :: xs) t ↔ (0 ≤ t ∧ t ≤ 1099511627776 ∧ x.1 ≤ t ∧ t ≤ x.2) ∨ Mem xs t := by
  unfold Mem
  constructor
  · rintro ⟨h1, h2, y, hy, h3⟩
    rcases List.mem_cons.1 hy with rfl | hy
    · exact .inl ⟨h1, h2, h3⟩
    · exact .inr ⟨h1, h2, y, hy, h3⟩
  · rintro (⟨h1, h2, h3⟩ | ⟨h1, h2, y, hy, h3⟩)
    · exact ⟨h1, h2, x, by simp, h3⟩
    · exact ⟨h1, h2, y, by simp [hy], h3⟩
theorem mem_append {xs ys : List Iv} {t : Int} : Mem (xs ++ ys) t ↔ Mem xs t ∨ Mem ys t := by
  induction xs with
  | nil => simp [mem_nil]
  | cons x xs ih => rw [List.cons_append, mem_cons, mem_cons, ih, or_assoc]
theorem mem_one {x : Iv} {t : Int} : Mem [x] t ↔ 0 ≤ t ∧ t ≤ 1099511627776 ∧ x.1 ≤ t ∧ t ≤ x.2 := by
  rw [mem_cons]; simp [mem_nil]
theorem mem_bounds {xs : List Iv} {t : Int} (h : Mem xs t) : 0 ≤ t ∧ t ≤ 1099511627776 := ⟨h.1, h.2.1⟩
theorem mem_perm {xs ys : List Iv} (h : xs.Perm ys) (t : Int) : Mem xs t ↔ Mem ys t := by
  unfold Mem
  constructor
  · rintro ⟨h1, h2, y, hy, h3⟩; exact ⟨h1, h2, y, h.mem_iff.1 hy, h3⟩
  · rintro ⟨h1, h2, y, hy, h3⟩; exact ⟨h1, h2, y, h.mem_iff.2 hy, h3⟩

/-- a normal list is the only one of its set -/
theorem norm_ext {xs ys : List Iv} (hx : Norm xs) (hy : Norm ys) (h : ∀ t, Mem xs t ↔ Mem ys t) : xs = ys := by
  induction xs generalizing ys with
  | nil =>
    cases ys with
    | nil => rfl
    | cons y ys =>
      have hy' := (norm_cons.1 hy).1
      unfold Okv at hy'
      exact absurd ((h y.1).2 (mem_cons.2 (.inl (by omega)))) (mem_nil _)
  | cons x xs ih =>
    cases ys with
    | nil =>
      have hx' := (norm_cons.1 hx).1
      unfold Okv at hx'
      exact absurd ((h x.1).1 (mem_cons.2 (.inl (by omega)))) (mem_nil _)
    | cons y ys =>
      obtain ⟨ox, lx, nx⟩ := norm_cons.1 hx
      obtain ⟨oy, ly, ny⟩ := norm_cons.1 hy
      unfold Okv at ox oy
      have far : ∀ {z : Iv} {zs : List Iv} {t : Int}, (∀ u ∈ zs, z.2 + 2 ≤ u.1) → Mem zs t → z.2 + 2 ≤ t := by
        rintro z zs t hz ⟨_, _, u, hu, h1, _⟩
        have := hz u hu
        omega
      have e1 : x.1 = y.1 := by
        rcases mem_cons.1 ((h x.1).1 (mem_cons.2 (.inl (by omega)))) with h1 | h1
        · rcases mem_cons.1 ((h y.1).2 (mem_cons.2 (.inl (by omega)))) with h2 | h2
          · omega
          · have := far lx h2; omega
        · have h1' := far ly h1
          rcases mem_cons.1 ((h y.1).2 (mem_cons.2 (.inl (by omega)))) with h2 | h2
          · omega
          · have := far lx h2; omega
      have e2 : x.2 = y.2 := by
        rcases Int.lt_trichotomy x.2 y.2 with hlt | heq | hgt
        · rcases mem_cons.1 ((h (x.2 + 1)).2 (mem_cons.2 (.inl (by omega)))) with h1 | h1
          · omega
          · have := far lx h1; omega
        · exact heq
        · rcases mem_cons.1 ((h (y.2 + 1)).1 (mem_cons.2 (.inl (by omega)))) with h1 | h1
          · omega
          · have := far ly h1; omega
      have exy : x = y := Prod.ext e1 e2
      subst exy
      rw [ih nx ny fun t => ?_]
      constructor
      · intro ht
        have := far lx ht
        rcases mem_cons.1 ((h t).1 (mem_cons.2 (.inr ht))) with h1 | h1
        · omega
        · exact h1
      · intro ht
        have := far ly ht
        rcases mem_cons.1 ((h t).2 (mem_cons.2 (.inr ht))) with h1 | h1
        · omega
        · exact h1

theorem norm_len_from {xs : List Iv} (lo : Int) (hlo : lo ≤ 1099511627778) (h : Norm xs) (hl : ∀ x ∈ xs, lo ≤ x.1) : 2 * (xs.length : Int) + lo ≤ 1099511627778 := by
  induction xs generalizing lo with
  | nil => simpa using hlo
  | cons x xs ih =>
    obtain ⟨ox, lx, nx⟩ := norm_cons.1 h
    unfold Okv at ox
    have := hl x (by simp)
    have := ih (x.2 + 2) (by omega) nx lx
    simp only [List.length_cons]
    omega

theorem norm_len {xs : List Iv} (h : Norm xs) : xs.length ≤ 549755813889 := by
  have := norm_len_from (xs := xs) 0 (by omega) h (fun x hx => (h.1 x hx).1)
  omega

/-- one step of the merging of a sorted list -/
def mergeStep (out : List Iv) (x : Iv) : List Iv :=
  match out.getLast? with
  | some z => if x.1 ≤ z.2 + 1 then out.dropLast ++ [(z.1, max z.2 x.2)] else out ++ [x]
  | none => out ++ [x]

def merged (xs : List Iv) : List Iv := xs.foldl mergeStep []

theorem merged_snoc (xs : List Iv) (x : Iv) : merged (xs ++ [x]) = mergeStep (merged xs) x := by simp [merged]

theorem getLast?_snoc_of {out : List Iv} {z : Iv} (h : out.getLast? = some z) : out = out.dropLast ++ [z] := by
  have hne : out ≠ [] := by rintro rfl; simp at h
  rw [List.getLast?_eq_some_getLast hne] at h
  injection h with h
  rw [← h, List.dropLast_concat_getLast hne]

theorem mergeStep_norm {out : List Iv} {x : Iv} (h : Norm out) (hx : Okv x) (hs : ∀ z ∈ out, z.1 ≤ x.1) : Norm (mergeStep out x) ∧ (∀ t, Mem (mergeStep out x) t ↔ Mem out t ∨ Mem [x] t) ∧ ∀ z ∈ mergeStep out x, z.1 ≤ x.1 := by
  unfold mergeStep
  unfold Okv at hx
  cases hl : out.getLast? with
  | none =>
    have : out = [] := by simpa using hl
    subst this
    simp [norm_cons, Norm.nil, mem_nil, Okv, hx]
  | some z =>
    have e := getLast?_snoc_of hl
    generalize out.dropLast = init at e
    subst e
    obtain ⟨ni, li, oz⟩ := norm_snoc.1 h
    have oz' := oz
    unfold Okv at oz'
    have hz := hs z (by simp)
    dsimp only
    split
    · rename_i hle
      refine ⟨norm_snoc.2 ⟨ni, fun y hy => by simpa using li y hy, by unfold Okv; simp only; omega⟩, fun t => ?_, fun y hy => ?_⟩
      · rw [mem_append, mem_append, mem_one, mem_one, mem_one]
        constructor
        · rintro (h1 | h1)
          · exact .inl (.inl h1)
          · simp only at h1
            by_cases h2 : t ≤ z.2
            · exact .inl (.inr (by omega))
            · exact .inr (by omega)
        · rintro ((h1 | h1) | h1)
          · exact .inl h1
          · exact .inr (by simp only; omega)
          · exact .inr (by simp only; omega)
      · rcases List.mem_append.1 hy with hy | hy
        · exact hs y (by simp [hy])
        · simp at hy; subst hy; exact hz
    · rename_i hgt
      refine ⟨norm_snoc.2 ⟨h, fun y hy => ?_, hx⟩, fun t => mem_append, fun y hy => ?_⟩
      · rcases List.mem_append.1 hy with hy | hy
        · have := li y hy; omega
        · simp at hy; subst hy; omega
      · rcases List.mem_append.1 hy with hy | hy
        · exact hs y hy
        · simp at hy; subst hy; exact Int.le_refl _

/-- what the merging of a list that is sorted by its beginnings gives -/
theorem merged_spec (xs : List Iv) (hx : ∀ x ∈ xs, Okv x) (hs : xs.Pairwise fun a b => a.1 ≤ b.1) : Norm (merged xs) ∧ (∀ t, Mem (merged xs) t ↔ Mem xs t) ∧ ∀ u, (∀ y ∈ xs, y.1 ≤ u) → ∀ z ∈ merged xs, z.1 ≤ u := by
  suffices H : ∀ (ys zs : List Iv), (∀ x ∈ ys, Okv x) → ys.Pairwise (fun a b => a.1 ≤ b.1) → Norm zs → (∀ x ∈ ys, ∀ z ∈ zs, z.1 ≤ x.1) →
      Norm (ys.foldl mergeStep zs) ∧ (∀ t, Mem (ys.foldl mergeStep zs) t ↔ Mem zs t ∨ Mem ys t) ∧ ∀ u, (∀ y ∈ ys, y.1 ≤ u) → (∀ z ∈ zs, z.1 ≤ u) → ∀ z ∈ ys.foldl mergeStep zs, z.1 ≤ u by
    obtain ⟨h1, h2, h3⟩ := H xs [] hx hs Norm.nil (by simp)
    exact ⟨h1, fun t => by rw [merged, h2]; simp [mem_nil], fun u hu => h3 u hu (by simp)⟩
  intro ys
  induction ys with
  | nil => intro zs _ _ hz _; exact ⟨hz, by simp [mem_nil], fun u _ h => h⟩
  | cons y ys ih =>
    intro zs ho hp hz hl
    rw [List.pairwise_cons] at hp
    obtain ⟨n1, m1, l1⟩ := mergeStep_norm hz (ho y (by simp)) (hl y (by simp))
    obtain ⟨n2, m2, l2⟩ := ih (mergeStep zs y) (fun x hx => ho x (by simp [hx])) hp.2 n1 (fun x hx z hz' => Int.le_trans (l1 z hz') (hp.1 x hx))
    rw [List.foldl_cons]
    refine ⟨n2, fun t => ?_, fun u hu _ => l2 u (fun y hy => hu y (by simp [hy])) fun z hz' => Int.le_trans (l1 z hz') (hu y (by simp))⟩
    rw [m2, m1, or_assoc, ← mem_append, List.singleton_append]

/-- what a list holds of a range, as Clip cuts it -/
def clipOne (lo hi : Int) (x : Iv) : Iv := (max x.1 lo, min x.2 hi)
def clipped (lo hi : Int) (xs : List Iv) : List Iv := (xs.map (clipOne lo hi)).filter fun x => decide (x.1 ≤ x.2)

theorem clipped_snoc (lo hi : Int) (xs : List Iv) (x : Iv) : clipped lo hi (xs ++ [x]) = clipped lo hi xs ++ if max x.1 lo ≤ min x.2 hi then [clipOne lo hi x] else [] := by
  unfold clipped clipOne
  rw [List.map_append, List.filter_append]
  congr 1
  by_cases h : max x.1 lo ≤ min x.2 hi <;> simp [h]

theorem clipped_len (lo hi : Int) (xs : List Iv) : (clipped lo hi xs).length ≤ xs.length := by
  unfold clipped
  refine Nat.le_trans (List.length_filter_le _ _) (by simp)

theorem clipped_ok (lo hi : Int) (xs : List Iv) (h0 : 0 ≤ lo) (h1 : hi ≤ 1099511627776) : ∀ x ∈ clipped lo hi xs, Okv x := by
  intro x hx
  unfold clipped at hx
  rw [List.mem_filter, List.mem_map] at hx
  obtain ⟨⟨y, _, rfl⟩, h⟩ := hx
  unfold clipOne at h ⊢
  unfold Okv
  simp only [decide_eq_true_eq] at h
  simp only
  omega

theorem clipped_mem (lo hi : Int) (xs : List Iv) (t : Int) : Mem (clipped lo hi xs) t ↔ lo ≤ t ∧ t ≤ hi ∧ Mem xs t := by
  unfold Mem clipped
  constructor
  · rintro ⟨h1, h2, x, hx, h3, h4⟩
    rw [List.mem_filter, List.mem_map] at hx
    obtain ⟨⟨y, hy, rfl⟩, _⟩ := hx
    unfold clipOne at h3 h4
    simp only at h3 h4
    exact ⟨by omega, by omega, h1, h2, y, hy, by omega, by omega⟩
  · rintro ⟨h1, h2, h3, h4, y, hy, h5, h6⟩
    refine ⟨h3, h4, clipOne lo hi y, ?_, by unfold clipOne; simp only; omega, by unfold clipOne; simp only; omega⟩
    rw [List.mem_filter, List.mem_map]
    refine ⟨⟨y, hy, rfl⟩, ?_⟩
    unfold clipOne
    simp only [decide_eq_true_eq]
    omega

end Go.Proofs.YtdlebcijgdkfjaaGreatDoor
