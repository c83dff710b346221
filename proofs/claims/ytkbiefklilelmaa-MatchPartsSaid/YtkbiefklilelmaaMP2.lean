/-
  Several texts in one: Sets, Base, Segs, Ints. Each says at its head what it holds.
-/
import Derived.Below
import Derived.Test.YtkbiefklilelmaaProg
import Derived.Test.YtkbiefklilelmaaMP1
import Derived.WalkKit
import Derived.WalkSpells
import Derived.WalkLawsBesides
import Derived.BigQuiet
import Derived.Deep.QuietTactic
import Derived.LoopTactic
import Derived.RegionTactic
import Derived.Lib.SmallJoins
import Derived.Lib.SlicesCompact
import Derived.Lib.OwnBridge

/-
  Plain mathematics of lists of intervals: the set of a list, normal lists, their uniqueness and length, the merging of a sorted list. No program in sight.
-/
namespace Go.Proofs.Ytkbiefklilelmaa

abbrev Iv := Int × Int

/-- the times of a list -/
def Mem (xs : List Iv) (t : Int) : Prop := 0 ≤ t ∧ t ≤ 1099511627776 ∧ ∃ x ∈ xs, x.1 ≤ t ∧ t ≤ x.2

def Okv (x : Iv) : Prop := 0 ≤ x.1 ∧ x.1 ≤ x.2 ∧ x.2 ≤ 1099511627776
def Norm (xs : List Iv) : Prop := (∀ x ∈ xs, Okv x) ∧ xs.Pairwise fun a b => a.2 + 2 ≤ b.1

theorem Norm.nil : Norm [] := ⟨by simp, List.Pairwise.nil⟩

theorem norm_cons {x : Iv} {xs : List Iv} : Norm (x :: xs) ↔ Okv x ∧ (∀ y ∈ xs, x.2 + 2 ≤ y.1) ∧ Norm xs := by
  unfold Norm
  rw [List.pairwise_cons]
  constructor
  · rintro ⟨h1, h2, h3⟩
    exact ⟨h1 x (by simp), h2, fun y hy => h1 y (by simp [hy]), h3⟩
  · rintro ⟨h1, h2, h3, h4⟩
    refine ⟨fun y hy => ?_, h2, h4⟩
    rcases List.mem_cons.1 hy with rfl | hy
    · exact h1
    · exact h3 y hy

theorem norm_snoc {x : Iv} {xs : List Iv} : Norm (xs ++ [x]) ↔ Norm xs ∧ (∀ y ∈ xs, y.2 + 2 ≤ x.1) ∧ Okv x := by
  unfold Norm
  rw [List.pairwise_append]
  constructor
  · rintro ⟨h1, h2, _, h4⟩
    exact ⟨⟨fun y hy => h1 y (by simp [hy]), h2⟩, fun y hy => h4 y hy x (by simp), h1 x (by simp)⟩
  · rintro ⟨⟨h1, h2⟩, h3, h4⟩
    refine ⟨fun y hy => ?_, h2, by simp, fun y hy z hz => ?_⟩
    · rcases List.mem_append.1 hy with hy | hy
      · exact h1 y hy
      · simp at hy; subst hy; exact h4
    · simp at hz; subst hz; exact h3 y hy

theorem mem_nil (t : Int) : ¬ Mem [] t := by simp [Mem]
theorem mem_cons {x : Iv} {xs : List Iv} {t : Int} : Mem (x :: xs) t ↔ (0 ≤ t ∧ t ≤ 1099511627776 ∧ x.1 ≤ t ∧ t ≤ x.2) ∨ Mem xs t := by
  unfold Mem
  constructor
  · rintro ⟨h1, h2, y, hy, h3⟩
    rcases List.mem_cons.1 hy with rfl | hy
    · exact .inl ⟨h1, h2, h3⟩
    · exact .inr ⟨h1, h2, y, hy, h3⟩
  · rintro (⟨h1, h2, h3⟩ | ⟨h1, h2, y, hy, h3⟩)
    · exact ⟨h1, h2, x, by simp, h3⟩
    · exact ⟨h1, h2, y, by simp [hy], h3⟩
theorem mem_append {xs ys : List Iv} {t : Int} : Mem (xs ++ ys) t ↔ Mem xs t ∨ Mem ys t := by
  induction xs with
  | nil => simp [mem_nil]
  | cons x xs ih => rw [List.cons_append, mem_cons, mem_cons, ih, or_assoc]
theorem mem_one {x : Iv} {t : Int} : Mem [x] t ↔ 0 ≤ t ∧ t ≤ 1099511627776 ∧ x.1 ≤ t ∧ t ≤ x.2 := by
  rw [mem_cons]; simp [mem_nil]
theorem mem_bounds {xs : List Iv} {t : Int} (h : Mem xs t) : 0 ≤ t ∧ t ≤ 1099511627776 := ⟨h.1, h.2.1⟩
theorem mem_perm {xs ys : List Iv} (h : xs.Perm ys) (t : Int) : Mem xs t ↔ Mem ys t := by
  unfold Mem
  constructor
  · rintro ⟨h1, h2, y, hy, h3⟩; exact ⟨h1, h2, y, h.mem_iff.1 hy, h3⟩
  · rintro ⟨h1, h2, y, hy, h3⟩; exact ⟨h1, h2, y, h.mem_iff.2 hy, h3⟩

/-- a normal list is the only one of its set -/
theorem norm_ext {xs ys : List Iv} (hx : Norm xs) (hy : Norm ys) (h : ∀ t, Mem xs t ↔ Mem ys t) : xs = ys := by
  induction xs generalizing ys with
  | nil =>
    cases ys with
    | nil => rfl
    | cons y ys =>
      have hy' := (norm_cons.1 hy).1
      unfold Okv at hy'
      exact absurd ((h y.1).2 (mem_cons.2 (.inl (by omega)))) (mem_nil _)
  | cons x xs ih =>
    cases ys with
    | nil =>
      have hx' := (norm_cons.1 hx).1
      unfold Okv at hx'
      exact absurd ((h x.1).1 (mem_cons.2 (.inl (by omega)))) (mem_nil _)
    | cons y ys =>
      obtain ⟨ox, lx, nx⟩ := norm_cons.1 hx
      obtain ⟨oy, ly, ny⟩ := norm_cons.1 hy
      unfold Okv at ox oy
      have far : ∀ {z : Iv} {zs : List Iv} {t : Int}, (∀ u ∈ zs, z.2 + 2 ≤ u.1) → Mem zs t → z.2 + 2 ≤ t := by
        rintro z zs t hz ⟨_, _, u, hu, h1, _⟩
        have := hz u hu
        omega
      have e1 : x.1 = y.1 := by
        rcases mem_cons.1 ((h x.1).1 (mem_cons.2 (.inl (by omega)))) with h1 | h1
        · rcases mem_cons.1 ((h y.1).2 (mem_cons.2 (.inl (by omega)))) with h2 | h2
          · omega
          · have := far lx h2; omega
        · have h1' := far ly h1
          rcases mem_cons.1 ((h y.1).2 (mem_cons.2 (.inl (by omega)))) with h2 | h2
          · omega
          · have := far lx h2; omega
      have e2 : x.2 = y.2 := by
        rcases Int.lt_trichotomy x.2 y.2 with hlt | heq | hgt
        · rcases mem_cons.1 ((h (x.2 + 1)).2 (mem_cons.2 (.inl (by omega)))) with h1 | h1
          · omega
          · have := far lx h1; omega
        · exact heq
        · rcases mem_cons.1 ((h (y.2 + 1)).1 (mem_cons.2 (.inl (by omega)))) with h1 | h1
          · omega
          · have := far ly h1; omega
      have exy : x = y := Prod.ext e1 e2
      subst exy
      rw [ih nx ny fun t => ?_]
      constructor
      · intro ht
        have := far lx ht
        rcases mem_cons.1 ((h t).1 (mem_cons.2 (.inr ht))) with h1 | h1
        · omega
        · exact h1
      · intro ht
        have := far ly ht
        rcases mem_cons.1 ((h t).2 (mem_cons.2 (.inr ht))) with h1 | h1
        · omega
        · exact h1

theorem norm_len_from {xs : List Iv} (lo : Int) (hlo : lo ≤ 1099511627778) (h : Norm xs) (hl : ∀ x ∈ xs, lo ≤ x.1) : 2 * (xs.length : Int) + lo ≤ 1099511627778 := by
  induction xs generalizing lo with
  | nil => simpa using hlo
  | cons x xs ih =>
    obtain ⟨ox, lx, nx⟩ := norm_cons.1 h
    unfold Okv at ox
    have := hl x (by simp)
    have := ih (x.2 + 2) (by omega) nx lx
    simp only [List.length_cons]
    omega

theorem norm_len {xs : List Iv} (h : Norm xs) : xs.length ≤ 549755813889 := by
  have := norm_len_from (xs := xs) 0 (by omega) h (fun x hx => (h.1 x hx).1)
  omega

/-- one step of the merging of a sorted list -/
def mergeStep (out : List Iv) (x : Iv) : List Iv :=
  match out.getLast? with
  | some z => if x.1 ≤ z.2 + 1 then out.dropLast ++ [(z.1, max z.2 x.2)] else out ++ [x]
  | none => out ++ [x]

def merged (xs : List Iv) : List Iv := xs.foldl mergeStep []

theorem merged_snoc (xs : List Iv) (x : Iv) : merged (xs ++ [x]) = mergeStep (merged xs) x := by simp [merged]

theorem getLast?_snoc_of {out : List Iv} {z : Iv} (h : out.getLast? = some z) : out = out.dropLast ++ [z] := by
  have hne : out ≠ [] := by rintro rfl; simp at h
  rw [List.getLast?_eq_some_getLast hne] at h
  injection h with h
  rw [← h, List.dropLast_concat_getLast hne]

theorem mergeStep_norm {out : List Iv} {x : Iv} (h : Norm out) (hx : Okv x) (hs : ∀ z ∈ out, z.1 ≤ x.1) : Norm (mergeStep out x) ∧ (∀ t, Mem (mergeStep out x) t ↔ Mem out t ∨ Mem [x] t) ∧ ∀ z ∈ mergeStep out x, z.1 ≤ x.1 := by
  unfold mergeStep
  unfold Okv at hx
  cases hl : out.getLast? with
  | none =>
    have : out = [] := by simpa using hl
    subst this
    simp [norm_cons, Norm.nil, mem_nil, Okv, hx]
  | some z =>
    have e := getLast?_snoc_of hl
    generalize out.dropLast = init at e
    subst e
    obtain ⟨ni, li, oz⟩ := norm_snoc.1 h
    have oz' := oz
    unfold Okv at oz'
    have hz := hs z (by simp)
    dsimp only
    split
    · rename_i hle
      refine ⟨norm_snoc.2 ⟨ni, fun y hy => by simpa using li y hy, by unfold Okv; simp only; omega⟩, fun t => ?_, fun y hy => ?_⟩
      · rw [mem_append, mem_append, mem_one, mem_one, mem_one]
        constructor
        · rintro (h1 | h1)
          · exact .inl (.inl h1)
          · simp only at h1
            by_cases h2 : t ≤ z.2
            · exact .inl (.inr (by omega))
            · exact .inr (by omega)
        · rintro ((h1 | h1) | h1)
          · exact .inl h1
          · exact .inr (by simp only; omega)
          · exact .inr (by simp only; omega)
      · rcases List.mem_append.1 hy with hy | hy
        · exact hs y (by simp [hy])
        · simp at hy; subst hy; exact hz
    · rename_i hgt
      refine ⟨norm_snoc.2 ⟨h, fun y hy => ?_, hx⟩, fun t => mem_append, fun y hy => ?_⟩
      · rcases List.mem_append.1 hy with hy | hy
        · have := li y hy; omega
        · simp at hy; subst hy; omega
      · rcases List.mem_append.1 hy with hy | hy
        · exact hs y hy
        · simp at hy; subst hy; exact Int.le_refl _

/-- what the merging of a list that is sorted by its beginnings gives -/
theorem merged_spec (xs : List Iv) (hx : ∀ x ∈ xs, Okv x) (hs : xs.Pairwise fun a b => a.1 ≤ b.1) : Norm (merged xs) ∧ (∀ t, Mem (merged xs) t ↔ Mem xs t) ∧ ∀ u, (∀ y ∈ xs, y.1 ≤ u) → ∀ z ∈ merged xs, z.1 ≤ u := by
  suffices H : ∀ (ys zs : List Iv), (∀ x ∈ ys, Okv x) → ys.Pairwise (fun a b => a.1 ≤ b.1) → Norm zs → (∀ x ∈ ys, ∀ z ∈ zs, z.1 ≤ x.1) →
      Norm (ys.foldl mergeStep zs) ∧ (∀ t, Mem (ys.foldl mergeStep zs) t ↔ Mem zs t ∨ Mem ys t) ∧ ∀ u, (∀ y ∈ ys, y.1 ≤ u) → (∀ z ∈ zs, z.1 ≤ u) → ∀ z ∈ ys.foldl mergeStep zs, z.1 ≤ u by
    obtain ⟨h1, h2, h3⟩ := H xs [] hx hs Norm.nil (by simp)
    exact ⟨h1, fun t => by rw [merged, h2]; simp [mem_nil], fun u hu => h3 u hu (by simp)⟩
  intro ys
  induction ys with
  | nil => intro zs _ _ hz _; exact ⟨hz, by simp [mem_nil], fun u _ h => h⟩
  | cons y ys ih =>
    intro zs ho hp hz hl
    rw [List.pairwise_cons] at hp
    obtain ⟨n1, m1, l1⟩ := mergeStep_norm hz (ho y (by simp)) (hl y (by simp))
    obtain ⟨n2, m2, l2⟩ := ih (mergeStep zs y) (fun x hx => ho x (by simp [hx])) hp.2 n1 (fun x hx z hz' => Int.le_trans (l1 z hz') (hp.1 x hx))
    rw [List.foldl_cons]
    refine ⟨n2, fun t => ?_, fun u hu _ => l2 u (fun y hy => hu y (by simp [hy])) fun z hz' => Int.le_trans (l1 z hz') (hu y (by simp))⟩
    rw [m2, m1, or_assoc, ← mem_append, List.singleton_append]

theorem merged_len (xs : List Iv) : (merged xs).length ≤ xs.length := by
  suffices H : ∀ (ys zs : List Iv), (ys.foldl mergeStep zs).length ≤ zs.length + ys.length by simpa [merged] using H xs []
  intro ys
  induction ys with
  | nil => intro zs; simp
  | cons y ys ih =>
    intro zs
    have h1 : (mergeStep zs y).length ≤ zs.length + 1 := by
      unfold mergeStep
      split
      · split
        · simp
        · simp
      · simp
    have := ih (mergeStep zs y)
    rw [List.foldl_cons]
    simp only [List.length_cons]
    omega

/-- what a list holds of a range, as Clip cuts it -/
def clipOne (lo hi : Int) (x : Iv) : Iv := (max x.1 lo, min x.2 hi)
def clipped (lo hi : Int) (xs : List Iv) : List Iv := (xs.map (clipOne lo hi)).filter fun x => decide (x.1 ≤ x.2)

theorem clipped_snoc (lo hi : Int) (xs : List Iv) (x : Iv) : clipped lo hi (xs ++ [x]) = clipped lo hi xs ++ if max x.1 lo ≤ min x.2 hi then [clipOne lo hi x] else [] := by
  unfold clipped clipOne
  rw [List.map_append, List.filter_append]
  congr 1
  by_cases h : max x.1 lo ≤ min x.2 hi <;> simp [h]

theorem clipped_len (lo hi : Int) (xs : List Iv) : (clipped lo hi xs).length ≤ xs.length := by
  unfold clipped
  refine Nat.le_trans (List.length_filter_le _ _) (by simp)

theorem clipped_ok (lo hi : Int) (xs : List Iv) (h0 : 0 ≤ lo) (h1 : hi ≤ 1099511627776) : ∀ x ∈ clipped lo hi xs, Okv x := by
  intro x hx
  unfold clipped at hx
  rw [List.mem_filter, List.mem_map] at hx
  obtain ⟨⟨y, _, rfl⟩, h⟩ := hx
  unfold clipOne at h ⊢
  unfold Okv
  simp only [decide_eq_true_eq] at h
  simp only
  omega

theorem clipped_mem (lo hi : Int) (xs : List Iv) (t : Int) : Mem (clipped lo hi xs) t ↔ lo ≤ t ∧ t ≤ hi ∧ Mem xs t := by
  unfold Mem clipped
  constructor
  · rintro ⟨h1, h2, x, hx, h3, h4⟩
    rw [List.mem_filter, List.mem_map] at hx
    obtain ⟨⟨y, hy, rfl⟩, _⟩ := hx
    unfold clipOne at h3 h4
    simp only at h3 h4
    exact ⟨by omega, by omega, h1, h2, y, hy, by omega, by omega⟩
  · rintro ⟨h1, h2, h3, h4, y, hy, h5, h6⟩
    refine ⟨h3, h4, clipOne lo hi y, ?_, by unfold clipOne; simp only; omega, by unfold clipOne; simp only; omega⟩
    rw [List.mem_filter, List.mem_map]
    refine ⟨⟨y, hy, rfl⟩, ?_⟩
    unfold clipOne
    simp only [decide_eq_true_eq]
    omega

end Go.Proofs.Ytkbiefklilelmaa

/-
  Words for slices of intervals in memory, over the program's translation; nothing about the program's functions yet.
-/
namespace Go.Proofs.Ytkbiefklilelmaa
open Go.RowKit

def encIv (x : Iv) : List Value := [.int .i64 x.1, .int .i64 x.2]
def encIvs (xs : List Iv) : List Value := xs.flatMap encIv
theorem encIvs_length (xs : List Iv) : (encIvs xs).length = xs.length * 2 := by
  unfold encIvs
  induction xs with
  | nil => rfl
  | cons x xs ih => simp only [List.flatMap_cons, List.length_append, List.length_cons, ih, encIv]; simp; omega
theorem encIvs_snoc (xs : List Iv) (x : Iv) : encIvs (xs ++ [x]) = encIvs xs ++ [.int .i64 x.1, .int .i64 x.2] := by simp [encIvs, encIv]

/-- the slice at A (of as many elements as xs has) holds xs, below block B -/
def IvsAt (w : World) (B : Nat) (A : Option Addr) (xs : List Iv) : Prop :=
  xs ≠ [] → ∃ b off, A = some ⟨b, off, none⟩ ∧ b < B ∧ ∀ i x, xs[i]? = some x →
    w.cell? ⟨b, off + i * 2, none⟩ = some (.int .i64 x.1) ∧ w.cell? ⟨b, off + i * 2 + 1, none⟩ = some (.int .i64 x.2)

section
variable {w w' : World} {B B' : Nat} {A : Option Addr} {xs : List Iv}

theorem IvsAt.nil : IvsAt w B A [] := fun h => absurd rfl h

theorem IvsAt.keep (h : IvsAt w B A xs) (hk : ∀ p : Addr, p.block < B → w'.cell? p = w.cell? p) : IvsAt w' B A xs := fun hx => by
  obtain ⟨b, off, e, hb, hc⟩ := h hx
  exact ⟨b, off, e, hb, fun i x hi => ⟨(hk _ hb).trans (hc i x hi).1, (hk _ hb).trans (hc i x hi).2⟩⟩

theorem IvsAt.below (h : IvsAt w B A xs) (hb : Below B w w') : IvsAt w' B A xs := h.keep fun _ hp => hb.cell hp

theorem IvsAt.more (h : IvsAt w B A xs) (hB : B ≤ B') : IvsAt w B' A xs := fun hx => by
  obtain ⟨b, off, e, hb, hc⟩ := h hx
  exact ⟨b, off, e, by omega, hc⟩

theorem IvsAt.at_ (h : IvsAt w B A xs) {k : Nat} (hk : k < xs.length) : ∃ b off, A = some ⟨b, off, none⟩ ∧ b < B ∧
    w.cell? ⟨b, off + k * 2, none⟩ = some (.int .i64 xs[k].1) ∧ w.cell? ⟨b, off + k * 2 + 1, none⟩ = some (.int .i64 xs[k].2) := by
  obtain ⟨b, off, e, hb, hc⟩ := h (fun e => by subst e; simp at hk)
  have := hc k xs[k] (List.getElem?_eq_getElem hk)
  exact ⟨b, off, e, hb, this.1, this.2⟩
end

/-- a slice of intervals that the call itself has made: it owns its row, from block 'base' on -/
def OwnIv (w : World) (base : Nat) (A : Option Addr) (c : Nat) (xs : List Iv) : Prop := w.ownsRow base 42 2 (.slice A xs.length c) xs.length (encIvs xs)

theorem infoIv : (Try.prog.info? 42).map (fun i => (i.zero, i.size, i.bytes)) = some (some (.agg #[.int .i64 0, .int .i64 0]), 2, 16) := by kernel_rfl
theorem infoInt : (Try.prog.info? 3).map (fun i => (i.zero, i.size, i.bytes)) = some (some (.int .i64 0), 1, 8) := by kernel_rfl

theorem encIvs_at {xs : List Iv} {i : Nat} {x : Iv} (h : xs[i]? = some x) : (encIvs xs)[i * 2]? = some (.int .i64 x.1) ∧ (encIvs xs)[i * 2 + 1]? = some (.int .i64 x.2) := by
  induction xs generalizing i with
  | nil => simp at h
  | cons y ys ih =>
    cases i with
    | zero => simp at h; subst h; simp [encIvs, encIv]
    | succ i =>
      have := ih (i := i) (by simpa using h)
      have e1 : (i + 1) * 2 = i * 2 + 2 := by omega
      rw [e1]
      simpa [encIvs, encIv] using this

section
variable {w w' : World} {base base' : Nat} {A : Option Addr} {c : Nat} {xs : List Iv}
theorem OwnIv.nil (w : World) (base : Nat) : OwnIv w base none 0 [] := World.ownsRow_nil w base _ 2
theorem OwnIv.lower (h : OwnIv w base A c xs) (hb : base' ≤ base) : OwnIv w base' A c xs := Joins.ownsRow_le h hb
theorem OwnIv.alloc (h : OwnIv w base A c xs) (o : Obj) : OwnIv (w.alloc o) base A c xs := World.ownsRow.alloc h o
theorem OwnIv.below {B : Nat} (h : OwnIv w base A c xs) (hb : Below B w w') (hB : w.heap.size ≤ B) : OwnIv w' base A c xs := by
  refine ⟨h.1, ?_⟩
  rcases h.2 with h2 | ⟨g, cap, cur, h2, h3, h4, h5⟩
  · exact .inl h2
  · exact .inr ⟨g, cap, cur, h2, h3, (hb.block g (by have := (Array.getElem?_eq_some_iff.1 h4).1; omega)).trans h4, h5⟩
theorem OwnIv.form (h : OwnIv w base A c xs) : (A = none ∧ c = 0 ∧ xs = []) ∨ ∃ g, A = some ⟨g, 0, none⟩ ∧ base ≤ g ∧ g < w.heap.size ∧ xs.length ≤ c ∧ c ≤ maxLen := by
  rcases h.2 with ⟨h1, h2⟩ | ⟨g, cap, cur, h1, h2, h3, h4, h5, _⟩
  · injection h1 with h1 _ h3
    exact .inl ⟨h1, h3, List.eq_nil_of_length_eq_zero h2⟩
  · injection h1 with h1 _ h1'
    subst h1 h1'
    exact .inr ⟨g, rfl, h2, (Array.getElem?_eq_some_iff.1 h3).1, h4, h5⟩
theorem OwnIv.block (h : OwnIv w base A c xs) : ∀ k, (Value.slice A xs.length c).ownBlock = some k → base ≤ k := fun k hk => (World.ownsRow.lt h k hk).1
theorem OwnIv.ats (h : OwnIv w base A c xs) : IvsAt w w.heap.size A xs := fun hx => by
  rcases h.form with ⟨_, _, h3⟩ | ⟨g, rfl, _, h2, _, _⟩
  · exact absurd h3 hx
  · refine ⟨g, 0, rfl, h2, fun i x hi => ?_⟩
    have hlt : i < xs.length := (List.getElem?_eq_some_iff.1 hi).1
    obtain ⟨e1, e2⟩ := encIvs_at hi
    exact ⟨by rw [Nat.zero_add, World.ownsRow.cellAt h _ (by omega), e1], by rw [Nat.zero_add, World.ownsRow.cellAt h _ (by omega), e2]⟩
theorem OwnIv.lt_size (h : OwnIv w base A c xs) (hx : xs ≠ []) : base < w.heap.size := by
  rcases h.form with ⟨_, _, h3⟩ | ⟨g, rfl, h1, h2, _⟩
  · exact absurd h3 hx
  · omega
theorem OwnIv.of_row {v : Value} {n : Nat} {vs : List Value} (h : w.ownsRow base 42 2 v n vs) (hn : n = xs.length) (hv : vs = encIvs xs) : ∃ A c, v = .slice A xs.length c ∧ OwnIv w base A c xs := by
  subst hn hv
  rcases Joins.ownsRow_forms h with ⟨rfl, h0⟩ | ⟨g, cap, rfl⟩
  · exact ⟨none, 0, by rw [h0], by unfold OwnIv; rw [h0] at h ⊢; exact h⟩
  · exact ⟨_, cap, rfl, h⟩
end

theorem OwnIv.drewN {w : World} {base : Nat} {A : Option Addr} {c : Nat} {xs : List Iv} (h : OwnIv w base A c xs) (n : Nat) : OwnIv (w.drewN n) base A c xs := h
theorem OwnIv.drew {w : World} {base : Nat} {A : Option Addr} {c : Nat} {xs : List Iv} (h : OwnIv w base A c xs) : OwnIv w.drew base A c xs := h
theorem IvsAt.drewN {w : World} {B : Nat} {A : Option Addr} {xs : List Iv} (h : IvsAt w B A xs) (n : Nat) : IvsAt (w.drewN n) B A xs := h
theorem own_push {w wp : World} {base : Nat} {e : TypeId} {size : Nat} {v : Value} {n : Nat} {xs : List Value} {o : Obj} (h : wp.ownsRow base e size v n xs) (hw : w.heap = wp.heap.push o) : w.ownsRow base e size v n xs := by
  refine ⟨h.1, ?_⟩
  rcases h.2 with h2 | ⟨g, cap, cur, h2, h3, h4, h5⟩
  · exact .inl h2
  · refine .inr ⟨g, cap, cur, h2, h3, ?_, h5⟩
    rw [hw, Array.getElem?_push, if_neg (by have := (Array.getElem?_eq_some_iff.1 h4).1; omega)]
    exact h4
theorem cells_push {w wp : World} {cs : Array Value} {t : TypeId} (hw : w.heap = wp.heap.push (.cells cs t)) (j : Nat) : w.cell? ((⟨wp.heap.size, 0, none⟩ : Addr).add j) = cs[j]? := by
  have e : (⟨wp.heap.size, 0, none⟩ : Addr).add j = ⟨wp.heap.size, j, none⟩ := by unfold Addr.add; split <;> simp_all
  rw [e, cell_of_row w wp.heap.size j cs t (0, 0) (by rw [hw]; simp)]

/-- 'append(out, x)' of one interval, laid into a block just before -/
theorem append_iv {ops : Array Oper} {rest : List Oper} {o : Oper} {a : Act} {Q : Exit → Act → World → Prop} {w : World} (hgd : o.guard = none) (s x : Operand)
    (ho : o.op = .call { callee := .builtin .append, args := #[s, x], argTypes := #[22, 22] })
    (base : Nat) (A : Option Addr) (c : Nat) (xs : List Iv) (n : Nat) (hs : a.eval s = .slice A n c) (hn : n = xs.length) (p q : Int)
    (N : Nat) (hx : a.eval x = .slice (some ⟨N, 0, none⟩) 1 1) (wp : World) (hw : w.heap = wp.heap.push (.cells #[.int .i64 p, .int .i64 q] 42)) (hN : N = wp.heap.size)
    (hown : OwnIv wp base A c xs) (hlen : xs.length ≤ 4398046511104) (hbase : base ≤ wp.heap.size)
    (h : ∀ (g c' : Nat) (w' : World) (row : Option Nat), OwnIv w' base (some ⟨g, 0, none⟩) c' (xs ++ [(p, q)]) → base ≤ g → w.grownBy w' row → (∀ k, row = some k → base ≤ k) →
      wpList Try.prog ops Q rest (a.put o.dst (.slice (some ⟨g, 0, none⟩) (n + 1) c')) w') :
    wpList Try.prog ops Q (o :: rest) a w := by
  subst hn hN
  obtain ⟨i0, hi0, hz0, hz1, hz2⟩ := info_parts infoIv
  refine wpList_append_own _ hgd s x 22 ho base 42 i0 _ 2 16 Try.underlying22 hi0 hz0 hz1 hz2 rfl (by decide) _ xs.length (encIvs xs) hs (own_push hown hw)
    ⟨wp.heap.size, 0, none⟩ 1 1 [.int .i64 p, .int .i64 q] hx rfl (fun j u hu => by rw [cells_push hw]; simpa using hu) (by simp [Value.oneCell']) (by simp only [maxLen]; omega) (by omega) (by rw [hw]; simp; omega) ?_
  intro v' w' ho' hg _
  obtain ⟨A', c', rfl, ho''⟩ := OwnIv.of_row (xs := xs ++ [(p, q)]) ho' (by simp) (by rw [encIvs_snoc])
  rcases ho''.form with ⟨_, _, h3⟩ | ⟨g, rfl, h1, _⟩
  · simp at h3
  · have := h g c' w' _ ho'' h1 hg hown.block
    simpa using this

theorem OwnIv.last {w : World} {base : Nat} {A : Option Addr} {c : Nat} {init : List Iv} {z : Iv} (h : OwnIv w base A c (init ++ [z])) :
    ∃ g, A = some ⟨g, 0, none⟩ ∧ base ≤ g ∧ g < w.heap.size ∧ w.cell? ⟨g, init.length * 2, none⟩ = some (.int .i64 z.1) ∧ w.cell? ⟨g, init.length * 2 + 1, none⟩ = some (.int .i64 z.2) ∧ w.frozen? ⟨g, init.length * 2 + 1, none⟩ = false := by
  rcases h.form with ⟨_, _, h3⟩ | ⟨g, rfl, h1, h2, _, _⟩
  · simp at h3
  · obtain ⟨e1, e2⟩ := encIvs_at (xs := init ++ [z]) (i := init.length) (x := z) (by simp)
    exact ⟨g, rfl, h1, h2, by rw [World.ownsRow.cellAt h _ (by simp), e1], by rw [World.ownsRow.cellAt h _ (by simp; omega), e2], World.ownsRow.frozenAt h _⟩

theorem box_cell {w : World} {N : Nat} {v : Value} {t : TypeId} (h : w.heap[N]? = some (.cells #[v] t (0, 0))) : w.cell? ⟨N, 0, none⟩ = some v := by
  rw [cell_of_row w N 0 _ t (0, 0) h]; rfl
theorem box_frozen {w : World} {N : Nat} {v : Value} {t : TypeId} (h : w.heap[N]? = some (.cells #[v] t (0, 0))) : w.frozen? ⟨N, 0, none⟩ = false := by
  simp [World.frozen?, h]
theorem box_set1 {w : World} {N : Nat} {v u : Value} {t : TypeId} (h : w.heap[N]? = some (.cells #[v] t (0, 0))) : (w.setCell ⟨N, 0, none⟩ u).heap[N]? = some (.cells #[u] t (0, 0)) := by
  simp [World.setCell, Array.getElem?_modify, h]
theorem box_grownB {w w' : World} {N base : Nat} {o : Obj} {row : Option Nat} (h : w.heap[N]? = some o) (hg : w.grownBy w' row) (hr : ∀ k, row = some k → base ≤ k) (hN : N < base) : w'.heap[N]? = some o :=
  (hg.block N (box_lt h) (fun e => by have := hr N e.symm; omega)).trans h

theorem encIvs_set_last (init : List Iv) (p q r : Int) : (encIvs (init ++ [(p, q)])).set (init.length * 2 + 1) (.int .i64 r) = encIvs (init ++ [(p, r)]) := by
  rw [encIvs_snoc, encIvs_snoc, ← encIvs_length, List.set_append_right _ _ (by omega)]
  simp
theorem OwnIv.set_last {w : World} {base g c : Nat} {init : List Iv} {z : Iv} (h : OwnIv w base (some ⟨g, 0, none⟩) c (init ++ [z])) (r : Int) :
    OwnIv (w.setCell ⟨g, init.length * 2 + 1, none⟩ (.int .i64 r)) base (some ⟨g, 0, none⟩) c (init ++ [(z.1, r)]) := by
  have := (World.ownsRow.stored h (init.length * 2 + 1) (.int .i64 r)).1
  rw [encIvs_set_last init z.1 z.2 r] at this
  unfold OwnIv
  simpa using this

theorem IvsAt.step {w w' : World} {A : Option Addr} {xs : List Iv} (h : IvsAt w w.heap.size A xs) (hb : Below w.heap.size w w') : IvsAt w' w'.heap.size A xs := (h.below hb).more hb.size
theorem IvsAt.alloc {w : World} {A : Option Addr} {xs : List Iv} (h : IvsAt w w.heap.size A xs) (o : Obj) : IvsAt (w.alloc o) (w.alloc o).heap.size A xs := h.step ((Below.refl _ _).alloc (Nat.le_refl _) _)
/-- what a function returns that makes the normal list of the set S, in memory of its own -/
def RetIvs (w : World) (S : Int → Prop) (e : Ending) (w' : World) : Prop :=
  ∃ (A : Option Addr) (c : Nat) (ys : List Iv), e = .returned (.slice A ys.length c) ∧ OwnIv w' w.heap.size A c ys ∧ Below w.heap.size w w' ∧ Norm ys ∧ ∀ t, Mem ys t ↔ S t

end Go.Proofs.Ytkbiefklilelmaa

/-
  Plain mathematics of the combination of two normal lists by their cuts; sorted numbers without repetitions. No program in sight.
-/
namespace Go.Proofs.Ytkbiefklilelmaa

/-- membership as a test -/
def memB (xs : List Iv) (t : Int) : Bool := xs.any fun x => decide (x.1 ≤ t ∧ t ≤ x.2)
theorem memB_iff {xs : List Iv} {t : Int} : memB xs t = true ↔ ∃ x ∈ xs, x.1 ≤ t ∧ t ≤ x.2 := by simp [memB]
theorem memB_norm {xs : List Iv} (h : Norm xs) (t : Int) : memB xs t = true ↔ Mem xs t := by
  rw [memB_iff]
  constructor
  · rintro ⟨x, hx, h1, h2⟩
    have := h.1 x hx
    unfold Okv at this
    exact ⟨by omega, by omega, x, hx, h1, h2⟩
  · rintro ⟨_, _, x, hx, h1, h2⟩
    exact ⟨x, hx, h1, h2⟩

/-- membership in the set of whatever list, as a test -/
def memT (xs : List Iv) (t : Int) : Bool := decide (0 ≤ t ∧ t ≤ 1099511627776) && memB xs t
theorem memT_iff {xs : List Iv} {t : Int} : memT xs t = true ↔ Mem xs t := by
  unfold memT
  rw [Bool.and_eq_true, memB_iff, decide_eq_true_eq]
  exact ⟨fun ⟨⟨h1, h2⟩, h3⟩ => ⟨h1, h2, h3⟩, fun ⟨h1, h2, h3⟩ => ⟨⟨h1, h2⟩, h3⟩⟩
theorem memB_eq_memT {xs ys : List Iv} (h : Norm ys) (hm : ∀ t, Mem ys t ↔ Mem xs t) (t : Int) : memB ys t = memT xs t := by
  rw [Bool.eq_iff_iff, memB_norm h, hm, memT_iff]

/-- the cuts of a list -/
def cutsOf (xs : List Iv) : List Int := xs.flatMap fun x => [x.1, x.2 + 1]
theorem mem_cutsOf {xs : List Iv} {v : Int} : v ∈ cutsOf xs ↔ ∃ x ∈ xs, v = x.1 ∨ v = x.2 + 1 := by simp [cutsOf]
theorem cutsOf_length (xs : List Iv) : (cutsOf xs).length = 2 * xs.length := by
  unfold cutsOf
  induction xs with
  | nil => rfl
  | cons x xs ih => rw [List.flatMap_cons, List.length_append, ih]; simp; omega
theorem cutsOf_snoc (xs : List Iv) (x : Iv) : cutsOf (xs ++ [x]) = cutsOf xs ++ [x.1, x.2 + 1] := by simp [cutsOf]
theorem cutsOf_append (xs ys : List Iv) : cutsOf (xs ++ ys) = cutsOf xs ++ cutsOf ys := by simp [cutsOf]

/-- between two cuts membership does not change -/
theorem memB_const {xs : List Iv} {p t : Int} (hpt : p ≤ t) (h : ∀ v ∈ cutsOf xs, v ≤ p ∨ t < v) : memB xs t = memB xs p := by
  rw [Bool.eq_iff_iff, memB_iff, memB_iff]
  constructor
  · rintro ⟨x, hx, h1, h2⟩
    have := h x.1 (mem_cutsOf.2 ⟨x, hx, .inl rfl⟩)
    exact ⟨x, hx, by omega, by omega⟩
  · rintro ⟨x, hx, h1, h2⟩
    have := h (x.2 + 1) (mem_cutsOf.2 ⟨x, hx, .inr rfl⟩)
    exact ⟨x, hx, by omega, by omega⟩

/-- the index where the search in a normal list stands -/
theorem memB_at {xs : List Iv} (hn : Norm xs) {i : Nat} {t : Int} (hlo : ∀ j (hj : j < xs.length), j < i → xs[j].2 < t) (hhi : ∀ (h : i < xs.length), t ≤ xs[i].2) :
    memB xs t = true ↔ ∃ h : i < xs.length, xs[i].1 ≤ t := by
  rw [memB_iff]
  constructor
  · rintro ⟨x, hx, h1, h2⟩
    obtain ⟨j, hj, rfl⟩ := List.getElem_of_mem hx
    have hij : i ≤ j := by
      rcases Nat.lt_or_ge j i with h | h
      · have := hlo j hj h; omega
      · exact h
    have hi : i < xs.length := by omega
    refine ⟨hi, ?_⟩
    rcases Nat.lt_or_ge i j with h | h
    · have := List.pairwise_iff_getElem.1 hn.2 i j hi hj h
      have := hhi hi
      omega
    · have : i = j := by omega
      subst this
      exact h1
  · rintro ⟨hi, h⟩
    exact ⟨xs[i], List.getElem_mem _, h, hhi hi⟩

/-- strictly increasing numbers: the place of a number between two of them -/
theorem place_of {ps : List Int} {t : Int} (i j : Nat) (hj : j < ps.length) (hi : ps.getD i 0 ≤ t) (hj' : t < ps.getD j 0) (hij : i < j) : ∃ m, m + 1 < ps.length ∧ ps.getD m 0 ≤ t ∧ t < ps.getD (m + 1) 0 := by
  obtain ⟨d, rfl⟩ : ∃ d, j = i + 1 + d := ⟨j - (i + 1), by omega⟩
  induction d with
  | zero => exact ⟨i, hj, hi, hj'⟩
  | succ d ih =>
    rcases Int.lt_or_le t (ps.getD (i + 1 + d) 0) with h | h
    · exact ih (by omega) h (by omega)
    · exact ⟨i + 1 + d, by omega, h, hj'⟩

/-- the parts between the first n + 1 cuts in which the rule holds -/
def segs (rule : Bool → Bool → Bool) (a b : List Iv) (ps : List Int) (n : Nat) : List Iv :=
  ((List.range n).filter fun m => rule (memB a (ps.getD m 0)) (memB b (ps.getD m 0))).map fun m => (ps.getD m 0, ps.getD (m + 1) 0 - 1)

theorem segs_succ (rule : Bool → Bool → Bool) (a b : List Iv) (ps : List Int) (n : Nat) :
    segs rule a b ps (n + 1) = segs rule a b ps n ++ if rule (memB a (ps.getD n 0)) (memB b (ps.getD n 0)) then [(ps.getD n 0, ps.getD (n + 1) 0 - 1)] else [] := by
  unfold segs
  rw [List.range_succ, List.filter_append, List.map_append]
  congr 1
  by_cases h : rule (memB a (ps.getD n 0)) (memB b (ps.getD n 0)) = true
  · simp only [List.filter_cons, List.filter_nil]
    rw [if_pos h, if_pos h]; rfl
  · simp only [List.filter_cons, List.filter_nil]
    rw [if_neg h, if_neg h]; rfl

theorem segs_len (rule : Bool → Bool → Bool) (a b : List Iv) (ps : List Int) (n : Nat) : (segs rule a b ps n).length ≤ n := by
  unfold segs
  rw [List.length_map]
  exact Nat.le_trans (List.length_filter_le _ _) (by simp)

theorem getD_mono {ps : List Int} (h : ps.Pairwise (· < ·)) {i j : Nat} (hij : i < j) (hj : j < ps.length) : ps.getD i 0 < ps.getD j 0 := by
  have := List.pairwise_iff_getElem.1 h i j (by omega) hj hij
  simpa [List.getD_eq_getElem?_getD, List.getElem?_eq_getElem hj, List.getElem?_eq_getElem (show i < ps.length by omega)] using this

theorem getD_of_mem {ps : List Int} {v : Int} (h : v ∈ ps) : ∃ i, i < ps.length ∧ ps.getD i 0 = v := by
  obtain ⟨i, hi, rfl⟩ := List.getElem_of_mem h
  exact ⟨i, hi, by simp [List.getD_eq_getElem?_getD, List.getElem?_eq_getElem hi]⟩

theorem segs_mem (rule : Bool → Bool → Bool) (hr : rule false false = false) {a b : List Iv} (ha : Norm a) (hb : Norm b) {ps : List Int} (hp : ps.Pairwise (· < ·)) (hc : ∀ v, v ∈ ps ↔ v ∈ cutsOf (a ++ b)) (t : Int) :
    Mem (segs rule a b ps (ps.length - 1)) t ↔ rule (memB a t) (memB b t) = true := by
  have hconst : ∀ m, m + 1 < ps.length → ps.getD m 0 ≤ t → t < ps.getD (m + 1) 0 → memB a t = memB a (ps.getD m 0) ∧ memB b t = memB b (ps.getD m 0) := by
    intro m hm h1 h2
    have key : ∀ v ∈ cutsOf (a ++ b), v ≤ ps.getD m 0 ∨ t < v := by
      intro v hv
      obtain ⟨i, hi, rfl⟩ := getD_of_mem ((hc v).2 hv)
      rcases Nat.lt_trichotomy i m with h | h | h
      · exact .inl (Int.le_of_lt (getD_mono hp h (by omega)))
      · subst h; exact .inl (Int.le_refl _)
      · right
        rcases Nat.lt_or_ge (m + 1) i with h' | h'
        · exact Int.lt_trans h2 (getD_mono hp h' hi)
        · have : i = m + 1 := by omega
          subst this; exact h2
    rw [cutsOf_append] at key
    exact ⟨memB_const h1 fun v hv => key v (by simp [hv]), memB_const h1 fun v hv => key v (by simp [hv])⟩
  constructor
  · rintro ⟨_, _, x, hx, h1, h2⟩
    unfold segs at hx
    rw [List.mem_map] at hx
    obtain ⟨m, hm, rfl⟩ := hx
    rw [List.mem_filter, List.mem_range] at hm
    dsimp only at h1 h2
    obtain ⟨e1, e2⟩ := hconst m (by omega) h1 (by omega)
    rw [e1, e2]
    exact hm.2
  · intro h
    have hex : ∃ x ∈ a ++ b, x.1 ≤ t ∧ t ≤ x.2 := by
      by_cases h1 : memB a t = true
      · obtain ⟨x, hx, h2⟩ := memB_iff.1 h1
        exact ⟨x, by simp [hx], h2⟩
      · by_cases h3 : memB b t = true
        · obtain ⟨x, hx, h2⟩ := memB_iff.1 h3
          exact ⟨x, by simp [hx], h2⟩
        · simp only [Bool.not_eq_true] at h1 h3
          rw [h1, h3, hr] at h
          cases h
    obtain ⟨x, hx, h1, h2⟩ := hex
    have hox : Okv x := by
      rcases List.mem_append.1 hx with hx | hx
      · exact ha.1 x hx
      · exact hb.1 x hx
    unfold Okv at hox
    obtain ⟨i, hi, ei⟩ := getD_of_mem ((hc x.1).2 (mem_cutsOf.2 ⟨x, hx, .inl rfl⟩))
    obtain ⟨j, hj, ej⟩ := getD_of_mem ((hc (x.2 + 1)).2 (mem_cutsOf.2 ⟨x, hx, .inr rfl⟩))
    have hij : i < j := by
      rcases Nat.lt_trichotomy i j with h' | h' | h'
      · exact h'
      · rw [h'] at ei; omega
      · have := getD_mono hp h' hi; rw [ei, ej] at this; omega
    obtain ⟨m, hm, h3, h4⟩ := place_of (ps := ps) (t := t) i j hj (by omega) (by omega) hij
    obtain ⟨e1, e2⟩ := hconst m hm h3 h4
    refine ⟨by omega, by omega, (ps.getD m 0, ps.getD (m + 1) 0 - 1), ?_, h3, by dsimp only; omega⟩
    unfold segs
    rw [List.mem_map]
    exact ⟨m, by rw [List.mem_filter, List.mem_range]; exact ⟨by omega, by rw [← e1, ← e2]; exact h⟩, rfl⟩

/-! sorted numbers without repetitions -/
theorem compact_mem (zs : List Int) (v : Int) : v ∈ Lib.compact zs ↔ v ∈ zs := by
  unfold Lib.compact Lib.compactUpTo
  rw [List.mem_map]
  constructor
  · rintro ⟨j, hj, rfl⟩
    rw [List.mem_filter, List.mem_range] at hj
    have h : j < zs.toArray.size := by simpa using hj.1
    rw [getElem!_pos zs.toArray j h]
    simp
  · intro hv
    obtain ⟨j, hj, rfl⟩ := List.getElem_of_mem hv
    have hex : ∃ i, i < zs.length ∧ zs.toArray[i]! = zs[j] ∧ Lib.keeps zs.toArray i = true := by
      induction j with
      | zero => exact ⟨0, hj, by rw [getElem!_pos zs.toArray 0 (by simpa using hj)]; simp, by simp [Lib.keeps]⟩
      | succ j ih =>
        have e1 : zs.toArray[j + 1]! = zs[j + 1] := by rw [getElem!_pos zs.toArray (j + 1) (by simpa using hj)]; simp
        have e0 : zs.toArray[j]! = zs[j] := by rw [getElem!_pos zs.toArray j (by simp; omega)]; simp
        by_cases hk : zs.toArray[j + 1]! = zs.toArray[j + 1 - 1]!
        · obtain ⟨i, hi, h1, h2⟩ := ih (by omega) (List.getElem_mem _)
          refine ⟨i, hi, ?_, h2⟩
          rw [Nat.add_sub_cancel, e1, e0] at hk
          rw [h1, hk]
        · exact ⟨j + 1, hj, e1, Lib.keeps_pos hk⟩
    obtain ⟨i, hi, h1, h2⟩ := hex
    exact ⟨i, by rw [List.mem_filter, List.mem_range]; exact ⟨hi, h2⟩, h1⟩

theorem compact_sorted (zs : List Int) (h : zs.Pairwise (· ≤ ·)) : (Lib.compact zs).Pairwise (· < ·) := by
  unfold Lib.compact Lib.compactUpTo
  rw [List.pairwise_map]
  have h1 : ((List.range zs.length).filter (Lib.keeps zs.toArray)).Pairwise (· < ·) := List.Pairwise.filter _ List.pairwise_lt_range
  refine List.Pairwise.imp_of_mem ?_ h1
  intro i j hi hj hij
  rw [List.mem_filter, List.mem_range] at hi hj
  have hle := List.pairwise_iff_getElem.1 h
  have e : ∀ m (hm : m < zs.length), zs.toArray[m]! = zs[m] := fun m hm => by rw [getElem!_pos zs.toArray m (by simpa using hm)]; simp
  have hk : zs.toArray[j]! ≠ zs.toArray[j - 1]! := by
    have := hj.2
    unfold Lib.keeps at this
    simp only [decide_eq_true_eq] at this
    rcases this with h0 | h0
    · omega
    · exact h0
  rw [e j hj.1, e (j - 1) (by omega)] at hk
  have h2 := hle (j - 1) j (by omega) hj.1 (by omega)
  rw [e i hi.1, e j hj.1]
  rcases Nat.lt_or_ge i (j - 1) with h3 | h3
  · have := hle i (j - 1) hi.1 (by omega) h3
    omega
  · have : i = j - 1 := by omega
    subst this
    omega

theorem compact_le (zs : List Int) : (Lib.compact zs).length ≤ zs.length := by
  unfold Lib.compact Lib.compactUpTo
  rw [List.length_map]
  exact Nat.le_trans (List.length_filter_le _ _) (by simp)

theorem mergeSort_sorted (zs : List Int) : (zs.mergeSort fun x y => decide (x ≤ y)).Pairwise (· ≤ ·) := by
  have := List.pairwise_mergeSort (le := fun x y : Int => decide (x ≤ y)) (fun a b c h1 h2 => by simp at *; omega) (fun a b => by simp; omega) zs
  exact this.imp fun h => by simpa using h

end Go.Proofs.Ytkbiefklilelmaa

/-
  Words for slices of integers in memory.
-/
namespace Go.Proofs.Ytkbiefklilelmaa
open Go.RowKit Go.Joins

/-- a slice of integers -/
def IntsAt (w : World) (B : Nat) (A : Option Addr) (zs : List Int) : Prop :=
  zs ≠ [] → ∃ b off, A = some ⟨b, off, none⟩ ∧ b < B ∧ ∀ i z, zs[i]? = some z → w.cell? ⟨b, off + i, none⟩ = some (.int .i64 z)
def OwnInt (w : World) (base : Nat) (A : Option Addr) (c : Nat) (zs : List Int) : Prop := w.ownsRow base 3 1 (.slice A zs.length c) zs.length (zs.map (Value.int .i64))

section
variable {w w' : World} {B B' base base' : Nat} {A : Option Addr} {c : Nat} {zs : List Int}
theorem IntsAt.nil : IntsAt w B A [] := fun h => absurd rfl h
theorem IntsAt.keep (h : IntsAt w B A zs) (hk : ∀ p : Addr, p.block < B → w'.cell? p = w.cell? p) : IntsAt w' B A zs := fun hx => by
  obtain ⟨b, off, e, hb, hc⟩ := h hx
  exact ⟨b, off, e, hb, fun i x hi => (hk _ hb).trans (hc i x hi)⟩
theorem IntsAt.below (h : IntsAt w B A zs) (hb : Below B w w') : IntsAt w' B A zs := h.keep fun _ hp => hb.cell hp
theorem IntsAt.more (h : IntsAt w B A zs) (hB : B ≤ B') : IntsAt w B' A zs := fun hx => by
  obtain ⟨b, off, e, hb, hc⟩ := h hx
  exact ⟨b, off, e, by omega, hc⟩
theorem IntsAt.drewN (h : IntsAt w B A zs) (n : Nat) : IntsAt (w.drewN n) B A zs := h
theorem IntsAt.at_ (h : IntsAt w B A zs) {k : Nat} (hk : k < zs.length) : ∃ b off, A = some ⟨b, off, none⟩ ∧ b < B ∧ w.cell? ⟨b, off + k, none⟩ = some (.int .i64 zs[k]) := by
  obtain ⟨b, off, e, hb, hc⟩ := h (fun e => by subst e; simp at hk)
  exact ⟨b, off, e, hb, hc k zs[k] (List.getElem?_eq_getElem hk)⟩
theorem OwnInt.nil (w : World) (base : Nat) : OwnInt w base none 0 [] := World.ownsRow_nil w base _ 1
theorem OwnInt.lower (h : OwnInt w base A c zs) (hb : base' ≤ base) : OwnInt w base' A c zs := Joins.ownsRow_le h hb
theorem OwnInt.alloc (h : OwnInt w base A c zs) (o : Obj) : OwnInt (w.alloc o) base A c zs := World.ownsRow.alloc h o
theorem OwnInt.drewN (h : OwnInt w base A c zs) (n : Nat) : OwnInt (w.drewN n) base A c zs := h
theorem OwnInt.below {B : Nat} (h : OwnInt w base A c zs) (hb : Below B w w') (hB : w.heap.size ≤ B) : OwnInt w' base A c zs := by
  refine ⟨h.1, ?_⟩
  rcases h.2 with h2 | ⟨g, cap, cur, h2, h3, h4, h5⟩
  · exact .inl h2
  · exact .inr ⟨g, cap, cur, h2, h3, (hb.block g (by have := (Array.getElem?_eq_some_iff.1 h4).1; omega)).trans h4, h5⟩
theorem OwnInt.form (h : OwnInt w base A c zs) : (A = none ∧ c = 0 ∧ zs = []) ∨ ∃ g, A = some ⟨g, 0, none⟩ ∧ base ≤ g ∧ g < w.heap.size ∧ zs.length ≤ c ∧ c ≤ maxLen := by
  rcases h.2 with ⟨h1, h2⟩ | ⟨g, cap, cur, h1, h2, h3, h4, h5, _⟩
  · injection h1 with h1 _ h3
    exact .inl ⟨h1, h3, List.eq_nil_of_length_eq_zero h2⟩
  · injection h1 with h1 _ h1'
    subst h1 h1'
    exact .inr ⟨g, rfl, h2, (Array.getElem?_eq_some_iff.1 h3).1, h4, h5⟩
theorem OwnInt.block (h : OwnInt w base A c zs) : ∀ k, (Value.slice A zs.length c).ownBlock = some k → base ≤ k := fun k hk => (World.ownsRow.lt h k hk).1
theorem OwnInt.ats (h : OwnInt w base A c zs) : IntsAt w w.heap.size A zs := fun hx => by
  rcases h.form with ⟨_, _, h3⟩ | ⟨g, rfl, _, h2, _, _⟩
  · exact absurd h3 hx
  · refine ⟨g, 0, rfl, h2, fun i x hi => ?_⟩
    have hlt : i < zs.length := (List.getElem?_eq_some_iff.1 hi).1
    rw [Nat.zero_add, World.ownsRow.cellAt h _ (by omega), List.getElem?_map, hi]
    rfl
theorem OwnInt.of_row {v : Value} {n : Nat} {vs : List Value} (h : w.ownsRow base 3 1 v n vs) (hn : n = zs.length) (hv : vs = zs.map (Value.int .i64)) : ∃ A c, v = .slice A zs.length c ∧ OwnInt w base A c zs := by
  subst hn hv
  rcases Joins.ownsRow_forms h with ⟨rfl, h0⟩ | ⟨g, cap, rfl⟩
  · exact ⟨none, 0, by rw [h0], by unfold OwnInt; rw [h0] at h ⊢; exact h⟩
  · exact ⟨_, cap, rfl, h⟩
end

theorem IntsAt.step {w w' : World} {A : Option Addr} {zs : List Int} (h : IntsAt w w.heap.size A zs) (hb : Below w.heap.size w w') : IntsAt w' w'.heap.size A zs := (h.below hb).more hb.size
theorem IntsAt.alloc {w : World} {A : Option Addr} {zs : List Int} (h : IntsAt w w.heap.size A zs) (o : Obj) : IntsAt (w.alloc o) (w.alloc o).heap.size A zs := h.step ((Below.refl _ _).alloc (Nat.le_refl _) _)
theorem IntsAt.drop {w : World} {B b off : Nat} {zs : List Int} (h : IntsAt w B (some ⟨b, off, none⟩) zs) (k : Nat) : IntsAt w B (some ⟨b, off + k, none⟩) (zs.drop k) := fun hne => by
  have hz : zs ≠ [] := fun e => hne (by rw [e]; simp)
  obtain ⟨b', off', e, hb, hc⟩ := h hz
  injection e with e
  injection e with e1 e2
  subst e1 e2
  refine ⟨b, off + k, rfl, hb, fun i z hi => ?_⟩
  rw [List.getElem?_drop] at hi
  rw [Nat.add_assoc]
  exact hc _ z hi
theorem IntsAt.take {w : World} {B : Nat} {A : Option Addr} {zs : List Int} (h : IntsAt w B A zs) (k : Nat) : IntsAt w B A (zs.take k) := fun hne => by
  obtain ⟨b, off, e, hb, hc⟩ := h (fun e => hne (by rw [e]; simp))
  refine ⟨b, off, e, hb, fun i z hi => ?_⟩
  rw [List.getElem?_take] at hi
  split at hi
  · exact hc _ z hi
  · cases hi

/-- 'append(out, xs...)' of integers that were laid into a block just before -/
theorem append_ints {ops : Array Oper} {rest : List Oper} {o : Oper} {a : Act} {Q : Exit → Act → World → Prop} {w : World} (hgd : o.guard = none) (s x : Operand)
    (ho : o.op = .call { callee := .builtin .append, args := #[s, x], argTypes := #[36, 36] })
    (base : Nat) (A : Option Addr) (c : Nat) (zs : List Int) (n : Nat) (hs : a.eval s = .slice A n c) (hn : n = zs.length) (news : List Int) (m cc : Nat)
    (N : Nat) (hx : a.eval x = .slice (some ⟨N, 0, none⟩) m cc) (hm : m = news.length) (hne : news ≠ []) (cs : Array Value) (wp : World) (hw : w.heap = wp.heap.push (.cells cs 3)) (hcs : cs.toList = news.map (Value.int .i64)) (hN : N = wp.heap.size)
    (hown : OwnInt wp base A c zs) (hlen : n + m ≤ 8796093022208) (hbase : base ≤ wp.heap.size)
    (h : ∀ (g c' : Nat) (w' : World) (row : Option Nat), OwnInt w' base (some ⟨g, 0, none⟩) c' (zs ++ news) → base ≤ g → w.grownBy w' row → (∀ k, row = some k → base ≤ k) →
      wpList Try.prog ops Q rest (a.put o.dst (.slice (some ⟨g, 0, none⟩) (n + m) c')) w') :
    wpList Try.prog ops Q (o :: rest) a w := by
  subst hn hm hN
  obtain ⟨i0, hi0, hz0, hz1, hz2⟩ := info_parts infoInt
  refine wpList_append_own _ hgd s x 36 ho base 3 i0 _ 1 8 Try.underlying36 hi0 hz0 hz1 hz2 rfl (by decide) _ zs.length (zs.map (Value.int .i64)) hs (own_push hown hw)
    ⟨wp.heap.size, 0, none⟩ news.length cc (news.map (Value.int .i64)) hx (by simp) (fun j u hu => by rw [cells_push hw, ← Array.getElem?_toList, hcs]; exact hu) (by simp [Value.oneCell']) (by simp only [maxLen]; omega) (by omega) (by rw [hw]; simp; omega) ?_
  intro v' w' ho' hg _
  obtain ⟨A', c', rfl, ho''⟩ := OwnInt.of_row (zs := zs ++ news) ho' (by simp) (by simp)
  rcases ho''.form with ⟨_, _, h3⟩ | ⟨g, rfl, h1, _⟩
  · simp [hne] at h3
  · have := h g c' w' _ ho'' h1 hg hown.block
    simpa using this

/-- what a function returns that makes a list of integers of which R holds, in memory of its own -/
def RetInts (w : World) (R : List Int → Prop) (e : Ending) (w' : World) : Prop :=
  ∃ (A : Option Addr) (c : Nat) (ps : List Int), e = .returned (.slice A ps.length c) ∧ OwnInt w' w.heap.size A c ps ∧ Below w.heap.size w w' ∧ R ps

end Go.Proofs.Ytkbiefklilelmaa
