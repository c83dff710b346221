/-
  Several texts in one: Append, RefSets. Each says at its head what it holds.
-/
import Derived.Test.YtkbiefklilelmaaMR6

/-
  append of a whole slice, wherever it lies, onto a row of the call's own.
-/
namespace Go.Proofs.Ytkbiefklilelmaa
open Go.RowKit Go.Joins

theorem encIvs_append (xs ys : List Iv) : encIvs (xs ++ ys) = encIvs xs ++ encIvs ys := by simp [encIvs]
theorem encIvs_one {xs : List Iv} : ∀ u ∈ encIvs xs, u.oneCell' = true := by
  intro u hu
  unfold encIvs at hu
  rw [List.mem_flatMap] at hu
  obtain ⟨x, _, hx⟩ := hu
  simp [encIv] at hx
  rcases hx with rfl | rfl <;> rfl

theorem IvsAt.src {w : World} {B : Nat} {A : Option Addr} {xs : List Iv} (h : IvsAt w B A xs) : encIvs xs ≠ [] → ∃ b off, A = some ⟨b, off, none⟩ ∧ ∀ j u, (encIvs xs)[j]? = some u → w.cell? ⟨b, off + j, none⟩ = some u := by
  intro hne
  obtain ⟨b, off, e, _, hc⟩ := h (fun e => hne (by rw [e]; rfl))
  refine ⟨b, off, e, fun j u hu => ?_⟩
  have hj : j < xs.length * 2 := by
    have := (List.getElem?_eq_some_iff.1 hu).1
    rwa [encIvs_length] at this
  have hx : xs[j / 2]? = some xs[j / 2] := List.getElem?_eq_getElem (by omega)
  obtain ⟨c0, c1⟩ := hc (j / 2) _ hx
  obtain ⟨e0, e1⟩ := encIvs_at hx
  rcases Nat.mod_two_eq_zero_or_one j with h2 | h2
  · have ej : j / 2 * 2 = j := by omega
    rw [ej] at c0 e0
    rw [c0, ← hu, e0]
  · have ej : j / 2 * 2 + 1 = j := by omega
    rw [ej] at e1
    rw [Nat.add_assoc, ej] at c1
    rw [c1, ← hu, e1]

theorem append_ivs {ops : Array Oper} {rest : List Oper} {o : Oper} {a : Act} {Q : Exit → Act → World → Prop} {w : World} (hgd : o.guard = none) (s x : Operand)
    (ho : o.op = .call { callee := .builtin .append, args := #[s, x], argTypes := #[22, 22] })
    (base : Nat) (A : Option Addr) (c : Nat) (xs : List Iv) (n : Nat) (hs : a.eval s = .slice A n c) (hn : n = xs.length) (hown : OwnIv w base A c xs)
    (A' : Option Addr) (m c' B : Nat) (ys : List Iv) (hx : a.eval x = .slice A' m c') (hm : m = ys.length) (hy : IvsAt w B A' ys) (hlen : n + m ≤ 4398046511104) (hbase : base ≤ w.heap.size)
    (h : ∀ (A2 : Option Addr) (c2 : Nat) (w' : World) (row : Option Nat), OwnIv w' base A2 c2 (xs ++ ys) → w.grownBy w' row → (∀ k, row = some k → base ≤ k) →
      wpList Try.prog ops Q rest (a.put o.dst (.slice A2 (n + m) c2)) w') :
    wpList Try.prog ops Q (o :: rest) a w := by
  subst hn hm
  obtain ⟨i0, hi0, hz0, hz1, hz2⟩ := info_parts infoIv
  refine append_src hgd s x 22 ho base 42 i0 _ 2 16 Try.underlying22 hi0 hz0 hz1 hz2 rfl (by decide) _ xs.length (encIvs xs) hs hown A' ys.length c' (encIvs ys) hx (encIvs_length ys) hy.src
    encIvs_one (by simp only [maxLen]; omega) (by omega) hbase ?_
  intro v' w' ho' hg
  obtain ⟨A2, c2, rfl, ho''⟩ := OwnIv.of_row (xs := xs ++ ys) ho' (by simp) (by rw [encIvs_append])
  have := h A2 c2 w' _ ho'' hg hown.block
  simpa using this

theorem IntsAt.src {w : World} {B : Nat} {A : Option Addr} {zs : List Int} (h : IntsAt w B A zs) : zs.map (Value.int .i64) ≠ [] → ∃ b off, A = some ⟨b, off, none⟩ ∧ ∀ j u, (zs.map (Value.int .i64))[j]? = some u → w.cell? ⟨b, off + j, none⟩ = some u := by
  intro hne
  obtain ⟨b, off, e, _, hc⟩ := h (fun e => hne (by rw [e]; rfl))
  refine ⟨b, off, e, fun j u hu => ?_⟩
  rw [List.getElem?_map] at hu
  cases hj : zs[j]? with
  | none => rw [hj] at hu; cases hu
  | some z =>
    rw [hj] at hu
    simp only [Option.map_some, Option.some.injEq] at hu
    subst hu
    exact hc j z hj

theorem append_ints_any {ops : Array Oper} {rest : List Oper} {o : Oper} {a : Act} {Q : Exit → Act → World → Prop} {w : World} (hgd : o.guard = none) (s x : Operand)
    (ho : o.op = .call { callee := .builtin .append, args := #[s, x], argTypes := #[36, 36] })
    (base : Nat) (A : Option Addr) (c : Nat) (xs : List Int) (n : Nat) (hs : a.eval s = .slice A n c) (hn : n = xs.length) (hown : OwnInt w base A c xs)
    (A' : Option Addr) (m c' B : Nat) (ys : List Int) (hx : a.eval x = .slice A' m c') (hm : m = ys.length) (hy : IntsAt w B A' ys) (hlen : n + m ≤ 8796093022208) (hbase : base ≤ w.heap.size)
    (h : ∀ (A2 : Option Addr) (c2 : Nat) (w' : World) (row : Option Nat), OwnInt w' base A2 c2 (xs ++ ys) → w.grownBy w' row → (∀ k, row = some k → base ≤ k) →
      wpList Try.prog ops Q rest (a.put o.dst (.slice A2 (n + m) c2)) w') :
    wpList Try.prog ops Q (o :: rest) a w := by
  subst hn hm
  obtain ⟨i0, hi0, hz0, hz1, hz2⟩ := info_parts infoInt
  refine append_src hgd s x 36 ho base 3 i0 _ 1 8 Try.underlying36 hi0 hz0 hz1 hz2 rfl (by decide) _ xs.length (xs.map (Value.int .i64)) hs hown A' ys.length c' (ys.map (Value.int .i64)) hx (by simp) hy.src
    (by simp [Value.oneCell']) (by simp only [maxLen]; omega) (by omega) hbase ?_
  intro v' w' ho' hg
  obtain ⟨A2, c2, rfl, ho''⟩ := OwnInt.of_row (zs := xs ++ ys) ho' (by simp) (by simp)
  have := h A2 c2 w' _ ho'' hg hown.block
  simpa using this

theorem OwnIv.empty (w : World) (base : Nat) (hb : base ≤ w.heap.size) : OwnIv (w.alloc (.cells #[] 42)) base (some ⟨w.heap.size, 0, none⟩) 0 [] := World.ownsRow_lit w #[] 0 hb (by simp [maxLen]) rfl
theorem OwnInt.empty (w : World) (base : Nat) (hb : base ≤ w.heap.size) : OwnInt (w.alloc (.cells #[] 3)) base (some ⟨w.heap.size, 0, none⟩) 0 [] := World.ownsRow_lit w #[] 0 hb (by simp [maxLen]) rfl
end Go.Proofs.Ytkbiefklilelmaa

/-
  Plain mathematics of the reference's combination: sorted cuts, and the list that is built from them. No program in sight.
-/
namespace Go.Proofs.Ytkbiefklilelmaa

theorem getD_get {ps : List Int} {i : Nat} (h : i < ps.length) : ps.getD i 0 = ps[i] := by simp [List.getD_eq_getElem?_getD, List.getElem?_eq_getElem h]

/-- a number put into sorted numbers -/
def insAt (ps : List Int) (k : Nat) (v : Int) : List Int := ps.take k ++ [v] ++ ps.drop k
theorem insAt_mem (ps : List Int) (k : Nat) (v u : Int) : u ∈ insAt ps k v ↔ u = v ∨ u ∈ ps := by
  unfold insAt
  have h : u ∈ ps ↔ u ∈ ps.take k ∨ u ∈ ps.drop k := by rw [← List.mem_append, List.take_append_drop]
  rw [List.mem_append, List.mem_append, h, List.mem_singleton]
  constructor
  · rintro ((h | h) | h)
    · exact .inr (.inl h)
    · exact .inl h
    · exact .inr (.inr h)
  · rintro (h | h | h)
    · exact .inl (.inr h)
    · exact .inl (.inl h)
    · exact .inr h
theorem insAt_length (ps : List Int) (k : Nat) (v : Int) (hk : k ≤ ps.length) : (insAt ps k v).length = ps.length + 1 := by
  unfold insAt; simp; omega
theorem insAt_sorted (ps : List Int) (k : Nat) (v : Int) (h : ps.Pairwise (· < ·)) (hlo : ∀ j (_ : j < ps.length), j < k → ps[j] < v) (hhi : ∀ (_ : k < ps.length), v < ps[k]) : (insAt ps k v).Pairwise (· < ·) := by
  unfold insAt
  have hp := List.pairwise_iff_getElem.1 h
  have hlow : ∀ x ∈ ps.take k, x < v := by
    intro x hx
    obtain ⟨j, hj, rfl⟩ := List.getElem_of_mem hx
    rw [List.length_take] at hj
    rw [List.getElem_take]
    exact hlo j (by omega) (by omega)
  have hhigh : ∀ y ∈ ps.drop k, v < y := by
    intro y hy
    obtain ⟨j, hj, rfl⟩ := List.getElem_of_mem hy
    rw [List.length_drop] at hj
    rw [List.getElem_drop]
    have h0 := hhi (by omega)
    rcases Nat.eq_zero_or_pos j with hj0 | hj0
    · subst hj0; simpa using h0
    · exact Int.lt_trans h0 (hp k (k + j) (by omega) (by omega) (by omega))
  rw [List.pairwise_append, List.pairwise_append]
  refine ⟨⟨h.sublist (List.take_sublist k ps), by simp, fun x hx y hy => ?_⟩, h.sublist (List.drop_sublist k ps), fun x hx y hy => ?_⟩
  · simp at hy; subst hy; exact hlow x hx
  · rcases List.mem_append.1 hx with hx | hx
    · exact Int.lt_trans (hlow x hx) (hhigh y hy)
    · simp at hx; subst hx; exact hhigh y hy

/-- cuts that serve a list -/
structure CutsOk (l : List Iv) (ps : List Int) : Prop where
  sorted : ps.Pairwise (· < ·)
  zero : (0 : Int) ∈ ps
  last : (1099511627777 : Int) ∈ ps
  range : ∀ v ∈ ps, 0 ≤ v ∧ v ≤ 1099511627777
  cut : ∀ x ∈ l, max x.1 0 ≤ min x.2 1099511627776 → max x.1 0 ∈ ps ∧ min x.2 1099511627776 + 1 ∈ ps

theorem CutsOk.start : CutsOk [] [0, 1099511627777] := ⟨by simp, by simp, by simp, by simp, by simp⟩
theorem CutsOk.mono {l l' : List Iv} {ps : List Int} (h : CutsOk l ps) (hl : ∀ x ∈ l', x ∈ l) : CutsOk l' ps := ⟨h.sorted, h.zero, h.last, h.range, fun x hx => h.cut x (hl x hx)⟩
theorem CutsOk.skip {l : List Iv} {ps : List Int} {x : Iv} (h : CutsOk l ps) (hx : ¬ max x.1 0 ≤ min x.2 1099511627776) : CutsOk (l ++ [x]) ps :=
  ⟨h.sorted, h.zero, h.last, h.range, fun y hy hc => by
    rcases List.mem_append.1 hy with hy | hy
    · exact h.cut y hy hc
    · simp at hy; subst hy; exact absurd hc hx⟩
theorem CutsOk.add {l : List Iv} {ps ps' : List Int} {x : Iv} (h : CutsOk l ps) (hx : max x.1 0 ≤ min x.2 1099511627776) (hs : ps'.Pairwise (· < ·)) (hm : ∀ u, u ∈ ps' ↔ u = max x.1 0 ∨ u = min x.2 1099511627776 + 1 ∨ u ∈ ps) : CutsOk (l ++ [x]) ps' := by
  refine ⟨hs, (hm _).2 (.inr (.inr h.zero)), (hm _).2 (.inr (.inr h.last)), fun v hv => ?_, fun y hy hc => ?_⟩
  · rcases (hm v).1 hv with rfl | rfl | hv
    · omega
    · omega
    · exact h.range v hv
  · rcases List.mem_append.1 hy with hy | hy
    · obtain ⟨c1, c2⟩ := h.cut y hy hc
      exact ⟨(hm _).2 (.inr (.inr c1)), (hm _).2 (.inr (.inr c2))⟩
    · simp at hy; subst hy
      exact ⟨(hm _).2 (.inl rfl), (hm _).2 (.inr (.inl rfl))⟩

theorem between {ps : List Int} (hs : ps.Pairwise (· < ·)) {i : Nat} (hi : i + 1 < ps.length) {v : Int} (hv : v ∈ ps) : v ≤ ps.getD i 0 ∨ ps.getD (i + 1) 0 ≤ v := by
  obtain ⟨j, hj, rfl⟩ := getD_of_mem hv
  rcases Nat.lt_trichotomy j i with h | h | h
  · exact .inl (Int.le_of_lt (getD_mono hs h (by omega)))
  · subst h; exact .inl (Int.le_refl _)
  · rcases Nat.lt_or_ge (i + 1) j with h' | h'
    · exact .inr (Int.le_of_lt (getD_mono hs h' hj))
    · have : j = i + 1 := by omega
      subst this; exact .inr (Int.le_refl _)

theorem CutsOk.const {l : List Iv} {ps : List Int} (h : CutsOk l ps) {i : Nat} (hi : i + 1 < ps.length) {t : Int} (h1 : ps.getD i 0 ≤ t) (h2 : t < ps.getD (i + 1) 0) : memT l t = memT l (ps.getD i 0) := by
  have r1 := h.range (ps.getD i 0) (by rw [getD_get (show i < ps.length by omega)]; exact List.getElem_mem _)
  have r2 := h.range (ps.getD (i + 1) 0) (by rw [getD_get hi]; exact List.getElem_mem _)
  rw [Bool.eq_iff_iff, memT_iff, memT_iff]
  constructor
  · rintro ⟨h3, h4, x, hx, h5, h6⟩
    obtain ⟨c1, _⟩ := h.cut x hx (by omega)
    rcases between h.sorted hi c1 with h7 | h7
    · exact ⟨by omega, by omega, x, hx, by omega, by omega⟩
    · omega
  · rintro ⟨h3, h4, x, hx, h5, h6⟩
    obtain ⟨_, c2⟩ := h.cut x hx (by omega)
    rcases between h.sorted hi c2 with h7 | h7
    · omega
    · exact ⟨by omega, by omega, x, hx, by omega, by omega⟩

theorem CutsOk.first {l : List Iv} {ps : List Int} (h : CutsOk l ps) : ps.getD 0 0 = 0 := by
  obtain ⟨i, hi, e⟩ := getD_of_mem h.zero
  rcases Nat.eq_zero_or_pos i with h0 | h0
  · subst h0; exact e
  · have := getD_mono h.sorted h0 hi
    have := h.range (ps.getD 0 0) (by rw [getD_get (show 0 < ps.length by omega)]; exact List.getElem_mem _)
    omega
theorem CutsOk.end_ {l : List Iv} {ps : List Int} (h : CutsOk l ps) {i : Nat} (hi : i + 1 = ps.length) : ps.getD i 0 = 1099511627777 := by
  obtain ⟨j, hj, e⟩ := getD_of_mem h.last
  rcases Nat.lt_or_ge j i with h0 | h0
  · have := getD_mono h.sorted h0 (by omega)
    have := h.range (ps.getD i 0) (by rw [getD_get (show i < ps.length by omega)]; exact List.getElem_mem _)
    omega
  · have : j = i := by omega
    subst this; exact e
theorem CutsOk.pos {l : List Iv} {ps : List Int} (h : CutsOk l ps) : 1 < ps.length := by
  obtain ⟨i, hi, e⟩ := getD_of_mem h.zero
  obtain ⟨j, hj, e'⟩ := getD_of_mem h.last
  rcases Nat.lt_or_ge 1 ps.length with h1 | h1
  · exact h1
  · have : i = j := by omega
    subst this; omega

/-- the reference's rules -/
def rl (r : Int) (x y : Bool) : Bool := if r = 2 then x && !y else if r = 1 then x && y else x || y

/-- what has been built when the cuts up to p have been looked at -/
def RefInv (R : Int → Bool) (ys : List Iv) (p : Int) : Prop := Norm ys ∧ (∀ y ∈ ys, y.2 < p) ∧ ∀ t, Mem ys t ↔ 0 ≤ t ∧ t ≤ 1099511627776 ∧ t < p ∧ R t = true

theorem RefInv.start (R : Int → Bool) : RefInv R [] 0 := by
  refine ⟨Norm.nil, by simp, fun t => ⟨fun h => absurd h (mem_nil t), ?_⟩⟩
  rintro ⟨h1, _, h2, _⟩
  omega
theorem RefInv.skip {R : Int → Bool} {ys : List Iv} {p p' : Int} (h : RefInv R ys p) (hp : p < p') (hc : ∀ t, p ≤ t → t < p' → R t = R p) (hR : R p = false) : RefInv R ys p' := by
  refine ⟨h.1, fun y hy => by have := h.2.1 y hy; omega, fun t => ?_⟩
  rw [h.2.2]
  constructor
  · rintro ⟨h1, h2, h3, h4⟩; exact ⟨h1, h2, by omega, h4⟩
  · rintro ⟨h1, h2, h3, h4⟩
    refine ⟨h1, h2, ?_, h4⟩
    rcases Int.lt_or_le t p with h5 | h5
    · exact h5
    · rw [hc t h5 h3, hR] at h4; cases h4
theorem RefInv.more {R : Int → Bool} {init : List Iv} {z : Iv} {p p' : Int} (h : RefInv R (init ++ [z]) p) (hp : p < p') (hp' : p' ≤ 1099511627777) (hc : ∀ t, p ≤ t → t < p' → R t = R p) (hR : R p = true) (hz : z.2 = p - 1) : RefInv R (init ++ [(z.1, p' - 1)]) p' := by
  obtain ⟨hn, hl, hm⟩ := h
  obtain ⟨n1, n2, n3⟩ := norm_snoc.1 hn
  unfold Okv at n3
  refine ⟨norm_snoc.2 ⟨n1, fun y hy => by simpa using n2 y hy, by unfold Okv; simp only; omega⟩, fun y hy => ?_, fun t => ?_⟩
  · rcases List.mem_append.1 hy with hy | hy
    · have := hl y (by simp [hy]); omega
    · simp at hy; subst hy; simp only; omega
  · have := hm t
    rw [mem_append, mem_one] at this ⊢
    simp only
    constructor
    · rintro (h1 | h1)
      · obtain ⟨h2, h3, h4, h5⟩ := this.1 (.inl h1); exact ⟨h2, h3, by omega, h5⟩
      · rcases Int.lt_or_le t p with h5 | h5
        · obtain ⟨h2, h3, h4, h6⟩ := this.1 (.inr (by omega)); exact ⟨h2, h3, by omega, h6⟩
        · exact ⟨by omega, by omega, by omega, by rw [hc t h5 (by omega)]; exact hR⟩
    · rintro ⟨h1, h2, h3, h4⟩
      rcases Int.lt_or_le t p with h5 | h5
      · rcases this.2 ⟨h1, h2, h5, h4⟩ with h6 | h6
        · exact .inl h6
        · exact .inr (by omega)
      · exact .inr (by omega)
theorem RefInv.push {R : Int → Bool} {ys : List Iv} {p p' : Int} (h : RefInv R ys p) (h0 : 0 ≤ p) (hp : p < p') (hp' : p' ≤ 1099511627777) (hc : ∀ t, p ≤ t → t < p' → R t = R p) (hR : R p = true) (hz : ∀ y ∈ ys, y.2 ≠ p - 1) : RefInv R (ys ++ [(p, p' - 1)]) p' := by
  obtain ⟨hn, hl, hm⟩ := h
  refine ⟨norm_snoc.2 ⟨hn, fun y hy => by have := hl y hy; have := hz y hy; simp only; omega, by unfold Okv; simp only; omega⟩, fun y hy => ?_, fun t => ?_⟩
  · rcases List.mem_append.1 hy with hy | hy
    · have := hl y hy; omega
    · simp at hy; subst hy; simp only; omega
  · have := hm t
    rw [mem_append, mem_one]
    simp only
    constructor
    · rintro (h1 | h1)
      · obtain ⟨h2, h3, h4, h5⟩ := this.1 h1; exact ⟨h2, h3, by omega, h5⟩
      · exact ⟨by omega, by omega, by omega, by rw [hc t (by omega) (by omega)]; exact hR⟩
    · rintro ⟨h1, h2, h3, h4⟩
      rcases Int.lt_or_le t p with h5 | h5
      · exact .inl (this.2 ⟨h1, h2, h5, h4⟩)
      · exact .inr (by omega)
/-- in a list that has been built, only the last interval can end at p - 1 -/
theorem RefInv.last_ne {R : Int → Bool} {init : List Iv} {z : Iv} {p : Int} (h : RefInv R (init ++ [z]) p) (hz : z.2 ≠ p - 1) : ∀ y ∈ init ++ [z], y.2 ≠ p - 1 := by
  intro y hy
  obtain ⟨n1, n2, n3⟩ := norm_snoc.1 h.1
  unfold Okv at n3
  have := h.2.1 z (by simp)
  rcases List.mem_append.1 hy with hy | hy
  · have := n2 y hy; omega
  · simp at hy; subst hy; exact hz

end Go.Proofs.Ytkbiefklilelmaa
