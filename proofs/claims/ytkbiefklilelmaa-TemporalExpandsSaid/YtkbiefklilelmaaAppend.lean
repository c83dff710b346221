/-
  append of a whole slice, wherever it lies, onto a row of the call's own.
-/
import Derived.Test.YtkbiefklilelmaaInts
namespace Go.Proofs.Ytkbiefklilelmaa
open Go.RowKit Go.Joins

theorem run_append_nothing {P : Program} (w : World) (base : Nat) (t ty e : TypeId) (i : TypeInfo) (size : Nat) (ht : P.underlying t = some (.slice e)) (hi : P.info? e = some i)
    (v : Value) (n : Nat) (xs : List Value) (hown : w.ownsRow base e size v n xs) (c : Nat) : (Builtin.append_ #[t, t] ty #[v, .slice none 0 c]).run P w = .ok v w := by
  rcases hown.2 with ⟨rfl, rfl⟩ | ⟨g, cap, cur, rfl, _, _, hnc, _⟩
  · simp [Builtin.append_, run_underlying ht, sizeOf, typeInfo, hi, Builtin.lenOf, Builtin.firstCells]
  · simp [Builtin.append_, run_underlying ht, sizeOf, typeInfo, hi, Builtin.lenOf, Builtin.firstCells, hnc, storeCells]

theorem addr_add (b off j : Nat) : (⟨b, off, none⟩ : Addr).add j = ⟨b, off + j, none⟩ := by
  unfold Addr.add
  by_cases h : j = 0 <;> simp [h]

/-- the law, whatever the source: nil, empty or a row somewhere -/
theorem append_src {P : Program} {ops : Array Oper} {rest : List Oper} {o : Oper} {a : Act} {Q : Exit → Act → World → Prop} {w : World} (hgd : o.guard = none) (s x : Operand) (t : TypeId)
    (ho : o.op = .call { callee := .builtin .append, args := #[s, x], argTypes := #[t, t] })
    (base : Nat) (e : TypeId) (i : TypeInfo) (z : Value) (size bytes : Nat) (ht : P.underlying t = some (.slice e)) (hi : P.info? e = some i) (hz : i.zero = some z)
    (hsize : i.size = size) (hby : i.bytes = bytes) (hzs : z.cells.size = size) (hsz : 0 < size)
    (v : Value) (n : Nat) (xs : List Value) (hs : a.eval s = v) (hown : w.ownsRow base e size v n xs)
    (A : Option Addr) (m c : Nat) (news : List Value) (hx : a.eval x = .slice A m c) (hl : news.length = m * size)
    (hsrc : news ≠ [] → ∃ b off, A = some ⟨b, off, none⟩ ∧ ∀ j u, news[j]? = some u → w.cell? ⟨b, off + j, none⟩ = some u) (h1 : ∀ u ∈ news, u.oneCell' = true)
    (h63 : n + m ≤ maxLen) (hbytes : (n + m) * bytes ≤ 140737488355328) (hbase : base ≤ w.heap.size)
    (h : ∀ v' w', w'.ownsRow base e size v' (n + m) (xs ++ news) → w.grownBy w' v.ownBlock → wpList P ops Q rest (a.put o.dst v') w') : wpList P ops Q (o :: rest) a w := by
  by_cases hne : news = []
  · subst hne
    have hm : m = 0 := by
      rcases Nat.eq_zero_or_pos m with h0 | h0
      · exact h0
      · have := Nat.mul_pos h0 hsz
        simp at hl
        omega
    subst hm
    cases A with
    | none =>
      refine wpList_plain hgd fun K hK => ?_
      have hrun := run_append_nothing (P := P) w base t o.type e i size ht hi v n xs hown c
      unfold Oper.wp execOp
      simp only [ho, resolve, invoke, builtin, Sem.run_bind, Sem.run_pure, Result.andThen_ok, List.map_toArray, List.map_cons, List.map_nil, hs, hx, hrun]
      exact hK _ _ (h v w (by simpa using hown) (World.grownBy.refl w _))
    | some ad =>
      exact wpList_append_own _ hgd s x t ho base e i z size bytes ht hi hz hsize hby hzs hsz v n xs hs hown ad 0 c [] hx (by simp) (by simp) (by simp) h63 hbytes hbase fun v' w' h2 h3 _ => h v' w' h2 h3
  · obtain ⟨b, off, rfl, hc⟩ := hsrc hne
    exact wpList_append_own _ hgd s x t ho base e i z size bytes ht hi hz hsize hby hzs hsz v n xs hs hown ⟨b, off, none⟩ m c news hx hl (fun j u hu => by rw [addr_add]; exact hc j u hu) h1 h63 hbytes hbase fun v' w' h2 h3 _ => h v' w' h2 h3

theorem encIvs_append (xs ys : List Iv) : encIvs (xs ++ ys) = encIvs xs ++ encIvs ys := by simp [encIvs]
theorem encIvs_one {xs : List Iv} : ∀ u ∈ encIvs xs, u.oneCell' = true := by
  intro u hu
  unfold encIvs at hu
  rw [List.mem_flatMap] at hu
  obtain ⟨x, _, hx⟩ := hu
  simp [encIv] at hx
  rcases hx with rfl | rfl <;> rfl

theorem IvsAt.src {w : World} {B : Nat} {A : Option Addr} {xs : List Iv} (h : IvsAt w B A xs) : encIvs xs ≠ [] → ∃ b off, A = some ⟨b, off, none⟩ ∧ ∀ j u, (encIvs xs)[j]? = some u → w.cell? ⟨b, off + j, none⟩ = some u := by
  intro hne
  obtain ⟨b, off, e, _, hc⟩ := h (fun e => hne (by rw [e]; rfl))
  refine ⟨b, off, e, fun j u hu => ?_⟩
  have hj : j < xs.length * 2 := by
    have := (List.getElem?_eq_some_iff.1 hu).1
    rwa [encIvs_length] at this
  have hx : xs[j / 2]? = some xs[j / 2] := List.getElem?_eq_getElem (by omega)
  obtain ⟨c0, c1⟩ := hc (j / 2) _ hx
  obtain ⟨e0, e1⟩ := encIvs_at hx
  rcases Nat.mod_two_eq_zero_or_one j with h2 | h2
  · have ej : j / 2 * 2 = j := by omega
    rw [ej] at c0 e0
    rw [c0, ← hu, e0]
  · have ej : j / 2 * 2 + 1 = j := by omega
    rw [ej] at e1
    rw [Nat.add_assoc, ej] at c1
    rw [c1, ← hu, e1]

theorem append_ivs {ops : Array Oper} {rest : List Oper} {o : Oper} {a : Act} {Q : Exit → Act → World → Prop} {w : World} (hgd : o.guard = none) (s x : Operand)
    (ho : o.op = .call { callee := .builtin .append, args := #[s, x], argTypes := #[22, 22] })
    (base : Nat) (A : Option Addr) (c : Nat) (xs : List Iv) (n : Nat) (hs : a.eval s = .slice A n c) (hn : n = xs.length) (hown : OwnIv w base A c xs)
    (A' : Option Addr) (m c' B : Nat) (ys : List Iv) (hx : a.eval x = .slice A' m c') (hm : m = ys.length) (hy : IvsAt w B A' ys) (hlen : n + m ≤ 4398046511104) (hbase : base ≤ w.heap.size)
    (h : ∀ (A2 : Option Addr) (c2 : Nat) (w' : World) (row : Option Nat), OwnIv w' base A2 c2 (xs ++ ys) → w.grownBy w' row → (∀ k, row = some k → base ≤ k) →
      wpList Try.prog ops Q rest (a.put o.dst (.slice A2 (n + m) c2)) w') :
    wpList Try.prog ops Q (o :: rest) a w := by
  subst hn hm
  obtain ⟨i0, hi0, hz0, hz1, hz2⟩ := info_parts infoIv
  refine append_src hgd s x 22 ho base 42 i0 _ 2 16 Try.underlying22 hi0 hz0 hz1 hz2 rfl (by decide) _ xs.length (encIvs xs) hs hown A' ys.length c' (encIvs ys) hx (encIvs_length ys) hy.src
    encIvs_one (by simp only [maxLen]; omega) (by omega) hbase ?_
  intro v' w' ho' hg
  obtain ⟨A2, c2, rfl, ho''⟩ := OwnIv.of_row (xs := xs ++ ys) ho' (by simp) (by rw [encIvs_append])
  have := h A2 c2 w' _ ho'' hg hown.block
  simpa using this

theorem IntsAt.src {w : World} {B : Nat} {A : Option Addr} {zs : List Int} (h : IntsAt w B A zs) : zs.map (Value.int .i64) ≠ [] → ∃ b off, A = some ⟨b, off, none⟩ ∧ ∀ j u, (zs.map (Value.int .i64))[j]? = some u → w.cell? ⟨b, off + j, none⟩ = some u := by
  intro hne
  obtain ⟨b, off, e, _, hc⟩ := h (fun e => hne (by rw [e]; rfl))
  refine ⟨b, off, e, fun j u hu => ?_⟩
  rw [List.getElem?_map] at hu
  cases hj : zs[j]? with
  | none => rw [hj] at hu; cases hu
  | some z =>
    rw [hj] at hu
    simp only [Option.map_some, Option.some.injEq] at hu
    subst hu
    exact hc j z hj

theorem append_ints_any {ops : Array Oper} {rest : List Oper} {o : Oper} {a : Act} {Q : Exit → Act → World → Prop} {w : World} (hgd : o.guard = none) (s x : Operand)
    (ho : o.op = .call { callee := .builtin .append, args := #[s, x], argTypes := #[36, 36] })
    (base : Nat) (A : Option Addr) (c : Nat) (xs : List Int) (n : Nat) (hs : a.eval s = .slice A n c) (hn : n = xs.length) (hown : OwnInt w base A c xs)
    (A' : Option Addr) (m c' B : Nat) (ys : List Int) (hx : a.eval x = .slice A' m c') (hm : m = ys.length) (hy : IntsAt w B A' ys) (hlen : n + m ≤ 8796093022208) (hbase : base ≤ w.heap.size)
    (h : ∀ (A2 : Option Addr) (c2 : Nat) (w' : World) (row : Option Nat), OwnInt w' base A2 c2 (xs ++ ys) → w.grownBy w' row → (∀ k, row = some k → base ≤ k) →
      wpList Try.prog ops Q rest (a.put o.dst (.slice A2 (n + m) c2)) w') :
    wpList Try.prog ops Q (o :: rest) a w := by
  subst hn hm
  obtain ⟨i0, hi0, hz0, hz1, hz2⟩ := info_parts infoInt
  refine append_src hgd s x 36 ho base 3 i0 _ 1 8 Try.underlying36 hi0 hz0 hz1 hz2 rfl (by decide) _ xs.length (xs.map (Value.int .i64)) hs hown A' ys.length c' (ys.map (Value.int .i64)) hx (by simp) hy.src
    (by simp [Value.oneCell']) (by simp only [maxLen]; omega) (by omega) hbase ?_
  intro v' w' ho' hg
  obtain ⟨A2, c2, rfl, ho''⟩ := OwnInt.of_row (zs := xs ++ ys) ho' (by simp) (by simp)
  have := h A2 c2 w' _ ho'' hg hown.block
  simpa using this

theorem OwnIv.empty (w : World) (base : Nat) (hb : base ≤ w.heap.size) : OwnIv (w.alloc (.cells #[] 42)) base (some ⟨w.heap.size, 0, none⟩) 0 [] := World.ownsRow_lit w #[] 0 hb (by simp [maxLen]) rfl
theorem OwnInt.empty (w : World) (base : Nat) (hb : base ≤ w.heap.size) : OwnInt (w.alloc (.cells #[] 3)) base (some ⟨w.heap.size, 0, none⟩) 0 [] := World.ownsRow_lit w #[] 0 hb (by simp [maxLen]) rfl
end Go.Proofs.Ytkbiefklilelmaa
