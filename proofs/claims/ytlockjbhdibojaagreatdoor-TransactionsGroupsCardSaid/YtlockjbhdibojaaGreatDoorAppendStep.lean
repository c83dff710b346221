/-
  append of a whole slice, wherever it lies, at one operation and at a step of a region that draws its order.
-/
import Derived.Test.YtlockjbhdibojaaGreatDoorAppendGen
namespace Go.Proofs.YtlockjbhdibojaaGreatDoor
open Go.RowKit

theorem wp_append_src {P : Program} {o : Oper} {a : Act} {K : Act → World → Prop} {Q : Exit → Act → World → Prop} {w : World} (s x : Operand) (t : TypeId)
    (ho : o.op = .call { callee := .builtin .append, args := #[s, x], argTypes := #[t, t] })
    (base : Nat) (e : TypeId) (i : TypeInfo) (z : Value) (size bytes : Nat) (ht : P.underlying t = some (.slice e)) (hi : P.info? e = some i) (hz : i.zero = some z)
    (hsize : i.size = size) (hby : i.bytes = bytes) (hzs : z.cells.size = size) (hsz : 0 < size)
    (v : Value) (n : Nat) (xs : List Value) (hs : a.eval s = v) (hown : w.ownsRow base e size v n xs)
    (A : Option Addr) (m c : Nat) (news : List Value) (hx : a.eval x = .slice A m c) (hl : news.length = m * size)
    (hsrc : news ≠ [] → ∃ b off, A = some ⟨b, off, none⟩ ∧ ∀ j u, news[j]? = some u → w.cell? ⟨b, off + j, none⟩ = some u) (h1 : ∀ u ∈ news, u.oneCell' = true)
    (h63 : n + m ≤ maxLen) (hbytes : (n + m) * bytes ≤ 140737488355328) (hbase : base ≤ w.heap.size)
    (h : ∀ v' w', w'.ownsRow base e size v' (n + m) (xs ++ news) → w.grownBy w' v.ownBlock → K (a.put o.dst v') w') : o.wp P a w K Q := by
  by_cases hne : news = []
  · subst hne
    have hm : m = 0 := by
      rcases Nat.eq_zero_or_pos m with h0 | h0
      · exact h0
      · have := Nat.mul_pos h0 hsz
        simp at hl
        omega
    subst hm
    cases A with
    | none =>
      have hrun := run_append_nothing (P := P) w base t o.type e i size ht hi v n xs hown c
      unfold Oper.wp execOp
      simp only [ho, resolve, invoke, builtin, Sem.run_bind, Sem.run_pure, Result.andThen_ok, List.map_toArray, List.map_cons, List.map_nil, hs, hx, hrun]
      exact h v w (by simpa using hown) (World.grownBy.refl w _)
    | some ad =>
      exact wp_append_own w s x t ho base e i z size bytes ht hi hz hsize hby hzs hsz v n xs hs hown ad 0 c [] hx (by simp) (by simp) (by simp) h63 hbytes hbase fun v' w' h2 h3 _ => h v' w' h2 h3
  · obtain ⟨b, off, rfl, hc⟩ := hsrc hne
    exact wp_append_own w s x t ho base e i z size bytes ht hi hz hsize hby hzs hsz v n xs hs hown ⟨b, off, none⟩ m c news hx hl (fun j u hu => by rw [addr_add]; exact hc j u hu) h1 h63 hbytes hbase fun v' w' h2 h3 _ => h v' w' h2 h3

theorem step_append_src {P : Program} {ops : Array Oper} {o : Oper} {a : Act} {K : Act → World → Prop} {Q : Exit → Act → World → Prop} {E : Prop} {w : World} (hgd : o.guard = none) (s x : Operand) (t : TypeId)
    (ho : o.op = .call { callee := .builtin .append, args := #[s, x], argTypes := #[t, t] })
    (base : Nat) (e : TypeId) (i : TypeInfo) (z : Value) (size bytes : Nat) (ht : P.underlying t = some (.slice e)) (hi : P.info? e = some i) (hz : i.zero = some z)
    (hsize : i.size = size) (hby : i.bytes = bytes) (hzs : z.cells.size = size) (hsz : 0 < size)
    (v : Value) (n : Nat) (xs : List Value) (hs : a.eval s = v) (hown : w.ownsRow base e size v n xs)
    (A : Option Addr) (m c : Nat) (news : List Value) (hx : a.eval x = .slice A m c) (hl : news.length = m * size)
    (hsrc : news ≠ [] → ∃ b off, A = some ⟨b, off, none⟩ ∧ ∀ j u, news[j]? = some u → w.cell? ⟨b, off + j, none⟩ = some u) (h1 : ∀ u ∈ news, u.oneCell' = true)
    (h63 : n + m ≤ maxLen) (hbytes : (n + m) * bytes ≤ 140737488355328) (hbase : base ≤ w.heap.size)
    (h : ∀ v' w', w'.ownsRow base e size v' (n + m) (xs ++ news) → w.grownBy w' v.ownBlock → K (a.put o.dst v') w') :
    if Region.wanted o (yielded ops a.tmps) = true then Oper.wp P o a w K Q else E := by
  have hw : Region.wanted o (yielded ops a.tmps) = true := by simp [Region.wanted, hgd]
  rw [if_pos hw]
  exact wp_append_src s x t ho base e i z size bytes ht hi hz hsize hby hzs hsz v n xs hs hown A m c news hx hl hsrc h1 h63 hbytes hbase h

/-- a source that lies below, where the world has grown -/
theorem src_below {W w : World} {A : Option Addr} {news : List Value} (hb : Below W.heap.size W w) (h : news ≠ [] → ∃ b off, A = some ⟨b, off, none⟩ ∧ ∀ j u, news[j]? = some u → W.cell? ⟨b, off + j, none⟩ = some u) :
    news ≠ [] → ∃ b off, A = some ⟨b, off, none⟩ ∧ ∀ j u, news[j]? = some u → w.cell? ⟨b, off + j, none⟩ = some u := fun hne => by
  obtain ⟨b, off, e, hc⟩ := h hne
  refine ⟨b, off, e, fun j u hu => ?_⟩
  have h0 := hc j u hu
  rw [hb.cell (p := ⟨b, off + j, none⟩) (by simpa using World.block_lt_of_cell? _ _ h0)]
  exact h0
/-- a source that is a block of its own -/
theorem src_block {w : World} {M : Nat} {cs : List Value} {t : TypeId} {fr : Nat × Nat} (h : w.heap[M]? = some (.cells cs.toArray t fr)) :
    cs ≠ [] → ∃ b off, (some ⟨M, 0, none⟩ : Option Addr) = some ⟨b, off, none⟩ ∧ ∀ j u, cs[j]? = some u → w.cell? ⟨b, off + j, none⟩ = some u := fun _ =>
  ⟨M, 0, rfl, fun j u hu => by rw [Nat.zero_add, cell_of_row w M j _ _ fr h]; simpa using hu⟩

end Go.Proofs.YtlockjbhdibojaaGreatDoor
