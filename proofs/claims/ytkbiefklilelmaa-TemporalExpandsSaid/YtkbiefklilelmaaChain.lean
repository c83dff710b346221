/-
  temporal.chain: the times from which y is reached while x holds.
-/
import Derived.Test.YtkbiefklilelmaaChainS
import Derived.Test.YtkbiefklilelmaaTruth
import Derived.Test.YtkbiefklilelmaaAppend
namespace Go.Proofs.Ytkbiefklilelmaa
open Go.RowKit Go.Joins

theorem wp_append_src {P : Program} {o : Oper} {a : Act} {K : Act → World → Prop} {Q : Exit → Act → World → Prop} {w : World} (s x : Operand) (t : TypeId)
    (ho : o.op = .call { callee := .builtin .append, args := #[s, x], argTypes := #[t, t] })
    (base : Nat) (e : TypeId) (i : TypeInfo) (z : Value) (size bytes : Nat) (ht : P.underlying t = some (.slice e)) (hi : P.info? e = some i) (hz : i.zero = some z)
    (hsize : i.size = size) (hby : i.bytes = bytes) (hzs : z.cells.size = size) (hsz : 0 < size)
    (v : Value) (n : Nat) (xs : List Value) (hs : a.eval s = v) (hown : w.ownsRow base e size v n xs)
    (A : Option Addr) (m c : Nat) (news : List Value) (hx : a.eval x = .slice A m c) (hl : news.length = m * size)
    (hsrc : news ≠ [] → ∃ b off, A = some ⟨b, off, none⟩ ∧ ∀ j u, news[j]? = some u → w.cell? ⟨b, off + j, none⟩ = some u) (h1 : ∀ u ∈ news, u.oneCell' = true)
    (h63 : n + m ≤ maxLen) (hbytes : (n + m) * bytes ≤ 140737488355328) (hbase : base ≤ w.heap.size)
    (h : ∀ v' w', w'.ownsRow base e size v' (n + m) (xs ++ news) → w.grownBy w' v.ownBlock → K (a.put o.dst v') w') : o.wp P a w K Q := by
  by_cases hne : news = []
  · subst hne
    have hm : m = 0 := by
      rcases Nat.eq_zero_or_pos m with h0 | h0
      · exact h0
      · have := Nat.mul_pos h0 hsz
        simp at hl
        omega
    subst hm
    cases A with
    | none =>
      have hrun := run_append_nothing (P := P) w base t o.type e i size ht hi v n xs hown c
      unfold Oper.wp execOp
      simp only [ho, resolve, invoke, builtin, Sem.run_bind, Sem.run_pure, Result.andThen_ok, List.map_toArray, List.map_cons, List.map_nil, hs, hx, hrun]
      exact h v w (by simpa using hown) (World.grownBy.refl w _)
    | some ad =>
      exact wp_append_own _ s x t ho base e i z size bytes ht hi hz hsize hby hzs hsz v n xs hs hown ad 0 c [] hx (by simp) (by simp) (by simp) h63 hbytes hbase fun v' w' h2 h3 _ => h v' w' h2 h3
  · obtain ⟨b, off, rfl, hc⟩ := hsrc hne
    exact wp_append_own _ s x t ho base e i z size bytes ht hi hz hsize hby hzs hsz v n xs hs hown ⟨b, off, none⟩ m c news hx hl (fun j u hu => by rw [addr_add]; exact hc j u hu) h1 h63 hbytes hbase fun v' w' h2 h3 _ => h v' w' h2 h3

theorem step_append_ivs {ops : Array Oper} {o : Oper} {a : Act} {K : Act → World → Prop} {Q : Exit → Act → World → Prop} {E : Prop} {w : World} (hgd : o.guard = none) (s x : Operand)
    (ho : o.op = .call { callee := .builtin .append, args := #[s, x], argTypes := #[22, 22] })
    (base : Nat) (A : Option Addr) (c : Nat) (xs : List Iv) (n : Nat) (hs : a.eval s = .slice A n c) (hn : n = xs.length) (hown : OwnIv w base A c xs)
    (A' : Option Addr) (m c' B : Nat) (ys : List Iv) (hx : a.eval x = .slice A' m c') (hm : m = ys.length) (hy : IvsAt w B A' ys) (hlen : n + m ≤ 4398046511104) (hbase : base ≤ w.heap.size)
    (h : ∀ (A2 : Option Addr) (c2 : Nat) (w' : World), OwnIv w' base A2 c2 (xs ++ ys) → w.grownBy w' (Value.slice A xs.length c).ownBlock → (∀ k, (Value.slice A xs.length c).ownBlock = some k → base ≤ k) →
      K (a.put o.dst (.slice A2 (n + m) c2)) w') :
    if Region.wanted o (yielded ops a.tmps) = true then Oper.wp Try.prog o a w K Q else E := by
  have hwt : Region.wanted o (yielded ops a.tmps) = true := by simp [Region.wanted, hgd]
  rw [if_pos hwt]
  subst hn hm
  obtain ⟨i0, hi0, hz0, hz1, hz2⟩ := info_parts infoIv
  refine wp_append_src s x 22 ho base 42 i0 _ 2 16 Try.underlying22 hi0 hz0 hz1 hz2 rfl (by decide) _ xs.length (encIvs xs) hs hown A' ys.length c' (encIvs ys) hx (encIvs_length ys) hy.src
    encIvs_one (by simp only [maxLen]; omega) (by omega) hbase ?_
  intro v' w' ho' hg
  obtain ⟨A2, c2, rfl, ho''⟩ := OwnIv.of_row (xs := xs ++ ys) ho' (by simp) (by rw [encIvs_append])
  have := h A2 c2 w' ho'' hg hown.block
  simpa using this

theorem norm_len_in {xs : List Iv} (lo hi : Int) (hlo : lo ≤ hi + 2) (h : Norm xs) (hl : ∀ x ∈ xs, lo ≤ x.1 ∧ x.2 ≤ hi) : 2 * (xs.length : Int) + lo ≤ hi + 2 := by
  induction xs generalizing lo with
  | nil => simpa using hlo
  | cons x xs ih =>
    obtain ⟨ox, lx, nx⟩ := norm_cons.1 h
    unfold Okv at ox
    have := hl x (by simp)
    have := ih (x.2 + 2) (by omega) nx fun y hy => ⟨lx y hy, (hl y (by simp [hy])).2⟩
    simp only [List.length_cons]
    omega
theorem piece_in {ys gs : List Iv} {a b : Int} {back : Bool} {r : Iv} (hr : Okv r) (hn : Norm gs) (hm : ∀ t, Mem gs t ↔ pieceS (Mem ys) a b back r t) : 2 * (gs.length : Int) ≤ r.2 - r.1 + 2 := by
  unfold Okv at hr
  have := norm_len_in (xs := gs) r.1 r.2 (by omega) hn fun x hx => by
    have o := hn.1 x hx
    unfold Okv at o
    have h1 := (hm x.1).1 (mem_of hn hx (by omega) (by omega))
    have h2 := (hm x.2).1 (mem_of hn hx (by omega) (by omega))
    unfold pieceS at h1 h2
    cases back
    · simp only [Bool.false_eq_true, if_false] at h1 h2
      unfold growS at h1 h2
      exact ⟨h1.2.1, h2.2.2.1⟩
    · simp only [if_true] at h1 h2
      unfold growS at h1 h2
      exact ⟨h1.2.1, h2.2.2.1⟩
  omega

def chainM (xs ys : List Iv) (a b : Int) (back : Bool) (k : Nat) (t : Int) : Prop := (a = 0 ∧ Mem ys t) ∨ ∃ r ∈ xs.take k, pieceS (Mem ys) a b back r t
theorem chainM_zero (xs ys : List Iv) (a b : Int) (back : Bool) (t : Int) : chainM xs ys a b back 0 t ↔ (a = 0 ∧ Mem ys t) := by simp [chainM]
theorem chainM_succ {xs ys : List Iv} {a b : Int} {back : Bool} {k : Nat} (hk : k < xs.length) (t : Int) : chainM xs ys a b back (k + 1) t ↔ chainM xs ys a b back k t ∨ pieceS (Mem ys) a b back xs[k] t := by
  unfold chainM
  rw [List.take_succ_eq_append_getElem hk]
  constructor
  · rintro (h | ⟨r, hr, h⟩)
    · exact .inl (.inl h)
    · rcases List.mem_append.1 hr with hr | hr
      · exact .inl (.inr ⟨r, hr, h⟩)
      · simp at hr; subst hr; exact .inr h
  · rintro ((h | ⟨r, hr, h⟩) | h)
    · exact .inl h
    · exact .inr ⟨r, List.mem_append.2 (.inl hr), h⟩
    · exact .inr ⟨xs[k], List.mem_append.2 (.inr (List.mem_singleton.2 rfl)), h⟩
def chainQ (xs : List Iv) (k : Nat) (q : Int) : Prop := 0 ≤ q ∧ q ≤ 1099511627778 ∧ ∀ r ∈ xs.drop k, q ≤ r.1
theorem chainQ_step {xs : List Iv} {k : Nat} {q : Int} (hn : Norm xs) (hk : k < xs.length) (h : chainQ xs k q) : q ≤ xs[k].1 ∧ chainQ xs (k + 1) (xs[k].2 + 2) ∧ Okv xs[k] := by
  have o := hn.1 xs[k] (List.getElem_mem hk)
  refine ⟨h.2.2 _ (by rw [List.drop_eq_getElem_cons hk]; exact List.mem_cons_self), ⟨by unfold Okv at o; omega, by unfold Okv at o; omega, fun r hr => ?_⟩, o⟩
  have h2 := hn.2
  rw [← List.take_append_drop k xs, List.drop_eq_getElem_cons hk, List.pairwise_append] at h2
  exact (List.pairwise_cons.1 h2.2.1).1 r hr

def ChainRel (w : World) (xs ys : List Iv) (a b : Int) (back : Bool) (out i : Value) (wr : World) : Prop :=
  ∃ (k : Nat) (A : Option Addr) (c : Nat) (ds : List Iv) (q : Int), k ≤ xs.length ∧ i = .int .i64 k ∧ out = .slice A ds.length c ∧ OwnIv wr w.heap.size A c ds ∧ (∀ t, Mem ds t ↔ chainM xs ys a b back k t) ∧
    2 * (ds.length : Int) ≤ 2 * ys.length + q ∧ chainQ xs k q ∧ Below w.heap.size w wr

theorem chain_len {xs ys ds gs : List Iv} {a b q : Int} {back : Bool} {k : Nat} (hk : k < xs.length) (hn : Norm xs) (hq : chainQ xs k q) (hl : 2 * (ds.length : Int) ≤ 2 * ys.length + q) (ng : Norm gs) (mg : ∀ t, Mem gs t ↔ pieceS (Mem ys) a b back xs[k] t) :
    2 * ((ds ++ gs).length : Int) ≤ 2 * ys.length + (xs[k].2 + 2) ∧ chainQ xs (k + 1) (xs[k].2 + 2) := by
  obtain ⟨h1, h2, h3⟩ := chainQ_step hn hk hq
  have := piece_in h3 ng mg
  rw [List.length_append]
  exact ⟨by omega, h2⟩

theorem ch_keep {w W w1 : World} {N : Nat} {a b : Value} {t : TypeId} (hb0 : Below w.heap.size w W) (g : W.heap[N]? = some (.cells #[a, b] t (0, 0))) (b1 : Below W.heap.size W w1) :
    w1.cell? ⟨N, 0, none⟩ = some a ∧ w1.cell? ⟨N, 1, none⟩ = some b ∧ w1.heap[N]? = some (.cells #[a, b] t (0, 0)) ∧ Below w.heap.size w w1 := by
  have h := below_box b1 (box_lt g) g
  exact ⟨(box2 h).1, (box2 h).2, h, bstep hb0 b1⟩

end Go.Proofs.Ytkbiefklilelmaa
