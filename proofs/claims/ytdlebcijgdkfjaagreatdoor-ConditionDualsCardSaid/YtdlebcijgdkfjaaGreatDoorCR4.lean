/-
  Several texts in one: Mem, Code, But. Each says at its head what it holds.
-/
import Derived.Test.YtdlebcijgdkfjaaGreatDoorProg
import Derived.WalkKit
import Derived.WalkSpells
import Derived.WalkLawsBesides
import Derived.Below
import Derived.BigQuiet
import Derived.Deep.QuietTactic
import Derived.LoopTactic
import Derived.RegionTactic
import Derived.Lib.SmallJoins
import Derived.Deep.RegionHeld3
import Derived.Deep.AppendLies
import Derived.Deep.DeepCutAuto
import Derived.Test.YtdlebcijgdkfjaaGreatDoorCR2

/-
  Words for memory that serve every seat: blocks that stay, rows of strings, own rows, append of a whole slice. Nothing here names a function or a struct of the program.
-/
namespace Go.Proofs.YtdlebcijgdkfjaaGreatDoor
open Go.RowKit

theorem hide {p : Prop} (h : p) : Hid p := h
def I64 (n : Int) : Prop := -9223372036854775808 ≤ n ∧ n ≤ 9223372036854775807

/-- the blocks that P names are as they were -/
def Stay (P : Nat → Prop) (w w' : World) : Prop := ∀ b, P b → w'.heap[b]? = w.heap[b]?
theorem Stay.refl (P : Nat → Prop) (w : World) : Stay P w w := fun _ _ => rfl
theorem Stay.trans {P : Nat → Prop} {a b c : World} (h : Stay P a b) (h' : Stay P b c) : Stay P a c := fun k hk => (h' k hk).trans (h k hk)
theorem Stay.cell {P : Nat → Prop} {w w' : World} (h : Stay P w w') {b o : Nat} (hb : P b) : w'.cell? ⟨b, o, none⟩ = w.cell? ⟨b, o, none⟩ := World.cell?_of_block (a := ⟨b, o, none⟩) (h b hb)
theorem stay_below {P : Nat → Prop} {w w' : World} (h : Below w.heap.size w w') (hp : ∀ b, P b → b < w.heap.size) : Stay P w w' := fun b hb => h.block b (hp b hb)
/-- a list of strings, in blocks that P names -/
def StrsAt (w : World) (P : Nat → Prop) (A : Option Addr) (vs : List ByteArray) : Prop :=
  vs ≠ [] → ∃ b off, A = some ⟨b, off, none⟩ ∧ P b ∧ ∀ i s, vs[i]? = some s → w.cell? ⟨b, off + i, none⟩ = some (.string s)

section
variable {w w' : World} {P P' : Nat → Prop} {A : Option Addr}
theorem StrsAt.stay {vs : List ByteArray} (h : StrsAt w P A vs) (hs : Stay P w w') : StrsAt w' P A vs := fun hx => by
  obtain ⟨b, off, e, hb, hc⟩ := h hx
  exact ⟨b, off, e, hb, fun i s hi => (hs.cell hb).trans (hc i s hi)⟩
theorem StrsAt.more {vs : List ByteArray} (h : StrsAt w P A vs) (hp : ∀ b, P b → P' b) : StrsAt w P' A vs := fun hx => by
  obtain ⟨b, off, e, hb, hc⟩ := h hx
  exact ⟨b, off, e, hp b hb, hc⟩
theorem StrsAt.at_ {vs : List ByteArray} (h : StrsAt w P A vs) {k : Nat} (hk : k < vs.length) : ∃ b off, A = some ⟨b, off, none⟩ ∧ P b ∧ w.cell? ⟨b, off + k, none⟩ = some (.string vs[k]) := by
  obtain ⟨b, off, e, hb, hc⟩ := h (fun e => by subst e; simp at hk)
  exact ⟨b, off, e, hb, hc k _ (List.getElem?_eq_getElem hk)⟩
theorem StrsAt.nil : StrsAt w P A [] := fun h => absurd rfl h
end

/-- below a block -/
def Lo (n : Nat) (b : Nat) : Prop := b < n

theorem flat_len {α : Type} (f : α → List Value) (m : Nat) (hf : ∀ x, (f x).length = m) (xs : List α) : (xs.flatMap f).length = xs.length * m := by
  induction xs with
  | nil => simp
  | cons x xs ih => rw [List.flatMap_cons, List.length_append, hf, ih, List.length_cons, Nat.add_mul]; omega
theorem flat_at {α : Type} (f : α → List Value) (m : Nat) (hf : ∀ x, (f x).length = m) {xs : List α} {i j : Nat} {x : α} (h : xs[i]? = some x) (hj : j < m) : (xs.flatMap f)[i * m + j]? = (f x)[j]? := by
  induction xs generalizing i with
  | nil => simp at h
  | cons y ys ih =>
    cases i with
    | zero =>
      simp at h; subst h
      rw [List.flatMap_cons, Nat.zero_mul, Nat.zero_add, List.getElem?_append_left (by rw [hf]; exact hj)]
    | succ i =>
      have := ih (i := i) (by simpa using h)
      rw [List.flatMap_cons, List.getElem?_append_right (by rw [hf, Nat.add_mul]; omega), hf, ← this]
      congr 1
      rw [Nat.add_mul]; omega

/-- the block of a slice -/
def ob (A : Option Addr) : Option Nat := (Value.slice A 0 0).ownBlock
theorem ob_eq (A : Option Addr) (n c : Nat) : (Value.slice A n c).ownBlock = ob A := by cases A <;> rfl
theorem own_place {w : World} {base : Nat} {A : Option Addr} {c : Nat} {e : TypeId} {size n : Nat} {xs : List Value} (h : w.ownsRow base e size (.slice A n c) n xs) (hn : 0 < n) : ∃ g, A = some ⟨g, 0, none⟩ ∧ base ≤ g ∧ g < w.heap.size := by
  obtain ⟨g, cap, e1, h1, h2⟩ := World.ownsRow.form h hn
  injection e1 with e1
  exact ⟨g, e1, h1, h2⟩

theorem box_lt {w : World} {N : Nat} {o : Obj} (h : w.heap[N]? = some o) : N < w.heap.size := (Array.getElem?_eq_some_iff.1 h).1
theorem box_alloc {w : World} {N : Nat} {o o' : Obj} (h : w.heap[N]? = some o) : (w.alloc o').heap[N]? = some o := (Below.heap_alloc w o' N (box_lt h)).trans h
theorem box_below {w w' : World} {N : Nat} {o : Obj} (b : Below w.heap.size w w') (h : w.heap[N]? = some o) : w'.heap[N]? = some o := (b.block N (box_lt h)).trans h
theorem box_grown {w w' : World} {N : Nat} {o : Obj} {row : Option Nat} (h : w.heap[N]? = some o) (hg : w.grownBy w' row) (hr : row ≠ some N) : w'.heap[N]? = some o := (hg.block N (box_lt h) (fun e => hr e.symm)).trans h
theorem box_set {w : World} {N M k : Nat} {o : Obj} {v : Value} (h : w.heap[N]? = some o) (hne : N ≠ M) : (w.setCell ⟨M, k, none⟩ v).heap[N]? = some o := by
  rw [Below.heap_setCell _ _ _ _ (by simpa using hne)]; exact h
theorem bstep {w0 w w' : World} (h : Below w0.heap.size w0 w) (hb : Below w.heap.size w w') : Below w0.heap.size w0 w' := h.trans (hb.mono h.size)
theorem box2 {w : World} {N : Nat} {a b : Value} {t : TypeId} (h : w.heap[N]? = some (.cells #[a, b] t (0, 0))) : w.cell? ⟨N, 0, none⟩ = some a ∧ w.cell? ⟨N, 1, none⟩ = some b ∧ w.frozen? ⟨N, 0, none⟩ = false ∧ w.frozen? ⟨N, 1, none⟩ = false :=
  ⟨by rw [cell_of_row w N _ _ t (0, 0) h]; rfl, by rw [cell_of_row w N _ _ t (0, 0) h]; rfl, by simp [World.frozen?, h], by simp [World.frozen?, h]⟩
theorem own_ob {w : World} {base : Nat} {e : TypeId} {size n : Nat} {A : Option Addr} {c : Nat} {xs : List Value} (h : w.ownsRow base e size (.slice A n c) n xs) (g : Nat) (hg : ob A = some g) : base ≤ g ∧ g < w.heap.size :=
  World.ownsRow.lt h g ((ob_eq A n c).trans hg)
/-- an own row, where another block was written or grown -/
theorem own_block {w w' : World} {base : Nat} {e : TypeId} {size n : Nat} {A : Option Addr} {c : Nat} {xs : List Value} (h : w.ownsRow base e size (.slice A n c) n xs) (hk : ∀ g, ob A = some g → w'.heap[g]? = w.heap[g]?) : w'.ownsRow base e size (.slice A n c) n xs := by
  refine ⟨h.1, ?_⟩
  rcases h.2 with h2 | ⟨g, cap, cur, h2, h3, h4, h5⟩
  · exact .inl h2
  · refine .inr ⟨g, cap, cur, h2, h3, ?_, h5⟩
    rw [hk g ?_]
    · exact h4
    · rw [← ob_eq A n c, h2]; rfl

theorem below_drewN {B : Nat} {a w : World} (h : Below B a w) (n : Nat) : Below B a (w.drewN n) := ⟨h.os, h.tape, h.output, h.size, h.block⟩
theorem below_drew {B : Nat} {a w : World} (h : Below B a w) : Below B a w.drew := ⟨h.os, h.tape, h.output, h.size, h.block⟩
theorem run_append_nothing {P : Program} (w : World) (base : Nat) (t ty e : TypeId) (i : TypeInfo) (size : Nat) (ht : P.underlying t = some (.slice e)) (hi : P.info? e = some i)
    (v : Value) (n : Nat) (xs : List Value) (hown : w.ownsRow base e size v n xs) (c : Nat) : (Builtin.append_ #[t, t] ty #[v, .slice none 0 c]).run P w = .ok v w := by
  rcases hown.2 with ⟨rfl, rfl⟩ | ⟨g, cap, cur, rfl, _, _, hnc, _⟩
  · simp [Builtin.append_, run_underlying ht, sizeOf, typeInfo, hi, Builtin.lenOf, Builtin.firstCells]
  · simp [Builtin.append_, run_underlying ht, sizeOf, typeInfo, hi, Builtin.lenOf, Builtin.firstCells, hnc, storeCells]
theorem addr_add (b off j : Nat) : (⟨b, off, none⟩ : Addr).add j = ⟨b, off + j, none⟩ := by
  unfold Addr.add
  by_cases h : j = 0 <;> simp [h]
theorem append_src {P : Program} {ops : Array Oper} {rest : List Oper} {o : Oper} {a : Act} {Q : Exit → Act → World → Prop} {w : World} (hgd : o.guard = none) (s x : Operand) (t : TypeId)
    (ho : o.op = .call { callee := .builtin .append, args := #[s, x], argTypes := #[t, t] })
    (base : Nat) (e : TypeId) (i : TypeInfo) (z : Value) (size bytes : Nat) (ht : P.underlying t = some (.slice e)) (hi : P.info? e = some i) (hz : i.zero = some z)
    (hsize : i.size = size) (hby : i.bytes = bytes) (hzs : z.cells.size = size) (hsz : 0 < size)
    (v : Value) (n : Nat) (xs : List Value) (hs : a.eval s = v) (hown : w.ownsRow base e size v n xs)
    (A : Option Addr) (m c : Nat) (news : List Value) (hx : a.eval x = .slice A m c) (hl : news.length = m * size)
    (hsrc : news ≠ [] → ∃ b off, A = some ⟨b, off, none⟩ ∧ ∀ j u, news[j]? = some u → w.cell? ⟨b, off + j, none⟩ = some u) (h1 : ∀ u ∈ news, u.oneCell' = true)
    (h63 : n + m ≤ maxLen) (hbytes : (n + m) * bytes ≤ 140737488355328) (hbase : base ≤ w.heap.size)
    (h : ∀ v' w', w'.ownsRow base e size v' (n + m) (xs ++ news) → w.grownBy w' v.ownBlock → wpList P ops Q rest (a.put o.dst v') w') : wpList P ops Q (o :: rest) a w := by
  by_cases hne : news = []
  · subst hne
    have hm : m = 0 := by
      rcases Nat.eq_zero_or_pos m with h0 | h0
      · exact h0
      · have := Nat.mul_pos h0 hsz
        simp at hl
        omega
    subst hm
    cases A with
    | none =>
      refine wpList_plain hgd fun K hK => ?_
      have hrun := run_append_nothing (P := P) w base t o.type e i size ht hi v n xs hown c
      unfold Oper.wp execOp
      simp only [ho, resolve, invoke, builtin, Sem.run_bind, Sem.run_pure, Result.andThen_ok, List.map_toArray, List.map_cons, List.map_nil, hs, hx, hrun]
      exact hK _ _ (h v w (by simpa using hown) (World.grownBy.refl w _))
    | some ad =>
      exact wpList_append_own _ hgd s x t ho base e i z size bytes ht hi hz hsize hby hzs hsz v n xs hs hown ad 0 c [] hx (by simp) (by simp) (by simp) h63 hbytes hbase fun v' w' h2 h3 _ => h v' w' h2 h3
  · obtain ⟨b, off, rfl, hc⟩ := hsrc hne
    exact wpList_append_own _ hgd s x t ho base e i z size bytes ht hi hz hsize hby hzs hsz v n xs hs hown ⟨b, off, none⟩ m c news hx hl (fun j u hu => by rw [addr_add]; exact hc j u hu) h1 h63 hbytes hbase fun v' w' h2 h3 _ => h v' w' h2 h3

theorem wp_append_src {P : Program} {o : Oper} {a : Act} {K : Act → World → Prop} {Q : Exit → Act → World → Prop} {w : World} (s x : Operand) (t : TypeId)
    (ho : o.op = .call { callee := .builtin .append, args := #[s, x], argTypes := #[t, t] })
    (base : Nat) (e : TypeId) (i : TypeInfo) (z : Value) (size bytes : Nat) (ht : P.underlying t = some (.slice e)) (hi : P.info? e = some i) (hz : i.zero = some z)
    (hsize : i.size = size) (hby : i.bytes = bytes) (hzs : z.cells.size = size) (hsz : 0 < size)
    (v : Value) (n : Nat) (xs : List Value) (hs : a.eval s = v) (hown : w.ownsRow base e size v n xs)
    (A : Option Addr) (m c : Nat) (news : List Value) (hx : a.eval x = .slice A m c) (hl : news.length = m * size)
    (hsrc : news ≠ [] → ∃ b off, A = some ⟨b, off, none⟩ ∧ ∀ j u, news[j]? = some u → w.cell? ⟨b, off + j, none⟩ = some u) (h1 : ∀ u ∈ news, u.oneCell' = true)
    (h63 : n + m ≤ maxLen) (hbytes : (n + m) * bytes ≤ 140737488355328) (hbase : base ≤ w.heap.size)
    (h : ∀ v' w', w'.ownsRow base e size v' (n + m) (xs ++ news) → w.grownBy w' v.ownBlock → K (a.put o.dst v') w') : o.wp P a w K Q := by
  by_cases hne : news = []
  · subst hne
    have hm : m = 0 := by
      rcases Nat.eq_zero_or_pos m with h0 | h0
      · exact h0
      · have := Nat.mul_pos h0 hsz
        simp at hl
        omega
    subst hm
    cases A with
    | none =>
      have hrun := run_append_nothing (P := P) w base t o.type e i size ht hi v n xs hown c
      unfold Oper.wp execOp
      simp only [ho, resolve, invoke, builtin, Sem.run_bind, Sem.run_pure, Result.andThen_ok, List.map_toArray, List.map_cons, List.map_nil, hs, hx, hrun]
      exact h v w (by simpa using hown) (World.grownBy.refl w _)
    | some ad =>
      exact wp_append_own w s x t ho base e i z size bytes ht hi hz hsize hby hzs hsz v n xs hs hown ad 0 c [] hx (by simp) (by simp) (by simp) h63 hbytes hbase fun v' w' h2 h3 _ => h v' w' h2 h3
  · obtain ⟨b, off, rfl, hc⟩ := hsrc hne
    exact wp_append_own w s x t ho base e i z size bytes ht hi hz hsize hby hzs hsz v n xs hs hown ⟨b, off, none⟩ m c news hx hl (fun j u hu => by rw [addr_add]; exact hc j u hu) h1 h63 hbytes hbase fun v' w' h2 h3 _ => h v' w' h2 h3

theorem step_append_src {P : Program} {ops : Array Oper} {o : Oper} {a : Act} {K : Act → World → Prop} {Q : Exit → Act → World → Prop} {E : Prop} {w : World} (hgd : o.guard = none) (s x : Operand) (t : TypeId)
    (ho : o.op = .call { callee := .builtin .append, args := #[s, x], argTypes := #[t, t] })
    (base : Nat) (e : TypeId) (i : TypeInfo) (z : Value) (size bytes : Nat) (ht : P.underlying t = some (.slice e)) (hi : P.info? e = some i) (hz : i.zero = some z)
    (hsize : i.size = size) (hby : i.bytes = bytes) (hzs : z.cells.size = size) (hsz : 0 < size)
    (v : Value) (n : Nat) (xs : List Value) (hs : a.eval s = v) (hown : w.ownsRow base e size v n xs)
    (A : Option Addr) (m c : Nat) (news : List Value) (hx : a.eval x = .slice A m c) (hl : news.length = m * size)
    (hsrc : news ≠ [] → ∃ b off, A = some ⟨b, off, none⟩ ∧ ∀ j u, news[j]? = some u → w.cell? ⟨b, off + j, none⟩ = some u) (h1 : ∀ u ∈ news, u.oneCell' = true)
    (h63 : n + m ≤ maxLen) (hbytes : (n + m) * bytes ≤ 140737488355328) (hbase : base ≤ w.heap.size)
    (h : ∀ v' w', w'.ownsRow base e size v' (n + m) (xs ++ news) → w.grownBy w' v.ownBlock → K (a.put o.dst v') w') :
    if Region.wanted o (yielded ops a.tmps) = true then Oper.wp P o a w K Q else E := by
  have hw : Region.wanted o (yielded ops a.tmps) = true := by simp [Region.wanted, hgd]
  rw [if_pos hw]
  exact wp_append_src s x t ho base e i z size bytes ht hi hz hsize hby hzs hsz v n xs hs hown A m c news hx hl hsrc h1 h63 hbytes hbase h

/-- a source that is a block of its own -/
theorem src_block {w : World} {M : Nat} {cs : List Value} {t : TypeId} {fr : Nat × Nat} (h : w.heap[M]? = some (.cells cs.toArray t fr)) :
    cs ≠ [] → ∃ b off, (some ⟨M, 0, none⟩ : Option Addr) = some ⟨b, off, none⟩ ∧ ∀ j u, cs[j]? = some u → w.cell? ⟨b, off + j, none⟩ = some u := fun _ =>
  ⟨M, 0, rfl, fun j u hu => by rw [Nat.zero_add, cell_of_row w M j _ _ fr h]; simpa using hu⟩

theorem StrsAt.src {w : World} {P : Nat → Prop} {A : Option Addr} {vs : List ByteArray} (h : StrsAt w P A vs) : vs.map Value.string ≠ [] → ∃ b off, A = some ⟨b, off, none⟩ ∧ ∀ j u, (vs.map Value.string)[j]? = some u → w.cell? ⟨b, off + j, none⟩ = some u := by
  intro hne
  obtain ⟨b, off, e, _, hc⟩ := h (fun e => hne (by rw [e]; rfl))
  refine ⟨b, off, e, fun j u hu => ?_⟩
  rw [List.getElem?_map] at hu
  cases hj : vs[j]? with
  | none => rw [hj] at hu; cases hu
  | some z =>
    rw [hj] at hu
    simp only [Option.map_some, Option.some.injEq] at hu
    subst hu
    exact hc j z hj

end Go.Proofs.YtdlebcijgdkfjaaGreatDoor

/-
  condition.code, inverted, tableOf; byte slices in memory.
-/
namespace Go.Proofs.YtdlebcijgdkfjaaGreatDoor
open Go.RowKit

theorem byte_lt (c : UInt8) : c.toNat < 256 := c.toNat_lt
theorem code_any (c : UInt8) (w : World) : Calls Tryz.prog 80 #[.int .u8 (c.toNat : Int)] w fun e w' => e = .returned (.int .i64 (codeC c : Int)) ∧ w = w' := by
  have hc := byte_lt c
  by_cases h0 : c = 48
  · subst h0
    go_enter Tryz.func80, Tryz.ntmps80
    go_wp2_with fail
    go_ret
    exact ⟨rfl, rfl⟩
  · by_cases h1 : c = 49
    · subst h1
      go_enter Tryz.func80, Tryz.ntmps80
      go_wp2_with fail
      go_ret
      exact ⟨rfl, rfl⟩
    · have n0 : c.toNat ≠ 48 := fun e => h0 (UInt8.toNat_inj.1 e)
      have n1 : c.toNat ≠ 49 := fun e => h1 (UInt8.toNat_inj.1 e)
      have t0 : ((c.toNat : Int) == 48) = false := beq_eq_false_iff_ne.2 (by omega)
      have t1 : ((c.toNat : Int) == 49) = false := beq_eq_false_iff_ne.2 (by omega)
      have hk : codeC c = 2 := by unfold codeC; simp [h0, h1]
      have HK := hide hk
      clear hk h0 h1
      go_enter Tryz.func80, Tryz.ntmps80
      go_wp2_with fail
      go_ret
      exact ⟨by rw [HK.out]; rfl, rfl⟩

theorem codeC_le (c : UInt8) : codeC c ≤ 2 := by unfold codeC; (split; omega); (split <;> omega)
theorem inv_code (c : UInt8) : invC c = ([49, 48, 120] : List UInt8).getD (codeC c) 0 := by unfold invC codeC; (split; rfl); (split <;> rfl)
theorem zx_code (c : UInt8) : zxC c = ([48, 49, 120] : List UInt8).getD (codeC c) 0 := by unfold zxC codeC; (split; rfl); (split <;> rfl)

theorem inverted_any (c : UInt8) (w : World) : Calls Tryz.prog 77 #[.int .u8 (c.toNat : Int)] w fun e w' => e = .returned (.int .u8 ((invC c).toNat : Int)) ∧ w = w' := by
  have hk := inv_code c
  have hle := codeC_le c
  have hx : codeC c = 0 ∨ codeC c = 1 ∨ codeC c = 2 := by omega
  have HX := hide hx
  have HK := hide hk
  clear hx hk
  go_enter Tryz.func77, Tryz.ntmps77
  go_wp2_with fail
  refine (code_any c _).mono ?_
  rintro e w1 ⟨rfl, rfl⟩
  have hx := HX.out
  generalize codeC c = n at *
  clear HX
  rcases hx with rfl | rfl | rfl
  all_goals
    go_wp2_with fail
    go_ret
    exact ⟨by rw [HK.out]; rfl, rfl⟩

/-- the table of an operator, written out -/
def tabOf (k : Int) : List UInt8 := if k = 9 ∨ k = 14 then [48, 48, 48, 48, 49, 120, 48, 120, 120] else if k = 10 ∨ k = 15 then [48, 49, 120, 49, 49, 49, 120, 49, 120] else if k = 11 ∨ k = 16 then [48, 49, 120, 49, 48, 120, 120, 120, 120] else [0, 0, 0, 0, 0, 0, 0, 0, 0]
def tabV (l : List UInt8) : Array Value := (l.map fun c => Value.int .u8 (c.toNat : Int)).toArray
def isTab (k : Int) : Bool := decide ((9 ≤ k ∧ k ≤ 11) ∨ (14 ≤ k ∧ k ≤ 16))
theorem op_tab (k : Int) (hk : k = 9 ∨ k = 10 ∨ k = 11) (a b : UInt8) : opC k a b = (tabOf k).getD (codeC a * 3 + codeC b) 0 ∧ opC k a b = (tabOf (k + 5)).getD (codeC a * 3 + codeC b) 0 := by
  unfold opC tabOf andC orC xorC codeC knC
  rcases hk with rfl | rfl | rfl <;> by_cases a0 : a = 48 <;> by_cases a1 : a = 49 <;> by_cases b0 : b = 48 <;> by_cases b1 : b = 49 <;> simp_all
theorem tabOf_len (k : Int) : (tabOf k).length = 9 := by unfold tabOf; (split; rfl); (split; rfl); (split <;> rfl)
set_option maxRecDepth 100000 in
set_option maxHeartbeats 4000000 in
theorem tableOf_any (k : Int) (w : World) : Calls Tryz.prog 73 #[.int .i64 k] w fun e w' => e = .returned (.tuple #[.agg (tabV (tabOf k)), .bool (isTab k)]) ∧ Below w.heap.size w w' := by
  by_cases h : k = 9 ∨ k = 10 ∨ k = 11 ∨ k = 14 ∨ k = 15 ∨ k = 16
  · rcases h with rfl | rfl | rfl | rfl | rfl | rfl
    all_goals
      go_enter Tryz.func73, Tryz.ntmps73
      go_wp2_with fail
    · exact bodyPost_ret (v := .tuple #[.agg (tabV (tabOf 9)), .bool (isTab 9)]) (by simp [results, Tryz.results73, go_sem, tabV, tabOf, isTab]) rfl ⟨rfl, (Below.refl _ _).alloc (Nat.le_refl _) _⟩
    · exact bodyPost_ret (v := .tuple #[.agg (tabV (tabOf 10)), .bool (isTab 10)]) (by simp [results, Tryz.results73, go_sem, tabV, tabOf, isTab]) rfl ⟨rfl, (Below.refl _ _).alloc (Nat.le_refl _) _⟩
    · exact bodyPost_ret (v := .tuple #[.agg (tabV (tabOf 11)), .bool (isTab 11)]) (by simp [results, Tryz.results73, go_sem, tabV, tabOf, isTab]) rfl ⟨rfl, (Below.refl _ _).alloc (Nat.le_refl _) _⟩
    · exact bodyPost_ret (v := .tuple #[.agg (tabV (tabOf 14)), .bool (isTab 14)]) (by simp [results, Tryz.results73, go_sem, tabV, tabOf, isTab]) rfl ⟨rfl, (Below.refl _ _).alloc (Nat.le_refl _) _⟩
    · exact bodyPost_ret (v := .tuple #[.agg (tabV (tabOf 15)), .bool (isTab 15)]) (by simp [results, Tryz.results73, go_sem, tabV, tabOf, isTab]) rfl ⟨rfl, (Below.refl _ _).alloc (Nat.le_refl _) _⟩
    · exact bodyPost_ret (v := .tuple #[.agg (tabV (tabOf 16)), .bool (isTab 16)]) (by simp [results, Tryz.results73, go_sem, tabV, tabOf, isTab]) rfl ⟨rfl, (Below.refl _ _).alloc (Nat.le_refl _) _⟩
  · have e9 : (k == 9) = false := beq_eq_false_iff_ne.2 (by omega)
    have e10 : (k == 10) = false := beq_eq_false_iff_ne.2 (by omega)
    have e11 : (k == 11) = false := beq_eq_false_iff_ne.2 (by omega)
    have e14 : (k == 14) = false := beq_eq_false_iff_ne.2 (by omega)
    have e15 : (k == 15) = false := beq_eq_false_iff_ne.2 (by omega)
    have e16 : (k == 16) = false := beq_eq_false_iff_ne.2 (by omega)
    have h1 : tabOf k = [0, 0, 0, 0, 0, 0, 0, 0, 0] := by unfold tabOf; rw [if_neg (by omega), if_neg (by omega), if_neg (by omega)]
    have h2 : isTab k = false := by unfold isTab; exact decide_eq_false (by omega)
    rw [h1, h2]
    clear h h1 h2
    go_enter Tryz.func73, Tryz.ntmps73
    go_wp2_with fail
    exact bodyPost_ret (v := .tuple #[.agg (tabV [0, 0, 0, 0, 0, 0, 0, 0, 0]), .bool false]) (by simp [results, Tryz.results73, go_sem, tabV]) rfl ⟨rfl, (Below.refl _ _).alloc (Nat.le_refl _) _⟩

end Go.Proofs.YtdlebcijgdkfjaaGreatDoor

/-
  Memory that has only grown, but for one block.
-/
namespace Go.Proofs.YtdlebcijgdkfjaaGreatDoor
open Go.RowKit

/-- as Below, but for one block -/
structure But (n : Nat) (x : Option Nat) (w w' : World) : Prop where
  os : w'.os = w.os
  tape : w'.tape = w.tape
  output : w'.output = w.output
  size : w.heap.size ≤ w'.heap.size
  block : ∀ b, b < n → some b ≠ x → w'.heap[b]? = w.heap[b]?
theorem But.refl (n : Nat) (x : Option Nat) (w : World) : But n x w w := ⟨rfl, rfl, rfl, Nat.le_refl _, fun _ _ _ => rfl⟩
theorem But.trans {n : Nat} {x : Option Nat} {a b c : World} (h : But n x a b) (k : But n x b c) : But n x a c := ⟨k.os.trans h.os, k.tape.trans h.tape, k.output.trans h.output, Nat.le_trans h.size k.size, fun i hi hx => (k.block i hi hx).trans (h.block i hi hx)⟩
theorem But.mono {n m : Nat} {x : Option Nat} {a b : World} (h : But n x a b) (hm : m ≤ n) : But m x a b := ⟨h.os, h.tape, h.output, h.size, fun i hi hx => h.block i (by omega) hx⟩
theorem But.of {n : Nat} {x : Option Nat} {a b : World} (h : Below n a b) : But n x a b := ⟨h.os, h.tape, h.output, h.size, fun i hi _ => h.block i hi⟩
theorem But.below {n m : Nat} {a b : World} {x : Option Nat} (h : But n x a b) (hm : m ≤ n) (hx : ∀ k, x = some k → m ≤ k) : Below m a b := ⟨h.os, h.tape, h.output, h.size, fun i hi => h.block i (by omega) fun e => by have := hx i e.symm; omega⟩

end Go.Proofs.YtdlebcijgdkfjaaGreatDoor
