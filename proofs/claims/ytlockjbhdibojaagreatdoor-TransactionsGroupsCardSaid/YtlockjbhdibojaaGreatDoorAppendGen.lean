/-
  append of a whole slice, wherever it lies, onto a row of the call's own; in any program.
-/
import Derived.Test.YtlockjbhdibojaaGreatDoorBeats
namespace Go.Proofs.YtlockjbhdibojaaGreatDoor
open Go.RowKit

theorem run_append_nothing {P : Program} (w : World) (base : Nat) (t ty e : TypeId) (i : TypeInfo) (size : Nat) (ht : P.underlying t = some (.slice e)) (hi : P.info? e = some i)
    (v : Value) (n : Nat) (xs : List Value) (hown : w.ownsRow base e size v n xs) (c : Nat) : (Builtin.append_ #[t, t] ty #[v, .slice none 0 c]).run P w = .ok v w := by
  rcases hown.2 with ⟨rfl, rfl⟩ | ⟨g, cap, cur, rfl, _, _, hnc, _⟩
  · simp [Builtin.append_, run_underlying ht, sizeOf, typeInfo, hi, Builtin.lenOf, Builtin.firstCells]
  · simp [Builtin.append_, run_underlying ht, sizeOf, typeInfo, hi, Builtin.lenOf, Builtin.firstCells, hnc, storeCells]
theorem addr_add (b off j : Nat) : (⟨b, off, none⟩ : Addr).add j = ⟨b, off + j, none⟩ := by
  unfold Addr.add
  by_cases h : j = 0 <;> simp [h]
theorem append_src {P : Program} {ops : Array Oper} {rest : List Oper} {o : Oper} {a : Act} {Q : Exit → Act → World → Prop} {w : World} (hgd : o.guard = none) (s x : Operand) (t : TypeId)
    (ho : o.op = .call { callee := .builtin .append, args := #[s, x], argTypes := #[t, t] })
    (base : Nat) (e : TypeId) (i : TypeInfo) (z : Value) (size bytes : Nat) (ht : P.underlying t = some (.slice e)) (hi : P.info? e = some i) (hz : i.zero = some z)
    (hsize : i.size = size) (hby : i.bytes = bytes) (hzs : z.cells.size = size) (hsz : 0 < size)
    (v : Value) (n : Nat) (xs : List Value) (hs : a.eval s = v) (hown : w.ownsRow base e size v n xs)
    (A : Option Addr) (m c : Nat) (news : List Value) (hx : a.eval x = .slice A m c) (hl : news.length = m * size)
    (hsrc : news ≠ [] → ∃ b off, A = some ⟨b, off, none⟩ ∧ ∀ j u, news[j]? = some u → w.cell? ⟨b, off + j, none⟩ = some u) (h1 : ∀ u ∈ news, u.oneCell' = true)
    (h63 : n + m ≤ maxLen) (hbytes : (n + m) * bytes ≤ 140737488355328) (hbase : base ≤ w.heap.size)
    (h : ∀ v' w', w'.ownsRow base e size v' (n + m) (xs ++ news) → w.grownBy w' v.ownBlock → wpList P ops Q rest (a.put o.dst v') w') : wpList P ops Q (o :: rest) a w := by
  by_cases hne : news = []
  · subst hne
    have hm : m = 0 := by
      rcases Nat.eq_zero_or_pos m with h0 | h0
      · exact h0
      · have := Nat.mul_pos h0 hsz
        simp at hl
        omega
    subst hm
    cases A with
    | none =>
      refine wpList_plain hgd fun K hK => ?_
      have hrun := run_append_nothing (P := P) w base t o.type e i size ht hi v n xs hown c
      unfold Oper.wp execOp
      simp only [ho, resolve, invoke, builtin, Sem.run_bind, Sem.run_pure, Result.andThen_ok, List.map_toArray, List.map_cons, List.map_nil, hs, hx, hrun]
      exact hK _ _ (h v w (by simpa using hown) (World.grownBy.refl w _))
    | some ad =>
      exact wpList_append_own _ hgd s x t ho base e i z size bytes ht hi hz hsize hby hzs hsz v n xs hs hown ad 0 c [] hx (by simp) (by simp) (by simp) h63 hbytes hbase fun v' w' h2 h3 _ => h v' w' h2 h3
  · obtain ⟨b, off, rfl, hc⟩ := hsrc hne
    exact wpList_append_own _ hgd s x t ho base e i z size bytes ht hi hz hsize hby hzs hsz v n xs hs hown ⟨b, off, none⟩ m c news hx hl (fun j u hu => by rw [addr_add]; exact hc j u hu) h1 h63 hbytes hbase fun v' w' h2 h3 _ => h v' w' h2 h3

theorem infoS : (Tryz.prog.info? 9).map (fun i => (i.zero, i.size, i.bytes)) = some (some (.string ByteArray.empty), 1, 16) := by kernel_rfl
theorem StrsAt.src {w : World} {P : Nat → Prop} {A : Option Addr} {vs : List ByteArray} (h : StrsAt w P A vs) : vs.map Value.string ≠ [] → ∃ b off, A = some ⟨b, off, none⟩ ∧ ∀ j u, (vs.map Value.string)[j]? = some u → w.cell? ⟨b, off + j, none⟩ = some u := by
  intro hne
  obtain ⟨b, off, e, _, hc⟩ := h (fun e => hne (by rw [e]; rfl))
  refine ⟨b, off, e, fun j u hu => ?_⟩
  rw [List.getElem?_map] at hu
  cases hj : vs[j]? with
  | none => rw [hj] at hu; cases hu
  | some z =>
    rw [hj] at hu
    simp only [Option.map_some, Option.some.injEq] at hu
    subst hu
    exact hc j z hj
theorem strs_of_row {w : World} {base : Nat} {v : Value} {vs : List ByteArray} (h : w.ownsRow base 9 1 v vs.length (vs.map Value.string)) : ∃ V c, v = .slice V vs.length c ∧ StrsAt w (fun b => base ≤ b ∧ b < w.heap.size) V vs := by
  rcases Joins.ownsRow_forms h with ⟨rfl, h0⟩ | ⟨g, cap, rfl⟩
  · exact ⟨none, 0, by rw [h0], fun hne => absurd (List.eq_nil_of_length_eq_zero h0) hne⟩
  · refine ⟨_, cap, rfl, fun hne => ?_⟩
    obtain ⟨g', e, h1, h2⟩ := own_place h (List.length_pos_iff.2 hne)
    injection e with e
    injection e with e
    subst e
    refine ⟨g, 0, rfl, ⟨h1, h2⟩, fun i s hi => ?_⟩
    have hlt : i < vs.length := (List.getElem?_eq_some_iff.1 hi).1
    rw [Nat.zero_add, World.ownsRow.cellAt h _ (by omega), List.getElem?_map, hi]
    rfl

set_option maxRecDepth 100000 in
theorem clone_any (P : Nat → Prop) (A : Option Addr) (c : Nat) (vs : List ByteArray) (w : World) (hv : StrsAt w P A vs) (hl : vs.length * 16 ≤ 140737488355328) (hp : ∀ b, P b → b < w.heap.size) :
    Calls Tryz.prog 14 #[.slice A vs.length c] w fun e w' => ∃ V cap, e = .returned (.slice V vs.length cap) ∧ StrsAt w' (fun b => w.heap.size ≤ b ∧ b < w'.heap.size) V vs ∧ Below w.heap.size w w' := by
  have q25 : ∀ (w : World) (a : Option Addr) (n c n' c' : Nat), (binOp .eql 25 (.slice a n c) (.slice none n' c')).run Tryz.prog w = .ok (.bool a.isNone) w := fun w a n c n' c' => Lib.run_eql_slice_nil w _ _ a n c n' c' Tryz.underlying25
  cases A with
  | none =>
    have h0 : vs = [] := by
      rcases vs with _ | ⟨v, vs⟩
      · rfl
      · obtain ⟨_, _, e, _⟩ := hv (by simp)
        cases e
    subst h0
    go_enter Tryz.func14, Tryz.ntmps14
    go_wp2
    go_ret
    exact ⟨none, 0, rfl, StrsAt.nil, Below.refl _ _⟩
  | some ad =>
    obtain ⟨i0, hi0, hz0, hz1, hz2⟩ := info_parts infoS
    have hsrc := (hv.stay (stay_alloc (.cells #[] 9) hp)).src
    have HS := hide hsrc
    clear hsrc hv hp
    go_enter Tryz.func14, Tryz.ntmps14
    go_wp2_with (at_builtin; (refine append_src rfl _ _ 25 rfl w.heap.size 9 i0 _ 1 16 Tryz.underlying25 hi0 hz0 hz1 hz2 rfl (by decide) (.slice (some ⟨w.heap.size, 0, none⟩) 0 0) 0 [] rfl (World.ownsRow_lit w #[] 0 (Nat.le_refl _) (by simp [maxLen]) rfl) (some ad) vs.length c (vs.map Value.string) rfl (by simp) HS.out (by simp [Value.oneCell']) (by simp only [maxLen]; omega) (by omega) (by simp) ?_); intro v' w1 hown hgrow)
    go_ret
    obtain ⟨V, cap, rfl, hs⟩ := strs_of_row (vs := vs) (by simpa using hown)
    exact ⟨V, cap, rfl, hs, ((Below.refl _ w).alloc (Nat.le_refl _) _).grown hgrow (by simp) (fun k hk => Nat.le_of_eq (by simpa [Value.ownBlock] using hk))⟩

end Go.Proofs.YtlockjbhdibojaaGreatDoor
