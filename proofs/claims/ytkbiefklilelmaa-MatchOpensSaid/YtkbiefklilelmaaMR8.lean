/-
  Several texts in one: Key2. Each says at its head what it holds.
-/
import Derived.Test.YtkbiefklilelmaaMR2
import Derived.Maps.Own
import Derived.Maps.OwnSet
import Derived.Maps.Views
import Derived.Maps.RangeWalk
import Derived.DeepKeys4
import Derived.Carry

/-
  Maps from pairs of ints to bool that the call has made, as sets of pairs.
-/
namespace Go.Proofs.Ytkbiefklilelmaa
open Go.RowKit

theorem laidK : laidOutB Try.prog = true := by kernel_rfl
theorem rowK : 112 < Try.prog.types.size := of_decide_eq_true (by kernel_rfl)
theorem underK : Try.prog.underlying 112 = some (.array 2 3) := by kernel_rfl
theorem pairKey : Maps.Keyed Try.prog 112 := Maps.Keyed.of_law (deep_law_laid laidK (m := 2) (by omega) rowK (by kernel_rfl) (by rw [underK]))
theorem zeroBool (w : World) : (zeroValue 4).run Try.prog w = .ok (.bool false) w := by kernel_rfl
abbrev pairV (s t : Int) : Value := .agg #[.int .i64 s, .int .i64 t]
/-- what a pair reads as -/
def kL (s t : Int) : Lit := .string (keyBytes [.int .i64 s, .int .i64 t])
theorem i64_wf2 {i : Int} (h : I64 i) : (Lit.int .i64 i).wf = true := by
  unfold I64 at h
  simp [Lit.wf, IntKind.min, IntKind.max, IntKind.bits, IntKind.signed]
  omega
theorem ktK : Try.prog.keyType 112 = true := by kernel_rfl
theorem cellsK : Try.prog.cellsOf 3 = 1 := by kernel_rfl
theorem cellsK2 : Try.prog.cellsOf 112 = 2 := by kernel_rfl
theorem tsizeK : ∃ d, Try.prog.types.size = d + 1 := ⟨Try.prog.types.size - 1, by have := rowK; omega⟩
theorem keyOf_pair {s t : Int} (hs : I64 s) (ht : I64 t) : keyOf Try.prog 112 (pairV s t) = some (kL s t) := by
  obtain ⟨d, hd⟩ := tsizeK
  have h1 := i64_wf2 hs
  have h2 := i64_wf2 ht
  unfold keyOf
  rw [underK]
  dsimp only
  have hf : Value.formed Try.prog 112 (pairV s t) = true := by
    unfold Value.formed pairV
    simp only [underK, cellsK2]
    rfl
  rw [ktK, hf, hd]
  simp only [Bool.and_self, if_true]
  have hk : Try.prog.keyLits (d + 1 + 1) 112 (pairV s t).cells.toList = some [.int .i64 s, .int .i64 t] := by
    unfold Program.keyLits
    rw [underK]
    simp only [Value.cells, List.length_cons, List.length_nil, cellsK2, cellsK]
    simp [List.range, List.range.loop, Program.keyLits, Try.underlying3, h1, h2]
  rw [hk]
  rfl
theorem keyLits_int_inv {P : Program} {e : TypeId} (he : P.underlying e = some (.int .i64)) {d : Nat} {cs : List Value} {L : List Lit} (h : P.keyLits d e cs = some L) : ∃ i : Int, cs = [.int .i64 i] ∧ I64 i ∧ L = [.int .i64 i] := by
  cases d with
  | zero => simp [Program.keyLits] at h
  | succ d =>
    unfold Program.keyLits at h
    rw [he] at h
    match cs, h with
    | [], h => simp at h
    | .int q i :: [], h =>
      dsimp only at h
      split at h
      · rename_i hq
        obtain ⟨rfl, hw⟩ := hq
        injection h with h
        exact ⟨i, rfl, bounds_i64 hw, h.symm⟩
      · cases h
theorem keyLits_pair_inv {P : Program} {k e : TypeId} (hu : P.underlying k = some (.array 2 e)) (he : P.underlying e = some (.int .i64)) (c1 : P.cellsOf e = 1) (c2 : P.cellsOf k = 2) {d : Nat} {cs : List Value} {L : List Lit} (h : P.keyLits (d + 1) k cs = some L) :
    ∃ s t : Int, cs = [.int .i64 s, .int .i64 t] ∧ I64 s ∧ I64 t ∧ L = [.int .i64 s, .int .i64 t] := by
  unfold Program.keyLits at h
  rw [hu] at h
  dsimp only at h
  rw [c1, c2] at h
  split at h
  · rename_i hl
    match cs, hl with
    | [a, b], _ =>
      simp only [List.range, List.range.loop, Option.map_eq_some_iff, List.mapM_cons, List.mapM_nil, Nat.zero_mul, Nat.one_mul, List.drop_zero, List.take_succ_cons, List.take_zero, List.drop_succ_cons] at h
      obtain ⟨ls, h2, rfl⟩ := h
      cases h3 : P.keyLits d e [a] with
      | none => rw [h3] at h2; cases h2
      | some x =>
        cases h4 : P.keyLits d e [b] with
        | none => rw [h3, h4] at h2; cases h2
        | some y =>
          rw [h3, h4] at h2
          obtain ⟨s, e1, w1, rfl⟩ := keyLits_int_inv he h3
          obtain ⟨t, e2, w2, rfl⟩ := keyLits_int_inv he h4
          injection e1 with e1
          injection e2 with e2
          subst e1 e2
          refine ⟨s, t, rfl, w1, w2, ?_⟩
          have : ls = [[.int .i64 s], [.int .i64 t]] := by injection h2 with h2; exact h2.symm
          rw [this]
          rfl
  · cases h
theorem keyOf_pair_inv {v : Value} {l : Lit} (h : keyOf Try.prog 112 v = some l) : ∃ st : Int × Int, v = pairV st.1 st.2 ∧ I64 st.1 ∧ I64 st.2 ∧ l = kL st.1 st.2 := by
  obtain ⟨xs, L, rfl, h1, e1⟩ := keyOf_top (by rw [underK]) h
  obtain ⟨s, t, e2, w1, w2, rfl⟩ := keyLits_pair_inv underK Try.underlying3 cellsK cellsK2 h1
  obtain ⟨cs⟩ := xs
  dsimp only at e2
  subst e2
  exact ⟨(s, t), rfl, w1, w2, e1⟩
theorem kL_inj {s t s' t' : Int} (hs : I64 s) (ht : I64 t) (hs' : I64 s') (ht' : I64 t') (h : kL s t = kL s' t') : s = s' ∧ t = t' := by
  have := pairKey.inj (keyOf_pair hs ht) (by rw [keyOf_pair hs' ht', h])
  unfold pairV at this
  simpa using this

/-- block B is a map of n entries at most, which holds the pairs of m, each with 'true' -/
def MapP (w : World) (B n : Nat) (m : Int → Int → Prop) : Prop :=
  ∃ D : DataW Unit, w.ownsMap Try.prog 112 (plainElem Try.prog 4) B n D ∧ ∀ s t, I64 s → I64 t → (¬ m s t → Maps.has D (kL s t) = false) ∧ (m s t → Maps.has D (kL s t) = true ∧ ∀ z, D.atKey (kL s t) z = .lit (.bool true))
theorem MapP.made (w : World) : MapP (w.alloc (.map #[] 0)) w.heap.size 0 (fun _ _ => False) :=
  ⟨.map [], World.ownsMap_made _ _ _ _, fun _ _ _ _ => ⟨fun _ => rfl, fun h => h.elim⟩⟩
theorem MapP.block {w w' : World} {B n : Nat} {m : Int → Int → Prop} (h : MapP w B n m) (hb : w'.heap[B]? = w.heap[B]?) : MapP w' B n m := by
  obtain ⟨D, ⟨es, clock, h1, h3⟩, h2⟩ := h
  exact ⟨D, ⟨es, clock, hb.trans h1, h3⟩, h2⟩
theorem MapP.lt {w : World} {B n : Nat} {m : Int → Int → Prop} (h : MapP w B n m) : B < w.heap.size := by
  obtain ⟨D, h1, _⟩ := h
  exact h1.lt
theorem MapP.congr {w : World} {B n : Nat} {m m' : Int → Int → Prop} (h : MapP w B n m) (hm : ∀ s t, m s t ↔ m' s t) : MapP w B n m' := by
  obtain ⟨D, h1, h2⟩ := h
  exact ⟨D, h1, fun s t hs ht => by rw [← hm]; exact h2 s t hs ht⟩
theorem MapP.obj {w : World} {B n : Nat} {m : Int → Int → Prop} (h : MapP w B n m) : ∃ es clock, w.heap[B]? = some (.map es clock) := by
  obtain ⟨D, ⟨es, clock, h1, _⟩, _⟩ := h
  exact ⟨es, clock, h1⟩
theorem elem_bool_inv {H : Type} {P : Program} {e : TypeId} (he : P.underlying e = some .bool) {v : Value} {z : DataW H × List MemPlace} (h : plainElem P e v = some z) : ∃ b, v = .bool b ∧ z = (.lit (.bool b), []) := by
  unfold plainElem at h
  rw [he] at h
  cases v <;> simp at h
  exact ⟨_, rfl, h.symm⟩
/-- 'm[k]' -/
theorem MapP.look {w : World} {B n : Nat} {m : Int → Int → Prop} (h : MapP w B n m) {s t : Int} (hs : I64 s) (ht : I64 t) (b : Bool) (hb : b = true ↔ m s t) :
    (Instr.lookup 89 (.map (some B)) (pairV s t) false).run Try.prog w = .ok (.bool b) w := by
  obtain ⟨D, h1, h2⟩ := h
  obtain ⟨v, ps, hr, hv⟩ := h1.lookup pairKey Try.underlying89 (zeroBool w) (plainElem_bool (H := Unit) Try.underlying4 false) (keyOf_pair hs ht)
  rw [hr]
  have hat : D.atKey (kL s t) (.lit (.bool false)) = .lit (.bool b) := by
    obtain ⟨h3, h4⟩ := h2 s t hs ht
    cases b with
    | true => exact (h4 (hb.1 rfl)).2 _
    | false => exact Maps.atKey_of_not_has (h3 fun h => by have := hb.2 h; cases this) _
  rw [hat] at hv
  obtain ⟨c, rfl, hc⟩ := elem_bool_inv Try.underlying4 hv
  have hc1 := congrArg Prod.fst hc
  dsimp only at hc1
  have hc2 := Lit.bool.inj (DataW.lit.inj hc1)
  rw [hc2]
/-- 'm[k] = true', behind the store by the library's law -/
theorem MapP.put {w w' : World} {B n : Nat} {m : Int → Int → Prop} {D : DataW Unit} {s t : Int} (hs : I64 s) (ht : I64 t)
    (h3 : w'.ownsMap Try.prog 112 (plainElem Try.prog 4) B (n + 1) (D.put (kL s t) (.lit (.bool true)))) (h1 : w.ownsMap Try.prog 112 (plainElem Try.prog 4) B n D)
    (h2 : ∀ s t, I64 s → I64 t → (¬ m s t → Maps.has D (kL s t) = false) ∧ (m s t → Maps.has D (kL s t) = true ∧ ∀ z, D.atKey (kL s t) z = .lit (.bool true))) : MapP w' B (n + 1) (fun s' t' => m s' t' ∨ (s' = s ∧ t' = t)) := by
  refine ⟨_, h3, fun s' t' hs' ht' => ?_⟩
  have hM := h1.isMap
  by_cases e : s' = s ∧ t' = t
  · obtain ⟨rfl, rfl⟩ := e
    exact ⟨fun h => absurd (.inr ⟨rfl, rfl⟩) h, fun _ => ⟨Maps.has_put_same hM (by trivial) _, fun z => Maps.atKey_put_same hM (by trivial) _ z⟩⟩
  · have hne : kL s' t' ≠ kL s t := fun h => e (kL_inj hs' ht' hs ht h)
    obtain ⟨h5, h6⟩ := h2 s' t' hs' ht'
    refine ⟨fun h => by rw [Maps.has_put_other hne]; exact h5 fun h' => h (.inl h'), fun h => ?_⟩
    obtain ⟨h7, h8⟩ := h6 (h.resolve_right e)
    exact ⟨by rw [Maps.has_put_other hne]; exact h7, fun z => by rw [Maps.atKey_put_other hne]; exact h8 z⟩

end Go.Proofs.Ytkbiefklilelmaa
