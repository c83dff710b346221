/-
  Several texts in one: AccL, MapI, MapK. Each says at its head what it holds.
-/
import Derived.Test.YtgobkbjkndfliaaGreatDoorAP8
import Derived.Test.YtgobkbjkndfliaaGreatDoorAP11
import Derived.Test.YtgobkbjkndfliaaGreatDoorAP3
import Derived.Maps.Own
import Derived.Maps.OwnSet
import Derived.Maps.Views
import Derived.Carry
import Derived.Test.YtgobkbjkndfliaaGreatDoorAP4

/-
  automaton.Accepts and its reference: what they decide, in plain words.
-/
namespace Go.Proofs.YtgobkbjkndfliaaGreatDoor

/-- one edge of a path, from the state that has been reached -/
def accStep (E : List Edg) (o : Option Int) (p : Int) : Option Int := o.bind fun s => if 0 ≤ p then (match E[p.toNat]? with | some e => if e.from_ = s then some e.to_ else none | none => none) else none
def accS (E : List Edg) (path : List Int) : Option Int := path.foldl (accStep E) (some 0)
/-- a list of edges is a path -/
def AccOk (a : Aut) (path : List Int) : Prop := validB a = true ∧ ∃ s, accS a.edges path = some s ∧ FinT a.fin s
section
variable {E : List Edg} {path : List Int} {k : Nat} {s : Int}
theorem acc_none (l : List Int) : l.foldl (accStep E) none = none := by
  induction l with
  | nil => rfl
  | cons p l ih => rw [List.foldl_cons]; exact ih
theorem acc_next (hk : k < path.length) : accS E (path.take (k + 1)) = accStep E (accS E (path.take k)) path[k] := by
  unfold accS
  rw [show path.take (k + 1) = path.take k ++ [path[k]] by simp, List.foldl_append]
  rfl
/-- a prefix that is no way: the path is none -/
theorem acc_bad (k : Nat) (h : accS E (path.take k) = none) : accS E path = none := by
  have h1 : accS E path = (path.drop k).foldl (accStep E) (accS E (path.take k)) := by
    unfold accS
    rw [← List.foldl_append, List.take_append_drop]
  rw [h1, h, acc_none]
theorem acc_step {e : Edg} {q : Nat} (he : E[q]? = some e) (h : e.from_ = s) : accStep E (some s) (q : Int) = some e.to_ := by
  unfold accStep
  simp [he, h]
theorem acc_wrong {e : Edg} {q : Nat} (he : E[q]? = some e) (h : e.from_ ≠ s) : accStep E (some s) (q : Int) = none := by
  unfold accStep
  simp [he, h]
theorem acc_out {p : Int} (h : p < 0 ∨ (E.length : Int) ≤ p) : accStep E (some s) p = none := by
  unfold accStep
  rw [Option.bind_some]
  split
  · rw [List.getElem?_eq_none (by omega)]
  · rfl
/-- states of ways are states of the automaton -/
theorem acc_in {n : Nat} (hn : 0 < n) (hE : ∀ e ∈ E, 0 ≤ e.to_ ∧ e.to_ < (n : Int)) : ∀ (k : Nat) (s : Int), accS E (path.take k) = some s → 0 ≤ s ∧ s < (n : Int)
  | 0, s, h => by
    unfold accS at h
    simp at h
    omega
  | k + 1, s, h => by
    by_cases hk : k < path.length
    · rw [acc_next hk] at h
      unfold accStep at h
      cases h1 : accS E (path.take k) with
      | none => rw [h1] at h; cases h
      | some s' =>
        rw [h1, Option.bind_some] at h
        split at h
        · split at h
          · rename_i e he
            split at h
            · injection h with h
              subst h
              exact hE e (List.mem_of_getElem? he)
            · cases h
          · cases h
        · cases h
    · rw [List.take_of_length_le (by omega)] at h
      exact acc_in hn hE k s (by rw [List.take_of_length_le (by omega)]; exact h)
end

end Go.Proofs.YtgobkbjkndfliaaGreatDoor

/-
  Maps from int to int that the call has made: what they hold, key by key.
-/
namespace Go.Proofs.YtgobkbjkndfliaaGreatDoor
open Go.RowKit

def MapII (w : World) (B n : Nat) (m : Int → Option Int) : Prop :=
  ∃ D : DataW Unit, w.ownsMap Tryz.prog 3 (plainElem Tryz.prog 3) B n D ∧ ∀ i, I64 i → (m i = none → Maps.has D (.int .i64 i) = false) ∧ ∀ v, m i = some v → Maps.has D (.int .i64 i) = true ∧ ∀ z, D.atKey (.int .i64 i) z = .lit (.int .i64 v)
theorem i64_wf {i : Int} (h : I64 i) : (Lit.int .i64 i).wf = true := by
  unfold I64 at h
  simp [Lit.wf, IntKind.min, IntKind.max, IntKind.bits, IntKind.signed]
  omega
theorem intKey : Maps.Keyed Tryz.prog 3 := Maps.int_keyed Tryz.underlying3
theorem zeroInt (w : World) : (zeroValue 3).run Tryz.prog w = .ok (.int .i64 0) w := by kernel_rfl
theorem MapII.made (w : World) : MapII (w.alloc (.map #[] 0)) w.heap.size 0 (fun _ => none) :=
  ⟨.map [], World.ownsMap_made _ _ _ _, fun i _ => ⟨fun _ => rfl, (fun v h => by cases h)⟩⟩
theorem MapII.kept {w w' : World} {B n : Nat} {m : Int → Option Int} {row : Option Nat} (h : MapII w B n m) (hg : w.grownBy w' row) (hne : some B ≠ row) : MapII w' B n m := by
  obtain ⟨D, h1, h2⟩ := h
  exact ⟨D, h1.kept hg hne, h2⟩
theorem MapII.alloc {w : World} {B n : Nat} {m : Int → Option Int} (h : MapII w B n m) (o : Obj) : MapII (w.alloc o) B n m := by
  obtain ⟨D, h1, h2⟩ := h
  exact ⟨D, h1.alloc o, h2⟩
theorem MapII.block {w w' : World} {B n : Nat} {m : Int → Option Int} (h : MapII w B n m) (hb : w'.heap[B]? = w.heap[B]?) : MapII w' B n m := by
  obtain ⟨D, ⟨es, clock, h1, h3⟩, h2⟩ := h
  exact ⟨D, ⟨es, clock, hb.trans h1, h3⟩, h2⟩
theorem MapII.lt {w : World} {B n : Nat} {m : Int → Option Int} (h : MapII w B n m) : B < w.heap.size := by
  obtain ⟨D, h1, _⟩ := h
  exact h1.lt
theorem tup_eq {a b : Int} {x y : Bool} {w : World} (h : a = b) (h2 : x = y) : Result.ok (Value.tuple #[.int .i64 a, .bool x]) w = Result.ok (Value.tuple #[.int .i64 b, .bool y]) w := by rw [h, h2]
/-- 'v, ok := m[i]' -/
theorem MapII.look {w : World} {B n : Nat} {m : Int → Option Int} (h : MapII w B n m) {i : Int} (hi : I64 i) :
    (Instr.lookup 78 (.map (some B)) (.int .i64 i) true).run Tryz.prog w = .ok (.tuple #[.int .i64 ((m i).getD 0), .bool (m i).isSome]) w := by
  obtain ⟨D, h1, h2⟩ := h
  obtain ⟨v, ps, hr, hv⟩ := h1.look_ok intKey Tryz.underlying78 (zeroInt w) (plainElem_int (H := Unit) Tryz.underlying3 (by decide)) (Maps.keyOf_int_mk Tryz.underlying3 (i64_wf hi))
  rw [hr]
  obtain ⟨c, rfl, hc, _⟩ := plainElem_int_inv Tryz.underlying3 hv
  have hc1 := congrArg Prod.fst hc
  dsimp only at hc1
  obtain ⟨h3, h4⟩ := h2 i hi
  cases hm : m i with
  | none =>
    have h5 := h3 hm
    rw [h5]
    rw [Maps.atKey_of_not_has h5] at hc1
    have hc1 := (Lit.int.inj (DataW.lit.inj hc1)).2
    rw [← hc1]
    exact tup_eq rfl rfl
  | some v =>
    obtain ⟨h5, h6⟩ := h4 v hm
    rw [h5]
    rw [h6] at hc1
    have hc1 := (Lit.int.inj (DataW.lit.inj hc1)).2
    rw [← hc1]
    exact tup_eq rfl rfl
def setM (m : Int → Option Int) (i v : Int) : Int → Option Int := fun j => if j = i then some v else m j
/-- 'm[i] = v' -/
theorem MapII.put {w : World} {B n : Nat} {m : Int → Option Int} (h : MapII w B n m) {i v : Int} (hi : I64 i) (hv : I64 v) (hn : n < maxLen) :
    ∃ w', (Instr.mapUpdate 78 (.map (some B)) (.int .i64 i) (.int .i64 v)).run Tryz.prog w = .ok () w' ∧ MapII w' B (n + 1) (setM m i v) ∧ w.grownBy w' (some B) := by
  obtain ⟨D, h1, h2⟩ := h
  obtain ⟨w', hr, h3, h4⟩ := h1.update intKey Tryz.underlying78 hn (Maps.keyOf_int_mk Tryz.underlying3 (i64_wf hi)) (plainElem_int (H := Unit) Tryz.underlying3 (i64_wf hv))
  refine ⟨w', hr, ⟨_, h3, fun j hj => ?_⟩, h4⟩
  have hM := h1.isMap
  unfold setM
  by_cases e : j = i
  · subst e
    rw [if_pos rfl]
    refine ⟨(fun h => by cases h), fun u hu => ?_⟩
    injection hu with hu
    subst hu
    exact ⟨Maps.has_put_same hM (by trivial) _, fun z => Maps.atKey_put_same hM (by trivial) _ z⟩
  · rw [if_neg e]
    have hne : (Lit.int .i64 j) ≠ .int .i64 i := fun h => e (by injection h)
    obtain ⟨h5, h6⟩ := h2 j hj
    refine ⟨fun h => by rw [Maps.has_put_other hne]; exact h5 h, fun u hu => ?_⟩
    obtain ⟨h7, h8⟩ := h6 u hu
    exact ⟨by rw [Maps.has_put_other hne]; exact h7, fun z => by rw [Maps.atKey_put_other hne]; exact h8 z⟩

/-- behind a store by the library's law -/
theorem map_put {w' : World} {B n : Nat} {m : Int → Option Int} {D : DataW Unit} {i v : Int} (h3 : w'.ownsMap Tryz.prog 3 (plainElem Tryz.prog 3) B (n + 1) (D.put (.int .i64 i) (.lit (.int .i64 v)))) (hM : Maps.IsMap D)
    (h2 : ∀ i, I64 i → (m i = none → Maps.has D (.int .i64 i) = false) ∧ ∀ v, m i = some v → Maps.has D (.int .i64 i) = true ∧ ∀ z, D.atKey (.int .i64 i) z = .lit (.int .i64 v)) : MapII w' B (n + 1) (setM m i v) := by
  refine ⟨_, h3, fun j hj => ?_⟩
  unfold setM
  by_cases e : j = i
  · subst e
    rw [if_pos rfl]
    refine ⟨(fun h => by cases h), fun u hu => ?_⟩
    injection hu with hu
    subst hu
    exact ⟨Maps.has_put_same hM (by trivial) _, fun z => Maps.atKey_put_same hM (by trivial) _ z⟩
  · rw [if_neg e]
    have hne : (Lit.int .i64 j) ≠ .int .i64 i := fun h => e (by injection h)
    obtain ⟨h5, h6⟩ := h2 j hj
    refine ⟨fun h => by rw [Maps.has_put_other hne]; exact h5 h, fun u hu => ?_⟩
    obtain ⟨h7, h8⟩ := h6 u hu
    exact ⟨by rw [Maps.has_put_other hne]; exact h7, fun z => by rw [Maps.atKey_put_other hne]; exact h8 z⟩

end Go.Proofs.YtgobkbjkndfliaaGreatDoor

/-
  The map that automaton.Valid fills: the event of the last edge to a state; what it says of the edges ahead.
-/
namespace Go.Proofs.YtgobkbjkndfliaaGreatDoor
open Go.RowKit

def mapK (xs : List Edg) : Nat → Int → Option Int
  | 0 => fun _ => none
  | k + 1 => match xs[k]? with
    | some x => setM (mapK xs k) x.to_ x.event
    | none => mapK xs k
theorem mapK_succ {xs : List Edg} {k : Nat} {x : Edg} (h : xs[k]? = some x) : mapK xs (k + 1) = setM (mapK xs k) x.to_ x.event := by
  show (match xs[k]? with | some x => setM (mapK xs k) x.to_ x.event | none => mapK xs k) = _
  rw [h]
theorem mapK_some {xs : List Edg} {t e : Int} : ∀ {k : Nat}, mapK xs k t = some e → ∃ i y, i < k ∧ xs[i]? = some y ∧ y.to_ = t ∧ y.event = e
  | 0, h => by cases h
  | k + 1, h => by
    cases hx : xs[k]? with
    | none =>
      have h' : mapK xs k t = some e := by
        have h2 : mapK xs (k + 1) = mapK xs k := by
          show (match xs[k]? with | some x => setM (mapK xs k) x.to_ x.event | none => mapK xs k) = _
          rw [hx]
        rw [h2] at h; exact h
      obtain ⟨i, y, h1, h2⟩ := mapK_some h'
      exact ⟨i, y, by omega, h2⟩
    | some x =>
      rw [mapK_succ hx] at h
      unfold setM at h
      by_cases ht : t = x.to_
      · rw [if_pos ht] at h
        injection h with h
        exact ⟨k, x, by omega, hx, ht.symm, h⟩
      · rw [if_neg ht] at h
        obtain ⟨i, y, h1, h2⟩ := mapK_some h
        exact ⟨i, y, by omega, h2⟩
theorem mapK_none {xs : List Edg} {t : Int} : ∀ {k : Nat}, mapK xs k t = none → ∀ i y, i < k → xs[i]? = some y → y.to_ ≠ t
  | 0, _, _, _, hi, _ => absurd hi (Nat.not_lt_zero _)
  | k + 1, h, i, y, hi, hy => by
    cases hx : xs[k]? with
    | none =>
      have h2 : mapK xs (k + 1) = mapK xs k := by
        show (match xs[k]? with | some x => setM (mapK xs k) x.to_ x.event | none => mapK xs k) = _
        rw [hx]
      rw [h2] at h
      rcases Nat.lt_or_ge i k with h1 | h1
      · exact mapK_none h i y h1 hy
      · have : i = k := by omega
        subst this
        rw [hx] at hy
        cases hy
    | some x =>
      rw [mapK_succ hx] at h
      unfold setM at h
      by_cases ht : t = x.to_
      · rw [if_pos ht] at h; cases h
      · rw [if_neg ht] at h
        rcases Nat.lt_or_ge i k with h1 | h1
        · exact mapK_none h i y h1 hy
        · have : i = k := by omega
          subst this
          rw [hx] at hy
          injection hy with hy
          subst hy
          exact fun e => ht e.symm
theorem fits_one {n nE nC : Nat} {xs : List Edg} {i j : Nat} {y z : Edg} (hj : fitsB n nE nC xs j = true) (hij : i < j) (hy : xs[i]? = some y) (hz : xs[j]? = some z) : oneB y z = true := by
  have hl := (List.getElem?_eq_some_iff.1 hz).1
  have e := (List.getElem?_eq_some_iff.1 hz).2
  rw [fits_at hl, Bool.and_eq_true] at hj
  rw [← e]
  refine List.all_eq_true.1 hj.2 y ?_
  have h1 : (xs.take j)[i]? = some y := by rw [List.getElem?_take_of_lt hij]; exact hy
  exact List.mem_of_getElem? h1
theorem one_iff {y z : Edg} : oneB y z = true ↔ (y.to_ = z.to_ → y.event = z.event) := by unfold oneB; rw [decide_eq_true_iff]
theorem fits_same {n nE nC : Nat} {xs : List Edg} {k i j : Nat} {y z : Edg} (h : ∀ i, i < k → fitsB n nE nC xs i = true) (hi : i < k) (hj : j < k) (hy : xs[i]? = some y) (hz : xs[j]? = some z) (ht : y.to_ = z.to_) : y.event = z.event := by
  rcases Nat.lt_trichotomy i j with h1 | h1 | h1
  · exact one_iff.1 (fits_one (h j hj) h1 hy hz) ht
  · subst h1
    rw [hy] at hz
    injection hz with hz
    rw [hz]
  · exact (one_iff.1 (fits_one (h i hi) h1 hz hy) ht.symm).symm
theorem mapK_all_none {xs : List Edg} {k : Nat} {x : Edg} (h : mapK xs k x.to_ = none) : (xs.take k).all (fun y => oneB y x) = true :=
  one_all fun i y hi hy => one_iff.2 fun e => absurd e (mapK_none h i y hi hy)
theorem mapK_all_some {n nE nC : Nat} {xs : List Edg} {k : Nat} {x : Edg} {e : Int} (hf : ∀ i, i < k → fitsB n nE nC xs i = true) (h : mapK xs k x.to_ = some e) (he : e = x.event) : (xs.take k).all (fun y => oneB y x) = true :=
  one_all fun i y hi hy => one_iff.2 fun ht => by
    obtain ⟨j, z, h1, h2, h3, h4⟩ := mapK_some h
    rw [← he, ← h4]
    exact fits_same hf hi h1 hy h2 (by rw [ht, h3])
theorem mapK_all_bad {xs : List Edg} {k : Nat} {x : Edg} {e : Int} (h : mapK xs k x.to_ = some e) (he : e ≠ x.event) : (xs.take k).all (fun y => oneB y x) = false := by
  obtain ⟨j, z, h1, h2, h3, h4⟩ := mapK_some h
  refine one_bad h1 h2 ?_
  unfold oneB
  exact decide_eq_false fun hh => he (by rw [← h4]; exact hh h3)

end Go.Proofs.YtgobkbjkndfliaaGreatDoor
