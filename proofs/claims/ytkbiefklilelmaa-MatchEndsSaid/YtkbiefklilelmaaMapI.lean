/-
  Maps from int to int that the call has made: what they hold, key by key.
-/
import Derived.Test.YtkbiefklilelmaaMem
import Derived.Maps.Own
import Derived.Maps.OwnSet
import Derived.Maps.Views
import Derived.Carry
namespace Go.Proofs.Ytkbiefklilelmaa
open Go.RowKit

def MapII (w : World) (B n : Nat) (m : Int → Option Int) : Prop :=
  ∃ D : DataW Unit, w.ownsMap Try.prog 3 (plainElem Try.prog 3) B n D ∧ ∀ i, I64 i → (m i = none → Maps.has D (.int .i64 i) = false) ∧ ∀ v, m i = some v → Maps.has D (.int .i64 i) = true ∧ ∀ z, D.atKey (.int .i64 i) z = .lit (.int .i64 v)
theorem i64_wf {i : Int} (h : I64 i) : (Lit.int .i64 i).wf = true := by
  unfold I64 at h
  simp [Lit.wf, IntKind.min, IntKind.max, IntKind.bits, IntKind.signed]
  omega
theorem intKey : Maps.Keyed Try.prog 3 := Maps.int_keyed Try.underlying3
theorem zeroInt (w : World) : (zeroValue 3).run Try.prog w = .ok (.int .i64 0) w := by kernel_rfl
theorem MapII.made (w : World) : MapII (w.alloc (.map #[] 0)) w.heap.size 0 (fun _ => none) :=
  ⟨.map [], World.ownsMap_made _ _ _ _, fun i _ => ⟨fun _ => rfl, (fun v h => by cases h)⟩⟩
theorem MapII.kept {w w' : World} {B n : Nat} {m : Int → Option Int} {row : Option Nat} (h : MapII w B n m) (hg : w.grownBy w' row) (hne : some B ≠ row) : MapII w' B n m := by
  obtain ⟨D, h1, h2⟩ := h
  exact ⟨D, h1.kept hg hne, h2⟩
theorem MapII.alloc {w : World} {B n : Nat} {m : Int → Option Int} (h : MapII w B n m) (o : Obj) : MapII (w.alloc o) B n m := by
  obtain ⟨D, h1, h2⟩ := h
  exact ⟨D, h1.alloc o, h2⟩
theorem MapII.block {w w' : World} {B n : Nat} {m : Int → Option Int} (h : MapII w B n m) (hb : w'.heap[B]? = w.heap[B]?) : MapII w' B n m := by
  obtain ⟨D, ⟨es, clock, h1, h3⟩, h2⟩ := h
  exact ⟨D, ⟨es, clock, hb.trans h1, h3⟩, h2⟩
theorem MapII.lt {w : World} {B n : Nat} {m : Int → Option Int} (h : MapII w B n m) : B < w.heap.size := by
  obtain ⟨D, h1, _⟩ := h
  exact h1.lt
theorem tup_eq {a b : Int} {x y : Bool} {w : World} (h : a = b) (h2 : x = y) : Result.ok (Value.tuple #[.int .i64 a, .bool x]) w = Result.ok (Value.tuple #[.int .i64 b, .bool y]) w := by rw [h, h2]
/-- 'v, ok := m[i]' -/
theorem MapII.look {w : World} {B n : Nat} {m : Int → Option Int} (h : MapII w B n m) {i : Int} (hi : I64 i) :
    (Instr.lookup 132 (.map (some B)) (.int .i64 i) true).run Try.prog w = .ok (.tuple #[.int .i64 ((m i).getD 0), .bool (m i).isSome]) w := by
  obtain ⟨D, h1, h2⟩ := h
  obtain ⟨v, ps, hr, hv⟩ := h1.look_ok intKey Try.underlying132 (zeroInt w) (plainElem_int (H := Unit) Try.underlying3 (by decide)) (Maps.keyOf_int_mk Try.underlying3 (i64_wf hi))
  rw [hr]
  obtain ⟨c, rfl, hc, _⟩ := plainElem_int_inv Try.underlying3 hv
  have hc1 := congrArg Prod.fst hc
  dsimp only at hc1
  obtain ⟨h3, h4⟩ := h2 i hi
  cases hm : m i with
  | none =>
    have h5 := h3 hm
    rw [h5]
    rw [Maps.atKey_of_not_has h5] at hc1
    have hc1 := (Lit.int.inj (DataW.lit.inj hc1)).2
    rw [← hc1]
    exact tup_eq rfl rfl
  | some v =>
    obtain ⟨h5, h6⟩ := h4 v hm
    rw [h5]
    rw [h6] at hc1
    have hc1 := (Lit.int.inj (DataW.lit.inj hc1)).2
    rw [← hc1]
    exact tup_eq rfl rfl
def setM (m : Int → Option Int) (i v : Int) : Int → Option Int := fun j => if j = i then some v else m j
/-- 'm[i] = v' -/
theorem MapII.put {w : World} {B n : Nat} {m : Int → Option Int} (h : MapII w B n m) {i v : Int} (hi : I64 i) (hv : I64 v) (hn : n < maxLen) :
    ∃ w', (Instr.mapUpdate 132 (.map (some B)) (.int .i64 i) (.int .i64 v)).run Try.prog w = .ok () w' ∧ MapII w' B (n + 1) (setM m i v) ∧ w.grownBy w' (some B) := by
  obtain ⟨D, h1, h2⟩ := h
  obtain ⟨w', hr, h3, h4⟩ := h1.update intKey Try.underlying132 hn (Maps.keyOf_int_mk Try.underlying3 (i64_wf hi)) (plainElem_int (H := Unit) Try.underlying3 (i64_wf hv))
  refine ⟨w', hr, ⟨_, h3, fun j hj => ?_⟩, h4⟩
  have hM := h1.isMap
  unfold setM
  by_cases e : j = i
  · subst e
    rw [if_pos rfl]
    refine ⟨(fun h => by cases h), fun u hu => ?_⟩
    injection hu with hu
    subst hu
    exact ⟨Maps.has_put_same hM (by trivial) _, fun z => Maps.atKey_put_same hM (by trivial) _ z⟩
  · rw [if_neg e]
    have hne : (Lit.int .i64 j) ≠ .int .i64 i := fun h => e (by injection h)
    obtain ⟨h5, h6⟩ := h2 j hj
    refine ⟨fun h => by rw [Maps.has_put_other hne]; exact h5 h, fun u hu => ?_⟩
    obtain ⟨h7, h8⟩ := h6 u hu
    exact ⟨by rw [Maps.has_put_other hne]; exact h7, fun z => by rw [Maps.atKey_put_other hne]; exact h8 z⟩

/-- behind a store by the library's law -/
theorem map_put {w' : World} {B n : Nat} {m : Int → Option Int} {D : DataW Unit} {i v : Int} (h3 : w'.ownsMap Try.prog 3 (plainElem Try.prog 3) B (n + 1) (D.put (.int .i64 i) (.lit (.int .i64 v)))) (hM : Maps.IsMap D)
    (h2 : ∀ i, I64 i → (m i = none → Maps.has D (.int .i64 i) = false) ∧ ∀ v, m i = some v → Maps.has D (.int .i64 i) = true ∧ ∀ z, D.atKey (.int .i64 i) z = .lit (.int .i64 v)) : MapII w' B (n + 1) (setM m i v) := by
  refine ⟨_, h3, fun j hj => ?_⟩
  unfold setM
  by_cases e : j = i
  · subst e
    rw [if_pos rfl]
    refine ⟨(fun h => by cases h), fun u hu => ?_⟩
    injection hu with hu
    subst hu
    exact ⟨Maps.has_put_same hM (by trivial) _, fun z => Maps.atKey_put_same hM (by trivial) _ z⟩
  · rw [if_neg e]
    have hne : (Lit.int .i64 j) ≠ .int .i64 i := fun h => e (by injection h)
    obtain ⟨h5, h6⟩ := h2 j hj
    refine ⟨fun h => by rw [Maps.has_put_other hne]; exact h5 h, fun u hu => ?_⟩
    obtain ⟨h7, h8⟩ := h6 u hu
    exact ⟨by rw [Maps.has_put_other hne]; exact h7, fun z => by rw [Maps.atKey_put_other hne]; exact h8 z⟩

end Go.Proofs.Ytkbiefklilelmaa
