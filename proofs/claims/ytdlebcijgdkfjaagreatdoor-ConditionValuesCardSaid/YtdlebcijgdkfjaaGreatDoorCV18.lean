/-
  Several texts in one: RTypeD. Each says at its head what it holds.
-/
import Derived.Test.YtdlebcijgdkfjaaGreatDoorCV16
import Derived.Test.YtdlebcijgdkfjaaGreatDoorCV17
import Derived.Deep.QuietTactic
import Derived.BigQuiet

/-
  wavestoreref50.Type in plain Lean.
-/
namespace Go.Proofs.YtdlebcijgdkfjaaGreatDoor
open Go.RowKit

/-- all operands are values of Bits -/
def allBt (ts : List (Int × Int)) : Bool := ts.all fun p => p.1 == 0
theorem widths_ts : ∀ ts : List (Int × Int), widthsF (ts.map some) = if allBt ts then some (ts.map (·.2)) else none
  | [] => rfl
  | (k, w) :: ts => by
    rw [List.map_cons, widthsF, widths_ts ts]
    unfold allBt
    rw [List.all_cons]
    by_cases h : k = 0
    · rw [if_pos h, h]
      cases h2 : ts.all fun p => p.1 == 0 <;> simp
    · rw [if_neg h]
      have : (k == 0) = false := beq_eq_false_iff_ne.2 h
      simp [this]
theorem widths_none {l : List (Option (Int × Int))} (h : none ∈ l) : widthsF l = none := by
  induction l with
  | nil => cases h
  | cons x l ih =>
    match x, h with
    | none, _ => rfl
    | some (k, w), h =>
      rw [widthsF, ih (by simpa using h)]
      split <;> rfl
/-- a type out of the types of the operands -/
def tyT (kind a b c : Int) (sz : Nat) (ts : List (Int × Int)) : Option (Int × Int) :=
  if kind = 1 then (if ts ≠ [] then none else if (c = 1 ∨ c = 2) ∧ b = 0 then some (c, 0) else if c = 0 ∧ b ≤ 128 then widthOk b else none)
  else if kind = 2 then (if ts ≠ [] then none else if sz ≤ 128 then widthOk sz else none)
  else if kind = 4 then (if ts ≠ [] then none else some (1, 0))
  else if kind = 5 then (if ts ≠ [] then none else some (2, 0))
  else if allBt ts then (if 1 ≤ kind ∧ kind ≤ 16 then widthOk (operF kind a b (ts.map (·.2))) else none) else none
theorem type_ts (kind at_ : Int) (name value : ByteArray) (a b c d : Int) (KA : Option Addr) (kc : Nat) (kids : List Nd) {ts : List (Int × Int)} (h : kids.map typeF = ts.map some) : typeF (.mk kind at_ name value a b c d KA kc kids) = tyT kind a b c value.size ts := by
  have hne : (kids ≠ []) ↔ (ts ≠ []) := by
    have := congrArg List.length h
    rw [List.length_map, List.length_map] at this
    constructor
    · intro h1 h2; rw [h2] at this; exact h1 (List.eq_nil_of_length_eq_zero this)
    · intro h1 h2; rw [h2] at this; exact h1 (List.eq_nil_of_length_eq_zero this.symm)
  rw [typeF_mk, h, widths_ts]
  unfold tyT
  simp only [hne]
  split
  · rfl
  split
  · rfl
  split
  · rfl
  split
  · rfl
  cases allBt ts <;> rfl
theorem type_no (kind at_ : Int) (name value : ByteArray) (a b c d : Int) (KA : Option Addr) (kc : Nat) {kids : List Nd} {k : Nd} (hk : k ∈ kids) (h : typeF k = none) : typeF (.mk kind at_ name value a b c d KA kc kids) = none := by
  have hne : kids ≠ [] := fun e => by rw [e] at hk; cases hk
  rw [typeF_mk, widths_none (List.mem_map.2 ⟨k, hk, h⟩)]
  simp [hne]

def cTy (p : Int × Int) : List Value := [.int .i64 p.1, .int .i64 p.2]
theorem infoTy : (Tryz.prog.info? 152).map (fun i => (i.zero, i.size, i.bytes)) = some (some (.agg #[.int .i64 0, .int .i64 0]), 2, 16) := by kernel_rfl
def OwnTy (w : World) (base : Nat) (A : Option Addr) (c : Nat) (l : List (Int × Int)) : Prop := w.ownsRow base 152 2 (.slice A l.length c) l.length (l.flatMap cTy)
theorem OwnTy.of_row {w : World} {base : Nat} {v : Value} {n : Nat} {vs : List Value} {l : List (Int × Int)} (h : w.ownsRow base 152 2 v n vs) (hn : n = l.length) (hv : vs = l.flatMap cTy) : ∃ A c, v = .slice A l.length c ∧ OwnTy w base A c l := by
  subst hn hv
  rcases Joins.ownsRow_forms h with ⟨rfl, h0⟩ | ⟨g, cap, rfl⟩
  · exact ⟨none, 0, by rw [h0], by unfold OwnTy; rw [h0] at h ⊢; exact h⟩
  · exact ⟨_, cap, rfl, h⟩
theorem OwnTy.row {w : World} {base : Nat} {A : Option Addr} {c : Nat} {l : List (Int × Int)} (h : OwnTy w base A c l) : Row w (fun b => base ≤ b ∧ b < w.heap.size) 2 cTy A l := fun hne => by
  obtain ⟨g, rfl, h1⟩ := own_place h (List.length_pos_iff.2 hne)
  have h2 := own_ob h g rfl
  refine ⟨g, 0, rfl, h2, fun i s hi j hj => ?_⟩
  have hlt := (List.getElem?_eq_some_iff.1 hi).1
  rw [Nat.zero_add, World.ownsRow.cellAt h _ (by omega), flat_at cTy 2 (fun _ => rfl) hi hj]
theorem ty_one (p : Int × Int) : ∀ u ∈ cTy p, u.oneCell' = true := by
  intro u hu
  simp only [cTy, List.mem_cons, List.not_mem_nil, or_false] at hu
  rcases hu with rfl | rfl <;> rfl
theorem ty_empty (W : World) {base : Nat} (hb : base ≤ W.heap.size) : OwnTy (W.alloc (.cells #[] 152)) base (some ⟨W.heap.size, 0, none⟩) 0 [] := World.ownsRow_lit W #[] 0 hb (by simp [maxLen]) rfl
def Ty1 (kids : List Nd) (w : World) (o i : Value) (wr : World) : Prop :=
  ∃ (j : Nat) (A : Option Addr) (c : Nat) (ts : List (Int × Int)), j ≤ kids.length ∧ i = .int .i64 (j : Int) ∧ o = .slice A ts.length c ∧ OwnTy wr w.heap.size A c ts ∧ (kids.take j).map typeF = ts.map some ∧ Below w.heap.size w wr
def Ty2 (ts : List (Int × Int)) (wd ok i : Value) : Prop := ∃ k : Nat, k ≤ ts.length ∧ i = .int .i64 (k : Int) ∧ ok = .bool (allBt (ts.take k)) ∧ wd = .int .i64 (sumF ((ts.take k).map (·.2)))
theorem sum_bd : ∀ {ts : List (Int × Int)}, (∀ p ∈ ts, 0 ≤ p.2 ∧ p.2 ≤ 128) → 0 ≤ sumF (ts.map (·.2)) ∧ sumF (ts.map (·.2)) ≤ 128 * ts.length
  | [], _ => by simp [sumF]
  | p :: ts, h => by
    have h1 := sum_bd (ts := ts) fun q hq => h q (by simp [hq])
    have h2 := h p (by simp)
    rw [List.map_cons, sumF_cons, List.length_cons]
    omega
theorem allBt_snoc (ts : List (Int × Int)) (p : Int × Int) : allBt (ts ++ [p]) = (allBt ts && (p.1 == 0)) := by unfold allBt; rw [List.all_append]; simp
/-- the operators of two operands of one width -/
def twoB (kind : Int) : Bool := decide (9 ≤ kind ∧ kind ≤ 13)
def RtC (n : Nd) : Prop := ∀ w : World, TreesAt w (Lo w.heap.size) n.KA n.kids → Calls Tryz.prog 54 #[.agg (cNd n).toArray] w (RetV (typV (typeF n)) w)

theorem ty_op {kind a b c : Int} {sz : Nat} {ts : List (Int × Int)} (hne : ts ≠ []) (h : allBt ts = true) : tyT kind a b c sz ts = if 1 ≤ kind ∧ kind ≤ 16 then widthOk (operF kind a b (ts.map (·.2))) else none := by
  unfold tyT
  by_cases k1 : kind = 1
  · subst k1; simp [hne, operF, widthOk]
  by_cases k2 : kind = 2
  · subst k2; simp [hne, operF, widthOk]
  by_cases k4 : kind = 4
  · subst k4; simp [hne, operF, widthOk]
  by_cases k5 : kind = 5
  · subst k5; simp [hne, operF, widthOk]
  simp [k1, k2, k4, k5, h]
theorem ty_bad {kind a b c : Int} {sz : Nat} {ts : List (Int × Int)} (hne : ts ≠ []) (h : allBt ts = false) : tyT kind a b c sz ts = none := by
  unfold tyT
  simp [hne, h]
theorem sum_ge {ts : List (Int × Int)} {sm : Int} (hne : ts ≠ []) (h : allBt ts = true) (hb : ∀ p ∈ ts, (p.1 = 0 → 1 ≤ p.2 ∧ p.2 ≤ 128) ∧ (p.1 ≠ 0 → p.2 = 0)) (hs : sumF (ts.map (·.2)) = sm) : 1 ≤ sm := by
  cases ts with
  | nil => exact absurd rfl hne
  | cons p ts =>
    have h1 := sum_bd (ts := ts) fun q hq => by have := hb q (by simp [hq]); omega
    have h2 := (hb p (by simp)).1 (by unfold allBt at h; rw [List.all_cons, Bool.and_eq_true, beq_iff_eq] at h; exact h.1)
    rw [List.map_cons, sumF_cons] at hs
    omega
theorem ty_sig {a b c : Int} {sz : Nat} : tyT 1 a b c sz [] = if (c = 1 ∨ c = 2) ∧ b = 0 then some (c, 0) else if c = 0 ∧ b ≤ 128 then widthOk b else none := by unfold tyT; rw [if_pos rfl, if_neg (by simp)]
theorem ty_bits {a b c : Int} {sz : Nat} : tyT 2 a b c sz [] = if sz ≤ 128 then widthOk sz else none := by unfold tyT; rw [if_neg (by omega), if_pos rfl, if_neg (by simp)]
theorem one_or_two {ts : List (Int × Int)} (h1 : 0 < ts.length) (h2 : ¬ 3 ≤ ts.length) : (∃ p, ts = [p]) ∨ ∃ p q, ts = [p, q] := by
  match ts, h1, h2 with
  | [p], _, _ => exact .inl ⟨p, rfl⟩
  | [p, q], _, _ => exact .inr ⟨p, q, rfl⟩
  | _ :: _ :: _ :: _, _, h => simp at h
theorem width_no {w : Int} (h : ¬ 1 ≤ w) : widthOk w = none := by unfold widthOk; rw [if_neg h]
theorem width_yes {w : Int} (h : 1 ≤ w) : widthOk w = some (0, w) := by unfold widthOk; rw [if_pos h]
theorem ty_nil {kind a b c : Int} {sz : Nat} (k1 : kind ≠ 1) (k2 : kind ≠ 2) (k4 : kind ≠ 4) (k5 : kind ≠ 5) : tyT kind a b c sz [] = none := by
  have h0 : operF kind a b [] = 0 := by
    unfold operF
    split
    · rfl
    split
    · rfl
    split
    · rfl
    split
    · rfl
    split <;> rfl
  unfold tyT
  rw [if_neg k1, if_neg k2, if_neg k4, if_neg k5, List.map_nil, h0]
  simp [allBt, widthOk]
theorem ty_many {kind a b c : Int} {sz : Nat} {ts : List (Int × Int)} (hl : 3 ≤ ts.length) (h : allBt ts = true) (k7 : kind ≠ 7) : tyT kind a b c sz ts = none := by
  rw [ty_op (fun e => by rw [e] at hl; simp at hl) h]
  have h0 : operF kind a b (ts.map (·.2)) = 0 := by
    match ts, hl with
    | p :: q :: r :: s, _ =>
      unfold operF
      simp [k7]
  rw [h0]
  simp [widthOk]
theorem ty_cat {a b c : Int} {sz : Nat} {ts : List (Int × Int)} (hne : ts ≠ []) (h : allBt ts = true) : tyT 7 a b c sz ts = if sumF (ts.map (·.2)) ≤ 128 then widthOk (sumF (ts.map (·.2))) else none := by
  rw [ty_op hne h, if_pos (by omega)]
  unfold operF
  rw [if_neg (by omega), if_pos rfl]
  split
  · rfl
  · rfl
theorem ty_one_no {kind a b c : Int} {sz : Nat} {p : Int × Int} (h : allBt [p] = true) (k6 : kind ≠ 6) (k7 : kind ≠ 7) (k8 : kind ≠ 8) (kr : ¬ (14 ≤ kind ∧ kind ≤ 16)) : tyT kind a b c sz [p] = none := by
  rw [ty_op (by simp) h]
  have h0 : operF kind a b [p.2] = 0 := by
    unfold operF
    simp only [if_neg k6, if_neg k7, if_neg k8, if_neg kr]
    split <;> rfl
  show (if 1 ≤ kind ∧ kind ≤ 16 then widthOk (operF kind a b [p.2]) else none) = none
  rw [h0]
  simp [widthOk]
theorem ty_two_no {kind a b c : Int} {sz : Nat} {p q : Int × Int} (h : allBt [p, q] = true) (k7 : kind ≠ 7) (kr : twoB kind = false) : tyT kind a b c sz [p, q] = none := by
  rw [ty_op (by simp) h]
  have kr2 : ¬ (9 ≤ kind ∧ kind ≤ 13) := of_decide_eq_false kr
  have h0 : operF kind a b [p.2, q.2] = 0 := by
    unfold operF
    simp only [if_neg k7, if_neg kr2]
    split
    · rfl
    split
    · rfl
    split <;> rfl
  show (if 1 ≤ kind ∧ kind ≤ 16 then widthOk (operF kind a b [p.2, q.2]) else none) = none
  rw [h0]
  simp [widthOk]
theorem ty_two {kind a b c : Int} {sz : Nat} {p q : Int × Int} (h : allBt [p, q] = true) (kr : twoB kind = true) : tyT kind a b c sz [p, q] = if p.2 = q.2 then widthOk p.2 else none := by
  have kr2 : 9 ≤ kind ∧ kind ≤ 13 := of_decide_eq_true kr
  rw [ty_op (by simp) h, if_pos (by omega)]
  show widthOk (operF kind a b [p.2, q.2]) = _
  unfold operF
  rw [if_neg (by omega), if_neg (by omega), if_neg (by omega), if_neg (by omega), if_pos kr2]
  dsimp only
  split
  · rfl
  · rfl

end Go.Proofs.YtdlebcijgdkfjaaGreatDoor
