/-
  Several texts in one: Reads, NdT, Mem, Row, Nd, EIs, MapB, EIsE. Each says at its head what it holds.
-/
import Derived.Test.YtbhcmnfeeogdhaaGreatDoorRows
import Derived.ProofKit
import Derived.OpenShut
import Derived.SizedLaws
import Derived.ChangeOld
import Derived.Below
import Derived.Deep.Slices
import Derived.Lib.SmallJoins
import Derived.Test.YtbhcmnfeeogdhaaGreatDoorProg
import Derived.WalkKit
import Derived.WalkSpells
import Derived.WalkLawsBesides
import Derived.BigQuiet
import Derived.Deep.QuietTactic
import Derived.LoopTactic
import Derived.RegionTactic
import Derived.Deep.RegionHeld3
import Derived.Deep.AppendLies
import Derived.Deep.DeepCutAuto
import Derived.Maps.Own
import Derived.Maps.OwnSet
import Derived.Maps.Views
import Derived.Carry

/-
  From what an argument reads as to what lies in memory: slices, structs, strings, integers, bools, of whatever depth. Nothing here names a function of the program.
-/
namespace Go.Proofs.YtbhcmnfeeogdhaaGreatDoor
open Go.ChangeShapes Go.WideShapes Go.ChangeAt Go.RowKit Go.Deep

section
variable {H : Type} {enc : TypeId × Value → H} {P : Program} {W : World} {base : Nat} {spare : Nat → Bool} {held : Bool}

end

theorem ownK : ownKnob Tryz.prog.godebug = none := by kernel_rfl
end Go.Proofs.YtbhcmnfeeogdhaaGreatDoor

/-
  Trees of api.Node, with the places of their lists of children: recursion over them, and the plain functions of package qcheck. No program in sight.
-/
namespace Go.Proofs.YtbhcmnfeeogdhaaGreatDoor
open Go.RowKit

/-- a tree with the places of its lists of children -/
inductive Nd where
  | mk (kind at_ : Int) (name value : ByteArray) (a b c d : Int) (KA : Option Addr) (kc : Nat) (kids : List Nd)
def Nd.kids : Nd → List Nd | .mk _ _ _ _ _ _ _ _ _ _ kids => kids
def Nd.KA : Nd → Option Addr | .mk _ _ _ _ _ _ _ _ KA _ _ => KA
def Nd.kind : Nd → Int | .mk kind _ _ _ _ _ _ _ _ _ _ => kind
def Nd.value : Nd → ByteArray | .mk _ _ _ value _ _ _ _ _ _ _ => value
def Nd.a : Nd → Int | .mk _ _ _ _ a _ _ _ _ _ _ => a
def Nd.b : Nd → Int | .mk _ _ _ _ _ b _ _ _ _ _ => b
def Nd.c : Nd → Int | .mk _ _ _ _ _ _ c _ _ _ _ => c
def Nd.d : Nd → Int | .mk _ _ _ _ _ _ _ d _ _ _ => d
theorem Nd.ind {p : Nd → Prop} (h : ∀ n, (∀ k ∈ n.kids, p k) → p n) : ∀ n, p n
  | .mk kind at_ name value a b c d KA kc kids => h _ fun k _hk => Nd.ind h k
termination_by n => SizeOf.sizeOf n
decreasing_by
  have h1 : k ∈ kids := _hk
  have := List.sizeOf_lt_of_mem h1
  simp
  omega
/-- a function of a tree out of its values at the children -/
def Nd.fold {β : Type} (f : Nd → List β → β) : Nd → β
  | .mk kind at_ name value a b c d KA kc kids => f (.mk kind at_ name value a b c d KA kc kids) (kids.attach.map fun ⟨k, _⟩ => Nd.fold f k)
termination_by n => SizeOf.sizeOf n
decreasing_by
  rename_i h
  have := List.sizeOf_lt_of_mem h
  simp
  omega
theorem Nd.fold_eq {β : Type} (f : Nd → List β → β) (n : Nd) : n.fold f = f n (n.kids.map (Nd.fold f)) := by
  cases n
  rw [Nd.fold]
  congr 1
  exact List.attach_map_val

/-- the widths of operands that are values of Bits -/
def widthsF : List (Option (Int × Int)) → Option (List Int)
  | [] => some []
  | none :: _ => none
  | some (k, w) :: l => if k = 0 then (widthsF l).map (w :: ·) else none
def sumF (l : List Int) : Int := l.foldl (· + ·) 0
/-- the width of an operator, or 0 -/
def operF (kind a b : Int) (l : List Int) : Int :=
  if kind = 6 then (match l with | [w] => if 0 ≤ b ∧ b ≤ a ∧ a < w then a - b + 1 else 0 | _ => 0)
  else if kind = 7 then (if sumF l ≤ 128 then sumF l else 0)
  else if kind = 8 then (match l with | [w] => w | _ => 0)
  else if 14 ≤ kind ∧ kind ≤ 16 then (match l with | [_] => 1 | _ => 0)
  else if 9 ≤ kind ∧ kind ≤ 13 then (match l with | [v, w] => if v = w then v else 0 | _ => 0)
  else 0
def widthOk (w : Int) : Option (Int × Int) := if 1 ≤ w then some (0, w) else none
def typeB (n : Nd) (l : List (Option (Int × Int))) : Option (Int × Int) :=
  if n.kind = 1 then (if n.kids ≠ [] then none else if (n.c = 1 ∨ n.c = 2) ∧ n.b = 0 then some (n.c, 0) else if n.c = 0 ∧ n.b ≤ 128 then widthOk n.b else none)
  else if n.kind = 2 then (if n.kids ≠ [] then none else if n.value.size ≤ 128 then widthOk n.value.size else none)
  else if n.kind = 4 then (if n.kids ≠ [] then none else some (1, 0))
  else if n.kind = 5 then (if n.kids ≠ [] then none else some (2, 0))
  else match widthsF l with
    | some ws => if 1 ≤ n.kind ∧ n.kind ≤ 16 then widthOk (operF n.kind n.a n.b ws) else none
    | none => none
/-- the kind and the width of a resolved value -/
def typeF (n : Nd) : Option (Int × Int) := n.fold typeB
theorem typeF_eq (n : Nd) : typeF n = typeB n (n.kids.map typeF) := Nd.fold_eq _ n

theorem typeF_mk (kind at_ : Int) (name value : ByteArray) (a b c d : Int) (KA : Option Addr) (kc : Nat) (kids : List Nd) : typeF (.mk kind at_ name value a b c d KA kc kids) =
    (if kind = 1 then (if kids ≠ [] then none else if (c = 1 ∨ c = 2) ∧ b = 0 then some (c, 0) else if c = 0 ∧ b ≤ 128 then widthOk b else none)
    else if kind = 2 then (if kids ≠ [] then none else if value.size ≤ 128 then widthOk value.size else none)
    else if kind = 4 then (if kids ≠ [] then none else some (1, 0))
    else if kind = 5 then (if kids ≠ [] then none else some (2, 0))
    else match widthsF (kids.map typeF) with
      | some ws => if 1 ≤ kind ∧ kind ≤ 16 then widthOk (operF kind a b ws) else none
      | none => none) := typeF_eq _
theorem widthOk_some {w : Int} {x : Int × Int} (h : widthOk w = some x) : x = (0, w) ∧ 1 ≤ w := by
  unfold widthOk at h
  split at h
  · injection h with h; exact ⟨h.symm, by assumption⟩
  · cases h
theorem sumF_cons (w : Int) (l : List Int) : sumF (w :: l) = w + sumF l := by
  unfold sumF
  have key : ∀ (l : List Int) (a : Int), l.foldl (· + ·) a = a + l.foldl (· + ·) 0 := by
    intro l
    induction l with
    | nil => intro a; simp
    | cons x l ih => intro a; rw [List.foldl_cons, ih, List.foldl_cons, ih (0 + x)]; omega
  rw [List.foldl_cons, key]; omega
theorem sumF_snoc (l : List Int) (w : Int) : sumF (l ++ [w]) = sumF l + w := by
  unfold sumF; rw [List.foldl_append]; rfl
theorem widthsF_at {l : List (Option (Int × Int))} {ws : List Int} (h : widthsF l = some ws) : ws.length = l.length ∧ ∀ i : Nat, ∀ w, ws[i]? = some w → l[i]? = some (some (0, w)) := by
  induction l generalizing ws with
  | nil => simp [widthsF] at h; subst h; simp
  | cons x l ih =>
    match x, h with
    | some (k, w), h =>
      unfold widthsF at h
      split at h
      · rename_i hk
        subst hk
        cases h1 : widthsF l with
        | none => rw [h1] at h; cases h
        | some vs =>
          rw [h1] at h
          injection h with h
          subst h
          obtain ⟨h2, h3⟩ := ih h1
          refine ⟨by simp [h2], fun i u hu => ?_⟩
          cases i with
          | zero => simp at hu; subst hu; rfl
          | succ i => simpa using h3 i u (by simpa using hu)
      · cases h
/-- widths are from 1 to 128 for Bits, and 0 for others -/
theorem typeF_bound (n : Nd) : ∀ k w, typeF n = some (k, w) → (k = 0 ∧ 1 ≤ w ∧ w ≤ 128) ∨ ((k = 1 ∨ k = 2) ∧ w = 0) := by
  induction n using Nd.ind with
  | h n ih =>
  intro k w h
  rw [typeF_eq] at h
  unfold typeB at h
  split at h
  · split at h
    · cases h
    · split at h
      · rename_i h1
        injection h with h
        injection h with h2 h3
        right; omega
      · split at h
        · rename_i h1
          obtain ⟨h2, h3⟩ := widthOk_some h
          injection h2 with h4 h5
          left; omega
        · cases h
  · split at h
    · split at h
      · cases h
      · split at h
        · obtain ⟨h2, h3⟩ := widthOk_some h
          injection h2 with h4 h5
          left; omega
        · cases h
    · split at h
      · split at h
        · cases h
        · injection h with h; injection h with h2 h3; right; omega
      · split at h
        · split at h
          · cases h
          · injection h with h; injection h with h2 h3; right; omega
        · split at h
          · rename_i ws hws
            split at h
            · obtain ⟨h2, h3⟩ := widthOk_some h
              injection h2 with h4 h5
              left
              obtain ⟨hl, hw⟩ := widthsF_at hws
              have hb : ∀ v ∈ ws, 1 ≤ v ∧ v ≤ 128 := fun v hv => by
                obtain ⟨i, hi⟩ := List.getElem?_of_mem hv
                have h6 := hw i v hi
                rw [List.getElem?_map, Option.map_eq_some_iff] at h6
                obtain ⟨m, h7, h8⟩ := h6
                have := ih m (List.mem_of_getElem? h7) 0 v h8
                omega
              refine ⟨h4, by omega, ?_⟩
              rw [h5]
              unfold operF
              split
              · split
                · rename_i u
                  have := hb u (by simp)
                  split <;> omega
                · omega
              · split
                · split <;> omega
                · split
                  · split
                    · rename_i u
                      exact (hb u (by simp)).2
                    · omega
                  · split
                    · split <;> omega
                    · split
                      · split
                        · rename_i u v
                          have := hb u (by simp)
                          split <;> omega
                        · omega
                      · omega
            · cases h
          · cases h

end Go.Proofs.YtbhcmnfeeogdhaaGreatDoor

/-
  Words for memory that serve every seat: blocks that stay, rows of strings, own rows, append of a whole slice. Nothing here names a function or a struct of the program.
-/
namespace Go.Proofs.YtbhcmnfeeogdhaaGreatDoor
open Go.RowKit

theorem hide {p : Prop} (h : p) : Hid p := h
def I64 (n : Int) : Prop := -9223372036854775808 ≤ n ∧ n ≤ 9223372036854775807

/-- the blocks that P names are as they were -/
def Stay (P : Nat → Prop) (w w' : World) : Prop := ∀ b, P b → w'.heap[b]? = w.heap[b]?
theorem Stay.refl (P : Nat → Prop) (w : World) : Stay P w w := fun _ _ => rfl
theorem Stay.trans {P : Nat → Prop} {a b c : World} (h : Stay P a b) (h' : Stay P b c) : Stay P a c := fun k hk => (h' k hk).trans (h k hk)
theorem Stay.cell {P : Nat → Prop} {w w' : World} (h : Stay P w w') {b o : Nat} (hb : P b) : w'.cell? ⟨b, o, none⟩ = w.cell? ⟨b, o, none⟩ := World.cell?_of_block (a := ⟨b, o, none⟩) (h b hb)
theorem stay_below {P : Nat → Prop} {w w' : World} (h : Below w.heap.size w w') (hp : ∀ b, P b → b < w.heap.size) : Stay P w w' := fun b hb => h.block b (hp b hb)
/-- a list of strings, in blocks that P names -/
def StrsAt (w : World) (P : Nat → Prop) (A : Option Addr) (vs : List ByteArray) : Prop :=
  vs ≠ [] → ∃ b off, A = some ⟨b, off, none⟩ ∧ P b ∧ ∀ i s, vs[i]? = some s → w.cell? ⟨b, off + i, none⟩ = some (.string s)

section
variable {w w' : World} {P P' : Nat → Prop} {A : Option Addr}
theorem StrsAt.stay {vs : List ByteArray} (h : StrsAt w P A vs) (hs : Stay P w w') : StrsAt w' P A vs := fun hx => by
  obtain ⟨b, off, e, hb, hc⟩ := h hx
  exact ⟨b, off, e, hb, fun i s hi => (hs.cell hb).trans (hc i s hi)⟩
theorem StrsAt.more {vs : List ByteArray} (h : StrsAt w P A vs) (hp : ∀ b, P b → P' b) : StrsAt w P' A vs := fun hx => by
  obtain ⟨b, off, e, hb, hc⟩ := h hx
  exact ⟨b, off, e, hp b hb, hc⟩
theorem StrsAt.at_ {vs : List ByteArray} (h : StrsAt w P A vs) {k : Nat} (hk : k < vs.length) : ∃ b off, A = some ⟨b, off, none⟩ ∧ P b ∧ w.cell? ⟨b, off + k, none⟩ = some (.string vs[k]) := by
  obtain ⟨b, off, e, hb, hc⟩ := h (fun e => by subst e; simp at hk)
  exact ⟨b, off, e, hb, hc k _ (List.getElem?_eq_getElem hk)⟩
theorem StrsAt.nil : StrsAt w P A [] := fun h => absurd rfl h
end

/-- below a block -/
def Lo (n : Nat) (b : Nat) : Prop := b < n

theorem flat_len {α : Type} (f : α → List Value) (m : Nat) (hf : ∀ x, (f x).length = m) (xs : List α) : (xs.flatMap f).length = xs.length * m := by
  induction xs with
  | nil => simp
  | cons x xs ih => rw [List.flatMap_cons, List.length_append, hf, ih, List.length_cons, Nat.add_mul]; omega
theorem flat_at {α : Type} (f : α → List Value) (m : Nat) (hf : ∀ x, (f x).length = m) {xs : List α} {i j : Nat} {x : α} (h : xs[i]? = some x) (hj : j < m) : (xs.flatMap f)[i * m + j]? = (f x)[j]? := by
  induction xs generalizing i with
  | nil => simp at h
  | cons y ys ih =>
    cases i with
    | zero =>
      simp at h; subst h
      rw [List.flatMap_cons, Nat.zero_mul, Nat.zero_add, List.getElem?_append_left (by rw [hf]; exact hj)]
    | succ i =>
      have := ih (i := i) (by simpa using h)
      rw [List.flatMap_cons, List.getElem?_append_right (by rw [hf, Nat.add_mul]; omega), hf, ← this]
      congr 1
      rw [Nat.add_mul]; omega

/-- the block of a slice -/
def ob (A : Option Addr) : Option Nat := (Value.slice A 0 0).ownBlock
theorem ob_eq (A : Option Addr) (n c : Nat) : (Value.slice A n c).ownBlock = ob A := by cases A <;> rfl
theorem own_place {w : World} {base : Nat} {A : Option Addr} {c : Nat} {e : TypeId} {size n : Nat} {xs : List Value} (h : w.ownsRow base e size (.slice A n c) n xs) (hn : 0 < n) : ∃ g, A = some ⟨g, 0, none⟩ ∧ base ≤ g ∧ g < w.heap.size := by
  obtain ⟨g, cap, e1, h1, h2⟩ := World.ownsRow.form h hn
  injection e1 with e1
  exact ⟨g, e1, h1, h2⟩

theorem box_lt {w : World} {N : Nat} {o : Obj} (h : w.heap[N]? = some o) : N < w.heap.size := (Array.getElem?_eq_some_iff.1 h).1
theorem box_alloc {w : World} {N : Nat} {o o' : Obj} (h : w.heap[N]? = some o) : (w.alloc o').heap[N]? = some o := (Below.heap_alloc w o' N (box_lt h)).trans h
theorem box_below {w w' : World} {N : Nat} {o : Obj} (b : Below w.heap.size w w') (h : w.heap[N]? = some o) : w'.heap[N]? = some o := (b.block N (box_lt h)).trans h
theorem box_grown {w w' : World} {N : Nat} {o : Obj} {row : Option Nat} (h : w.heap[N]? = some o) (hg : w.grownBy w' row) (hr : row ≠ some N) : w'.heap[N]? = some o := (hg.block N (box_lt h) (fun e => hr e.symm)).trans h
theorem box_set {w : World} {N M k : Nat} {o : Obj} {v : Value} (h : w.heap[N]? = some o) (hne : N ≠ M) : (w.setCell ⟨M, k, none⟩ v).heap[N]? = some o := by
  rw [Below.heap_setCell _ _ _ _ (by simpa using hne)]; exact h
theorem bstep {w0 w w' : World} (h : Below w0.heap.size w0 w) (hb : Below w.heap.size w w') : Below w0.heap.size w0 w' := h.trans (hb.mono h.size)
theorem box2 {w : World} {N : Nat} {a b : Value} {t : TypeId} (h : w.heap[N]? = some (.cells #[a, b] t (0, 0))) : w.cell? ⟨N, 0, none⟩ = some a ∧ w.cell? ⟨N, 1, none⟩ = some b ∧ w.frozen? ⟨N, 0, none⟩ = false ∧ w.frozen? ⟨N, 1, none⟩ = false :=
  ⟨by rw [cell_of_row w N _ _ t (0, 0) h]; rfl, by rw [cell_of_row w N _ _ t (0, 0) h]; rfl, by simp [World.frozen?, h], by simp [World.frozen?, h]⟩
theorem own_ob {w : World} {base : Nat} {e : TypeId} {size n : Nat} {A : Option Addr} {c : Nat} {xs : List Value} (h : w.ownsRow base e size (.slice A n c) n xs) (g : Nat) (hg : ob A = some g) : base ≤ g ∧ g < w.heap.size :=
  World.ownsRow.lt h g ((ob_eq A n c).trans hg)
/-- an own row, where another block was written or grown -/
theorem own_block {w w' : World} {base : Nat} {e : TypeId} {size n : Nat} {A : Option Addr} {c : Nat} {xs : List Value} (h : w.ownsRow base e size (.slice A n c) n xs) (hk : ∀ g, ob A = some g → w'.heap[g]? = w.heap[g]?) : w'.ownsRow base e size (.slice A n c) n xs := by
  refine ⟨h.1, ?_⟩
  rcases h.2 with h2 | ⟨g, cap, cur, h2, h3, h4, h5⟩
  · exact .inl h2
  · refine .inr ⟨g, cap, cur, h2, h3, ?_, h5⟩
    rw [hk g ?_]
    · exact h4
    · rw [← ob_eq A n c, h2]; rfl

theorem below_drewN {B : Nat} {a w : World} (h : Below B a w) (n : Nat) : Below B a (w.drewN n) := ⟨h.os, h.tape, h.output, h.size, h.block⟩
theorem below_drew {B : Nat} {a w : World} (h : Below B a w) : Below B a w.drew := ⟨h.os, h.tape, h.output, h.size, h.block⟩
theorem run_append_nothing {P : Program} (w : World) (base : Nat) (t ty e : TypeId) (i : TypeInfo) (size : Nat) (ht : P.underlying t = some (.slice e)) (hi : P.info? e = some i)
    (v : Value) (n : Nat) (xs : List Value) (hown : w.ownsRow base e size v n xs) (c : Nat) : (Builtin.append_ #[t, t] ty #[v, .slice none 0 c]).run P w = .ok v w := by
  rcases hown.2 with ⟨rfl, rfl⟩ | ⟨g, cap, cur, rfl, _, _, hnc, _⟩
  · simp [Builtin.append_, run_underlying ht, sizeOf, typeInfo, hi, Builtin.lenOf, Builtin.firstCells]
  · simp [Builtin.append_, run_underlying ht, sizeOf, typeInfo, hi, Builtin.lenOf, Builtin.firstCells, hnc, storeCells]
theorem addr_add (b off j : Nat) : (⟨b, off, none⟩ : Addr).add j = ⟨b, off + j, none⟩ := by
  unfold Addr.add
  by_cases h : j = 0 <;> simp [h]
theorem append_src {P : Program} {ops : Array Oper} {rest : List Oper} {o : Oper} {a : Act} {Q : Exit → Act → World → Prop} {w : World} (hgd : o.guard = none) (s x : Operand) (t : TypeId)
    (ho : o.op = .call { callee := .builtin .append, args := #[s, x], argTypes := #[t, t] })
    (base : Nat) (e : TypeId) (i : TypeInfo) (z : Value) (size bytes : Nat) (ht : P.underlying t = some (.slice e)) (hi : P.info? e = some i) (hz : i.zero = some z)
    (hsize : i.size = size) (hby : i.bytes = bytes) (hzs : z.cells.size = size) (hsz : 0 < size)
    (v : Value) (n : Nat) (xs : List Value) (hs : a.eval s = v) (hown : w.ownsRow base e size v n xs)
    (A : Option Addr) (m c : Nat) (news : List Value) (hx : a.eval x = .slice A m c) (hl : news.length = m * size)
    (hsrc : news ≠ [] → ∃ b off, A = some ⟨b, off, none⟩ ∧ ∀ j u, news[j]? = some u → w.cell? ⟨b, off + j, none⟩ = some u) (h1 : ∀ u ∈ news, u.oneCell' = true)
    (h63 : n + m ≤ maxLen) (hbytes : (n + m) * bytes ≤ 140737488355328) (hbase : base ≤ w.heap.size)
    (h : ∀ v' w', w'.ownsRow base e size v' (n + m) (xs ++ news) → w.grownBy w' v.ownBlock → wpList P ops Q rest (a.put o.dst v') w') : wpList P ops Q (o :: rest) a w := by
  by_cases hne : news = []
  · subst hne
    have hm : m = 0 := by
      rcases Nat.eq_zero_or_pos m with h0 | h0
      · exact h0
      · have := Nat.mul_pos h0 hsz
        simp at hl
        omega
    subst hm
    cases A with
    | none =>
      refine wpList_plain hgd fun K hK => ?_
      have hrun := run_append_nothing (P := P) w base t o.type e i size ht hi v n xs hown c
      unfold Oper.wp execOp
      simp only [ho, resolve, invoke, builtin, Sem.run_bind, Sem.run_pure, Result.andThen_ok, List.map_toArray, List.map_cons, List.map_nil, hs, hx, hrun]
      exact hK _ _ (h v w (by simpa using hown) (World.grownBy.refl w _))
    | some ad =>
      exact wpList_append_own _ hgd s x t ho base e i z size bytes ht hi hz hsize hby hzs hsz v n xs hs hown ad 0 c [] hx (by simp) (by simp) (by simp) h63 hbytes hbase fun v' w' h2 h3 _ => h v' w' h2 h3
  · obtain ⟨b, off, rfl, hc⟩ := hsrc hne
    exact wpList_append_own _ hgd s x t ho base e i z size bytes ht hi hz hsize hby hzs hsz v n xs hs hown ⟨b, off, none⟩ m c news hx hl (fun j u hu => by rw [addr_add]; exact hc j u hu) h1 h63 hbytes hbase fun v' w' h2 h3 _ => h v' w' h2 h3

theorem wp_append_src {P : Program} {o : Oper} {a : Act} {K : Act → World → Prop} {Q : Exit → Act → World → Prop} {w : World} (s x : Operand) (t : TypeId)
    (ho : o.op = .call { callee := .builtin .append, args := #[s, x], argTypes := #[t, t] })
    (base : Nat) (e : TypeId) (i : TypeInfo) (z : Value) (size bytes : Nat) (ht : P.underlying t = some (.slice e)) (hi : P.info? e = some i) (hz : i.zero = some z)
    (hsize : i.size = size) (hby : i.bytes = bytes) (hzs : z.cells.size = size) (hsz : 0 < size)
    (v : Value) (n : Nat) (xs : List Value) (hs : a.eval s = v) (hown : w.ownsRow base e size v n xs)
    (A : Option Addr) (m c : Nat) (news : List Value) (hx : a.eval x = .slice A m c) (hl : news.length = m * size)
    (hsrc : news ≠ [] → ∃ b off, A = some ⟨b, off, none⟩ ∧ ∀ j u, news[j]? = some u → w.cell? ⟨b, off + j, none⟩ = some u) (h1 : ∀ u ∈ news, u.oneCell' = true)
    (h63 : n + m ≤ maxLen) (hbytes : (n + m) * bytes ≤ 140737488355328) (hbase : base ≤ w.heap.size)
    (h : ∀ v' w', w'.ownsRow base e size v' (n + m) (xs ++ news) → w.grownBy w' v.ownBlock → K (a.put o.dst v') w') : o.wp P a w K Q := by
  by_cases hne : news = []
  · subst hne
    have hm : m = 0 := by
      rcases Nat.eq_zero_or_pos m with h0 | h0
      · exact h0
      · have := Nat.mul_pos h0 hsz
        simp at hl
        omega
    subst hm
    cases A with
    | none =>
      have hrun := run_append_nothing (P := P) w base t o.type e i size ht hi v n xs hown c
      unfold Oper.wp execOp
      simp only [ho, resolve, invoke, builtin, Sem.run_bind, Sem.run_pure, Result.andThen_ok, List.map_toArray, List.map_cons, List.map_nil, hs, hx, hrun]
      exact h v w (by simpa using hown) (World.grownBy.refl w _)
    | some ad =>
      exact wp_append_own w s x t ho base e i z size bytes ht hi hz hsize hby hzs hsz v n xs hs hown ad 0 c [] hx (by simp) (by simp) (by simp) h63 hbytes hbase fun v' w' h2 h3 _ => h v' w' h2 h3
  · obtain ⟨b, off, rfl, hc⟩ := hsrc hne
    exact wp_append_own w s x t ho base e i z size bytes ht hi hz hsize hby hzs hsz v n xs hs hown ⟨b, off, none⟩ m c news hx hl (fun j u hu => by rw [addr_add]; exact hc j u hu) h1 h63 hbytes hbase fun v' w' h2 h3 _ => h v' w' h2 h3

theorem step_append_src {P : Program} {ops : Array Oper} {o : Oper} {a : Act} {K : Act → World → Prop} {Q : Exit → Act → World → Prop} {E : Prop} {w : World} (hgd : o.guard = none) (s x : Operand) (t : TypeId)
    (ho : o.op = .call { callee := .builtin .append, args := #[s, x], argTypes := #[t, t] })
    (base : Nat) (e : TypeId) (i : TypeInfo) (z : Value) (size bytes : Nat) (ht : P.underlying t = some (.slice e)) (hi : P.info? e = some i) (hz : i.zero = some z)
    (hsize : i.size = size) (hby : i.bytes = bytes) (hzs : z.cells.size = size) (hsz : 0 < size)
    (v : Value) (n : Nat) (xs : List Value) (hs : a.eval s = v) (hown : w.ownsRow base e size v n xs)
    (A : Option Addr) (m c : Nat) (news : List Value) (hx : a.eval x = .slice A m c) (hl : news.length = m * size)
    (hsrc : news ≠ [] → ∃ b off, A = some ⟨b, off, none⟩ ∧ ∀ j u, news[j]? = some u → w.cell? ⟨b, off + j, none⟩ = some u) (h1 : ∀ u ∈ news, u.oneCell' = true)
    (h63 : n + m ≤ maxLen) (hbytes : (n + m) * bytes ≤ 140737488355328) (hbase : base ≤ w.heap.size)
    (h : ∀ v' w', w'.ownsRow base e size v' (n + m) (xs ++ news) → w.grownBy w' v.ownBlock → K (a.put o.dst v') w') :
    if Region.wanted o (yielded ops a.tmps) = true then Oper.wp P o a w K Q else E := by
  have hw : Region.wanted o (yielded ops a.tmps) = true := by simp [Region.wanted, hgd]
  rw [if_pos hw]
  exact wp_append_src s x t ho base e i z size bytes ht hi hz hsize hby hzs hsz v n xs hs hown A m c news hx hl hsrc h1 h63 hbytes hbase h

/-- a source that is a block of its own -/
theorem src_block {w : World} {M : Nat} {cs : List Value} {t : TypeId} {fr : Nat × Nat} (h : w.heap[M]? = some (.cells cs.toArray t fr)) :
    cs ≠ [] → ∃ b off, (some ⟨M, 0, none⟩ : Option Addr) = some ⟨b, off, none⟩ ∧ ∀ j u, cs[j]? = some u → w.cell? ⟨b, off + j, none⟩ = some u := fun _ =>
  ⟨M, 0, rfl, fun j u hu => by rw [Nat.zero_add, cell_of_row w M j _ _ fr h]; simpa using hu⟩

theorem StrsAt.src {w : World} {P : Nat → Prop} {A : Option Addr} {vs : List ByteArray} (h : StrsAt w P A vs) : vs.map Value.string ≠ [] → ∃ b off, A = some ⟨b, off, none⟩ ∧ ∀ j u, (vs.map Value.string)[j]? = some u → w.cell? ⟨b, off + j, none⟩ = some u := by
  intro hne
  obtain ⟨b, off, e, _, hc⟩ := h (fun e => hne (by rw [e]; rfl))
  refine ⟨b, off, e, fun j u hu => ?_⟩
  rw [List.getElem?_map] at hu
  cases hj : vs[j]? with
  | none => rw [hj] at hu; cases hu
  | some z =>
    rw [hj] at hu
    simp only [Option.map_some, Option.some.injEq] at hu
    subst hu
    exact hc j z hj

end Go.Proofs.YtbhcmnfeeogdhaaGreatDoor

/-
  Rows of whatever elements in memory; automata: their edges, final states and lists of trees.
-/
namespace Go.Proofs.YtbhcmnfeeogdhaaGreatDoor
open Go.RowKit

/-- a row of elements in blocks that P names -/
def Row {α : Type} (w : World) (P : Nat → Prop) (size : Nat) (cells : α → List Value) (A : Option Addr) (xs : List α) : Prop :=
  xs ≠ [] → ∃ b off, A = some ⟨b, off, none⟩ ∧ P b ∧ ∀ i x, xs[i]? = some x → ∀ j, j < size → w.cell? ⟨b, off + i * size + j, none⟩ = (cells x)[j]?

section
variable {α : Type} {w w' : World} {P P' : Nat → Prop} {size : Nat} {cells : α → List Value} {A : Option Addr} {xs : List α}
theorem Row.stay (h : Row w P size cells A xs) (hs : Stay P w w') : Row w' P size cells A xs := fun hx => by
  obtain ⟨b, off, e, hb, hc⟩ := h hx
  exact ⟨b, off, e, hb, fun i x hi j hj => (hs.cell hb).trans (hc i x hi j hj)⟩
theorem Row.more (h : Row w P size cells A xs) (hp : ∀ b, P b → P' b) : Row w P' size cells A xs := fun hx => by
  obtain ⟨b, off, e, hb, hc⟩ := h hx
  exact ⟨b, off, e, hp b hb, hc⟩
theorem Row.nil : Row w P size cells A ([] : List α) := fun h => absurd rfl h
theorem Row.at_ (h : Row w P size cells A xs) {k : Nat} (hk : k < xs.length) : ∃ b off, A = some ⟨b, off, none⟩ ∧ P b ∧ ∀ j, j < size → w.cell? ⟨b, off + k * size + j, none⟩ = (cells xs[k])[j]? := by
  obtain ⟨b, off, e, hb, hc⟩ := h (fun e => by subst e; simp at hk)
  exact ⟨b, off, e, hb, hc k _ (List.getElem?_eq_getElem hk)⟩
/-- below the heap's end, where the world has grown -/
theorem Row.grow (h : Row w (Lo w.heap.size) size cells A xs) (hb : Below w.heap.size w w') : Row w' (Lo w'.heap.size) size cells A xs :=
  (h.stay (stay_below hb fun _ h => h)).more fun _ hb' => Nat.lt_of_lt_of_le hb' hb.size
end

end Go.Proofs.YtbhcmnfeeogdhaaGreatDoor

/-
  Trees of api.Node in memory.
-/
namespace Go.Proofs.YtbhcmnfeeogdhaaGreatDoor
open Go.RowKit

def cNd : Nd → List Value | .mk kind at_ name value a b c d KA kc kids => [.int .i64 kind, .int .i64 at_, .string name, .string value, .int .i64 a, .int .i64 b, .int .i64 c, .int .i64 d, .slice KA kids.length kc]
/-- lists of trees in memory -/
inductive TreesAt (w : World) (P : Nat → Prop) : Option Addr → List Nd → Prop
  | mk (A : Option Addr) (l : List Nd) (len : l.length ≤ 1353245080339) (row : Row w P 9 cNd A l) (kids : ∀ n, n ∈ l → TreesAt w P n.KA n.kids) : TreesAt w P A l
section
variable {w w' : World} {P P' : Nat → Prop} {A : Option Addr} {l : List Nd}
theorem TreesAt.len (h : TreesAt w P A l) : l.length ≤ 1353245080339 := by cases h; assumption
theorem TreesAt.row (h : TreesAt w P A l) : Row w P 9 cNd A l := by cases h; assumption
theorem TreesAt.each (h : TreesAt w P A l) : ∀ n ∈ l, TreesAt w P n.KA n.kids := by cases h; assumption
theorem TreesAt.stay (h : TreesAt w P A l) (hs : Stay P w w') : TreesAt w' P A l := by
  induction h with
  | mk A l len row _ ih => exact .mk A l len (row.stay hs) fun n hn => ih n hn
theorem TreesAt.more (h : TreesAt w P A l) (hp : ∀ b, P b → P' b) : TreesAt w P' A l := by
  induction h with
  | mk A l len row _ ih => exact .mk A l len (row.more hp) fun n hn => ih n hn
theorem TreesAt.grow (h : TreesAt w (Lo w.heap.size) A l) (hb : Below w.heap.size w w') : TreesAt w' (Lo w'.heap.size) A l := (h.stay (stay_below hb fun _ h => h)).more fun _ hb' => Nat.lt_of_lt_of_le hb' hb.size
theorem TreesAt.nil : TreesAt w P A [] := .mk A [] (by simp) Row.nil fun n hn => absurd hn (by simp)
end
theorem box9 {w : World} {N : Nat} {a b c d e f g h i : Value} {t : TypeId} (hN : w.heap[N]? = some (.cells #[a, b, c, d, e, f, g, h, i] t (0, 0))) : w.cell? ⟨N, 0, none⟩ = some a ∧ w.cell? ⟨N, 1, none⟩ = some b ∧ w.cell? ⟨N, 2, none⟩ = some c ∧ w.cell? ⟨N, 3, none⟩ = some d ∧ w.cell? ⟨N, 4, none⟩ = some e ∧ w.cell? ⟨N, 5, none⟩ = some f ∧ w.cell? ⟨N, 6, none⟩ = some g ∧ w.cell? ⟨N, 7, none⟩ = some h ∧ w.cell? ⟨N, 8, none⟩ = some i := by
  refine ⟨?_, ?_, ?_, ?_, ?_, ?_, ?_, ?_, ?_⟩ <;> (rw [cell_of_row w N _ _ t (0, 0) hN]; rfl)
/-- nine cells out of a row's fact -/
theorem nine {w : World} {b o : Nat} {v0 v1 v2 v3 v4 v5 v6 v7 v8 : Value} (h : ∀ j, j < 9 → w.cell? ⟨b, o + j, none⟩ = [v0, v1, v2, v3, v4, v5, v6, v7, v8][j]?) :
    w.cell? ⟨b, o, none⟩ = some v0 ∧ w.cell? ⟨b, o + 1, none⟩ = some v1 ∧ w.cell? ⟨b, o + 2, none⟩ = some v2 ∧ w.cell? ⟨b, o + 3, none⟩ = some v3 ∧ w.cell? ⟨b, o + 4, none⟩ = some v4 ∧ w.cell? ⟨b, o + 5, none⟩ = some v5 ∧ w.cell? ⟨b, o + 6, none⟩ = some v6 ∧ w.cell? ⟨b, o + 7, none⟩ = some v7 ∧ w.cell? ⟨b, o + 8, none⟩ = some v8 :=
  ⟨h 0 (by omega), h 1 (by omega), h 2 (by omega), h 3 (by omega), h 4 (by omega), h 5 (by omega), h 6 (by omega), h 7 (by omega), h 8 (by omega)⟩
theorem new_at {w W : World} {o : Obj} (h : w.alloc o = W) : W.heap[w.heap.size]? = some o := by rw [← h]; exact heap_alloc_new w o
/-- a value in the end, in memory that has only grown -/
def RetV (v : Value) (w : World) (e : Ending) (w' : World) : Prop := e = .returned v ∧ Below w.heap.size w w'

end Go.Proofs.YtbhcmnfeeogdhaaGreatDoor

/-
  event.Is and wavestoreref53.Is: the kinds of events.
-/
namespace Go.Proofs.YtbhcmnfeeogdhaaGreatDoor
open Go.RowKit

def eq1 (a : ByteArray) (c : UInt8) : Bool := a.toList == [c]
def unkB (a : ByteArray) : Bool := eq1 a 120 || eq1 a 122
/-- two values are an event of a kind -/
def isEv (kind : Int) (a b : ByteArray) : Bool :=
  if kind = 37 then eq1 a 48 && eq1 b 49
  else if kind = 38 then eq1 a 49 && eq1 b 48
  else if kind = 39 then eq1 a 48 && (eq1 b 49 || unkB b) || unkB a && eq1 b 49
  else if kind = 40 then eq1 a 49 && (eq1 b 48 || unkB b) || unkB a && eq1 b 48
  else if kind = 41 then a.toList != b.toList else false
theorem eq1_self {a : ByteArray} {c : UInt8} (h : eq1 a c = true) : a = ⟨#[c]⟩ := by
  unfold eq1 at h
  rw [beq_iff_eq, ByteArray.toList_eq] at h
  exact ByteArray.ext (Array.toList_inj.1 h)
theorem eq1_lit (x c : UInt8) : eq1 ⟨#[x]⟩ c = (x == c) := by
  unfold eq1
  rw [ByteArray.toList_eq]
  simp
theorem str_cls (a : ByteArray) : a = ⟨#[48]⟩ ∨ a = ⟨#[49]⟩ ∨ a = ⟨#[120]⟩ ∨ a = ⟨#[122]⟩ ∨ (((a.toList == [48]) = false ∧ (a.toList == [49]) = false ∧ (a.toList == [120]) = false ∧ (a.toList == [122]) = false) ∧ eq1 a 48 = false ∧ eq1 a 49 = false ∧ eq1 a 120 = false ∧ eq1 a 122 = false) := by
  cases h0 : eq1 a 48
  · cases h1 : eq1 a 49
    · cases h2 : eq1 a 120
      · cases h3 : eq1 a 122
        · exact .inr (.inr (.inr (.inr ⟨⟨h0, h1, h2, h3⟩, rfl, rfl, rfl, rfl⟩)))
        · exact .inr (.inr (.inr (.inl (eq1_self h3))))
      · exact .inr (.inr (.inl (eq1_self h2)))
    · exact .inr (.inl (eq1_self h1))
  · exact .inl (eq1_self h0)

set_option maxRecDepth 100000 in
set_option maxHeartbeats 2000000 in
theorem unk53 (a : ByteArray) (w : World) : Calls Tryz.prog 26 #[.string a] w fun e w' => e = .returned (.bool (unkB a)) ∧ w = w' := by
  go_enter Tryz.func26, Tryz.ntmps26
  go_wp2_with fail
  all_goals
    go_ret
    exact ⟨by simp_all [unkB, eq1], rfl⟩
set_option maxRecDepth 100000 in
set_option maxHeartbeats 2000000 in
theorem unkE (a : ByteArray) (w : World) : Calls Tryz.prog 56 #[.string a] w fun e w' => e = .returned (.bool (unkB a)) ∧ w = w' := by
  go_enter Tryz.func56, Tryz.ntmps56
  go_wp2_with fail
  all_goals
    go_ret
    exact ⟨by simp_all [unkB, eq1], rfl⟩

set_option maxRecDepth 100000 in
set_option maxHeartbeats 8000000 in
theorem ris53 (kind : Int) (a b : ByteArray) (w : World) : Calls Tryz.prog 10 #[.int .i64 kind, .string a, .string b] w fun e w' => e = .returned (.bool (isEv kind a b)) ∧ w = w' := by
  by_cases k7 : kind = 37
  · subst k7
    cases ha : (a.toList == [48])
    all_goals
      go_enter Tryz.func10, Tryz.ntmps10
      go_wp2_with fail
      go_ret
      exact ⟨by simp [isEv, eq1, ha], rfl⟩
  by_cases k8 : kind = 38
  · subst k8
    cases ha : (a.toList == [49])
    all_goals
      go_enter Tryz.func10, Tryz.ntmps10
      go_wp2_with fail
      go_ret
      exact ⟨by simp [isEv, eq1, ha], rfl⟩
  by_cases k9 : kind = 39
  · subst k9
    rcases str_cls a with rfl | rfl | rfl | rfl | ⟨⟨a0, a1, a2, a3⟩, e0, e1, e2, e3⟩ <;> rcases str_cls b with rfl | rfl | rfl | rfl | ⟨⟨b0, b1, b2, b3⟩, f0, f1, f2, f3⟩
    all_goals
      go_enter Tryz.func10, Tryz.ntmps10
      go_wp2_with (go_at_call 26; refine (unk53 _ _).mono ?_; rintro e w' ⟨rfl, rfl⟩; simp only [unkB, eq1, *])
      go_ret
      refine ⟨?_, rfl⟩
      simp [isEv, unkB, eq1_lit, *]
  by_cases k10 : kind = 40
  · subst k10
    rcases str_cls a with rfl | rfl | rfl | rfl | ⟨⟨a0, a1, a2, a3⟩, e0, e1, e2, e3⟩ <;> rcases str_cls b with rfl | rfl | rfl | rfl | ⟨⟨b0, b1, b2, b3⟩, f0, f1, f2, f3⟩
    all_goals
      go_enter Tryz.func10, Tryz.ntmps10
      go_wp2_with (go_at_call 26; refine (unk53 _ _).mono ?_; rintro e w' ⟨rfl, rfl⟩; simp only [unkB, eq1, *])
      go_ret
      refine ⟨?_, rfl⟩
      simp [isEv, unkB, eq1_lit, *]
  by_cases k11 : kind = 41
  · subst k11
    cases hab : (a.toList == b.toList)
    all_goals
      go_enter Tryz.func10, Tryz.ntmps10
      go_wp2_with fail
      go_ret
      exact ⟨by simp [isEv, bne, hab], rfl⟩
  have T1 : (kind == 37) = false := beq_eq_false_iff_ne.2 k7
  have T2 : (kind == 38) = false := beq_eq_false_iff_ne.2 k8
  have T3 : (kind == 39) = false := beq_eq_false_iff_ne.2 k9
  have T4 : (kind == 40) = false := beq_eq_false_iff_ne.2 k10
  have T5 : (kind == 41) = false := beq_eq_false_iff_ne.2 k11
  have HE := hide (show isEv kind a b = false by unfold isEv; rw [if_neg k7, if_neg k8, if_neg k9, if_neg k10, if_neg k11])
  clear k7 k8 k9 k10 k11
  go_enter Tryz.func10, Tryz.ntmps10
  go_wp2_with fail
  go_ret
  rw [HE.out]
  exact ⟨rfl, rfl⟩

end Go.Proofs.YtbhcmnfeeogdhaaGreatDoor

/-
  Maps from int to bool that the call has made, as sets of ints.
-/
namespace Go.Proofs.YtbhcmnfeeogdhaaGreatDoor
open Go.RowKit

theorem i64_wfB {i : Int} (h : I64 i) : (Lit.int .i64 i).wf = true := by
  unfold I64 at h
  simp [Lit.wf, IntKind.min, IntKind.max, IntKind.bits, IntKind.signed]
  omega
theorem intKeyB : Maps.Keyed Tryz.prog 3 := Maps.int_keyed Tryz.underlying3
theorem keyOf_B {i : Int} (h : I64 i) : keyOf Tryz.prog 3 (.int .i64 i) = some (.int .i64 i) := Maps.keyOf_int_mk Tryz.underlying3 (i64_wfB h)
def SetD (D : DataW Unit) (m : Int → Prop) : Prop := ∀ i, I64 i → (¬ m i → Maps.has D (.int .i64 i) = false) ∧ (m i → Maps.has D (.int .i64 i) = true)
/-- block B is a map of n entries at most, whose keys are those of m -/
def MapB (w : World) (B n : Nat) (m : Int → Prop) : Prop :=
  ∃ D : DataW Unit, w.ownsMap Tryz.prog 3 (plainElem Tryz.prog 4) B n D ∧ SetD D m
theorem MapB.made (w : World) : MapB (w.alloc (.map #[] 0)) w.heap.size 0 (fun _ => False) :=
  ⟨.map [], World.ownsMap_made _ _ _ _, fun _ _ => ⟨fun _ => rfl, fun h => h.elim⟩⟩
section
variable {w w' : World} {B n : Nat} {m m' : Int → Prop}
theorem MapB.block (h : MapB w B n m) (hb : w'.heap[B]? = w.heap[B]?) : MapB w' B n m := by
  obtain ⟨D, ⟨es, clock, h1, h3⟩, h2⟩ := h
  exact ⟨D, ⟨es, clock, hb.trans h1, h3⟩, h2⟩
theorem MapB.lt (h : MapB w B n m) : B < w.heap.size := by
  obtain ⟨D, h1, _⟩ := h
  exact h1.lt
theorem MapB.congr (h : MapB w B n m) (hm : ∀ i, m i ↔ m' i) : MapB w B n m' := by
  obtain ⟨D, h1, h2⟩ := h
  exact ⟨D, h1, fun i hi => by rw [← hm]; exact h2 i hi⟩
theorem MapB.obj (h : MapB w B n m) : ∃ es clock, w.heap[B]? = some (.map es clock) := by
  obtain ⟨D, ⟨es, clock, h1, _⟩, _⟩ := h
  exact ⟨es, clock, h1⟩
/-- 'm[k] = true', behind the store by the library's law -/
theorem MapB.put {D : DataW Unit} {s : Int} (hs : I64 s) (h3 : w'.ownsMap Tryz.prog 3 (plainElem Tryz.prog 4) B (n + 1) (D.put (.int .i64 s) (.lit (.bool true)))) (h1 : w.ownsMap Tryz.prog 3 (plainElem Tryz.prog 4) B n D)
    (h2 : SetD D m) : MapB w' B (n + 1) (fun i => m i ∨ i = s) := by
  refine ⟨_, h3, fun i hi => ?_⟩
  have hM := h1.isMap
  by_cases e : i = s
  · subst e
    exact ⟨fun h => absurd (.inr rfl) h, fun _ => Maps.has_put_same hM (by trivial) _⟩
  · have hne : (Lit.int .i64 i) ≠ .int .i64 s := fun h => e (by injection h)
    obtain ⟨h5, h6⟩ := h2 i hi
    exact ⟨fun h => by rw [Maps.has_put_other hne]; exact h5 fun h' => h (.inl h'), fun h => by rw [Maps.has_put_other hne]; exact h6 (h.resolve_right e)⟩
end

end Go.Proofs.YtbhcmnfeeogdhaaGreatDoor

/-
  event.Is: the kinds of events, through a map of functions.
-/
namespace Go.Proofs.YtbhcmnfeeogdhaaGreatDoor
open Go.RowKit

/-- how the map of the kinds reads: a function by its number -/
def funR : Value → Option (DataW Unit × List MemPlace)
  | .func (.func f) ⟨[]⟩ ⟨[]⟩ => some (.lit (.int .i64 f), [])
  | .nilFunc => some (.lit (.int .i64 (-1)), [])
  | _ => none
def kindD : DataW Unit := (((((DataW.map []).put (.int .i64 37) (.lit (.int .i64 53))).put (.int .i64 38) (.lit (.int .i64 54))).put (.int .i64 39) (.lit (.int .i64 55))).put (.int .i64 40) (.lit (.int .i64 57))).put (.int .i64 41) (.lit (.int .i64 58))

set_option maxRecDepth 100000 in
set_option maxHeartbeats 8000000 in
theorem kinds_any (w : World) : Calls Tryz.prog 25 #[] w fun e w' => ∃ B, e = .returned (.map (some B)) ∧ w'.ownsMap Tryz.prog 3 funR B 5 kindD ∧ Below w.heap.size w w' := by
  have hmm := @run_makeMap Tryz.prog
  have hb0 : Below w.heap.size w (w.alloc (.map #[] 0)) := (Below.refl _ _).alloc (Nat.le_refl _) _
  have HB : ∀ g, some w.heap.size = some g → w.heap.size ≤ g := fun g h => by injection h with h; omega
  have hown : (w.alloc (.map #[] 0)).ownsMap Tryz.prog 3 funR w.heap.size 0 (.map []) := World.ownsMap_made _ _ _ _
  obtain ⟨V1, r1, o1, g1⟩ := hown.update intKeyB Tryz.underlying74 (by unfold maxLen; omega) (keyOf_B (i := 37) (by unfold I64; omega)) (val := .func (.func 53) #[] #[]) (d := .lit (.int .i64 53)) (ps := []) rfl
  obtain ⟨V2, r2, o2, g2⟩ := o1.update intKeyB Tryz.underlying74 (by unfold maxLen; omega) (keyOf_B (i := 38) (by unfold I64; omega)) (val := .func (.func 54) #[] #[]) (d := .lit (.int .i64 54)) (ps := []) rfl
  obtain ⟨V3, r3, o3, g3⟩ := o2.update intKeyB Tryz.underlying74 (by unfold maxLen; omega) (keyOf_B (i := 39) (by unfold I64; omega)) (val := .func (.func 55) #[] #[]) (d := .lit (.int .i64 55)) (ps := []) rfl
  obtain ⟨V4, r4, o4, g4⟩ := o3.update intKeyB Tryz.underlying74 (by unfold maxLen; omega) (keyOf_B (i := 40) (by unfold I64; omega)) (val := .func (.func 57) #[] #[]) (d := .lit (.int .i64 57)) (ps := []) rfl
  obtain ⟨V5, r5, o5, g5⟩ := o4.update intKeyB Tryz.underlying74 (by unfold maxLen; omega) (keyOf_B (i := 41) (by unfold I64; omega)) (val := .func (.func 58) #[] #[]) (d := .lit (.int .i64 58)) (ps := []) rfl
  have b1 := hb0.grown g1 hb0.size HB
  have b2 := b1.grown g2 b1.size HB
  have b3 := b2.grown g3 b2.size HB
  have b4 := b3.grown g4 b3.size HB
  have hb := b4.grown g5 b4.size HB
  go_enter Tryz.func25, Tryz.ntmps25
  go_wp2_with fail
  go_ret
  exact ⟨_, rfl, o5, hb⟩

set_option maxRecDepth 100000 in
set_option maxHeartbeats 8000000 in
theorem kind1_any (a b : ByteArray) (w : World) : Calls Tryz.prog 53 #[.string a, .string b] w fun e w' => e = .returned (.bool (isEv 37 a b)) ∧ w = w' := by
  cases ha : (a.toList == [48])
  all_goals
    go_enter Tryz.func53, Tryz.ntmps53
    go_wp2_with fail
    go_ret
    exact ⟨by simp [isEv, eq1, ha], rfl⟩

set_option maxRecDepth 100000 in
set_option maxHeartbeats 8000000 in
theorem kind2_any (a b : ByteArray) (w : World) : Calls Tryz.prog 54 #[.string a, .string b] w fun e w' => e = .returned (.bool (isEv 38 a b)) ∧ w = w' := by
  cases ha : (a.toList == [49])
  all_goals
    go_enter Tryz.func54, Tryz.ntmps54
    go_wp2_with fail
    go_ret
    exact ⟨by simp [isEv, eq1, ha], rfl⟩

set_option maxRecDepth 100000 in
set_option maxHeartbeats 8000000 in
theorem kind3_any (a b : ByteArray) (w : World) : Calls Tryz.prog 55 #[.string a, .string b] w fun e w' => e = .returned (.bool (isEv 39 a b)) ∧ w = w' := by
  rcases str_cls a with rfl | rfl | rfl | rfl | ⟨⟨a0, a1, a2, a3⟩, e0, e1, e2, e3⟩ <;> rcases str_cls b with rfl | rfl | rfl | rfl | ⟨⟨b0, b1, b2, b3⟩, f0, f1, f2, f3⟩
  all_goals
    go_enter Tryz.func55, Tryz.ntmps55
    go_wp2_with (go_at_call 56; refine (unkE _ _).mono ?_; rintro e w' ⟨rfl, rfl⟩; simp only [unkB, eq1, *])
    go_ret
    refine ⟨?_, rfl⟩
    simp [isEv, unkB, eq1_lit, *]

set_option maxRecDepth 100000 in
set_option maxHeartbeats 8000000 in
theorem kind4_any (a b : ByteArray) (w : World) : Calls Tryz.prog 57 #[.string a, .string b] w fun e w' => e = .returned (.bool (isEv 40 a b)) ∧ w = w' := by
  rcases str_cls a with rfl | rfl | rfl | rfl | ⟨⟨a0, a1, a2, a3⟩, e0, e1, e2, e3⟩ <;> rcases str_cls b with rfl | rfl | rfl | rfl | ⟨⟨b0, b1, b2, b3⟩, f0, f1, f2, f3⟩
  all_goals
    go_enter Tryz.func57, Tryz.ntmps57
    go_wp2_with (go_at_call 56; refine (unkE _ _).mono ?_; rintro e w' ⟨rfl, rfl⟩; simp only [unkB, eq1, *])
    go_ret
    refine ⟨?_, rfl⟩
    simp [isEv, unkB, eq1_lit, *]

set_option maxRecDepth 100000 in
set_option maxHeartbeats 8000000 in
theorem kind5_any (a b : ByteArray) (w : World) : Calls Tryz.prog 58 #[.string a, .string b] w fun e w' => e = .returned (.bool (isEv 41 a b)) ∧ w = w' := by
  cases hab : (a.toList == b.toList)
  all_goals
    go_enter Tryz.func58, Tryz.ntmps58
    go_wp2_with fail
    go_ret
    exact ⟨by simp [isEv, bne, hab], rfl⟩
theorem zeroF (w : World) : (zeroValue 72).run Tryz.prog w = .ok .nilFunc w := by kernel_rfl
theorem funR_inv {v : Value} {f : Nat} {ps : List MemPlace} (h : funR v = some (.lit (.int .i64 (f : Int)), ps)) : v = .func (.func f) #[] #[] := by
  unfold funR at h
  split at h
  · rename_i g
    injection h with h
    injection h with h1 h2
    injection h1 with h1
    injection h1 with _ h1
    rw [Int.ofNat_inj.1 h1]
  · injection h with h
    injection h with h1 h2
    injection h1 with h1
    injection h1 with _ h1
    omega
  · cases h
theorem kind_has : Maps.has kindD (.int .i64 37) = true ∧ Maps.has kindD (.int .i64 38) = true ∧ Maps.has kindD (.int .i64 39) = true ∧ Maps.has kindD (.int .i64 40) = true ∧ Maps.has kindD (.int .i64 41) = true := by
  refine ⟨?_, ?_, ?_, ?_, ?_⟩ <;> rfl
theorem kind_no {k : Int} (h7 : k ≠ 37) (h8 : k ≠ 38) (h9 : k ≠ 39) (h10 : k ≠ 40) (h11 : k ≠ 41) : Maps.has kindD (.int .i64 k) = false := by
  have hne : ∀ j : Int, k ≠ j → (Lit.int .i64 k) ≠ .int .i64 j := fun j h e => h (by injection e)
  unfold kindD
  rw [Maps.has_put_other (hne _ h11), Maps.has_put_other (hne _ h10), Maps.has_put_other (hne _ h9), Maps.has_put_other (hne _ h8), Maps.has_put_other (hne _ h7)]
  rfl

set_option maxRecDepth 100000 in
set_option maxHeartbeats 8000000 in
theorem is_any (kind : Int) (a b : ByteArray) (w : World) (hk : I64 kind) : Calls Tryz.prog 9 #[.int .i64 kind, .string a, .string b] w (RetV (.bool (isEv kind a b)) w) := by
  go_enter Tryz.func9, Tryz.ntmps9
  go_wp2_with fail
  refine (kinds_any w).mono ?_
  rintro e w2 ⟨B, rfl, hown, hb⟩
  have HB := hide hb
  have hlook := hown.look_ok intKeyB Tryz.underlying74 (zeroF w2) (zd := .lit (.int .i64 (-1))) (zp := []) rfl (keyOf_B hk)
  obtain ⟨v, ps, hrun, hv⟩ := hlook
  clear hown hb
  by_cases k1 : kind = 37
  · subst k1
    rw [kind_has.1] at hrun
    obtain rfl := funR_inv (f := 53) hv
    have HK := hide (kind1_any a b w2)
    clear hv
    go_wp2_with fail
    refine HK.out.mono ?_
    rintro e w3 ⟨rfl, rfl⟩
    go_wp2_with fail
    go_ret
    exact ⟨rfl, HB.out⟩
  by_cases k2 : kind = 38
  · subst k2
    rw [kind_has.2.1] at hrun
    obtain rfl := funR_inv (f := 54) hv
    have HK := hide (kind2_any a b w2)
    clear hv
    go_wp2_with fail
    refine HK.out.mono ?_
    rintro e w3 ⟨rfl, rfl⟩
    go_wp2_with fail
    go_ret
    exact ⟨rfl, HB.out⟩
  by_cases k3 : kind = 39
  · subst k3
    rw [kind_has.2.2.1] at hrun
    obtain rfl := funR_inv (f := 55) hv
    have HK := hide (kind3_any a b w2)
    clear hv
    go_wp2_with fail
    refine HK.out.mono ?_
    rintro e w3 ⟨rfl, rfl⟩
    go_wp2_with fail
    go_ret
    exact ⟨rfl, HB.out⟩
  by_cases k4 : kind = 40
  · subst k4
    rw [kind_has.2.2.2.1] at hrun
    obtain rfl := funR_inv (f := 57) hv
    have HK := hide (kind4_any a b w2)
    clear hv
    go_wp2_with fail
    refine HK.out.mono ?_
    rintro e w3 ⟨rfl, rfl⟩
    go_wp2_with fail
    go_ret
    exact ⟨rfl, HB.out⟩
  by_cases k5 : kind = 41
  · subst k5
    rw [kind_has.2.2.2.2] at hrun
    obtain rfl := funR_inv (f := 58) hv
    have HK := hide (kind5_any a b w2)
    clear hv
    go_wp2_with fail
    refine HK.out.mono ?_
    rintro e w3 ⟨rfl, rfl⟩
    go_wp2_with fail
    go_ret
    exact ⟨rfl, HB.out⟩
  rw [kind_no k1 k2 k3 k4 k5] at hrun
  have HE := hide (show isEv kind a b = false by unfold isEv; rw [if_neg k1, if_neg k2, if_neg k3, if_neg k4, if_neg k5])
  clear k1 k2 k3 k4 k5 hv
  go_wp2_with fail
  go_ret
  rw [HE.out]
  exact ⟨rfl, HB.out⟩

end Go.Proofs.YtbhcmnfeeogdhaaGreatDoor
