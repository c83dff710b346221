/-
  Several texts in one: Reads, NdT, QcF, BitsS. Each says at its head what it holds.
-/
import Derived.Test.YtaaplalfggofiaaGreatDoorRows
import Derived.ProofKit
import Derived.OpenShut
import Derived.SizedLaws
import Derived.ChangeOld
import Derived.Below
import Derived.Deep.Slices
import Derived.Lib.SmallJoins
import Derived.IntWalk

/-
  From what an argument reads as to what lies in memory: slices, structs, strings, integers, bools, of whatever depth. Nothing here names a function of the program.
-/
namespace Go.Proofs.YtaaplalfggofiaaGreatDoor
open Go.ChangeShapes Go.WideShapes Go.ChangeAt Go.RowKit Go.Deep

/-- a row of elements in memory, each with what holds of it -/
def RowAt {α : Type} (w : World) (P : Nat → Prop) (size : Nat) (cells : α → List Value) (held : α → Prop) (A : Option Addr) (xs : List α) : Prop :=
  xs ≠ [] → ∃ b off, A = some ⟨b, off, none⟩ ∧ P b ∧ ∀ i x, xs[i]? = some x → (∀ j, j < size → w.cell? ⟨b, off + i * size + j, none⟩ = (cells x)[j]?) ∧ held x

/-- every weight of a datum lies within reach -/
def Fit {H : Type} (P : Program) (t : TypeId) (d : DataW H) : Prop := ∀ n ∈ d.weights P t, n ≤ reachBytes

theorem pick_list {α : Type} (Q : Nat → α → Prop) (n : Nat) (h : ∀ i, i < n → ∃ a, Q i a) : ∃ xs : List α, xs.length = n ∧ ∀ i x, xs[i]? = some x → Q i x := by
  induction n with
  | zero => exact ⟨[], rfl, fun i x hx => by simp at hx⟩
  | succ n ih =>
    obtain ⟨xs, hl, hx⟩ := ih fun i hi => h i (by omega)
    obtain ⟨a, ha⟩ := h n (by omega)
    refine ⟨xs ++ [a], by simp [hl], fun i x hi => ?_⟩
    rcases Nat.lt_or_ge i n with h1 | h1
    · rw [List.getElem?_append_left (by omega)] at hi
      exact hx i x hi
    · have : i = n := by
        have := (List.getElem?_eq_some_iff.1 hi).1
        simp at this
        omega
      subst this
      rw [List.getElem?_append_right (by omega), hl] at hi
      simp at hi
      subst hi
      exact ha

section
variable {H : Type} {enc : TypeId × Value → H} {P : Program} {W : World} {base : Nat} {spare : Nat → Bool} {held : Bool}

theorem weightsAll_mem : ∀ {l : List (DataW H)} {d : DataW H} {e : TypeId}, d ∈ l → ∀ n ∈ d.weights P e, n ∈ DataW.weightsAll P e l
  | d0 :: r, d, e, hd, n, hn => by
    simp only [DataW.weightsAll, List.mem_append]
    rcases List.mem_cons.1 hd with rfl | hd
    · exact .inl hn
    · exact .inr (weightsAll_mem hd n hn)
  | [], _, _, hd, _, _ => by cases hd

theorem addr_plus (b off j : Nat) : (⟨b, off, none⟩ : Addr).add j = ⟨b, off + j, none⟩ := by
  unfold Addr.add
  by_cases h : j = 0 <;> simp [h]

/-- a slice's reader out of its elements' reader -/
theorem rd_slice_cap {α : Type} {t e : TypeId} (size bytes : Nat) (cells : α → List Value) (hd : α → Prop) (ht : P.underlying t = some (.slice e)) (hs : P.cellsOf e = size) (hpos : 0 < size) (hby : P.bytesOf e = bytes)
    (rd : ∀ n cs y, DataW.trod enc P W base spare held n e cs = some y → Fit P e y.1 → ∃ a, cs = cells a ∧ hd a)
    {fuel : Nat} {cs : List Value} {y : DataW H × List MemPlace} (h : DataW.trod enc P W base spare held fuel t cs = some y) (hf : Fit P t y.1) :
    ∃ (A : Option Addr) (c : Nat) (xs : List α), cs = [.slice A xs.length c] ∧ RowAt W (fun b => b < W.heap.size) size cells hd A xs ∧ xs.length * bytes ≤ reachBytes ∧ xs.length ≤ c := by
  rcases DataW.trod_slice ht h with ⟨rfl, rfl⟩ | ⟨a, len, cap, elems, rest, n, _, rfl, rfl, hb, hl, hc, hel, hi, _⟩
  · exact ⟨none, 0, [], rfl, fun h => absurd rfl h, by simp, by simp⟩
  · have hfit : ∀ i (h : i < elems.length), Fit P e elems[i].1 := fun i h m hm => hf m (by
      simp only [DataW.weights, ht, List.mem_cons, List.mem_append]
      exact .inr (.inl (weightsAll_mem (List.mem_map.2 ⟨elems[i], List.getElem_mem h, rfl⟩) m hm)))
    have hrow : ∀ i, i < len → ∃ x : α, (∀ j, j < size → W.cell? ((a.add (i * size)).add j) = (cells x)[j]?) ∧ hd x ∧ (cells x).length = size := fun i hlt => by
      have h1 := hi i hlt
      have hlt' : i < elems.length := by omega
      rw [List.getElem?_eq_getElem hlt', Option.bind_eq_some_iff] at h1
      obtain ⟨cs, hcs, htr⟩ := h1
      obtain ⟨x, rfl, hx⟩ := rd n cs _ htr (hfit i hlt')
      obtain ⟨_, hcl, hat⟩ := World.cells?_some hcs
      rw [hs] at hcl hat
      exact ⟨x, hat, hx, hcl⟩
    obtain ⟨xs, hxl, hx⟩ := pick_list _ len hrow
    refine ⟨some a, cap, xs, by rw [hxl], fun hne => ?_, ?_, by omega⟩
    · have hp : 0 < xs.length := List.length_pos_iff.2 hne
      obtain ⟨b, off, spot⟩ := a
      have h0 : W.cell? ((Addr.add ⟨b, off, spot⟩ (0 * size)).add 0) = (cells xs[0])[0]? := (hx 0 _ (List.getElem?_eq_getElem hp)).1 0 hpos
      have hl0 := (hx 0 _ (List.getElem?_eq_getElem hp)).2.2
      rw [List.getElem?_eq_getElem (by omega)] at h0
      have hspot : spot = none := by simpa [Addr.add] using World.cell?_spot h0
      subst hspot
      have hblk := World.block_lt_of_cell? _ _ h0
      rw [addr_plus, addr_plus] at hblk
      refine ⟨b, off, rfl, hblk, fun i x hi => ⟨fun j hj => ?_, (hx i x hi).2.1⟩⟩
      have := (hx i x hi).1 j hj
      rwa [addr_plus, addr_plus] at this
    · have := hf ((elems.length + rest.length) * P.bytesOf e) (by simp [DataW.weights, ht])
      rw [hby] at this
      have h2 : xs.length * bytes ≤ (elems.length + rest.length) * bytes := Nat.mul_le_mul_right _ (by omega)
      omega

theorem rd_slice {α : Type} {t e : TypeId} (size bytes : Nat) (cells : α → List Value) (hd : α → Prop) (ht : P.underlying t = some (.slice e)) (hs : P.cellsOf e = size) (hpos : 0 < size) (hby : P.bytesOf e = bytes)
    (rd : ∀ n cs y, DataW.trod enc P W base spare held n e cs = some y → Fit P e y.1 → ∃ a, cs = cells a ∧ hd a)
    {fuel : Nat} {cs : List Value} {y : DataW H × List MemPlace} (h : DataW.trod enc P W base spare held fuel t cs = some y) (hf : Fit P t y.1) :
    ∃ (A : Option Addr) (c : Nat) (xs : List α), cs = [.slice A xs.length c] ∧ RowAt W (fun b => b < W.heap.size) size cells hd A xs ∧ xs.length * bytes ≤ reachBytes := by
  obtain ⟨A, c, xs, h1, h2, h3, _⟩ := rd_slice_cap size bytes cells hd ht hs hpos hby rd h hf
  exact ⟨A, c, xs, h1, h2, h3⟩

theorem rd_int {t : TypeId} (ht : P.underlying t = some (.int .i64)) {n : Nat} {cs : List Value} {y : DataW H × List MemPlace} (h : DataW.trod enc P W base spare held n t cs = some y) : ∃ a : Int, cs = [.int .i64 a] ∧ (-9223372036854775808 ≤ a ∧ a ≤ 9223372036854775807) := by
  obtain ⟨a, rfl, _, hw⟩ := DataW.trod_int ht h
  exact ⟨a, rfl, bounds_i64 hw⟩
theorem rd_string {t : TypeId} (ht : P.underlying t = some .string) {n : Nat} {cs : List Value} {y : DataW H × List MemPlace} (h : DataW.trod enc P W base spare held n t cs = some y) : ∃ a : ByteArray, cs = [.string a] ∧ a.size ≤ maxLen := by
  obtain ⟨a, rfl, _, hw⟩ := DataW.trod_string ht h
  exact ⟨a, rfl, hw⟩
/-- a struct's reader, field by field: field i has the cells from its offset on -/
theorem rd_struct {t : TypeId} {fs : Array Field} (ht : P.underlying t = some (.struct fs)) {n : Nat} {cs : List Value} {y : DataW H × List MemPlace} (h : DataW.trod enc P W base spare held n t cs = some y) (hf : Fit P t y.1) :
    cs.length = P.cellsOf t ∧ ∀ (i : Nat) (ft : TypeId) (off k : Nat), (fs[i]?.map fun f => (f.type, f.offset)) = some (ft, off) → P.cellsOf ft = k → ∃ m z, DataW.trod enc P W base spare held m ft ((cs.drop off).take k) = some z ∧ Fit P ft z.1 := by
  obtain ⟨xs, m, _, rfl, hl, hxl, hx⟩ := DataW.trod_struct ht h
  refine ⟨hl, fun i ft off k hi hk => ?_⟩
  subst hk
  rw [Option.map_eq_some_iff] at hi
  obtain ⟨f, hi, e⟩ := hi
  injection e with e1 e2
  subst e1 e2
  have hlt : i < fs.size := (Array.getElem?_eq_some_iff.1 hi).1
  have h1 := hx i f hi
  rw [List.getElem?_eq_getElem (by omega)] at h1
  refine ⟨m, _, h1, fun k hk => hf k ?_⟩
  simp only [DataW.weights, ht]
  refine DataW.weights_mem_each (j := i) (t := f.type) (d := xs[i].1) ?_ ?_ k hk
  · rw [List.getElem?_map, Array.getElem?_toList, hi]; rfl
  · rw [List.getElem?_map, List.getElem?_eq_getElem (by omega)]; rfl
end

theorem fit_each {H : Type} {P : Program} {ts : List TypeId} {ds : List (DataW H)} (h : (DataW.weightsEach P ts ds).all (· ≤ reachBytes) = true) {j : Nat} {t : TypeId} {d : DataW H} (ht : ts[j]? = some t) (hd : ds[j]? = some d) : Fit P t d := fun n hn => by
  have := List.all_eq_true.1 h n (DataW.weights_mem_each ht hd n hn)
  simpa using this

theorem ownK : ownKnob Tryz.prog.godebug = none := by kernel_rfl
theorem laidOut : laidOutB Tryz.prog = true := by kernel_rfl

end Go.Proofs.YtaaplalfggofiaaGreatDoor

/-
  Trees of api.Node, with the places of their lists of children: recursion over them, and the plain functions of package qcheck. No program in sight.
-/
namespace Go.Proofs.YtaaplalfggofiaaGreatDoor
open Go.RowKit

/-- a tree with the places of its lists of children -/
inductive Nd where
  | mk (kind at_ : Int) (name value : ByteArray) (a b c d : Int) (KA : Option Addr) (kc : Nat) (kids : List Nd)
def Nd.kids : Nd → List Nd | .mk _ _ _ _ _ _ _ _ _ _ kids => kids
def Nd.KA : Nd → Option Addr | .mk _ _ _ _ _ _ _ _ KA _ _ => KA
def Nd.kind : Nd → Int | .mk kind _ _ _ _ _ _ _ _ _ _ => kind
def Nd.value : Nd → ByteArray | .mk _ _ _ value _ _ _ _ _ _ _ => value
def Nd.a : Nd → Int | .mk _ _ _ _ a _ _ _ _ _ _ => a
def Nd.b : Nd → Int | .mk _ _ _ _ _ b _ _ _ _ _ => b
def Nd.c : Nd → Int | .mk _ _ _ _ _ _ c _ _ _ _ => c
def Nd.d : Nd → Int | .mk _ _ _ _ _ _ _ d _ _ _ => d
theorem Nd.ind {p : Nd → Prop} (h : ∀ n, (∀ k ∈ n.kids, p k) → p n) : ∀ n, p n
  | .mk kind at_ name value a b c d KA kc kids => h _ fun k _hk => Nd.ind h k
termination_by n => SizeOf.sizeOf n
decreasing_by
  have h1 : k ∈ kids := _hk
  have := List.sizeOf_lt_of_mem h1
  simp
  omega
/-- a function of a tree out of its values at the children -/
def Nd.fold {β : Type} (f : Nd → List β → β) : Nd → β
  | .mk kind at_ name value a b c d KA kc kids => f (.mk kind at_ name value a b c d KA kc kids) (kids.attach.map fun ⟨k, _⟩ => Nd.fold f k)
termination_by n => SizeOf.sizeOf n
decreasing_by
  rename_i h
  have := List.sizeOf_lt_of_mem h
  simp
  omega
theorem Nd.fold_eq {β : Type} (f : Nd → List β → β) (n : Nd) : n.fold f = f n (n.kids.map (Nd.fold f)) := by
  cases n
  rw [Nd.fold]
  congr 1
  exact List.attach_map_val

/-- the widths of operands that are values of Bits -/
def widthsF : List (Option (Int × Int)) → Option (List Int)
  | [] => some []
  | none :: _ => none
  | some (k, w) :: l => if k = 0 then (widthsF l).map (w :: ·) else none
def sumF (l : List Int) : Int := l.foldl (· + ·) 0
/-- the width of an operator, or 0 -/
def operF (kind a b : Int) (l : List Int) : Int :=
  if kind = 6 then (match l with | [w] => if 0 ≤ b ∧ b ≤ a ∧ a < w then a - b + 1 else 0 | _ => 0)
  else if kind = 7 then (if sumF l ≤ 128 then sumF l else 0)
  else if kind = 8 then (match l with | [w] => w | _ => 0)
  else if 14 ≤ kind ∧ kind ≤ 16 then (match l with | [_] => 1 | _ => 0)
  else if 9 ≤ kind ∧ kind ≤ 13 then (match l with | [v, w] => if v = w then v else 0 | _ => 0)
  else 0
def widthOk (w : Int) : Option (Int × Int) := if 1 ≤ w then some (0, w) else none
def typeB (n : Nd) (l : List (Option (Int × Int))) : Option (Int × Int) :=
  if n.kind = 1 then (if n.kids ≠ [] then none else if (n.c = 1 ∨ n.c = 2) ∧ n.b = 0 then some (n.c, 0) else if n.c = 0 ∧ n.b ≤ 128 then widthOk n.b else none)
  else if n.kind = 2 then (if n.kids ≠ [] then none else if n.value.size ≤ 128 then widthOk n.value.size else none)
  else if n.kind = 4 then (if n.kids ≠ [] then none else some (1, 0))
  else if n.kind = 5 then (if n.kids ≠ [] then none else some (2, 0))
  else match widthsF l with
    | some ws => if 1 ≤ n.kind ∧ n.kind ≤ 16 then widthOk (operF n.kind n.a n.b ws) else none
    | none => none
/-- the kind and the width of a resolved value -/
def typeF (n : Nd) : Option (Int × Int) := n.fold typeB
theorem typeF_eq (n : Nd) : typeF n = typeB n (n.kids.map typeF) := Nd.fold_eq _ n

theorem typeF_mk (kind at_ : Int) (name value : ByteArray) (a b c d : Int) (KA : Option Addr) (kc : Nat) (kids : List Nd) : typeF (.mk kind at_ name value a b c d KA kc kids) =
    (if kind = 1 then (if kids ≠ [] then none else if (c = 1 ∨ c = 2) ∧ b = 0 then some (c, 0) else if c = 0 ∧ b ≤ 128 then widthOk b else none)
    else if kind = 2 then (if kids ≠ [] then none else if value.size ≤ 128 then widthOk value.size else none)
    else if kind = 4 then (if kids ≠ [] then none else some (1, 0))
    else if kind = 5 then (if kids ≠ [] then none else some (2, 0))
    else match widthsF (kids.map typeF) with
      | some ws => if 1 ≤ kind ∧ kind ≤ 16 then widthOk (operF kind a b ws) else none
      | none => none) := typeF_eq _
theorem widthOk_some {w : Int} {x : Int × Int} (h : widthOk w = some x) : x = (0, w) ∧ 1 ≤ w := by
  unfold widthOk at h
  split at h
  · injection h with h; exact ⟨h.symm, by assumption⟩
  · cases h
theorem sumF_cons (w : Int) (l : List Int) : sumF (w :: l) = w + sumF l := by
  unfold sumF
  have key : ∀ (l : List Int) (a : Int), l.foldl (· + ·) a = a + l.foldl (· + ·) 0 := by
    intro l
    induction l with
    | nil => intro a; simp
    | cons x l ih => intro a; rw [List.foldl_cons, ih, List.foldl_cons, ih (0 + x)]; omega
  rw [List.foldl_cons, key]; omega
theorem sumF_snoc (l : List Int) (w : Int) : sumF (l ++ [w]) = sumF l + w := by
  unfold sumF; rw [List.foldl_append]; rfl
theorem widthsF_at {l : List (Option (Int × Int))} {ws : List Int} (h : widthsF l = some ws) : ws.length = l.length ∧ ∀ i : Nat, ∀ w, ws[i]? = some w → l[i]? = some (some (0, w)) := by
  induction l generalizing ws with
  | nil => simp [widthsF] at h; subst h; simp
  | cons x l ih =>
    match x, h with
    | some (k, w), h =>
      unfold widthsF at h
      split at h
      · rename_i hk
        subst hk
        cases h1 : widthsF l with
        | none => rw [h1] at h; cases h
        | some vs =>
          rw [h1] at h
          injection h with h
          subst h
          obtain ⟨h2, h3⟩ := ih h1
          refine ⟨by simp [h2], fun i u hu => ?_⟩
          cases i with
          | zero => simp at hu; subst hu; rfl
          | succ i => simpa using h3 i u (by simpa using hu)
      · cases h
/-- widths are from 1 to 128 for Bits, and 0 for others -/
theorem typeF_bound (n : Nd) : ∀ k w, typeF n = some (k, w) → (k = 0 ∧ 1 ≤ w ∧ w ≤ 128) ∨ ((k = 1 ∨ k = 2) ∧ w = 0) := by
  induction n using Nd.ind with
  | h n ih =>
  intro k w h
  rw [typeF_eq] at h
  unfold typeB at h
  split at h
  · split at h
    · cases h
    · split at h
      · rename_i h1
        injection h with h
        injection h with h2 h3
        right; omega
      · split at h
        · rename_i h1
          obtain ⟨h2, h3⟩ := widthOk_some h
          injection h2 with h4 h5
          left; omega
        · cases h
  · split at h
    · split at h
      · cases h
      · split at h
        · obtain ⟨h2, h3⟩ := widthOk_some h
          injection h2 with h4 h5
          left; omega
        · cases h
    · split at h
      · split at h
        · cases h
        · injection h with h; injection h with h2 h3; right; omega
      · split at h
        · split at h
          · cases h
          · injection h with h; injection h with h2 h3; right; omega
        · split at h
          · rename_i ws hws
            split at h
            · obtain ⟨h2, h3⟩ := widthOk_some h
              injection h2 with h4 h5
              left
              obtain ⟨hl, hw⟩ := widthsF_at hws
              have hb : ∀ v ∈ ws, 1 ≤ v ∧ v ≤ 128 := fun v hv => by
                obtain ⟨i, hi⟩ := List.getElem?_of_mem hv
                have h6 := hw i v hi
                rw [List.getElem?_map, Option.map_eq_some_iff] at h6
                obtain ⟨m, h7, h8⟩ := h6
                have := ih m (List.mem_of_getElem? h7) 0 v h8
                omega
              refine ⟨h4, by omega, ?_⟩
              rw [h5]
              unfold operF
              split
              · split
                · rename_i u
                  have := hb u (by simp)
                  split <;> omega
                · omega
              · split
                · split <;> omega
                · split
                  · split
                    · rename_i u
                      exact (hb u (by simp)).2
                    · omega
                  · split
                    · split <;> omega
                    · split
                      · split
                        · rename_i u v
                          have := hb u (by simp)
                          split <;> omega
                        · omega
                      · omega
            · cases h
          · cases h

end Go.Proofs.YtaaplalfggofiaaGreatDoor

/-
  The plain functions of package qcheck on resolved trees: duration, horizon, steps, signals. No program in sight.
-/
namespace Go.Proofs.YtaaplalfggofiaaGreatDoor
open Go.RowKit

/-- the duration of a pattern -/
def durB (n : Nd) (l : List Int) : Int :=
  if n.kind = 45 then (match l with | x :: y :: _ => wrap64 (wrap64 (x + y) + n.b) | _ => 0)
  else if n.kind = 46 then (match l with | x :: y :: _ => max x y | _ => 0)
  else if n.kind = 47 then (match l with | x :: _ => if 0 < n.b then wrap64 (wrap64 (n.b * x) + wrap64 (wrap64 (n.b - 1) * n.d)) else 0 | _ => 0)
  else 0
def durF (n : Nd) : Int := n.fold durB
/-- past, future, and the greatest future inside of a pattern -/
structure Hz where
  past : Int
  fut : Int
  ins : Int
def maxF (l : List Int) : Int := l.foldl max 0
def hzB (n : Nd) (l : List Hz) : Hz :=
  let p := maxF (l.map Hz.past)
  let f := maxF (l.map Hz.fut)
  let i := maxF (l.map Hz.ins)
  if n.kind = 31 ∨ n.kind = 32 ∨ n.kind = 35 then ⟨wrap64 (p + n.b), f, f⟩
  else if n.kind = 33 ∨ n.kind = 34 ∨ n.kind = 36 then ⟨p, wrap64 (f + n.b), wrap64 (f + n.b)⟩
  else if (37 ≤ n.kind ∧ n.kind ≤ 41) ∨ n.kind = 43 then ⟨wrap64 (p + 1), f, f⟩
  else if 45 ≤ n.kind ∧ n.kind ≤ 47 then ⟨p, wrap64 (durF n + i), i⟩
  else ⟨p, f, f⟩
/-- the signals of a tree, in the order of the walk -/
def sigB (n : Nd) (l : List (List Int)) : List Int := (if n.kind = 1 then [n.a] else []) ++ l.flatten
def sigF (n : Nd) : List Int := n.fold sigB
theorem sigF_eq (n : Nd) : sigF n = sigB n (n.kids.map sigF) := Nd.fold_eq _ n

end Go.Proofs.YtaaplalfggofiaaGreatDoor

/-
  Bits as bytes, and what operators make of them: plain definitions and facts, no program.
-/
namespace Go.Proofs.YtaaplalfggofiaaGreatDoor

def bitC (c : UInt8) : Bool := c == 48 || c == 49 || c == 120 || c == 122
def bitsB (l : List UInt8) : Bool := !l.isEmpty && l.all bitC
def knC (c : UInt8) : Bool := c == 48 || c == 49
def knownB (l : List UInt8) : Bool := l.all knC
def codeC (c : UInt8) : Nat := if c == 48 then 0 else if c == 49 then 1 else 2
def invC (c : UInt8) : UInt8 := if c == 48 then 49 else if c == 49 then 48 else 120
def zxC (c : UInt8) : UInt8 := if c == 48 then 48 else if c == 49 then 49 else 120
def andC (a b : UInt8) : UInt8 := if a == 48 || b == 48 then 48 else if knC a && knC b then 49 else 120
def orC (a b : UInt8) : UInt8 := if a == 49 || b == 49 then 49 else if knC a && knC b then 48 else 120
def xorC (a b : UInt8) : UInt8 := if knC a && knC b then (if a == b then 48 else 49) else 120
/-- the operator of a kind: 9 and, 10 or, 11 xor -/
def opC (k : Int) (a b : UInt8) : UInt8 := if k = 9 then andC a b else if k = 10 then orC a b else xorC a b
/-- the numeral of a known bit -/
def nb (c : UInt8) : Nat := if c == 49 then 1 else 0
/-- sums from the right: the bits so far, the carry -/
def addR : List UInt8 → List UInt8 → Nat → List UInt8 × Nat
  | x :: xs, y :: ys, c => let r := addR xs ys c; (UInt8.ofNat (48 + (nb x + nb y + r.2) % 2) :: r.1, (nb x + nb y + r.2) / 2)
  | _, _, c => ([], c)
def sumL (xs ys : List UInt8) (minus : Bool) : List UInt8 := if minus then (addR xs (ys.map invC) 1).1 else (addR xs ys 0).1
def bothL (k : Int) (xs ys : List UInt8) : List UInt8 :=
  if k = 12 ∨ k = 13 then (if knownB xs && knownB ys then sumL xs ys (k == 13) else List.replicate xs.length 120) else List.zipWith (opC k) xs ys
def sliceL (xs : List UInt8) (hi lo : Int) : List UInt8 := if lo < 0 ∨ lo > hi ∨ hi ≥ xs.length then [] else (xs.drop (xs.length - 1 - hi.toNat)).take (hi.toNat - lo.toNat + 1)
def redL (k : Int) (xs : List UInt8) : List UInt8 := match xs with | [] => [] | x :: xs => [xs.foldl (opC (k - 5)) (zxC x)]
def oneL (k a b : Int) (xs : List UInt8) : List UInt8 := if k = 8 then xs.map invC else if k = 6 then sliceL xs a b else if 14 ≤ k ∧ k ≤ 16 then redL k xs else []
def applyL (k a b : Int) (vs : List (List UInt8)) : List UInt8 :=
  if vs.any (fun v => !bitsB v) then [] else if k = 7 then vs.flatten
  else if 9 ≤ k ∧ k ≤ 13 then (match vs with | [x, y] => if x.length = y.length then bothL k x y else [] | _ => [])
  else (match vs with | [x] => oneL k a b x | _ => [])

theorem addR_len : ∀ (xs ys : List UInt8) (c : Nat), xs.length = ys.length → (addR xs ys c).1.length = xs.length
  | [], [], _, _ => rfl
  | x :: xs, y :: ys, c, h => by simp only [addR, List.length_cons]; rw [addR_len xs ys c (by simpa using h)]
  | [], _ :: _, _, h => by simp at h
  | _ :: _, [], _, h => by simp at h
theorem nb_le (c : UInt8) : nb c ≤ 1 := by unfold nb; split <;> omega
theorem addR_carry : ∀ (xs ys : List UInt8) (c : Nat), c ≤ 1 → (addR xs ys c).2 ≤ 1
  | [], _, c, h => by simpa [addR] using h
  | _ :: _, [], c, h => by simpa [addR] using h
  | x :: xs, y :: ys, c, h => by
    have := addR_carry xs ys c h
    have := nb_le x
    have := nb_le y
    simp only [addR]
    omega
theorem addR_drop (xs ys : List UInt8) (c : Nat) (h : xs.length = ys.length) (i : Nat) (hi : i < xs.length) :
    addR (xs.drop i) (ys.drop i) c = (UInt8.ofNat (48 + (nb xs[i] + nb (ys[i]'(by omega)) + (addR (xs.drop (i + 1)) (ys.drop (i + 1)) c).2) % 2) :: (addR (xs.drop (i + 1)) (ys.drop (i + 1)) c).1, (nb xs[i] + nb (ys[i]'(by omega)) + (addR (xs.drop (i + 1)) (ys.drop (i + 1)) c).2) / 2) := by
  rw [List.drop_eq_getElem_cons hi, List.drop_eq_getElem_cons (by omega : i < ys.length)]
  rfl
end Go.Proofs.YtaaplalfggofiaaGreatDoor
