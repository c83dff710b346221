/-
  Several texts in one: ValP, Mem. Each says at its head what it holds.
-/
import Derived.Test.YtaaplalfggofiaaGreatDoorEC2
import Derived.Test.YtaaplalfggofiaaGreatDoorProg
import Derived.WalkKit
import Derived.WalkSpells
import Derived.WalkLawsBesides
import Derived.Below
import Derived.BigQuiet
import Derived.Deep.QuietTactic
import Derived.LoopTactic
import Derived.RegionTactic
import Derived.Lib.SmallJoins
import Derived.Deep.RegionHeld3
import Derived.Deep.AppendLies
import Derived.Deep.DeepCutAuto

/-
  What a resolved tree says at one moment: its value, its truth, whether it is a resolved condition. Plain; no program in sight.
-/
namespace Go.Proofs.YtaaplalfggofiaaGreatDoor
open Go.RowKit

def vL2 (vs : List ByteArray) : List (List UInt8) := vs.map fun v => v.data.toList
/-- the value of a tree where env says the signals -/
def vaB (env : Int → ByteArray) (n : Nd) (l : List ByteArray) : ByteArray :=
  if n.kind = 1 then env n.a else if n.kind = 2 ∨ n.kind = 4 ∨ n.kind = 5 then n.value else ⟨(applyL n.kind n.a n.b (vL2 l)).toArray⟩
def valF (env : Int → ByteArray) (n : Nd) : ByteArray := n.fold (vaB env)
theorem valF_eq (env : Int → ByteArray) (n : Nd) : valF env n = vaB env n (n.kids.map (valF env)) := Nd.fold_eq _ n
theorem valF_mk (env : Int → ByteArray) (kind at_ : Int) (name value : ByteArray) (a b c d : Int) (KA : Option Addr) (kc : Nat) (kids : List Nd) : valF env (.mk kind at_ name value a b c d KA kc kids) =
    if kind = 1 then env a else if kind = 2 ∨ kind = 4 ∨ kind = 5 then value else ⟨(applyL kind a b (vL2 (kids.map (valF env)))).toArray⟩ := valF_eq env _

/-- the values of the signals fit their widths -/
def envB (env : Int → ByteArray) (n : Nd) (l : List Prop) : Prop := (n.kind = 1 → (n.c = 0 → ((env n.a).size : Int) ≤ n.b) ∧ (env n.a).size ≤ 130) ∧ n.value.size ≤ 130 ∧ ∀ p ∈ l, p
def EnvOk (env : Int → ByteArray) (n : Nd) : Prop := n.fold (envB env)
theorem EnvOk_eq (env : Int → ByteArray) (n : Nd) : EnvOk env n ↔ (n.kind = 1 → (n.c = 0 → ((env n.a).size : Int) ≤ n.b) ∧ (env n.a).size ≤ 130) ∧ n.value.size ≤ 130 ∧ ∀ k ∈ n.kids, EnvOk env k := by
  unfold EnvOk
  rw [Nd.fold_eq]
  unfold envB
  refine and_congr_right fun _ => and_congr_right fun _ => ⟨fun h k hk => h _ (List.mem_map.2 ⟨k, hk, rfl⟩), fun h p hp => ?_⟩
  obtain ⟨k, hk, rfl⟩ := List.mem_map.1 hp
  exact h k hk
theorem zip_op_len (k : Int) (xs ys : List UInt8) (h : xs.length = ys.length) : (bothL k xs ys).length = xs.length := by
  unfold bothL
  split
  · split
    · unfold sumL
      split
      · rw [addR_len _ _ _ (by simpa using h)]
      · rw [addR_len _ _ _ h]
    · simp
  · simp [h]
theorem apply_len {kind a b : Int} {ls : List (List UInt8)} {ws : List Int} (hlen : ls.length = ws.length) (hw : ∀ (i : Nat) (x : List UInt8) (w : Int), ls[i]? = some x → ws[i]? = some w → (x.length : Int) ≤ w) (hz : 0 ≤ operF kind a b ws) : 1 ≤ operF kind a b ws → ((applyL kind a b ls).length : Int) ≤ operF kind a b ws := by
  intro hp
  unfold applyL
  split
  · simp; omega
  · unfold operF at hp hz ⊢
    by_cases k6 : kind = 6
    · rw [if_pos k6] at hp hz ⊢
      rw [if_neg (by omega), if_neg (by omega)]
      match ls, ws, hlen with
      | [x], [w], _ =>
        dsimp only at hp hz ⊢
        have := hw 0 x w rfl rfl
        split at hp
        · rename_i h6
          rw [if_pos h6]
          unfold oneL
          rw [if_neg (by omega), if_pos k6]
          unfold sliceL
          split
          · simp; omega
          · simp; omega
        · omega
      | [], [], _ => dsimp only at hp; omega
      | [], _ :: _, h => simp at h
      | x :: y :: r, [], h => simp at h
      | x :: y :: r, [_], h => simp at h
      | x :: y :: r, _ :: _ :: _, h => dsimp only at hp; omega
    · rw [if_neg k6] at hp hz ⊢
      by_cases k7 : kind = 7
      · rw [if_pos k7] at hp hz ⊢
        rw [if_pos k7]
        split at hp
        · rename_i h7
          rw [if_pos h7]
          clear h7 hp hz k6 k7
          rename_i h8
          clear h8
          induction ls generalizing ws with
          | nil => have : ws = [] := List.eq_nil_of_length_eq_zero (by simpa using hlen.symm); subst this; simp [sumF]
          | cons x ls ih =>
            cases ws with
            | nil => simp at hlen
            | cons w ws =>
              have h1 := hw 0 x w rfl rfl
              have h2 := ih (ws := ws) (by simpa using hlen) (fun i y v hy hv => hw (i + 1) y v (by simpa using hy) (by simpa using hv))
              have h3 : sumF (w :: ws) = w + sumF ws := sumF_cons w ws
              rw [List.flatten_cons, List.length_append, h3]
              omega
        · omega
      · rw [if_neg k7] at hp hz ⊢
        rw [if_neg k7]
        by_cases k8 : kind = 8
        · rw [if_pos k8] at hp hz ⊢
          rw [if_neg (by omega)]
          match ls, ws, hlen with
          | [x], [w], _ =>
            have := hw 0 x w rfl rfl
            dsimp only
            unfold oneL
            rw [if_pos k8]
            simpa using this
          | [], [], _ => dsimp only at hp; omega
          | [], _ :: _, h => simp at h
          | x :: y :: r, [], h => simp at h
          | x :: y :: r, [_], h => simp at h
          | x :: y :: r, _ :: _ :: _, h => dsimp only at hp; omega
        · rw [if_neg k8] at hp hz ⊢
          by_cases k14 : 14 ≤ kind ∧ kind ≤ 16
          · rw [if_pos k14] at hp hz ⊢
            rw [if_neg (by omega)]
            match ls, ws, hlen with
            | [x], [w], _ =>
              dsimp only
              unfold oneL
              rw [if_neg k8, if_neg k6, if_pos k14]
              unfold redL
              split <;> simp
            | [], [], _ => dsimp only at hp; omega
            | [], _ :: _, h => simp at h
            | x :: y :: r, [], h => simp at h
            | x :: y :: r, [_], h => simp at h
            | x :: y :: r, _ :: _ :: _, h => dsimp only at hp; omega
          · rw [if_neg k14] at hp hz ⊢
            by_cases k9 : 9 ≤ kind ∧ kind ≤ 13
            · rw [if_pos k9] at hp hz ⊢
              rw [if_pos k9]
              match ls, ws, hlen with
              | [x, y], [w, v], _ =>
                dsimp only at hp hz ⊢
                have := hw 0 x w rfl rfl
                split at hp
                · rename_i h9
                  rw [if_pos h9]
                  split
                  · rename_i hxy
                    rw [zip_op_len _ _ _ hxy]
                    exact this
                  · simp; omega
                · omega
              | [], [], _ => dsimp only at hp; omega
              | [], _ :: _, h => simp at h
              | [x], [], h => simp at h
              | [x], [_], h => dsimp only at hp; omega
              | [x], _ :: _ :: _, h => simp at h
              | x :: y :: z :: r, [], h => simp at h
              | x :: y :: z :: r, [_], h => simp at h
              | x :: y :: z :: r, [_, _], h => simp at h
              | x :: y :: z :: r, _ :: _ :: _ :: _, h => dsimp only at hp; omega
            · rw [if_neg k9] at hp; omega
/-- the value of a tree of a type is no longer than its width -/
theorem val_size {env : Int → ByteArray} (n : Nd) : EnvOk env n → ∀ k w, typeF n = some (k, w) → (valF env n).size ≤ 130 ∧ (k = 0 → ((valF env n).size : Int) ≤ w) := by
  induction n using Nd.ind with
  | h n ih =>
  intro he k w ht
  have hbd := typeF_bound n k w ht
  obtain ⟨h1, h2, h3⟩ := (EnvOk_eq env n).1 he
  rw [typeF_eq] at ht
  rw [valF_eq]
  unfold typeB at ht
  unfold vaB
  by_cases k1 : n.kind = 1
  · rw [if_pos k1] at ht ⊢
    obtain ⟨h4, h5⟩ := h1 k1
    refine ⟨h5, fun k0 => ?_⟩
    subst k0
    split at ht
    · cases ht
    · split at ht
      · rename_i h6
        injection ht with ht
        injection ht with h7 h8
        omega
      · split at ht
        · rename_i h6
          obtain ⟨h7, h8⟩ := widthOk_some ht
          injection h7 with _ h9
          have := h4 h6.1
          omega
        · cases ht
  · rw [if_neg k1] at ht ⊢
    by_cases k2 : n.kind = 2
    · rw [if_pos k2] at ht
      rw [if_pos (.inl k2)]
      refine ⟨h2, fun k0 => ?_⟩
      split at ht
      · cases ht
      · split at ht
        · obtain ⟨h7, h8⟩ := widthOk_some ht
          injection h7 with _ h9
          omega
        · cases ht
    · rw [if_neg k2] at ht
      by_cases k4 : n.kind = 4
      · rw [if_pos k4] at ht
        rw [if_pos (.inr (.inl k4))]
        refine ⟨h2, fun k0 => ?_⟩
        split at ht
        · cases ht
        · injection ht with ht; injection ht with h7 h8; omega
      · rw [if_neg k4] at ht
        by_cases k5 : n.kind = 5
        · rw [if_pos k5] at ht
          rw [if_pos (.inr (.inr k5))]
          refine ⟨h2, fun k0 => ?_⟩
          split at ht
          · cases ht
          · injection ht with ht; injection ht with h7 h8; omega
        · rw [if_neg k5] at ht
          rw [if_neg (by omega)]
          split at ht
          · rename_i ws hws
            split at ht
            · obtain ⟨h7, h8⟩ := widthOk_some ht
              injection h7 with h9 h10
              obtain ⟨hl, hat⟩ := widthsF_at hws
              have hap := apply_len (kind := n.kind) (a := n.a) (b := n.b) (ls := vL2 (n.kids.map (valF env))) (ws := ws) (by simp [vL2, hl]) (fun i x u hx hu => by
                have h11 := hat i u hu
                rw [List.getElem?_map, Option.map_eq_some_iff] at h11
                obtain ⟨m, h12, h13⟩ := h11
                unfold vL2 at hx
                rw [List.map_map, List.getElem?_map, h12] at hx
                injection hx with hx
                subst hx
                have hm := List.mem_of_getElem? h12
                have := (ih m hm (h3 m hm) 0 u h13).2 rfl
                simpa using this) (by omega) h8
              have hsz : ((⟨(applyL n.kind n.a n.b (vL2 (n.kids.map (valF env)))).toArray⟩ : ByteArray).size : Int) = ((applyL n.kind n.a n.b (vL2 (n.kids.map (valF env)))).length : Int) := by
                show ((applyL n.kind n.a n.b (vL2 (n.kids.map (valF env)))).toArray.size : Int) = _
                simp
              rw [← h10] at hap
              refine ⟨by omega, fun _ => by omega⟩
            · cases ht
          · cases ht

/-- the kind of operands that are of one type -/
def typedK (l : List Nd) : Option Int := match l with
  | [] => none
  | x :: r => match typeF x with
    | none => none
    | some p => if ∀ y ∈ r, typeF y = some p then some p.1 else none
def resB (n : Nd) (l : List Bool) : Bool :=
  if n.kind = 17 ∨ n.kind = 18 then n.kids.isEmpty
  else if 19 ≤ n.kind ∧ n.kind ≤ 26 then (n.kids.length == 2 && (match typedK n.kids with | some k => decide (k ≠ 2 ∨ n.kind ≤ 22) | none => false))
  else if n.kind = 27 then (n.kids.length == 1 && (match typedK n.kids with | some k => decide (k = 0) | none => false))
  else if n.kind = 28 then (match l with | [x] => x | _ => false)
  else if n.kind = 29 ∨ n.kind = 30 then (match l with | [x, y] => x && y | _ => false)
  else decide (typeF n = some (0, 1))
def resF (n : Nd) : Bool := n.fold resB
theorem resF_eq (n : Nd) : resF n = resB n (n.kids.map resF) := Nd.fold_eq _ n
def kindK (x : Nd) : Int := match typeF x with | some p => p.1 | none => 0

end Go.Proofs.YtaaplalfggofiaaGreatDoor

/-
  Words for memory that serve every seat: blocks that stay, rows of strings, own rows, append of a whole slice. Nothing here names a function or a struct of the program.
-/
namespace Go.Proofs.YtaaplalfggofiaaGreatDoor
open Go.RowKit

theorem hide {p : Prop} (h : p) : Hid p := h
def I64 (n : Int) : Prop := -9223372036854775808 ≤ n ∧ n ≤ 9223372036854775807

/-- the blocks that P names are as they were -/
def Stay (P : Nat → Prop) (w w' : World) : Prop := ∀ b, P b → w'.heap[b]? = w.heap[b]?
theorem Stay.refl (P : Nat → Prop) (w : World) : Stay P w w := fun _ _ => rfl
theorem Stay.trans {P : Nat → Prop} {a b c : World} (h : Stay P a b) (h' : Stay P b c) : Stay P a c := fun k hk => (h' k hk).trans (h k hk)
theorem Stay.cell {P : Nat → Prop} {w w' : World} (h : Stay P w w') {b o : Nat} (hb : P b) : w'.cell? ⟨b, o, none⟩ = w.cell? ⟨b, o, none⟩ := World.cell?_of_block (a := ⟨b, o, none⟩) (h b hb)
theorem stay_below {P : Nat → Prop} {w w' : World} (h : Below w.heap.size w w') (hp : ∀ b, P b → b < w.heap.size) : Stay P w w' := fun b hb => h.block b (hp b hb)
/-- a list of strings, in blocks that P names -/
def StrsAt (w : World) (P : Nat → Prop) (A : Option Addr) (vs : List ByteArray) : Prop :=
  vs ≠ [] → ∃ b off, A = some ⟨b, off, none⟩ ∧ P b ∧ ∀ i s, vs[i]? = some s → w.cell? ⟨b, off + i, none⟩ = some (.string s)

section
variable {w w' : World} {P P' : Nat → Prop} {A : Option Addr}
theorem StrsAt.stay {vs : List ByteArray} (h : StrsAt w P A vs) (hs : Stay P w w') : StrsAt w' P A vs := fun hx => by
  obtain ⟨b, off, e, hb, hc⟩ := h hx
  exact ⟨b, off, e, hb, fun i s hi => (hs.cell hb).trans (hc i s hi)⟩
theorem StrsAt.more {vs : List ByteArray} (h : StrsAt w P A vs) (hp : ∀ b, P b → P' b) : StrsAt w P' A vs := fun hx => by
  obtain ⟨b, off, e, hb, hc⟩ := h hx
  exact ⟨b, off, e, hp b hb, hc⟩
theorem StrsAt.at_ {vs : List ByteArray} (h : StrsAt w P A vs) {k : Nat} (hk : k < vs.length) : ∃ b off, A = some ⟨b, off, none⟩ ∧ P b ∧ w.cell? ⟨b, off + k, none⟩ = some (.string vs[k]) := by
  obtain ⟨b, off, e, hb, hc⟩ := h (fun e => by subst e; simp at hk)
  exact ⟨b, off, e, hb, hc k _ (List.getElem?_eq_getElem hk)⟩
theorem StrsAt.nil : StrsAt w P A [] := fun h => absurd rfl h
end

/-- below a block -/
def Lo (n : Nat) (b : Nat) : Prop := b < n

theorem flat_len {α : Type} (f : α → List Value) (m : Nat) (hf : ∀ x, (f x).length = m) (xs : List α) : (xs.flatMap f).length = xs.length * m := by
  induction xs with
  | nil => simp
  | cons x xs ih => rw [List.flatMap_cons, List.length_append, hf, ih, List.length_cons, Nat.add_mul]; omega
theorem flat_at {α : Type} (f : α → List Value) (m : Nat) (hf : ∀ x, (f x).length = m) {xs : List α} {i j : Nat} {x : α} (h : xs[i]? = some x) (hj : j < m) : (xs.flatMap f)[i * m + j]? = (f x)[j]? := by
  induction xs generalizing i with
  | nil => simp at h
  | cons y ys ih =>
    cases i with
    | zero =>
      simp at h; subst h
      rw [List.flatMap_cons, Nat.zero_mul, Nat.zero_add, List.getElem?_append_left (by rw [hf]; exact hj)]
    | succ i =>
      have := ih (i := i) (by simpa using h)
      rw [List.flatMap_cons, List.getElem?_append_right (by rw [hf, Nat.add_mul]; omega), hf, ← this]
      congr 1
      rw [Nat.add_mul]; omega

/-- the block of a slice -/
def ob (A : Option Addr) : Option Nat := (Value.slice A 0 0).ownBlock
theorem ob_eq (A : Option Addr) (n c : Nat) : (Value.slice A n c).ownBlock = ob A := by cases A <;> rfl
theorem own_place {w : World} {base : Nat} {A : Option Addr} {c : Nat} {e : TypeId} {size n : Nat} {xs : List Value} (h : w.ownsRow base e size (.slice A n c) n xs) (hn : 0 < n) : ∃ g, A = some ⟨g, 0, none⟩ ∧ base ≤ g ∧ g < w.heap.size := by
  obtain ⟨g, cap, e1, h1, h2⟩ := World.ownsRow.form h hn
  injection e1 with e1
  exact ⟨g, e1, h1, h2⟩

theorem box_lt {w : World} {N : Nat} {o : Obj} (h : w.heap[N]? = some o) : N < w.heap.size := (Array.getElem?_eq_some_iff.1 h).1
theorem box_alloc {w : World} {N : Nat} {o o' : Obj} (h : w.heap[N]? = some o) : (w.alloc o').heap[N]? = some o := (Below.heap_alloc w o' N (box_lt h)).trans h
theorem box_below {w w' : World} {N : Nat} {o : Obj} (b : Below w.heap.size w w') (h : w.heap[N]? = some o) : w'.heap[N]? = some o := (b.block N (box_lt h)).trans h
theorem box_grown {w w' : World} {N : Nat} {o : Obj} {row : Option Nat} (h : w.heap[N]? = some o) (hg : w.grownBy w' row) (hr : row ≠ some N) : w'.heap[N]? = some o := (hg.block N (box_lt h) (fun e => hr e.symm)).trans h
theorem box_set {w : World} {N M k : Nat} {o : Obj} {v : Value} (h : w.heap[N]? = some o) (hne : N ≠ M) : (w.setCell ⟨M, k, none⟩ v).heap[N]? = some o := by
  rw [Below.heap_setCell _ _ _ _ (by simpa using hne)]; exact h
theorem bstep {w0 w w' : World} (h : Below w0.heap.size w0 w) (hb : Below w.heap.size w w') : Below w0.heap.size w0 w' := h.trans (hb.mono h.size)
theorem box2 {w : World} {N : Nat} {a b : Value} {t : TypeId} (h : w.heap[N]? = some (.cells #[a, b] t (0, 0))) : w.cell? ⟨N, 0, none⟩ = some a ∧ w.cell? ⟨N, 1, none⟩ = some b ∧ w.frozen? ⟨N, 0, none⟩ = false ∧ w.frozen? ⟨N, 1, none⟩ = false :=
  ⟨by rw [cell_of_row w N _ _ t (0, 0) h]; rfl, by rw [cell_of_row w N _ _ t (0, 0) h]; rfl, by simp [World.frozen?, h], by simp [World.frozen?, h]⟩
theorem own_ob {w : World} {base : Nat} {e : TypeId} {size n : Nat} {A : Option Addr} {c : Nat} {xs : List Value} (h : w.ownsRow base e size (.slice A n c) n xs) (g : Nat) (hg : ob A = some g) : base ≤ g ∧ g < w.heap.size :=
  World.ownsRow.lt h g ((ob_eq A n c).trans hg)
/-- an own row, where another block was written or grown -/
theorem own_block {w w' : World} {base : Nat} {e : TypeId} {size n : Nat} {A : Option Addr} {c : Nat} {xs : List Value} (h : w.ownsRow base e size (.slice A n c) n xs) (hk : ∀ g, ob A = some g → w'.heap[g]? = w.heap[g]?) : w'.ownsRow base e size (.slice A n c) n xs := by
  refine ⟨h.1, ?_⟩
  rcases h.2 with h2 | ⟨g, cap, cur, h2, h3, h4, h5⟩
  · exact .inl h2
  · refine .inr ⟨g, cap, cur, h2, h3, ?_, h5⟩
    rw [hk g ?_]
    · exact h4
    · rw [← ob_eq A n c, h2]; rfl

theorem below_drewN {B : Nat} {a w : World} (h : Below B a w) (n : Nat) : Below B a (w.drewN n) := ⟨h.os, h.tape, h.output, h.size, h.block⟩
theorem below_drew {B : Nat} {a w : World} (h : Below B a w) : Below B a w.drew := ⟨h.os, h.tape, h.output, h.size, h.block⟩
theorem run_append_nothing {P : Program} (w : World) (base : Nat) (t ty e : TypeId) (i : TypeInfo) (size : Nat) (ht : P.underlying t = some (.slice e)) (hi : P.info? e = some i)
    (v : Value) (n : Nat) (xs : List Value) (hown : w.ownsRow base e size v n xs) (c : Nat) : (Builtin.append_ #[t, t] ty #[v, .slice none 0 c]).run P w = .ok v w := by
  rcases hown.2 with ⟨rfl, rfl⟩ | ⟨g, cap, cur, rfl, _, _, hnc, _⟩
  · simp [Builtin.append_, run_underlying ht, sizeOf, typeInfo, hi, Builtin.lenOf, Builtin.firstCells]
  · simp [Builtin.append_, run_underlying ht, sizeOf, typeInfo, hi, Builtin.lenOf, Builtin.firstCells, hnc, storeCells]
theorem addr_add (b off j : Nat) : (⟨b, off, none⟩ : Addr).add j = ⟨b, off + j, none⟩ := by
  unfold Addr.add
  by_cases h : j = 0 <;> simp [h]
theorem append_src {P : Program} {ops : Array Oper} {rest : List Oper} {o : Oper} {a : Act} {Q : Exit → Act → World → Prop} {w : World} (hgd : o.guard = none) (s x : Operand) (t : TypeId)
    (ho : o.op = .call { callee := .builtin .append, args := #[s, x], argTypes := #[t, t] })
    (base : Nat) (e : TypeId) (i : TypeInfo) (z : Value) (size bytes : Nat) (ht : P.underlying t = some (.slice e)) (hi : P.info? e = some i) (hz : i.zero = some z)
    (hsize : i.size = size) (hby : i.bytes = bytes) (hzs : z.cells.size = size) (hsz : 0 < size)
    (v : Value) (n : Nat) (xs : List Value) (hs : a.eval s = v) (hown : w.ownsRow base e size v n xs)
    (A : Option Addr) (m c : Nat) (news : List Value) (hx : a.eval x = .slice A m c) (hl : news.length = m * size)
    (hsrc : news ≠ [] → ∃ b off, A = some ⟨b, off, none⟩ ∧ ∀ j u, news[j]? = some u → w.cell? ⟨b, off + j, none⟩ = some u) (h1 : ∀ u ∈ news, u.oneCell' = true)
    (h63 : n + m ≤ maxLen) (hbytes : (n + m) * bytes ≤ 140737488355328) (hbase : base ≤ w.heap.size)
    (h : ∀ v' w', w'.ownsRow base e size v' (n + m) (xs ++ news) → w.grownBy w' v.ownBlock → wpList P ops Q rest (a.put o.dst v') w') : wpList P ops Q (o :: rest) a w := by
  by_cases hne : news = []
  · subst hne
    have hm : m = 0 := by
      rcases Nat.eq_zero_or_pos m with h0 | h0
      · exact h0
      · have := Nat.mul_pos h0 hsz
        simp at hl
        omega
    subst hm
    cases A with
    | none =>
      refine wpList_plain hgd fun K hK => ?_
      have hrun := run_append_nothing (P := P) w base t o.type e i size ht hi v n xs hown c
      unfold Oper.wp execOp
      simp only [ho, resolve, invoke, builtin, Sem.run_bind, Sem.run_pure, Result.andThen_ok, List.map_toArray, List.map_cons, List.map_nil, hs, hx, hrun]
      exact hK _ _ (h v w (by simpa using hown) (World.grownBy.refl w _))
    | some ad =>
      exact wpList_append_own _ hgd s x t ho base e i z size bytes ht hi hz hsize hby hzs hsz v n xs hs hown ad 0 c [] hx (by simp) (by simp) (by simp) h63 hbytes hbase fun v' w' h2 h3 _ => h v' w' h2 h3
  · obtain ⟨b, off, rfl, hc⟩ := hsrc hne
    exact wpList_append_own _ hgd s x t ho base e i z size bytes ht hi hz hsize hby hzs hsz v n xs hs hown ⟨b, off, none⟩ m c news hx hl (fun j u hu => by rw [addr_add]; exact hc j u hu) h1 h63 hbytes hbase fun v' w' h2 h3 _ => h v' w' h2 h3

theorem wp_append_src {P : Program} {o : Oper} {a : Act} {K : Act → World → Prop} {Q : Exit → Act → World → Prop} {w : World} (s x : Operand) (t : TypeId)
    (ho : o.op = .call { callee := .builtin .append, args := #[s, x], argTypes := #[t, t] })
    (base : Nat) (e : TypeId) (i : TypeInfo) (z : Value) (size bytes : Nat) (ht : P.underlying t = some (.slice e)) (hi : P.info? e = some i) (hz : i.zero = some z)
    (hsize : i.size = size) (hby : i.bytes = bytes) (hzs : z.cells.size = size) (hsz : 0 < size)
    (v : Value) (n : Nat) (xs : List Value) (hs : a.eval s = v) (hown : w.ownsRow base e size v n xs)
    (A : Option Addr) (m c : Nat) (news : List Value) (hx : a.eval x = .slice A m c) (hl : news.length = m * size)
    (hsrc : news ≠ [] → ∃ b off, A = some ⟨b, off, none⟩ ∧ ∀ j u, news[j]? = some u → w.cell? ⟨b, off + j, none⟩ = some u) (h1 : ∀ u ∈ news, u.oneCell' = true)
    (h63 : n + m ≤ maxLen) (hbytes : (n + m) * bytes ≤ 140737488355328) (hbase : base ≤ w.heap.size)
    (h : ∀ v' w', w'.ownsRow base e size v' (n + m) (xs ++ news) → w.grownBy w' v.ownBlock → K (a.put o.dst v') w') : o.wp P a w K Q := by
  by_cases hne : news = []
  · subst hne
    have hm : m = 0 := by
      rcases Nat.eq_zero_or_pos m with h0 | h0
      · exact h0
      · have := Nat.mul_pos h0 hsz
        simp at hl
        omega
    subst hm
    cases A with
    | none =>
      have hrun := run_append_nothing (P := P) w base t o.type e i size ht hi v n xs hown c
      unfold Oper.wp execOp
      simp only [ho, resolve, invoke, builtin, Sem.run_bind, Sem.run_pure, Result.andThen_ok, List.map_toArray, List.map_cons, List.map_nil, hs, hx, hrun]
      exact h v w (by simpa using hown) (World.grownBy.refl w _)
    | some ad =>
      exact wp_append_own w s x t ho base e i z size bytes ht hi hz hsize hby hzs hsz v n xs hs hown ad 0 c [] hx (by simp) (by simp) (by simp) h63 hbytes hbase fun v' w' h2 h3 _ => h v' w' h2 h3
  · obtain ⟨b, off, rfl, hc⟩ := hsrc hne
    exact wp_append_own w s x t ho base e i z size bytes ht hi hz hsize hby hzs hsz v n xs hs hown ⟨b, off, none⟩ m c news hx hl (fun j u hu => by rw [addr_add]; exact hc j u hu) h1 h63 hbytes hbase fun v' w' h2 h3 _ => h v' w' h2 h3

theorem step_append_src {P : Program} {ops : Array Oper} {o : Oper} {a : Act} {K : Act → World → Prop} {Q : Exit → Act → World → Prop} {E : Prop} {w : World} (hgd : o.guard = none) (s x : Operand) (t : TypeId)
    (ho : o.op = .call { callee := .builtin .append, args := #[s, x], argTypes := #[t, t] })
    (base : Nat) (e : TypeId) (i : TypeInfo) (z : Value) (size bytes : Nat) (ht : P.underlying t = some (.slice e)) (hi : P.info? e = some i) (hz : i.zero = some z)
    (hsize : i.size = size) (hby : i.bytes = bytes) (hzs : z.cells.size = size) (hsz : 0 < size)
    (v : Value) (n : Nat) (xs : List Value) (hs : a.eval s = v) (hown : w.ownsRow base e size v n xs)
    (A : Option Addr) (m c : Nat) (news : List Value) (hx : a.eval x = .slice A m c) (hl : news.length = m * size)
    (hsrc : news ≠ [] → ∃ b off, A = some ⟨b, off, none⟩ ∧ ∀ j u, news[j]? = some u → w.cell? ⟨b, off + j, none⟩ = some u) (h1 : ∀ u ∈ news, u.oneCell' = true)
    (h63 : n + m ≤ maxLen) (hbytes : (n + m) * bytes ≤ 140737488355328) (hbase : base ≤ w.heap.size)
    (h : ∀ v' w', w'.ownsRow base e size v' (n + m) (xs ++ news) → w.grownBy w' v.ownBlock → K (a.put o.dst v') w') :
    if Region.wanted o (yielded ops a.tmps) = true then Oper.wp P o a w K Q else E := by
  have hw : Region.wanted o (yielded ops a.tmps) = true := by simp [Region.wanted, hgd]
  rw [if_pos hw]
  exact wp_append_src s x t ho base e i z size bytes ht hi hz hsize hby hzs hsz v n xs hs hown A m c news hx hl hsrc h1 h63 hbytes hbase h

/-- a source that is a block of its own -/
theorem src_block {w : World} {M : Nat} {cs : List Value} {t : TypeId} {fr : Nat × Nat} (h : w.heap[M]? = some (.cells cs.toArray t fr)) :
    cs ≠ [] → ∃ b off, (some ⟨M, 0, none⟩ : Option Addr) = some ⟨b, off, none⟩ ∧ ∀ j u, cs[j]? = some u → w.cell? ⟨b, off + j, none⟩ = some u := fun _ =>
  ⟨M, 0, rfl, fun j u hu => by rw [Nat.zero_add, cell_of_row w M j _ _ fr h]; simpa using hu⟩

theorem StrsAt.src {w : World} {P : Nat → Prop} {A : Option Addr} {vs : List ByteArray} (h : StrsAt w P A vs) : vs.map Value.string ≠ [] → ∃ b off, A = some ⟨b, off, none⟩ ∧ ∀ j u, (vs.map Value.string)[j]? = some u → w.cell? ⟨b, off + j, none⟩ = some u := by
  intro hne
  obtain ⟨b, off, e, _, hc⟩ := h (fun e => hne (by rw [e]; rfl))
  refine ⟨b, off, e, fun j u hu => ?_⟩
  rw [List.getElem?_map] at hu
  cases hj : vs[j]? with
  | none => rw [hj] at hu; cases hu
  | some z =>
    rw [hj] at hu
    simp only [Option.map_some, Option.some.injEq] at hu
    subst hu
    exact hc j z hj

end Go.Proofs.YtaaplalfggofiaaGreatDoor
