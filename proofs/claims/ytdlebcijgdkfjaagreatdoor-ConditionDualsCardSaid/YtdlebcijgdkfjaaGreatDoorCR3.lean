/-
  Several texts in one: ValP. Each says at its head what it holds.
-/
import Derived.Test.YtdlebcijgdkfjaaGreatDoorCR2

/-
  What a resolved tree says at one moment: its value, its truth, whether it is a resolved condition. Plain; no program in sight.
-/
namespace Go.Proofs.YtdlebcijgdkfjaaGreatDoor
open Go.RowKit

def vL2 (vs : List ByteArray) : List (List UInt8) := vs.map fun v => v.data.toList
/-- the value of a tree where env says the signals -/
def vaB (env : Int → ByteArray) (n : Nd) (l : List ByteArray) : ByteArray :=
  if n.kind = 1 then env n.a else if n.kind = 2 ∨ n.kind = 4 ∨ n.kind = 5 then n.value else ⟨(applyL n.kind n.a n.b (vL2 l)).toArray⟩
def valF (env : Int → ByteArray) (n : Nd) : ByteArray := n.fold (vaB env)
theorem valF_eq (env : Int → ByteArray) (n : Nd) : valF env n = vaB env n (n.kids.map (valF env)) := Nd.fold_eq _ n
theorem valF_mk (env : Int → ByteArray) (kind at_ : Int) (name value : ByteArray) (a b c d : Int) (KA : Option Addr) (kc : Nat) (kids : List Nd) : valF env (.mk kind at_ name value a b c d KA kc kids) =
    if kind = 1 then env a else if kind = 2 ∨ kind = 4 ∨ kind = 5 then value else ⟨(applyL kind a b (vL2 (kids.map (valF env)))).toArray⟩ := valF_eq env _

/-- the values of the signals fit their widths -/
def envB (env : Int → ByteArray) (n : Nd) (l : List Prop) : Prop := (n.kind = 1 → (n.c = 0 → ((env n.a).size : Int) ≤ n.b) ∧ (env n.a).size ≤ 130) ∧ n.value.size ≤ 130 ∧ ∀ p ∈ l, p
def EnvOk (env : Int → ByteArray) (n : Nd) : Prop := n.fold (envB env)
theorem EnvOk_eq (env : Int → ByteArray) (n : Nd) : EnvOk env n ↔ (n.kind = 1 → (n.c = 0 → ((env n.a).size : Int) ≤ n.b) ∧ (env n.a).size ≤ 130) ∧ n.value.size ≤ 130 ∧ ∀ k ∈ n.kids, EnvOk env k := by
  unfold EnvOk
  rw [Nd.fold_eq]
  unfold envB
  refine and_congr_right fun _ => and_congr_right fun _ => ⟨fun h k hk => h _ (List.mem_map.2 ⟨k, hk, rfl⟩), fun h p hp => ?_⟩
  obtain ⟨k, hk, rfl⟩ := List.mem_map.1 hp
  exact h k hk
theorem zip_op_len (k : Int) (xs ys : List UInt8) (h : xs.length = ys.length) : (bothL k xs ys).length = xs.length := by
  unfold bothL
  split
  · split
    · unfold sumL
      split
      · rw [addR_len _ _ _ (by simpa using h)]
      · rw [addR_len _ _ _ h]
    · simp
  · simp [h]
theorem apply_len {kind a b : Int} {ls : List (List UInt8)} {ws : List Int} (hlen : ls.length = ws.length) (hw : ∀ (i : Nat) (x : List UInt8) (w : Int), ls[i]? = some x → ws[i]? = some w → (x.length : Int) ≤ w) (hz : 0 ≤ operF kind a b ws) : 1 ≤ operF kind a b ws → ((applyL kind a b ls).length : Int) ≤ operF kind a b ws := by
  intro hp
  unfold applyL
  split
  · simp; omega
  · unfold operF at hp hz ⊢
    by_cases k6 : kind = 6
    · rw [if_pos k6] at hp hz ⊢
      rw [if_neg (by omega), if_neg (by omega)]
      match ls, ws, hlen with
      | [x], [w], _ =>
        dsimp only at hp hz ⊢
        have := hw 0 x w rfl rfl
        split at hp
        · rename_i h6
          rw [if_pos h6]
          unfold oneL
          rw [if_neg (by omega), if_pos k6]
          unfold sliceL
          split
          · simp; omega
          · simp; omega
        · omega
      | [], [], _ => dsimp only at hp; omega
      | [], _ :: _, h => simp at h
      | x :: y :: r, [], h => simp at h
      | x :: y :: r, [_], h => simp at h
      | x :: y :: r, _ :: _ :: _, h => dsimp only at hp; omega
    · rw [if_neg k6] at hp hz ⊢
      by_cases k7 : kind = 7
      · rw [if_pos k7] at hp hz ⊢
        rw [if_pos k7]
        split at hp
        · rename_i h7
          rw [if_pos h7]
          clear h7 hp hz k6 k7
          rename_i h8
          clear h8
          induction ls generalizing ws with
          | nil => have : ws = [] := List.eq_nil_of_length_eq_zero (by simpa using hlen.symm); subst this; simp [sumF]
          | cons x ls ih =>
            cases ws with
            | nil => simp at hlen
            | cons w ws =>
              have h1 := hw 0 x w rfl rfl
              have h2 := ih (ws := ws) (by simpa using hlen) (fun i y v hy hv => hw (i + 1) y v (by simpa using hy) (by simpa using hv))
              have h3 : sumF (w :: ws) = w + sumF ws := sumF_cons w ws
              rw [List.flatten_cons, List.length_append, h3]
              omega
        · omega
      · rw [if_neg k7] at hp hz ⊢
        rw [if_neg k7]
        by_cases k8 : kind = 8
        · rw [if_pos k8] at hp hz ⊢
          rw [if_neg (by omega)]
          match ls, ws, hlen with
          | [x], [w], _ =>
            have := hw 0 x w rfl rfl
            dsimp only
            unfold oneL
            rw [if_pos k8]
            simpa using this
          | [], [], _ => dsimp only at hp; omega
          | [], _ :: _, h => simp at h
          | x :: y :: r, [], h => simp at h
          | x :: y :: r, [_], h => simp at h
          | x :: y :: r, _ :: _ :: _, h => dsimp only at hp; omega
        · rw [if_neg k8] at hp hz ⊢
          by_cases k14 : 14 ≤ kind ∧ kind ≤ 16
          · rw [if_pos k14] at hp hz ⊢
            rw [if_neg (by omega)]
            match ls, ws, hlen with
            | [x], [w], _ =>
              dsimp only
              unfold oneL
              rw [if_neg k8, if_neg k6, if_pos k14]
              unfold redL
              split <;> simp
            | [], [], _ => dsimp only at hp; omega
            | [], _ :: _, h => simp at h
            | x :: y :: r, [], h => simp at h
            | x :: y :: r, [_], h => simp at h
            | x :: y :: r, _ :: _ :: _, h => dsimp only at hp; omega
          · rw [if_neg k14] at hp hz ⊢
            by_cases k9 : 9 ≤ kind ∧ kind ≤ 13
            · rw [if_pos k9] at hp hz ⊢
              rw [if_pos k9]
              match ls, ws, hlen with
              | [x, y], [w, v], _ =>
                dsimp only at hp hz ⊢
                have := hw 0 x w rfl rfl
                split at hp
                · rename_i h9
                  rw [if_pos h9]
                  split
                  · rename_i hxy
                    rw [zip_op_len _ _ _ hxy]
                    exact this
                  · simp; omega
                · omega
              | [], [], _ => dsimp only at hp; omega
              | [], _ :: _, h => simp at h
              | [x], [], h => simp at h
              | [x], [_], h => dsimp only at hp; omega
              | [x], _ :: _ :: _, h => simp at h
              | x :: y :: z :: r, [], h => simp at h
              | x :: y :: z :: r, [_], h => simp at h
              | x :: y :: z :: r, [_, _], h => simp at h
              | x :: y :: z :: r, _ :: _ :: _ :: _, h => dsimp only at hp; omega
            · rw [if_neg k9] at hp; omega
/-- the value of a tree of a type is no longer than its width -/
theorem val_size {env : Int → ByteArray} (n : Nd) : EnvOk env n → ∀ k w, typeF n = some (k, w) → (valF env n).size ≤ 130 ∧ (k = 0 → ((valF env n).size : Int) ≤ w) := by
  induction n using Nd.ind with
  | h n ih =>
  intro he k w ht
  have hbd := typeF_bound n k w ht
  obtain ⟨h1, h2, h3⟩ := (EnvOk_eq env n).1 he
  rw [typeF_eq] at ht
  rw [valF_eq]
  unfold typeB at ht
  unfold vaB
  by_cases k1 : n.kind = 1
  · rw [if_pos k1] at ht ⊢
    obtain ⟨h4, h5⟩ := h1 k1
    refine ⟨h5, fun k0 => ?_⟩
    subst k0
    split at ht
    · cases ht
    · split at ht
      · rename_i h6
        injection ht with ht
        injection ht with h7 h8
        omega
      · split at ht
        · rename_i h6
          obtain ⟨h7, h8⟩ := widthOk_some ht
          injection h7 with _ h9
          have := h4 h6.1
          omega
        · cases ht
  · rw [if_neg k1] at ht ⊢
    by_cases k2 : n.kind = 2
    · rw [if_pos k2] at ht
      rw [if_pos (.inl k2)]
      refine ⟨h2, fun k0 => ?_⟩
      split at ht
      · cases ht
      · split at ht
        · obtain ⟨h7, h8⟩ := widthOk_some ht
          injection h7 with _ h9
          omega
        · cases ht
    · rw [if_neg k2] at ht
      by_cases k4 : n.kind = 4
      · rw [if_pos k4] at ht
        rw [if_pos (.inr (.inl k4))]
        refine ⟨h2, fun k0 => ?_⟩
        split at ht
        · cases ht
        · injection ht with ht; injection ht with h7 h8; omega
      · rw [if_neg k4] at ht
        by_cases k5 : n.kind = 5
        · rw [if_pos k5] at ht
          rw [if_pos (.inr (.inr k5))]
          refine ⟨h2, fun k0 => ?_⟩
          split at ht
          · cases ht
          · injection ht with ht; injection ht with h7 h8; omega
        · rw [if_neg k5] at ht
          rw [if_neg (by omega)]
          split at ht
          · rename_i ws hws
            split at ht
            · obtain ⟨h7, h8⟩ := widthOk_some ht
              injection h7 with h9 h10
              obtain ⟨hl, hat⟩ := widthsF_at hws
              have hap := apply_len (kind := n.kind) (a := n.a) (b := n.b) (ls := vL2 (n.kids.map (valF env))) (ws := ws) (by simp [vL2, hl]) (fun i x u hx hu => by
                have h11 := hat i u hu
                rw [List.getElem?_map, Option.map_eq_some_iff] at h11
                obtain ⟨m, h12, h13⟩ := h11
                unfold vL2 at hx
                rw [List.map_map, List.getElem?_map, h12] at hx
                injection hx with hx
                subst hx
                have hm := List.mem_of_getElem? h12
                have := (ih m hm (h3 m hm) 0 u h13).2 rfl
                simpa using this) (by omega) h8
              have hsz : ((⟨(applyL n.kind n.a n.b (vL2 (n.kids.map (valF env)))).toArray⟩ : ByteArray).size : Int) = ((applyL n.kind n.a n.b (vL2 (n.kids.map (valF env)))).length : Int) := by
                show ((applyL n.kind n.a n.b (vL2 (n.kids.map (valF env)))).toArray.size : Int) = _
                simp
              rw [← h10] at hap
              refine ⟨by omega, fun _ => by omega⟩
            · cases ht
          · cases ht

/-- the kind of operands that are of one type -/
def typedK (l : List Nd) : Option Int := match l with
  | [] => none
  | x :: r => match typeF x with
    | none => none
    | some p => if ∀ y ∈ r, typeF y = some p then some p.1 else none
def resB (n : Nd) (l : List Bool) : Bool :=
  if n.kind = 17 ∨ n.kind = 18 then n.kids.isEmpty
  else if 19 ≤ n.kind ∧ n.kind ≤ 26 then (n.kids.length == 2 && (match typedK n.kids with | some k => decide (k ≠ 2 ∨ n.kind ≤ 22) | none => false))
  else if n.kind = 27 then (n.kids.length == 1 && (match typedK n.kids with | some k => decide (k = 0) | none => false))
  else if n.kind = 28 then (match l with | [x] => x | _ => false)
  else if n.kind = 29 ∨ n.kind = 30 then (match l with | [x, y] => x && y | _ => false)
  else decide (typeF n = some (0, 1))
def resF (n : Nd) : Bool := n.fold resB
theorem resF_eq (n : Nd) : resF n = resB n (n.kids.map resF) := Nd.fold_eq _ n
def kindK (x : Nd) : Int := match typeF x with | some p => p.1 | none => 0

end Go.Proofs.YtdlebcijgdkfjaaGreatDoor
