/-
  What the law TransactionsComplete needs: a slice of beats as a source of append; the beats of the first transactions.
-/
import Derived.Test.YtlockjbhdibojaaGreatDoorAwake57
namespace Go.Proofs.YtlockjbhdibojaaGreatDoor
open Go.RowKit

theorem BeatsAt.src {w : World} {P : Nat → Prop} {A : Option Addr} {rs : List Rb} (h : BeatsAt w P A rs) : encBs rs ≠ [] → ∃ b off, A = some ⟨b, off, none⟩ ∧ ∀ j u, (encBs rs)[j]? = some u → w.cell? ⟨b, off + j, none⟩ = some u := by
  intro hne
  obtain ⟨b, off, e, _, hc⟩ := h (fun e => hne (by rw [e]; rfl))
  refine ⟨b, off, e, fun j u hu => ?_⟩
  have hj : j < rs.length * 4 := by
    have := (List.getElem?_eq_some_iff.1 hu).1
    rwa [encBs, flat_len encB 4 (fun _ => rfl)] at this
  have hx : rs[j / 4]? = some rs[j / 4] := List.getElem?_eq_getElem (by omega)
  obtain ⟨c0, c1, c2, c3, _⟩ := hc (j / 4) _ hx
  have hm : j % 4 < 4 := Nat.mod_lt _ (by omega)
  have hat := flat_at encB 4 (fun _ => rfl) hx hm
  have ej : j / 4 * 4 + j % 4 = j := by omega
  rw [ej] at hat
  have hu' : (encBs rs)[j]? = (encB rs[j / 4])[j % 4]? := hat
  rw [hu] at hu'
  have h4 : j % 4 = 0 ∨ j % 4 = 1 ∨ j % 4 = 2 ∨ j % 4 = 3 := by omega
  rcases h4 with h | h | h | h <;> rw [h] at hu' ej
  · rw [show off + j = off + j / 4 * 4 by omega, c0]; rw [hu']; rfl
  · rw [show off + j = off + j / 4 * 4 + 1 by omega, c1]; rw [hu']; rfl
  · rw [show off + j = off + j / 4 * 4 + 2 by omega, c2]; rw [hu']; rfl
  · rw [show off + j = off + j / 4 * 4 + 3 by omega, c3]; rw [hu']; rfl
theorem encBs_one (rs : List Rb) : ∀ u ∈ encBs rs, u.oneCell' = true := by
  intro u hu
  unfold encBs at hu
  rw [List.mem_flatMap] at hu
  obtain ⟨x, _, hx⟩ := hu
  simp [encB] at hx
  rcases hx with rfl | rfl | rfl | rfl <;> rfl
theorem encBs_append (xs ys : List Rb) : encBs (xs ++ ys) = encBs xs ++ encBs ys := by simp [encBs]
theorem flat_take (ts : List Rt) (k : Nat) (h : k < ts.length) : (ts.take (k + 1)).flatMap Rt.bs = (ts.take k).flatMap Rt.bs ++ ts[k].bs := by
  rw [List.take_succ_eq_append_getElem h, List.flatMap_append]; simp
theorem flat_map_bt (ts : List Rt) : (ts.flatMap Rt.bs).map Rb.bt = ((ts.map tcont).map (·.1)).flatten := by
  induction ts with
  | nil => rfl
  | cons t ts ih => rw [List.flatMap_cons, List.map_append, ih]; rfl
theorem flat_all {ts : List Rt} {bs : List Bt} (h : ts.map tcont = groupL bs) : (ts.flatMap Rt.bs).map Rb.bt = bs := by
  rw [flat_map_bt, h, groupL_flat]

end Go.Proofs.YtlockjbhdibojaaGreatDoor
