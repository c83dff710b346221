/-
  Several texts in one: RAdd47, RFrom, FcP. Each says at its head what it holds.
-/
import Derived.Test.YtdlebcijgdkfjaaGreatDoorCV12
import Derived.Test.YtdlebcijgdkfjaaGreatDoorCV11
import Derived.Test.YtdlebcijgdkfjaaGreatDoorCV17
import Derived.Deep.RegionHeld3
import Derived.Test.YtdlebcijgdkfjaaGreatDoorCV27

/-
  wavestoreref47.add: spans with another one behind, joined if the values are equal.
-/
namespace Go.Proofs.YtdlebcijgdkfjaaGreatDoor
open Go.RowKit

/-- the cells of a row, one after the other -/
theorem row_src {α : Type} {w : World} {P : Nat → Prop} {size : Nat} {cells : α → List Value} (hf : ∀ x, (cells x).length = size) (hs : 0 < size) {A : Option Addr} {xs : List α} (h : Row w P size cells A xs) :
    xs.flatMap cells ≠ [] → ∃ b off, A = some ⟨b, off, none⟩ ∧ ∀ j u, (xs.flatMap cells)[j]? = some u → w.cell? ⟨b, off + j, none⟩ = some u := fun hne => by
  have hx : xs ≠ [] := fun e => hne (by rw [e]; rfl)
  obtain ⟨b, off, e, _, hc⟩ := h hx
  refine ⟨b, off, e, fun j u hj => ?_⟩
  have hlt := (List.getElem?_eq_some_iff.1 hj).1
  rw [flat_len cells size hf] at hlt
  have h1 : j / size < xs.length := Nat.div_lt_of_lt_mul (by rw [Nat.mul_comm]; exact hlt)
  have h2 : j % size < size := Nat.mod_lt _ hs
  have h3 : j / size * size + j % size = j := by rw [Nat.mul_comm]; exact Nat.div_add_mod j size
  have hi : xs[j / size]? = some xs[j / size] := List.getElem?_eq_getElem h1
  have h4 := flat_at cells size hf hi h2
  have h5 := hc _ _ hi _ h2
  rw [h3] at h4
  rw [Nat.add_assoc, h3] at h5
  rw [h5, ← h4, hj]
theorem wv_box {W0 : World} {N : Nat} {a0 a1 a2 : Value} {t : TypeId} (h0 : W0.heap[N]? = some (.cells #[a0, a1, a2] t (0, 0))) {W : World} (hb : Below W0.heap.size W0 W) : W.cell? ⟨N, 0, none⟩ = some a0 ∧ W.cell? ⟨N, 1, none⟩ = some a1 ∧ W.cell? ⟨N, 2, none⟩ = some a2 := by
  have g0 := (hb.block _ (box_lt h0)).trans h0
  refine ⟨?_, ?_, ?_⟩
  all_goals (rw [cell_of_row W N _ _ t (0, 0) g0]; rfl)
def RAdPost (l : List Spn) (w : World) (e : Ending) (w' : World) : Prop := ∃ (A : Option Addr) (c : Nat), e = .returned (.slice A l.length c) ∧ OwnSp w' w.heap.size A c l ∧ Below w.heap.size w w'
theorem own_emptySp (W : World) {base : Nat} (hb : base ≤ W.heap.size) : OwnSp (W.alloc (.cells #[] 100)) base (some ⟨W.heap.size, 0, none⟩) 0 [] := World.ownsRow_lit W #[] 0 hb (by simp [maxLen]) rfl
theorem OwnSp.rowI {w : World} {base : Nat} {A : Option Addr} {c : Nat} {l : List Spn} (h : OwnSp w base A c l) : Row w (fun b => base ≤ b ∧ b < w.heap.size) 3 encSp A l := fun hne => by
  obtain ⟨g, rfl, h1⟩ := own_place h (List.length_pos_iff.2 hne)
  have h2 := own_ob h g rfl
  refine ⟨g, 0, rfl, h2, fun i s hi j hj => ?_⟩
  have hlt := (List.getElem?_eq_some_iff.1 hi).1
  rw [Nat.zero_add, World.ownsRow.cellAt h _ (by omega)]
  exact flat_at encSp 3 (fun _ => rfl) hi hj

theorem sp_src {w : World} {P : Nat → Prop} {A : Option Addr} {xs : List Spn} (h : Row w P 3 encSp A xs) : encSps xs ≠ [] → ∃ b off, A = some ⟨b, off, none⟩ ∧ ∀ j u, (encSps xs)[j]? = some u → w.cell? ⟨b, off + j, none⟩ = some u := row_src (cells := encSp) (size := 3) (fun _ => rfl) (by decide) h
theorem sps_one (l : List Spn) : ∀ u ∈ encSps l, u.oneCell' = true := by
  intro u hu
  obtain ⟨x, _, hx⟩ := List.mem_flatMap.1 hu
  exact sp_one x u hx

set_option maxRecDepth 100000 in
set_option maxHeartbeats 8000000 in
theorem radd47_any (A : Option Addr) (c : Nat) (l : List Spn) (f t : Int) (v : ByteArray) (w : World) (h : Row w (Lo w.heap.size) 3 encSp A l) (hl : l.length ≤ 100000) :
    Calls Tryz.prog 105 #[.slice A l.length c, .agg #[.int .i64 f, .int .i64 t, .string v]] w (RAdPost (spStep l f t v) w) := by
  obtain ⟨i0, hi0, hz0, hz1, hz2⟩ := info_parts infoSp
  obtain ⟨W0, hW0⟩ : ∃ W0, w.alloc (.cells #[.int .i64 f, .int .i64 t, .string v] 100) = W0 := ⟨_, rfl⟩
  have g0 : W0.heap[w.heap.size]? = some (.cells #[.int .i64 f, .int .i64 t, .string v] 100 (0, 0)) := by rw [← hW0]; exact heap_alloc_new w _
  have hb0 : Below w.heap.size w W0 := by rw [← hW0]; exact (Below.refl _ _).alloc (Nat.le_refl _) _
  have HH := hide (fun (W : World) (hb : Below W0.heap.size W0 W) => wv_box g0 hb)
  have HR := hide (h.grow hb0)
  have HW0 := hide hW0
  have HB0 := hide hb0
  have HLE := hide (encSps_len l)
  have HE := hide (show ∀ (A' : Option Addr) (c' : Nat) (m : List Spn) (w' : World), spStep l f t v = m → OwnSp w' W0.heap.size A' c' m → Below W0.heap.size W0 w' → RAdPost (spStep l f t v) w (.returned (.slice A' m.length c')) w' from fun A' c' m w' h1 h2 h3 => by rw [h1]; exact ⟨A', c', rfl, Joins.ownsRow_le h2 hb0.size, bstep hb0 h3⟩)
  have hz1' : w.heap.size < W0.heap.size := box_lt g0
  clear h hW0 hb0 g0
  obtain ⟨y0, y1, y2⟩ := HH.out W0 (Below.refl _ _)
  rcases List.eq_nil_or_concat l with h0 | ⟨l', x, h0⟩
  · subst h0
    have HST := hide (show spStep [] f t v = [⟨f, t, v⟩] from rfl)
    have HSN := hide (show ([] ++ [(⟨f, t, v⟩ : Spn)]).length = 1 from rfl)
    go_enter Tryz.func105, Tryz.ntmps105
    go_upto_region 1 with (fail)
    rw [HW0.out]
    go_upto_region 2 with (fail)
    go_quiet (fail)
    obtain ⟨V2, hV2⟩ : ∃ V2, W0.drewN nq = V2 := ⟨_, rfl⟩
    rw [hV2]
    have HV2 := hide (show Below W0.heap.size W0 V2 by rw [← hV2]; exact below_drewN (Below.refl _ _) nq)
    clear hV2 y0 y1 y2
    go_upto_region 6 with (fail)
    have r0 : Below W0.heap.size W0 V2 := HV2.out
    have hzv := r0.size
    have r1 : Below W0.heap.size W0 ((V2.alloc (.cells #[] 100)).drew) := below_drew (r0.alloc hzv _)
    have r3' : Below W0.heap.size W0 (V2.alloc (.cells #[.int .i64 f, .int .i64 t, .string v] 100)) := r0.alloc hzv _
    have r2 : Below W0.heap.size W0 (((V2.alloc (.cells #[] 100)).alloc (.cells #[.int .i64 f, .int .i64 t, .string v] 100)).drew) := below_drew ((r0.alloc hzv (.cells #[] 100)).alloc (r0.alloc hzv (.cells #[] 100)).size _)
    have r3 : Below W0.heap.size W0 ((V2.alloc (.cells #[.int .i64 f, .int .i64 t, .string v] 100)).drew) := below_drew r3'
    have r4 : Below W0.heap.size W0 (((V2.alloc (.cells #[.int .i64 f, .int .i64 t, .string v] 100)).alloc (.cells #[] 100)).drew) := below_drew (r3'.alloc r3'.size _)
    have o1 : ((V2.alloc (.cells #[] 100)).drew).ownsRow W0.heap.size 100 3 (.slice (some ⟨V2.heap.size, 0, none⟩) 0 0) 0 [] := own_emptySp V2 hzv
    have o2 : (((V2.alloc (.cells #[] 100)).alloc (.cells #[.int .i64 f, .int .i64 t, .string v] 100)).drew).ownsRow W0.heap.size 100 3 (.slice (some ⟨V2.heap.size, 0, none⟩) 0 0) 0 [] := World.ownsRow.alloc (own_emptySp V2 hzv) _
    have o4 : (((V2.alloc (.cells #[.int .i64 f, .int .i64 t, .string v] 100)).alloc (.cells #[] 100)).drew).ownsRow W0.heap.size 100 3 (.slice (some ⟨V2.heap.size + 1, 0, none⟩) 0 0) 0 [] := by
      have h := own_emptySp (V2.alloc (.cells #[.int .i64 f, .int .i64 t, .string v] 100)) r3'.size
      rw [World.size_alloc] at h
      exact h
    have O1 := hide o1
    have O2 := hide o2
    have O4 := hide o4
    have S1 := hide (sp_src (HR.out.grow r1))
    have S2 := hide (sp_src (HR.out.grow r2))
    have S4 := hide (sp_src (HR.out.grow r4))
    have hk1 : ∀ k, ob (some ⟨V2.heap.size, 0, none⟩) = some k → W0.heap.size ≤ k := fun k e => by
      have e : some V2.heap.size = some k := e
      injection e with e
      omega
    have hk4 : ∀ k, ob (some ⟨V2.heap.size + 1, 0, none⟩) = some k → W0.heap.size ≤ k := fun k e => by
      have e : some (V2.heap.size + 1) = some k := e
      injection e with e
      omega
    have hn1 : ob (some ⟨V2.heap.size, 0, none⟩) ≠ some (V2.alloc (.cells #[] 100)).heap.size := fun e => by
      have e : some V2.heap.size = some (V2.alloc (.cells #[] 100)).heap.size := e
      injection e with e
      rw [World.size_alloc] at e
      omega
    have hn4 : ob (some ⟨V2.heap.size + 1, 0, none⟩) ≠ some V2.heap.size := fun e => by
      have e : some (V2.heap.size + 1) = some V2.heap.size := e
      injection e with e
      omega
    have G2 := hide (show (((V2.alloc (.cells #[] 100)).alloc (.cells #[.int .i64 f, .int .i64 t, .string v] 100)).drew).heap[(V2.alloc (.cells #[] 100)).heap.size]? = some (.cells (encSp ⟨f, t, v⟩).toArray 100 (0, 0)) from heap_alloc_new _ _)
    have G4 := hide (show (((V2.alloc (.cells #[.int .i64 f, .int .i64 t, .string v] 100)).alloc (.cells #[] 100)).drew).heap[V2.heap.size]? = some (.cells (encSp ⟨f, t, v⟩).toArray 100 (0, 0)) from box_alloc (heap_alloc_new V2 _))
    rw [World.size_alloc] at G2 hn1
    have R1 := hide r1
    have R2 := hide r2
    have R4 := hide r4
    obtain ⟨x6, x7, x8⟩ := HH.out _ r3
    clear o1 o2 o4 r3'
    obtain ⟨x0, x1, x2⟩ := HH.out _ r0
    obtain ⟨x3, x4, x5⟩ := HH.out _ r1
    go_region_law
      (first
        | (refine step_append_src rfl (.tmp 33) (.tmp 34) 34 rfl W0.heap.size 100 i0 _ 3 32 Tryz.underlying34 hi0 hz0 hz1 hz2 rfl (by decide) (.slice (some ⟨_, 0, none⟩) 0 0) 0 [] rfl (by first | with_reducible exact O1.out | with_reducible exact O2.out | with_reducible exact O4.out) A 0 c (encSps []) rfl HLE.out (by first | with_reducible exact S1.out | with_reducible exact S2.out | with_reducible exact S4.out) (sps_one []) (by unfold maxLen; omega) (by omega) (by first | with_reducible exact r1.size | with_reducible exact r2.size | with_reducible exact r4.size) ?_
           intro v5 w5 hown5 hg5
           obtain ⟨A5, c5, rfl, ho5⟩ := OwnSp.of_row (l := []) hown5 (by simp) rfl
           rw [ob_eq] at hg5
           have hb5 : Below W0.heap.size W0 w5 := (by first | with_reducible exact R1.out.grown hg5 R1.out.size hk1 | with_reducible exact R2.out.grown hg5 R2.out.size hk1 | with_reducible exact R4.out.grown hg5 R4.out.size hk4)
           obtain ⟨x6, x7, x8⟩ := HH.out _ hb5
           have HB5 := hide hb5
           have HO5 := hide ho5
           have HR5 := hide (show w5.ownsRow W0.heap.size 100 3 (.slice A5 0 c5) 0 (encSps []) from ho5)
           have HA5 := hide (show (w5.alloc (.cells #[.int .i64 f, .int .i64 t, .string v] 100)).ownsRow W0.heap.size 100 3 (.slice A5 0 c5) 0 (encSps []) from World.ownsRow.alloc ho5 _)
           have HN5 := hide (show (w5.alloc (.cells #[.int .i64 f, .int .i64 t, .string v] 100)).heap[w5.heap.size]? = some (.cells (encSp ⟨f, t, v⟩).toArray 100 (0, 0)) from heap_alloc_new w5 _)
           have hb6 := hb5.alloc hb5.size (.cells #[.int .i64 f, .int .i64 t, .string v] 100)
           have HB6 := hide hb6
           have hk5 : ∀ g, ob A5 = some g → W0.heap.size ≤ g := fun g hg => (own_ob ho5 g hg).1
           (first | (with_reducible have HS5 := hide (box_grown G2.out hg5 hn1)) | (with_reducible have HS5 := hide (box_grown G4.out hg5 hn4)) | skip)
           clear hown5 hg5 hb5 ho5 hb6)
        | (refine step_append_src rfl (.tmp 35) (.tmp 37) 34 rfl W0.heap.size 100 i0 _ 3 32 Tryz.underlying34 hi0 hz0 hz1 hz2 rfl (by decide) (.slice A5 0 c5) 0 (encSps []) rfl (by first | with_reducible exact HR5.out | with_reducible exact HA5.out) (some ⟨_, 0, none⟩) 1 1 (encSp ⟨f, t, v⟩) rfl rfl (src_block (t := 100) (fr := (0, 0)) (by first | with_reducible exact HS5.out | with_reducible exact HN5.out)) (sp_one _) (by unfold maxLen; omega) (by omega) (by first | with_reducible exact HB5.out.size | with_reducible exact HB6.out.size) ?_
           intro v6 w6 hown6 hg6
           obtain ⟨A6, c6, rfl, ho6⟩ := OwnSp.of_row (l := [] ++ [⟨f, t, v⟩]) hown6 (by simp) (by rw [encSps_app]; rfl)
           have HO6 := hide ho6
           rw [ob_eq] at hg6
           have HB7 := hide (show Below W0.heap.size W0 w6 from (by first | with_reducible exact HB5.out.grown hg6 HB5.out.size hk5 | with_reducible exact HB6.out.grown hg6 HB6.out.size hk5))
           rw [HSN.out]
           clear hown6 hg6 ho6)
        | fail)
    all_goals
      go_wp2_with fail
      go_ret
      exact HE.out A6 c6 _ _ HST.out HO6.out HB7.out
  · rw [List.concat_eq_append] at h0
    subst h0
    have HST := hide (spStep_snoc l' x f t v)
    have hlen : (l' ++ [x]).length = l'.length + 1 := by simp
    rw [hlen] at HLE hl ⊢
    obtain ⟨b, off, rfl, hb, hc⟩ := HR.out (by simp)
    have hcx := hc l'.length x (by simp)
    have p2 := hcx 2 (by omega)
    simp only [encSp, List.getElem?_cons_zero, List.getElem?_cons_succ] at p2
    have hw1 : IntKind.i64.wrap (((l'.length + 1 : Nat) : Int) - 1) = (l'.length : Int) := by rw [IntWalk.i64_in _ (by omega)]; omega
    have hw2 : (((l'.length + 1 : Nat) : Int) - 1) = (l'.length : Int) := by omega
    have HLN := hide hlen
    have hb' : b < W0.heap.size := hb
    clear hc hcx hlen
    go_enter Tryz.func105, Tryz.ntmps105
    go_upto_region 1 with (fail)
    rw [HW0.out]
    by_cases hv : x.v = v
    · have tv : (x.v.toList == v.toList) = true := by rw [hv]; simp
      have HST2 := hide (show spStep (l' ++ [x]) f t v = l' ++ [⟨x.f, t, x.v⟩] by rw [HST.out, if_pos hv])
      clear hv
      go_upto_region 2 with (fail)
      go_quiet (fail)
      obtain ⟨V2, hV2⟩ : ∃ V2, W0.drewN nq = V2 := ⟨_, rfl⟩
      rw [hV2]
      have HV2 := hide (show Below W0.heap.size W0 V2 by rw [← hV2]; exact below_drewN (Below.refl _ _) nq)
      clear hV2 y0 y1 y2 p2 hw1
      have hzv := HV2.out.size
      have HO0 := hide (own_emptySp V2 hzv)
      have hb1 : Below W0.heap.size W0 (V2.alloc (.cells #[] 100)) := HV2.out.alloc hzv _
      have HB1 := hide hb1
      have HS1 := hide (sp_src (HR.out.grow hb1))
      clear hb1
      go_upto_region 4 with (at_builtin; (refine append_src rfl _ _ 34 rfl W0.heap.size 100 i0 _ 3 32 Tryz.underlying34 hi0 hz0 hz1 hz2 rfl (by decide) (.slice (some ⟨V2.heap.size, 0, none⟩) 0 0) 0 [] rfl HO0.out (some ⟨b, off, none⟩) (l'.length + 1) c (encSps (l' ++ [x])) rfl HLE.out HS1.out (sps_one _) (by unfold maxLen; omega) (by omega) (by simp; omega) ?_); intro v5 w5 hown5 hg5)
      obtain ⟨A5, c5, rfl, ho5⟩ := OwnSp.of_row (l := l' ++ [x]) hown5 (by simp) (by simp)
      rw [ob_eq] at hg5
      have hb5 : Below W0.heap.size W0 w5 := HB1.out.grown hg5 HB1.out.size (fun k e => by
        have e : some V2.heap.size = some k := e
        injection e with e
        omega)
      obtain ⟨g, rfl, hg1, hg2⟩ := ho5.place (by simp)
      obtain ⟨p0, p1, p2⟩ := ho5.cell (i := l'.length) (x := x) (by simp)
      have fz := World.ownsRow.frozenAt ho5 (l'.length * 3 + 1)
      have HT5 := hide (ho5.setTo t)
      obtain ⟨x0, x1, x2⟩ := HH.out _ hb5
      have HB5 := hide (hb5.setCell (p := ⟨g, l'.length * 3 + 1, none⟩) hg1 (.int .i64 t))
      have hi1 : ((l'.length + 1 : Nat) : Int) - 1 = (l'.length : Int) := by omega
      have HL2 := hide (show (l' ++ [(⟨x.f, t, x.v⟩ : Spn)]).length = l'.length + 1 by simp)
      have hFIN := HE.out (some ⟨g, 0, none⟩) c5 _ _ HST2.out HT5.out HB5.out
      rw [HL2.out] at hFIN
      have HFIN := hide hFIN
      rw [HLN.out]
      clear hown5 hg5 hb5 ho5 hFIN
      go_wp2_with fail
      go_ret
      exact HFIN.out
    · have tv : (x.v.toList == v.toList) = false := beq_eq_false_iff_ne.2 (fun e => hv (by rw [ByteArray.toList_eq, ByteArray.toList_eq] at e; exact ByteArray.ext (Array.toList_inj.1 e)))
      have HST2 := hide (show spStep (l' ++ [x]) f t v = l' ++ [x] ++ [⟨f, t, v⟩] by rw [HST.out, if_neg hv])
      have HSN := hide (show (l' ++ [x] ++ [(⟨f, t, v⟩ : Spn)]).length = l'.length + 1 + 1 by simp)
      clear hv
      go_upto_region 2 with (fail)
      go_quiet (fail)
      obtain ⟨V2, hV2⟩ : ∃ V2, W0.drewN nq = V2 := ⟨_, rfl⟩
      rw [hV2]
      have HV2 := hide (show Below W0.heap.size W0 V2 by rw [← hV2]; exact below_drewN (Below.refl _ _) nq)
      clear hV2 y0 y1 y2 p2 hw1
      go_upto_region 6 with (fail)
      have r0 : Below W0.heap.size W0 V2 := HV2.out
      have hzv := r0.size
      have r1 : Below W0.heap.size W0 ((V2.alloc (.cells #[] 100)).drew) := below_drew (r0.alloc hzv _)
      have r3' : Below W0.heap.size W0 (V2.alloc (.cells #[.int .i64 f, .int .i64 t, .string v] 100)) := r0.alloc hzv _
      have r2 : Below W0.heap.size W0 (((V2.alloc (.cells #[] 100)).alloc (.cells #[.int .i64 f, .int .i64 t, .string v] 100)).drew) := below_drew ((r0.alloc hzv (.cells #[] 100)).alloc (r0.alloc hzv (.cells #[] 100)).size _)
      have r3 : Below W0.heap.size W0 ((V2.alloc (.cells #[.int .i64 f, .int .i64 t, .string v] 100)).drew) := below_drew r3'
      have r4 : Below W0.heap.size W0 (((V2.alloc (.cells #[.int .i64 f, .int .i64 t, .string v] 100)).alloc (.cells #[] 100)).drew) := below_drew (r3'.alloc r3'.size _)
      have o1 : ((V2.alloc (.cells #[] 100)).drew).ownsRow W0.heap.size 100 3 (.slice (some ⟨V2.heap.size, 0, none⟩) 0 0) 0 [] := own_emptySp V2 hzv
      have o2 : (((V2.alloc (.cells #[] 100)).alloc (.cells #[.int .i64 f, .int .i64 t, .string v] 100)).drew).ownsRow W0.heap.size 100 3 (.slice (some ⟨V2.heap.size, 0, none⟩) 0 0) 0 [] := World.ownsRow.alloc (own_emptySp V2 hzv) _
      have o4 : (((V2.alloc (.cells #[.int .i64 f, .int .i64 t, .string v] 100)).alloc (.cells #[] 100)).drew).ownsRow W0.heap.size 100 3 (.slice (some ⟨V2.heap.size + 1, 0, none⟩) 0 0) 0 [] := by
        have h := own_emptySp (V2.alloc (.cells #[.int .i64 f, .int .i64 t, .string v] 100)) r3'.size
        rw [World.size_alloc] at h
        exact h
      have O1 := hide o1
      have O2 := hide o2
      have O4 := hide o4
      have S1 := hide (sp_src (HR.out.grow r1))
      have S2 := hide (sp_src (HR.out.grow r2))
      have S4 := hide (sp_src (HR.out.grow r4))
      have hk1 : ∀ k, ob (some ⟨V2.heap.size, 0, none⟩) = some k → W0.heap.size ≤ k := fun k e => by
        have e : some V2.heap.size = some k := e
        injection e with e
        omega
      have hk4 : ∀ k, ob (some ⟨V2.heap.size + 1, 0, none⟩) = some k → W0.heap.size ≤ k := fun k e => by
        have e : some (V2.heap.size + 1) = some k := e
        injection e with e
        omega
      have hn1 : ob (some ⟨V2.heap.size, 0, none⟩) ≠ some (V2.alloc (.cells #[] 100)).heap.size := fun e => by
        have e : some V2.heap.size = some (V2.alloc (.cells #[] 100)).heap.size := e
        injection e with e
        rw [World.size_alloc] at e
        omega
      have hn4 : ob (some ⟨V2.heap.size + 1, 0, none⟩) ≠ some V2.heap.size := fun e => by
        have e : some (V2.heap.size + 1) = some V2.heap.size := e
        injection e with e
        omega
      have G2 := hide (show (((V2.alloc (.cells #[] 100)).alloc (.cells #[.int .i64 f, .int .i64 t, .string v] 100)).drew).heap[(V2.alloc (.cells #[] 100)).heap.size]? = some (.cells (encSp ⟨f, t, v⟩).toArray 100 (0, 0)) from heap_alloc_new _ _)
      have G4 := hide (show (((V2.alloc (.cells #[.int .i64 f, .int .i64 t, .string v] 100)).alloc (.cells #[] 100)).drew).heap[V2.heap.size]? = some (.cells (encSp ⟨f, t, v⟩).toArray 100 (0, 0)) from box_alloc (heap_alloc_new V2 _))
      rw [World.size_alloc] at G2 hn1
      have R1 := hide r1
      have R2 := hide r2
      have R4 := hide r4
      obtain ⟨x6, x7, x8⟩ := HH.out _ r3
      clear o1 o2 o4 r3'
      obtain ⟨x0, x1, x2⟩ := HH.out _ r0
      obtain ⟨x3, x4, x5⟩ := HH.out _ r1
      go_region_law
        (first
          | (refine step_append_src rfl (.tmp 33) (.tmp 34) 34 rfl W0.heap.size 100 i0 _ 3 32 Tryz.underlying34 hi0 hz0 hz1 hz2 rfl (by decide) (.slice (some ⟨_, 0, none⟩) 0 0) 0 [] rfl (by first | with_reducible exact O1.out | with_reducible exact O2.out | with_reducible exact O4.out) (some ⟨b, off, none⟩) (l'.length + 1) c (encSps (l' ++ [x])) rfl HLE.out (by first | with_reducible exact S1.out | with_reducible exact S2.out | with_reducible exact S4.out) (sps_one (l' ++ [x])) (by unfold maxLen; omega) (by omega) (by first | with_reducible exact r1.size | with_reducible exact r2.size | with_reducible exact r4.size) ?_
             intro v5 w5 hown5 hg5
             obtain ⟨A5, c5, rfl, ho5⟩ := OwnSp.of_row (l := l' ++ [x]) hown5 (by simp) (by simp)
             rw [HLN.out]
             rw [ob_eq] at hg5
             have hb5 : Below W0.heap.size W0 w5 := (by first | with_reducible exact R1.out.grown hg5 R1.out.size hk1 | with_reducible exact R2.out.grown hg5 R2.out.size hk1 | with_reducible exact R4.out.grown hg5 R4.out.size hk4)
             obtain ⟨x6, x7, x8⟩ := HH.out _ hb5
             have HB5 := hide hb5
             have HO5 := hide ho5
             have HR5 := hide (show w5.ownsRow W0.heap.size 100 3 (.slice A5 (l'.length + 1) c5) (l'.length + 1) (encSps (l' ++ [x])) from by have h := ho5; unfold OwnSp at h; rwa [HLN.out] at h)
             have HA5 := hide (show (w5.alloc (.cells #[.int .i64 f, .int .i64 t, .string v] 100)).ownsRow W0.heap.size 100 3 (.slice A5 (l'.length + 1) c5) (l'.length + 1) (encSps (l' ++ [x])) from by have h := World.ownsRow.alloc ho5 (.cells #[.int .i64 f, .int .i64 t, .string v] 100); rwa [HLN.out] at h)
             have HN5 := hide (show (w5.alloc (.cells #[.int .i64 f, .int .i64 t, .string v] 100)).heap[w5.heap.size]? = some (.cells (encSp ⟨f, t, v⟩).toArray 100 (0, 0)) from heap_alloc_new w5 _)
             have hb6 := hb5.alloc hb5.size (.cells #[.int .i64 f, .int .i64 t, .string v] 100)
             have HB6 := hide hb6
             have hk5 : ∀ g, ob A5 = some g → W0.heap.size ≤ g := fun g hg => (own_ob ho5 g hg).1
             (first | (with_reducible have HS5 := hide (box_grown G2.out hg5 hn1)) | (with_reducible have HS5 := hide (box_grown G4.out hg5 hn4)) | skip)
             clear hown5 hg5 hb5 ho5 hb6)
          | (refine step_append_src rfl (.tmp 35) (.tmp 37) 34 rfl W0.heap.size 100 i0 _ 3 32 Tryz.underlying34 hi0 hz0 hz1 hz2 rfl (by decide) (.slice A5 (l'.length + 1) c5) (l'.length + 1) (encSps (l' ++ [x])) rfl (by first | with_reducible exact HR5.out | with_reducible exact HA5.out) (some ⟨_, 0, none⟩) 1 1 (encSp ⟨f, t, v⟩) rfl rfl (src_block (t := 100) (fr := (0, 0)) (by first | with_reducible exact HS5.out | with_reducible exact HN5.out)) (sp_one _) (by unfold maxLen; omega) (by omega) (by first | with_reducible exact HB5.out.size | with_reducible exact HB6.out.size) ?_
             intro v6 w6 hown6 hg6
             obtain ⟨A6, c6, rfl, ho6⟩ := OwnSp.of_row (l := l' ++ [x] ++ [⟨f, t, v⟩]) hown6 (by simp) (by rw [encSps_app (l' ++ [x])]; rfl)
             have HO6 := hide ho6
             rw [ob_eq] at hg6
             have HB7 := hide (show Below W0.heap.size W0 w6 from (by first | with_reducible exact HB5.out.grown hg6 HB5.out.size hk5 | with_reducible exact HB6.out.grown hg6 HB6.out.size hk5))
             rw [HSN.out]
             clear hown6 hg6 ho6)
          | fail)
      all_goals
        go_wp2_with fail
        go_ret
        have hFIN := HE.out A6 c6 _ _ HST2.out HO6.out HB7.out
        rw [HSN.out] at hFIN
        exact hFIN

end Go.Proofs.YtdlebcijgdkfjaaGreatDoor

/-
  wavestoreref47.FromChanges at changes in order.
-/
namespace Go.Proofs.YtdlebcijgdkfjaaGreatDoor
open Go.RowKit

structure FcS where
  out : List Spn
  at_ : Int
  v : ByteArray
def fcStep (to_ : Int) (s : FcS) (c : Chg) : FcS := if c.time ≤ to_ then (if s.at_ < c.time then ⟨spStep s.out s.at_ (c.time - 1) s.v, c.time, c.val⟩ else ⟨s.out, s.at_, c.val⟩) else s
def fcF (u : ByteArray) (f to_ : Int) (cs : List Chg) : FcS := cs.foldl (fcStep to_) ⟨[], f, u⟩
theorem fcF_snoc (u : ByteArray) (f to_ : Int) (cs : List Chg) (c : Chg) : fcF u f to_ (cs ++ [c]) = fcStep to_ (fcF u f to_ cs) c := by unfold fcF; rw [List.foldl_append]; rfl
theorem spStep_len (l : List Spn) (a b : Int) (v : ByteArray) : (spStep l a b v).length ≤ l.length + 1 := by
  rcases List.eq_nil_or_concat l with h | ⟨l', x, h⟩
  · subst h; simp [spStep]
  · rw [List.concat_eq_append] at h
    subst h
    rw [spStep_snoc]
    split <;> simp
/-- what stands behind each change -/
structure FcI (f to_ : Int) (j : Nat) (s : FcS) : Prop where
  len : s.out.length ≤ j
  lo : f ≤ s.at_
  hi : s.at_ ≤ to_
theorem FcI.step {f to_ : Int} {j : Nat} {s : FcS} (h : FcI f to_ j s) (c : Chg) : FcI f to_ (j + 1) (fcStep to_ s c) := by
  obtain ⟨h1, h2, h3⟩ := h
  unfold fcStep
  split
  · split
    · refine ⟨?_, by dsimp only; omega, by dsimp only; omega⟩
      have := spStep_len s.out s.at_ (c.time - 1) s.v
      dsimp only
      omega
    · exact ⟨by dsimp only; omega, h2, h3⟩
  · exact ⟨by omega, h2, h3⟩
def FcPost (m : List Spn) (w : World) (e : Ending) (w' : World) : Prop := ∃ (A : Option Addr) (c : Nat), e = .returned (.tuple #[.slice A m.length c, .int .i64 0]) ∧ Row w' (Lo w'.heap.size) 3 encSp A m ∧ Below w.heap.size w w'
def Fc1 (n : Nat) (w : World) (i : Value) (wr : World) : Prop := ∃ j : Nat, j ≤ n ∧ i = .int .i64 ((j : Int) + 1) ∧ Below w.heap.size w wr
def Fc2 (u : ByteArray) (f to_ : Int) (cs : List Chg) (w : World) (o a v i : Value) (wr : World) : Prop :=
  ∃ (j : Nat) (A : Option Addr) (c : Nat) (s : FcS), j ≤ cs.length ∧ i = .int .i64 (j : Int) ∧ fcF u f to_ (cs.take j) = s ∧ FcI f to_ j s ∧ o = .slice A s.out.length c ∧ a = .int .i64 s.at_ ∧ v = .string s.v ∧ Row wr (Lo wr.heap.size) 3 encSp A s.out ∧ Below w.heap.size w wr
theorem rrange_any47 (a b m : Int) (w : World) : Calls Tryz.prog 53 #[.int .i64 a, .int .i64 b, .int .i64 m] w fun e w' => e = .returned (.bool (decide (0 ≤ a) && decide (a ≤ b) && decide (b ≤ m))) ∧ w = w' := by
  by_cases h1 : 0 ≤ a
  · by_cases h2 : a ≤ b
    · have d1 : decide (0 ≤ a) = true := decide_eq_true h1
      have d2 : decide (a ≤ b) = true := decide_eq_true h2
      clear h1 h2
      go_enter Tryz.func53, Tryz.ntmps53
      go_wp2_with fail
      go_ret
      exact ⟨by simp [d1, d2], rfl⟩
    · have d1 : decide (0 ≤ a) = true := decide_eq_true h1
      have d2 : decide (a ≤ b) = false := decide_eq_false h2
      clear h1 h2
      go_enter Tryz.func53, Tryz.ntmps53
      go_wp2_with fail
      go_ret
      exact ⟨by simp [d1, d2], rfl⟩
  · have d1 : decide (0 ≤ a) = false := decide_eq_false h1
    clear h1
    go_enter Tryz.func53, Tryz.ntmps53
    go_wp2_with fail
    go_ret
    exact ⟨by simp [d1], rfl⟩

set_option maxRecDepth 100000 in
set_option maxHeartbeats 8000000 in
theorem rfrom_any (u : ByteArray) (B : Option Addr) (cb : Nat) (cs : List Chg) (f t : Int) (w : World) (h : Row w (Lo w.heap.size) 2 cChg B cs) (hl : cs.length ≤ 10000) (hs : ∀ (i : Nat) (a b : Chg), cs[i]? = some a → cs[i + 1]? = some b → a.time ≤ b.time) (hf : 0 ≤ f) (hft : f ≤ t) (ht : t ≤ 1099511627776) :
    Calls Tryz.prog 58 #[.string u, .slice B cs.length cb, .int .i64 f, .int .i64 t] w (FcPost (spStep (fcF u f t cs).out (fcF u f t cs).at_ t (fcF u f t cs).v) w) := by
  have HR := hide h
  have HS := hide hs
  have hrg : (decide (0 ≤ f) && decide (f ≤ t) && decide (t ≤ 1099511627776)) = true := by rw [decide_eq_true hf, decide_eq_true hft, decide_eq_true ht]; rfl
  have HRG := hide hrg
  clear h hs hrg
  go_enter Tryz.func58, Tryz.ntmps58
  go_wp2_with (go_at_call 53; refine (rrange_any47 _ _ _ _).mono ?_; rintro e w' ⟨rfl, rfl⟩; rw [HRG.out])
  go_loopw [10] (fun i wr => Fc1 cs.length w i wr) (fun i _ => cs.length - (intOf i).toNat)
  case atStart => exact ⟨0, Nat.zero_le _, rfl, Below.refl _ _⟩
  case round =>
    obtain ⟨V, rfl⟩ : ∃ w2 : World, w2 = wr := ⟨_, rfl⟩
    obtain ⟨j, hj, rfl, hb⟩ := hrel
    have HB := hide hb
    by_cases hlt : j + 1 < cs.length
    · obtain ⟨b0, o0, rfl, hb0, hc0⟩ := (HR.out.grow hb).at_ (show j < cs.length by omega)
      obtain ⟨b1, o1, e1, hb1, hc1⟩ := (HR.out.grow hb).at_ hlt
      injection e1 with e1
      injection e1 with e1 e2
      subst e1 e2
      have hle := HS.out j _ _ (List.getElem?_eq_getElem (show j < cs.length by omega)) (List.getElem?_eq_getElem hlt)
      have n0 := hc0 0 (by omega)
      have n1 := hc1 0 (by omega)
      generalize cs[j] = c0 at *
      generalize cs[j + 1] = c1 at *
      obtain ⟨t0, v0⟩ := c0
      obtain ⟨t1, v1⟩ := c1
      simp only [cChg, List.getElem?_cons_zero, Nat.add_zero] at n0 n1 hle
      have d1 : decide (t1 < t0) = false := decide_eq_false (by omega)
      have hw1 : IntKind.i64.wrap ((j : Int) + 1 - 1) = (j : Int) := by rw [IntWalk.i64_in _ (by omega)]; omega
      have hw2 : (j : Int) + 1 - 1 = (j : Int) := by omega
      clear hc0 hc1 hle hb
      go_upto_region 6 with (fail)
      go_quiet (fail)
      have HB2 := hide (below_drewN HB.out nq)
      go_wp2_with fail
      exact ⟨⟨j + 1, by omega, by go_num, HB2.out⟩, by simp [intOf]; omega⟩
    · have hlt2 : ¬ ((j : Int) + 1 < (cs.length : Int)) := by omega
      clear hlt hb
      have HR2 := hide (HR.out.grow HB.out)
      have hbE : Below V.heap.size V (V.alloc (.cells #[] 100)) := (Below.refl _ _).alloc (Nat.le_refl _) _
      have HBE := hide (bstep HB.out hbE)
      go_upto_region 11 with (fail)
      go_loopw [11, 12, 13, 14] (fun o a v i wr => Fc2 u f t cs w o a v i wr) (fun _ _ _ i _ => cs.length - (intOf i).toNat)
      case atStart => exact ⟨0, _, 0, ⟨[], f, u⟩, Nat.zero_le _, rfl, rfl, ⟨Nat.le_refl _, Int.le_refl _, hft⟩, rfl, rfl, rfl, Row.nil, HBE.out⟩
      case round =>
        obtain ⟨X, rfl⟩ : ∃ w2 : World, w2 = wr := ⟨_, rfl⟩
        obtain ⟨i, A, c, s, hi, rfl, hst, hI, rfl, rfl, rfl, hrow, hbx⟩ := hrel
        have HBX := hide hbx
        have HST := hide hst
        have HROW := hide hrow
        have HII := hide hI
        obtain ⟨sout, sat, sv⟩ := s
        have hlo := hI.lo
        have hhi := hI.hi
        have hsl := hI.len
        dsimp only at hlo hhi hsl HROW ⊢
        clear hbx hst hrow hI hbE HBE
        by_cases hlti : i < cs.length
        · obtain ⟨b0, o0, rfl, hb0, hc0⟩ := (HR.out.grow HBX.out).at_ hlti
          have HTK := hide (show fcF u f t (cs.take (i + 1)) = fcStep t ⟨sout, sat, sv⟩ cs[i] by rw [List.take_succ_eq_append_getElem hlti, fcF_snoc, HST.out])
          have HIN := hide (HII.out.step cs[i])
          generalize cs[i] = c0 at *
          obtain ⟨t0, v0⟩ := c0
          have n0 := hc0 0 (by omega)
          have n1 := hc0 1 (by omega)
          simp only [cChg, List.getElem?_cons_zero, List.getElem?_cons_succ, Nat.add_zero] at n0 n1
          clear hc0
          by_cases k1 : t0 ≤ t
          · by_cases k2 : sat < t0
            · have HSE := hide (show fcStep t ⟨sout, sat, sv⟩ ⟨t0, v0⟩ = ⟨spStep sout sat (t0 - 1) sv, t0, v0⟩ by unfold fcStep; rw [if_pos k1, if_pos k2])
              rw [HSE.out] at HTK HIN
              have d1 : decide (sat < t0) = true := decide_eq_true k2
              have d2 : decide (t0 ≤ t) = true := decide_eq_true k1
              have hw1 : IntKind.i64.wrap (t0 - 1) = t0 - 1 := by rw [IntWalk.i64_in _ (by omega)]
              have HAD := hide (fun (W : World) (hb : Below X.heap.size X W) => radd47_any A c sout sat (t0 - 1) sv W (HROW.out.grow hb) (by omega))
              have HCE := hide (show ∀ (W : World), Below X.heap.size X W → W.cell? ⟨b0, o0 + i * 2, none⟩ = some (.int .i64 t0) ∧ W.cell? ⟨b0, o0 + i * 2 + 1, none⟩ = some (.string v0) ∧ Below X.heap.size X W from fun W hb => ⟨by rw [hb.cell (p := ⟨b0, o0 + i * 2, none⟩) hb0]; exact n0, by rw [hb.cell (p := ⟨b0, o0 + i * 2 + 1, none⟩) hb0]; exact n1, hb⟩)
              clear HSE k1 k2 n0 n1
              obtain ⟨n0, n1, -⟩ := HCE.out X (Below.refl _ _)
              go_upto_region 14 with (fail)
              have k0 := HCE.out X.drew (below_drew (Below.refl _ _))
              have r0 := below_drew (Below.refl X.heap.size X)
              go_region_held3 (fun W => W.cell? ⟨b0, o0 + i * 2, none⟩ = some (.int .i64 t0) ∧ W.cell? ⟨b0, o0 + i * 2 + 1, none⟩ = some (.string v0) ∧ Below X.heap.size X W)
                (first | (with_reducible assumption) | exact k0)
                (first
                  | (go_at_call 105; refine (HAD.out X.drew r0).mono ?_; rintro e w5 ⟨A5, c5, rfl, ho5, hb5⟩; have h5 := bstep r0 hb5; have k5 := HCE.out w5 h5)
                  | fail)
              have HB5 := hide (bstep HBX.out h5)
              have HR5 := hide (show Row w5 (Lo w5.heap.size) 3 encSp A5 (spStep sout sat (t0 - 1) sv) from ho5.rowI.more fun b hb => hb.2)
              obtain ⟨m0, m1, -⟩ := k5
              clear k0 r0 hb5 ho5 h5 n0 n1
              go_wp2_with fail
              exact ⟨⟨i + 1, A5, c5, ⟨spStep sout sat (t0 - 1) sv, t0, v0⟩, hlti, by go_num, HTK.out, HIN.out, rfl, rfl, rfl, HR5.out, HB5.out⟩, by simp [intOf]; omega⟩
            · have HSE := hide (show fcStep t ⟨sout, sat, sv⟩ ⟨t0, v0⟩ = ⟨sout, sat, v0⟩ by unfold fcStep; rw [if_pos k1, if_neg k2])
              rw [HSE.out] at HTK HIN
              have d1 : decide (sat < t0) = false := decide_eq_false k2
              have d2 : decide (t0 ≤ t) = true := decide_eq_true k1
              clear HSE k1 k2
              go_wp2_with fail
              exact ⟨⟨i + 1, A, c, ⟨sout, sat, v0⟩, hlti, by go_num, HTK.out, HIN.out, rfl, rfl, rfl, HROW.out, HBX.out⟩, by simp [intOf]; omega⟩
          · have HSE := hide (show fcStep t ⟨sout, sat, sv⟩ ⟨t0, v0⟩ = ⟨sout, sat, sv⟩ by unfold fcStep; rw [if_neg k1])
            rw [HSE.out] at HTK HIN
            have d2 : decide (t0 ≤ t) = false := decide_eq_false k1
            clear HSE k1
            by_cases k2 : sat < t0
            · have d1 : decide (sat < t0) = true := decide_eq_true k2
              clear k2
              go_wp2_with fail
              exact ⟨⟨i + 1, A, c, ⟨sout, sat, sv⟩, hlti, by go_num, HTK.out, HIN.out, rfl, rfl, rfl, HROW.out, HBX.out⟩, by simp [intOf]; omega⟩
            · have d1 : decide (sat < t0) = false := decide_eq_false k2
              clear k2
              go_wp2_with fail
              exact ⟨⟨i + 1, A, c, ⟨sout, sat, sv⟩, hlti, by go_num, HTK.out, HIN.out, rfl, rfl, rfl, HROW.out, HBX.out⟩, by simp [intOf]; omega⟩
        · have hie : i = cs.length := by omega
          have hst := HST.out
          rw [hie, List.take_length] at hst
          have HFI := hide (show FcPost (spStep (fcF u f t cs).out (fcF u f t cs).at_ t (fcF u f t cs).v) w = FcPost (spStep sout sat t sv) w by rw [hst])
          have HAD := hide (radd47_any A c sout sat t sv X HROW.out (by omega))
          clear hie hst
          go_wp2_with fail
          refine HAD.out.mono ?_
          rintro e w5 ⟨A5, c5, rfl, ho5, hb5⟩
          have HP := hide (show FcPost (spStep (fcF u f t cs).out (fcF u f t cs).at_ t (fcF u f t cs).v) w (.returned (.tuple #[.slice A5 (spStep sout sat t sv).length c5, .int .i64 0])) w5 from by rw [HFI.out]; exact ⟨A5, c5, rfl, ho5.rowI.more fun b hb => hb.2, bstep HBX.out hb5⟩)
          clear ho5 hb5
          go_wp2_with fail
          go_ret2
          exact HP.out

end Go.Proofs.YtdlebcijgdkfjaaGreatDoor

/-
  The spans that the reference makes of the values at the cuts. Plain.
-/
namespace Go.Proofs.YtdlebcijgdkfjaaGreatDoor
open Go.RowKit

/-- a function that is the same between the cuts behind p -/
def ConstL (g : Int → ByteArray) (t : Int) : Int → List Int → Prop
  | p, [] => ∀ u, p ≤ u → u ≤ t → g u = g p
  | p, q :: r => p < q ∧ q ≤ t ∧ (∀ u, p ≤ u → u < q → g u = g p) ∧ ConstL g t q r
def mkC (g : Int → ByteArray) (x : Int) : Chg := ⟨x, g x⟩
theorem fc_run {g : Int → ByteArray} {f t : Int} : ∀ (rest : List Int) (p : Int) (rows : List Rw) (s : FcS), s.at_ = p → s.v = g p → Cov [g] f p rows → s.out = spL (fun vs => vs.headD ⟨#[]⟩) rows → ConstL g t p rest → p ≤ t →
    Spans g f t (spStep ((rest.map (mkC g)).foldl (fcStep t) s).out ((rest.map (mkC g)).foldl (fcStep t) s).at_ t ((rest.map (mkC g)).foldl (fcStep t) s).v)
  | [], p, rows, s, h1, h2, h3, h4, h5, h6 => by
    have hc : Cov [g] f (t + 1) (rows ++ [⟨p, t, [g p]⟩]) := h3.snoc (r := ⟨p, t, [g p]⟩) rfl h6 fun u hu hv => by
      show [g p] = [g].map (· u)
      rw [List.map_cons, List.map_nil, h5 u hu hv]
    have := spL_spans (F := fun vs => vs.headD ⟨#[]⟩) hc (by simp)
    rw [Int.add_sub_cancel, spL_snoc, ← h4] at this
    show Spans g f t (spStep s.out s.at_ t s.v)
    rw [h1, h2]
    exact this
  | q :: r, p, rows, s, h1, h2, h3, h4, h5, h6 => by
    obtain ⟨k1, k2, k3, k4⟩ := h5
    have hst : fcStep t s (mkC g q) = ⟨spStep s.out p (q - 1) (g p), q, g q⟩ := by
      unfold fcStep mkC
      dsimp only
      rw [if_pos k2, h1, if_pos k1, h2]
    rw [List.map_cons, List.foldl_cons, hst]
    have hc : Cov [g] f q (rows ++ [⟨p, q - 1, [g p]⟩]) := by
      have := h3.snoc (r := ⟨p, q - 1, [g p]⟩) rfl (by show p ≤ q - 1; omega) fun u hu hv => by
        show [g p] = [g].map (· u)
        have hv : u ≤ q - 1 := hv
        rw [List.map_cons, List.map_nil, k3 u hu (by omega)]
      have e : (q - 1 : Int) + 1 = q := by omega
      rwa [show (Rw.mk p (q - 1) [g p]).t + 1 = q from e] at this
    exact fc_run r q (rows ++ [⟨p, q - 1, [g p]⟩]) ⟨_, q, g q⟩ rfl rfl hc (by rw [spL_snoc, ← h4]; rfl) k4 k2
theorem fc_spans {g : Int → ByteArray} {f t : Int} {rest : List Int} (u : ByteArray) (hft : f ≤ t) (h : ConstL g t f rest) :
    Spans g f t (spStep (fcF u f t ((f :: rest).map (mkC g))).out (fcF u f t ((f :: rest).map (mkC g))).at_ t (fcF u f t ((f :: rest).map (mkC g))).v) := by
  have hst : fcStep t ⟨[], f, u⟩ (mkC g f) = ⟨[], f, g f⟩ := by
    unfold fcStep mkC
    dsimp only
    rw [if_pos hft, if_neg (Int.lt_irrefl _)]
  unfold fcF
  rw [List.map_cons, List.foldl_cons, hst]
  exact fc_run rest f [] ⟨[], f, g f⟩ rfl rfl rfl rfl h hft
/-- no cut, no change of the value -/
theorem val_still {v : Wv} {n : Nd} {f t p u : Int} (hf : f ≤ p) (hpu : p ≤ u) (hut : u ≤ t) (hno : ∀ c, p < c → c ≤ u → ¬ CutS v (sigF n) f t c) : valF (envW v u) n = valF (envW v p) n := by
  refine val_congr n fun x hx => ?_
  unfold envW valS
  split
  · rfl
  · exact foldV_same hpu _ _ fun c hc hcc => hno c.time hcc.1 hcc.2 ⟨x, hx, c, hc, rfl, by omega, by omega⟩
theorem const_cuts {v : Wv} {n : Nd} {f t : Int} : ∀ (rest : List Int) (p : Int), f ≤ p → p ≤ t → (p :: rest).Pairwise (· < ·) → (∀ u ∈ rest, u ≤ t) → (∀ u, p < u → u ≤ t → CutS v (sigF n) f t u → u ∈ rest) → ConstL (fun u => valF (envW v u) n) t p rest
  | [], p, h1, h2, _, _, h5 => fun u hu hv => val_still h1 hu hv fun c c1 c2 hc => by have := h5 c c1 (by omega) hc; cases this
  | q :: r, p, h1, h2, h3, h4, h5 => by
    rw [List.pairwise_cons] at h3
    have hpq := h3.1 q (by simp)
    have hqt := h4 q (by simp)
    have h3r := h3.2
    rw [List.pairwise_cons] at h3r
    refine ⟨hpq, hqt, fun (u : Int) (hu : p ≤ u) (hv : u < q) => val_still h1 hu (show u ≤ t by omega) fun c c1 c2 hc => ?_, const_cuts r q (show f ≤ q by omega) hqt h3.2 (fun u hu => h4 u (by simp [hu])) fun u hu hv hc => ?_⟩
    · have := h5 c c1 (by omega) hc
      rcases List.mem_cons.1 this with rfl | hm
      · omega
      · have := h3r.1 c hm; omega
    · have := h5 u (by omega) hv hc
      rcases List.mem_cons.1 this with rfl | hm
      · omega
      · exact hm
/-- the reference's spans of a value -/
theorem ref_spans {v : Wv} {n : Nd} {f t : Int} {ps : List Int} (u : ByteArray) (hft : f ≤ t) (hs : ps.Pairwise (· < ·)) (hm : ∀ x, x ∈ ps ↔ x = f ∨ CutS v (sigF n) f t x) :
    Spans (fun x => valF (envW v x) n) f t (spStep (fcF u f t (ps.map (mkC fun x => valF (envW v x) n))).out (fcF u f t (ps.map (mkC fun x => valF (envW v x) n))).at_ t (fcF u f t (ps.map (mkC fun x => valF (envW v x) n))).v) := by
  cases ps with
  | nil => have := (hm f).2 (.inl rfl); cases this
  | cons p rest =>
    have hp := hs
    rw [List.pairwise_cons] at hs
    have hge : ∀ x ∈ p :: rest, f ≤ x ∧ x ≤ t := fun x hx => by
      rcases (hm x).1 hx with rfl | ⟨y, hy, c, hc, e, h1, h2⟩
      · omega
      · omega
    have hpf : p = f := by
      rcases List.mem_cons.1 ((hm f).2 (.inl rfl)) with h | h
      · exact h.symm
      · have := hs.1 f h
        have := (hge p (by simp)).1
        omega
    subst hpf
    exact fc_spans u hft (const_cuts rest p (Int.le_refl _) hft hp (fun u hu => (hge u (by simp [hu])).2) fun u hu hv hc => by
      rcases List.mem_cons.1 ((hm u).2 (.inr hc)) with rfl | h
      · omega
      · exact h)

end Go.Proofs.YtdlebcijgdkfjaaGreatDoor
