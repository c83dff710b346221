/-
  Several texts in one: Accepts. Each says at its head what it holds.
-/
import Derived.Test.YtgobkbjkndfliaaGreatDoorAP12
import Derived.Test.YtgobkbjkndfliaaGreatDoorAP13
import Derived.Deep.DeepCutAuto
import Derived.Deep.QuietTactic
import Derived.BigQuiet
import Derived.IntWalk

/-
  automaton.Accepts: whether a list of edges is a path.
-/
namespace Go.Proofs.YtgobkbjkndfliaaGreatDoor
open Go.RowKit

/-- a truth value that says whether P holds; memory that was there is as it was -/
def Says54 (P : Prop) (w : World) (e : Ending) (w' : World) : Prop := ∃ b : Bool, e = .returned (.bool b) ∧ (b = true ↔ P) ∧ Below w.heap.size w w'
def AccRel (a : Aut) (path : List Int) (W : World) (at_ i : Value) (wr : World) : Prop := ∃ (k : Nat) (s : Int), k ≤ path.length ∧ i = .int .i64 k ∧ at_ = .int .i64 s ∧ accS a.edges (path.take k) = some s ∧ Below W.heap.size W wr
theorem valid_states {a : Aut} (h : validB a = true) : a.fin.length ≤ 33 ∧ 2 ≤ a.fin.length ∧ a.fin.getD 0 false = false ∧ ∀ e ∈ a.edges, 0 ≤ e.to_ ∧ e.to_ < (a.fin.length : Int) := by
  unfold validB at h
  rw [Bool.and_eq_true, List.all_eq_true] at h
  obtain ⟨h0, h1⟩ := h
  unfold headB at h0
  rw [Bool.and_eq_true, Bool.and_eq_true] at h0
  refine ⟨of_decide_eq_true h0.1.2, of_decide_eq_true h0.1.1, by simpa using h0.2, fun e he => ?_⟩
  obtain ⟨i, hi⟩ := List.getElem?_of_mem he
  have hl := (List.getElem?_eq_some_iff.1 hi).1
  have h2 := h1 i (List.mem_range.2 hl)
  unfold fitsB at h2
  rw [hi] at h2
  simp only [Bool.and_eq_true] at h2
  have h3 := h2.1.1.1
  unfold edgeB at h3
  have h4 := of_decide_eq_true h3
  omega

set_option maxRecDepth 100000 in
set_option maxHeartbeats 4000000 in
theorem accepts_any (a : Aut) (AP : Option Addr) (cP : Nat) (path : List Int) (w : World) (ha : AutAt w (Lo w.heap.size) a) (hle : AutLe a) (hp : IntsAt w w.heap.size AP path) (hl : path.length ≤ 140737488355328) :
    Calls Tryz.prog 21 #[.agg (encA a).toArray, .slice AP path.length cP] w (Says54 (AccOk a path) w) := by
  obtain ⟨a', ha'⟩ : ∃ a', a = a' := ⟨_, rfl⟩
  obtain ⟨W0, hW0⟩ : ∃ W0, w.alloc (.cells (encA a).toArray 30) = W0 := ⟨_, rfl⟩
  have g0 : W0.heap[w.heap.size]? = some (.cells (encA a).toArray 30 (0, 0)) := by rw [← hW0]; exact heap_alloc_new w _
  have hb0 : Below w.heap.size w W0 := by rw [← hW0]; exact (Below.refl _ _).alloc (Nat.le_refl _) _
  have hv := valid_any a W0 (ha.grow hb0) hle
  have HA := hide (ha.grow hb0)
  have HPI := hide (hp.step hb0)
  have HB0 := hide hb0
  have l4 := hle.edges
  rw [ha'] at hv hW0 g0 HA ⊢
  obtain ⟨AE, nE, cE, AC, nC, cC, AF, cF, fin, AX, cX, edges⟩ := a
  dsimp only at l4
  have HAA := hide (show a' = ⟨AE, nE, cE, AC, nC, cC, AF, cF, fin, AX, cX, edges⟩ from ha'.symm)
  have hX : encA a' = [.slice AE nE cE, .slice AC nC cC, .slice AF fin.length cF, .slice AX edges.length cX] := by rw [← ha']; rfl
  rw [hX] at hv hW0 g0 ⊢
  have HV := hide hv
  have HW0 := hide hW0
  have HG0 := hide g0
  obtain ⟨y0, y1, y2, y3, -⟩ := box4 g0
  clear ha' hX hv hW0 g0 hb0 ha hle hp
  go_enter Tryz.func21, Tryz.ntmps21
  go_upto_region 1 with (fail)
  rw [HW0.out]
  cases hvb : validB a' with
  | false =>
    have HN := hide (show ¬ AccOk a' path from fun h => by have h1 := h.1; rw [hvb] at h1; cases h1)
    rw [hvb] at HV
    clear hvb
    go_wp2_with (go_at_call 14; refine HV.out.mono ?_; rintro e w2 ⟨rfl, hb2⟩; have HB2 := hide hb2; clear hb2)
    go_ret
    exact ⟨false, rfl, ⟨(fun e => by cases e), fun h => absurd h HN.out⟩, bstep HB0.out HB2.out⟩
  | true =>
    obtain ⟨v1, v2, v3, v4⟩ := valid_states hvb
    rw [HAA.out] at v1 v2 v3 v4
    dsimp only at v1 v2 v3 v4
    have HV3 := hide v3
    have HV4 := hide v4
    have HVB := hide hvb
    rw [hvb] at HV
    clear hvb v3 v4
    by_cases hpl : path.length = 0
    · have T0 : ((path.length : Int) == 0) = true := beq_iff_eq.2 (by omega)
      have HN := hide (show ¬ AccOk a' path from fun h => by
        obtain ⟨_, s, h1, h2⟩ := h
        rw [List.eq_nil_of_length_eq_zero hpl] at h1
        have h3 : s = 0 := by injection h1 with h1; exact h1.symm
        unfold FinT at h2
        rw [h3, HAA.out] at h2
        have h4 := HV3.out
        rw [show (0 : Int).toNat = 0 from rfl, h4] at h2
        cases h2)
      clear hpl
      go_wp2_with (go_at_call 14; refine HV.out.mono ?_; rintro e w2 ⟨rfl, hb2⟩; have HB2 := hide hb2; clear hb2)
      go_ret
      exact ⟨false, rfl, ⟨(fun e => by cases e), fun h => absurd h HN.out⟩, bstep HB0.out HB2.out⟩
    have T0 : ((path.length : Int) == 0) = false := beq_eq_false_iff_ne.2 (by omega)
    clear hpl
    go_upto_region 3 with (go_at_call 14; refine HV.out.mono ?_; rintro e w2 ⟨rfl, hb2⟩; have HB2 := hide hb2; clear hb2)
    clear y0 y1 y2 y3
    go_wp2_with fail
    go_loopw [5, 18] (fun at_ i wr => AccRel a' path W0 at_ i wr) (fun _ i _ => path.length - (intOf i).toNat)
    case atStart => exact ⟨0, 0, Nat.zero_le _, rfl, rfl, by rw [List.take_zero]; rfl, HB2.out⟩
    case round =>
      obtain ⟨wr1, rfl⟩ : ∃ w2 : World, w2 = wr := ⟨_, rfl⟩
      obtain ⟨k, s, hk, rfl, rfl, hacc, hbr⟩ := hrel
      have HACC := hide hacc
      have HBR := hide hbr
      have HSI := hide (acc_in (path := path) (E := edges) (n := fin.length) (by omega) HV4.out k s (by have h := hacc; rw [HAA.out] at h; exact h))
      obtain ⟨y0, y1, y2, y3, -⟩ := box4 ((hbr.block _ (box_lt HG0.out)).trans HG0.out)
      have HAW := hide (show AutAt wr1 (Lo wr1.heap.size) ⟨AE, nE, cE, AC, nC, cC, AF, cF, fin, AX, cX, edges⟩ from by have h := HA.out.grow hbr; rw [HAA.out] at h; exact h)
      clear hacc hbr
      by_cases hlt : k < path.length
      · obtain ⟨bp, op, rfl, hbp, e0⟩ := (HPI.out.step HBR.out).at_ hlt
        have HNX := hide (acc_next (E := a'.edges) hlt)
        have HBAD := hide (fun (h : accS a'.edges (path.take (k + 1)) = none) => (show ¬ AccOk a' path from fun h2 => by obtain ⟨_, s, h3, _⟩ := h2; rw [acc_bad (k + 1) h] at h3; cases h3))
        generalize path[k] = p at *
        by_cases p0 : p < 0
        · have T1 : decide (p < 0) = true := decide_eq_true p0
          have HN := hide (HBAD.out (by rw [HNX.out, HACC.out]; exact acc_out (.inl p0)))
          clear p0
          go_wp2_with fail
          go_ret
          exact ⟨false, rfl, ⟨(fun e => by cases e), fun h => absurd h HN.out⟩, bstep HB0.out HBR.out⟩
        · have T1 : decide (p < 0) = false := decide_eq_false p0
          obtain ⟨q, hq⟩ := Int.eq_ofNat_of_zero_le (Int.not_lt.1 p0)
          subst hq
          by_cases q1 : edges.length ≤ q
          · have T2 : decide ((edges.length : Int) ≤ (q : Int)) = true := decide_eq_true (by omega)
            have HN := hide (HBAD.out (by rw [HNX.out, HACC.out]; exact acc_out (.inr (by rw [HAA.out]; dsimp only; omega))))
            clear p0
            go_wp2_with fail
            go_ret
            exact ⟨false, rfl, ⟨(fun e => by cases e), fun h => absurd h HN.out⟩, bstep HB0.out HBR.out⟩
          · have hql : q < edges.length := by omega
            have T2 : decide ((edges.length : Int) ≤ (q : Int)) = false := decide_eq_false (by omega)
            obtain ⟨be, oe, ax, hbe, ex⟩ := HAW.out.edges.edg_at hql
            dsimp only at ax
            subst ax
            have he : edges[q]? = some edges[q] := List.getElem?_eq_getElem hql
            have HE := hide (show a'.edges[q]? = some edges[q] from by rw [HAA.out]; exact he)
            generalize edges[q] = x at *
            obtain ⟨f, t, ev, wh, lo, hi⟩ := x
            obtain ⟨e1, e2, -, -, -, -⟩ := ex
            dsimp only at e1 e2
            by_cases hf : f = s
            · have T3 : (f != s) = false := by simp [hf]
              have HN := hide (show accS a'.edges (path.take (k + 1)) = some t from by rw [HNX.out, HACC.out]; exact acc_step HE.out hf)
              clear hf p0 q1
              go_wp2_with fail
              exact ⟨⟨k + 1, t, hlt, by go_num, rfl, HN.out, HBR.out⟩, by simp [intOf]; omega⟩
            · have T3 : (f != s) = true := by rw [bne_iff_ne]; exact hf
              have HN := hide (HBAD.out (by rw [HNX.out, HACC.out]; exact acc_wrong HE.out hf))
              clear hf p0 q1
              go_wp2_with fail
              go_ret
              exact ⟨false, rfl, ⟨(fun e => by cases e), fun h => absurd h HN.out⟩, bstep HB0.out HBR.out⟩
      · have hke : k = path.length := by omega
        obtain ⟨q, hq⟩ := Int.eq_ofNat_of_zero_le HSI.out.1
        subst hq
        have hqf : q < fin.length := by have := HSI.out.2; omega
        obtain ⟨bf, of, rfl, hbf, e0⟩ := HAW.out.fin.bool_at hqf
        have HF := hide (show AccOk a' path ↔ fin[q] = true from by
          have h1 := HACC.out
          rw [hke, List.take_length] at h1
          have h2 : fin.getD q false = fin[q] := by rw [List.getD_eq_getElem?_getD, List.getElem?_eq_getElem hqf]; rfl
          constructor
          · rintro ⟨_, s, h3, h4⟩
            rw [h1] at h3
            injection h3 with h3
            subst h3
            unfold FinT at h4
            rw [Int.toNat_natCast, HAA.out] at h4
            rw [← h2]; exact h4
          · intro h3
            refine ⟨HVB.out, _, h1, ?_⟩
            unfold FinT
            rw [Int.toNat_natCast, HAA.out]
            exact h2.trans h3)
        generalize fin[q] = fb at *
        clear hke
        go_wp2_with fail
        go_ret
        exact ⟨fb, rfl, HF.out.symm, bstep HB0.out HBR.out⟩

end Go.Proofs.YtgobkbjkndfliaaGreatDoor
