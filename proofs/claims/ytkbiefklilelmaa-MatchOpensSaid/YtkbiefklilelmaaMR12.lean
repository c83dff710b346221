/-
  Several texts in one: Holds. Each says at its head what it holds.
-/
import Derived.Test.YtkbiefklilelmaaMR11

/-
  match.input.holds: whether a condition holds between two times, by a binary search in its normal list.
-/
namespace Go.Proofs.Ytkbiefklilelmaa
open Go.RowKit

def HoldPost (cs : List (List Iv)) (wh u v : Int) (w : World) (e : Ending) (w' : World) : Prop := ∃ b : Bool, e = .returned (.bool b) ∧ (b = true ↔ HoldW cs wh u v) ∧ Below w.heap.size w w'

theorem hold_iff {xs : List Iv} {cs : List (List Iv)} {k : Nat} (hk : nth cs (k : Int) = xs) (hn : Norm xs) {u v : Int} (hu : 0 ≤ u) (huv : u + 1 < v) (hv : v ≤ 1099511627777) {i : Nat} (hi : FirstAt xs (u + 1) i) :
    HoldW cs (k : Int) u v ↔ ∃ h : i < xs.length, xs[i].1 ≤ u + 1 ∧ v - 1 ≤ xs[i].2 := by
  rw [← norm_span hn (by omega) (by omega) (by omega) hi]
  unfold HoldW
  rw [hk]
  constructor
  · rintro (h | h)
    · omega
    · exact fun t h1 h2 => h t (by omega) (by omega)
  · intro h
    exact .inr fun t h1 h2 => h t (by omega) (by omega)

set_option maxRecDepth 100000 in
set_option maxHeartbeats 4000000 in
theorem holds_any (x : MIn) (wh u v : Int) (hw : wh = -1 ∨ ∃ k : Nat, ∃ hk : k < x.cs.length, wh = (k : Int) ∧ Norm x.cs[k].xs) (w : World) (h : MAt w x) (hu : 0 ≤ u ∧ u ≤ 1099511627776) (hv : 0 ≤ v ∧ v ≤ 1099511627777) (hn : x.cs.length ≤ 1000000) :
    Calls Try.prog 85 #[.agg (encX x).toArray, .int .i64 wh, .int .i64 u, .int .i64 v] w (HoldPost x.inp.cs wh u v w) := by
  have hb0 : ∀ cs : Array Value, Below w.heap.size w (w.alloc (.cells cs 83)) := fun cs => (Below.refl _ _).alloc (Nat.le_refl _) _
  rcases hw with rfl | ⟨k, hk, rfl, hnk⟩
  · have HP := hide (show ∀ cs : Array Value, HoldPost x.inp.cs (-1) u v w (.returned (.bool true)) (w.alloc (.cells cs 83)) from fun cs => ⟨true, rfl, ⟨fun _ => .inl rfl, fun _ => rfl⟩, hb0 cs⟩)
    clear hb0
    obtain ⟨⟨AE, nE, cE, AC, nC, cC, AF, cF, fin, AX, cX, edges⟩, AV, cV, ev, AS, cS, cs, en⟩ := x
    clear h
    dsimp only [encX, encA, List.cons_append, List.nil_append] at *
    go_enter Try.func85, Try.ntmps85
    go_wp2_with fail
    go_ret
    exact HP.out _
  · by_cases huv : u + 1 < v
    · have hnth : nth x.inp.cs (k : Int) = x.cs[k].xs := by
        rw [nth_at (k := k) (by simpa [MIn.inp] using hk) rfl]
        simp [MIn.inp]
      have HI := hide (fun (i : Nat) (hi : FirstAt x.cs[k].xs (u + 1) i) => hold_iff hnth hnk hu.1 huv hv.2 hi)
      obtain ⟨cs', hcs'⟩ : ∃ cs', x.inp.cs = cs' := ⟨_, rfl⟩
      rw [hcs'] at HI ⊢
      clear hcs' hnth
      obtain ⟨⟨AE, nE, cE, AC, nC, cC, AF, cF, fin, AX, cX, edges⟩, AV, cV, ev, AS, cS, cs, en⟩ := x
      obtain ⟨_, _, hcs⟩ := h
      dsimp only [encX, encA, List.cons_append, List.nil_append] at *
      obtain ⟨b, off, rfl, hb, e0, hivs⟩ := hcs.at_ hk
      obtain ⟨W0, hW0⟩ : ∃ W0 : World, w.alloc (.cells #[.slice AE nE cE, .slice AC nC cC, .slice AF fin.length cF, .slice AX edges.length cX, .slice AV ev.length cV, .slice (some ⟨b, off, none⟩) cs.length cS, .int .i64 en] 83) = W0 := ⟨_, rfl⟩
      have hbW : Below w.heap.size w W0 := by rw [← hW0]; exact (Below.refl _ _).alloc (Nat.le_refl _) _
      have gx : W0.heap[w.heap.size]? = some (.cells #[.slice AE nE cE, .slice AC nC cC, .slice AF fin.length cF, .slice AX edges.length cX, .slice AV ev.length cV, .slice (some ⟨b, off, none⟩) cs.length cS, .int .i64 en] 83 (0, 0)) := by rw [← hW0]; exact heap_alloc_new w _
      obtain ⟨_, _, _, _, _, x5, _⟩ := box7 gx
      have e1 := (hbW.cell (p := ⟨b, off + k, none⟩) hb).trans e0
      have HIV := hide (hivs.step hbW)
      have t1 : ((k : Int) == -1) = false := beq_eq_false_iff_ne.2 (by omega)
      have t2 : decide (v ≤ u + 1) = false := decide_eq_false (by omega)
      have HW0 := hide hW0
      have HN := hide hnk
      generalize cs[k] = s at *
      obtain ⟨sA, sc, l⟩ := s
      dsimp only at *
      clear hW0 hcs e0 gx hivs hnk huv hb0
      go_enter Try.func85, Try.ntmps85
      go_upto_region 1 with (fail)
      rw [HW0.out]
      go_wp2_with fail
      refine (bsf_any sA sc l (u + 1) W0 HIV.out HN.out (by omega)).mono ?_
      rintro e w2 ⟨i, bb, rfl, hi, hb2⟩
      have HI2 := hide (HI.out i hi)
      have hiv2 := (HIV.out.below hb2).more hb2.size
      have HBW := hide (bstep hbW hb2)
      have il := hi.1
      have hll := norm_len HN.out
      have HHI := hide hi
      clear hi HI hbW hb2
      by_cases hil : i < l.length
      · obtain ⟨b2, off2, rfl, _, d1, d2⟩ := hiv2.at_ hil
        have hok := HN.out.1 _ (List.getElem_mem hil)
        obtain ⟨y, hy⟩ : ∃ y, l[i] = y := ⟨_, rfl⟩
        have HB := hide (show ∀ b : Bool, (b = true ↔ y.1 ≤ u + 1 ∧ v - 1 ≤ y.2) → HoldPost cs' (k : Int) u v w (.returned (.bool b)) w2 from fun b hb => ⟨b, rfl, by rw [HI2.out, hb, ← hy]; exact ⟨fun h => ⟨hil, h⟩, fun ⟨_, h⟩ => h⟩, HBW.out⟩)
        rw [hy] at d1 d2 hok
        clear hy hiv2 HI2
        unfold Okv at hok
        obtain ⟨y1, y2⟩ := y
        dsimp only at *
        have T1 : decide (i < l.length) = true := decide_eq_true hil
        by_cases s1 : y1 ≤ u + 1
        · by_cases s2 : v - 1 ≤ y2
          · have T2 : decide (y1 ≤ u + 1) = true := decide_eq_true s1
            have T3 : decide (v - 1 ≤ y2) = true := decide_eq_true s2
            have HE := hide (HB.out true ⟨fun _ => ⟨s1, s2⟩, fun _ => rfl⟩)
            clear s1 s2 HB
            go_wp2_with fail
            go_ret
            exact HE.out
          · have T2 : decide (y1 ≤ u + 1) = true := decide_eq_true s1
            have T3 : decide (v - 1 ≤ y2) = false := decide_eq_false s2
            have HE := hide (HB.out false ⟨fun h => (by cases h), fun h => absurd h.2 s2⟩)
            clear s1 s2 HB
            go_wp2_with fail
            go_ret
            exact HE.out
        · have T2 : decide (y1 ≤ u + 1) = false := decide_eq_false s1
          have HE := hide (HB.out false ⟨fun h => (by cases h), fun h => absurd h.1 s1⟩)
          clear s1 HB
          go_wp2_with fail
          go_ret
          exact HE.out
      · have T1 : decide (i < l.length) = false := decide_eq_false hil
        have HE := hide (show HoldPost cs' (k : Int) u v w (.returned (.bool false)) w2 from ⟨false, rfl, by rw [HI2.out]; exact ⟨fun h => (by cases h), fun ⟨h, _⟩ => absurd h hil⟩, HBW.out⟩)
        go_wp2_with fail
        go_ret
        exact HE.out
    · have HP := hide (show ∀ cs : Array Value, HoldPost x.inp.cs (k : Int) u v w (.returned (.bool true)) (w.alloc (.cells cs 83)) from fun cs => ⟨true, rfl, ⟨fun _ => .inr fun t h1 h2 => by omega, fun _ => rfl⟩, hb0 cs⟩)
      clear hb0
      obtain ⟨⟨AE, nE, cE, AC, nC, cC, AF, cF, fin, AX, cX, edges⟩, AV, cV, ev, AS, cS, cs, en⟩ := x
      clear h hnk
      have t1 : ((k : Int) == -1) = false := beq_eq_false_iff_ne.2 (by omega)
      have t2 : decide (v ≤ u + 1) = true := decide_eq_true (by omega)
      clear huv
      dsimp only [encX, encA, List.cons_append, List.nil_append] at *
      go_enter Try.func85, Try.ntmps85
      go_wp2_with fail
      go_ret
      exact HP.out _

end Go.Proofs.Ytkbiefklilelmaa
