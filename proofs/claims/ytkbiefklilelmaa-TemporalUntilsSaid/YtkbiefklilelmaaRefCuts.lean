/-
  The reference's cuts.
-/
import Derived.Test.YtkbiefklilelmaaRefAdd
namespace Go.Proofs.Ytkbiefklilelmaa
open Go.RowKit Go.Joins

def RefCutsRel (w : World) (l : List Iv) (out i : Value) (wr : World) : Prop :=
  ∃ (k b off c : Nat) (ps : List Int), k ≤ l.length ∧ i = .int .i64 k ∧ out = .slice (some ⟨b, off, none⟩) ps.length c ∧ IntsAt wr wr.heap.size (some ⟨b, off, none⟩) ps ∧ ps.length ≤ c ∧ CutsOk (l.take k) ps ∧ ps.length ≤ 2 + 2 * k ∧ Below w.heap.size w wr

def RetCuts (w : World) (l : List Iv) (e : Ending) (w' : World) : Prop :=
  ∃ (b off c : Nat) (ps : List Int), e = .returned (.slice (some ⟨b, off, none⟩) ps.length c) ∧ IntsAt w' w'.heap.size (some ⟨b, off, none⟩) ps ∧ CutsOk l ps ∧ ps.length ≤ 2 + 2 * l.length ∧ Below w.heap.size w w'

theorem intsAt_block {w : World} {g B : Nat} {cs : Array Value} {t : TypeId} {zs : List Int} (h : w.heap[g]? = some (.cells cs t (0, 0))) (hcs : cs.toList = zs.map (Value.int .i64)) (hB : g < B) : IntsAt w B (some ⟨g, 0, none⟩) zs := fun _ => by
  refine ⟨g, 0, rfl, hB, fun i z hi => ?_⟩
  rw [Nat.zero_add, cell_of_row w g _ cs t (0, 0) h, ← Array.getElem?_toList, hcs, List.getElem?_map, hi]
  rfl

set_option maxHeartbeats 2000000 in
theorem refCuts_any (A B : Option Addr) (c d : Nat) (a b : List Iv) (w : World) (ha : IvsAt w w.heap.size A a) (hb : IvsAt w w.heap.size B b) (hla : a.length ≤ 1000000000000) (hlb : b.length ≤ 1000000000000) :
    Calls Try.prog 92 #[.slice A a.length c, .slice B b.length d] w (RetCuts w (a ++ b)) := by
  go_enter Try.func92, Try.ntmps92
  go_upto_region 2 with fail
  have hb0 : Below w.heap.size w (w.alloc (.cells #[.int .i64 0, .int .i64 1099511627777] 3)) := (Below.refl _ _).alloc (Nat.le_refl _) _
  have hp0 : IntsAt (w.alloc (.cells #[.int .i64 0, .int .i64 1099511627777] 3)) (w.alloc (.cells #[.int .i64 0, .int .i64 1099511627777] 3)).heap.size (some ⟨w.heap.size, 0, none⟩) [0, 1099511627777] := intsAt_block (heap_alloc_new w _) rfl (by simp)
  have ha0 := ha.step hb0
  have hb1 := hb.step hb0
  obtain ⟨W0, hW0⟩ : ∃ W0 : World, w.alloc (.cells #[.int .i64 0, .int .i64 1099511627777] 3) = W0 := ⟨_, rfl⟩
  rw [hW0] at hb0 hp0 ha0 hb1 ⊢
  clear hW0 ha hb
  go_upto_region 3 with (first | (at_builtin; (refine append_ivs rfl (.tmp 12) (.tmp 13) rfl W0.heap.size _ 0 [] _ rfl rfl (OwnIv.empty _ _ (Nat.le_refl _)) A a.length c _ a rfl rfl (ha0.alloc _) (by omega) (by simp) ?_); intro A2 c2 w2 row2 own2 hg2 hr2; have hb2 : Below W0.heap.size W0 w2 := ((Below.refl _ _).alloc (Nat.le_refl _) _).grown hg2 (by simp) hr2) | (at_builtin; (refine append_ivs rfl (.tmp 14) (.tmp 15) rfl W0.heap.size A2 c2 a _ rfl (by simp) own2 B b.length d _ b rfl rfl (hb1.step hb2) (by omega) hb2.size ?_); intro A3 c3 w3 row3 own3 hg3 hr3; have hb3 : Below W0.heap.size W0 w3 := hb2.grown hg3 hb2.size hr3))
  have rL := own3.ats
  have hlL : (a ++ b).length ≤ 2000000000000 := by rw [List.length_append]; omega
  rw [← List.length_append]
  generalize hL : a ++ b = L at rL hlL ⊢
  have HL := hide hL
  clear hL
  have hbW : Below w.heap.size w w3 := bstep hb0 hb3
  have hp3 := hp0.step hb3
  clear hp0 ha0 hb1 own2 own3 hg2 hg3 hb0 hb2 hb3
  go_wp2
  go_loopw [5, 7] (fun out i wr => RefCutsRel w3 L out i wr) (fun _ i _ => L.length - (intOf i).toNat)
  case atStart => exact ⟨0, w.heap.size, 0, 2, [0, 1099511627777], Nat.zero_le _, rfl, rfl, hp3, by simp, by simpa using CutsOk.start, by simp, Below.refl _ _⟩
  case round =>
    obtain ⟨k, b', off', c', ps, hk, rfl, rfl, hps, hc', hok, hpl, hbr⟩ := hrel
    by_cases hlt : k < L.length
    · obtain ⟨bl, offl, rfl, hbl, hc1, hc2⟩ := (rL.below hbr).at_ hlt
      have HOK := hide hok
      have hso := hok.sorted
      have hpos := hok.pos
      clear hok
      by_cases hx : max L[k].1 0 ≤ min L[k].2 1099511627776
      · have hd0 : decide (max L[k].1 0 ≤ min L[k].2 1099511627776) = true := decide_eq_true hx
        have HX := hide hx
        have HD0 := hide hd0
        clear hx hd0
        go_wp2_with fail
        refine (bounds_any L[k].1 L[k].2 _).mono ?_
        rintro e w4 ⟨rfl, hb4⟩
        rw [HD0.out]
        have hmn : 0 ≤ min L[k].2 1099511627776 := by have := HX.out; omega
        have hmx : min L[k].2 1099511627776 ≤ 1099511627776 := by omega
        go_wp2_with fail
        refine (add_any b' off' c' ps (max L[k].1 0) _ (hps.step hb4) hc' (by omega) (fun e => by rw [e] at hpos; simp at hpos) hso).mono ?_
        rintro e w5 ⟨b5, off5, c5, ps5, rfl, h5, hc5, hb5, hs5, hm5, hl5, hn5⟩
        have HM5 := hide hm5
        clear hm5
        go_wp2_with fail
        refine (add_any b5 off5 c5 ps5 (min L[k].2 1099511627776 + 1) _ h5 hc5 (by omega) hn5 hs5).mono ?_
        rintro e w6 ⟨b6, off6, c6, ps6, rfl, h6, hc6, hb6, hs6, hm6, hl6, hn6⟩
        have HM6 := hide hm6
        clear hm6
        go_wp2_with fail
        go_roundw
        case rel =>
          refine ⟨k + 1, b6, off6, c6, ps6, by omega, by go_num, rfl, h6, hc6, ?_, by omega, bstep (bstep (bstep hbr hb4) hb5) hb6⟩
          rw [List.take_succ_eq_append_getElem hlt]
          refine HOK.out.add HX.out hs6 fun u => ?_
          rw [HM6.out, HM5.out]
          constructor
          · rintro (h | h | h)
            · exact .inr (.inl h)
            · exact .inl h
            · exact .inr (.inr h)
          · rintro (h | h | h)
            · exact .inr (.inl h)
            · exact .inl h
            · exact .inr (.inr h)
        case measure => simp [intOf]; omega
      · have hd0 : decide (max L[k].1 0 ≤ min L[k].2 1099511627776) = false := decide_eq_false hx
        have HX := hide hx
        have HD0 := hide hd0
        clear hx hd0
        go_wp2_with fail
        refine (bounds_any L[k].1 L[k].2 _).mono ?_
        rintro e w4 ⟨rfl, hb4⟩
        rw [HD0.out]
        go_wp2_with fail
        go_roundw
        case rel =>
          refine ⟨k + 1, b', off', c', ps, by omega, by go_num, rfl, hps.step hb4, hc', ?_, by omega, bstep hbr hb4⟩
          rw [List.take_succ_eq_append_getElem hlt]
          exact HOK.out.skip (by have := HX.out; omega)
        case measure => simp [intOf]; omega
    · have hke : k = L.length := by omega
      subst hke
      rw [List.take_length] at hok
      go_wp2
      go_ret
      exact ⟨b', off', c', ps, rfl, hps, by rw [HL.out]; exact hok, by rw [HL.out]; exact hpl, bstep hbW hbr⟩
end Go.Proofs.Ytkbiefklilelmaa
