/-
  Several texts in one: Awake55. Each says at its head what it holds.
-/
import Derived.Test.YtkbiefklilelmaaMR33
import Derived.Test.YtkbiefklilelmaaMR34
import Derived.Test.YtkbiefklilelmaaMR32

/-
  wavestorelaw55.awake: true.
-/
namespace Go.Proofs.Ytkbiefklilelmaa
open Go.RowKit

theorem infoNd : (Try.prog.info? 105).map (fun i => (i.zero, i.size, i.bytes)) = some (some (.agg #[.int .i64 0, .int .i64 0, .string ByteArray.empty, .string ByteArray.empty, .int .i64 0, .int .i64 0, .int .i64 0, .int .i64 0, .slice none 0 0]), 9, 104) := by kernel_rfl
/-- a row that fills a block -/
theorem row_block {α : Type} {w : World} {N m : Nat} {cs : Array Value} {t : TypeId} {cells : α → List Value} {xs : List α} (h : w.heap[N]? = some (.cells cs t (0, 0))) (hf : ∀ x, (cells x).length = m) (hc : cs = (xs.flatMap cells).toArray) : Row w (Lo w.heap.size) m cells (some ⟨N, 0, none⟩) xs := fun _ => by
  refine ⟨N, 0, rfl, box_lt h, fun i x hi j hj => ?_⟩
  rw [Nat.zero_add, cell_of_row w N _ cs t (0, 0) h, hc, List.getElem?_toArray]
  exact flat_at cells m hf hi hj
theorem ints_block {w : World} {N : Nat} {cs : Array Value} {t : TypeId} {zs : List Int} (h : w.heap[N]? = some (.cells cs t (0, 0))) (hc : cs = (zs.map (Value.int .i64)).toArray) : IntsAt w w.heap.size (some ⟨N, 0, none⟩) zs := fun _ => by
  refine ⟨N, 0, rfl, box_lt h, fun i z hi => ?_⟩
  rw [Nat.zero_add, cell_of_row w N _ cs t (0, 0) h, hc, List.getElem?_toArray, List.getElem?_map, hi]
  rfl
theorem ivs_block {w : World} {N : Nat} {cs : Array Value} {t : TypeId} {zs : List Iv} (h : w.heap[N]? = some (.cells cs t (0, 0))) (hc : cs = (encIvs zs).toArray) : IvsAt w w.heap.size (some ⟨N, 0, none⟩) zs := fun _ => by
  refine ⟨N, 0, rfl, box_lt h, fun i z hi => ?_⟩
  obtain ⟨e1, e2⟩ := encIvs_at hi
  exact ⟨by rw [Nat.zero_add, cell_of_row w N _ cs t (0, 0) h, hc, List.getElem?_toArray]; exact e1, by rw [Nat.zero_add, cell_of_row w N _ cs t (0, 0) h, hc, List.getElem?_toArray]; exact e2⟩

/-- equal lists of integers -/
def IntsRel5 (w : World) (xs : List Int) (i : Value) (wr : World) : Prop := ∃ k : Nat, k ≤ xs.length ∧ i = .int .i64 k ∧ Below w.heap.size w wr
set_option maxHeartbeats 1000000 in
theorem ints_eq5 (A B : Option Addr) (c d : Nat) (xs : List Int) (w : World) (hx : IntsAt w w.heap.size A xs) (hy : IntsAt w w.heap.size B xs) (hl : xs.length ≤ 4398046511104) :
    Calls Try.prog 37 #[.slice A xs.length c, .slice B xs.length d] w fun e w' => e = .returned (.bool true) ∧ Below w.heap.size w w' := by
  go_enter Try.func37, Try.ntmps37
  go_wp2_with fail
  go_loopw [5] (fun i wr => IntsRel5 w xs i wr) (fun i _ => xs.length - (intOf i).toNat)
  case atStart => exact ⟨0, Nat.zero_le _, rfl, Below.refl _ _⟩
  case round =>
    obtain ⟨k, hk, rfl, hb⟩ := hrel
    by_cases hlt : k < xs.length
    · obtain ⟨b, off, rfl, hbb, hc1⟩ := (hx.below hb).at_ hlt
      obtain ⟨b', off', rfl, hbb', hc1'⟩ := (hy.below hb).at_ hlt
      have hd1 : decide ((k : Int) < (xs.length : Int)) = true := decide_eq_true (by omega)
      have hq0 : (0 : Int) ≤ (k : Int) := by omega
      go_wp2_with fail
      go_quiet (fail)
      go_wp2_with fail
      go_roundw
      case rel => exact ⟨k + 1, by omega, by go_num, below_drewN hb _⟩
      case measure => simp [intOf]; omega
    · go_wp2_with fail
      go_ret
      exact ⟨rfl, hb⟩


def awA (M N : Nat) : Aut := ⟨some ⟨M, 0, none⟩, 2, 2, none, 0, 0, some ⟨N, 0, none⟩, 3, [false, false, true], some ⟨N + 1, 0, none⟩, 2, [aw1, aw2]⟩
def awE (N : Nat) : List SlI := [⟨some ⟨N + 1 + 1 + 1, 0, none⟩, 2, [1, 8]⟩, ⟨some ⟨N + 1 + 1 + 1 + 1, 0, none⟩, 3, [3, 4, 20]⟩]
theorem aw_prep (M N : Nat) (t : Int) (h0 : 0 ≤ t) (h1 : t ≤ 100) : PrepOk (awA M N) (awE N) 0 0 t t := by
  refine ⟨?_, fun s hs => ?_⟩
  · have hv : validB (awA M N) = true := rfl
    unfold prepB
    rw [hv, Bool.true_and]
    exact decide_eq_true ⟨rfl, rfl, by omega, h0, by omega, by omega⟩
  · simp only [awE, List.mem_cons, List.not_mem_nil, or_false] at hs
    rcases hs with rfl | rfl
    · exact ⟨by simp, by simp⟩
    · exact ⟨by simp, by simp⟩
theorem aw_le (M N : Nat) : AutLe (awA M N) := by
  refine ⟨by simp [awA], by simp [awA], by simp [awA], by simp [awA], fun x hx => ?_⟩
  simp only [awA, List.mem_cons, List.not_mem_nil, or_false] at hx
  rcases hx with rfl | rfl <;> simp [I64E, I64, aw1, aw2]

theorem chain6 (w1 : World) (a b c d e f : Obj) {V : World} (hV : (((((w1.alloc a).alloc b).alloc c).alloc d).alloc e).alloc f = V) : V.heap[w1.heap.size]? = some a ∧ V.heap[w1.heap.size + 1]? = some b ∧ V.heap[w1.heap.size + 1 + 1]? = some c ∧ V.heap[w1.heap.size + 1 + 1 + 1]? = some d ∧ V.heap[w1.heap.size + 1 + 1 + 1 + 1]? = some e ∧ V.heap[w1.heap.size + 1 + 1 + 1 + 1 + 1]? = some f ∧ Below w1.heap.size w1 V := by
  have e1 := heap_alloc_new (w1.alloc a) b
  have e2 := heap_alloc_new ((w1.alloc a).alloc b) c
  have e3 := heap_alloc_new (((w1.alloc a).alloc b).alloc c) d
  have e4 := heap_alloc_new ((((w1.alloc a).alloc b).alloc c).alloc d) e
  have e5 := heap_alloc_new (((((w1.alloc a).alloc b).alloc c).alloc d).alloc e) f
  have s1 : (w1.alloc a).heap.size = w1.heap.size + 1 := by simp
  have s2 : ((w1.alloc a).alloc b).heap.size = w1.heap.size + 1 + 1 := by simp
  have s3 : (((w1.alloc a).alloc b).alloc c).heap.size = w1.heap.size + 1 + 1 + 1 := by simp
  have s4 : ((((w1.alloc a).alloc b).alloc c).alloc d).heap.size = w1.heap.size + 1 + 1 + 1 + 1 := by simp
  have s5 : (((((w1.alloc a).alloc b).alloc c).alloc d).alloc e).heap.size = w1.heap.size + 1 + 1 + 1 + 1 + 1 := by simp
  rw [s1] at e1
  rw [s2] at e2
  rw [s3] at e3
  rw [s4] at e4
  rw [s5] at e5
  subst hV
  refine ⟨box_alloc (box_alloc (box_alloc (box_alloc (box_alloc (heap_alloc_new w1 a))))), box_alloc (box_alloc (box_alloc (box_alloc e1))), box_alloc (box_alloc (box_alloc e2)), box_alloc (box_alloc e3), box_alloc e4, e5, ?_⟩
  exact ((((((Below.refl _ _).alloc (Nat.le_refl _) _).alloc (by omega) _).alloc (by omega) _).alloc (by omega) _).alloc (by omega) _).alloc (by omega) _

set_option maxRecDepth 100000 in
set_option maxHeartbeats 4000000 in
theorem awake55 (w : World) : Calls Try.prog 31 #[] w fun e w' => e = .returned (.bool true) ∧ Below w.heap.size w w' := by
  obtain ⟨i0, hi0, hz0, hz1, hz2⟩ := info_parts infoNd
  obtain ⟨w1, hmk, _, hg1⟩ := run_make_full (P := Try.prog) (w := w) w.heap.size 46 105 i0 _ 9 Try.underlying46 hi0 hz0 hz1 .i64 .i64 2 (by rw [hz2]; omega) (by simp [maxLen]) (Nat.le_refl _)
  have hmk : (Instr.makeSlice 46 (.int .i64 2) (.int .i64 2)).run Try.prog w = .ok (.slice (some ⟨w.heap.size, 0, none⟩) 2 2) w1 := hmk
  have hb1 : Below w.heap.size w w1 := (Below.refl _ _).grown hg1 (Nat.le_refl _) (fun k e => by cases e)
  have hM := hb1.size
  generalize w.heap.size = M at *
  have HB1 := hide hb1
  have HM := hide hM
  clear hi0 hz0 hz1 hz2 hg1 hb1 hM
  go_enter Try.func31, Try.ntmps31
  go_upto_region 3 with fail
  obtain ⟨V, hV⟩ : ∃ V, (((((w1.alloc (.cells #[.bool false, .bool false, .bool true] 4)).alloc (.cells #[.int .i64 0, .int .i64 1, .int .i64 0, .int .i64 (-1), .int .i64 0, .int .i64 0, .int .i64 1, .int .i64 2, .int .i64 1, .int .i64 (-1), .int .i64 1, .int .i64 5] 81)).alloc (.cells #[.slice (some ⟨M, 0, none⟩) 2 2, .slice none 0 0, .slice (some ⟨w1.heap.size, 0, none⟩) 3 3, .slice (some ⟨w1.heap.size + 1, 0, none⟩) 2 2] 50)).alloc (.cells #[.int .i64 1, .int .i64 8] 3)).alloc (.cells #[.int .i64 3, .int .i64 4, .int .i64 20] 3)).alloc (.cells #[.slice (some ⟨w1.heap.size + 1 + 1 + 1, 0, none⟩) 2 2, .slice (some ⟨w1.heap.size + 1 + 1 + 1 + 1, 0, none⟩) 3 3] 36) = V := ⟨_, rfl⟩
  rw [hV]
  obtain ⟨p0, p1, p2, p3, p4, p5, hbV⟩ := chain6 _ _ _ _ _ _ _ hV
  have HBV := hide (HB1.out.trans (hbV.mono HM.out))
  have HMV := hide (Nat.le_trans HM.out hbV.size)
  clear hbV HM HB1
  generalize w1.heap.size = N at *
  have HA := hide (show AutAt V (Lo V.heap.size) (awA M N) from ⟨row_block p0 (fun _ => rfl) rfl, row_block p1 (fun _ => rfl) rfl⟩)
  have HE := hide (show EvAt V (some ⟨N + 1 + 1 + 1 + 1 + 1, 0, none⟩) (awE N) from ⟨row_block p5 (fun _ => rfl) rfl, fun s hs => by
    simp only [awE, List.mem_cons, List.not_mem_nil, or_false] at hs
    rcases hs with rfl | rfl
    · exact ints_block p3 rfl
    · exact ints_block p4 rfl⟩)
  have HP2 := hide p2
  clear hV p0 p1 p3 p4 p5 p2
  have HRUN := hide (show Calls Try.prog 32 #[.agg #[.slice (some ⟨M, 0, none⟩) 2 2, .slice none 0 0, .slice (some ⟨N, 0, none⟩) 3 3, .slice (some ⟨N + 1, 0, none⟩) 2 2], .slice (some ⟨N + 1 + 1 + 1 + 1 + 1, 0, none⟩) 2 2, .slice none 0 0, .int .i64 0, .int .i64 25, .int .i64 25] V (fun e w' => ∃ A c, e = .returned (.tuple #[.slice A 1 c, .int .i64 0]) ∧ IvsAt w' w'.heap.size A [(1, 3)] ∧ Below V.heap.size V w') from
    (run_any (awA M N) (some ⟨N + 1 + 1 + 1 + 1 + 1, 0, none⟩) 2 (awE N) none 0 [] 0 25 25 V HA.out (aw_le M N) HE.out ⟨Row.nil, fun s hs => by cases hs⟩ (by simp [awA]) (by simp [awE]) (by simp) (by simp [awE]) (by simp)).mono fun e w' h => by
      obtain ⟨hb, ⟨hno, _⟩ | ⟨_, A, c, xs, rfl, hown, _, hrun⟩⟩ := h
      · exact absurd (aw_prep M N 25 (by omega) (by omega)) hno
      · have hx : xs = [(1, 3)] := IsRun.uniq (x := awI) hrun aw_run
        subst hx
        exact ⟨A, c, rfl, OwnOc.ats hown, hb⟩)
  have HOPEN := hide (show ∀ U, Below V.heap.size V U → Calls Try.prog 35 #[.agg #[.slice (some ⟨M, 0, none⟩) 2 2, .slice none 0 0, .slice (some ⟨N, 0, none⟩) 3 3, .slice (some ⟨N + 1, 0, none⟩) 2 2], .slice (some ⟨N + 1 + 1 + 1 + 1 + 1, 0, none⟩) 2 2, .slice none 0 0, .int .i64 0, .int .i64 10, .int .i64 10] U (fun e w' => ∃ A c, e = .returned (.tuple #[.slice A 1 c, .int .i64 0]) ∧ IntsAt w' w'.heap.size A [8] ∧ Below U.heap.size U w') from fun U hU =>
    (open_any (awA M N) (some ⟨N + 1 + 1 + 1 + 1 + 1, 0, none⟩) 2 (awE N) none 0 [] 0 10 10 U (HA.out.grow hU) (aw_le M N) (HE.out.step hU) ⟨Row.nil, fun s hs => by cases hs⟩ (by simp [awA]) (by simp [awE]) (by simp) (by simp [awE]) (by simp)).mono fun e w' h => by
      obtain ⟨hb, ⟨hno, _⟩ | ⟨_, A, c, xs, rfl, hown, _, hrun⟩⟩ := h
      · exact absurd (aw_prep M N 10 (by omega) (by omega)) hno
      · have hx : xs = [8] := IsOpen.uniq (x := awI) hrun aw_open
        subst hx
        exact ⟨A, c, rfl, OwnInt.ats hown, hb⟩)
  obtain ⟨y0, y1, y2, y3, -⟩ := box4 HP2.out
  clear HA HE hmk
  go_upto_region 4 with (go_at_call 32; refine HRUN.out.mono ?_; rintro e U ⟨A, c, rfl, hI, hU⟩; have HU := hide hU; have HI := hide hI; clear hU hI)
  have HOP := hide (HOPEN.out U HU.out)
  clear y0 y1 y2 y3
  obtain ⟨y0, y1, y2, y3, -⟩ := box4 ((HU.out.block _ (box_lt HP2.out)).trans HP2.out)
  clear HRUN HOPEN
  go_upto_region 5 with (go_at_call 35; refine HOP.out.mono ?_; rintro e U2 ⟨A2, c2, rfl, hI2, hU2⟩; have HU2 := hide hU2; have HI2 := hide hI2; clear hU2 hI2)
  clear y0 y1 y2 y3 HOP
  obtain ⟨U3, hU3⟩ : ∃ U3, U2.alloc (.cells #[.int .i64 1, .int .i64 3] 64) = U3 := ⟨_, rfl⟩
  have g3 := new_at hU3
  have hb3 : Below U2.heap.size U2 U3 := by rw [← hU3]; exact (Below.refl _ _).alloc (Nat.le_refl _) _
  have HS := hide (osame_any A (some ⟨U2.heap.size, 0, none⟩) c 1 [(1, 3)] [(1, 3)] U3 ((HI.out.step HU2.out).step hb3) (ivs_block g3 rfl) (by simp) (by simp))
  have HB3 := hide (bstep (bstep HU.out HU2.out) hb3)
  have HI3 := hide (HI2.out.step hb3)
  have HU3 := hide hU3
  clear hU3 g3 hb3 HI HI2
  go_wp2_with (first
    | (go_at_call 34
       rw [HU3.out]
       refine HS.out.mono ?_
       rintro e U4 ⟨rfl, q, rfl⟩)
    | (go_at_call 37
       have hb5 : Below U3.heap.size U3 ((U3.drewN q).alloc (.cells #[.int .i64 8] 3)) := (below_drewN (Below.refl _ _) q).alloc (Nat.le_refl _) _
       refine (ints_eq5 A2 (some ⟨U3.heap.size, 0, none⟩) c2 1 [8] ((U3.drewN q).alloc (.cells #[.int .i64 8] 3)) (HI3.out.step hb5) (ints_block (heap_alloc_new (U3.drewN q) _) rfl) (by simp)).mono ?_
       rintro e U6 ⟨rfl, b6⟩
       have HB6 := hide (HBV.out.trans ((bstep (bstep HB3.out hb5) b6).mono HMV.out))
       clear hb5 b6))
  go_ret
  exact ⟨rfl, HB6.out⟩

end Go.Proofs.Ytkbiefklilelmaa
