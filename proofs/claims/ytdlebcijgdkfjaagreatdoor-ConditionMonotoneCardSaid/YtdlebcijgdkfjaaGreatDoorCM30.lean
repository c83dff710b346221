/-
  Several texts in one: ResW, MonoW, Exact. Each says at its head what it holds.
-/
import Derived.Test.YtdlebcijgdkfjaaGreatDoorCM29
import Derived.Test.YtdlebcijgdkfjaaGreatDoorCM15
import Derived.Test.YtdlebcijgdkfjaaGreatDoorCM3
import Derived.Test.YtdlebcijgdkfjaaGreatDoorCM4
import Derived.Test.YtdlebcijgdkfjaaGreatDoorCM23
import Derived.Test.YtdlebcijgdkfjaaGreatDoorCM22
import Derived.Test.YtdlebcijgdkfjaaGreatDoorCM25
import Derived.Test.YtdlebcijgdkfjaaGreatDoorCM28
import Derived.Test.YtdlebcijgdkfjaaGreatDoorCM19

/-
  wavestorelaw51.resolve, walked: a signal whose unknown bits are replaced.
-/
namespace Go.Proofs.YtdlebcijgdkfjaaGreatDoor
open Go.RowKit

theorem infoChg : (Tryz.prog.info? 97).map (fun i => (i.zero, i.size, i.bytes)) = some (some (.agg #[.int .i64 0, .string ByteArray.empty]), 2, 24) := by kernel_rfl
/-- a list of changes that the call itself has made -/
def OwnCh (w : World) (base : Nat) (A : Option Addr) (c : Nat) (l : List Chg) : Prop := w.ownsRow base 97 2 (.slice A l.length c) l.length (l.flatMap cChg)
theorem OwnCh.nil (w : World) (base : Nat) : OwnCh w base none 0 [] := World.ownsRow_nil w base _ 2
theorem OwnCh.of_row {w : World} {base : Nat} {v : Value} {n : Nat} {vs : List Value} {l : List Chg} (h : w.ownsRow base 97 2 v n vs) (hn : n = l.length) (hv : vs = l.flatMap cChg) : ∃ A c, v = .slice A l.length c ∧ OwnCh w base A c l := by
  subst hn hv
  rcases Joins.ownsRow_forms h with ⟨rfl, h0⟩ | ⟨g, cap, rfl⟩
  · exact ⟨none, 0, by rw [h0], by unfold OwnCh; rw [h0] at h ⊢; exact h⟩
  · exact ⟨_, cap, rfl, h⟩
theorem OwnCh.row {w : World} {base : Nat} {A : Option Addr} {c : Nat} {l : List Chg} (h : OwnCh w base A c l) : Row w (fun b => base ≤ b ∧ b < w.heap.size ∧ ∃ cs, w.heap[b]? = some (.cells cs 97 (0, 0))) 2 cChg A l := fun hne => by
  obtain ⟨g, rfl, h1⟩ := own_place h (List.length_pos_iff.2 hne)
  have h2 := own_ob h g rfl
  refine ⟨g, 0, rfl, ⟨h2.1, h2.2, own_cellsT h rfl⟩, fun i s hi j hj => ?_⟩
  have hlt := (List.getElem?_eq_some_iff.1 hi).1
  rw [Nat.zero_add, World.ownsRow.cellAt h _ (by omega), flat_at cChg 2 (fun _ => rfl) hi hj]
theorem ch_one (c : Chg) : ∀ u ∈ cChg c, u.oneCell' = true := by
  intro u hu
  simp only [cChg, List.mem_cons, List.not_mem_nil, or_false] at hu
  rcases hu with rfl | rfl <;> rfl

theorem box3_set {w : World} {N : Nat} {a b c a' b' c' : Value} {t : TypeId} (h : w.heap[N]? = some (.cells #[a, b, c] t (0, 0))) : (((w.setCell ⟨N, 0, none⟩ a').setCell ⟨N, 1, none⟩ b').setCell ⟨N, 2, none⟩ c').heap[N]? = some (.cells #[a', b', c'] t (0, 0)) := by
  simp [World.setCell, Array.getElem?_modify, h]
theorem box3_set2 {w : World} {N : Nat} {a b c c' : Value} {t : TypeId} (h : w.heap[N]? = some (.cells #[a, b, c] t (0, 0))) : (w.setCell ⟨N, 2, none⟩ c').heap[N]? = some (.cells #[a, b, c'] t (0, 0)) := by
  simp [World.setCell, Array.getElem?_modify, h]
theorem box3_all {w : World} {N : Nat} {a b c : Value} {t : TypeId} (h : w.heap[N]? = some (.cells #[a, b, c] t (0, 0))) : w.cell? ⟨N, 0, none⟩ = some a ∧ w.cell? ⟨N, 1, none⟩ = some b ∧ w.cell? ⟨N, 2, none⟩ = some c ∧ w.frozen? ⟨N, 0, none⟩ = false ∧ w.frozen? ⟨N, 1, none⟩ = false ∧ w.frozen? ⟨N, 2, none⟩ = false :=
  ⟨by rw [cell_of_row w N _ _ t (0, 0) h]; rfl, by rw [cell_of_row w N _ _ t (0, 0) h]; rfl, by rw [cell_of_row w N _ _ t (0, 0) h]; rfl, by simp [World.frozen?, h], by simp [World.frozen?, h], by simp [World.frozen?, h]⟩
/-- the bits so far -/
def fillT (ws l : List UInt8) (k i : Nat) : List UInt8 := fillL ws (l.take i) k ++ l.drop i
theorem fillT_len (ws l : List UInt8) (k i : Nat) : (fillT ws l k i).length = l.length := by
  unfold fillT
  rw [List.length_append, fillL_len, List.length_take, List.length_drop]
  omega
theorem fillT_at (ws l : List UInt8) (k : Nat) {i : Nat} (hi : i < l.length) : (fillT ws l k i)[i]? = some l[i] := by
  have h1 : (fillL ws (l.take i) k).length = i := by rw [fillL_len, List.length_take]; omega
  unfold fillT
  rw [List.getElem?_append_right (by omega), h1, Nat.sub_self, List.getElem?_drop, Nat.add_zero, List.getElem?_eq_getElem hi]
theorem fillT_succ (ws l : List UInt8) (k : Nat) {i : Nat} (hi : i < l.length) (u : UInt8) (hu : (if knC l[i] then l[i] else subC ws (fillK (l.take i) k)) = u) : fillT ws l k (i + 1) = (fillT ws l k i).set i u := by
  have h1 : (fillL ws (l.take i) k).length = i := by rw [fillL_len, List.length_take]; omega
  unfold fillT
  rw [(fill_step ws l k hi).1, hu, List.drop_eq_getElem_cons hi, List.set_append_right _ _ (by omega), h1, Nat.sub_self, List.set_cons_zero, List.append_assoc]
  rfl
theorem fillT_all (ws l : List UInt8) (k : Nat) : fillT ws l k l.length = fillL ws l k := by
  unfold fillT
  rw [List.take_length, List.drop_length, List.append_nil]
theorem set_same {l : List UInt8} {i : Nat} {u : UInt8} (h : l[i]? = some u) : l.set i u = l := by
  apply List.ext_getElem?
  intro j
  rw [List.getElem?_set]
  split
  · rename_i e
    subst e
    rw [if_pos (List.getElem?_eq_some_iff.1 h).1, h]
  · rfl
theorem sub_at {wi : ByteArray} (h : 0 < wi.size) (k : Nat) : ∃ (q X : Nat) (hq : q < wi.size), (k : Int).tmod (wi.size : Int) = (q : Int) ∧ wi[q].toNat = X ∧ X < 256 ∧ subC wi.data.toList k = UInt8.ofNat (48 + X % 2) := by
  have hq : k % wi.size < wi.size := Nat.mod_lt _ h
  refine ⟨k % wi.size, wi[k % wi.size].toNat, hq, by rw [Int.tmod_eq_emod_of_nonneg (by omega)]; omega, rfl, UInt8.toNat_lt _, ?_⟩
  unfold subC
  have h1 : wi.data.toList.length = wi.size := by simp
  have h2 : wi.data.toList.getD (k % wi.size) 0 = wi[k % wi.size] := by
    have : wi.data.toList[k % wi.size]? = some wi[k % wi.size] := by rw [List.getElem?_eq_getElem (by rw [h1]; exact hq)]; rfl
    rw [List.getD, this]; rfl
  rw [h1, h2]
/-- the bytes of a value in a block that the conversion has made -/
def BitsB (w : World) (B : Nat) (l : List UInt8) : Prop := ∃ (cs : Array Value) (n : Nat), w.heap[B]? = some (.cells cs 5 (n, n + 1)) ∧ l.length ≤ n ∧ l.length ≤ cs.size ∧ ∀ (i : Nat) c, l[i]? = some c → cs[i]? = some (bv c)
theorem BitsB.cell {w : World} {B : Nat} {l : List UInt8} (h : BitsB w B l) {i : Nat} {c : UInt8} (hi : l[i]? = some c) : w.cell? ⟨B, i, none⟩ = some (bv c) ∧ w.frozen? ⟨B, i, none⟩ = false := by
  obtain ⟨cs, n, h1, h2, h3, h4⟩ := h
  have hlt := (List.getElem?_eq_some_iff.1 hi).1
  refine ⟨?_, ?_⟩
  · simp [World.cell?, h1, h4 i c hi]
  · simp [World.frozen?, h1]
    omega
theorem BitsB.set {w : World} {B : Nat} {l : List UInt8} (h : BitsB w B l) {i : Nat} (hi : i < l.length) (u : UInt8) : BitsB (w.setCell ⟨B, i, none⟩ (bv u)) B (l.set i u) := by
  obtain ⟨cs, n, h1, h2, h3, h4⟩ := h
  refine ⟨cs.setIfInBounds i (bv u), n, ?_, by rw [List.length_set]; exact h2, by rw [List.length_set, Array.size_setIfInBounds]; exact h3, fun j c hj => ?_⟩
  · simp [World.setCell, Array.getElem?_modify, h1]
  · rw [List.getElem?_set] at hj
    rw [Array.getElem?_setIfInBounds]
    by_cases e : i = j
    · subst e
      rw [if_pos rfl, if_pos hi] at hj
      injection hj with hj
      subst hj
      rw [if_pos rfl, if_pos (by omega)]
    · rw [if_neg e] at hj ⊢
      exact h4 j c hj
theorem BitsB.keep {w w' : World} {B : Nat} {l : List UInt8} (h : BitsB w B l) (hk : w'.heap[B]? = w.heap[B]?) : BitsB w' B l := by
  obtain ⟨cs, n, h1, h2⟩ := h
  exact ⟨cs, n, hk.trans h1, h2⟩
theorem BitsB.conv {w : World} {B : Nat} {l : List UInt8} (h : BitsB w B l) (c : Nat) : (convert 108 9 (.slice (some ⟨B, 0, none⟩) l.length c)).run Tryz.prog w = .ok (.string (bs l)) w := by
  have hb : Lib.Bytes w B 0 ⟨l.toArray⟩ := fun i hi => by
    have hil : i < l.length := by simpa [ByteArray.size] using hi
    rw [Nat.zero_add, (h.cell (List.getElem?_eq_getElem hil)).1]
    rfl
  have := Lib.run_convert_whole (P := Tryz.prog) w 108 5 9 Tryz.underlying108 Tryz.underlying5 Tryz.underlying9 B 0 ⟨l.toArray⟩ hb c
  simpa [ByteArray.size, bs] using this
theorem conv_bits (w : World) (s : ByteArray) : ∃ (WB : World) (C : Nat), (convert 9 108 (.string s)).run Tryz.prog w = .ok (.slice (some ⟨w.heap.size, 0, none⟩) s.size C) WB ∧ WB.heap.size = w.heap.size + 1 ∧ Below w.heap.size w WB ∧ BitsB WB w.heap.size s.data.toList := by
  refine ⟨_, _, Lib.run_convert_string_bytes w 9 108 5 s Tryz.underlying9 Tryz.underlying108 Tryz.underlying5, Lib.bytesWorld_size _ _ _, Joins.below_bytesWorld _ _ _ _ (Nat.le_refl _), ?_⟩
  refine ⟨_, _, Lib.bytesWorld_at_new _ _ _, ?_, ?_, fun i c hi => ?_⟩
  · simp [Lib.bytesCells]
  · simp [Lib.bytesCells]
  · have hlt : i < s.data.toList.length := (List.getElem?_eq_some_iff.1 hi).1
    have := Lib.bytesWorld_cell w 5 s i (by simpa using hlt)
    simp [World.cell?, Lib.bytesWorld_at_new] at this
    have h2 : s.data[i]? = some c := by simpa using hi
    rw [this, h2]
    rfl

def ResPost (ws : List UInt8) (s : Sgn) (P : Nat → Prop) (w : World) (e : Ending) (w' : World) : Prop :=
  ∃ (A : Option Addr) (c : Nat), e = .returned (.agg #[.int .i64 s.kind, .int .i64 s.width, .slice A (resC ws s).length c]) ∧ Row w' (fun b => P b ∨ (w.heap.size ≤ b ∧ b < w'.heap.size ∧ ∃ cs, w'.heap[b]? = some (.cells cs 97 (0, 0)))) 2 cChg A (resC ws s) ∧ Below w.heap.size w w'
/-- the loop over the changes -/
def RsRel (ws : List UInt8) (v0 : ByteArray) (chs : List Chg) (W0 : World) (O : Nat) (kind width : Int) (bv_ kv iv : Value) (wr : World) : Prop :=
  ∃ (j : Nat) (A : Option Addr) (c : Nat) (st : RSt), j ≤ chs.length ∧ iv = .int .i64 (j : Int) ∧ rslF ws v0 (chs.take j) = st ∧ bv_ = .string st.bef ∧ kv = .int .i64 (st.k : Int) ∧
    wr.heap[O]? = some (.cells #[.int .i64 kind, .int .i64 width, .slice A st.out.length c] 60 (0, 0)) ∧ OwnCh wr (O + 1) A c st.out ∧ Below W0.heap.size W0 wr
/-- the loop over the bits of a value -/
def RbRel (ws : List UInt8) (l : List UInt8) (k0 B : Nat) (V : World) (kv iv : Value) (wr : World) : Prop :=
  ∃ j : Nat, j ≤ l.length ∧ iv = .int .i64 (j : Int) ∧ kv = .int .i64 ((fillK (l.take j) k0 : Nat) : Int) ∧ BitsB wr B (fillT ws l k0 j) ∧ But V.heap.size (some B) V wr
theorem str_ne_list {s : ByteArray} (h : s ≠ ⟨#[]⟩) : s.toList.isEmpty = false ∧ s.toList ≠ [] ∧ 0 < s.size := by
  have h1 : s.data.toList ≠ [] := fun e => h (ByteArray.ext (Array.toList_inj.1 (by rw [e])))
  rw [ByteArray.toList_eq]
  refine ⟨?_, h1, ?_⟩
  · cases h2 : s.data.toList with
    | nil => exact absurd h2 h1
    | cons a l => rfl
  · have := List.length_pos_iff.2 h1
    simpa using this

set_option maxRecDepth 100000 in
set_option maxHeartbeats 4000000 in
theorem resolve_same (s : Sgn) (wi : ByteArray) (P : Nat → Prop) (w : World) (hP : ∀ b, P b → b < w.heap.size) (hr : Row w P 2 cChg s.CA s.chs) (hc : s.kind ≠ 0 ∨ wi.data.toList = []) :
    Calls Tryz.prog 24 #[.agg (cSgn s).toArray, .string wi] w (ResPost wi.data.toList s P w) := by
  have HE := hide (show ∀ w' : World, Below w.heap.size w w' → ResPost wi.data.toList s P w (.returned (.agg #[.int .i64 s.kind, .int .i64 s.width, .slice s.CA s.chs.length s.cc])) w' from fun w' hb => by
    have e : resC wi.data.toList s = s.chs := by unfold resC; rw [if_pos hc]
    refine ⟨s.CA, s.cc, by rw [e], ?_, hb⟩
    rw [e]
    exact (hr.stay (stay_below hb hP)).more fun b hb => .inl hb)
  obtain ⟨kind, width, CA, cc, chs⟩ := s
  dsimp only at HE hc
  unfold cSgn
  dsimp only
  have HC := hide hc
  clear hr hP hc
  obtain ⟨W0, hW0⟩ : ∃ W0, (w.alloc (.cells #[.int .i64 kind, .int .i64 width, .slice CA chs.length cc] 60)).alloc (.cells #[.int .i64 0, .int .i64 0, .slice none 0 0] 60) = W0 := ⟨_, rfl⟩
  obtain ⟨p0, p1, hb0⟩ := chain2 _ _ _ hW0
  have HW0 := hide hW0
  have HB0 := hide hb0
  have HG1 := hide p1
  obtain ⟨c0, c1, c2, -, -, -⟩ := box3_all p0
  obtain ⟨d0, d1, d2, f0, f1, f2⟩ := box3_all p1
  have hlt := box_lt p1
  clear hW0 hb0 p0 p1
  go_enter Tryz.func24, Tryz.ntmps24
  go_upto_region 1 with (fail)
  rw [HW0.out]
  obtain ⟨W9, hW9⟩ : ∃ W9 : World, ((W0.setCell ⟨w.heap.size + 1, 0, none⟩ (.int .i64 kind)).setCell ⟨w.heap.size + 1, 1, none⟩ (.int .i64 width)).setCell ⟨w.heap.size + 1, 2, none⟩ (.slice CA chs.length cc) = W9 := ⟨_, rfl⟩
  have hb9 : Below w.heap.size w W9 := by
    rw [← hW9]
    exact ((HB0.out.setCell (p := ⟨w.heap.size + 1, 0, none⟩) (by simp) _).setCell (p := ⟨w.heap.size + 1, 1, none⟩) (by simp) _).setCell (p := ⟨w.heap.size + 1, 2, none⟩) (by simp) _
  have hg9 := box3_set (a' := .int .i64 kind) (b' := .int .i64 width) (c' := .slice CA chs.length cc) HG1.out
  rw [hW9] at hg9
  have HW9 := hide hW9
  have HB9 := hide hb9
  have HG9 := hide hg9
  clear hW9 hb9 hg9
  by_cases k0 : kind = 0
  · have hw0 := HC.out.resolve_left (fun h => h k0)
    have : wi = ⟨#[]⟩ := ByteArray.ext (Array.toList_inj.1 (by rw [hw0]))
    subst this
    subst k0
    clear hw0
    go_wp2_with fail
    rw [HW9.out]
    obtain ⟨r0, r1, r2, -, -, -⟩ := box3_all HG9.out
    exact bodyPost_ret (v := .agg #[.int .i64 0, .int .i64 width, .slice CA chs.length cc]) (by simp [results, Tryz.results24, go_sem, r0, r1, r2]) rfl (HE.out _ HB9.out)
  · have T0 : (kind != 0) = true := bne_iff_ne.2 k0
    clear k0
    go_wp2_with fail
    rw [HW9.out]
    obtain ⟨r0, r1, r2, -, -, -⟩ := box3_all HG9.out
    exact bodyPost_ret (v := .agg #[.int .i64 kind, .int .i64 width, .slice CA chs.length cc]) (by simp [results, Tryz.results24, go_sem, r0, r1, r2]) rfl (HE.out _ HB9.out)

set_option maxRecDepth 100000 in
set_option maxHeartbeats 8000000 in
theorem resolve_new (s : Sgn) (wi : ByteArray) (fin : Int) (P : Nat → Prop) (w : World) (hs : SgOk fin s) (hP : ∀ b, P b → b < w.heap.size) (hr : Row w P 2 cChg s.CA s.chs) (hk : s.kind = 0) (hne : wi ≠ ⟨#[]⟩) (hwl : wi.size ≤ 100) :
    Calls Tryz.prog 24 #[.agg (cSgn s).toArray, .string wi] w (ResPost wi.data.toList s P w) := by
  obtain ⟨i0, hi0, hz0, hz1, hz2⟩ := info_parts infoChg
  obtain ⟨hw1, hw2, hw3⟩ := str_ne_list hne
  have HE := hide (show ∀ (A : Option Addr) (c : Nat) (w' : World), OwnCh w' (w.heap.size + 2) A c (rslF wi.data.toList (bs (initB s)) s.chs).out → Below w.heap.size w w' → ResPost wi.data.toList s P w (.returned (.agg #[.int .i64 s.kind, .int .i64 s.width, .slice A (rslF wi.data.toList (bs (initB s)) s.chs).out.length c])) w' from fun A c w' ho hb => by
    have e : resC wi.data.toList s = (rslF wi.data.toList (bs (initB s)) s.chs).out := by
      unfold resC
      rw [if_neg]
      rintro (h | h)
      · exact h hk
      · exact hne (ByteArray.ext (Array.toList_inj.1 h))
    refine ⟨A, c, by rw [e], ?_, hb⟩
    rw [e]
    exact ho.row.more fun b hb => .inr ⟨by have := hb.1; omega, hb.2⟩)
  have HBIT := hide (fun c hc => ((hs.each c hc).2.2.1 hk).2)
  have HSZ := hide (fun c hc => (hs.each c hc).2.2.2)
  have HRI := hide (fun (j : Nat) => res_inv wi.data.toList (bs (initB s)) _ (s.chs.take j) rfl (hs.sorted.sublist (List.take_sublist _ _)) (fun c hc => ((hs.each c (List.mem_of_mem_take hc)).2.2.1 hk).2))
  have hlen := hs.len
  have hwd := hs.width.1 hk
  obtain ⟨kind, width, CA, cc, chs⟩ := s
  dsimp only at HE hlen hwd hr HBIT HSZ HRI hk
  subst hk
  unfold cSgn
  dsimp only
  have HI := hide (fun W => initial_any 0 width CA chs.length cc W (fun _ => by omega))
  have HV0 := hide (show bs (initB ⟨0, width, CA, cc, chs⟩) = bs (initL 0 width) from rfl)
  rw [HV0.out] at HE HRI
  generalize bs (initL 0 width) = v0 at *
  clear HV0 hs hne hwd
  have HP := hide hP
  have HR := hide hr
  clear hP hr
  obtain ⟨W0, hW0⟩ : ∃ W0, (w.alloc (.cells #[.int .i64 0, .int .i64 width, .slice CA chs.length cc] 60)).alloc (.cells #[.int .i64 0, .int .i64 0, .slice none 0 0] 60) = W0 := ⟨_, rfl⟩
  obtain ⟨p0, p1, hb0⟩ := chain2 _ _ _ hW0
  have HW0 := hide hW0
  have HB0 := hide hb0
  have HG0 := hide p0
  have HG1 := hide p1
  have HG1' := hide p1
  have hl1 := box_lt p1
  have hz0' : W0.heap.size = w.heap.size + 2 := by rw [← hW0]; simp
  obtain ⟨c0, c1, c2, -, -, -⟩ := box3_all p0
  clear hW0 hb0 p0 p1
  go_enter Tryz.func24, Tryz.ntmps24
  go_upto_region 1 with (fail)
  rw [HW0.out]
  obtain ⟨W1, hW1⟩ : ∃ W1 : World, W0.alloc (.cells #[.int .i64 0, .int .i64 width, .slice none 0 0] 60) = W1 := ⟨_, rfl⟩
  have g1 : W1.heap[W0.heap.size]? = some (.cells #[.int .i64 0, .int .i64 width, .slice none 0 0] 60 (0, 0)) := by rw [← hW1]; exact heap_alloc_new W0 _
  have hb1 : Below W0.heap.size W0 W1 := by rw [← hW1]; exact (Below.refl _ _).alloc (Nat.le_refl _) _
  have HW1 := hide hW1
  have HG2 := hide g1
  have HB1 := hide hb1
  clear hW1 g1 hb1
  go_upto_region 4 with (fail)
  rw [HW1.out]
  clear c0 c1 c2
  obtain ⟨c0, c1, c2, -, -, -⟩ := box3_all ((HB1.out.block _ (box_lt HG0.out)).trans HG0.out)
  go_wp2_with fail
  refine (HI.out W1).mono ?_
  rintro e w1 ⟨rfl, hb2⟩
  have HB2 := hide (bstep HB1.out hb2)
  have HO := hide ((hb2.block _ (box_lt HG2.out)).trans HG2.out)
  clear c0 c1 c2 hb2
  obtain ⟨c0, c1, c2, -, -, -⟩ := box3_all ((HB2.out.block _ (box_lt HG0.out)).trans HG0.out)
  go_upto_region 6 with (fail)
  rw [hz0'] at HO
  have HR1 := hide (HR.out.stay (stay_below HB0.out HP.out))
  clear c0 c1 c2 HG2 HW1 HW0 HB1 HI HR HG1
  go_loopw [6, 7, 30] (fun bq kv iv wr => RsRel wi.data.toList v0 chs W0 (w.heap.size + 2) 0 width bq kv iv wr) (fun _ _ iv _ => chs.length - (intOf iv).toNat)
  case atStart => exact ⟨0, none, 0, ⟨[], v0, 0⟩, Nat.zero_le _, rfl, rfl, rfl, rfl, HO.out, OwnCh.nil _ _, HB2.out⟩
  case round =>
    obtain ⟨V, rfl⟩ : ∃ w2 : World, w2 = wr := ⟨_, rfl⟩
    obtain ⟨j, A, c, st, hj, rfl, hst, rfl, rfl, hbx, hown, hb⟩ := hrel
    have HBX := hide hbx
    have HOWN := hide hown
    have HB := hide hb
    have HST := hide hst
    have hri := HRI.out j
    rw [hst] at hri
    have hol := hri.len
    have hkb := hri.kb 64 (fun d hd => HSZ.out d (List.mem_of_mem_take hd))
    rw [List.length_take] at hol hkb
    clear hri hbx hown hb hst
    by_cases hlt : j < chs.length
    · have hRr := HR1.out.stay (stay_below HB.out fun b hb => Nat.lt_of_lt_of_le (HP.out b hb) HB0.out.size)
      obtain ⟨bk, ok, rfl, hbk, hc⟩ := hRr.at_ hlt
      have HTK := hide (show rslF wi.data.toList v0 (chs.take (j + 1)) = resStep wi.data.toList st chs[j] by rw [List.take_succ_eq_append_getElem hlt, rslF_snoc, HST.out])
      have hsz := HSZ.out _ (List.getElem_mem hlt)
      generalize chs[j] = cg at *
      obtain ⟨ct, cv⟩ := cg
      dsimp only at hsz
      unfold cChg at hc
      have c0 := hc 0 (by omega)
      have c1 := hc 1 (by omega)
      simp only [List.getElem?_cons_zero, List.getElem?_cons_succ, Nat.add_zero] at c0 c1
      obtain ⟨V1, hV1⟩ : ∃ V1, V.alloc (.cells #[.int .i64 ct, .string cv] 97) = V1 := ⟨_, rfl⟩
      have hbv1 : Below V.heap.size V V1 := by rw [← hV1]; exact (Below.refl _ _).alloc (Nat.le_refl _) _
      have gv1 : V1.heap[V.heap.size]? = some (.cells #[.int .i64 ct, .string cv] 97 (0, 0)) := by rw [← hV1]; exact heap_alloc_new V _
      have HV1 := hide hV1
      obtain ⟨st_out, st_bef, st_k⟩ := st
      dsimp only at hol hkb HOWN HBX ⊢
      clear hc hRr hV1
      go_upto_region 8 with (fail)
      rw [HV1.out]
      clear HV1 c0 c1
      obtain ⟨n0, n1, -, -⟩ := box2 gv1
      obtain ⟨WB, C, hcv, hzB, hbB, hBits⟩ := conv_bits V1 cv
      have HBW := hide (bstep hbv1 hbB)
      have HBITS := hide hBits
      have HGV := hide ((hbB.block _ (box_lt gv1)).trans gv1)
      have hlv := box_lt gv1
      have hzb : V1.heap.size < WB.heap.size := by omega
      clear hzB hbB hBits hbv1 gv1
      go_upto_region 10 with (fail)
      obtain ⟨B, hB⟩ : ∃ B, V1.heap.size = B := ⟨_, rfl⟩
      rw [hB] at HBITS hzb hlv ⊢
      have hcl : cv.data.toList.length = cv.size := by simp
      have HCL := hide hcl
      clear hcv hB n0 n1 hcl
      go_loopw [7, 39] (fun kv iv wq => RbRel wi.data.toList cv.data.toList st_k B WB kv iv wq) (fun _ iv _ => cv.size - (intOf iv).toNat)
      case atStart => exact ⟨0, Nat.zero_le _, rfl, rfl, HBITS.out, But.refl _ _ _⟩
      case round =>
        obtain ⟨X, rfl⟩ : ∃ w2 : World, w2 = wr := ⟨_, rfl⟩
        obtain ⟨i, hi, rfl, rfl, hbits, hbut⟩ := hrel
        have HBT := hide hbits
        have HBU := hide hbut
        have hii : i ≤ cv.size := by have := HCL.out; omega
        have hkl := fillK_le (cv.data.toList.take i) st_k
        rw [List.length_take] at hkl
        clear hbits hbut
        by_cases hlti : i < cv.data.toList.length
        · have hat := fillT_at wi.data.toList cv.data.toList st_k hlti
          obtain ⟨q0, q1⟩ := HBT.out.cell hat
          have HSU := hide (fun u hu => fillT_succ wi.data.toList cv.data.toList st_k hlti u hu)
          have HKS := hide ((fill_step wi.data.toList cv.data.toList st_k hlti).2)
          have HTL := hide (fillT_len wi.data.toList cv.data.toList st_k i)
          have HAT := hide hat
          have hi2 : i < cv.size := by have := HCL.out; omega
          generalize cv.data.toList[i] = u at *
          generalize fillT wi.data.toList cv.data.toList st_k i = T at *
          clear hat hi
          rcases code_cases u with ⟨rfl, _, hk1⟩ | ⟨rfl, _, hk1⟩ | ⟨_, _, h0', h1', _, hk1⟩
          · have HK1 := hide hk1
            clear hk1
            unfold bv at q0
            go_wp2_with fail
            refine ⟨⟨i + 1, by have := HCL.out; omega, by go_num, by rw [HKS.out, if_pos HK1.out], ?_, HBU.out⟩, by simp [intOf]; omega⟩
            rw [HSU.out 48 (if_pos HK1.out), set_same HAT.out]
            exact HBT.out
          · have HK1 := hide hk1
            clear hk1
            unfold bv at q0
            go_wp2_with fail
            refine ⟨⟨i + 1, by have := HCL.out; omega, by go_num, by rw [HKS.out, if_pos HK1.out], ?_, HBU.out⟩, by simp [intOf]; omega⟩
            rw [HSU.out 49 (if_pos HK1.out), set_same HAT.out]
            exact HBT.out
          · have HK1 := hide (show ¬ knC u = true by rw [hk1]; decide)
            obtain ⟨q, Y, hq, hqe, hqv, hY, hsub⟩ := sub_at hw3 (fillK (cv.data.toList.take i) st_k)
            have HSB := hide hsub
            have HQ2 := hide (HBT.out.set (i := i) (by rw [HTL.out]; omega) (subC wi.data.toList (fillK (cv.data.toList.take i) st_k)))
            have hq2 : (q : Int) < (wi.size : Int) := by omega
            have hq0 : (0 : Int) ≤ (q : Int) := by omega
            have hbw : B ≠ B → False := fun h => h rfl
            clear hk1 hsub hbw
            unfold bv at q0
            generalize fillK (cv.data.toList.take i) st_k = kk at *
            go_wp2_with fail
            refine ⟨⟨i + 1, by have := HCL.out; omega, by go_num, by rw [HKS.out, if_neg HK1.out]; go_num, ?_, HBU.out.trans but_cell⟩, by simp [intOf]; omega⟩
            rw [HSU.out _ (if_neg HK1.out)]
            have hv : (Value.int .u8 (48 + (Y : Int) % 2)) = bv (subC wi.data.toList kk) := by
              have : (UInt8.ofNat (48 + Y % 2)).toNat = 48 + Y % 2 := by rw [UInt8.toNat_ofNat']; omega
              rw [HSB.out]
              show Value.int .u8 (48 + (Y : Int) % 2) = Value.int .u8 ((UInt8.ofNat (48 + Y % 2)).toNat : Int)
              rw [this]
              simp
            rw [hv]
            exact HQ2.out
        · have hie : i = cv.data.toList.length := by omega
          have hbits := HBT.out
          rw [hie, fillT_all] at hbits
          have hk2 : fillK (cv.data.toList.take i) st_k = fillK cv.data.toList st_k := by rw [hie, List.take_length]
          rw [hk2] at hkl ⊢
          have hconv := hbits.conv C
          rw [fillL_len, HCL.out] at hconv
          have HTK2 := hide (show rslF wi.data.toList v0 (chs.take (j + 1)) = if bs (fillL wi.data.toList cv.data.toList st_k) = st_bef then ⟨st_out, st_bef, fillK cv.data.toList st_k⟩ else ⟨st_out ++ [⟨ct, bs (fillL wi.data.toList cv.data.toList st_k)⟩], bs (fillL wi.data.toList cv.data.toList st_k), fillK cv.data.toList st_k⟩ from HTK.out)
          generalize hu : bs (fillL wi.data.toList cv.data.toList st_k) = u at *
          have HU := hide hu
          generalize fillK cv.data.toList st_k = k2 at *
          have hold : ∀ b, b < WB.heap.size → b ≠ B → X.heap[b]? = WB.heap[b]? := fun b h1 h2 => HBU.out.block b h1 (fun e => by injection e with e; exact h2 e)
          have hbX : Below V.heap.size V X := ⟨HBU.out.os.trans HBW.out.os, HBU.out.tape.trans HBW.out.tape, HBU.out.output.trans HBW.out.output, Nat.le_trans HBW.out.size HBU.out.size, fun b h => (hold b (by have := HBW.out.size; omega) (by omega)).trans (HBW.out.block b h)⟩
          have hbxX := (hbX.block _ (box_lt HBX.out)).trans HBX.out
          have hownX : OwnCh X (w.heap.size + 2 + 1) A c st_out := own_block HOWN.out fun g hg => hbX.block g (own_ob HOWN.out g hg).2
          have hgvX := (hold _ (by omega) (by omega)).trans HGV.out
          obtain ⟨n0, n1, -, -⟩ := box2 hgvX
          obtain ⟨o0, o1, o2, -, -, f2⟩ := box3_all hbxX
          have HBX2 := hide hbxX
          have HOWX := hide hownX
          have HBBX := hide (bstep HB.out hbX)
          have hlX := box_lt hbxX
          have hbits2 := hide hbits
          clear hie hbits hk2 hold hbX hbxX hownX hgvX hu HTK HBT HBU HBITS HBW HGV
          by_cases he : u = st_bef
          · have HTE := hide (show rslF wi.data.toList v0 (chs.take (j + 1)) = ⟨st_out, st_bef, k2⟩ by rw [HTK2.out, if_pos he])
            have tv : (u.toList == st_bef.toList) = true := by rw [he]; simp
            clear HTK2 he
            go_wp2_with fail
            exact ⟨⟨j + 1, A, c, ⟨st_out, st_bef, k2⟩, hlt, by go_num, HTE.out, rfl, rfl, HBX2.out, HOWX.out, HBBX.out⟩, by simp [intOf]; omega⟩
          · have HTE := hide (show rslF wi.data.toList v0 (chs.take (j + 1)) = ⟨st_out ++ [⟨ct, u⟩], u, k2⟩ by rw [HTK2.out, if_neg he])
            have tv : (u.toList == st_bef.toList) = false := beq_eq_false_iff_ne.2 (fun e => he (by rw [ByteArray.toList_eq, ByteArray.toList_eq] at e; exact ByteArray.ext (Array.toList_inj.1 e)))
            have HOA := hide (World.ownsRow.alloc HOWX.out (.cells #[.int .i64 ct, .string u] 97))
            have HNW := hide (heap_alloc_new X (.cells #[.int .i64 ct, .string u] 97))
            have hws := (bstep HB0.out HBBX.out).size
            have hlB := HBX2.out
            have hBX : B < X.heap.size := by obtain ⟨cs, n, h9, _⟩ := hbits2.out; exact box_lt h9
            have hlen2 : (st_out ++ [(⟨ct, u⟩ : Chg)]).length = st_out.length + 1 := by simp
            have HLN := hide hlen2
            have HBC := hide (show ∀ (w6 : World) (A6 : Option Addr) (c6 : Nat), (X.alloc (.cells #[.int .i64 ct, .string u] 97)).grownBy w6 (ob A) → OwnCh w6 (w.heap.size + 2 + 1) A6 c6 (st_out ++ [⟨ct, u⟩]) →
                (w6.heap[w.heap.size + 2]? = some (.cells #[.int .i64 0, .int .i64 width, .slice A st_out.length c] 60 (0, 0))) ∧
                (convert 108 9 (.slice (some ⟨B, 0, none⟩) cv.size C)).run Tryz.prog (w6.setCell ⟨w.heap.size + 2, 2, none⟩ (.slice A6 (st_out.length + 1) c6)) = .ok (.string u) (w6.setCell ⟨w.heap.size + 2, 2, none⟩ (.slice A6 (st_out.length + 1) c6)) ∧
                OwnCh (w6.setCell ⟨w.heap.size + 2, 2, none⟩ (.slice A6 (st_out.length + 1) c6)) (w.heap.size + 2 + 1) A6 c6 (st_out ++ [⟨ct, u⟩]) ∧
                Below W0.heap.size W0 (w6.setCell ⟨w.heap.size + 2, 2, none⟩ (.slice A6 (st_out.length + 1) c6)) from fun w6 A6 c6 hg ho => by
              have old : ∀ b, b < X.heap.size → ob A ≠ some b → w6.heap[b]? = X.heap[b]? := fun b h1 h2 => by
                rw [hg.block b (by simp; omega) (fun e => h2 e.symm), Below.heap_alloc _ _ _ h1]
              have hnb : ob A ≠ some B := fun e => by
                obtain ⟨cs, h3⟩ := own_cellsT HOWX.out e
                obtain ⟨cs', n, h4, _⟩ := hbits2.out
                rw [h3] at h4
                injection h4 with h4
                injection h4 with _ h4
                exact absurd h4 (by decide)
              have hbo : B ≠ w.heap.size + 2 := fun e => by
                obtain ⟨cs', n, h4, _⟩ := hbits2.out
                rw [e, HBX2.out] at h4
                injection h4 with h4
                injection h4 with _ h4
                exact absurd h4 (by decide)
              refine ⟨(old _ hlX (own_ne_type HOWX.out rfl HBX2.out (by decide))).trans HBX2.out, ?_, own_block ho fun g hg => set_cell_other (by have := (own_ob ho g hg).1; omega), ?_⟩
              · have h9 := (hbits2.out.keep (w' := w6.setCell ⟨w.heap.size + 2, 2, none⟩ (.slice A6 (st_out.length + 1) c6)) ((set_cell_other hbo).trans (old B hBX hnb))).conv C
                rw [fillL_len, HCL.out, HU.out] at h9
                exact h9
              · exact (((HBBX.out.alloc HBBX.out.size _).grown hg (by simp; have := HBBX.out.size; omega) (fun g hg => by have := (own_ob HOWX.out g hg).1; omega)).setCell (p := ⟨w.heap.size + 2, 2, none⟩) (by simp only; omega) _))
            clear HTK2 he hlen2 hlB
            go_wp2_with (at_builtin; (refine append_src rfl _ _ 58 rfl (w.heap.size + 2 + 1) 97 i0 _ 2 24 Tryz.underlying58 hi0 hz0 hz1 hz2 rfl (by decide) (.slice A st_out.length c) st_out.length (st_out.flatMap cChg) rfl HOA.out (some ⟨X.heap.size, 0, none⟩) 1 1 (cChg ⟨ct, u⟩) rfl rfl (src_block (t := 97) (fr := (0, 0)) HNW.out) (ch_one _) (by simp only [maxLen]; omega) (by omega) (by simp; omega) ?_); intro v' w6 hown6 hg6; obtain ⟨A6, c6, rfl, ho6⟩ := OwnCh.of_row (l := st_out ++ [⟨ct, u⟩]) hown6 HLN.out.symm (by rw [List.flatMap_append]; rfl); rw [ob_eq] at hg6; obtain ⟨h61, h62, h63, h64⟩ := HBC.out w6 A6 c6 hg6 ho6; rw [HLN.out]; obtain ⟨-, -, s2, -, -, s5⟩ := box3_all h61; have H61 := hide h61; have H63 := hide h63; have H64 := hide h64; clear h61 h63 h64 hown6 hg6 ho6 hconv)
            refine ⟨⟨j + 1, A6, c6, ⟨st_out ++ [⟨ct, u⟩], u, k2⟩, hlt, by go_num, HTE.out, rfl, rfl, ?_, H63.out, H64.out⟩, by simp [intOf]; omega⟩
            dsimp only
            rw [HLN.out]
            exact box3_set2 H61.out
    · have hje : j = chs.length := by omega
      have hst2 : rslF wi.data.toList v0 chs = st := by have := HST.out; rwa [hje, List.take_length] at this
      have hret := HE.out A c
      rw [hst2] at hret
      have hretx := fun w' h1 h2 => hret w' h1 h2
      have HRET := hide hretx
      have HOW2 := hide (show OwnCh V (w.heap.size + 2) A c st.out from Joins.ownsRow_le HOWN.out (by omega))
      have hbV := bstep HB0.out HB.out
      have hgr := (HB.out.block _ hl1).trans HG1'.out
      obtain ⟨o0, o1, o2, -, -, -⟩ := box3_all HBX.out
      obtain ⟨d0, d1, d2, f0, f1, f2⟩ := box3_all hgr
      obtain ⟨W9, hW9⟩ : ∃ W9 : World, ((V.setCell ⟨w.heap.size + 1, 0, none⟩ (.int .i64 0)).setCell ⟨w.heap.size + 1, 1, none⟩ (.int .i64 width)).setCell ⟨w.heap.size + 1, 2, none⟩ (.slice A st.out.length c) = W9 := ⟨_, rfl⟩
      have hb9 : Below w.heap.size w W9 := by
        rw [← hW9]
        exact ((hbV.setCell (p := ⟨w.heap.size + 1, 0, none⟩) (by simp) _).setCell (p := ⟨w.heap.size + 1, 1, none⟩) (by simp) _).setCell (p := ⟨w.heap.size + 1, 2, none⟩) (by simp) _
      have hg9 := box3_set (a' := .int .i64 0) (b' := .int .i64 width) (c' := .slice A st.out.length c) hgr
      rw [hW9] at hg9
      have ho9 : OwnCh W9 (w.heap.size + 2) A c st.out := own_block HOW2.out fun g hg => by
        have := (own_ob HOW2.out g hg).1
        rw [← hW9, set_cell_other (by omega), set_cell_other (by omega), set_cell_other (by omega)]
      have HFIN := hide (HRET.out W9 ho9 hb9)
      have HW9 := hide hW9
      have HG9 := hide hg9
      clear hje hst2 hret hretx hbV hgr hW9 hb9 hg9 ho9 HRET
      go_wp2_with fail
      rw [HW9.out]
      obtain ⟨r0, r1, r2, -, -, -⟩ := box3_all HG9.out
      exact bodyPost_ret (v := .agg #[.int .i64 0, .int .i64 width, .slice A st.out.length c]) (by simp [results, Tryz.results24, go_sem, r0, r1, r2]) rfl HFIN.out

theorem resolve_any (s : Sgn) (wi : ByteArray) (fin : Int) (P : Nat → Prop) (w : World) (hs : SgOk fin s) (hP : ∀ b, P b → b < w.heap.size) (hr : Row w P 2 cChg s.CA s.chs) (hwl : wi.size ≤ 100) :
    Calls Tryz.prog 24 #[.agg (cSgn s).toArray, .string wi] w (ResPost wi.data.toList s P w) := by
  by_cases hk : s.kind = 0
  · by_cases hne : wi = ⟨#[]⟩
    · exact resolve_same s wi P w hP hr (.inr (by rw [hne]))
    · exact resolve_new s wi fin P w hs hP hr hk hne hwl
  · exact resolve_same s wi P w hP hr (.inl hk)

end Go.Proofs.YtdlebcijgdkfjaaGreatDoor

/-
  The law ConditionMonotone, plain: a wave whose signals are resolved keeps all known results.
-/
namespace Go.Proofs.YtdlebcijgdkfjaaGreatDoor
open Go.RowKit

structure WaveOf (ws : List UInt8) (v v' : Wv) : Prop where
  len : v'.sigs.length = v.sigs.length
  each : ∀ (i : Nat) (s s' : Sgn), v.sigs[i]? = some s → v'.sigs[i]? = some s' → ResOf ws s s'
  fin : v'.fin = v.fin
theorem WaveOf.small {ws : List UInt8} {v v' : Wv} (h : WaveOf ws v v') (hv : SmallOk v) : SmallOk v' := by
  refine ⟨by rw [h.len]; exact hv.len, by rw [h.fin]; exact hv.fin, fun s' hs => ?_⟩
  obtain ⟨i, hi⟩ := List.getElem?_of_mem hs
  have hl : i < v.sigs.length := by rw [← h.len]; exact (List.getElem?_eq_some_iff.1 hi).1
  rw [h.fin]
  exact res_ok (h.each i _ s' (List.getElem?_eq_getElem hl) hi) (hv.each _ (List.getElem_mem hl))
theorem WaveOf.sgn {ws : List UInt8} {v v' : Wv} (h : WaveOf ws v v') {x : Int} (h0 : 0 ≤ x) (h1 : x < v.sigs.length) : ResOf ws (sgnAt v x) (sgnAt v' x) :=
  h.each _ _ _ (sgn_mem h0 h1).1 (sgn_mem (v := v') h0 (by rw [h.len]; exact h1)).1
theorem WaveOf.sigE {ws : List UInt8} {v v' : Wv} (h : WaveOf ws v v') {n : Nd} {x : Int} (hx : sigE v n x = 0) : sigE v' n x = 0 := by
  obtain ⟨h0, h1, h2⟩ := sigE_zero hx
  have hr := h.sgn h0 h1
  unfold Go.Proofs.YtdlebcijgdkfjaaGreatDoor.sigE
  rw [h.len, if_neg (by omega), hr.kind, hr.width, if_pos h2]
theorem WaveOf.good {ws : List UInt8} {v v' : Wv} (h : WaveOf ws v v') {n : Nd} {f t : Int} (hg : GoodT v n f t) : GoodT v' n f t := by
  obtain ⟨h1, h2, h3⟩ := hg
  exact ⟨⟨h1.1, h1.2.1, by rw [h.fin]; exact h1.2.2⟩, h2, fun x hx => h.sigE (h3 x hx)⟩
theorem WaveOf.know {ws : List UInt8} {v v' : Wv} (h : WaveOf ws v v') (hv : SmallOk v) (t : Int) (n : Nd) : (∀ x ∈ sigF n, 0 ≤ x ∧ x < v.sigs.length ∧ agrF x (sgnAt v x).kind (sgnAt v x).width n = true) → Know (envW v t) (envW v' t) n := by
  induction n using Nd.ind with
  | h n ih =>
  intro hs
  refine (Know_eq _ _ n).2 ⟨fun k1 => ?_, fun k hk => ih k hk fun x hx => ?_⟩
  · have hin : n.a ∈ sigF n := by rw [sigF_eq]; unfold sigB; simp [k1]
    obtain ⟨h0, h1, h2⟩ := hs _ hin
    obtain ⟨h3, h4⟩ := agr_here h2 k1
    obtain ⟨q1, q2⟩ := res_know (h.sgn h0 h1) (hv.each _ (sgn_mem h0 h1).2) t
    exact ⟨q1, fun hc => q2 (by omega)⟩
  · obtain ⟨h0, h1, h2⟩ := hs x (sig_kid hk hx)
    exact ⟨h0, h1, agr_kid h2 hk⟩
theorem mono_sets {ws : List UInt8} {v v' : Wv} (h : WaveOf ws v v') (hv : SmallOk v) {n : Nd} {f t : Int} (hg : GoodT v n f t) (hx : exactF n = true) {xs ys xs' ys' : List Iv} (h1 : SetsT v n f t xs ys) (h2 : SetsT v' n f t xs' ys') :
    (∀ x, Mem xs x → Mem xs' x) ∧ ∀ x, Mem ys x → Mem ys' x := by
  have hk := fun x => tru_mono n hg.2.1 hx (h.know hv x n fun y hy => sigE_zero (hg.2.2 y hy))
  refine ⟨fun x hm => ?_, fun x hm => ?_⟩
  · obtain ⟨a, b, c⟩ := (h1.mx x).1 hm
    exact (h2.mx x).2 ⟨a, b, (hk x).1 c⟩
  · obtain ⟨a, b, c⟩ := (h1.my x).1 hm
    exact (h2.my x).2 ⟨a, b, (hk x).2 c⟩

end Go.Proofs.YtdlebcijgdkfjaaGreatDoor

/-
  wavestorelaw51.exact: a tree without ===, !== and known.
-/
namespace Go.Proofs.YtdlebcijgdkfjaaGreatDoor
open Go.RowKit

def ExcRel (l : List Nd) (w : World) (i : Value) (wr : World) : Prop := ∃ j : Nat, j ≤ l.length ∧ i = .int .i64 (j : Int) ∧ (l.take j).all exactF = true ∧ Below w.heap.size w wr
theorem exactF_mk (kind at_ : Int) (name value : ByteArray) (a b c d : Int) (KA : Option Addr) (kc : Nat) (kids : List Nd) : exactF (.mk kind at_ name value a b c d KA kc kids) = ((kids.all exactF) && (decide (kind ≠ 21) && decide (kind ≠ 22) && decide (kind ≠ 27))) := exactF_eq _

set_option maxRecDepth 100000 in
set_option maxHeartbeats 4000000 in
theorem exact_any (n : Nd) : ∀ w : World, TreesAt w (Lo w.heap.size) n.KA n.kids → Calls Tryz.prog 23 #[.agg (cNd n).toArray] w (RetV (.bool (exactF n)) w) := by
  induction n using Nd.ind with
  | h n ih =>
  intro w ht
  have IH := hide ih
  clear ih
  obtain ⟨kind, at_, name, value, a, b, c, d, KA, kc, kids⟩ := n
  unfold Nd.KA Nd.kids at ht
  unfold cNd
  have hl := ht.len
  obtain ⟨W0, hW0⟩ : ∃ W0, w.alloc (.cells #[.int .i64 kind, .int .i64 at_, .string name, .string value, .int .i64 a, .int .i64 b, .int .i64 c, .int .i64 d, .slice KA kids.length kc] 32) = W0 := ⟨_, rfl⟩
  have g0 := new_at hW0
  have hb0 : Below w.heap.size w W0 := by rw [← hW0]; exact (Below.refl _ _).alloc (Nat.le_refl _) _
  have HT := hide (ht.grow hb0)
  have HG0 := hide g0
  have HB0 := hide hb0
  have HW0 := hide hW0
  obtain ⟨y0, y1, y2, y3, y4, y5, y6, y7, y8⟩ := box9 g0
  clear ht g0 hb0 hW0
  have HQ := hide (show ∀ (o : Bool) (wr : World), exactF (.mk kind at_ name value a b c d KA kc kids) = o → Below W0.heap.size W0 wr → RetV (.bool (exactF (.mk kind at_ name value a b c d KA kc kids))) w (.returned (.bool o)) wr from fun o wr h hb => ⟨by rw [h], bstep HB0.out hb⟩)
  have HEQ := hide (exactF_mk kind at_ name value a b c d KA kc kids)
  go_enter Tryz.func23, Tryz.ntmps23
  go_upto_region 1 with (fail)
  rw [HW0.out]
  go_upto_region 2 with (fail)
  go_loopw [8] (fun i wr => ExcRel kids W0 i wr) (fun i _ => kids.length - (intOf i).toNat)
  case atStart => exact ⟨0, Nat.zero_le _, rfl, rfl, Below.refl _ _⟩
  case round =>
    obtain ⟨j, hj, rfl, hall, hbr⟩ := hrel
    have HBR := hide hbr
    have HALL := hide hall
    clear hbr hall y0 y1 y2 y3 y4 y5 y6 y7 y8
    obtain ⟨y0, y1, y2, y3, y4, y5, y6, y7, y8⟩ := box9 ((HBR.out.block _ (box_lt HG0.out)).trans HG0.out)
    by_cases hlt : j < kids.length
    · have hT := HT.out.grow HBR.out
      obtain ⟨bk, ok, rfl, hbk, hc⟩ := hT.row.at_ hlt
      have hmem := List.getElem_mem hlt
      have hkid := hT.each _ hmem
      have HTK := hide (show kids.take (j + 1) = kids.take j ++ [kids[j]] from List.take_succ_eq_append_getElem hlt)
      generalize kids[j] = qn at *
      obtain ⟨W1, hW1⟩ : ∃ W1, wr.alloc (.cells (cNd qn).toArray 32) = W1 := ⟨_, rfl⟩
      have g1 := new_at hW1
      have hb1 : Below wr.heap.size wr W1 := by rw [← hW1]; exact (Below.refl _ _).alloc (Nat.le_refl _) _
      have hcall := IH.out qn hmem W1 (hkid.grow hb1)
      have HAL := hide (show ∀ z, exactF qn = z → (kids.take (j + 1)).all exactF = z ∧ (z = false → kids.all exactF = false) from fun z hz => by
        rw [HTK.out, List.all_append, HALL.out]
        refine ⟨by simp [hz], fun h => ?_⟩
        rw [h] at hz
        exact Bool.eq_false_iff.2 fun h2 => by rw [List.all_eq_true.1 h2 qn hmem] at hz; cases hz)
      generalize exactF qn = v at *
      obtain ⟨m1, m2, m3, m4, m5, m6, m7, m8, mK, mc, ml⟩ := qn
      unfold cNd at hc hcall hW1 g1
      obtain ⟨c0, c1, c2', c3, c4, c5, c6, c7, c8⟩ := nine hc
      have HC := hide hcall
      have HB1 := hide (bstep HBR.out hb1)
      have HW1 := hide hW1
      clear hc hkid hcall hW1 hb1 hmem hT y0 y1 y2 y3 y4 y5 y6 y7 y8
      go_upto_region 4 with (fail)
      rw [HW1.out]
      clear HW1 c0 c1 c2' c3 c4 c5 c6 c7 c8
      obtain ⟨x0, x1, x2, x3, x4, x5, x6, x7, x8⟩ := box9 g1
      clear g1
      go_wp2_with fail
      refine HC.out.mono ?_
      rintro e w2 ⟨rfl, hb2⟩
      have HB2 := hide (bstep HB1.out hb2)
      clear hb2 x0 x1 x2 x3 x4 x5 x6 x7 x8
      cases v with
      | true =>
        go_wp2_with fail
        exact ⟨⟨j + 1, hlt, by go_num, (HAL.out _ rfl).1, HB2.out⟩, by simp [intOf]; omega⟩
      | false =>
        have HR := hide (HQ.out false w2 (by rw [HEQ.out, (HAL.out _ rfl).2 rfl]; rfl) HB2.out)
        clear HQ HEQ
        go_wp2_with fail
        go_ret
        exact HR.out
    · have hke : j = kids.length := by omega
      subst hke
      rw [List.take_length] at HALL
      rw [HALL.out, Bool.true_and] at HEQ
      have HR := hide (fun o h => HQ.out o wr (HEQ.out.trans h) HBR.out)
      clear HQ HEQ
      by_cases k21 : kind = 21
      · subst k21
        go_wp2_with fail
        go_ret
        exact HR.out _ rfl
      by_cases k22 : kind = 22
      · subst k22
        go_wp2_with fail
        go_ret
        exact HR.out _ rfl
      by_cases k27 : kind = 27
      · subst k27
        go_wp2_with fail
        go_ret
        exact HR.out _ rfl
      have T1 : (kind != 21) = true := bne_iff_ne.2 k21
      have T2 : (kind != 22) = true := bne_iff_ne.2 k22
      have T3 : (kind != 27) = true := bne_iff_ne.2 k27
      have HD := hide (show (decide (kind ≠ 21) && decide (kind ≠ 22) && decide (kind ≠ 27)) = true by rw [decide_eq_true k21, decide_eq_true k22, decide_eq_true k27]; rfl)
      clear k21 k22 k27
      go_wp2_with fail
      go_ret
      exact HR.out _ HD.out

end Go.Proofs.YtdlebcijgdkfjaaGreatDoor
