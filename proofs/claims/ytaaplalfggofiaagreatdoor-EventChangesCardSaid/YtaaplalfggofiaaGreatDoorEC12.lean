/-
  Several texts in one: Src2, Add47, Meth47. Each says at its head what it holds.
-/
import Derived.Test.YtaaplalfggofiaaGreatDoorEC11
import Derived.Test.YtaaplalfggofiaaGreatDoorEC10

/-
  The source of wavestorelaw47: Value, Next, New.
-/
namespace Go.Proofs.YtaaplalfggofiaaGreatDoor
open Go.RowKit

set_option maxRecDepth 100000 in
theorem kind_err (M : Nat) (v : Wv) (L c x : Int) (w : World) (h : SourceAt w M v L c) (h0 : 0 ≤ c) (h1 : c ≤ 1000000) (q : Int) (hq : callC L c x v.sigs.length = q) (hne : q ≠ 0) :
    Calls Tryz.prog 407 #[.pointer (some ⟨M, 0, none⟩), .int .i64 x] w fun e w' => e = .returned (.tuple #[.int .i64 0, .int .i64 0, .int .i64 q]) ∧ SrcTo w M v L (c + 1) w' := by
  have := kind_any M v L c x w h h0 h1
  unfold kindV at this
  rw [if_neg (by rw [hq]; exact hne), hq] at this
  exact this
theorem kind_ok (M : Nat) (v : Wv) (L c : Int) (k : Nat) (w : World) (h : SourceAt w M v L c) (h0 : 0 ≤ c) (h1 : c ≤ 1000000) (hq : callC L c k v.sigs.length = 0) (s : Sgn) (hs : v.sigs[k]? = some s) :
    Calls Tryz.prog 407 #[.pointer (some ⟨M, 0, none⟩), .int .i64 (k : Int)] w fun e w' => e = .returned (.tuple #[.int .i64 s.kind, .int .i64 s.width, .int .i64 0]) ∧ SrcTo w M v L (c + 1) w' := by
  have := kind_any M v L c k w h h0 h1
  unfold kindV at this
  rw [if_pos hq, Int.toNat_natCast, hs] at this
  exact this

set_option maxRecDepth 100000 in
set_option maxHeartbeats 1000000 in
theorem value_err (M : Nat) (v : Wv) (L c x t : Int) (w : World) (h : SourceAt w M v L c) (h0 : 0 ≤ c) (h1 : c ≤ 1000000) (q : Int) (hq : callC L c x v.sigs.length = q) (hne : q ≠ 0) :
    Calls Tryz.prog 409 #[.pointer (some ⟨M, 0, none⟩), .int .i64 x, .int .i64 t] w fun e w' => e = .returned (.tuple #[.string ⟨#[]⟩, .int .i64 q]) ∧ SrcTo w M v L (c + 1) w' := by
  have HCA := hide (by have hc := call_any M v L c x w h h0 h1; rw [hq] at hc; exact hc)
  have t1 : (q != 0) = true := bne_iff_ne.2 hne
  clear h hq hne
  go_enter Tryz.func409, Tryz.ntmps409
  go_wp2_with fail
  refine HCA.out.mono ?_
  rintro e w1 ⟨rfl, hs⟩
  go_wp2_with fail
  go_ret2
  exact ⟨rfl, hs⟩
set_option maxRecDepth 100000 in
set_option maxHeartbeats 1000000 in
theorem value_ok (M : Nat) (v : Wv) (L c t : Int) (k : Nat) (w : World) (h : SourceAt w M v L c) (h0 : 0 ≤ c) (h1 : c ≤ 1000000) (hq : callC L c k v.sigs.length = 0) (s : Sgn) (hs : v.sigs[k]? = some s)
    (ht0 : 0 ≤ t) (ht1 : t ≤ v.fin) (hw : s.kind = 0 → s.width ≤ 1000) (hl : s.chs.length ≤ 1000) :
    Calls Tryz.prog 409 #[.pointer (some ⟨M, 0, none⟩), .int .i64 (k : Int), .int .i64 t] w fun e w' => e = .returned (.tuple #[.string (valS s t), .int .i64 0]) ∧ SrcTo w M v L (c + 1) w' := by
  have HCA := hide (by have hc := call_any M v L c k w h h0 h1; rw [hq] at hc; exact hc)
  have hk : k < v.sigs.length := (List.getElem?_eq_some_iff.1 hs).1
  have hsk : v.sigs[k] = s := (List.getElem?_eq_some_iff.1 hs).2
  have HSK := hide hsk
  clear h hq hs hsk
  go_enter Tryz.func409, Tryz.ntmps409
  go_wp2_with fail
  refine HCA.out.mono ?_
  rintro e w1 ⟨rfl, hs⟩
  obtain ⟨a0, a1, a2, a3, a4, a5⟩ := hs.1.cells
  obtain ⟨b, off, hA, hb, hc⟩ := hs.1.sig.row.at_ hk
  have hrow := (hs.1.sig.each _ (List.getElem_mem hk)).more (P' := Lo w1.heap.size) (fun b hb => Nat.lt_trans hb hs.1.lt)
  rw [HSK.out] at hc hrow
  have HRV := hide (rvalue_any s t w1 hw hl hrow)
  have HS := hide hs
  rw [hA] at a0
  have c0 := hc 0 (by omega)
  have c1 := hc 1 (by omega)
  have c2 := hc 2 (by omega)
  simp only [cSgn, List.getElem?_cons_zero, List.getElem?_cons_succ, Nat.add_zero] at c0 c1 c2
  have HA := hide hA
  clear hs hc hA hrow hw
  go_wp2_with fail
  refine HRV.out.mono ?_
  rintro e w2 ⟨rfl, b2⟩
  go_wp2_with fail
  go_ret2
  exact ⟨rfl, HS.out.below b2⟩

/-- the first change behind a time -/
def nextC (t : Int) (cs : List Chg) : Option Chg := cs.find? fun c => decide (t < c.time)
def nextV (t : Int) (cs : List Chg) : Value := match nextC t cs with
  | some c => .tuple #[.agg #[.int .i64 c.time, .string c.val], .int .i64 0]
  | none => .tuple #[.agg #[.int .i64 0, .string ⟨#[]⟩], .int .i64 6]
theorem nextC_hit {t : Int} {cs : List Chg} {j : Nat} (hj : j < cs.length) (hno : ∀ c ∈ cs.take j, c.time ≤ t) (h : t < cs[j].time) : nextC t cs = some cs[j] := by
  unfold nextC
  rw [List.find?_eq_some_iff_getElem]
  refine ⟨decide_eq_true h, j, hj, rfl, fun i hi => ?_⟩
  have := hno (cs[i]'(by omega)) (by rw [List.mem_take_iff_getElem]; exact ⟨i, by omega, rfl⟩)
  simpa using this
theorem nextC_none {t : Int} {cs : List Chg} (hno : ∀ c ∈ cs, c.time ≤ t) : nextC t cs = none := by
  unfold nextC
  rw [List.find?_eq_none]
  intro c hc
  simpa using hno c hc
/-- a change in a box -/
def chO (a : Int) (b : ByteArray) : Obj := .cells #[.int .i64 a, .string b] 131 (0, 0)
theorem chO_set {W W9 : World} {N : Nat} {a a' : Int} {b b' : ByteArray} (h : W.heap[N]? = some (chO a b)) (hW : (W.setCell ⟨N, 0, none⟩ (.int .i64 a')).setCell ⟨N, 1, none⟩ (.string b') = W9) : W9.heap[N]? = some (chO a' b') ∧ ∀ B, B ≤ N → Below B W W9 := by
  subst hW
  unfold chO at h ⊢
  refine ⟨by simp [World.setCell, Array.getElem?_modify, h], fun B hB => ((Below.refl _ _).setCell (p := ⟨N, 0, none⟩) hB _).setCell (p := ⟨N, 1, none⟩) hB _⟩
theorem SrcTo.set {w w' w'' : World} {M N : Nat} {v : Wv} {L c : Int} (h : SrcTo w M v L c w') (hN : w.heap.size ≤ N) (hM : M < w.heap.size) (hb : Below N w' w'') : SrcTo w M v L c w'' :=
  ⟨h.1.keep fun b hl => hb.block b (by omega), h.2.trans ((But.of hb).mono hN)⟩
def NxRel (t : Int) (cs : List Chg) (M : Nat) (v : Wv) (L c : Int) (w : World) (i : Value) (wr : World) : Prop := ∃ j : Nat, j ≤ cs.length ∧ i = .int .i64 (j : Int) ∧ (∀ c ∈ cs.take j, c.time ≤ t) ∧ SrcTo w M v L c wr ∧ wr.heap[w.heap.size]? = some (chO 0 ⟨#[]⟩)
theorem take_more {t : Int} {cs : List Chg} {j : Nat} (hj : j < cs.length) (hno : ∀ c ∈ cs.take j, c.time ≤ t) (h : cs[j].time ≤ t) : ∀ c ∈ cs.take (j + 1), c.time ≤ t := by
  rw [List.take_succ_eq_append_getElem hj]
  intro c hc
  rcases List.mem_append.1 hc with hc | hc
  · exact hno c hc
  · rw [List.mem_singleton.1 hc]; exact h

set_option maxRecDepth 100000 in
set_option maxHeartbeats 1000000 in
theorem next_err (M : Nat) (v : Wv) (L c x t : Int) (w : World) (h : SourceAt w M v L c) (h0 : 0 ≤ c) (h1 : c ≤ 1000000) (q : Int) (hq : callC L c x v.sigs.length = q) (hne : q ≠ 0) :
    Calls Tryz.prog 408 #[.pointer (some ⟨M, 0, none⟩), .int .i64 x, .int .i64 t] w fun e w' => e = .returned (.tuple #[.agg #[.int .i64 0, .string ⟨#[]⟩], .int .i64 q]) ∧ SrcTo w M v L (c + 1) w' := by
  have hlt := h.lt
  have HCA := hide (fun W (hb : Below w.heap.size w W) => by have hc := call_any M v L c x W (h.below hb) h0 h1; rw [hq] at hc; exact hc)
  have t1 : (q != 0) = true := bne_iff_ne.2 hne
  clear h hq hne
  go_enter Tryz.func408, Tryz.ntmps408
  go_wp2_with fail
  have hb0 : Below w.heap.size w (w.alloc (.cells #[.int .i64 0, .string ⟨#[]⟩] 131)) := (Below.refl _ _).alloc (Nat.le_refl _) _
  have hg0 := heap_alloc_new w (.cells #[.int .i64 0, .string ⟨#[]⟩] 131)
  refine (HCA.out _ hb0).mono ?_
  rintro e w1 ⟨rfl, hs⟩
  have hg1 : w1.heap[w.heap.size]? = some (.cells #[.int .i64 0, .string ⟨#[]⟩] 131 (0, 0)) := (hs.2.block w.heap.size (by simp) (fun e => by injection e with e; omega)).trans hg0
  obtain ⟨z0, z1, y0, y1⟩ := box2 hg1
  have HG := hide hg1
  have HS := hide hs
  clear hs hg0 hg1 hb0
  go_wp2_with fail
  generalize hW9 : World.setCell _ _ _ = W9
  obtain ⟨q1, q2⟩ := chO_set HG.out hW9
  obtain ⟨x0, x1, _, _⟩ := box2 q1
  have hto : SrcTo w M v L (c + 1) w1 := ⟨HS.out.1, (But.of ((Below.refl _ _).alloc (Nat.le_refl _) _)).trans (HS.out.2.mono (by simp))⟩
  exact bodyPost_ret (v := .tuple #[.agg #[.int .i64 0, .string ⟨#[]⟩], .int .i64 q]) (by simp [results, Tryz.results408, go_sem, x0, x1]) rfl ⟨rfl, hto.set (Nat.le_refl _) hlt (q2 _ (Nat.le_refl _))⟩

set_option maxRecDepth 100000 in
set_option maxHeartbeats 1000000 in
theorem next_ok (M : Nat) (v : Wv) (L c t : Int) (k : Nat) (w : World) (h : SourceAt w M v L c) (h0 : 0 ≤ c) (h1 : c ≤ 1000000) (hq : callC L c k v.sigs.length = 0) (s : Sgn) (hs : v.sigs[k]? = some s)
    (ht0 : -1 ≤ t) (ht1 : t ≤ v.fin) (hl : s.chs.length ≤ 1000) :
    Calls Tryz.prog 408 #[.pointer (some ⟨M, 0, none⟩), .int .i64 (k : Int), .int .i64 t] w fun e w' => e = .returned (nextV t s.chs) ∧ SrcTo w M v L (c + 1) w' := by
  have hlt := h.lt
  have HCA := hide (fun W (hb : Below w.heap.size w W) => by have hc := call_any M v L c k W (h.below hb) h0 h1; rw [hq] at hc; exact hc)
  have hk : k < v.sigs.length := (List.getElem?_eq_some_iff.1 hs).1
  have hsk : v.sigs[k] = s := (List.getElem?_eq_some_iff.1 hs).2
  have HSK := hide hsk
  clear h hq hs hsk
  go_enter Tryz.func408, Tryz.ntmps408
  go_wp2_with fail
  have hb0 : Below w.heap.size w (w.alloc (.cells #[.int .i64 0, .string ⟨#[]⟩] 131)) := (Below.refl _ _).alloc (Nat.le_refl _) _
  have hg0 := heap_alloc_new w (.cells #[.int .i64 0, .string ⟨#[]⟩] 131)
  refine (HCA.out _ hb0).mono ?_
  rintro e w1 ⟨rfl, hs⟩
  have hg1 : w1.heap[w.heap.size]? = some (chO 0 ⟨#[]⟩) := (hs.2.block w.heap.size (by simp) (fun e => by injection e with e; omega)).trans hg0
  have HG := hide hg1
  have HS := hide (show SrcTo w M v L (c + 1) w1 from ⟨hs.1, (But.of ((Below.refl _ _).alloc (Nat.le_refl _) _)).trans (hs.2.mono (by simp))⟩)
  obtain ⟨a0, a1, a2, a3, a4, a5⟩ := hs.1.cells
  obtain ⟨b, off, hA, hb, hc⟩ := hs.1.sig.row.at_ hk
  rw [HSK.out] at hc
  rw [hA] at a0
  have c0 := hc 0 (by omega)
  have c1 := hc 1 (by omega)
  have c2 := hc 2 (by omega)
  simp only [cSgn, List.getElem?_cons_zero, List.getElem?_cons_succ, Nat.add_zero] at c0 c1 c2
  have HA := hide hA
  clear hs hc hA hg0 hg1 hb0 hb
  go_wp2_with fail
  go_loopw [40] (fun i wr => NxRel t s.chs M v L (c + 1) w i wr) (fun i _ => s.chs.length - (intOf i).toNat)
  case atStart => exact ⟨0, Nat.zero_le _, rfl, by simp, HS.out, HG.out⟩
  case round =>
    obtain ⟨j, hj, rfl, hno, hto, hg⟩ := hrel
    have HNO := hide hno
    have HTO := hide hto
    have HGR := hide hg
    clear hno hto hg a0 a1 a2 a3 a4 a5 c0 c1 c2
    by_cases hjl : j < s.chs.length
    · have hrow := HTO.out.1.sig.each _ (List.getElem_mem hk)
      rw [HSK.out] at hrow
      obtain ⟨b2, off2, hA2, hb2, hc2⟩ := hrow.at_ hjl
      have HHIT := hide (fun h => nextC_hit hjl HNO.out h)
      have HMORE := hide (fun h => take_more hjl HNO.out h)
      have d0 := hc2 0 (by omega)
      have d1 := hc2 1 (by omega)
      generalize hcg : s.chs[j] = cg at *
      obtain ⟨ct, cv⟩ := cg
      simp only [cChg, List.getElem?_cons_zero, List.getElem?_cons_succ, Nat.add_zero] at d0 d1
      have HA2 := hide hA2
      rw [hA2]
      clear hc2 hA2 hrow hcg
      obtain ⟨z0, z1, y0, y1⟩ := box2 (show wr.heap[w.heap.size]? = some (.cells #[.int .i64 0, .string ⟨#[]⟩] 131 (0, 0)) from HGR.out)
      have hltr := box_lt HGR.out
      by_cases htl : t < ct
      · have HV := hide (show nextV t s.chs = .tuple #[.agg #[.int .i64 ct, .string cv], .int .i64 0] by unfold nextV; rw [HHIT.out htl])
        go_wp2_with fail
        generalize hW9 : World.setCell _ _ _ = W9
        obtain ⟨q1, q2⟩ := chO_set HGR.out hW9
        obtain ⟨x0, x1, _, _⟩ := box2 q1
        have hl9 := box_lt q1
        have hto := HTO.out.set (Nat.le_refl _) hlt (q2 _ (Nat.le_refl _))
        exact bodyPost_ret (v := .tuple #[.agg #[.int .i64 ct, .string cv], .int .i64 0]) (by simp [results, Tryz.results408, go_sem, x0, x1, hl9]) rfl ⟨by rw [HV.out], hto.below ((Below.refl _ _).alloc (Nat.le_refl _) _)⟩
      · have HN2 := hide (HMORE.out (by show ct ≤ t; omega))
        go_wp2_with fail
        exact ⟨⟨j + 1, hjl, by go_num, HN2.out, HTO.out.below ((Below.refl _ _).alloc (Nat.le_refl _) _), box_alloc HGR.out⟩, by simp [intOf]; omega⟩
    · have hje : j = s.chs.length := by omega
      have HV := hide (show nextV t s.chs = .tuple #[.agg #[.int .i64 0, .string ⟨#[]⟩], .int .i64 6] by
        have h := HNO.out
        rw [hje, List.take_length] at h
        unfold nextV; rw [nextC_none h])
      obtain ⟨z0, z1, y0, y1⟩ := box2 (show wr.heap[w.heap.size]? = some (.cells #[.int .i64 0, .string ⟨#[]⟩] 131 (0, 0)) from HGR.out)
      clear hje
      go_wp2_with fail
      generalize hW9 : World.setCell _ _ _ = W9
      obtain ⟨q1, q2⟩ := chO_set HGR.out hW9
      obtain ⟨x0, x1, _, _⟩ := box2 q1
      exact bodyPost_ret (v := .tuple #[.agg #[.int .i64 0, .string ⟨#[]⟩], .int .i64 6]) (by simp [results, Tryz.results408, go_sem, x0, x1]) rfl ⟨by rw [HV.out], HTO.out.set (Nat.le_refl _) hlt (q2 _ (Nat.le_refl _))⟩

end Go.Proofs.YtaaplalfggofiaaGreatDoor

/-
  runs.add and end: lists of spans of the call's own.
-/
namespace Go.Proofs.YtaaplalfggofiaaGreatDoor
open Go.RowKit

def encSp (x : Spn) : List Value := [.int .i64 x.f, .int .i64 x.t, .string x.v]
def encSps (l : List Spn) : List Value := l.flatMap encSp
theorem encSps_len (l : List Spn) : (encSps l).length = l.length * 3 := flat_len encSp 3 (fun _ => rfl) l
theorem encSps_app (l m : List Spn) : encSps (l ++ m) = encSps l ++ encSps m := by simp [encSps]
theorem infoSp : (Tryz.prog.info? 70).map (fun i => (i.zero, i.size, i.bytes)) = some (some (.agg #[.int .i64 0, .int .i64 0, .string ByteArray.empty]), 3, 32) := by kernel_rfl
/-- a list of spans that the call itself has made -/
def OwnSp (w : World) (base : Nat) (A : Option Addr) (c : Nat) (l : List Spn) : Prop := w.ownsRow base 70 3 (.slice A l.length c) l.length (encSps l)
theorem OwnSp.nil (w : World) (base : Nat) : OwnSp w base none 0 [] := World.ownsRow_nil w base _ 3
theorem OwnSp.of_row {w : World} {base : Nat} {v : Value} {n : Nat} {vs : List Value} {l : List Spn} (h : w.ownsRow base 70 3 v n vs) (hn : n = l.length) (hv : vs = encSps l) : ∃ A c, v = .slice A l.length c ∧ OwnSp w base A c l := by
  subst hn hv
  rcases Joins.ownsRow_forms h with ⟨rfl, h0⟩ | ⟨g, cap, rfl⟩
  · exact ⟨none, 0, by rw [h0], by unfold OwnSp; rw [h0] at h ⊢; exact h⟩
  · exact ⟨_, cap, rfl, h⟩
theorem OwnSp.place {w : World} {base : Nat} {A : Option Addr} {c : Nat} {l : List Spn} (h : OwnSp w base A c l) (hne : l ≠ []) : ∃ g, A = some ⟨g, 0, none⟩ ∧ base ≤ g ∧ g < w.heap.size := by
  obtain ⟨g, rfl, h1⟩ := own_place h (List.length_pos_iff.2 hne)
  exact ⟨g, rfl, own_ob h g rfl⟩
theorem OwnSp.cell {w : World} {base g c : Nat} {l : List Spn} (h : OwnSp w base (some ⟨g, 0, none⟩) c l) {i : Nat} {x : Spn} (hi : l[i]? = some x) : w.cell? ⟨g, i * 3, none⟩ = some (.int .i64 x.f) ∧ w.cell? ⟨g, i * 3 + 1, none⟩ = some (.int .i64 x.t) ∧ w.cell? ⟨g, i * 3 + 2, none⟩ = some (.string x.v) := by
  have hlt : i < l.length := (List.getElem?_eq_some_iff.1 hi).1
  have e0 := flat_at encSp 3 (fun _ => rfl) hi (j := 0) (by omega)
  have e1 := flat_at encSp 3 (fun _ => rfl) hi (j := 1) (by omega)
  have e2 := flat_at encSp 3 (fun _ => rfl) hi (j := 2) (by omega)
  exact ⟨(World.ownsRow.cellAt h _ (by omega)).trans e0, (World.ownsRow.cellAt h _ (by omega)).trans e1, (World.ownsRow.cellAt h _ (by omega)).trans e2⟩
/-- the end of the last span set -/
theorem OwnSp.setTo {w : World} {base g c : Nat} {l : List Spn} {x : Spn} (h : OwnSp w base (some ⟨g, 0, none⟩) c (l ++ [x])) (t : Int) : OwnSp (w.setCell ⟨g, l.length * 3 + 1, none⟩ (.int .i64 t)) base (some ⟨g, 0, none⟩) c (l ++ [⟨x.f, t, x.v⟩]) := by
  have h1 := World.ownsRow.stored h (l.length * 3 + 1) (.int .i64 t)
  unfold OwnSp
  have e : (encSps (l ++ [x])).set (l.length * 3 + 1) (.int .i64 t) = encSps (l ++ [⟨x.f, t, x.v⟩]) := by
    rw [encSps_app, encSps_app, List.set_append_right _ _ (by rw [encSps_len]; omega), encSps_len]
    have : l.length * 3 + 1 - l.length * 3 = 1 := by omega
    rw [this]
    rfl
  have hl : (l ++ [x]).length = (l ++ [(⟨x.f, t, x.v⟩ : Spn)]).length := by simp
  rw [e, hl] at h1
  exact h1.1

/-- a list of spans up to a time, and a value behind it -/
def addL (l : List Spn) (f : Int) (v : ByteArray) : List Spn := match l.getLast? with
  | none => [⟨f, 0, v⟩]
  | some x => if x.v = v then l else l.dropLast ++ [⟨x.f, wrap64 (f - 1), x.v⟩] ++ [⟨f, 0, v⟩]
theorem addL_wrap (l : List Spn) (x : Spn) (f : Int) (v : ByteArray) : addL (l ++ [x]) f v = if x.v = v then l ++ [x] else l ++ [⟨x.f, wrap64 (f - 1), x.v⟩] ++ [⟨f, 0, v⟩] := by
  unfold addL
  rw [List.getLast?_append]
  simp
theorem addL_snoc (l : List Spn) (x : Spn) (f : Int) (v : ByteArray) (f0 : -1000 ≤ f) (f1 : f ≤ 4398046511104) : addL (l ++ [x]) f v = if x.v = v then l ++ [x] else l ++ [⟨x.f, f - 1, x.v⟩] ++ [⟨f, 0, v⟩] := by
  rw [addL_wrap]
  have : wrap64 (f - 1) = f - 1 := by unfold wrap64; omega
  rw [this]
def AddPost (base : Nat) (A : Option Addr) (m : List Spn) (w : World) (e : Ending) (w' : World) : Prop := ∃ A' c', e = .returned (.slice A' m.length c') ∧ OwnSp w' base A' c' m ∧ But w.heap.size (ob A) w w'
theorem sp_one (x : Spn) : ∀ u ∈ encSp x, u.oneCell' = true := by
  intro u hu
  simp only [encSp, List.mem_cons, List.not_mem_nil, or_false] at hu
  rcases hu with rfl | rfl | rfl <;> rfl
theorem But.set {w : World} {g j n : Nat} {u : Value} : But n (some g) w (w.setCell ⟨g, j, none⟩ u) := but_cell
theorem But.grown {n : Nat} {w w' : World} {x : Option Nat} (h : w.grownBy w' x) (hn : n ≤ w.heap.size) : But n x w w' := ⟨h.os, h.tape, h.output, h.size, fun b hb hx => h.block b (by omega) hx⟩

set_option maxRecDepth 100000 in
set_option maxHeartbeats 1000000 in
theorem add_any (base : Nat) (A : Option Addr) (c : Nat) (l : List Spn) (f : Int) (v : ByteArray) (w : World) (ho : OwnSp w base A c l) (hb : base ≤ w.heap.size) (hl : l.length ≤ 5000) :
    Calls Tryz.prog 192 #[.slice A l.length c, .int .i64 f, .string v] w (AddPost base A (addL l f v) w) := by
  obtain ⟨i0, hi0, hz0, hz1, hz2⟩ := info_parts infoSp
  rcases List.eq_nil_or_concat l with rfl | ⟨l, x, rfl⟩
  · have HA := hide (show addL [] f v = [⟨f, 0, v⟩] from rfl)
    have HO := hide (World.ownsRow.alloc ho (.cells #[.int .i64 f, .int .i64 0, .string v] 70))
    have HB := hide (heap_alloc_new w (.cells #[.int .i64 f, .int .i64 0, .string v] 70))
    clear ho hl
    go_enter Tryz.func192, Tryz.ntmps192
    go_wp2_with (at_builtin; (refine append_src rfl _ _ 65 rfl base 70 i0 _ 3 32 Tryz.underlying65 hi0 hz0 hz1 hz2 rfl (by decide) (.slice A 0 c) 0 [] rfl HO.out (some ⟨w.heap.size, 0, none⟩) 1 1 (encSp ⟨f, 0, v⟩) rfl rfl (src_block (t := 70) (fr := (0, 0)) HB.out) (sp_one _) (by simp only [maxLen]; omega) (by omega) (by simp; omega) ?_); intro v' w3 hown3 hg3)
    obtain ⟨A3, c3, rfl, ho3⟩ := OwnSp.of_row (l := [⟨f, 0, v⟩]) hown3 rfl rfl
    go_ret
    refine ⟨A3, c3, by rw [HA.out]; rfl, by rw [HA.out]; exact ho3, ?_⟩
    have h1 := But.grown hg3 (n := w.heap.size) (by simp)
    rw [ob_eq] at h1
    exact (But.of ((Below.refl _ _).alloc (Nat.le_refl _) _)).trans h1
  · rw [List.concat_eq_append] at *
    obtain ⟨g, rfl, hg1, hg2⟩ := ho.place (by simp)
    have hlen : (l ++ [x]).length = l.length + 1 := by simp
    rw [hlen] at hl
    obtain ⟨c0, c1, c2⟩ := ho.cell (i := l.length) (x := x) (by simp)
    have fz := World.ownsRow.frozenAt ho (l.length * 3 + 1)
    have HAD := hide (addL_wrap l x f v)
    have HO := hide ho
    clear ho
    rw [hlen]
    have hi : ((l.length + 1 : Nat) : Int) - 1 = (l.length : Int) := by omega
    by_cases hv : x.v = v
    · have HA := hide (show addL (l ++ [x]) f v = l ++ [x] by rw [HAD.out, if_pos hv])
      have tv : (x.v.toList == v.toList) = true := by rw [hv]; simp
      clear hv
      go_enter Tryz.func192, Tryz.ntmps192
      go_wp2_with fail
      go_ret
      exact ⟨_, c, by rw [HA.out, hlen]; rfl, by rw [HA.out]; exact HO.out, But.refl _ _ _⟩
    · have HA := hide (show addL (l ++ [x]) f v = l ++ [⟨x.f, wrap64 (f - 1), x.v⟩] ++ [⟨f, 0, v⟩] by rw [HAD.out, if_neg hv])
      have tv : (x.v.toList == v.toList) = false := beq_eq_false_iff_ne.2 (fun e => hv (by rw [ByteArray.toList_eq, ByteArray.toList_eq] at e; exact ByteArray.ext (Array.toList_inj.1 e)))
      clear hv
      go_enter Tryz.func192, Tryz.ntmps192
      go_upto_region 6 with (fail)
      generalize hW1 : World.setCell _ _ _ = W1
      have ho1 : OwnSp W1 base (some ⟨g, 0, none⟩) c (l ++ [⟨x.f, wrap64 (f - 1), x.v⟩]) := by rw [← hW1]; exact HO.out.setTo (wrap64 (f - 1))
      have hb1 : But w.heap.size (some g) w W1 := by rw [← hW1]; exact but_cell
      have hz1' : w.heap.size ≤ W1.heap.size := by rw [← hW1]; simp [World.setCell]
      have HO1 := hide (World.ownsRow.alloc ho1 (.cells #[.int .i64 f, .int .i64 0, .string v] 70))
      have HB1 := hide (heap_alloc_new W1 (.cells #[.int .i64 f, .int .i64 0, .string v] 70))
      have HBU := hide hb1
      have hl1 : (l ++ [(⟨x.f, wrap64 (f - 1), x.v⟩ : Spn)]).length = l.length + 1 := by simp
      have hn1 : (l ++ [(⟨x.f, wrap64 (f - 1), x.v⟩ : Spn)] ++ [(⟨f, 0, v⟩ : Spn)]).length = l.length + 1 + 1 := by simp
      rw [hl1] at HO1
      clear hW1 ho1 hb1 c0 c1 c2 fz
      go_wp2_with (at_builtin; (refine append_src rfl _ _ 65 rfl base 70 i0 _ 3 32 Tryz.underlying65 hi0 hz0 hz1 hz2 rfl (by decide) (.slice (some ⟨g, 0, none⟩) (l.length + 1) c) (l.length + 1) (encSps (l ++ [⟨x.f, wrap64 (f - 1), x.v⟩])) rfl HO1.out (some ⟨W1.heap.size, 0, none⟩) 1 1 (encSp ⟨f, 0, v⟩) rfl rfl (src_block (t := 70) (fr := (0, 0)) HB1.out) (sp_one _) (by simp only [maxLen]; omega) (by omega) (by simp; omega) ?_); intro v' w3 hown3 hg3)
      obtain ⟨A3, c3, rfl, ho3⟩ := OwnSp.of_row (l := l ++ [⟨x.f, wrap64 (f - 1), x.v⟩] ++ [⟨f, 0, v⟩]) hown3 hn1.symm (by rw [encSps_app (l ++ [_]) [_]]; rfl)
      go_ret
      refine ⟨A3, c3, by rw [HA.out]; rfl, by rw [HA.out]; exact ho3, ?_⟩
      have h1 := But.grown hg3 (n := w.heap.size) (by simp; omega)
      exact HBU.out.trans ((But.of ((Below.refl _ _).alloc (by omega) _)).trans h1)

set_option maxRecDepth 100000 in
theorem end_sp (base g c : Nat) (l : List Spn) (x : Spn) (t : Int) (w : World) (ho : OwnSp w base (some ⟨g, 0, none⟩) c (l ++ [x])) (hl : l.length ≤ 5000) :
    Calls Tryz.prog 194 #[.slice (some ⟨g, 0, none⟩) (l.length + 1) c, .int .i64 t] w fun e w' => e = .returned (.slice (some ⟨g, 0, none⟩) (l.length + 1) c) ∧ OwnSp w' base (some ⟨g, 0, none⟩) c (l ++ [⟨x.f, t, x.v⟩]) ∧ But w.heap.size (some g) w w' := by
  obtain ⟨c0, c1, c2⟩ := ho.cell (i := l.length) (x := x) (by simp)
  have fz := World.ownsRow.frozenAt ho (l.length * 3 + 1)
  have hi : ((l.length + 1 : Nat) : Int) - 1 = (l.length : Int) := by omega
  have HO := hide (ho.setTo t)
  clear ho
  go_enter Tryz.func194, Tryz.ntmps194
  go_wp2_with fail
  go_ret
  exact ⟨rfl, HO.out, but_cell⟩

end Go.Proofs.YtaaplalfggofiaaGreatDoor

/-
  The methods of the source, as an interface finds them.
-/
namespace Go.Proofs.YtaaplalfggofiaaGreatDoor
open Go.RowKit

theorem meth_next (p : Option Addr) (F : Nat) (w : World) : (method (F + 1) 38 (.pointer p) "Next").run Tryz.prog w = .ok (408, .pointer p) w := by kernel_rfl
theorem meth_kind (p : Option Addr) (F : Nat) (w : World) : (method (F + 1) 38 (.pointer p) "Kind").run Tryz.prog w = .ok (407, .pointer p) w := by kernel_rfl
theorem meth_value (p : Option Addr) (F : Nat) (w : World) : (method (F + 1) 38 (.pointer p) "Value").run Tryz.prog w = .ok (409, .pointer p) w := by kernel_rfl
theorem meth_end (p : Option Addr) (F : Nat) (w : World) : (method (F + 1) 38 (.pointer p) "End").run Tryz.prog w = .ok (405, .pointer p) w := by kernel_rfl

end Go.Proofs.YtaaplalfggofiaaGreatDoor
